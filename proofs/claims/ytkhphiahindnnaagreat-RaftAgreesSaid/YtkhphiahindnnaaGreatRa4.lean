/- Parts of the proof, joined: the symbolic walk and what it is told of each function. Condition: as each theorem says. -/
import Derived.Test.YtkhphiahindnnaaGreatRows
import Derived.WalkKit
import Derived.ProofKit
import Derived.OpenShut
import Derived.Lib.Hide
import Derived.Deep.QuietTactic
import Derived.BigQuiet
import Derived.Laws.CopyOwn
import Derived.WalkSpells
import Derived.Lib.SliceRun
import Derived.Shelf.Abstract
import Derived.Lib.AppendZeros
import Derived.Shelf.Sort.Plain
import Derived.Shelf.Slices.CompactI
import Derived.Shelf.Slices.In.SortNone
import Derived.Ground.SlsfProg
import Derived.Shelf.SlSortCmp.Whole1
import Derived.Shelf.SlSortCmp.NoneTotal
import Derived.Test.YtkhphiahindnnaaGreatProg
import Derived.Sort.OwnSortedInts
import Derived.Lib.OwnBridge
import Derived.Laws.EntriesVeiled
import Derived.Test.YtkhphiahindnnaaGreatRa3
set_option linter.unusedVariables false
set_option linter.unusedSimpArgs false
set_option linter.unusedSectionVars false
namespace Go.Proofs.YtkhphiahindnnaaGreat
open Go.RowKit Go.ChangeShapes Go.WideShapes Go.Deep
set_option maxRecDepth 100000
noncomputable def zbr (k:Kept) (x:Entry):Bool:=decide (k.snap.index<x.index)&&(!((zaQ k x.index).2==0)||!((zaQ k x.index).1==x.term))
noncomputable def zas (k:Kept):List Entry->Int
 | []=> -1
 | x::l=>if zbr k x then 0 else (if zas k l = -1 then -1 else zas k l+1)
def dRpKept:Dec Kept where
 dec:=fun s=>match s with | .rp _ 45 cs 0=>(match Kept.of cs with | some (x,_)=>some x | none=>none) | _=>none
 can:=fun x=> .rp [0] 45 (x.svs [0]) 0
 Okp:=fun x=>x.Ok
 okp:=fun x E w v ⟨_,_,_,_,_,hl⟩=>Kept.ok_of (Kept.svs_rd hl)
 ok:=by
  intro s x h E w v hz hd
  split at h
  case h_2=>simp at h
  split at h
  case h_2=>simp at h
  rename_i ls cs _ y m e
  simp only [Option.some.injEq] at h
  subst h
  obtain ⟨b,xs,hv,hb,hh,hl⟩:=hd
  exact ⟨b,xs,hv,hz.set hb,hh,Kept.svs_of (RdL.mono (fun b _ hb=>hz.set hb) (Kept.svs_rd (Kept.of_ok e hl)))⟩
def dClo:Dec Kept where
 dec:=fun s=>match s with | .clo 93 [t]=>dRpKept.dec t | _=>none
 can:=fun x=> .clo 93 [dRpKept.can x]
 Okp:=fun x=>x.Ok
 okp:=fun x E w v h=>by
  obtain ⟨xs,_,h⟩:=h
  match xs,h with
  | [u],h=>exact dRpKept.okp x E w u h.1
 ok:=by
  intro s x h E w v hz hd
  split at h
  case h_2=>simp at h
  obtain ⟨xs,hv,hd⟩:=hd
  match xs,hd with
  | [u],hd=>exact ⟨[u],hv,dRpKept.ok _ _ h E w u hz hd.1,trivial⟩
theorem zro (k:Kept) (x:Entry):FnC Tryz.prog 93 [.agg (x.svs [0]),.rp [0] 45 (k.svs [0]) 0] (.bool (zbr k x)) D2:=by
 refine FnG.of_vc (zak zd1 fun _=>none) Tryz.func93 rfl (by decide) rfl 300 (p:=fun (V:List PE->Prop)=>let v2:=zaQ k x.index;let v3:=decide (x.index>k.snap.index);let v4:=Prod.snd v2 != 0;True/\True/\((v3=true->v3=true)/\(v3=true->v3=true)/\((v3&&!v4)=true->(v3&&!v4)=true)/\((v3&&!v4)=true->(v3&&!v4)=true)/\((v3&&!v4)=true->(v3&&!v4)=true)/\(v3=true->v3=true)/\(v3=true->v4=false->(v3&&!v4)=true)/\(v3=true->v3=true)/\True)/\zac v3 (zac v4 true (Prod.fst v2 != x.term)) false=zbr k x/\True) (by kernel_rfl) ?_
 simp only [imp_self,implies_true,true_and,and_true,zah,zai]
 refine ⟨fun h1 h2=>?_,?_⟩
 ·rw [h1];simpa using h2
 ·simp only [zbr,GT.gt]
  rcases Bool.eq_false_or_eq_true (decide (k.snap.index<x.index)) with h | h<;>rw [h]<;>simp [bne]
noncomputable def eClos:Ent:=ent2 93 dEntry dRpKept fun x k=>([],.bool (zbr k x),D2)
theorem zmP:zaf Tryz.prog eClos:=za3 (zro default default).1 fun x k _=>zro k x
theorem zd9 (c:Config) (hc:c.voters.length<=1000000/\c.learners.length<=1000000):FnC Tryz.prog 80 [.agg (c.svs [0])] (.agg (c.svs [1])) D2:=by
 refine FnG.of_vc (zak zd1 fun _=>none) Tryz.func80 rfl (by decide) rfl 300 (p:=fun (V:List PE->Prop)=>let v0:=c.voters;let v1:=c.learners;let v2:=v1.length;let v3:=v0.length;let v4:=(0:Int);let v5:=(274877906944:Int);let v6:=(↑v3:Int);let v7:=(↑v2:Int);let v8:=List.replicate v3 v4;let v9:=List.replicate v2 v4;let v10:=List.take v9.length v1++List.drop v2 v9;let v11:=List.take v8.length v0++List.drop v3 v8;True/\(v6=v6/\v4<=v6/\v6<=v5/\v7=v7/\v4<=v7/\v7<=v5/\True)/\(v3<=17592186044416/\True)/\(v2<=17592186044416/\True)/\True/\v11=v0/\v11.length<=17592186044416/\v10=v1/\v10.length<=17592186044416/\True) (by kernel_rfl) ?_
 simp only [RL.len,true_and,and_true,List.length_replicate,Int.toNat_natCast,List.take_length,List.drop_replicate,Nat.sub_self,List.replicate_zero,List.append_nil]
 omega
def eOwnC:Ent:=ent1 80 dConfig fun c=>([c.voters.length<=1000000,c.learners.length<=1000000],.agg (c.svs [1]),D2)
theorem ztv:zaf Tryz.prog eOwnC:=za4 (zd9 default (by decide)).1 fun c h=>zd9 c ⟨h _ (by simp),h _ (by simp)⟩
theorem zpi (x:Entry) (hc:x.config.voters.length<=1000000/\x.config.learners.length<=1000000):FnC Tryz.prog 94 [.agg (x.svs [0])] (.agg (x.svs [1])) D2:=by
 refine FnG.of_vc (zak (zaa ztv zd1) fun _=>none) Tryz.func94 rfl (by decide) rfl 300 (p:=fun (V:List PE->Prop)=>let v0:=x.config.learners;let v1:=x.config.voters;True/\(v1.length<=1000000/\v0.length<=1000000/\True)/\True/\x.index=x.index/\x.term=x.term/\x.kind=x.kind/\v1=v1/\v0=v0/\x.data=x.data/\True) (by kernel_rfl) ?_
 simp only [true_and,and_true]
 exact hc
theorem zhF {k:Kept}:∀ {l:List Entry} {j:Nat},j<l.length->(∀ i,i<j->zbr k (l.getD i default)=false)->zbr k (l.getD j default)=true->zas k l=j
 | x::l,0,_,_,h=>by simp only [List.getD_cons_zero] at h;simp [zas,h]
 | x::l,j+1,hj,h0,h=>by
  have hx:=h0 0 (by omega)
  simp only [List.getD_cons_zero] at hx
  have:=zhF (l:=l) (j:=j) (by simpa using hj) (fun i hi=>by simpa using h0 (i+1) (by omega)) (by simpa using h)
  simp only [zas,hx,this]
  split
  ·simp at *
  ·split<;>omega
theorem zgF {k:Kept}:∀ {l:List Entry},(∀ i,i<l.length->zbr k (l.getD i default)=false)->zas k l = -1
 | [],_=>rfl
 | x::l,h=>by
  have hx:=h 0 (by simp)
  simp only [List.getD_cons_zero] at hx
  have:=zgF (l:=l) (fun i hi=>by simpa using h (i+1) (by simpa using hi))
  simp [zas,hx,this]
theorem zkd (k:Kept) (l:List Entry):FnC Tryz.prog 92 [dEntrys.can l,dClo.can k] (.int .i64 (zas k l)) D2:=by
 refine FnC.g2 dEntrys dClo l k (fnB Tryz.func92 (by decide) rfl) fun hl _=>?_
 refine FnG.of_vc (zak (zaa zmP zd1) fun _=>none) Tryz.func92 rfl (by decide) rfl 300 (p:=fun (V:List PE->Prop)=>True/\True/\V []) (by kernel_rfl) ?_
 simp only [true_and,and_true]
 refine LoopG.head (zak (zaa zmP zd1) fun _=>none) 0 (A:=Nat) (fun j=>j<=l.length/\∀ i,i<j->zbr k (l.getD i default)=false) (fun j=>[(8,.int .i64 j)]) (fun _=>[]) (fun j=>l.length-j) 0 ⟨Nat.zero_le _,fun i h=>absurd h (by omega)⟩ (p0:=let v0:=k.snap;let v1:=v0.config;let v7:=(↑(l.length):Int);(0:Int)=(↑(0:Nat):Int)/\v7=v7/\l=l/\k.term=k.term/\k.vote=k.vote/\v0.index=v0.index/\v0.term=v0.term/\v1.voters=v1.voters/\v1.learners=v1.learners/\v0.data=v0.data/\k.entries=k.entries/\True) (by kernel_rfl) ?_ 300 (p:=fun (x:Nat) (V:List PE->Prop)=>let v0:=(↑x:Int);let v1:=(↑(l.length):Int);let v2:=zbr k (List.getD l x default);let v3:=decide (v0<v1);True/\True/\(v3=true->True/\((0:Int)<=v0/\v0<v1/\True)/\True/\(v2=true->True/\v0=zas k l/\True)/\(v2=false->True/\V [PE.a,PE.b]))/\(v3=false->True/\(-1:Int)=zas k l/\True)) (by intro x;kernel_rfl) ?_
 ·simp
 ·rintro j ⟨hj,h0⟩
  have hl44:=hl.1
  simp only [true_and,and_true,decide_eq_true_eq,decide_eq_false_iff_not]
  refine ⟨fun h1=>⟨by omega,fun h2=>?_,fun h2=>?_⟩,fun h1=>?_⟩
  ·exact (zhF (by omega) h0 h2).symm
  ·refine Back.mk (j+1) ⟨by omega,fun i hi=>?_⟩ (by omega) (p0:=let v0:=k.snap;let v1:=v0.config;let v7:=(↑(l.length):Int);IntKind.wrap IntKind.i64 ((↑j:Int)+(1:Int))=(↑(j+(1:Nat)):Int)/\v7=v7/\l=l/\k.term=k.term/\k.vote=k.vote/\v0.index=v0.index/\v0.term=v0.term/\v1.voters=v1.voters/\v1.learners=v1.learners/\v0.data=v0.data/\k.entries=k.entries/\True) (by kernel_rfl) ?_
   ·by_cases h:i=j
    ·subst h;exact h2
    ·exact h0 i (by omega)
   ·simp [zbN (i:=j) (by omega)]
  ·exact (zgF fun i hi=>h0 i (by omega)).symm
def zs:ByteArray:=⟨#[]⟩
def zgQ (i:Int):Record:=⟨3,0,0,⟨0,0,0,⟨[],[]⟩,zs⟩,i,⟨0,0,⟨[],[]⟩,zs⟩⟩
def entR (e:Entry):Record:=⟨2,0,0,e,0,⟨0,0,⟨[],[]⟩,zs⟩⟩
def okx (index:Int) (x:Entry) (i:Nat):Bool:=!(decide (x.index<=index)||IntKind.i64.wrap (IntKind.i64.wrap (x.index-1)-i) != index)
def numT (index:Int) (l:List Entry):Nat->Bool
 | 0=>true
 | j+1=>numT index l j&&okx index (l.getD j default) j
def numF (index:Int) (l:List Entry):Bool:=numT index l l.length
noncomputable def badB (k:Kept) (index term:Int):Bool:=decide ((zb9 k).1<index)||(decide (k.snap.index<=index)&&(zaQ k index).1 != term)
noncomputable def zbf (k:Kept) (index term:Int) (l:List Entry):Int:=if onB k&&numF index l then (if badB k index term then 150 else 0) else 1
noncomputable def zcm (k:Kept) (index term:Int) (l:List Entry):Int:=if zbf k index term l=0 then (if k.snap.index>IntKind.i64.wrap (index+l.length) then k.snap.index else IntKind.i64.wrap (index+l.length)) else 0
noncomputable def zaI (k:Kept) (l:List Entry):List Record:=
 if zas k l = -1 then [] else (if (l.getD (zas k l).toNat default).index<=(zb9 k).1 then [zgQ (l.getD (zas k l).toNat default).index] else [])++(l.drop (zas k l).toNat).map entR
noncomputable def zbc (k:Kept) (index term:Int) (l:List Entry):List Record:=if zbf k index term l=0 then zaI k l else []
def zen (e:Entry):Prop:=e.config.voters.length<=1000000/\e.config.learners.length<=1000000
def zcG (l:List Entry):Prop:=l.length<=1000000/\∀ x,x∈l->zen x
noncomputable def zqQ:Ent:=ent2 92 dEntrys dClo fun l k=>([],.int .i64 (zas k l),D2)
theorem zob:zaf Tryz.prog zqQ:=za3 (zkd default default).1 fun l k _=>zkd k l
def zvU:Ent:=ent1 94 dEntry fun x=>([x.config.voters.length<=1000000,x.config.learners.length<=1000000],.agg (x.svs [1]),D2)
theorem zmJ:zaf Tryz.prog zvU:=za4 (zpi default (by decide)).1 fun x h=>zpi x ⟨h _ (by simp),h _ (by simp)⟩
noncomputable def tabC:List Ent:=zvU::zqQ::tabA
theorem zim:∀ e∈tabC,zaf Tryz.prog e:=zaa zmJ (zaa zob zd1)
theorem zaG (k:Kept):∀ (l:List Entry),zas k l = -1\/∃ f:Nat,f<l.length/\zas k l=(f:Int)
 | []=> .inl rfl
 | x::l=>by
  rcases zaG k l with h | ⟨f,h1,h2⟩
  ·cases hx:zbr k x
   ·exact .inl (by rw [zas,hx,h];simp)
   ·exact .inr ⟨0,by simp,by rw [zas,hx];simp⟩
  ·cases hx:zbr k x
   ·exact .inr ⟨f+1,by simp;omega,by rw [zas,hx,h2];simp<;>omega⟩
   ·exact .inr ⟨0,by simp,by rw [zas,hx];simp⟩
theorem zsL (k:Kept) (index term:Int) (l:List Entry) (hs:zcG l):FnC Tryz.prog 70 [dKept.can k,dInt.can index,dInt.can term,dEntrys.can l] (.tup [.own 2,.int .i64 (zcm k index term l),.int .i64 (zbf k index term l)]) [.dead,.dead,.row 107 [1] (.rRecord (zbc k index term l))]:=by
 refine FnC.g4 dKept dInt dInt dEntrys k index term l (fnB Tryz.func70 (by decide) rfl) fun hk hi ht hl=>?_
 refine FnG.of_vc (zak zim fun _=>none) Tryz.func70 rfl (by decide) rfl 300 (p:=fun (V:List PE->Prop)=>True/\True/\True/\V []) (by kernel_rfl) ?_
 simp only [true_and,and_true]
 refine LoopG.head (zak zim fun _=>none) 0 (A:=Nat) (fun j=>j<=l.length) (fun j=>[(27,.int .i64 j),(11,.int .i64 (err (onB k&&numT index l j)))]) (fun _=>[]) (fun j=>l.length-j) 0 (Nat.zero_le _) (p0:=let v0:=k.snap;let v4:=v0.config;let v7:=(↑(l.length):Int);(0:Int)=(↑(0:Nat):Int)/\err (onB k)=err (onB k&&numT index l (0:Nat))/\v7=v7/\l=l/\(0:Int)=0/\(0:Int)=0/\index=index/\term=term/\l=l/\k.term=k.term/\k.vote=k.vote/\v0.index=v0.index/\v0.term=v0.term/\v4.voters=v4.voters/\v4.learners=v4.learners/\v0.data=v0.data/\k.entries=k.entries/\True) (by kernel_rfl) ?_ 300 (p:=fun (x:Nat) (V:List PE->Prop)=>let v0:=k.snap.index;let v1:=zas k l;let v2:=(↑x:Int);let v3:=Prod.fst (zb9 k);let v4:=(0:Int);let v5:=zbf k index term l;let v6:=zcm k index term l;let v7:=(↑(l.length):Int);let v8:=err (onB k&&numT index l x);let v10:=Entry.index (List.getD l (Int.toNat v1) default);let v11:=decide (index>=v0);let v12:=IntKind.wrap IntKind.i64 (index+v7);let v13:=decide (index>v3);let v15:=!v13;let v16:=decide (v1<v4);let v17:=decide ((Entry.index (List.getD l x default))<=index);let v18:=decide (v2<v7);let v19:=decide (v10<=v3);let v20:=zac v13 true (zac v11 (Prod.fst (zaQ k index) != term) false);True/\True/\(v18=true->(v4<=v2/\v2<v7/\True)/\(((!v17)=true->(!v17)=true)/\((!v17)=true->(!v17)=true)/\((!v17)=true->(!v17)=true)/\((!v17)=true->(!v17)=true)/\((!v17)=true->(!v17)=true)/\((!v17)=true->(!v17)=true)/\(v17=false->(!v17)=true)/\True)/\True/\True/\V [PE.a])/\(v18=false->True/\True/\((v8 != v4)=true->True/\v4=v6/\v8=v5/\zbc k index term l=[]/\True)/\((v8 != v4)=false->True/\True/\((v15=true->v15=true)/\(v15=true->v15=true)/\(v15=true->v15=true)/\(v15=true->v15=true)/\(v15=true->v15=true)/\((v15&&v11)=true->(v15&&v11)=true)/\((v15&&v11)=true->(v15&&v11)=true)/\(v15=true->v15=true)/\(v15=true->v11=true->(v15&&v11)=true)/\(v13=false->v15=true)/\True)/\True/\(v20=true->True/\v4=v6/\(150:Int)=v5/\zbc k index term l=[]/\True)/\(v20=false->True/\True/\True/\True/\(v16=true->True/\(if v0>v12 then v0 else v12)=v6/\v4=v5/\zbc k index term l=[]/\True)/\(v16=false->True/\(v4<=v1/\v1<v7/\True)/\True/\(v19=true->(v4<=v1/\v1<v7/\((0:Nat)+List.length [Record.mk (3:Int) v4 v4 (Entry.mk v4 v4 v4 (Config.mk [] []) (ByteArray.mk #[])) v10 (Snap.mk v4 v4 (Config.mk [] []) (ByteArray.mk #[]))])*(1024:Nat)<=140737488355328/\True)/\(v4<=v1/\v1<=v7/\v7<=v7/\True)/\V [PE.b,PE.b,PE.b,PE.b,PE.a])/\(v19=false->(v4<=v1/\v1<=v7/\v7<=v7/\True)/\V [PE.b,PE.b,PE.b,PE.b,PE.b])))))) (by intro x;kernel_rfl) ?_
 ·simp [numT]
 ·rintro j hj
  have hl44:=hl.1
  simp only [imp_self,implies_true,true_and,and_true,decide_eq_true_eq,decide_eq_false_iff_not]
  refine ⟨fun h1=>⟨by omega,by simp,?_⟩,fun h1=>?_⟩
  ·refine Back.mk (j+1) (by omega) (by omega) (p0:=let v0:=k.snap;let v3:=v0.config;let v7:=(↑(l.length):Int);let v8:=Entry.index (List.getD l j default);IntKind.wrap IntKind.i64 ((↑j:Int)+(1:Int))=(↑(j+(1:Nat)):Int)/\zat (zac (decide (v8<=index)) true (IntKind.wrap IntKind.i64 (IntKind.wrap IntKind.i64 (v8-(1:Int))-(↑j:Int)) != index)) (1:Int) (err (onB k&&numT index l j))=err (onB k&&numT index l (j+(1:Nat)))/\v7=v7/\l=l/\(0:Int)=0/\(0:Int)=0/\index=index/\term=term/\l=l/\k.term=k.term/\k.vote=k.vote/\v0.index=v0.index/\v0.term=v0.term/\v3.voters=v3.voters/\v3.learners=v3.learners/\v0.data=v0.data/\k.entries=k.entries/\True) (by kernel_rfl) ?_
   simp only [true_and,and_true,zbN (i:=j) (by omega)]
   refine ⟨by omega,?_⟩
   simp only [numT,okx]
   rcases Bool.eq_false_or_eq_true (decide ((l.getD j default).index<=index)) with h | h<;>rw [h]<;>cases onB k<;>cases numT index l j<;>simp [zac,zat,err]<;>split<;>simp_all
  ·obtain rfl:j=l.length:=by omega
   have hon:(err (onB k&&numT index l (List.length l)) != (0:Int))=false->(onB k&&numF index l)=true:=by
    intro h;cases h2:(onB k&&numT index l l.length)
    ·rw [h2] at h;simp [err] at h
    ·exact h2
   have hbad:badB k index term=zac (decide (index>Prod.fst (zb9 k))) true (zac (decide (index>=Snap.index (Kept.snap k))) (Prod.fst (zaQ k index) != term) false):=by
    unfold badB zac
    by_cases g1:index>(zb9 k).1<;>by_cases g2:index>=k.snap.index<;>simp [g1,g2,GT.gt,GE.ge]<;>omega
   have key:zas k l<0\/(0<=zas k l/\(zas k l).toNat<l.length):=by
    rcases zaG k l with h | ⟨f,h2,h3⟩
    ·left;omega
    ·right;omega
   refine ⟨fun h2=>?_,fun h2=>⟨by simp;omega,fun h3=>?_,fun h3=>⟨fun h4=>?_,fun h4=>⟨by omega,fun h5=>⟨⟨by omega,by omega,by simp⟩,by omega,?_⟩,fun h5=>⟨by omega,?_⟩⟩⟩⟩⟩
   ·have hb:(onB k&&numF index l)=false:=by
     cases h:(onB k&&numT index l l.length)
     ·exact h
     ·rw [h] at h2;simp [err] at h2
    have hm:zbf k index term l=1:=by unfold zbf;rw [hb];rfl
    refine ⟨by unfold zcm;rw [hm];rfl,?_,by unfold zbc;rw [hm];rfl⟩
    rw [hm];show err (onB k&&numF index l)=1;rw [hb];rfl
   ·have hm:zbf k index term l=150:=by unfold zbf;rw [hon h2,if_pos rfl,hbad,h3];rfl
    exact ⟨by unfold zcm;rw [hm];rfl,hm.symm,by unfold zbc;rw [hm];rfl⟩
   ·have hm:zbf k index term l=0:=by unfold zbf;rw [hon h2,if_pos rfl,hbad,h3];rfl
    refine ⟨by unfold zcm;rw [if_pos hm],hm.symm,?_⟩
    unfold zbc zaI
    rw [if_pos hm,if_pos (by have:=zaG k l;omega)]
   ·have hm:zbf k index term l=0:=by unfold zbf;rw [hon h2,if_pos rfl,hbad,h3];rfl
    refine LoopG.head (zak zim fun _=>none) 1 (A:=Nat) (fun j=>j<=(l.drop (zas k l).toNat).length) (fun j=>[(109,.int .i64 j),(20,.own 168),(104,.any)]) (fun j=>[(168,.row 107 [16] (.rRecord ([zgQ (l.getD (zas k l).toNat default).index]++((l.drop (zas k l).toNat).take j).map entR))),(16,.dead)]) (fun j=>(l.drop (zas k l).toNat).length-j) 0 (Nat.zero_le _) (p0:=let v0:=k.snap.index;let v1:=Int.toNat (zas k l);let v2:=(0:Int);let v3:=Entry.index (List.getD l v1 default);let v4:=List.drop v1 (List.take l.length l);let v5:=IntKind.wrap IntKind.i64 (index+(↑(l.length):Int));let v6:=(↑(v4.length):Int);let v7:=if v0>v5 then v0 else v5;v2=(↑(0:Nat):Int)/\v6=v6/\v4=v4/\v7=v7/\v2=v2/\v2=v2/\[Record.mk (3:Int) v2 v2 (Entry.mk v2 v2 v2 (Config.mk [] []) (ByteArray.mk #[])) v3 (Snap.mk v2 v2 (Config.mk [] []) (ByteArray.mk #[]))]=[zgQ v3]++List.map entR (List.take (0:Nat) (List.drop v1 l))/\True) (by kernel_rfl) ?_ 300 (p:=fun (x:Nat) (V:List PE->Prop)=>let v0:=k.snap.index;let v1:=Int.toNat (zas k l);let v2:=(↑x:Int);let v3:=(0:Int);let v4:=List.drop v1 (List.take l.length l);let v5:=IntKind.wrap IntKind.i64 (index+(↑(l.length):Int));let v6:=(↑(v4.length):Int);let v7:=List.getD v4 x default;let v9:=[zgQ (Entry.index (List.getD l v1 default))]++List.map entR (List.take x (List.drop v1 l));let v10:=decide (v2<v6);True/\True/\(v10=true->(v3<=v2/\v2<v6/\True)/\(v7.config.voters.length<=1000000/\v7.config.learners.length<=1000000/\(v9.length+List.length [Record.mk (2:Int) v3 v3 v7 v3 (Snap.mk v3 v3 (Config.mk [] []) (ByteArray.mk #[]))])*(1024:Nat)<=140737488355328/\True)/\True/\V [PE.a])/\(v10=false->True/\(if v0>v5 then v0 else v5)=zcm k index term l/\v3=zbf k index term l/\v9=zbc k index term l/\True)) (by intro x;kernel_rfl) ?_
    ·simp [zgQ,zs]
    ·rintro j hj
     simp only [imp_self,implies_true,true_and,and_true,decide_eq_true_eq,decide_eq_false_iff_not,List.take_length]
     have hml:(l.drop (zas k l).toNat).length<=1000000:=by have:=hs.1;simp only [List.length_drop];omega
     refine ⟨fun h6=>?_,fun h6=>?_⟩
     ·have hse:zen ((l.drop (zas k l).toNat).getD j default):=hs.2 _ (List.mem_of_mem_drop (zb1 (by omega)))
      refine ⟨by omega,⟨hse.1,hse.2,by simp only [List.length_append,List.length_map,List.length_take,List.length_cons,List.length_nil];omega⟩,?_⟩
      refine Back.mk (j+1) (by omega) (by omega) (p0:=let v0:=k.snap.index;let v1:=Int.toNat (zas k l);let v2:=(0:Int);let v3:=List.drop v1 l;let v4:=List.drop v1 (List.take l.length l);let v5:=[zgQ (Entry.index (List.getD l v1 default))];let v6:=IntKind.wrap IntKind.i64 (index+(↑(l.length):Int));let v7:=(↑(v4.length):Int);let v8:=if v0>v6 then v0 else v6;IntKind.wrap IntKind.i64 ((↑j:Int)+(1:Int))=(↑(j+(1:Nat)):Int)/\v7=v7/\v4=v4/\v8=v8/\v2=v2/\v2=v2/\v5++List.map entR (List.take j v3)++[Record.mk (2:Int) v2 v2 (List.getD v4 j default) v2 (Snap.mk v2 v2 (Config.mk [] []) (ByteArray.mk #[]))]=v5++List.map entR (List.take (j+(1:Nat)) v3)/\True) (by kernel_rfl) ?_
      simp only [true_and,and_true,zbN (i:=j) (by omega)]
      refine ⟨by omega,?_⟩
      rw [zaL (d:=default) (by omega),List.map_append]
      simp [entR,zs]
     ·obtain rfl:j=(l.drop (zas k l).toNat).length:=by omega
      refine ⟨by unfold zcm;rw [if_pos hm],hm.symm,?_⟩
      unfold zbc zaI
      rw [if_pos hm,if_neg (by omega),if_pos h5,List.take_length]
   ·have hm:zbf k index term l=0:=by unfold zbf;rw [hon h2,if_pos rfl,hbad,h3];rfl
    refine LoopG.head (zak zim fun _=>none) 1 (A:=Nat) (fun j=>j<=(l.drop (zas k l).toNat).length) (fun j=>[(109,.int .i64 j),(20,.own 15)]) (fun j=>[(15,.row 107 [16] (.rRecord ([]++((l.drop (zas k l).toNat).take j).map entR))),(16,.dead)]) (fun j=>(l.drop (zas k l).toNat).length-j) 0 (Nat.zero_le _) (p0:=let v0:=k.snap.index;let v1:=Int.toNat (zas k l);let v2:=List.drop v1 (List.take l.length l);let v3:=IntKind.wrap IntKind.i64 (index+(↑(l.length):Int));let v4:=(↑(v2.length):Int);let v5:=if v0>v3 then v0 else v3;(0:Int)=(↑(0:Nat):Int)/\v4=v4/\v2=v2/\v5=v5/\(0:Int)=0/\(0:Int)=0/\List.map entR (List.take (0:Nat) (List.drop v1 l))=[]/\True) (by kernel_rfl) ?_ 300 (p:=fun (x:Nat) (V:List PE->Prop)=>let v0:=k.snap.index;let v1:=Int.toNat (zas k l);let v2:=(↑x:Int);let v3:=(0:Int);let v4:=List.drop v1 (List.take l.length l);let v5:=List.map entR (List.take x (List.drop v1 l));let v6:=IntKind.wrap IntKind.i64 (index+(↑(l.length):Int));let v7:=(↑(v4.length):Int);let v8:=List.getD v4 x default;let v10:=decide (v2<v7);True/\True/\(v10=true->(v3<=v2/\v2<v7/\True)/\(v8.config.voters.length<=1000000/\v8.config.learners.length<=1000000/\(v5.length+List.length [Record.mk (2:Int) v3 v3 v8 v3 (Snap.mk v3 v3 (Config.mk [] []) (ByteArray.mk #[]))])*(1024:Nat)<=140737488355328/\True)/\True/\V [PE.a])/\(v10=false->True/\(if v0>v6 then v0 else v6)=zcm k index term l/\v3=zbf k index term l/\v5=zbc k index term l/\True)) (by intro x;kernel_rfl) ?_
    ·simp
    ·rintro j hj
     simp only [imp_self,implies_true,true_and,and_true,decide_eq_true_eq,decide_eq_false_iff_not,List.take_length]
     have hml:(l.drop (zas k l).toNat).length<=1000000:=by have:=hs.1;simp only [List.length_drop];omega
     refine ⟨fun h6=>?_,fun h6=>?_⟩
     ·have hse:zen ((l.drop (zas k l).toNat).getD j default):=hs.2 _ (List.mem_of_mem_drop (zb1 (by omega)))
      refine ⟨by omega,⟨hse.1,hse.2,by simp only [List.length_append,List.length_map,List.length_take,List.length_cons,List.length_nil];omega⟩,?_⟩
      refine Back.mk (j+1) (by omega) (by omega) (p0:=let v0:=k.snap.index;let v1:=Int.toNat (zas k l);let v2:=(0:Int);let v3:=List.drop v1 l;let v4:=List.drop v1 (List.take l.length l);let v5:=IntKind.wrap IntKind.i64 (index+(↑(l.length):Int));let v6:=(↑(v4.length):Int);let v7:=if v0>v5 then v0 else v5;IntKind.wrap IntKind.i64 ((↑j:Int)+(1:Int))=(↑(j+(1:Nat)):Int)/\v6=v6/\v4=v4/\v7=v7/\v2=v2/\v2=v2/\List.map entR (List.take j v3)++[Record.mk (2:Int) v2 v2 (List.getD v4 j default) v2 (Snap.mk v2 v2 (Config.mk [] []) (ByteArray.mk #[]))]=List.map entR (List.take (j+(1:Nat)) v3)/\True) (by kernel_rfl) ?_
      simp only [true_and,and_true,zbN (i:=j) (by omega)]
      refine ⟨by omega,?_⟩
      rw [zaL (d:=default) (by omega),List.map_append]
      simp [entR,zs]
     ·obtain rfl:j=(l.drop (zas k l).toNat).length:=by omega
      refine ⟨by unfold zcm;rw [if_pos hm],hm.symm,?_⟩
      unfold zbc zaI
      rw [if_pos hm,if_neg (by omega),if_neg h5,List.take_length]
      rfl
def zaw (c:Config):Prop:=c.voters.length<=1000000/\c.learners.length<=1000000
def zbQ (k:Kept):Prop:=zcG k.entries/\zaw k.snap.config
theorem zmE {α:Type} {d:α} {a b:List α} (hl:a.length=b.length) (h:∀ i,i<a.length->a.getD i d=b.getD i d):a=b:=by
 apply List.ext_getElem hl
 intro i h1 h2
 have:=h i h1
 rwa [zcd h1,zcd h2] at this
theorem zmt (a b:List Int):FnC Tryz.prog 87 [dInts.can a,dInts.can b] (.bool (decide (a=b))) D2:=by
 refine FnC.g2 dInts dInts a b (fnB Tryz.func87 (by decide) rfl) fun ha hb=>?_
 refine FnG.of_vc (zak zd1 fun _=>none) Tryz.func87 rfl (by decide) rfl 300 (p:=fun (V:List PE->Prop)=>let v0:=(↑(a.length):Int) != (↑(b.length):Int);True/\True/\True/\(v0=true->True/\false=decide (a=b)/\True)/\(v0=false->True/\V [PE.b])) (by kernel_rfl) ?_
 simp only [true_and,and_true,imp_self]
 refine ⟨fun h=>?_,fun h=>?_⟩
 ·have:a≠b:=fun e=>by subst e;simp at h
  simp [this]
 have hab:a.length=b.length:=by simp at h;omega
 refine LoopG.head (zak zd1 fun _=>none) 0 (A:=Nat) (fun j=>j<=a.length/\∀ i,i<j->a.getD i 0=b.getD i 0) (fun j=>[(5,.int .i64 j)]) (fun j=>[]) (fun j=>a.length-j) 0 ⟨Nat.zero_le _,fun i h=>absurd h (by omega)⟩ (p0:=(0:Int)=(↑(0:Nat):Int)/\a=a/\b=b/\True) (by kernel_rfl) ?_ 300 (p:=fun (x:Nat) (V:List PE->Prop)=>let v0:=(↑x:Int);let v1:=(↑(a.length):Int);let v2:=List.getD a x (0:Int) != List.getD b x (0:Int);let v3:=decide (v0<v1);True/\True/\(v3=true->((0:Int)<=v0/\v0<v1/\(0:Int)<=v0/\v0<(↑(b.length):Int)/\True)/\True/\(v2=true->True/\false=decide (a=b)/\True)/\(v2=false->True/\V [PE.a,PE.b]))/\(v3=false->True/\true=decide (a=b)/\True)) (by intro x;kernel_rfl) ?_
 ·simp
 ·rintro j ⟨hj,h0⟩
  have hkl:=ha.1
  simp only [imp_self,implies_true,true_and,and_true,decide_eq_true_eq,decide_eq_false_iff_not]
  refine ⟨fun h6=>⟨by omega,fun h7=>?_,fun h7=>?_⟩,fun h6=>?_⟩
  ·have:a≠b:=fun e=>by subst e;simp at h7
   simp [this]
  ·refine Back.mk (j+1) ⟨by omega,fun i hi=>?_⟩ (by omega) (p0:=IntKind.wrap IntKind.i64 ((↑j:Int)+(1:Int))=(↑(j+(1:Nat)):Int)/\a=a/\b=b/\True) (by kernel_rfl) ?_
   ·by_cases hij:i=j
    ·subst hij;simpa using h7
    ·exact h0 i (by omega)
   ·simp [zbN (i:=j) (by omega)]
  ·have:a=b:=zmE hab fun i hi=>h0 i (by omega)
   simp [this]
def zu2:Ent:=ent2 87 dInts dInts fun a b=>([],.bool (decide (a=b)),D2)
theorem zqF:zaf Tryz.prog zu2:=za3 (zmt [] []).1 fun a b _=>zmt a b
def tabS1:List Ent:=[zu2]
theorem zrT:∀ e∈tabS1,zaf Tryz.prog e:=zaa zqF zad
theorem Config.eq_iff {a b:Config}:a=b↔a.voters=b.voters/\a.learners=b.learners:=by cases a;cases b;simp
theorem Entry.eq_iff {a b:Entry}:a=b↔a.index=b.index/\a.term=b.term/\a.kind=b.kind/\a.config=b.config/\a.data=b.data:=by cases a;cases b;simp
theorem Snap.eq_iff {a b:Snap}:a=b↔a.index=b.index/\a.term=b.term/\a.config=b.config/\a.data=b.data:=by cases a;cases b;simp
theorem Record.eq_iff {a b:Record}:a=b↔a.kind=b.kind/\a.term=b.term/\a.vote=b.vote/\a.entry=b.entry/\a.index=b.index/\a.snap=b.snap:=by cases a;cases b;simp
theorem zne {a b:ByteArray}:(a.toList==b.toList)=decide (a=b):=by
 by_cases h:a=b
 ·subst h;simp
 ·have:a.toList≠b.toList:=fun e=>h (WideShapes.bytes_inj (by rw [<- ByteArray.toList_eq,<- ByteArray.toList_eq];exact e))
  simp [h,this]
theorem zgl (a:Config) (b:Config):FnC Tryz.prog 53 [dConfig.can a,dConfig.can b] (.bool (decide (a=b))) D2:=by
 refine FnC.g2 dConfig dConfig a b (fnB Tryz.func53 (by decide) rfl) fun ha hb=>?_
 refine FnG.of_vc (zak zrT fun _=>none) Tryz.func53 rfl (by decide) rfl 300 (p:=fun (V:List PE->Prop)=>let v2:=decide (a.voters=b.voters);True/\((v2=true->v2=true)/\(v2=true->v2=true)/\(v2=true->v2=true)/\(v2=true->v2=true)/\(v2=true->v2=true)/\True)/\zac v2 (decide (a.learners=b.learners)) false=decide (a=b)/\True) (by kernel_rfl) ?_
 simp only [imp_self,implies_true,true_and,and_true,zah,zai,zne]
 first
  | (rw [Bool.eq_iff_iff];simp [Config.eq_iff,Entry.eq_iff,Snap.eq_iff,Record.eq_iff,and_assoc,and_comm,and_left_comm])
  | (refine ⟨by simp,?_⟩;rw [Bool.eq_iff_iff];simp [Config.eq_iff,Entry.eq_iff,Snap.eq_iff,Record.eq_iff,and_assoc,and_comm,and_left_comm])
def zky:Ent:=ent2 53 dConfig dConfig fun a b=>([],.bool (decide (a=b)),D2)
theorem zkx:zaf Tryz.prog zky:=za3 (zgl default default).1 fun a b _=>zgl a b
def tabS2:List Ent:=[zky]
theorem zrS:∀ e∈tabS2,zaf Tryz.prog e:=zaa zkx zad
theorem zgj (a:Entry) (b:Entry):FnC Tryz.prog 17 [dEntry.can a,dEntry.can b] (.bool (decide (a=b))) D2:=by
 refine FnC.g2 dEntry dEntry a b (fnB Tryz.func17 (by decide) rfl) fun ha hb=>?_
 refine FnG.of_vc (zak zrS fun _=>none) Tryz.func17 rfl (by decide) rfl 300 (p:=fun (V:List PE->Prop)=>let v0:=a.index==b.index;let v1:=zac v0 (a.term==b.term) false;let v2:=zac v1 (a.kind==b.kind) false;let v3:=zac v2 (ByteArray.toList a.data==ByteArray.toList b.data) false;True/\((v0=true->v0=true)/\(v0=true->v0=true)/\(v0=true->v0=true)/\(v0=true->v0=true)/\(v0=true->v0=true)/\(v1=true->v1=true)/\(v1=true->v1=true)/\(v1=true->v1=true)/\(v1=true->v1=true)/\(v1=true->v1=true)/\(v2=true->v2=true)/\(v2=true->v2=true)/\(v2=true->v2=true)/\(v2=true->v2=true)/\(v2=true->v2=true)/\(v3=true->v3=true)/\(v3=true->v3=true)/\(v3=true->v3=true)/\(v3=true->v3=true)/\(v3=true->v3=true)/\True)/\zac v3 (decide (a.config=b.config)) false=decide (a=b)/\True) (by kernel_rfl) ?_
 simp only [imp_self,implies_true,true_and,and_true,zah,zai,zne]
 first
  | (rw [Bool.eq_iff_iff];simp [Config.eq_iff,Entry.eq_iff,Snap.eq_iff,Record.eq_iff,and_assoc,and_comm,and_left_comm])
  | (refine ⟨by simp,?_⟩;rw [Bool.eq_iff_iff];simp [Config.eq_iff,Entry.eq_iff,Snap.eq_iff,Record.eq_iff,and_assoc,and_comm,and_left_comm])
end Go.Proofs.YtkhphiahindnnaaGreat
namespace Go.Proofs.YtkhphiahindnnaaGreat
open Go.RowKit
def el (xs:List Int) (i:Nat):Int:=xs.getD i 0
structure IntSl (w:World) (a:Option Addr) (n:Nat) (xs:List Int):Prop where
 len:xs.length=n
 mx:n<=9223372036854775807
 row:0<n->∃ b off,a=some ⟨b,off,none⟩/\b<w.heap.size/\∀ i,i<n->w.cell? ⟨b,off+i,none⟩=some (.int .i64 (el xs i))
 lo:∀ i,-9223372036854775808<=el xs i
 hi:∀ i,el xs i<=9223372036854775807
theorem IntSl.drewN {w:World} {a:Option Addr} {n:Nat} {xs:List Int} (h:IntSl w a n xs) (k:Nat):IntSl (w.drewN k) a n xs:=⟨h.len,h.mx,h.row,h.lo,h.hi⟩
theorem IntSl.below {w w':World} {a:Option Addr} {n:Nat} {xs:List Int} (h:IntSl w a n xs) (hb:Below w.heap.size w w'):IntSl w' a n xs:=
 ⟨h.len,h.mx,fun hp=>by
  obtain ⟨b,off,e,hlt,hc⟩:=h.row hp
  exact ⟨b,off,e,Nat.lt_of_lt_of_le hlt hb.size,fun i hi=>by rw [hb.cell (p:=⟨b,off+i,none⟩) hlt];exact hc i hi⟩,h.lo,h.hi⟩
theorem IntSl.alloc {w:World} {a:Option Addr} {n:Nat} {xs:List Int} (h:IntSl w a n xs) (o:Obj):IntSl (w.alloc o) a n xs:=
 h.below ((Below.refl _ _).alloc (Nat.le_refl _) o)
theorem IntSl.nil (w:World):IntSl w none 0 []:=
 ⟨rfl,by omega,fun h=>absurd h (by omega),fun i=>by simp [el],fun i=>by simp [el]⟩
theorem IntSl.lit (w:World) (xs:List Int) (t:TypeId) (hm:xs.length<=9223372036854775807) (h:∀ x∈xs,-9223372036854775808<=x/\x<=9223372036854775807) :
  IntSl (w.alloc (.cells (xs.map (Value.int .i64)).toArray t)) (some ⟨w.heap.size,0,none⟩) xs.length xs:=by
 have hr:∀ i,-9223372036854775808<=el xs i/\el xs i<=9223372036854775807:=by
  intro i
  by_cases hi:i<xs.length
  ·have:el xs i=xs[i]:=by simp [el,hi]
   rw [this];exact h _ (List.getElem_mem hi)
  ·have:el xs i=0:=by simp [el,List.getElem?_eq_none (Nat.not_lt.1 hi)]
   rw [this];omega
 refine ⟨rfl,hm,fun _=>⟨w.heap.size,0,rfl,by simp,fun i hi=>?_⟩,fun i=>(hr i).1,fun i=>(hr i).2⟩
 have e:el xs i=xs[i]:=by simp [el,hi]
 rw [e,Nat.zero_add,World.cell?_alloc_at _ _ _ _ rfl]
 simp [hi]
def Dr (w w':World):Prop:=∃ q,w'=w.drewN q
theorem Dr.refl (w:World):Dr w w:=⟨0,rfl⟩
theorem Dr.drewN {w w':World} (h:Dr w w') (n:Nat):Dr w (w'.drewN n):=by
 obtain ⟨q,rfl⟩:=h;exact ⟨q+n,by simp [World.drewN,Nat.add_assoc]⟩
theorem Dr.nn (w:World) (a b:Nat):Dr w ((w.drewN a).drewN b):=Dr.drewN ⟨a,rfl⟩ b
theorem Dr.below {w w':World} (h:Dr w w') (B:Nat):Below B w w':=by
 obtain ⟨q,rfl⟩:=h;exact ⟨rfl,rfl,rfl,Nat.le_refl _,fun _ _=>rfl⟩
def IsRow (k:IntKind) (w:World) (a:Option Addr) (len cap:Nat) (zs:List Int):Prop:=
 (a=none/\len=0/\cap=0/\zs=[]) \/
 ∃ x,a=some x/\len<=cap/\cap<=maxLen/\zs.length=cap/\(∀ i,i<zs.length->w.cell? (x.add i)=some (.int k (zs.getD i 0)))/\∀ n∈zs,(Lit.int k n).wf=true
theorem zvM {zs:List Int} {n i:Nat} (h:i<n):el (zs.take n) i=el zs i:=by
 simp [el,h]
theorem zgH (zs:List Int) (i:Nat):el zs i∈zs\/el zs i=0:=by
 by_cases h:i<zs.length
 ·left;simp [el,h]
 ·right;simp [el,List.getElem?_eq_none (Nat.not_lt.1 h)]
theorem IsRow.sl {w:World} {a:Option Addr} {n c:Nat} {zs:List Int} (h:IsRow .i64 w a n c zs):IntSl w a n (zs.take n):=by
 rcases h with ⟨rfl,rfl,rfl,rfl⟩ | ⟨x,rfl,h1,h2,h3,h4,h5⟩
 ·exact ⟨rfl,by omega,fun h=>absurd h (by omega),fun i=>by simp [el],fun i=>by simp [el]⟩
 ·have hw:∀ i,-9223372036854775808<=el (zs.take n) i/\el (zs.take n) i<=9223372036854775807:=by
   intro i
   rcases zgH (zs.take n) i with hm | h0
   ·have:=h5 _ (List.mem_of_mem_take hm)
    simp only [Lit.wf,Bool.and_eq_true,decide_eq_true_eq] at this
    exact this
   ·rw [h0];omega
  unfold maxLen at h2
  refine ⟨by simp;omega,by omega,fun hp=>?_,fun i=>(hw i).1,fun i=>(hw i).2⟩
  have hc0:=h4 0 (by omega)
  obtain ⟨b,off,spot⟩:=x
  have hspot:spot=none:=by simpa [Addr.add] using World.cell?_spot hc0
  subst hspot
  refine ⟨b,off,rfl,?_,fun i hi=>?_⟩
  ·have:=World.block_lt_of_cell? _ _ hc0
   simpa [Addr.add] using this
  ·have h6:=h4 i (by omega)
   rw [zvM hi,<- WideShapes.add_plain]
   exact h6
def zj7 (xs:List Int) (k:Nat):Prop:=∀ i,i+1<k->el xs i<el xs (i+1)
noncomputable def isB (xs:List Int):Bool:=by classical exact decide (zj7 xs xs.length/\xs.length<=16)
theorem zln {xs:List Int}:isB xs=true↔zj7 xs xs.length/\xs.length<=16:=by simp [isB]
theorem zxo {xs:List Int} {k:Nat} (hk:k+1<xs.length) (h:el xs (k+1)<=el xs k):isB xs=false:=by
 rw [<- Bool.not_eq_true,zln];intro h';have:=h'.1 k hk;omega
theorem zpT {xs:List Int} {n k:Nat} (hn:xs.length=n) (h:zj7 xs k) (hk:n<=k):isB xs=decide ((n:Int)<=16):=by
 rw [Bool.eq_iff_iff,zln,decide_eq_true_eq]
 constructor
 ·intro h';omega
 ·intro h';exact ⟨fun i hi=>h i (by omega),by omega⟩
theorem zn1 {xs:List Int} {k:Nat} (h:zj7 xs (k+1)) (hv:el xs k<el xs (k+1)):zj7 xs (k+2):=by
 intro i hi
 by_cases e:i=k
 ·subst e;exact hv
 ·exact h i (by omega)
theorem zcR (a:Option Addr) (n c:Nat) (xs:List Int) (w:World) (ha:IntSl w a n xs) :
  Calls Tryz.prog 57 #[.slice a n c] w fun e w'=>e = .returned (.bool (isB xs))/\Dr w w':=by
 have hm:=ha.mx
 by_cases h0:n<=1
 ·have hr:=zpT ha.len (k:=n) (fun i hi=>by omega) (Nat.le_refl _)
  have ht:decide ((n:Int)<=16)=true:=by simp;omega
  have HR:=Lib.hid (hr.trans ht)
  clear hr ht
  rcases (show n=0\/n=1 by omega) with rfl | rfl
  all_goals
   go_enter Tryz.func57,Tryz.ntmps57
   go_wp2
   refine wp_loop_rounds 1 ?_
   rw [rounds_succ]
   go_wp2
   go_ret
   exact ⟨by rw [HR.out];rfl,Dr.refl _⟩
 ·have h1:(2:Int)<=(n:Int):=by omega
  go_enter Tryz.func57,Tryz.ntmps57
  go_wp2
  go_loopw [8] (fun i wr=>∃ k:Nat,k<=n-1/\i = .int .i64 k/\zj7 xs (k+1)/\Dr w wr) (fun i _=>n-1-(intOf i).toNat)
  case atStart=>exact ⟨0,Nat.zero_le _,rfl,fun i h=>absurd h (by omega),Dr.refl _⟩
  case round=>
   obtain ⟨k,hk,rfl,hq,q,rfl⟩:=hrel
   by_cases hlt:k<n-1
   ·obtain ⟨ba,oa,rfl,_,hca⟩:=ha.row (by omega)
    have ca:=hca k (by omega)
    have cb:=hca (k+1) (by omega)
    have k0:(0:Int)<=(k:Int):=by omega
    have k1:(k:Int)<(n:Int)-1:=by omega
    have k2:(k:Int)+1<(n:Int):=by omega
    have l1:=ha.lo k
    have l2:=ha.hi k
    clear hca
    by_cases hv:el xs k<el xs (k+1)
    ·have hv':=Lib.hid hv
     have t:¬ el xs (k+1)<=el xs k:=by omega
     go_wp2
     go_quiet (fail)
     go_wp2
     go_roundw
     case rel=>exact ⟨k+1,by omega,by go_num,zn1 hq hv'.out,⟨_,rfl⟩⟩
     case measure=>simp [intOf];omega
    ·have hr:=Lib.hid (zxo (xs:=xs) (k:=k) (by rw [ha.len];omega) (by omega))
     have t:el xs (k+1)<=el xs k:=by omega
     go_wp2
     go_quiet (fail)
     go_wp2
     go_ret
     exact ⟨by rw [hr.out];rfl,by first | exact ⟨_,rfl⟩ | exact Dr.nn _ _ _⟩
   ·have hr:=Lib.hid (zpT ha.len hq (by omega))
    have k1:¬ (k:Int)<(n:Int)-1:=by omega
    go_wp2
    all_goals
     go_ret
     refine ⟨?_,by first | exact ⟨_,rfl⟩ | exact Dr.nn _ _ _⟩
     rw [hr.out]
     rfl
def hasB (xs:List Int) (v:Int):Bool:=decide (v∈xs)
theorem zsZ {xs:List Int} {v:Int} {k:Nat} (hk:k<xs.length) (h:el xs k=v):hasB xs v=true:=by
 simp only [hasB,decide_eq_true_eq]
 have:el xs k=xs[k]:=by simp [el,hk]
 rw [<- h,this];exact List.getElem_mem hk
theorem zvC {xs:List Int} {v:Int} {n:Nat} (hn:xs.length=n) (h:∀ i,i<n->el xs i≠v):hasB xs v=false:=by
 simp only [hasB,decide_eq_false_iff_not]
 intro hm
 obtain ⟨i,hi,e⟩:=List.mem_iff_getElem.1 hm
 exact h i (by omega) (by rw [<- e];simp [el,hi])
def idxI (xs:List Int) (v:Int):Int:=if hasB xs v then (xs.findIdx (fun x=>x==v):Nat) else -1
theorem zv8 (xs:List Int) (v:Int):decide (0<=idxI xs v)=hasB xs v:=by
 unfold idxI
 cases hasB xs v<;>simp
theorem zv9 {xs:List Int} {v:Int} {k:Nat} (hk:k<xs.length) (h:el xs k=v) (hq:∀ i,i<k->el xs i≠v):idxI xs v=k:=by
 have e:xs.findIdx (fun x=>x==v)=k:=by
  rw [List.findIdx_eq hk]
  refine ⟨?_,fun j hj=>?_⟩
  ·rw [<- h];simp [el,hk]
  ·have:=hq j hj
   have hj':j<xs.length:=by omega
   simpa [el,hj'] using this
 simp [idxI,zsZ hk h,e]
theorem zpY {xs:List Int} {v:Int} {n:Nat} (hn:xs.length=n) (h:∀ i,i<n->el xs i≠v):idxI xs v = -1:=by
 simp [idxI,zvC hn h]
theorem zpV (a:Option Addr) (n c:Nat) (xs:List Int) (v:Int) (w:World) (ha:IntSl w a n xs) :
  Calls Tryz.prog 122 #[.slice a n c,.int .i64 v] w fun e w'=>e = .returned (.int .i64 (idxI xs v))/\w=w':=by
 have hm:=ha.mx
 go_enter Tryz.func122,Tryz.ntmps122
 go_wp2
 go_loop [8] (fun i=>∃ k:Nat,k<=n/\i = .int .i64 k/\∀ i,i<k->el xs i≠v) (fun i=>n-(intOf i).toNat)
 case atStart=>exact ⟨0,Nat.zero_le _,rfl,fun i h=>absurd h (by omega)⟩
 case round=>
  obtain ⟨k,hk,rfl,hq⟩:=hrel
  have hq':=Lib.hid hq
  clear hq
  by_cases hlt:k<n
  ·obtain ⟨ba,oa,rfl,_,hca⟩:=ha.row (by omega)
   have ca:=hca k (by omega)
   have k0:(0:Int)<=(k:Int):=by omega
   have k1:(k:Int)<(n:Int):=by omega
   clear hca
   by_cases hv:el xs k=v
   ·have t:(v==el xs k)=true:=by simp [hv]
    have hr:=Lib.hid (zv9 (by rw [ha.len];exact hlt) hv hq'.out)
    clear hv
    go_wp2
    go_ret
    exact ⟨by rw [hr.out];rfl,rfl⟩
   ·have t:(v==el xs k)=false:=by simp;exact fun e=>hv e.symm
    have hv':=Lib.hid hv
    clear hv
    go_wp2
    go_round
    case rel=>exact ⟨k+1,by omega,by go_num,fun i hi=>if e:i=k then by subst e;exact hv'.out else hq'.out i (by omega)⟩
    case measure=>simp [intOf];omega
  ·have hr:=Lib.hid (zpY ha.len (fun i hi=>hq'.out i (by omega)))
   have k1:¬ (k:Int)<(n:Int):=by omega
   go_wp2
   go_ret
   exact ⟨by rw [hr.out];rfl,rfl⟩
theorem zk8 (a:Option Addr) (n c:Nat) (xs:List Int) (v:Int) (w:World) (ha:IntSl w a n xs) :
  Calls Tryz.prog 112 #[.slice a n c,.int .i64 v] w fun e w'=>e = .returned (.bool (hasB xs v))/\w=w':=by
 rw [<- zv8]
 go_enter Tryz.func112,Tryz.ntmps112
 go_wp2_with fail
 refine (zpV _ _ _ _ _ _ ha).mono ?_
 rintro e w' ⟨rfl,rfl⟩
 go_wp2
 go_ret
 exact ⟨rfl,rfl⟩
theorem zqg (a:Option Addr) (n c:Nat) (xs:List Int) (v:Int) (w:World) (ha:IntSl w a n xs) :
  Calls Tryz.prog 97 #[.slice a n c,.int .i64 v] w fun e w'=>e = .returned (.bool (hasB xs v))/\w=w':=by
 go_enter Tryz.func97,Tryz.ntmps97
 go_wp2_with fail
 refine (zk8 _ _ _ _ _ _ ha).mono ?_
 rintro e w' ⟨rfl,rfl⟩
 go_wp2
 go_ret
 exact ⟨rfl,rfl⟩
theorem zlp:(Tryz.prog.info? 3).map (fun i=>(i.zero,i.size,i.bytes))=some (some (.int .i64 0),1,8):=by kernel_rfl
def RowAt (w:World) (g:Nat) (t:TypeId) (l:List Int):Prop:=w.heap[g]? = some (.cells (l.map (Value.int .i64)).toArray t (0,0))
theorem zvm (xs:List Int):∀ v∈xs.map (Value.int .i64),v.oneCell'=true:=by
 intro v hv;obtain ⟨x,_,rfl⟩:=List.mem_map.1 hv;rfl
theorem zsr {w:World} {b off n:Nat} {xs:List Int} (hl:xs.length=n) (h:∀ i,i<n->w.cell? ⟨b,off+i,none⟩=some (.int .i64 (el xs i))) :
  ∀ j v,(xs.map (Value.int .i64))[j]? = some v->w.cell? ((⟨b,off,none⟩:Addr).add j)=some v:=by
 intro j v hj
 rw [List.getElem?_map] at hj
 by_cases h2:j<xs.length
 ·rw [List.getElem?_eq_getElem h2] at hj
  simp only [Option.map_some,Option.some.injEq] at hj
  rw [WideShapes.add_plain,h j (by omega),<- hj]
  simp [el,h2]
 ·rw [List.getElem?_eq_none (by omega)] at hj;simp at hj
theorem zfN {w:World} {g:Nat} {t:TypeId} {l:List Value} (h:w.heap[g]? = some (.cells l.toArray t (0,0))) {i:Nat} {v:Value} (hv:l[i]? = some v):w.cell? ⟨g,i,none⟩=some v:=by
 simp [World.cell?,h,hv]
theorem zhw {w:World} {g:Nat} {t:TypeId} {l:List Value} (h:w.heap[g]? = some (.cells l.toArray t (0,0))) (i:Nat):w.frozen? ⟨g,i,none⟩=false:=by
 simp [World.frozen?,h]
theorem zoU {w:World} {g:Nat} {t:TypeId} {l:List Value} (h:w.heap[g]? = some (.cells l.toArray t (0,0))) (i:Nat) (v:Value):(w.setCell ⟨g,i,none⟩ v).heap[g]? = some (.cells (l.set i v).toArray t (0,0)):=by
 simp [World.setCell,Array.getElem?_modify,h]
theorem IntSl.bd {w:World} {a:Option Addr} {n:Nat} {xs:List Int} (h:IntSl w a n xs):∀ x∈xs,-9223372036854775808<=x/\x<=9223372036854775807:=by
 intro x hx
 obtain ⟨i,hi,e⟩:=List.mem_iff_getElem.1 hx
 have h1:=h.lo i
 have h2:=h.hi i
 have:el xs i=x:=by rw [<- e];simp [el,hi]
 rw [this] at h1 h2
 exact ⟨h1,h2⟩
theorem RowAt.sl {w:World} {g:Nat} {t:TypeId} {ys zs:List Int} {n:Nat} (h:RowAt w g t (ys++zs)) (hn:ys.length=n) (hm:n<=9223372036854775807) (hb:∀ x∈ys,-9223372036854775808<=x/\x<=9223372036854775807) :
  IntSl w (some ⟨g,0,none⟩) n ys:=by
 have hr:∀ i,-9223372036854775808<=el ys i/\el ys i<=9223372036854775807:=by
  intro i
  rcases zgH ys i with hm | h0
  ·exact hb _ hm
  ·rw [h0];omega
 refine ⟨hn,hm,fun hp=>⟨g,0,rfl,(Array.getElem?_eq_some_iff.1 h).1,fun i hi=>?_⟩,fun i=>(hr i).1,fun i=>(hr i).2⟩
 rw [Nat.zero_add]
 have hi':i<ys.length:=by omega
 refine zfN h ?_
 simp [el,List.getElem?_append_left,hi']
theorem zg8 {w w':World} {g:Nat} (h:w.grownBy w' (some g)) (i:Nat) (v:Value):w.grownBy (w'.setCell ⟨g,i,none⟩ v) (some g):=
 ⟨h.os,h.tape,h.output,by have:=h.size;simpa [World.setCell] using this,fun k hk hne=>by
  rw [Below.heap_setCell _ _ _ _ (fun e=>hne (by rw [e]))];exact h.block k hk hne⟩
theorem zsN {w w':World} (h:w.grownBy w' none):Below w.heap.size w w':=(Below.refl _ _).grown h (Nat.le_refl _) (fun k h=>by cases h)
def OwnI (base:Nat) (w:World) (v:Value) (xs:List Int):Prop:=w.ownsRow base 3 1 v xs.length (xs.map (Value.int .i64))
theorem OwnI.nil (base:Nat) (w:World):OwnI base w (.slice none 0 0) []:=World.ownsRow_nil w base _ _
theorem OwnI.below {base B:Nat} {w w':World} {v:Value} {xs:List Int} (h:OwnI base w v xs) (hb:Below B w w') (hB:w.heap.size<=B):OwnI base w' v xs:=by
 refine ⟨h.1,?_⟩
 rcases h.2 with h2 | ⟨g,cap,cur,hv,hg,hh,r⟩
 ·exact Or.inl h2
 ·exact Or.inr ⟨g,cap,cur,hv,hg,by rw [hb.block g (by have:=(Array.getElem?_eq_some_iff.1 hh).1;omega)];exact hh,r⟩
theorem OwnI.mono {base B:Nat} {w:World} {v:Value} {xs:List Int} (h:OwnI base w v xs) (hB:B<=base):OwnI B w v xs:=by
 refine ⟨h.1,?_⟩
 rcases h.2 with h2 | ⟨g,cap,cur,hv,hg,hh,r⟩
 ·exact Or.inl h2
 ·exact Or.inr ⟨g,cap,cur,hv,by omega,hh,r⟩
theorem OwnI.sl {base:Nat} {w:World} {v:Value} {xs:List Int} (h:OwnI base w v xs) (hb:∀ x∈xs,-9223372036854775808<=x/\x<=9223372036854775807) :
  ∃ a c,v = .slice a xs.length c/\IntSl w a xs.length xs:=by
 obtain ⟨h1,⟨rfl,hn⟩ | ⟨g,cap,cur,rfl,hg,hh,hl,hm,hs,ht⟩⟩:=h
 ·have hx:xs=[]:=List.eq_nil_of_length_eq_zero hn
  subst hx
  exact ⟨none,0,rfl,IntSl.nil w⟩
 ·have hr:∀ i,-9223372036854775808<=el xs i/\el xs i<=9223372036854775807:=by
   intro i
   rcases zgH xs i with hm | h0
   ·exact hb _ hm
   ·rw [h0];omega
  refine ⟨some ⟨g,0,none⟩,cap,rfl,rfl,by unfold maxLen at hm;omega,fun hp=>⟨g,0,rfl,(Array.getElem?_eq_some_iff.1 hh).1,fun i hi=>?_⟩,fun i=>(hr i).1,fun i=>(hr i).2⟩
  rw [Nat.zero_add]
  have e:(cur.toList.take (xs.length*1))[i]? = (xs.map (Value.int .i64))[i]? := by rw [ht]
  rw [List.getElem?_take,if_pos (by omega)] at e
  simp only [World.cell?,hh]
  rw [<- Array.getElem?_toList,e]
  simp [el,hi]
theorem OwnI.bel {base:Nat} {w0 wr w':World} {v:Value} {xs:List Int} (h:OwnI base wr v xs) (hb:Below base w0 wr) (hg:wr.grownBy w' v.ownBlock) (hbase:base<=wr.heap.size):Below base w0 w' :=
 hb.grown hg hbase (fun k hk=>(World.ownsRow.lt h k hk).1)
theorem zeo {ops:Array Oper} {rest:List Oper} {o:Oper} {a:Act} {Q:Exit->Act->World->Prop} {wr:World} (hgd:o.guard=none) (s x:Operand) (t:TypeId)
  (ho:o.op = .call {callee:= .builtin .append,args:= #[s,x],argTypes:= #[t,t]}) (ht:Tryz.prog.underlying t=some (.slice 3))
  (base:Nat) (v:Value) (xs:List Int) (hs:a.eval s=v) (hown:OwnI base wr v xs) (ad:Addr) (m c:Nat) (ys:List Int) (hsl:IntSl wr (some ad) m ys) (hx:a.eval x = .slice (some ad) m c)
  (hn:xs.length+m<8796093022208) (hbase:base<=wr.heap.size)
  (h:∀ v' w',OwnI base w' v' (xs++ys)->wr.grownBy w' v.ownBlock->wpList Tryz.prog ops Q rest (a.put o.dst v') w'):wpList Tryz.prog ops Q (o::rest) a wr:=by
 obtain ⟨i0,hi,hz0,hz1,hz2⟩:=info_parts zlp
 refine wpList_append_own _ hgd s x t ho base 3 i0 (.int .i64 0) 1 8 ht hi hz0 hz1 hz2 rfl (by decide) v xs.length (xs.map (Value.int .i64)) hs hown ad m c (ys.map (Value.int .i64)) hx (by simp [hsl.len]) ?_ (zvm ys) (by unfold maxLen;omega) (by omega) hbase ?_
 ·by_cases hp:0<m
  ·obtain ⟨b,off,e,hlt,hc⟩:=hsl.row hp
   obtain rfl:ad=⟨b,off,none⟩:=by simpa using e
   exact zsr hsl.len hc
  ·intro j u hj
   have:ys=[]:=List.eq_nil_of_length_eq_zero (by rw [hsl.len];omega)
   subst this;simp at hj
 intro v' w' ho' hg' _
 refine h v' w' ?_ hg'
 show World.ownsRow _ _ _ _ _ _ _
 have e1:(xs++ys).length=xs.length+m:=by simp [hsl.len]
 have e2:(xs++ys).map (Value.int .i64)=xs.map (Value.int .i64)++ys.map (Value.int .i64):=by simp
 rw [e1,e2];exact ho'
def zji (w:World) (l:List Int) (e:Ending) (w':World):Prop:=∃ v,e = .returned v/\OwnI w.heap.size w' v l/\Below w.heap.size w w'
theorem IntSl.none {w:World} {n:Nat} {xs:List Int} (h:IntSl w none n xs):n=0/\xs=[]:=by
 by_cases hp:0<n
 ·obtain ⟨b,off,e,_⟩:=h.row hp;cases e
 ·have:n=0:=by omega
  subst this
  exact ⟨rfl,List.eq_nil_of_length_eq_zero h.len⟩
theorem OwnI.empty (w:World) (t:TypeId) (ht:t=3):OwnI w.heap.size (w.alloc (.cells #[] t)) (.slice (some ⟨w.heap.size,0,Option.none⟩) 0 0) []:=by
 subst ht;exact World.ownsRow_made w #[] 0 (Nat.le_refl _) (by unfold maxLen;omega) rfl
theorem zrp (a:Option Addr) (n c:Nat) (xs:List Int) (w:World) (ha:IntSl w a n xs) (hn:n<=1099511627776) :
  Calls Tryz.prog 62 #[.slice a n c] w (zji w xs):=by
 cases a with
 | none=>
  obtain ⟨rfl,rfl⟩:=ha.none
  have k1:=fun (w:World) (n c:Nat)=>Lib.run_eql_slice_nil (P:=Tryz.prog) w 38 3 none n c 0 0 Tryz.underlying38
  go_enter Tryz.func62,Tryz.ntmps62
  go_wp2
  go_ret
  exact ⟨_,rfl,OwnI.nil _ _,Below.refl _ _⟩
 | some ad=>
  have k1:=fun (w:World) (n c:Nat)=>Lib.run_eql_slice_nil (P:=Tryz.prog) w 38 3 (some ad) n c 0 0 Tryz.underlying38
  go_enter Tryz.func62,Tryz.ntmps62
  go_wp2_with (at_builtin;refine zeo rfl (.tmp 5) (.tmp 6) 38 rfl Tryz.underlying38 w.heap.size _ [] rfl (OwnI.empty w _ rfl) ad n c xs (ha.alloc _) rfl (by simp;omega) (by simp) ?_;intro v1 w1 ho1 hg1;have HO1:=Lib.hid ho1;have HB1:=Lib.hid ((OwnI.empty w _ rfl).bel ((Below.refl _ _).alloc (Nat.le_refl _) _) hg1 (by simp));clear ho1 hg1)
  go_ret
  exact ⟨_,rfl,HO1.out,HB1.out⟩
theorem zok (a:Option Addr) (n c:Nat) (xs:List Int) (w:World) (ha:IntSl w a n xs) (hn:n<=1099511627776) :
  Calls Tryz.prog 101 #[.slice a n c] w (zji w xs):=by
 cases a with
 | none=>
  obtain ⟨rfl,rfl⟩:=ha.none
  have k1:=fun (w:World) (n c:Nat)=>Lib.run_eql_slice_nil (P:=Tryz.prog) w 26 3 none n c 0 0 Tryz.underlying26
  go_enter Tryz.func101,Tryz.ntmps101
  go_wp2
  go_ret
  exact ⟨_,rfl,OwnI.nil _ _,Below.refl _ _⟩
 | some ad=>
  have k1:=fun (w:World) (n c:Nat)=>Lib.run_eql_slice_nil (P:=Tryz.prog) w 26 3 (some ad) n c 0 0 Tryz.underlying26
  go_enter Tryz.func101,Tryz.ntmps101
  go_wp2_with (at_builtin;refine zeo rfl (.tmp 5) (.tmp 6) 26 rfl Tryz.underlying26 w.heap.size _ [] rfl (OwnI.empty w _ rfl) ad n c xs (ha.alloc _) rfl (by simp;omega) (by simp) ?_;intro v1 w1 ho1 hg1;have HO1:=Lib.hid ho1;have HB1:=Lib.hid ((OwnI.empty w _ rfl).bel ((Below.refl _ _).alloc (Nat.le_refl _) _) hg1 (by simp));clear ho1 hg1)
  go_ret
  exact ⟨_,rfl,HO1.out,HB1.out⟩
theorem zfQ {w w1 w2:World} {r:Option Nat} (h:w.grownBy w1 r) (k:w1.grownBy w2 r):w.grownBy w2 r:=
 ⟨k.os.trans h.os,k.tape.trans h.tape,k.output.trans h.output,Nat.le_trans h.size k.size,fun i hi hne=>(k.block i (Nat.lt_of_lt_of_le hi h.size) hne).trans (h.block i hi hne)⟩
theorem zdh {w w':World} {r:Option Nat} (h:Below w.heap.size w w'):w.grownBy w' r:=⟨h.os,h.tape,h.output,h.size,fun i hi _=>h.block i hi⟩
theorem zxt {w w':World} {r:Option Nat} (h:w.grownBy w' none):w.grownBy w' r:=zdh (zsN h)
def zrC (g:Nat) (cv:Value) (p:Int->Bool) (I:World->Prop):Prop:=
 ∀ (x:Int) (w:World),I w->Calls Tryz.prog g #[.int .i64 x,cv] w fun e w'=>e = .returned (.bool (p x))/\Below w.heap.size w w'
def idxP (p:Int->Bool) (xs:List Int) (n:Nat):Int:=if xs.findIdx p<n then (xs.findIdx p:Nat) else -1
theorem zc1 {xs:List Int} {i:Nat} (h:i<xs.length):el xs i=xs[i]:=by simp [el,h]
theorem zpX {p:Int->Bool} {xs:List Int} {n k:Nat} (hn:xs.length=n) (hk:k<n) (h:p (el xs k)=true) (hq:∀ i,i<k->p (el xs i)=false):idxP p xs n=k:=by
 have e:xs.findIdx p=k:=by
  rw [List.findIdx_eq (by omega)]
  refine ⟨by rw [zc1 (by omega)] at h;exact h,fun j hj=>?_⟩
  have:=hq j hj
  rwa [zc1 (by omega)] at this
 simp [idxP,e,hk]
theorem zke {p:Int->Bool} {xs:List Int} {n:Nat} (hn:xs.length=n) (hq:∀ i,i<n->p (el xs i)=false):idxP p xs n = -1:=by
 have:¬ xs.findIdx p<n:=by
  intro h
  have h1:xs.findIdx p<xs.length:=by omega
  have h2:=List.findIdx_getElem (w:=h1)
  have h3:=hq _ h
  rw [zc1 h1,h2] at h3
  cases h3
 simp [idxP,this]
theorem zi5 (g:Nat) (cv:Value) (p:Int->Bool) (I:World->Prop) (hp:zrC g cv p I) (eg:∀ args w,(callFunc g args).run Tryz.prog w = .ok (.enter g args) w)
  (a:Option Addr) (n c:Nat) (xs:List Int) (w:World) (hI:∀ w',w.grownBy w' none->I w') (ha:IntSl w a n xs) :
  Calls Tryz.prog 113 #[.slice a n c,.func (.func g) #[] #[cv]] w fun e w'=>e = .returned (.int .i64 (idxP p xs n))/\Below w.heap.size w w':=by
 have hm:=ha.mx
 have HI:=Lib.hid hI
 clear hI
 go_enter Tryz.func113,Tryz.ntmps113
 go_wp2
 go_loopw [8] (fun i wr=>∃ k:Nat,k<=n/\i = .int .i64 k/\(∀ i,i<k->p (el xs i)=false)/\Below w.heap.size w wr) (fun i _=>n-(intOf i).toNat)
 case atStart=>exact ⟨0,Nat.zero_le _,rfl,fun i h=>absurd h (by omega),Below.refl _ _⟩
 case round=>
  obtain ⟨k,hk,rfl,hq,hbel⟩:=hrel
  have HQ:=Lib.hid hq
  clear hq
  by_cases hlt:k<n
  ·have k0:(0:Int)<=(k:Int):=by omega
   have k1:(k:Int)<(n:Int):=by omega
   obtain ⟨ba,oa,rfl,hba,hca⟩:=(ha.below hbel).row (by omega)
   have ca:=hca k hlt
   clear hca
   cases hv:p (el xs k)
   case true=>
    have hr:=Lib.hid (zpX ha.len hlt hv HQ.out)
    have HV:=Lib.hid hv
    clear hv
    go_wp2_with fail
    refine (hp _ _ (HI.out _ (zdh hbel))).mono ?_
    rw [HV.out]
    rintro e w1 ⟨rfl,hb1⟩
    go_wp2_with fail
    go_ret
    exact ⟨by rw [hr.out];rfl,hbel.trans (hb1.mono hbel.size)⟩
   case false=>
    have HV:=Lib.hid hv
    clear hv
    go_wp2_with fail
    refine (hp _ _ (HI.out _ (zdh hbel))).mono ?_
    rw [HV.out]
    rintro e w1 ⟨rfl,hb1⟩
    go_wp2_with fail
    go_roundw
    case rel=>exact ⟨k+1,by omega,by go_num,fun i hi=>if e:i=k then by subst e;exact HV.out else HQ.out i (by omega),hbel.trans (hb1.mono hbel.size)⟩
    case measure=>simp [intOf];omega
  ·have hr:=Lib.hid (zke ha.len (fun i hi=>HQ.out i (by omega)))
   have k1:¬ (k:Int)<(n:Int):=by omega
   go_wp2
   go_ret
   exact ⟨by rw [hr.out];rfl,hbel⟩
structure DelSt (p:Int->Bool) (xs:List Int) (n:Nat) (cur:List Value) (i j:Nat):Prop where
 hi:i=((xs.take j).filter (fun x=>!p x)).length
 ij:i<j
 hd:cur.take i=((xs.take j).filter (fun x=>!p x)).map (Value.int .i64)
 tl:∀ t,j<=t->t<n->cur[t]? = some (.int .i64 (el xs t))
theorem zd0 {xs:List Int} {j:Nat} (h:j<xs.length):xs.take (j+1)=xs.take j++[el xs j]:=by
 rw [List.take_succ_eq_append_getElem h,zc1 h]
theorem DelSt.keep {p:Int->Bool} {xs:List Int} {n:Nat} {cur:List Value} {i j:Nat} (h:DelSt p xs n cur i j) (hx:xs.length=n) (hc:n<=cur.length) (hj:j<n) (hv:p (el xs j)=false):DelSt p xs n (cur.set i (.int .i64 (el xs j))) (i+1) (j+1):=by
 have e:(xs.take (j+1)).filter (fun x=>!p x)=(xs.take j).filter (fun x=>!p x)++[el xs j]:=by
  rw [zd0 (by omega),List.filter_append];simp [hv]
 have hij:=h.ij
 refine ⟨by rw [e,h.hi];simp,by omega,?_,fun t h1 h2=>?_⟩
 ·rw [e,List.map_append,<- h.hd,List.take_succ_eq_append_getElem (by simp;omega)]
  rw [List.take_set_of_le (Nat.le_refl _)]
  simp
 ·rw [List.getElem?_set_ne (by omega)];exact h.tl t (by omega) h2
theorem DelSt.drop {p:Int->Bool} {xs:List Int} {n:Nat} {cur:List Value} {i j:Nat} (h:DelSt p xs n cur i j) (hx:xs.length=n) (hj:j<n) (hv:p (el xs j)=true):DelSt p xs n cur i (j+1):=by
 have e:(xs.take (j+1)).filter (fun x=>!p x)=(xs.take j).filter (fun x=>!p x):=by
  rw [zd0 (by omega),List.filter_append];simp [hv]
 have hij:=h.ij
 exact ⟨by rw [e,h.hi],by omega,by rw [e];exact h.hd,fun t h1 h2=>h.tl t (by omega) h2⟩
theorem DelSt.first {p:Int->Bool} {xs:List Int} {n k:Nat} {cur:List Value} (hx:xs.length=n) (hk:k<n) (hcur:cur.take n=xs.map (Value.int .i64)) (hv:p (el xs k)=true) (hq:∀ i,i<k->p (el xs i)=false):DelSt p xs n cur k (k+1):=by
 have e0:(xs.take k).filter (fun x=>!p x)=xs.take k:=by
  rw [List.filter_eq_self]
  intro x hm
  obtain ⟨i,hi,e⟩:=List.mem_iff_getElem.1 hm
  simp only [List.length_take] at hi
  have:=hq i (by omega)
  rw [zc1 (by omega)] at this
  rw [<- e];simp [this]
 have e:(xs.take (k+1)).filter (fun x=>!p x)=xs.take k:=by
  rw [zd0 (by omega),List.filter_append,e0];simp [hv]
 refine ⟨by rw [e];simp;omega,by omega,?_,fun t h1 h2=>?_⟩
 ·rw [e,List.map_take,<- hcur,List.take_take,Nat.min_eq_left (by omega)]
 ·have:(cur.take n)[t]? = (xs.map (Value.int .i64))[t]? := by rw [hcur]
  rw [List.getElem?_take,if_pos h2] at this
  rw [this,zc1 (by omega)];simp [show t<xs.length by omega]
structure RowIs (w:World) (g:Nat) (cur:List Value) (c:Nat):Prop where
 row:w.heap[g]? = some (.cells cur.toArray 3 (0,0))
 len:cur.length=c
theorem OwnI.rowIs {base:Nat} {w:World} {ad:Addr} {n c:Nat} {xs:List Int} (h:OwnI base w (.slice (some ad) n c) xs) :
  ∃ g cur,ad=⟨g,0,Option.none⟩/\base<=g/\n=xs.length/\n<=c/\c<=maxLen/\RowIs w g cur c/\cur.take n=xs.map (Value.int .i64):=by
 obtain ⟨h1,⟨hh,_⟩ | ⟨g,cap,cur,hv,hg,hh,hl,hm,hs,ht⟩⟩:=h
 ·simp at hh
 ·simp only [Value.slice.injEq,Option.some.injEq] at hv
  obtain ⟨rfl,rfl,rfl⟩:=hv
  exact ⟨g,cur.toList,rfl,hg,rfl,hl,hm,⟨by simpa using hh,by simpa using hs⟩,by simpa using ht⟩
theorem RowIs.owns {w:World} {g c i:Nat} {cur:List Value} {l:List Int} {base:Nat} (h:RowIs w g cur c) (hb:base<=g) (hi:l.length=i) (hl:i<=c) (hm:c<=maxLen) (ht:cur.take i=l.map (Value.int .i64)):OwnI base w (.slice (some ⟨g,0,Option.none⟩) i c) l:=by
 subst hi
 exact ⟨by simp,.inr ⟨g,c,cur.toArray,rfl,hb,h.row,hl,hm,by simp [h.len],by simpa using ht⟩⟩
theorem zj1 {w:World} {g c:Nat} {cur:List Value} (h:RowIs w g cur c) (o:Nat) (l:List Value):∃ cur',RowIs (w.setCells g o l) g cur' c/\cur'.take o=cur.take o/\w.grownBy (w.setCells g o l) (some g):=by
 induction l generalizing w cur o with
 | nil=>exact ⟨cur,h,rfl,World.grownBy.refl _ _⟩
 | cons v l ih=>
  have h1:RowIs (w.setCell ⟨g,o,none⟩ v) g (cur.set o v) c:=⟨zoU h.row o v,by simpa using h.len⟩
  obtain ⟨c2,h2,h3,h4⟩:=ih h1 (o+1)
  refine ⟨c2,h2,?_,zfQ (zg8 (World.grownBy.refl _ _) o v) h4⟩
  have e:(c2.take (o+1)).take o=((cur.set o v).take (o+1)).take o:=by rw [h3]
  rw [List.take_take,List.take_take,Nat.min_eq_left (by omega),List.take_set_of_le (Nat.le_refl _)] at e
  exact e
theorem zuK:∀ w,(zeroValue 3).run Tryz.prog w = .ok (.int .i64 0) w:=fun w=>by kernel_rfl
def zwC (base:Nat) (w:World) (row:Option Nat) (l:List Int) (e:Ending) (w':World):Prop:=∃ v,e = .returned v/\OwnI base w' v l/\w.grownBy w' row
theorem zlr {p:Int->Bool} {xs:List Int} {n:Nat} (hn:xs.length=n) (hq:∀ i,i<n->p (el xs i)=false):xs.filter (fun x=>!p x)=xs:=by
 rw [List.filter_eq_self]
 intro x hm
 obtain ⟨i,hi,e⟩:=List.mem_iff_getElem.1 hm
 have:=hq i (by omega)
 rw [zc1 hi,e] at this
 simp [this]
set_option maxRecDepth 100000 in
set_option maxHeartbeats 1000000 in
theorem zhh (g:Nat) (cv:Value) (p:Int->Bool) (I:World->Prop) (hp:zrC g cv p I) (eg:∀ args w,(callFunc g args).run Tryz.prog w = .ok (.enter g args) w)
  (base:Nat) (a:Option Addr) (n c:Nat) (xs:List Int) (w:World) (hI:∀ w',w.grownBy w' (Value.ownBlock (.slice a n c))->I w') (ho:OwnI base w (.slice a n c) xs) (hb:∀ x∈xs,-9223372036854775808<=x/\x<=9223372036854775807) (hbase:base<=w.heap.size) :
  Calls Tryz.prog 106 #[.slice a n c,.func (.func g) #[] #[cv]] w (zwC base w (Value.ownBlock (.slice a n c)) (xs.filter (fun x=>!p x))):=by
 obtain ⟨a',c',e,hsl⟩:=ho.sl hb
 obtain ⟨rfl,rfl,rfl⟩:a=a'/\n=xs.length/\c=c':=by simpa using e
 clear e
 have hm:=hsl.mx
 have hIF:=zi5 g cv p I hp eg a xs.length c xs w (fun w' h=>hI w' (zxt h)) hsl
 generalize hn:xs.length=n at *
 by_cases hnone:∀ i,i<n->p (el xs i)=false
 case pos=>
  have e1:=Lib.hid (zke hn hnone)
  have e2:=Lib.hid (zlr hn hnone)
  have HN:=Lib.hid hn
  have HO:=Lib.hid ho
  have HNO:=Lib.hid hnone
  clear hn ho hnone hI
  go_enter Tryz.func106,Tryz.ntmps106
  go_wp2_with fail
  refine hIF.mono ?_
  rw [e1.out]
  rintro e w1 ⟨rfl,hb1⟩
  go_wp2_with fail
  go_ret
  rw [e2.out]
  exact ⟨_,rfl,HO.out.below hb1 (Nat.le_refl _),zdh hb1⟩
 case neg=>
  obtain ⟨k,hk,hkp,hkq⟩:∃ k,k<n/\p (el xs k)=true/\∀ i,i<k->p (el xs i)=false:=by
   have hlt:xs.findIdx p<xs.length:=by
    apply Classical.byContradiction
    intro h
    apply hnone
    intro i hi
    have h3:xs.findIdx p=xs.length:=by have:=List.findIdx_le_length (xs:=xs) (p:=p);omega
    have h4:=(List.findIdx_eq_length.1 h3) xs[i] (List.getElem_mem _)
    rw [zc1 (by omega)];simpa using h4
   refine ⟨xs.findIdx p,by omega,?_,fun i hi=>?_⟩
   ·rw [zc1 hlt];exact List.findIdx_getElem (w:=hlt)
   ·rw [zc1 (by omega)]
    have:=List.not_of_lt_findIdx hi
    simpa using this
  obtain ⟨ba,oa,rfl,_,_⟩:=hsl.row (by omega)
  obtain ⟨gr,cur0,had,hbg,hnl,hnc,hcm,hrow0,hcur0⟩:=ho.rowIs
  obtain ⟨rfl,rfl⟩:ba=gr/\oa=0:=by simpa using had
  have e1:=Lib.hid (zpX hn hk hkp hkq)
  have HST:=Lib.hid (DelSt.first hn hk hcur0 hkp hkq)
  have HN:=Lib.hid hn
  have HI:=Lib.hid hI
  have HR0:=Lib.hid hrow0
  have hgl:ba<w.heap.size:=(Array.getElem?_eq_some_iff.1 hrow0.row).1
  have hcm':=hcm
  unfold maxLen at hcm'
  clear hn ho hnone hI hrow0 hcur0 hkp hkq had hnl
  go_enter Tryz.func106,Tryz.ntmps106
  go_wp2_with fail
  refine hIF.mono ?_
  rw [e1.out]
  rintro e w1 ⟨rfl,hb1⟩
  have hk1:((k:Int) == -1)=false:=by simp
  go_wp2_with fail
  go_loopw [5,6] (fun ti tj wr=>∃ i j:Nat,∃ cur,i<j/\j<=n/\ti = .int .i64 i/\tj = .int .i64 j/\DelSt p xs n cur i j/\RowIs wr ba cur c/\w.grownBy wr (some ba)) (fun _ tj _=>n-(intOf tj).toNat)
  case atStart=>
   refine ⟨k,k+1,cur0,by omega,by omega,rfl,by go_num,HST.out,⟨?_,HR0.out.len⟩,zdh hb1⟩
   rw [hb1.block _ hgl];exact HR0.out.row
  case round=>
   obtain ⟨i,j,cur,hij,hj,rfl,rfl,hst,hrow,hgrow⟩:=hrel
   have hcl:=hrow.len
   by_cases hlt:j<n
   ·have k0:(0:Int)<=(j:Int):=by omega
    have k1:(j:Int)<(n:Int):=by omega
    have k2:(i:Int)<(n:Int):=by omega
    have cj:wr.cell? ⟨ba,j,none⟩=some (.int .i64 (el xs j)):=zfN hrow.row (hst.tl j (Nat.le_refl _) hlt)
    have HS:=Lib.hid hst
    have HR:=Lib.hid hrow
    have HG:=Lib.hid hgrow
    have HCL:=Lib.hid hcl
    clear hst hrow hgrow hcl
    cases hv:p (el xs j)
    case true=>
     have HV:=Lib.hid hv
     clear hv
     go_wp2_with fail
     refine (hp _ _ (HI.out _ HG.out)).mono ?_
     rw [HV.out]
     rintro e w2 ⟨rfl,hb2⟩
     go_wp2_with fail
     go_roundw
     case rel=>exact ⟨i,j+1,cur,by omega,by omega,rfl,by go_num,HS.out.drop HN.out hlt HV.out,⟨by rw [hb2.block _ (Array.getElem?_eq_some_iff.1 HR.out.row).1];exact HR.out.row,HR.out.len⟩,zfQ HG.out (zdh hb2)⟩
     case measure=>simp [intOf];omega
    case false=>
     have HV:=Lib.hid hv
     clear hv
     go_wp2_with fail
     refine (hp _ _ (HI.out _ HG.out)).mono ?_
     rw [HV.out]
     rintro e w2 ⟨rfl,hb2⟩
     have HR2:Hid (RowIs w2 ba cur c):=⟨by rw [hb2.block _ (Array.getElem?_eq_some_iff.1 HR.out.row).1];exact HR.out.row,HR.out.len⟩
     have ci:w2.cell? ⟨ba,i,none⟩=some (cur[i]'(by rw [HCL.out];omega)):=zfN HR2.out.row (by simp)
     have fi:=zhw HR2.out.row i
     go_wp2_with fail
     go_roundw
     case rel=>exact ⟨i+1,j+1,_,by omega,by omega,by go_num,by go_num,HS.out.keep HN.out (by rw [HCL.out];exact hnc) hlt HV.out,⟨zoU HR2.out.row i _,by simpa using HCL.out⟩,zg8 (zfQ HG.out (zdh hb2)) _ _⟩
     case measure=>simp [intOf];omega
   ·have k1:¬ (j:Int)<(n:Int):=by omega
    obtain rfl:j=n:=by omega
    have k2:(i:Int)<=(j:Int):=by omega
    have k3:(i:Int)<=(c:Int):=by omega
    have HS:=Lib.hid hst
    have HR:=Lib.hid hrow
    have HG:=Lib.hid hgrow
    have hclr:=Lib.run_clear_slice (P:=Tryz.prog) wr 38 3 0 (.int .i64 0) Tryz.underlying38 zuK rfl rfl ba i (j-i) (c-i) (by omega)
     (fun t ht=>by rw [zfN hrow.row (v:=cur[i+t]'(by omega)) (by simp)];rfl) (fun t ht=>zhw hrow.row _)
    obtain ⟨w3,cur3,hw3,hrow3,htk3,hgrow3⟩:∃ w3 cur3,wr.setCells ba i (List.replicate (j-i) (.int .i64 0))=w3/\RowIs w3 ba cur3 c/\cur3.take i=cur.take i/\wr.grownBy w3 (some ba):=by
     obtain ⟨c3,h1,h2,h3⟩:=zj1 hrow i (List.replicate (j-i) (.int .i64 0))
     exact ⟨_,c3,rfl,h1,h2,h3⟩
    rw [hw3] at hclr
    have HR3:=Lib.hid hrow3
    have HT3:=Lib.hid htk3
    have HG3:=Lib.hid hgrow3
    clear hst hrow hgrow hcl hw3 hrow3 htk3 hgrow3
    have k4:(i:Int)<=(j:Int):=by omega
    go_wp2
    go_ret
    have hfx:(xs.take j)=xs:=List.take_of_length_le (by rw [HN.out];exact Nat.le_refl _)
    refine ⟨_,rfl,HR3.out.owns hbg ?_ (by omega) hcm ?_,zfQ HG.out HG3.out⟩
    ·have:=HS.out.hi;rw [hfx] at this;exact this.symm
    ·rw [HT3.out];have:=HS.out.hd;rw [hfx] at this;exact this
def zcx (v:Int) (s:List Int×Bool) (x:Int):List Int×Bool:=if s.2=false/\v<x then (s.1++[v]++[x],true) else (s.1++[x],s.2)
def zkX (xs:List Int) (v:Int):Nat->List Int×Bool
 | 0=>([],hasB xs v)
 | k+1=>zcx v (zkX xs v k) (el xs k)
def putL (xs:List Int) (v:Int):List Int:=if (zkX xs v xs.length).2 then (zkX xs v xs.length).1 else (zkX xs v xs.length).1++[v]
def zcf (w:World) (code:Int) (l:List Int) (e:Ending) (w':World):Prop:=∃ v,e = .returned (.tuple #[v,.int .i64 code])/\OwnI w.heap.size w' v l/\Below w.heap.size w w'
def za8 (xs:List Int) (v:Int):List Int:=xs.filter (fun x=>!(x==v))
theorem zjk (x v:Int) (bx:Nat) (w:World) (hc:w.cell? ⟨bx,0,none⟩=some (.int .i64 v)) :
  Calls Tryz.prog 107 #[.int .i64 x,.pointer (some ⟨bx,0,none⟩)] w fun e w'=>e = .returned (.bool (x==v))/\Below w.heap.size w w':=by
 generalize hr:(x==v)=r
 go_enter Tryz.func107,Tryz.ntmps107
 go_wp2
 go_ret
 exact ⟨rfl,Below.refl _ _⟩
theorem znp (a:Option Addr) (n c:Nat) (xs:List Int) (v:Int) (w:World) (ha:IntSl w a n xs) (hn:n<=1099511627776) (hi:isB xs=false) :
  Calls Tryz.prog 81 #[.slice a n c,.int .i64 v] w (zcf w 1 []):=by
 have HI:=Lib.hid hi
 clear hi
 go_enter Tryz.func81,Tryz.ntmps81
 go_wp2_with fail
 refine (zcR _ _ _ xs _ (ha.alloc _)).mono ?_
 rw [HI.out]
 rintro e w1 ⟨rfl,q,rfl⟩
 go_wp2_with fail
 go_ret2
 exact ⟨_,rfl,OwnI.nil _ _,zc4 ((Below.refl _ _).alloc (Nat.le_refl _) _) _⟩
theorem zkK (a:Option Addr) (n c:Nat) (xs:List Int) (v:Int) (w:World) (ha:IntSl w a n xs) (hn:n<=1099511627776) (hi:isB xs=true) :
  Calls Tryz.prog 81 #[.slice a n c,.int .i64 v] w (zcf w 0 (za8 xs v)):=by
 have HI:=Lib.hid hi
 have hbd:=ha.bd
 have eg:∀ args w,(callFunc 107 args).run Tryz.prog w = .ok (.enter 107 args) w:=enters_of Tryz.func107 (by kernel_rfl) rfl
 have HEG:=Lib.hid eg
 clear hi eg
 go_enter Tryz.func81,Tryz.ntmps81
 go_wp2_with fail
 refine (zcR _ _ _ xs _ (ha.alloc _)).mono ?_
 rw [HI.out]
 rintro e w1 ⟨rfl,q,rfl⟩
 go_wp2_with fail
 refine (zrp _ _ _ xs _ ((ha.alloc _).drewN _) hn).mono ?_
 rintro e w2 ⟨cv,rfl,hown,hb2⟩
 have hs2:=hb2.size
 simp at hs2
 have HO:=Lib.hid (hown.mono (B:=w.heap.size+1) (by simp))
 have B2:Below w.heap.size w w2:=(zc4 ((Below.refl _ _).alloc (Nat.le_refl _) _) q).trans (hb2.mono (by simp))
 have HB2:=Lib.hid B2
 obtain ⟨ca,cc,rfl,hsl⟩:=hown.sl hbd
 have hbox:w2.cell? ⟨w.heap.size,0,none⟩=some (.int .i64 v):=by
  rw [hb2.cell (p:=⟨w.heap.size,0,none⟩) (by simp)]
  simp
 have hpred:zrC 107 (.pointer (some ⟨w.heap.size,0,none⟩)) (fun x=>x==v) (fun w'=>w'.cell? ⟨w.heap.size,0,none⟩=some (.int .i64 v)):=fun x w' h=>zjk x v _ w' h
 have hdel:=zhh _ _ _ _ hpred HEG.out (w.heap.size+1) ca xs.length cc xs w2 (fun w' hg=>?_) HO.out hbd (by omega)
 rotate_left
 ·refine hg.cell hbox ?_
  intro e
  have:=World.ownsRow.lt HO.out _ e.symm
  dsimp only at this
  omega
 have HD:=Lib.hid hdel
 clear hown hb2 B2 hbox hdel hpred
 go_wp2_with fail
 refine HD.out.mono ?_
 rintro e w3 ⟨dv,rfl,ho3,hg3⟩
 go_wp2_with fail
 go_ret2
 refine ⟨_,rfl,ho3.mono (by omega),HB2.out.grown hg3 HB2.out.size (fun k hk=>?_)⟩
 have:=World.ownsRow.lt HO.out _ hk
 omega
theorem ze6 {ops:Array Oper} {rest:List Oper} {o:Oper} {a:Act} {Q:Exit->Act->World->Prop} {wr:World} (hgd:o.guard=none) (s x:Operand) (t:TypeId)
  (ho:o.op = .call {callee:= .builtin .append,args:= #[s,x],argTypes:= #[t,t]}) (ht:Tryz.prog.underlying t=some (.slice 3))
  (base:Nat) (v:Value) (xs:List Int) (hs:a.eval s=v) (hown:OwnI base wr v xs) (ao:Option Addr) (m c:Nat) (ys:List Int) (hsl:IntSl wr ao m ys) (hnil:ao=none->c=0) (hx:a.eval x = .slice ao m c)
  (hn:xs.length+m<8796093022208) (hbase:base<=wr.heap.size)
  (h:∀ v' w',OwnI base w' v' (xs++ys)->wr.grownBy w' v.ownBlock->wpList Tryz.prog ops Q rest (a.put o.dst v') w'):wpList Tryz.prog ops Q (o::rest) a wr:=by
 cases ao with
 | some ad=>exact zeo hgd s x t ho ht base v xs hs hown ad m c ys hsl hx hn hbase h
 | none=>
  obtain ⟨rfl,rfl⟩:=hsl.none
  obtain rfl:c=0:=hnil rfl
  obtain ⟨i0,hi,hz0,hz1,hz2⟩:=info_parts zlp
  refine Lib.wpList_append_run _ hgd s x t t ho v _ hs hx v wr (run_append_owned_none wr base t o.type 3 i0 1 ht hi v xs.length _ hown) ?_
  exact h v wr (by rw [List.append_nil];exact hown) (World.grownBy.refl _ _)
theorem zhb (n:Nat):(Builtin.zeroCells #[Value.int .i64 0] n).size=n:=by simp [Builtin.zeroCells]
set_option maxRecDepth 100000 in
theorem zta (n:Nat) (N:Int) (w:World) (hN:N=n) (hn:n<=2199023255552) :
  Calls Tryz.prog 133 #[.slice none 0 0,.int .i64 N] w (zji w []):=by
 subst hN
 obtain ⟨i0,hi,hz0,hz1,hz2⟩:=info_parts zlp
 by_cases h0:n=0
 ·subst h0
  go_enter Tryz.func133,Tryz.ntmps133
  go_wp2
  go_ret
  exact ⟨_,rfl,OwnI.nil _ _,Below.refl _ _⟩
 ·have t1:¬ (n:Int)<0:=by omega
  have t2:(0:Int)<(n:Int):=by omega
  have hr:=fun ty=>Lib.run_append_nil_zeros (P:=Tryz.prog) w 26 3 ty 3 i0 (.int .i64 0) .i64 .i64 Tryz.underlying26 Tryz.underlying3 hi hz0 n (by omega) (by omega) (by omega) (by rw [hz2];omega)
  have HR:=Lib.hid hr
  have hcap:=grownCap_ge w n 0 3
  have hcap2:=grownCap_le_maxLen w n 0 3 (by unfold maxLen;omega)
  clear hr
  go_enter Tryz.func133,Tryz.ntmps133
  go_wp2_with (at_builtin;refine Lib.wpList_append_run _ rfl (.tmp 20) (.tmp 21) 26 3 rfl _ _ rfl rfl _ _ (HR.out _) ?_)
  go_ret
  refine ⟨_,rfl,?_,((Below.refl _ _).alloc (Nat.le_refl _) _).drew⟩
  refine World.ownsRow_made w _ _ (Nat.le_refl _) hcap2 ?_
  simp only [Array.size_append,zhb];omega
theorem zl8 (gr:Nat) (a:Option Addr) (n ca:Nat) (xs:List Int) (b:Option Addr) (m cb:Nat) (ys:List Int) (w:World)
  (h0:w.cell? ⟨gr,0,none⟩=some (.slice a n ca)) (h1:w.cell? ⟨gr,1,none⟩=some (.slice b m cb)) (hgr:gr<w.heap.size) (ha:IntSl w a n xs) (hb:IntSl w b m ys) (hna:a=none->ca=0) (hnb:b=none->cb=0) (hn:n<=1099511627776) (hm:m<=1099511627776) :
  Calls Tryz.prog 117 #[.slice (some ⟨gr,0,none⟩) 2 2] w (zji w (xs++ys)):=by
 have q1:(0:Int)<=(n:Int):=by omega
 have q2:(0:Int)<=(n:Int)+(m:Int):=by omega
 have H0:=Lib.hid h0
 have H1:=Lib.hid h1
 have hla:=ha.len
 have hlx:=Lib.hid (show ([]++xs).length+m<8796093022208 by simp;omega)
 clear hla
 go_enter Tryz.func117,Tryz.ntmps117
 go_wp2
 refine wp_loop_rounds 3 ?_
 rw [rounds_succ]
 go_wp2
 rw [rounds_succ]
 go_wp2
 rw [rounds_succ]
 go_wp2_with fail
 refine (zta (n+m) _ _ (by omega) (by omega)).mono ?_
 rintro e w1 ⟨v1,rfl,ho1,hb1⟩
 have g0:w1.cell? ⟨gr,0,none⟩=some (.slice a n ca):=by rw [hb1.cell (p:=⟨gr,0,none⟩) hgr];exact H0.out
 have z1:=hb1.size
 clear h0 h1
 have HO1:=Lib.hid ho1
 have HB1:=Lib.hid hb1
 have ha1:=Lib.hid (ha.below hb1)
 clear ho1 hb1
 go_wp2_with fail
 refine wp_loop_rounds 3 ?_
 rw [rounds_succ]
 go_wp2_with (at_builtin;refine ze6 rfl (.tmp 31) (.tmp 32) 26 rfl Tryz.underlying26 w.heap.size _ [] rfl HO1.out a n ca xs ha1.out hna rfl (by simp;omega) z1 ?_;intro v2 w2 ho2 hg2;have HO2:=Lib.hid ho2;have HB2:=Lib.hid (HO1.out.bel HB1.out hg2 z1);clear ho2 hg2;have g1:w2.cell? ⟨gr,1,none⟩=some (.slice b m cb):=(HB2.out.cell (p:=⟨gr,1,none⟩) hgr).trans H1.out;have hb2:=Lib.hid (hb.below HB2.out);have z2:=HB2.out.size)
 rw [rounds_succ]
 go_wp2_with (at_builtin;refine ze6 rfl (.tmp 31) (.tmp 32) 26 rfl Tryz.underlying26 w.heap.size _ ([]++xs) rfl HO2.out b m cb ys hb2.out hnb rfl hlx.out z2 ?_;intro v3 w3 ho3 hg3;have HO3:=Lib.hid ho3;have HB3:=Lib.hid (HO2.out.bel HB2.out hg3 z2);clear ho3 hg3)
 rw [rounds_succ]
 go_wp2
 go_ret
 exact ⟨_,rfl,by have:=HO3.out;rwa [List.nil_append] at this,HB3.out⟩
end Go.Proofs.YtkhphiahindnnaaGreat
namespace Go.Proofs
open Go.Shelf
def Tryz.lays189_ren:Go.Shelf.Ren:=⟨fun | 189=>118 | 125=>115 | 257=>134 | 128=>131 | 129=>132 | 294=>140 | 295=>141 | 296=>142 | 297=>143 | 298=>144 | 299=>145 | 216=>146 | 300=>147 | 301=>148 | 328=>150 | 329=>136 | 330=>137 | 331=>151 | 332=>152 | 215=>153 | 343=>154 | n=>n,fun | 28=>26 | 3=>3 | 46=>177 | 0=>0 | 51=>193 | 53=>195 | 4=>4 | 183=>186 | 182=>185 | 131=>190 | 5=>5 | 9=>9 | 218=>198 | 222=>202 | 228=>209 | 229=>110 | n=>n,fun | n=>n⟩
theorem Tryz.lays189:Go.Proofs.Lays.n189 Tryz.prog Tryz.lays189_ren:={
 mixed:=by kernel_rfl
 f125:=Tryz.func115.trans (congrArg some (by kernel_rfl))
 f128:=Tryz.func131.trans (congrArg some (by kernel_rfl))
 f129:=Tryz.func132.trans (congrArg some (by kernel_rfl))
 f189:=Tryz.func118.trans (congrArg some (by kernel_rfl))
 f215:=Tryz.func153.trans (congrArg some (by kernel_rfl))
 f216:=Tryz.func146.trans (congrArg some (by kernel_rfl))
 f257:=Tryz.func134.trans (congrArg some (by kernel_rfl))
 f294:=Tryz.func140.trans (congrArg some (by kernel_rfl))
 f295:=Tryz.func141.trans (congrArg some (by kernel_rfl))
 f296:=Tryz.func142.trans (congrArg some (by kernel_rfl))
 f297:=Tryz.func143.trans (congrArg some (by kernel_rfl))
 f298:=Tryz.func144.trans (congrArg some (by kernel_rfl))
 f299:=Tryz.func145.trans (congrArg some (by kernel_rfl))
 f300:=Tryz.func147.trans (congrArg some (by kernel_rfl))
 f301:=Tryz.func148.trans (congrArg some (by kernel_rfl))
 f328:=Tryz.func150.trans (congrArg some (by kernel_rfl))
 f329:=Tryz.func136.trans (congrArg some (by kernel_rfl))
 f330:=Tryz.func137.trans (congrArg some (by kernel_rfl))
 f331:=Tryz.func151.trans (congrArg some (by kernel_rfl))
 f332:=Tryz.func152.trans (congrArg some (by kernel_rfl))
 f343:=Tryz.func154.trans (congrArg some (by kernel_rfl))
 t0:=Tryz.underlying0
 a0:=Tryz.isAgg0
 z0:=Tryz.sizeOf0
 v0:=Tryz.zeroValue0
 t3:=Tryz.underlying3
 a3:=Tryz.isAgg3
 z3:=Tryz.sizeOf3
 v3:=Tryz.zeroValue3
 t4:=Tryz.underlying4
 a4:=Tryz.isAgg4
 z4:=Tryz.sizeOf4
 v4:=Tryz.zeroValue4
 t5:=Tryz.underlying5
 a5:=Tryz.isAgg5
 z5:=Tryz.sizeOf5
 v5:=Tryz.zeroValue5
 t9:=Tryz.underlying9
 a9:=Tryz.isAgg9
 z9:=Tryz.sizeOf9
 v9:=Tryz.zeroValue9
 t28:=Tryz.underlying26
 a28:=Tryz.isAgg26
 z28:=Tryz.sizeOf26
 v28:=Tryz.zeroValue26
 t46:=Tryz.underlying177
 a46:=Tryz.isAgg177
 z46:=Tryz.sizeOf177
 v46:=Tryz.zeroValue177
 t51:=Tryz.underlying193
 a51:=Tryz.isAgg193
 z51:=Tryz.sizeOf193
 v51:=Tryz.zeroValue193
 t53:=Tryz.underlying195
 a53:=Tryz.isAgg195
 z53:=Tryz.sizeOf195
 v53:=Tryz.zeroValue195
 t131:=Tryz.underlying190
 a131:=Tryz.isAgg190
 z131:=Tryz.sizeOf190
 v131:=Tryz.zeroValue190
 t182:=Tryz.underlying185
 a182:=Tryz.isAgg185
 z182:=Tryz.sizeOf185
 v182:=Tryz.zeroValue185
 t183:=Tryz.underlying186
 a183:=Tryz.isAgg186
 z183:=Tryz.sizeOf186
 v183:=Tryz.zeroValue186
 t218:=Tryz.underlying198
 a218:=Tryz.isAgg198
 z218:=Tryz.sizeOf198
 v218:=Tryz.zeroValue198
 t222:=Tryz.underlying202
 a222:=Tryz.isAgg202
 z222:=Tryz.sizeOf202
 v222:=Tryz.zeroValue202
 t228:=Tryz.underlying209
 a228:=Tryz.isAgg209
 z228:=Tryz.sizeOf209
 v228:=Tryz.zeroValue209
 t229:=Tryz.underlying110
 a229:=Tryz.isAgg110
 z229:=Tryz.sizeOf110
 v229:=Tryz.zeroValue110}
open Go.Sort Go.RowKit in
theorem Tryz.slices_Sort_int (blk off cap:Nat) (zs:List Int) (w:World) (hH:Holds (Value.int .i64) w blk off zs.toArray) (hblk:blk<w.heap.size) (hsz:zs.length<4611686018427387904) :
  Calls Tryz.prog 118 #[.slice (some ⟨blk,off,none⟩) zs.length cap] w fun e w' =>
   e = .returned (.tuple #[])/\∃ n os,w'=grow (putRow (Value.int .i64) (Sort.ahead w n) blk off (zs.mergeSort fun x y=>decide (x<=y)).toArray) os:=Any.slices_Sort_int Tryz.lays189 blk off cap zs w hH hblk hsz
def Tryz.laysNm220_ren:Go.Shelf.Ren:=⟨fun | 20=>119 | n=>n,fun | 22=>26 | 3=>3 | 4=>4 | 0=>0 | n=>n,fun | n=>n⟩
theorem Tryz.laysNm220:Go.Proofs.Lays2.n20 Tryz.prog Tryz.laysNm220_ren:={
 mixed:=by kernel_rfl
 f20:=Tryz.func119.trans (congrArg some (by kernel_rfl))
 t0:=Tryz.underlying0
 a0:=Tryz.isAgg0
 z0:=Tryz.sizeOf0
 v0:=Tryz.zeroValue0
 t3:=Tryz.underlying3
 a3:=Tryz.isAgg3
 z3:=Tryz.sizeOf3
 v3:=Tryz.zeroValue3
 t4:=Tryz.underlying4
 a4:=Tryz.isAgg4
 z4:=Tryz.sizeOf4
 v4:=Tryz.zeroValue4
 t22:=Tryz.underlying26
 a22:=Tryz.isAgg26
 z22:=Tryz.sizeOf26
 v22:=Tryz.zeroValue26
 i3:=by kernel_rfl}
open Go.RowKit Go.Lib Go.Sort in
theorem Tryz.slices_Compact_int (blk off cap:Nat) (zs:List Int) (w:World) (hH:Holds (Value.int .i64) w blk off zs.toArray) (hsz:zs.length<=9223372036854775807) (hcap:zs.length<=cap) :
  Calls Tryz.prog 119 #[.slice (some ⟨blk,off,none⟩) zs.length cap] w fun e w'=>e = .returned (.slice (some ⟨blk,off,none⟩) (Lib.compact zs).length cap)/\∃ q,w'=putRow (Value.int .i64) (Sort.ahead w q) blk off (Lib.compact zs++List.replicate (zs.length-(Lib.compact zs).length) 0).toArray:=Any.slices_Compact_int Tryz.laysNm220 blk off cap zs w hH hsz hcap
open Go.RowKit Go.Lib Go.Sort in
theorem Tryz.slices_Compact_int_empty (a:Option Addr) (cap:Nat) (w:World) :
  Calls Tryz.prog 119 #[.slice a 0 cap] w fun e w'=>e = .returned (.slice a 0 cap)/\w'=w:=Any.slices_Compact_int_empty Tryz.laysNm220 a cap w
open Go.RowKit Go.Sort in
theorem Tryz.slices_Sort_int_none (p:Option Addr) (cap:Nat) (w:World) :
  Calls Tryz.prog 118 #[.slice p 0 cap] w fun e w'=>e = .returned (.tuple #[])/\w'=w:=Any.slices_Sort_int_none Tryz.lays189 p cap w
def Tryz.laysSortF_ren:Go.Shelf.Ren:=⟨fun | 6=>102 | 15=>115 | 14=>114 | 28=>131 | 29=>132 | 20=>123 | 21=>124 | 22=>125 | 23=>126 | 24=>127 | 25=>128 | 26=>129 | 27=>130 | 46=>135 | 47=>136 | 48=>137 | 49=>138 | 50=>139 | 57=>149 | n=>n,fun | 22=>26 | 24=>3 | 25=>165 | 3=>3 | 39=>177 | 0=>0 | 53=>193 | 55=>195 | 4=>4 | 46=>186 | 45=>185 | 50=>190 | 5=>5 | 9=>9 | 66=>198 | 70=>202 | 76=>209 | 77=>110 | n=>n,fun | n=>n⟩
theorem Tryz.laysSortF:Go.Proofs.SlLaysF.n6 Tryz.prog Tryz.laysSortF_ren:={
 mixed:=by kernel_rfl
 f6:=⟨Tryz.f102.name,by decide,Tryz.func102.trans (congrArg some (by kernel_rfl))⟩
 f14:=⟨Tryz.f114.name,by decide,Tryz.func114.trans (congrArg some (by kernel_rfl))⟩
 f15:=Tryz.func115.trans (congrArg some (by kernel_rfl))
 f20:=⟨Tryz.f123.name,by decide,Tryz.func123.trans (congrArg some (by kernel_rfl))⟩
 f21:=⟨Tryz.f124.name,by decide,Tryz.func124.trans (congrArg some (by kernel_rfl))⟩
 f22:=⟨Tryz.f125.name,by decide,Tryz.func125.trans (congrArg some (by kernel_rfl))⟩
 f23:=⟨Tryz.f126.name,by decide,Tryz.func126.trans (congrArg some (by kernel_rfl))⟩
 f24:=⟨Tryz.f127.name,by decide,Tryz.func127.trans (congrArg some (by kernel_rfl))⟩
 f25:=⟨Tryz.f128.name,by decide,Tryz.func128.trans (congrArg some (by kernel_rfl))⟩
 f26:=⟨Tryz.f129.name,by decide,Tryz.func129.trans (congrArg some (by kernel_rfl))⟩
 f27:=⟨Tryz.f130.name,by decide,Tryz.func130.trans (congrArg some (by kernel_rfl))⟩
 f28:=Tryz.func131.trans (congrArg some (by kernel_rfl))
 f29:=Tryz.func132.trans (congrArg some (by kernel_rfl))
 f46:=⟨Tryz.f135.name,by decide,Tryz.func135.trans (congrArg some (by kernel_rfl))⟩
 f47:=Tryz.func136.trans (congrArg some (by kernel_rfl))
 f48:=Tryz.func137.trans (congrArg some (by kernel_rfl))
 f49:=⟨Tryz.f138.name,by decide,Tryz.func138.trans (congrArg some (by kernel_rfl))⟩
 f50:=⟨Tryz.f139.name,by decide,Tryz.func139.trans (congrArg some (by kernel_rfl))⟩
 f57:=⟨Tryz.f149.name,by decide,Tryz.func149.trans (congrArg some (by kernel_rfl))⟩
 t0:=Tryz.underlying0
 a0:=Tryz.isAgg0
 z0:=Tryz.sizeOf0
 v0:=Tryz.zeroValue0
 t3:=Tryz.underlying3
 a3:=Tryz.isAgg3
 z3:=Tryz.sizeOf3
 v3:=Tryz.zeroValue3
 t4:=Tryz.underlying4
 a4:=Tryz.isAgg4
 z4:=Tryz.sizeOf4
 v4:=Tryz.zeroValue4
 t5:=Tryz.underlying5
 a5:=Tryz.isAgg5
 z5:=Tryz.sizeOf5
 v5:=Tryz.zeroValue5
 t9:=Tryz.underlying9
 a9:=Tryz.isAgg9
 z9:=Tryz.sizeOf9
 v9:=Tryz.zeroValue9
 t22:=Tryz.underlying26
 a22:=Tryz.isAgg26
 z22:=Tryz.sizeOf26
 v22:=Tryz.zeroValue26
 a24:=Tryz.isAgg3
 z24:=Tryz.sizeOf3
 t25:=Tryz.underlying165
 a25:=Tryz.isAgg165
 z25:=Tryz.sizeOf165
 v25:=Tryz.zeroValue165
 t39:=Tryz.underlying177
 a39:=Tryz.isAgg177
 z39:=Tryz.sizeOf177
 v39:=Tryz.zeroValue177
 t45:=Tryz.underlying185
 a45:=Tryz.isAgg185
 z45:=Tryz.sizeOf185
 v45:=Tryz.zeroValue185
 t46:=Tryz.underlying186
 a46:=Tryz.isAgg186
 z46:=Tryz.sizeOf186
 v46:=Tryz.zeroValue186
 t50:=Tryz.underlying190
 a50:=Tryz.isAgg190
 z50:=Tryz.sizeOf190
 v50:=Tryz.zeroValue190
 t53:=Tryz.underlying193
 a53:=Tryz.isAgg193
 z53:=Tryz.sizeOf193
 v53:=Tryz.zeroValue193
 t55:=Tryz.underlying195
 a55:=Tryz.isAgg195
 z55:=Tryz.sizeOf195
 v55:=Tryz.zeroValue195
 t66:=Tryz.underlying198
 a66:=Tryz.isAgg198
 z66:=Tryz.sizeOf198
 v66:=Tryz.zeroValue198
 t70:=Tryz.underlying202
 a70:=Tryz.isAgg202
 z70:=Tryz.sizeOf202
 v70:=Tryz.zeroValue202
 t76:=Tryz.underlying209
 a76:=Tryz.isAgg209
 z76:=Tryz.sizeOf209
 v76:=Tryz.zeroValue209
 t77:=Tryz.underlying110
 a77:=Tryz.isAgg110
 z77:=Tryz.sizeOf110
 v77:=Tryz.zeroValue110}
end Go.Proofs
namespace Go.Proofs.YtkhphiahindnnaaGreat
open Go.RowKit
def zfi (xs:List Int):List Int:=xs.mergeSort fun x y=>decide (x<=y)
def znm (base:Nat) (w:World) (v:Value) (l:List Int) (e:Ending) (w':World):Prop:=e = .returned (.tuple #[])/\OwnI base w' v l/\w.grownBy w' v.ownBlock
theorem zst (base:Nat) (a:Option Addr) (n c:Nat) (xs:List Int) (w:World) (ho:OwnI base w (.slice a n c) xs) (hl:n<4611686018427387904) :
    Calls Tryz.prog 118 #[.slice a n c] w (znm base w (.slice a n c) (zfi xs)):=by
  by_cases h0:xs=[]
  · subst h0
    have hn:n=0:=by
      obtain ⟨h1,⟨hh,h2⟩ | ⟨g,cap,cur,hv,hg,hh,r⟩⟩:=ho
      · simp at hh;omega
      · simp at hv;omega
    subst hn
    refine (Tryz.slices_Sort_int_none a c w).mono ?_
    rintro e w' ⟨rfl,rfl⟩
    exact ⟨rfl,by simpa [zfi] using ho,World.grownBy.refl _ _⟩
  · cases a with
    | none => exfalso
              obtain ⟨h1,⟨hh,h2⟩ | ⟨g,cap,cur,hv,_⟩⟩:=ho
              · exact h0 (List.eq_nil_of_length_eq_zero h2)
              · simp at hv
    | some ad=>
      have ho':=ho
      obtain ⟨h1,⟨hh,h2⟩ | ⟨g,cap,cur,hv,hg,hh,hle,hm,hs,ht⟩⟩:=ho
      · simp at hh
      · simp only [Value.slice.injEq,Option.some.injEq] at hv
        obtain ⟨rfl,rfl,rfl⟩:=hv
        rw [Nat.mul_one] at ht
        have hH:=holds_of_blockI hh ht
        refine (Tryz.slices_Sort_int g 0 c xs w hH (Array.getElem?_eq_some_iff.1 hh).1 hl).mono ?_
        rintro e w' ⟨rfl,n,os,rfl⟩
        refine ⟨rfl,?_,grownBy_sortedI _⟩
        have e1:(zfi xs).length=xs.length:=by simp [zfi]
        have:=ownsRow_sortedI (n:=n) (os:=os) (ss:=xs) (ts:=zfi xs) e1 hg hh hle hm hs
        show World.ownsRow _ _ _ _ _ _ _
        rw [e1];exact this
def zwD (base:Nat) (w:World) (v:Value) (l:List Int) (e:Ending) (w':World):Prop:=∃ v',e = .returned v'/\OwnI base w' v' l/\w.grownBy w' v.ownBlock
theorem zl9 (base:Nat) (a:Option Addr) (n c:Nat) (xs:List Int) (w:World) (ho:OwnI base w (.slice a n c) xs) (hl:n<=9223372036854775807) :
    Calls Tryz.prog 119 #[.slice a n c] w (zwD base w (.slice a n c) (Lib.compact xs)):=by
  by_cases h0:xs=[]
  · subst h0
    have hn:n=0:=by
      obtain ⟨h1,⟨hh,h2⟩ | ⟨g,cap,cur,hv,hg,hh,r⟩⟩:=ho
      · simp at hh;omega
      · simp at hv;omega
    subst hn
    refine (Tryz.slices_Compact_int_empty a c w).mono ?_
    rintro e w' ⟨rfl,rfl⟩
    exact ⟨_,rfl,ho,World.grownBy.refl _ _⟩
  · cases a with
    | none => exfalso
              obtain ⟨h1,⟨hh,h2⟩ | ⟨g,cap,cur,hv,_⟩⟩:=ho
              · exact h0 (List.eq_nil_of_length_eq_zero h2)
              · simp at hv
    | some ad=>
      have ho':=ho
      obtain ⟨h1,⟨hh,h2⟩ | ⟨g,cap,cur,hv,hg,hh,hle,hm,hs,ht⟩⟩:=ho
      · simp at hh
      · simp only [Value.slice.injEq,Option.some.injEq] at hv
        obtain ⟨rfl,rfl,rfl⟩:=hv
        rw [Nat.mul_one] at ht
        have hH:=holds_of_blockI hh ht
        refine (Tryz.slices_Compact_int g 0 c xs w hH hl hle).mono ?_
        rintro e w' ⟨rfl,q,rfl⟩
        have hcl:=Lib.compact_length_le xs
        have hlen:(Lib.compact xs++List.replicate (xs.length-(Lib.compact xs).length) 0).length=xs.length:=by simp;omega
        refine ⟨_,rfl,?_,grownBy_sortedI (n:=q) (os:= #[]) _⟩
        have:=Lib.ownsRow_putRow (q:=q) ho' hlen hcl
        rw [List.take_left] at this
        exact this
def zbe (xs:List Int):List Int:=Lib.compact (zfi xs)
theorem zsu {xs:List Int} (h:∀ x∈xs,-9223372036854775808<=x/\x<=9223372036854775807):∀ x∈zfi xs,-9223372036854775808<=x/\x<=9223372036854775807:=
 fun x hx=>h x ((List.mergeSort_perm xs _).mem_iff.1 hx)
theorem zgV {xs:List Int} {x:Int} (h:x∈Lib.compact xs):x∈xs:=by
 unfold Lib.compact Lib.compactUpTo at h
 obtain ⟨i,hi,e⟩:=List.mem_map.1 h
 have h2:=(List.mem_filter.1 hi).1
 rw [List.mem_range] at h2
 rw [<- e,getElem!_pos _ _ (by simpa using h2)]
 simp
theorem zh7 (gr:Nat) (a:Option Addr) (n ca:Nat) (xs:List Int) (b:Option Addr) (m cb:Nat) (ys:List Int) (w:World)
  (h0:w.cell? ⟨gr,0,none⟩=some (.slice a n ca)) (h1:w.cell? ⟨gr,1,none⟩=some (.slice b m cb)) (hgr:gr<w.heap.size) (ha:IntSl w a n xs) (hb:IntSl w b m ys) (hna:a=none->ca=0) (hnb:b=none->cb=0) (hn:n<=1099511627776) (hm:m<=1099511627776) (code:Int) (l:List Int)
  (hcl:((zbe (xs++ys)).length<=16/\code=0/\l=zbe (xs++ys))\/(16<(zbe (xs++ys)).length/\code=2/\l=[])) :
  Calls Tryz.prog 108 #[.slice (some ⟨gr,0,none⟩) 2 2] w (zcf w code l):=by
 have hbd:∀ x∈xs++ys,-9223372036854775808<=x/\x<=9223372036854775807:=by
  intro x hx
  rcases List.mem_append.1 hx with h | h
  ·exact ha.bd x h
  ·exact hb.bd x h
 have hlx:(xs++ys).length=n+m:=by simp [ha.len,hb.len]
 have hls:(zfi (xs++ys)).length=n+m:=by simp [zfi,ha.len,hb.len]
 have HLX:=Lib.hid hlx
 have HLS:=Lib.hid hls
 have hbs:=zsu hbd
 have hcc:=zl8 gr a n ca xs b m cb ys w h0 h1 hgr ha hb hna hnb hn hm
 generalize hz:xs++ys=zs at *
 have hbc:(zbe zs).length<=n+m:=by have:=Lib.compact_length_le (zfi zs);unfold zbe;omega
 have hbm:∀ x∈zbe zs,-9223372036854775808<=x/\x<=9223372036854775807:=fun x hx=>hbs x (zgV hx)
 have HCL:=Lib.hid hcl
 clear hlx hls hz h0 h1 hcl
 go_enter Tryz.func108,Tryz.ntmps108
 go_wp2_with fail
 refine hcc.mono ?_
 rintro e w1 ⟨v1,rfl,ho1,hb1⟩
 obtain ⟨a1,c1,rfl,hs1⟩:=ho1.sl hbd
 have z1:=hb1.size
 have HO1:=Lib.hid ho1
 have HB1:=Lib.hid hb1
 have hz63:zs.length<4611686018427387904:=by have:=HLX.out;omega
 clear hs1 ho1 hb1
 go_wp2_with fail
 refine (zst w.heap.size _ _ _ zs _ HO1.out hz63).mono ?_
 rintro e w2 ⟨rfl,ho2,hg2⟩
 have HB2:=Lib.hid (HO1.out.bel HB1.out hg2 z1)
 have z2:=HB2.out.size
 have HO2:=Lib.hid ho2
 clear ho2 hg2
 have hz64:zs.length<=9223372036854775807:=by omega
 go_wp2_with fail
 refine (zl9 w.heap.size _ _ _ (zfi zs) _ HO2.out hz64).mono ?_
 rintro e w3 ⟨v3,rfl,ho3,hg3⟩
 have HB3:=Lib.hid (HO2.out.bel HB2.out hg3 z2)
 obtain ⟨a3,c3,rfl,hs3⟩:=OwnI.sl (xs:=zbe zs) ho3 hbm
 have HO3:Hid (OwnI w.heap.size w3 (.slice a3 (zbe zs).length c3) (zbe zs)):=ho3
 have hl3:(Lib.compact (zfi zs)).length=(zbe zs).length:=rfl
 clear ho3 hg3 hs3 hl3
 rcases HCL.out with ⟨h16,rfl,rfl⟩ | ⟨h16,rfl,rfl⟩
 ·have t1:¬ (16:Int)<((zbe zs).length:Int):=by omega
  generalize hml:(zbe zs).length=ml at *
  clear hml
  go_wp2_with fail
  go_ret2
  exact ⟨_,rfl,HO3.out,HB3.out⟩
 ·have t1:(16:Int)<((zbe zs).length:Int):=by omega
  generalize hml:(zbe zs).length=ml at *
  clear hml
  go_wp2_with fail
  go_ret2
  exact ⟨_,rfl,OwnI.nil _ _,HB3.out⟩
theorem zun (n:Int) (w:World) (h:1<=n) (h2:n<=9223372036854775807) :
  Calls Tryz.prog 104 #[.int .i64 n] w fun e w'=>e = .returned (.int .i64 (n / 2+1))/\w=w':=by
 have h':¬ n<1:=by omega
 go_enter Tryz.func104,Tryz.ntmps104
 go_wp2
 go_ret
 exact ⟨rfl,rfl⟩
def zcY (xs ys:List Int):Nat->Nat
 | 0=>0
 | k+1=>zcY xs ys k+(hasB ys (el xs k)).toNat
theorem zmZ (xs ys:List Int) (k:Nat):zcY xs ys k<=k:=by
 induction k with
 | zero=>exact Nat.le_refl _
 | succ k ih=>unfold zcY;cases hasB ys (el xs k)<;>simp<;>omega
theorem zkH (b:Option Addr) (m cb:Nat) (ys:List Int) (v:Int) (w:World) (hb:IntSl w b m ys) :
  Calls Tryz.prog 121 #[.agg #[.slice b m cb],.int .i64 v] w fun e w'=>e = .returned (.bool (hasB ys v))/\Below w.heap.size w w':=by
 go_enter Tryz.func121,Tryz.ntmps121
 go_wp2_with fail
 refine (zqg _ _ _ ys _ _ (by repeat (first | assumption | apply IntSl.drewN | apply IntSl.alloc))).mono ?_
 rintro e w' ⟨rfl,rfl⟩
 go_wp2_with fail
 go_ret
 exact ⟨rfl,by repeat (first | exact Below.refl _ _ | refine zc4 ?_ _ | refine Below.alloc ?_ (by simp<;>omega) _)⟩
theorem zrk (a:Option Addr) (n ca:Nat) (xs:List Int) (b:Option Addr) (m cb:Nat) (ys:List Int) (w:World) (ha:IntSl w a n xs) (hb:IntSl w b m ys) :
  Calls Tryz.prog 120 #[.slice a n ca,.func (.func 121) #[.agg #[.slice b m cb]] #[]] w fun e w'=>e = .returned (.int .i64 (zcY xs ys n))/\Below w.heap.size w w':=by
 have hm:=ha.mx
 go_enter Tryz.func120,Tryz.ntmps120
 go_wp2
 go_loopw [5,10] (fun t i wr=>∃ k:Nat,k<=n/\i = .int .i64 k/\t = .int .i64 (zcY xs ys k)/\Below w.heap.size w wr) (fun _ i _=>n-(intOf i).toNat)
 case atStart=>exact ⟨0,Nat.zero_le _,rfl,rfl,Below.refl _ _⟩
 case round=>
  obtain ⟨k,hk,rfl,rfl,hbel⟩:=hrel
  by_cases hlt:k<n
  ·have k0:(0:Int)<=(k:Int):=by omega
   have k1:(k:Int)<(n:Int):=by omega
   have hbw:=hb.below hbel
   obtain ⟨ba,oa,rfl,_,hca⟩:=(ha.below hbel).row (by omega)
   have ca:=hca k (by omega)
   have hle:=zmZ xs ys k
   have hsc:(zcY xs ys (k+1):Int)=zcY xs ys k+((hasB ys (el xs k)).toNat:Int):=by simp [zcY]
   have HSC:=Lib.hid hsc
   clear hca hsc
   cases hbool:hasB ys (el xs k)
   all_goals
    have HB:=Lib.hid hbool
    clear hbool
    go_wp2_with fail
    refine (zkH _ _ _ ys _ _ hbw).mono ?_
    rw [HB.out]
    rintro e w' ⟨rfl,hb2⟩
    go_wp2_with fail
    go_roundw
    case rel=>exact ⟨k+1,by omega,by go_num,by rw [HSC.out,HB.out];simp,hbel.trans (hb2.mono hbel.size)⟩
    case measure=>simp [intOf];omega
  ·have k1:¬ (k:Int)<(n:Int):=by omega
   obtain rfl:k=n:=by omega
   go_wp2
   go_ret
   exact ⟨rfl,hbel⟩
noncomputable def zci (xs ys:List Int):Bool:=isB xs&&decide ((0:Int)<(xs.length:Int))&&decide ((xs.length:Int)-(zcY xs ys xs.length:Int)<(zcY xs ys xs.length:Int))
theorem zpa {xs ys:List Int} (h:isB xs=false):zci xs ys=false:=by simp [zci,h]
theorem zn5 {xs ys:List Int} {n:Nat} (hn:xs.length=n) (h:n=0):zci xs ys=false:=by
 have:¬ (0:Int)<(xs.length:Int):=by omega
 simp only [zci,this,decide_false,Bool.and_false,Bool.false_and]
theorem zn4 {xs ys:List Int} {n:Nat} (hn:xs.length=n) (hp:0<n) (h:isB xs=true):zci xs ys=decide ((n:Int)-(zcY xs ys n:Int)<(zcY xs ys n:Int)):=by
 subst hn
 have:(0:Int)<(xs.length:Int):=by omega
 simp only [zci,h,this,decide_true,Bool.true_and]
set_option maxRecDepth 100000 in
theorem zkV (a:Option Addr) (n ca:Nat) (xs:List Int) (b:Option Addr) (m cb:Nat) (ys:List Int) (w:World) (ha:IntSl w a n xs) (hb:IntSl w b m ys) :
  Calls Tryz.prog 111 #[.slice a n ca,.slice b m cb] w fun e w'=>e = .returned (.bool (zci xs ys))/\Below w.heap.size w w':=by
 have hm:=ha.mx
 cases his:isB xs
 case false=>
  have HR:=Lib.hid (zpa (ys:=ys) his)
  have HI:=Lib.hid his
  clear his
  go_enter Tryz.func111,Tryz.ntmps111
  go_wp2_with fail
  refine (zcR _ _ _ xs _ ha).mono ?_
  rw [HI.out]
  rintro e w' ⟨rfl,q,rfl⟩
  go_wp2_with fail
  go_ret
  exact ⟨by rw [HR.out];rfl,by repeat (first | exact Below.refl _ _ | refine zc4 ?_ _ | refine Below.alloc ?_ (by simp<;>omega) _)⟩
 case true=>
  by_cases h0:n=0
  ·have HR:=Lib.hid (zn5 (ys:=ys) ha.len h0)
   have HI:=Lib.hid his
   clear his
   subst h0
   go_enter Tryz.func111,Tryz.ntmps111
   go_wp2_with fail
   refine (zcR _ _ _ xs _ ha).mono ?_
   rw [HI.out]
   rintro e w' ⟨rfl,q,rfl⟩
   go_wp2_with fail
   go_ret
   exact ⟨by rw [HR.out];rfl,by repeat (first | exact Below.refl _ _ | refine zc4 ?_ _ | refine Below.alloc ?_ (by simp<;>omega) _)⟩
  ·have hry:=zn4 (ys:=ys) ha.len (by omega) his
   have hle:=zmZ xs ys n
   have HR:Hid (zci xs ys=decide ((n:Int) / 2+1<=(zcY xs ys n:Int))):=by
    show _=_
    rw [hry];congr 1;simp only [eq_iff_iff];omega
   have HI:=Lib.hid his
   clear his hry
   have h0':(0:Int)<(n:Int):=by omega
   go_enter Tryz.func111,Tryz.ntmps111
   go_wp2_with fail
   refine (zcR _ _ _ xs _ ha).mono ?_
   rw [HI.out]
   rintro e w' ⟨rfl,q,rfl⟩
   go_wp2_with fail
   refine (zrk _ _ _ xs _ _ _ ys _ (by repeat (first | assumption | apply IntSl.drewN | apply IntSl.alloc)) (by repeat (first | assumption | apply IntSl.drewN | apply IntSl.alloc))).mono ?_
   rintro e w1 ⟨rfl,hbel⟩
   go_wp2_with fail
   refine (zun _ _ (by omega) (by omega)).mono ?_
   rintro e w2 ⟨rfl,rfl⟩
   go_wp2_with fail
   go_ret
   exact ⟨by rw [HR.out];rfl,(zc4 (Below.refl _ _) _).trans hbel⟩
theorem zhz (xs:List Int) (v:Int) (k:Nat) (hk:k<=xs.length):zkX xs v k=(xs.take k).foldl (zcx v) ([],hasB xs v):=by
 induction k with
 | zero=>simp [zkX]
 | succ k ih=>
  have e:el xs k=xs[k]'(by omega):=by simp [el,show k<xs.length by omega]
  rw [zkX,ih (by omega),List.take_succ_eq_append_getElem (by omega),List.foldl_append,e];rfl
theorem zkl (v:Int) (l o:List Int):l.foldl (zcx v) (o,true)=(o++l,true):=by
 induction l generalizing o with
 | nil=>simp
 | cons x l ih=>rw [List.foldl_cons];simp only [zcx,reduceCtorEq,false_and,if_false];rw [ih];simp
def ins (v:Int):List Int->List Int
 | []=>[v]
 | x::l=>if v<x then v::x::l else x::ins v l
theorem znR (v:Int) (l o:List Int):(if (l.foldl (zcx v) (o,false)).2 then (l.foldl (zcx v) (o,false)).1 else (l.foldl (zcx v) (o,false)).1++[v])=o++ins v l:=by
 induction l generalizing o with
 | nil=>simp [ins]
 | cons x l ih=>
  rw [List.foldl_cons]
  by_cases h:v<x
  ·have e:zcx v (o,false) x=(o++[v]++[x],true):=by simp [zcx,h]
   rw [e,zkl];simp [ins,h]
  ·have e:zcx v (o,false) x=(o++[x],false):=by simp [zcx,h]
   rw [e,ih];simp [ins,h]
theorem zgm {xs:List Int} {v:Int} (h:hasB xs v=true):putL xs v=xs:=by
 unfold putL
 rw [zhz _ _ _ (Nat.le_refl _),h,List.take_length,zkl];simp
theorem zeH {xs:List Int} {v:Int} (h:hasB xs v=false):putL xs v=ins v xs:=by
 unfold putL
 rw [zhz _ _ _ (Nat.le_refl _),h,List.take_length,znR];simp
theorem zlo (v:Int) (l:List Int):(ins v l).length=l.length+1:=by
 induction l with
 | nil=>rfl
 | cons x l ih=>unfold ins;split<;>simp [ih]
theorem znN (v:Int) (p:Int->Bool) (l:List Int):(ins v l).countP p=l.countP p+(p v).toNat:=by
 induction l with
 | nil=>cases h:p v<;>simp [ins,h]
 | cons x l ih=>
  unfold ins
  split
  ·cases h:p v<;>simp [List.countP_cons,h]
  ·rw [List.countP_cons,ih,List.countP_cons];omega
theorem zfA (xs ys:List Int) (k:Nat) (hk:k<=xs.length):zcY xs ys k=(xs.take k).countP (hasB ys):=by
 induction k with
 | zero=>simp [zcY]
 | succ k ih=>
  have e:el xs k=xs[k]'(by omega):=by simp [el,show k<xs.length by omega]
  rw [zcY,ih (by omega),List.take_succ_eq_append_getElem (by omega),List.countP_append,e]
  cases h:hasB ys (xs[k]'(by omega))<;>simp [h]
theorem zeG {xs ys:List Int} (h:zci xs ys=true):xs.length<2*xs.countP (hasB ys):=by
 have h2:zcY xs ys xs.length=xs.countP (hasB ys):=by rw [zfA _ _ _ (Nat.le_refl _),List.take_length]
 unfold zci at h
 rw [h2] at h
 simp only [Bool.and_eq_true,decide_eq_true_eq] at h
 omega
theorem zue (p q:Int->Bool) (l:List Int) (h:∀ x∈l,¬ (p x=true/\q x=true)):l.countP p+l.countP q<=l.length:=by
 induction l with
 | nil=>simp
 | cons x l ih=>
  have h1:=ih (fun y hy=>h y (by simp [hy]))
  have h2:=h x (by simp)
  rw [List.countP_cons,List.countP_cons]
  cases hp:p x<;>cases hq:q x<;>simp_all<;>omega
theorem zh3 {xs A B:List Int} {n:Nat} (hn:xs.length=n) (h:∀ i,i<n->¬ (hasB A (el xs i)=true/\hasB B (el xs i)=true)):∀ x∈xs,¬ (hasB A x=true/\hasB B x=true):=by
 intro x hx
 obtain ⟨i,hi,e⟩:=List.mem_iff_getElem.1 hx
 have:=h i (by omega)
 rwa [show el xs i=x by rw [<- e];simp [el,hi]] at this
theorem meets {xs A B:List Int} {n:Nat} (hn:xs.length=n) (ha:zci xs A=true) (hb:zci xs B=true) (h:∀ i,i<n->¬ (hasB A (el xs i)=true/\hasB B (el xs i)=true)):False:=by
 have h1:=zeG ha
 have h2:=zeG hb
 have h3:=zue _ _ _ (zh3 hn h)
 omega
theorem znG {xs A B:List Int} {v:Int} {n:Nat} (hn:xs.length=n) (ha:zci xs A=true) (hb:zci (putL xs v) B=true) (h:∀ i,i<n->¬ (hasB A (el xs i)=true/\hasB B (el xs i)=true)):False:=by
 have h1:=zeG ha
 have h2:=zeG hb
 have h3:=zue _ _ _ (zh3 hn h)
 cases hv:hasB xs v
 ·rw [zeH hv,zlo,znN] at h2
  cases hb:hasB B v<;>simp [hb] at h2<;>omega
 ·rw [zgm hv] at h2;omega
def Asc (l:List Int):Prop:=l.Pairwise (· < ·)
theorem zjg:∀ {a b:List Int},Asc a->Asc b->(∀ x,x∈a↔x∈b)->a=b
 | [],[],_,_,_=>rfl
 | [],y::b,_,_,h=>absurd ((h y).2 (by simp)) (by simp)
 | x::a,[],_,_,h=>absurd ((h x).1 (by simp)) (by simp)
 | x::a,y::b,ha,hb,h=>by
  have ha':=List.pairwise_cons.1 ha
  have hb':=List.pairwise_cons.1 hb
  have hxy:x=y:=by
   have h1:=(h x).1 (by simp)
   have h2:=(h y).2 (by simp)
   rcases List.mem_cons.1 h1 with e | h1
   ·exact e
   ·rcases List.mem_cons.1 h2 with e | h2
    ·exact e.symm
    ·have:=hb'.1 x h1;have:=ha'.1 y h2;omega
  subst hxy
  congr 1
  refine zjg ha'.2 hb'.2 fun z=>?_
  constructor
  ·intro hz
   have h1:=(h z).1 (List.mem_cons_of_mem _ hz)
   rcases List.mem_cons.1 h1 with e | h1
   ·subst e;exact absurd (ha'.1 z hz) (by omega)
   ·exact h1
  ·intro hz
   have h1:=(h z).2 (List.mem_cons_of_mem _ hz)
   rcases List.mem_cons.1 h1 with e | h1
   ·subst e;exact absurd (hb'.1 z hz) (by omega)
   ·exact h1
theorem zoW {xs:List Int} (h:zj7 xs xs.length):Asc xs:=by
 unfold Asc
 rw [List.pairwise_iff_getElem]
 intro i j hi hj hij
 induction j with
 | zero=>omega
 | succ j ih=>
  have h1:=h j (by omega)
  rw [zc1 (by omega),zc1 (by omega)] at h1
  by_cases e:i=j
  ·subst e;exact h1
  ·have:=ih (by omega) (by omega);omega
theorem zr6 {xs:List Int} (h:Asc xs):zj7 xs xs.length:=by
 intro i hi
 rw [zc1 (by omega),zc1 hi]
 exact (List.pairwise_iff_getElem.1 h) i (i+1) (by omega) hi (by omega)
theorem isB_asc {xs:List Int}:isB xs=true↔Asc xs/\xs.length<=16:=by
 rw [zln];exact ⟨fun h=>⟨zoW h.1,h.2⟩,fun h=>⟨zr6 h.1,h.2⟩⟩
theorem keeps_iff {d:Array Int} {i:Nat}:Lib.keeps d i=true↔i=0\/d[i]! ≠ d[i-1]! := by simp [Lib.keeps]
theorem zlA {xs:List Int} (h:xs.Pairwise (· <= ·)):Asc (Lib.compact xs):=by
 unfold Asc Lib.compact Lib.compactUpTo
 rw [List.pairwise_map]
 have h1:((List.range xs.length).filter (Lib.keeps xs.toArray)).Pairwise (· < ·):=List.pairwise_lt_range.filter _
 refine h1.imp_of_mem fun {i j} hi hj hij=>?_
 have hi':=List.mem_filter.1 hi
 have hj':=List.mem_filter.1 hj
 have hil:=List.mem_range.1 hi'.1
 have hjl:=List.mem_range.1 hj'.1
 rcases keeps_iff.1 hj'.2 with e | e
 ·omega
 ·rw [getElem!_pos _ _ (by simpa using hjl),getElem!_pos _ _ (by simp;omega)] at e
  rw [getElem!_pos _ _ (by simpa using hil),getElem!_pos _ _ (by simpa using hjl)]
  simp only [List.getElem_toArray] at *
  have hp:=List.pairwise_iff_getElem.1 h
  have q1:xs[j-1]<=xs[j]:=hp (j-1) j (by omega) hjl (by omega)
  have q2:xs[i]<=xs[j-1]:=by
   by_cases e2:i=j-1
   ·subst e2;exact Int.le_refl _
   ·exact hp i (j-1) hil (by omega) (by omega)
  omega
theorem zgU {xs:List Int} {x:Int}:x∈Lib.compact xs↔x∈xs:=by
 refine ⟨zgV,fun h=>?_⟩
 have hlt:xs.findIdx (fun y=>y==x)<xs.length:=List.findIdx_lt_length_of_exists ⟨x,h,by simp⟩
 have hx:xs[xs.findIdx (fun y=>y==x)]=x:=by
  have:=List.findIdx_getElem (w:=hlt);simpa using this
 unfold Lib.compact Lib.compactUpTo
 refine List.mem_map.2 ⟨xs.findIdx (fun y=>y==x),List.mem_filter.2 ⟨List.mem_range.2 hlt,?_⟩,?_⟩
 ·rw [keeps_iff]
  by_cases h0:xs.findIdx (fun y=>y==x)=0
  ·exact .inl h0
  ·right
   rw [getElem!_pos _ _ (by simpa using hlt),getElem!_pos _ _ (by simp;omega)]
   simp only [List.getElem_toArray]
   rw [hx]
   have:=List.not_of_lt_findIdx (p:=fun y=>y==x) (xs:=xs) (i:=xs.findIdx (fun y=>y==x)-1) (by omega)
   simp at this
   exact fun e=>this e.symm
 ·rw [getElem!_pos _ _ (by simpa using hlt)];simpa using hx
theorem zjy (xs:List Int):(zfi xs).Pairwise (· <= ·):=by
 have:=List.pairwise_mergeSort (le:=fun x y:Int=>decide (x<=y)) (fun a b c=>by simp;omega) (fun a b=>by simp;omega) xs
 exact this.imp (by simp)
theorem zh9 (xs:List Int):Asc (zbe xs):=zlA (zjy xs)
theorem mergeL_mem {xs:List Int} {x:Int}:x∈zbe xs↔x∈xs:=by
 unfold zbe;rw [zgU];exact (List.mergeSort_perm xs _).mem_iff
theorem ins_mem {v x:Int} {l:List Int}:x∈ins v l↔x=v\/x∈l:=by
 induction l with
 | nil=>simp [ins]
 | cons y l ih=>
  unfold ins
  split
  ·simp
  ·simp [ih,or_left_comm]
theorem zv4 {v:Int} {l:List Int} (h:Asc l) (hv:v∉l):Asc (ins v l):=by
 induction l with
 | nil=>simp [ins,Asc]
 | cons y l ih=>
  have h':=List.pairwise_cons.1 h
  unfold ins
  split
  ·rename_i hlt
   refine List.pairwise_cons.2 ⟨fun z hz=>?_,h⟩
   rcases List.mem_cons.1 hz with rfl | hz
   ·exact hlt
   ·have:=h'.1 z hz;omega
  ·rename_i hlt
   refine List.pairwise_cons.2 ⟨fun z hz=>?_,ih h'.2 (fun hm=>hv (List.mem_cons_of_mem _ hm))⟩
   rcases ins_mem.1 hz with rfl | hz
   ·have:z≠y:=fun e=>hv (by simp [e]);omega
   ·exact h'.1 z hz
theorem hasB_iff {xs:List Int} {v:Int}:hasB xs v=true↔v∈xs:=by simp [hasB]
theorem hasB_not {xs:List Int} {v:Int}:hasB xs v=false↔v∉xs:=by simp [hasB]
theorem putL_mem {xs:List Int} {v x:Int}:x∈putL xs v↔x=v\/x∈xs:=by
 cases h:hasB xs v
 ·rw [zeH h,ins_mem]
 ·rw [zgm h]
  have:=hasB_iff.1 h
  exact ⟨.inr,fun e=>e.elim (fun e=>e▸this) id⟩
theorem zco {xs:List Int} {v:Int} (h:Asc xs):Asc (putL xs v):=by
 cases hb:hasB xs v
 ·rw [zeH hb];exact zv4 h (hasB_not.1 hb)
 ·rw [zgm hb];exact h
theorem znE {xs:List Int} {v:Int} (h:Asc xs):zbe (xs++[v])=putL xs v:=
 zjg (zh9 _) (zco h) fun x=>by rw [mergeL_mem,putL_mem];simp [or_comm]
def zbB (xs:List Int) (ys:List Int):List Int:=ys.foldl putL xs
theorem putAll_mem {xs ys:List Int} {x:Int}:x∈zbB xs ys↔x∈xs\/x∈ys:=by
 induction ys generalizing xs with
 | nil=>simp [zbB]
 | cons y ys ih=>
  show x∈zbB (putL xs y) ys↔_
  rw [ih,putL_mem]
  simp [or_assoc,or_left_comm]
theorem zfn {xs ys:List Int} (h:Asc xs):Asc (zbB xs ys):=by
 induction ys generalizing xs with
 | nil=>exact h
 | cons y ys ih=>exact ih (zco h)
theorem ziy {xs ys:List Int} (h:Asc xs):zbe (xs++ys)=zbB xs ys:=
 zjg (zh9 _) (zfn h) fun x=>by rw [mergeL_mem,putAll_mem];simp
noncomputable def zc8 (xs:List Int) (v:Int):Int×List Int:=if isB xs then (0,za8 xs v) else (1,[])
noncomputable def cutR (l:List Int):Int×List Int:=if l.length<=16 then (0,l) else (2,[])
noncomputable def zjm (xs:List Int) (v:Int):Int×List Int:=if isB xs then cutR (putL xs v) else (1,[])
noncomputable def zkC (xs ys:List Int):Int×List Int:=if isB xs=true/\isB ys=true then cutR (zbe (xs++ys)) else (1,[])
theorem zgR (l:List Int):(l.length<=16/\(cutR l).1=0/\(cutR l).2=l)\/(16<l.length/\(cutR l).1=2/\(cutR l).2=[]):=by
 unfold cutR
 by_cases h:l.length<=16
 ·left;simp [h]
 ·right;simp [h];omega
theorem zov (a:Option Addr) (n c:Nat) (xs:List Int) (v:Int) (w:World) (ha:IntSl w a n xs) (hn:n<=1099511627776) :
  Calls Tryz.prog 81 #[.slice a n c,.int .i64 v] w (zcf w (zc8 xs v).1 (zc8 xs v).2):=by
 unfold zc8
 cases hi:isB xs
 ·exact znp a n c xs v w ha hn hi
 ·exact zkK a n c xs v w ha hn hi
theorem zuL (a:Option Addr) (n c:Nat) (xs:List Int) (v:Int) (w:World) (ha:IntSl w a n xs) (hi:isB xs=false) :
  Calls Tryz.prog 82 #[.slice a n c,.int .i64 v] w (zcf w 1 []):=by
 have HI:=Lib.hid hi
 clear hi
 go_enter Tryz.func82,Tryz.ntmps82
 go_wp2_with fail
 refine (zcR _ _ _ xs _ ha).mono ?_
 rw [HI.out]
 rintro e w1 ⟨rfl,q,rfl⟩
 go_wp2_with fail
 go_ret2
 exact ⟨_,rfl,OwnI.nil _ _,zc4 (Below.refl _ _) _⟩
theorem zrG (a:Option Addr) (n c:Nat) (xs:List Int) (v:Int) (w:World) (ha:IntSl w a n xs) (hna:a=none->c=0) (hn:n<=1099511627776) (hv : -9223372036854775808<=v/\v<=9223372036854775807) (hi:isB xs=true) (code:Int) (l:List Int)
  (hcl:((zbe (xs++[v])).length<=16/\code=0/\l=zbe (xs++[v]))\/(16<(zbe (xs++[v])).length/\code=2/\l=[])) :
  Calls Tryz.prog 82 #[.slice a n c,.int .i64 v] w (zcf w code l):=by
 have HI:=Lib.hid hi
 have HC:=Lib.hid hcl
 have HV:=Lib.hid hv
 clear hi hcl hv
 go_enter Tryz.func82,Tryz.ntmps82
 go_wp2_with fail
 refine (zcR _ _ _ xs _ ha).mono ?_
 rw [HI.out]
 rintro e w1 ⟨rfl,q,rfl⟩
 go_wp2_with fail
 refine (zh7 (w.heap.size+1) a n c xs (some ⟨w.heap.size,0,none⟩) 1 1 [v] _ ?_ ?_ ?_ ?_ ?_ hna ?_ hn ?_ code l HC.out).mono ?_
 ·exact World.cell?_alloc_at _ _ _ _ (by simp)
 ·exact World.cell?_alloc_at _ _ _ _ (by simp)
 ·simp
 ·repeat (first | assumption | apply IntSl.drewN | apply IntSl.alloc)
 ·have h1:=IntSl.lit w [v] 3 (by simp) (by simpa using HV.out)
  exact (h1.alloc _).drewN _
 ·simp
 ·omega
 rintro e w2 ⟨v2,rfl,ho2,hb2⟩
 go_wp2_with fail
 go_ret2
 have hs:=hb2.size
 simp at hs
 exact ⟨_,rfl,ho2.mono (by simp;omega),(by repeat (first | exact Below.refl _ _ | refine zc4 ?_ _ | refine Below.alloc ?_ (by simp<;>omega) _):Below w.heap.size w _).trans (hb2.mono (by simp;omega))⟩
theorem zwG (a:Option Addr) (n c:Nat) (xs:List Int) (v:Int) (w:World) (ha:IntSl w a n xs) (hna:a=none->c=0) (hn:n<=1099511627776) (hv : -9223372036854775808<=v/\v<=9223372036854775807) :
  Calls Tryz.prog 82 #[.slice a n c,.int .i64 v] w (zcf w (zjm xs v).1 (zjm xs v).2):=by
 unfold zjm
 cases hi:isB xs
 ·exact zuL a n c xs v w ha hi
 ·have e:=znE (v:=v) (isB_asc.1 hi).1
  rw [if_pos rfl]
  exact zrG a n c xs v w ha hna hn hv hi _ _ (by rw [e];exact zgR _)
theorem zxp (xs ys:List Int) (h:¬ (isB xs=true/\isB ys=true)):isB xs=false\/(isB xs=true/\isB ys=false):=by
 cases h1:isB xs
 ·exact .inl rfl
 ·cases h2:isB ys
  ·exact .inr ⟨rfl,rfl⟩
  ·exact absurd ⟨h1,h2⟩ h
theorem zw6 (a:Option Addr) (n ca:Nat) (xs:List Int) (b:Option Addr) (m cb:Nat) (ys:List Int) (w:World) (ha:IntSl w a n xs) (hb:IntSl w b m ys) (h:¬ (isB xs=true/\isB ys=true)) :
  Calls Tryz.prog 98 #[.slice a n ca,.slice b m cb] w (zcf w 1 []):=by
 rcases zxp xs ys h with h1 | ⟨h1,h2⟩
 ·have H1:=Lib.hid h1
  clear h h1
  go_enter Tryz.func98,Tryz.ntmps98
  go_wp2_with fail
  refine (zcR _ _ _ xs _ ha).mono ?_
  rw [H1.out]
  rintro e w1 ⟨rfl,q,rfl⟩
  go_wp2_with fail
  go_ret2
  exact ⟨_,rfl,OwnI.nil _ _,zc4 (Below.refl _ _) _⟩
 ·have H1:=Lib.hid h1
  have H2:=Lib.hid h2
  clear h h1 h2
  go_enter Tryz.func98,Tryz.ntmps98
  go_wp2_with fail
  refine (zcR _ _ _ xs _ ha).mono ?_
  rw [H1.out]
  rintro e w1 ⟨rfl,q,rfl⟩
  go_wp2_with fail
  refine (zcR _ _ _ ys _ (hb.drewN _)).mono ?_
  rw [H2.out]
  rintro e w2 ⟨rfl,q2,rfl⟩
  go_wp2_with fail
  go_ret2
  exact ⟨_,rfl,OwnI.nil _ _,by repeat (first | exact Below.refl _ _ | refine zc4 ?_ _)⟩
theorem ztV (a:Option Addr) (n ca:Nat) (xs:List Int) (b:Option Addr) (m cb:Nat) (ys:List Int) (w:World) (ha:IntSl w a n xs) (hb:IntSl w b m ys) (hna:a=none->ca=0) (hnb:b=none->cb=0) (hn:n<=1099511627776) (hm:m<=1099511627776) (h1:isB xs=true) (h2:isB ys=true) (code:Int) (l:List Int)
  (hcl:((zbe (xs++ys)).length<=16/\code=0/\l=zbe (xs++ys))\/(16<(zbe (xs++ys)).length/\code=2/\l=[])) :
  Calls Tryz.prog 98 #[.slice a n ca,.slice b m cb] w (zcf w code l):=by
 have H1:=Lib.hid h1
 have H2:=Lib.hid h2
 have HC:=Lib.hid hcl
 clear h1 h2 hcl
 go_enter Tryz.func98,Tryz.ntmps98
 go_wp2_with fail
 refine (zcR _ _ _ xs _ ha).mono ?_
 rw [H1.out]
 rintro e w1 ⟨rfl,q,rfl⟩
 go_wp2_with fail
 refine (zcR _ _ _ ys _ (hb.drewN _)).mono ?_
 rw [H2.out]
 rintro e w2 ⟨rfl,q2,rfl⟩
 go_wp2_with fail
 refine (zh7 w.heap.size a n ca xs b m cb ys _ ?_ ?_ ?_ ?_ ?_ hna hnb hn hm code l HC.out).mono ?_
 ·exact World.cell?_alloc_at _ _ _ _ (by simp)
 ·exact World.cell?_alloc_at _ _ _ _ (by simp)
 ·simp
 ·repeat (first | assumption | apply IntSl.drewN | apply IntSl.alloc)
 ·repeat (first | assumption | apply IntSl.drewN | apply IntSl.alloc)
 rintro e w3 ⟨v2,rfl,ho2,hb2⟩
 go_wp2_with fail
 go_ret2
 have hs:=hb2.size
 simp at hs
 exact ⟨_,rfl,ho2.mono (by simp),(by repeat (first | exact Below.refl _ _ | refine zc4 ?_ _ | refine Below.alloc ?_ (by simp<;>omega) _):Below w.heap.size w _).trans (hb2.mono (by simp))⟩
theorem zxM (a:Option Addr) (n ca:Nat) (xs:List Int) (b:Option Addr) (m cb:Nat) (ys:List Int) (w:World) (ha:IntSl w a n xs) (hb:IntSl w b m ys) (hna:a=none->ca=0) (hnb:b=none->cb=0) (hn:n<=1099511627776) (hm:m<=1099511627776) :
  Calls Tryz.prog 98 #[.slice a n ca,.slice b m cb] w (zcf w (zkC xs ys).1 (zkC xs ys).2):=by
 unfold zkC
 by_cases h:isB xs=true/\isB ys=true
 ·rw [if_pos h];exact ztV a n ca xs b m cb ys w ha hb hna hnb hn hm h.1 h.2 _ _ (zgR _)
 ·rw [if_neg h];exact zw6 a n ca xs b m cb ys w ha hb h
theorem zmx (xs:List Int) (v:Int):(putL xs v).length<=xs.length+1:=by
 cases h:hasB xs v
 ·rw [zeH h,zlo];exact Nat.le_refl _
 ·rw [zgm h];omega
theorem zh0 (xs ys:List Int):(zbB xs ys).length<=xs.length+ys.length:=by
 induction ys generalizing xs with
 | nil=>simp [zbB]
 | cons y ys ih=>
  have h1:=ih (putL xs y)
  have h2:=zmx xs y
  show (zbB (putL xs y) ys).length<=_
  simp only [List.length_cons];omega
theorem ztW {xs ys:List Int} (hx:∀ x∈xs,-9223372036854775808<=x/\x<=9223372036854775807) (hy:∀ x∈ys,-9223372036854775808<=x/\x<=9223372036854775807):∀ x∈(zkC xs ys).2,-9223372036854775808<=x/\x<=9223372036854775807:=by
 unfold zkC
 split
 ·rcases zgR (zbe (xs++ys)) with ⟨_,_,e⟩ | ⟨_,_,e⟩
  ·rw [e]
   intro x h
   rcases List.mem_append.1 (mergeL_mem.1 h) with h | h
   ·exact hx x h
   ·exact hy x h
  ·rw [e];simp
 ·simp
end Go.Proofs.YtkhphiahindnnaaGreat
namespace Go.Proofs.YtkhphiahindnnaaGreat
open Go.RowKit Go.Sort
def cmpD (x y:Int):Int:=if y<x then -1 else if x<y then 1 else 0
theorem ltD (x y:Int):ltOf cmpD x y=decide (y<x):=by
 unfold ltOf cmpD
 by_cases h1:y<x
 ·simp [h1]
 ·by_cases h2:x<y<;>simp [h1,h2]
theorem swoD:SWO (ltOf cmpD) where
 irrefl x:=by rw [ltD];simp
 trans x y z h1 h2:=by rw [ltD] at *;simp at *;omega
 ntrans x y z h1 h2:=by rw [ltD] at *;simp at *;omega
theorem znU (x y:Int) (w:World) :
  Calls Tryz.prog 116 #[.int .i64 x,.int .i64 y] w fun e w'=>e = .returned (.int .i64 (cmpD x y))/\w=w':=by
 unfold cmpD
 by_cases h1:y<x
 ·rw [if_pos h1]
  go_enter Tryz.func116,Tryz.ntmps116
  go_wp2
  go_ret
  exact ⟨rfl,rfl⟩
 ·rw [if_neg h1]
  by_cases h2:x<y
  ·rw [if_pos h2]
   go_enter Tryz.func116,Tryz.ntmps116
   go_wp2
   go_ret
   exact ⟨rfl,rfl⟩
  ·rw [if_neg h2]
   go_enter Tryz.func116,Tryz.ntmps116
   go_wp2
   go_ret
   exact ⟨rfl,rfl⟩
def zdn (xs:List Int):List Int:=xs.mergeSort fun x y=>!(ltOf cmpD) y x
theorem zjz (base:Nat) (a:Option Addr) (n c:Nat) (xs:List Int) (w:World) (ho:OwnI base w (.slice a n c) xs) (hl:n<4611686018427387904) :
    Calls Tryz.prog 102 #[.slice a n c,.func (.func 116) #[] #[]] w (znm base w (.slice a n c) (zdn xs)):=by
  have eg:∀ args w,(callFunc 116 args).run Tryz.prog w = .ok (.enter 116 args) w:=enters_of Tryz.func116 (by kernel_rfl) rfl
  by_cases h0:xs=[]
  · subst h0
    have hn:n=0:=by
      obtain ⟨h1,⟨hh,h2⟩ | ⟨g,cap,cur,hv,hg,hh,r⟩⟩:=ho
      · simp at hh;omega
      · simp at hv;omega
    subst hn
    have hcon:=AnyF.slices_SortFunc_none {Tryz.laysSortF with} a c (.func (.func 116) #[] #[]) w
    change Calls Tryz.prog 102 _ _ _ at hcon
    refine hcon.mono ?_
    rintro e w' ⟨rfl,rfl⟩
    exact ⟨rfl,by simpa [zdn] using ho,World.grownBy.refl _ _⟩
  · cases a with
    | none => exfalso
              obtain ⟨h1,⟨hh,h2⟩ | ⟨g,cap,cur,hv,_⟩⟩:=ho
              · exact h0 (List.eq_nil_of_length_eq_zero h2)
              · simp at hv
    | some ad=>
      obtain ⟨h1,⟨hh,h2⟩ | ⟨g,cap,cur,hv,hg,hh,hle,hm,hs,ht⟩⟩:=ho
      · simp at hh
      · simp only [Value.slice.injEq,Option.some.injEq] at hv
        obtain ⟨rfl,rfl,rfl⟩:=hv
        rw [Nat.mul_one] at ht
        have hH:=holds_of_blockI hh ht
        have hcmp:CmpReads Tryz.prog 116 #[] (Value.int .i64) cmpD g 0 xs.toArray.size w:=fun m os dk _ x y=>(znU x y _).mono fun e w' ⟨he,hw⟩=>⟨he,0,by rw [<- hw];rfl⟩
        have hcon:=Any.slices_SortFunc_total Tryz.laysSortF (Value.int .i64) (fun _=>rfl) cmpD swoD 116 #[] g 0 c xs.toArray w eg hcmp.lays hH (Array.getElem?_eq_some_iff.1 hh).1 (by simpa using hl) (fun x y h1 h2=>by rw [ltD] at *;simp at *;omega)
        change Calls Tryz.prog 102 _ _ _ at hcon
        rw [List.size_toArray] at hcon
        refine hcon.mono ?_
        rintro e w' ⟨rfl,n,os,rfl⟩
        have e1:(zdn xs).length=xs.length:=by simp [zdn]
        have:=ownsRow_sortedI (n:=n) (os:=os) (ss:=xs) (ts:=zdn xs) e1 hg hh hle hm hs
        refine ⟨rfl,?_,?_⟩
        · show World.ownsRow _ _ _ _ _ _ _
          rw [e1];exact this
        · exact grownBy_sortedI (n:=n) (os:=os) (zdn xs).toArray
theorem zqw (w:World) :
  Calls Tryz.prog 103 #[] w fun e w'=>e = .returned (.agg #[.func (.func 116) #[] #[]])/\Below w.heap.size w w':=by
 go_enter Tryz.func103,Tryz.ntmps103
 go_wp2
 refine bodyPost_ret (v:= .agg #[.func (.func 116) #[] #[]]) (by simp [results,Tryz.results103,go_sem]) rfl ⟨rfl,?_⟩
 exact (Below.refl _ _).alloc (Nat.le_refl _) _
def zjt (xs:List Int):Int:=el (zdn xs) (xs.length / 2)
theorem zsj (a:Option Addr) (c:Nat) (w:World):Calls Tryz.prog 78 #[.slice a 0 c] w fun e w'=>e = .returned (.tuple #[.int .i64 0,.int .i64 1])/\w=w':=by
 go_enter Tryz.func78,Tryz.ntmps78
 go_wp2
 go_ret2
 exact ⟨rfl,rfl⟩
theorem zt4 {xs:List Int} (h:∀ x∈xs,-9223372036854775808<=x/\x<=9223372036854775807):∀ x∈zdn xs,-9223372036854775808<=x/\x<=9223372036854775807:=
 fun x hx=>h x ((List.mergeSort_perm xs _).mem_iff.1 hx)
theorem zsl (a:Option Addr) (n c:Nat) (xs:List Int) (w:World) (ha:IntSl w a n xs) (hn:n<=1099511627776) (hp:0<n) :
  Calls Tryz.prog 78 #[.slice a n c] w fun e w'=>e = .returned (.tuple #[.int .i64 (zjt xs),.int .i64 0])/\Below w.heap.size w w':=by
 have hm:=ha.mx
 have hbd:=Lib.hid ha.bd
 have hlen:=Lib.hid ha.len
 have hdl:=Lib.hid (show (zdn xs).length=n by simp [zdn,ha.len])
 have t1:((n:Int)==0)=false:=by simp;omega
 have hsu:=Lib.hid (show el (zdn xs) (n / 2)=zjt xs by unfold zjt;rw [ha.len])
 go_enter Tryz.func78,Tryz.ntmps78
 go_wp2_with fail
 refine (zok _ _ _ xs _ ha hn).mono ?_
 rintro e w1 ⟨v1,rfl,ho1,B1⟩
 obtain ⟨a1,c1,rfl,hs1⟩:=ho1.sl hbd.out
 rw [hlen.out] at ho1
 have HO1:=Lib.hid ho1
 have z1:=B1.size
 clear ho1 hs1
 have hl2:xs.length=n:=hlen.out
 clear hl2
 rw [hlen.out]
 go_wp2_with fail
 have hfld:∀ w,(Instr.field 167 (.agg #[.func (.func 116) #[] #[]]) 0).run Tryz.prog w = .ok (.func (.func 116) #[] #[]) w:=fun _=>by kernel_rfl
 refine (zqw _).mono ?_
 rintro e w2 ⟨rfl,B2'⟩
 have B2:=B1.trans (B2'.mono B1.size)
 have HO2:=Lib.hid (HO1.out.below B2' (Nat.le_refl _))
 go_wp2_with fail
 refine (zjz w.heap.size _ _ _ xs _ HO2.out (by omega)).mono ?_
 rintro e w3 ⟨rfl,ho3,hg3⟩
 have B3:=HO2.out.bel B2 hg3 B2.size
 obtain ⟨a3,c3,ev,hs3⟩:=ho3.sl (zt4 hbd.out)
 rw [hdl.out] at ev hs3
 obtain ⟨rfl,rfl⟩:a1=a3/\c1=c3:=by simpa using ev
 clear ev ho3 hg3
 obtain ⟨ba,oa,rfl,hba,hca⟩:=hs3.row hp
 have hcell:w3.cell? ⟨ba,oa+n / 2,none⟩=some (.int .i64 (zjt xs)):=by rw [<- hsu.out];exact hca (n / 2) (by omega)
 clear hca
 go_wp2_with fail
 refine (zun _ _ (by omega) (by omega)).mono ?_
 rintro e w4 ⟨rfl,rfl⟩
 have q1:(0:Int)<=(n:Int) / 2:=by omega
 have q2:(n:Int) / 2<(n:Int):=by omega
 go_wp2_with fail
 go_ret2
 exact ⟨rfl,B3⟩
def ze0 (xs:List Int) (x:Int):Nat:=xs.countP fun y=>decide (x<=y)
theorem zxr {x:Int}:∀ {d:List Int},d.Pairwise (fun a b=>b<=a)->∀ {j:Nat} (hj:j<d.length),x<=d[j]↔j<ze0 d x
 | y::l,h,j,hj=>by
  have h':=List.pairwise_cons.1 h
  have hz:¬ x<=y->ze0 l x=0:=by
   intro hxy
   unfold ze0
   rw [List.countP_eq_zero]
   intro z hz
   have:=h'.1 z hz
   simp;omega
  by_cases hxy:x<=y
  ·have e:ze0 (y::l) x=ze0 l x+1:=by simp [ze0,hxy]
   rw [e]
   cases j with
   | zero=>simp [hxy]
   | succ j=>
    have:=zxr (x:=x) h'.2 (j:=j) (by simpa using hj)
    simp only [List.getElem_cons_succ]
    rw [this];omega
  ·have e:ze0 (y::l) x=0:=by
    have:ze0 (y::l) x=ze0 l x:=by simp [ze0,hxy]
    rw [this,hz hxy]
   rw [e]
   cases j with
   | zero=>simp [hxy]
   | succ j=>
    have hjl:j<l.length:=by simpa using hj
    have:=h'.1 l[j] (List.getElem_mem _)
    simp only [List.getElem_cons_succ]
    omega
theorem zk7 (xs:List Int):(zdn xs).Pairwise (fun a b=>b<=a):=by
 have:=List.pairwise_mergeSort (le:=fun x y:Int=>!(ltOf cmpD) y x) (fun a b c=>by simp only [ltD];simp;omega) (fun a b=>by simp only [ltD];simp;omega) xs
 exact this.imp (fun {a b} h=>by simp only [ltD] at h;simpa using h)
theorem znP (xs:List Int) (x:Int):ze0 (zdn xs) x=ze0 xs x:=(List.mergeSort_perm xs _).countP_eq _
theorem zvy {xs:List Int} {n:Nat} (hn:xs.length=n) (hp:0<n) (x:Int):x<=zjt xs↔n<2*ze0 xs x:=by
 have hl:(zdn xs).length=n:=by simp [zdn,hn]
 have hj:n / 2<(zdn xs).length:=by omega
 unfold zjt
 rw [hn,zc1 hj,zxr (zk7 xs) hj,znP]
 omega
end Go.Proofs.YtkhphiahindnnaaGreat
namespace Go.Proofs.YtkhphiahindnnaaGreat
open Go.RowKit Go.ChangeShapes Go.WideShapes Go.Deep
theorem IntSl.ofSl {w:World} {S:Nat->Prop} {a:Option Addr} {n c:Nat} {xs:List Int} (h:SlI w S a n c xs):IntSl w a n xs:=by
 have hl:=h.len
 rw [zap] at hl
 have hb:=h.bd
 have hx:=SlI.i64 h
 have hi:∀ i,I64 (el xs i):=fun i=>by
  by_cases hi:i<xs.length
  ·have e:el xs i=xs[i]:=by simp [el,hi]
   rw [e];exact hx _ (List.getElem_mem hi)
  ·have e:el xs i=0:=by simp [el,List.getElem?_eq_none (Nat.not_lt.1 hi)]
   rw [e];exact ⟨by decide,by decide⟩
 refine ⟨hl,by omega,fun hp=>?_,fun i=>(hi i).1,fun i=>(hi i).2⟩
 obtain ⟨b,off,rfl⟩:=h.addr hp
 obtain ⟨hlt,_⟩:=SlI.cell h hp
 exact ⟨b,off,rfl,hlt,fun i hi=>(SlI.cell h hi).2.1⟩
theorem zlf {w:World} {S:Nat->Prop} {a:Option Addr} {n c:Nat} {xs:List Int} (h:SlI w S a n c xs):a=none->c=0:=fun e=>(h.bd.2.2.2 e).2
theorem OwnI.toR {base:Nat} {w:World} {v:Value} {xs:List Int} (h:OwnI base w v xs) (hx:∀ x∈xs,I64 x) (S:Nat->Prop):OwnR base w 3 S [.int .i64] v (ints xs):=by
 refine ⟨xs.map (Value.int .i64),by rw [zap];exact Win.of h,fun i hi=>?_⟩
 rw [zap] at hi
 have e1:(((xs.map (Value.int .i64)).drop (i*1)).take 1)=[.int .i64 (xs[i])]:=by
  rw [Nat.mul_one,List.drop_eq_getElem_cons (by simpa using hi)];simp
 have e2:(ints xs).getD i []=[.int xs[i]]:=by simp [ints,List.getD,hi]
 show RdL _ _ [.int .i64] (((xs.map (Value.int .i64)).drop (i*1)).take 1) _
 rw [e1,e2]
 exact ⟨.ofI64 (hx _ (List.getElem_mem hi)),trivial⟩
theorem zsB {w w':World} {v:Value} {l:List Int} (ho:OwnI w.heap.size w' v l) (hx:∀ x∈l,I64 x) (hl:l.length<=17592186044416) {E':Env} (hs:∀ b,w.heap.size<=b->b<w'.heap.size->E'.σ 1 b):DenV E' w' (.sl [1] (.rInts l)) v:=by
 have ho2:=ho.toR hx (fun _=>False)
 obtain ⟨a,c,e,hr⟩:=ho2.slO (E'.set [1]) (fun b h=>h.elim) (fun b h1 h2=>⟨1,by simp,hs b h1 (ho2.lt b h2).2⟩) (by rw [zap];exact hl)
 rw [e];exact hr
theorem FnC.of_setS {P:Program} {f:FuncId} {ins:List SV} {l:List Int} {n:Int} (hB:FnB P f) (hn:(Lit.int .i64 n).wf=true) (h:∀ (w:World) (E:Env) (vals:List Value),DenL E w ins vals->((∀ x∈l,I64 x)/\l.length<=17592186044416)/\Calls P f vals.toArray w (zcf w n l)):FnC P f ins (.tup [.sl [1] (.rInts l),.int .i64 n]) D2:=
 FnC.of_below hB fun w E vals hd=>(h w E vals hd).2.mono (by
  rintro e w' ⟨v,rfl,ho,hb⟩
  exact ⟨_,rfl,hb,fun E' _ hs=>⟨[v,.int .i64 n],rfl,zsB ho (h w E vals hd).1.1 (h w E vals hd).1.2 hs,⟨rfl,hn⟩,trivial⟩⟩)
abbrev D3i (l:List Int):List BE:=[.dead,.dead,.row 3 [] (.rInts l)]
theorem zvs {E:Env} {w w':World} {v:Value} {l:List Int} (hm:MemOk w.heap.size (cxIn E D2 1) w E (mOf D2) w) (hb:Below w.heap.size w w') (ho:OwnI w.heap.size w' v l) (hx:∀ x∈l,I64 x) :
  ∃ E',E'.β 2=some v/\v.oneCell'=true/\MemOk w.heap.size (cxIn E D2 1) w E' (mOf (D3i l)) w':=by
 have ho2:=ho.toR hx (fun _=>False)
 obtain ⟨a,c,ef⟩:=ho2.form
 have hl:∀ t,(mOf D2 t).live=false:=by intro t;rw [mD2];split<;>rfl
 have hlab:∀ i b,E.σ i b->b<w.heap.size:=fun i b h=>(hm.lab i b h).1
 have h1:MemOk w.heap.size (cxIn E D2 1) w E (mOf D2) w':=by
  refine ⟨hm.empty,fun t T vs ht=>?_,fun t T ls r ht=>?_,fun i b hb'=>⟨Nat.lt_of_lt_of_le (hlab i b hb') hb.size,(hm.lab i b hb').2⟩,hm.dis,hm.low,fun t b hh=>absurd hh zf3,hm.old,fun t u b h1=>absurd h1 zf3,hm.keep,⟨hb.os,hb.tape,hb.output,hb.size,fun b h1 _=>hb.block b h1⟩,hb.size,fun t o ht=>(by have:=hl t;rw [ht] at this;cases this)⟩
  ·have:=hl t;rw [ht] at this;cases this
  ·have:=hl t;rw [ht] at this;cases this
 have hE2:mOf D2 2 = .empty:=by rw [mD2];rfl
 have h2:=h1.take (w':=w') hE2 v (.row 3 [] (.rInts l)) (by simp) (Nat.le_refl _) (fun _ _=>rfl) (BelowX.refl _ _ _) (fun b hv=>?_) ?_
 ·refine ⟨E.setβ 2 v,(by show (if 2=2 then some v else E.β 2)=some v;rw [if_pos rfl]),by rw [ef];rfl,?_⟩
  have e:upd (mOf D2) 2 (.row 3 [] (.rInts l))=mOf (D3i l):=by
   funext t
   match t with
   | 0=>rfl
   | 1=>rfl
   | 2=>rfl
   | t+3=>rw [zbg _ _ (by omega),mD2,if_neg (by omega),zeu];simp [List.getD]
  rw [<- e];exact h2
 ·have hb2:=ho2.lt b (by rw [zaN ⟨a,_,c,ef⟩];exact hv)
  exact ⟨fun ⟨i,hi⟩=>by have:=hlab i b hi;omega,fun t=>zf3,.inl hb2.1⟩
 ·exact ho2.mono (Nat.zero_le _) (fun b h=>h.elim)
theorem FnC.of_setR {P:Program} {f:FuncId} {ins:List SV} {l:List Int} {n:Int} (hB:FnB P f) (hn:(Lit.int .i64 n).wf=true) (h:∀ (w:World) (E:Env) (vals:List Value),DenL E w ins vals->(∀ x∈l,I64 x)/\Calls P f vals.toArray w (zcf w n l)):FnC P f ins (.tup [.own 2,.int .i64 n]) (D3i l):=by
 refine ⟨hB,fun w E vals hm hd=>(h w E vals hd).2.mono ?_⟩
 rintro e w' ⟨v,rfl,ho,hb⟩
 obtain ⟨E',h1,h2,h3⟩:=zvs hm hb ho (h w E vals hd).1
 exact ⟨_,E',rfl,⟨[v,.int .i64 n],rfl,⟨h1,h2⟩,⟨rfl,hn⟩,trivial⟩,h3⟩
theorem zcq {E:Env} {w:World} {l:List Int} {v:Value} (h:DenV E w (dInts.can l) v):∃ a c,v = .slice a l.length c/\SlI w (E.set [0]) a l.length c l:=by
 have h:Rd w (E.set [0]) (.sl [.int .i64]) v (.sl (ints l)):=h
 obtain ⟨a,c,rfl,hs⟩:=h.sl'
 rw [zap] at hs
 exact ⟨a,c,by rw [zap],hs⟩
theorem zv3 {E:Env} {w:World} {n:Int} {v:Value} (h:DenV E w (dInt.can n) v):v = .int .i64 n/\I64 n:=⟨h.1,lit_bd h.2⟩
def isC (l:List Int):Bool:=decide (l.Pairwise (· < ·))&&decide (l.length<=16)
theorem zex (l:List Int):isB l=isC l:=by
 rw [Bool.eq_iff_iff,isB_asc,isC,Bool.and_eq_true,decide_eq_true_eq,decide_eq_true_eq];rfl
theorem isC_iff {l:List Int}:isC l=true↔Asc l/\l.length<=16:=by rw [<- zex,isB_asc]
def zbH (xs ys:List Int):Bool:=isC xs&&decide ((0:Int)<(xs.length:Int))&&decide ((xs.length:Int)-(zcY xs ys xs.length:Int)<(zcY xs ys xs.length:Int))
theorem zio (xs ys:List Int):zci xs ys=zbH xs ys:=by rw [zci,zbH,zex]
def zcn (xs:List Int) (v:Int):List Int:=if isC xs then (if (putL xs v).length<=16 then putL xs v else []) else []
theorem zuM (xs:List Int) (v:Int):(zjm xs v).2=zcn xs v:=by
 rw [zjm,zcn,zex]
 split
 ·rw [cutR];split<;>rfl
 ·rfl
def zbp (xs:List Int) (v:Int):List Int:=if isC xs then za8 xs v else []
theorem znq (xs:List Int) (v:Int):(zc8 xs v).2=zbp xs v:=by
 rw [zc8,zbp,zex];split<;>rfl
def zdw (xs ys:List Int):Int×List Int:=if isC xs&&isC ys then (if (zbB xs ys).length<=16 then (0,zbB xs ys) else (2,[])) else (1,[])
theorem zr1 (xs ys:List Int):zkC xs ys=zdw xs ys:=by
 rw [zkC,zdw,zex,zex]
 by_cases h:isC xs=true/\isC ys=true
 ·have e:=ziy (ys:=ys) (isC_iff.1 h.1).1
  rw [if_pos h,cutR,e,h.1,h.2];rfl
 ·rw [if_neg h,if_neg (by simpa using h)]
def insD (x:Int):List Int->List Int
 | []=>[x]
 | y::l=>if y<=x then x::y::l else y::insD x l
def zkL:List Int->List Int
 | []=>[]
 | x::l=>insD x (zkL l)
theorem zg5 (x:Int):∀ (l:List Int),(insD x l).Perm (x::l)
 | []=>List.Perm.refl _
 | y::l=>by
  rw [insD];split
  ·exact List.Perm.refl _
  ·exact ((zg5 x l).cons y).trans (List.Perm.swap x y l)
theorem zfj:∀ (l:List Int),(zkL l).Perm l
 | []=>List.Perm.refl _
 | x::l=>(zg5 x (zkL l)).trans ((zfj l).cons x)
theorem zjZ (x:Int):∀ {l:List Int},l.Pairwise (fun a b=>b<=a)->(insD x l).Pairwise (fun a b=>b<=a)
 | [],_=>by simp [insD]
 | y::l,h=>by
  obtain ⟨h1,h2⟩:=List.pairwise_cons.1 h
  rw [insD];split
  ·rename_i hy
   exact List.pairwise_cons.2 ⟨fun z hz=>(List.mem_cons.1 hz).elim (fun e=>e▸hy) (fun e=>Int.le_trans (h1 z e) hy),h⟩
  ·rename_i hy
   refine List.pairwise_cons.2 ⟨fun z hz=>?_,zjZ x h2⟩
   rcases List.mem_cons.1 ((zg5 x l).mem_iff.1 hz) with rfl | hz
   ·omega
   ·exact h1 z hz
theorem zhs:∀ (l:List Int),(zkL l).Pairwise (fun a b=>b<=a)
 | []=>List.Pairwise.nil
 | x::l=>zjZ x (zhs l)
theorem zl7 (xs:List Int):zdn xs=zkL xs:=by
 have h1:(zdn xs).Pairwise (fun a b=>b<=a):=by
  have:=List.pairwise_mergeSort (le:=fun x y=>!(ltOf cmpD) y x) (fun a b c=>by simp only [ltD,Bool.not_eq_true',decide_eq_false_iff_not];omega) (fun a b=>by simp only [ltD,Bool.or_eq_true,Bool.not_eq_true',decide_eq_false_iff_not];omega) xs
  exact this.imp fun {a b} h=>by simpa [ltD] using h
 have h2:=zhs xs
 have hp:(zdn xs).Perm (zkL xs):=(List.mergeSort_perm xs _).trans (zfj xs).symm
 exact hp.eq_of_pairwise (fun a b _ _ h k=>by omega) h1 h2
def zbO (xs:List Int):Int:=el (zkL xs) (xs.length / 2)
theorem zoF (xs:List Int):zjt xs=zbO xs:=by rw [zjt,zbO,zl7]
def zsm (xs:List Int):Int:=if xs=[] then 1 else 0
theorem zut (l:List Int) (n:Int):FnC Tryz.prog 97 [dInts.can l,dInt.can n] (.bool (hasB l n)) D2:=FnC.of_bool (fnB Tryz.func97 (by decide) rfl) fun w E vals hd=>by
 obtain ⟨v,u,rfl,h1,h3⟩:=zda hd
 obtain ⟨a,c,rfl,h2⟩:=zcq h1
 obtain ⟨rfl,_⟩:=h3
 exact (zqg a _ c l n w (IntSl.ofSl h2)).mono (by rintro e w' ⟨rfl,rfl⟩;exact ⟨rfl,Below.refl _ _⟩)
theorem zxn (l:List Int):FnC Tryz.prog 57 [dInts.can l] (.bool (isC l)) D2:=FnC.of_bool (fnB Tryz.func57 (by decide) rfl) fun w E vals hd=>by
 obtain ⟨v,rfl,h1⟩:=zes hd
 obtain ⟨a,c,rfl,h2⟩:=zcq h1
 exact (zcR a _ c l w (IntSl.ofSl h2)).mono (by rintro e w' ⟨rfl,q,rfl⟩;exact ⟨by rw [zex],zc4 (Below.refl _ _) _⟩)
theorem zhy (l k:List Int):FnC Tryz.prog 111 [dInts.can l,dInts.can k] (.bool (zbH l k)) D2:=FnC.of_bool (fnB Tryz.func111 (by decide) rfl) fun w E vals hd=>by
 obtain ⟨v,u,rfl,h1,h3⟩:=zda hd
 obtain ⟨a,c,rfl,h2⟩:=zcq h1
 obtain ⟨b,d,rfl,h4⟩:=zcq h3
 exact (zkV a _ c l b _ d k w (IntSl.ofSl h2) (IntSl.ofSl h4)).mono (by rintro e w' ⟨rfl,hb⟩;exact ⟨by rw [zio],hb⟩)
theorem zhj (l:List Int) (n:Int) (hl:l.length<=1000000):FnC Tryz.prog 81 [dInts.can l,dInt.can n] (.tup [.sl [1] (.rInts (zbp l n)),.int .i64 (zc8 l n).1]) D2:=FnC.of_setS (fnB Tryz.func81 (by decide) rfl) (by unfold zc8;split<;>rfl) fun w E vals hd=>by
 obtain ⟨v,u,rfl,h1,h3⟩:=zda hd
 obtain ⟨a,c,rfl,h2⟩:=zcq h1
 obtain ⟨rfl,_⟩:=h3
 have hle:(za8 l n).length<=l.length:=List.length_filter_le _ _
 refine ⟨⟨fun x hx=>?_,?_⟩,by rw [<- znq];exact zov a _ c l n w (IntSl.ofSl h2) (by omega)⟩
 ·unfold zbp at hx;split at hx
  ·exact h2.i64 x ((List.mem_filter.1 hx).1)
  ·cases hx
 ·unfold zbp;split
  ·omega
  ·simp
theorem zow (l:List Int) (n:Int) (hl:l.length<=1000000):FnC Tryz.prog 82 [dInts.can l,dInt.can n] (.tup [.own 2,.int .i64 (zjm l n).1]) (D3i (zcn l n)):=FnC.of_setR (fnB Tryz.func82 (by decide) rfl) (by
  unfold zjm;split
  ·rcases zgR (putL l n) with ⟨_,e,_⟩ | ⟨_,e,_⟩<;>rw [e]<;>decide
  ·decide) fun w E vals hd=>by
 obtain ⟨v,u,rfl,h1,h3⟩:=zda hd
 obtain ⟨a,c,rfl,h2⟩:=zcq h1
 obtain ⟨rfl,h4⟩:=zv3 h3
 have hle:=zmx l n
 refine ⟨fun x hx=>?_,by rw [<- zuM];exact zwG a _ c l n w (IntSl.ofSl h2) (zlf h2) (by omega) h4⟩
 unfold zcn at hx;split at hx
 ·split at hx
  ·exact (putL_mem.1 hx).elim (fun e=>e▸h4) (h2.i64 x)
  ·cases hx
 ·cases hx
theorem zr0 (l k:List Int) (hl:l.length<=1000000/\k.length<=1000000):FnC Tryz.prog 98 [dInts.can l,dInts.can k] (.tup [.sl [1] (.rInts (zdw l k).2),.int .i64 (zdw l k).1]) D2:=by
 rw [<- zr1]
 refine FnC.of_setS (fnB Tryz.func98 (by decide) rfl) (by
  unfold zkC;split
  ·rcases zgR (zbe (l++k)) with ⟨_,e,_⟩ | ⟨_,e,_⟩<;>rw [e]<;>decide
  ·decide) fun w E vals hd=>?_
 obtain ⟨v,u,rfl,h1,h3⟩:=zda hd
 obtain ⟨a,c,rfl,h2⟩:=zcq h1
 obtain ⟨b,d,rfl,h4⟩:=zcq h3
 refine ⟨⟨ztW h2.i64 h4.i64,?_⟩,zxM a _ c l b _ d k w (IntSl.ofSl h2) (IntSl.ofSl h4) (zlf h2) (zlf h4) (by omega) (by omega)⟩
 rw [zr1,zdw]
 have:=zh0 l k
 split
 ·split
  ·show (zbB l k).length<=_;omega
  ·simp
 ·simp
theorem zxy {l:List Int} (h:∀ x∈l,I64 x) (i:Nat):I64 (el l i):=by
 by_cases hi:i<l.length
 ·have e:el l i=l[i]:=by simp [el,hi]
  rw [e];exact h _ (List.getElem_mem hi)
 ·have e:el l i=0:=by simp [el,List.getElem?_eq_none (Nat.not_lt.1 hi)]
  rw [e];exact ⟨by decide,by decide⟩
theorem zoE (l:List Int) (hl:l.length<=1000000):FnC Tryz.prog 78 [dInts.can l] (.tup [.int .i64 (zbO l),.int .i64 (zsm l)]) D2:=FnC.of_i2 (fnB Tryz.func78 (by decide) rfl) fun w E vals hd=>by
 obtain ⟨v,rfl,h1⟩:=zes hd
 obtain ⟨a,c,rfl,h2⟩:=zcq h1
 have hi:I64 (zbO l):=zxy (fun x hx=>h2.i64 x ((zfj l).mem_iff.1 hx)) _
 refine ⟨⟨hi,by unfold zsm;split<;>decide⟩,?_⟩
 by_cases h0:l=[]
 ·subst h0;exact (zsj a c w).mono (by rintro e w' ⟨rfl,rfl⟩;exact ⟨rfl,Below.refl _ _⟩)
 ·rw [<- zoF,zsm,if_neg h0]
  exact (zsl a _ c l w (IntSl.ofSl h2) (by omega) (List.length_pos_iff.2 h0)).mono (by rintro e w' ⟨rfl,hb⟩;exact ⟨rfl,hb⟩)
def eHas:Ent:=ent2 97 dInts dInt fun l n=>([],.bool (hasB l n),D2)
theorem zvY:zaf Tryz.prog eHas:=za3 (zut [] 0).1 fun l n _=>zut l n
def eIs:Ent:=ent1 57 dInts fun l=>([],.bool (isC l),D2)
theorem zxB:zaf Tryz.prog eIs:=za4 (zxn []).1 fun l _=>zxn l
def zu0:Ent:=ent2 111 dInts dInts fun l k=>([],.bool (zbH l k),D2)
theorem zqD:zaf Tryz.prog zu0:=za3 (zhy [] []).1 fun l k _=>zhy l k
noncomputable def zfR:Ent:=ent2 81 dInts dInt fun l n=>([l.length<=1000000],.tup [.sl [1] (.rInts (zbp l n)),.int .i64 (zc8 l n).1],D2)
theorem ze1:zaf Tryz.prog zfR:=za3 (zhj [] 0 (by decide)).1 fun l n h=>zhj l n (h _ (by simp))
noncomputable def zvO:Ent:=ent2 82 dInts dInt fun l n=>([l.length<=1000000],.tup [.own 2,.int .i64 (zjm l n).1],D3i (zcn l n))
theorem ziK:zaf Tryz.prog zvO:=za3 (zow [] 0 (by decide)).1 fun l n h=>zow l n (h _ (by simp))
def zwc:Ent:=ent2 98 dInts dInts fun l k=>([l.length<=1000000/\k.length<=1000000],.tup [.sl [1] (.rInts (zdw l k).2),.int .i64 (zdw l k).1],D2)
theorem zmQ:zaf Tryz.prog zwc:=za3 (zr0 [] [] (by decide)).1 fun l k h=>zr0 l k (h _ (by simp))
def zx1:Ent:=ent1 78 dInts fun l=>([l.length<=1000000],.tup [.int .i64 (zbO l),.int .i64 (zsm l)],D2)
theorem ztq:zaf Tryz.prog zx1:=za4 (zoE [] (by decide)).1 fun l h=>zoE l (h _ (by simp))
end Go.Proofs.YtkhphiahindnnaaGreat
namespace Go.Proofs.YtkhphiahindnnaaGreat
open Go.RowKit Go.ChangeShapes Go.WideShapes Go.Deep
set_option maxRecDepth 100000
def dFn (f:Nat):Dec Unit where
 dec:=fun s=>match s with | .fn g=>if g=f then some () else none | _=>none
 can:=fun _=> .fn f
 Okp:=fun _=>True
 okp:=fun _ _ _ _ _=>trivial
 ok:=by
  intro s x h E w v _ hd
  split at h
  ·split at h
   ·rename_i e;subst e;exact hd
   ·cases h
  ·cases h
def inN (x:Int):Bool:=decide (1<=x)&&decide (x<=5)
def outN (x:Int):Bool:=decide (x<1)||decide (5<x)
theorem zit (x:Int):outN x=!inN x:=by
 unfold outN inN
 by_cases h1:1<=x<;>by_cases h2:x<=5<;>simp [h1,h2]<;>omega
def zaK (p:Int->Bool):List Int->Int
 | []=> -1
 | x::l=>if p x then 0 else (if zaK p l = -1 then -1 else zaK p l+1)
theorem zcU {p:Int->Bool}:∀ {l:List Int} {j:Nat},j<l.length->(∀ i,i<j->p (l.getD i 0)=false)->p (l.getD j 0)=true->zaK p l=j
 | x::l,0,_,_,h=>by simp only [List.getD_cons_zero] at h;simp [zaK,h]
 | x::l,j+1,hj,h0,h=>by
  have hx:=h0 0 (by omega)
  simp only [List.getD_cons_zero] at hx
  have:=zcU (l:=l) (j:=j) (by simpa using hj) (fun i hi=>by simpa using h0 (i+1) (by omega)) (by simpa using h)
  simp only [zaK,hx,this]
  split
  ·simp at *
  ·split<;>omega
theorem zc0 {p:Int->Bool}:∀ {l:List Int},(∀ i,i<l.length->p (l.getD i 0)=false)->zaK p l = -1
 | [],_=>rfl
 | x::l,h=>by
  have hx:=h 0 (by simp)
  simp only [List.getD_cons_zero] at hx
  have:=zc0 (l:=l) (fun i hi=>by simpa using h (i+1) (by simpa using hi))
  simp [zaK,hx,this]
theorem zhE {p:Int->Bool}:∀ (l:List Int),(0<=zaK p l↔l.any p=true) /\ -1<=zaK p l
 | []=>by simp [zaK]
 | x::l=>by
  obtain ⟨h1,h2⟩:=zhE (p:=p) l
  simp only [zaK,List.any_cons,Bool.or_eq_true,<- h1]
  split
  ·rename_i hx;simp [hx]
  ·rename_i hx
   split
   ·rename_i h;simp [h,hx]
   ·rename_i h;simp only [hx,false_or];omega
theorem zkn {p:Int->Bool} (l:List Int):decide (zaK p l>=0)=l.any p:=by rw [Bool.eq_iff_iff,decide_eq_true_eq];exact (zhE l).1
theorem zp5 (x:Int):FnC Tryz.prog 100 [dInt.can x] (.bool (outN x)) D2:=by
 refine FnG.of_vc (zak zad fun _=>none) Tryz.func100 rfl (by decide) rfl 300 (p:=fun (V:List PE->Prop)=>let v0:=decide (x<1);True/\(((!v0)=true->(!v0)=true)/\(v0=false->(!v0)=true)/\True)/\zac v0 true (decide (x>5))=outN x/\True) (by kernel_rfl) ?_
 simp only [imp_self,implies_true,true_and,and_true,zah,zai,outN,GT.gt]
 rcases Bool.eq_false_or_eq_true (decide (x<1)) with h | h<;>rw [h]<;>simp [zac]
def eMay1:Ent:=ent1 100 dInt fun x=>([],.bool (outN x),D2)
theorem zmL:zaf Tryz.prog eMay1:=za4 (zp5 0).1 fun x _=>zp5 x
theorem zkb (l:List Int):FnC Tryz.prog 113 [dInts.can l,(dFn 100).can ()] (.int .i64 (zaK outN l)) D2:=by
 refine FnC.g2 dInts (dFn 100) l () (fnB Tryz.func113 (by decide) rfl) fun hl _=>?_
 refine FnG.of_vc (zak (zaa zmL zad) fun _=>none) Tryz.func113 rfl (by decide) rfl 300 (p:=fun (V:List PE->Prop)=>True/\True/\V []) (by kernel_rfl) ?_
 simp only [true_and,and_true]
 refine LoopG.head (zak (zaa zmL zad) fun _=>none) 0 (A:=Nat) (fun j=>j<=l.length/\∀ i,i<j->outN (l.getD i 0)=false) (fun j=>[(8,.int .i64 j)]) (fun _=>[]) (fun j=>l.length-j) 0 ⟨Nat.zero_le _,fun i h=>absurd h (by omega)⟩ (p0:=let v0:=(↑(l.length):Int);(0:Int)=(↑(0:Nat):Int)/\v0=v0/\l=l/\True) (by kernel_rfl) ?_ 300 (p:=fun (x:Nat) (V:List PE->Prop)=>let v0:=(↑x:Int);let v1:=(↑(l.length):Int);let v2:=outN (List.getD l x (0:Int));let v3:=decide (v0<v1);True/\True/\(v3=true->True/\((0:Int)<=v0/\v0<v1/\True)/\True/\(v2=true->True/\v0=zaK outN l/\True)/\(v2=false->True/\V [PE.a,PE.b]))/\(v3=false->True/\(-1:Int)=zaK outN l/\True)) (by intro x;kernel_rfl) ?_
 ·simp
 ·rintro j ⟨hj,h0⟩
  have hl44:=hl.1
  simp only [true_and,and_true,decide_eq_true_eq,decide_eq_false_iff_not]
  refine ⟨fun h1=>⟨by omega,fun h2=>?_,fun h2=>?_⟩,fun h1=>?_⟩
  ·exact (zcU (by omega) h0 h2).symm
  ·refine Back.mk (j+1) ⟨by omega,fun i hi=>?_⟩ (by omega) (p0:=let v0:=(↑(l.length):Int);IntKind.wrap IntKind.i64 ((↑j:Int)+(1:Int))=(↑(j+(1:Nat)):Int)/\v0=v0/\l=l/\True) (by kernel_rfl) ?_
   ·by_cases h:i=j
    ·subst h;exact h2
    ·exact h0 i (by omega)
   ·simp [zbN (i:=j) (by omega)]
  ·exact (zc0 fun i hi=>h0 i (by omega)).symm
def zvX:Ent:=ent2 113 dInts (dFn 100) fun l _=>([],.int .i64 (zaK outN l),D2)
theorem zoa:zaf Tryz.prog zvX:=za3 (zkb []).1 fun l _ _=>zkb l
theorem zf9 (l:List Int):FnC Tryz.prog 99 [dInts.can l,(dFn 100).can ()] (.bool (l.any outN)) D2:=by
 refine FnG.of_vc (zak (zaa zoa zad) fun _=>none) Tryz.func99 rfl (by decide) rfl 300 (p:=fun (V:List PE->Prop)=>True/\True/\decide (zaK outN l>=0)=List.any l outN/\True) (by kernel_rfl) ?_
 simp only [true_and,and_true]
 exact zkn l
def zhP:Ent:=ent2 99 dInts (dFn 100) fun l _=>([],.bool (l.any outN),D2)
theorem ziS:zaf Tryz.prog zhP:=za3 (zf9 []).1 fun l _ _=>zf9 l
def mayC (c:Config):Bool:=(isC c.voters&&c.voters.all inN)&&(isC c.learners&&c.learners.all inN)&&decide (c.voters≠[])&&c.voters.all (fun x=>!hasB c.learners x)
theorem zcL:∀ (l:List Int) (a b:Int),Asc l->(∀ x∈l,a<=x/\x<=b)->a<=b+1->(l.length:Int)<=b-a+1
 | [],a,b,_,_,h=>by simp;omega
 | x::l,a,b,hs,hb,h=>by
  obtain ⟨hx,hl⟩:=List.pairwise_cons.1 hs
  have h1:=hb x (List.mem_cons_self ..)
  have:=zcL l (x+1) b hl (fun y hy=>⟨by have:=hx y hy;omega,(hb y (List.mem_cons_of_mem _ hy)).2⟩) (by omega)
  rw [List.length_cons];omega
theorem zgp:∀ (ys acc:List Int),ys.Pairwise (· ≠ ·)->((zbB acc ys).length=acc.length+ys.length↔∀ y∈ys,y∉acc)
 | [],acc,_=>by simp [zbB]
 | y::ys,acc,h=>by
  obtain ⟨hy,hys⟩:=List.pairwise_cons.1 h
  have e:zbB acc (y::ys)=zbB (putL acc y) ys:=rfl
  rw [e]
  have hle:=zh0 (putL acc y) ys
  cases hb:hasB acc y
  ·have h1:=zeH hb
   have h2:(putL acc y).length=acc.length+1:=by rw [h1,zlo]
   have hn:y∉acc:=hasB_not.1 hb
   have ih:=zgp ys (putL acc y) hys
   rw [List.length_cons]
   constructor
   ·intro hh
    have h3:=ih.1 (by omega)
    intro z hz
    rcases List.mem_cons.1 hz with rfl | hz
    ·exact hn
    ·exact fun hm=>h3 z hz (putL_mem.2 (.inr hm))
   ·intro hh
    have h3:=ih.2 (fun z hz hm=>by
     rcases putL_mem.1 hm with rfl | hm
     ·exact hy z hz rfl
     ·exact hh z (List.mem_cons_of_mem _ hz) hm)
    omega
  ·have h1:=zgm hb
   have hm:y∈acc:=hasB_iff.1 hb
   rw [h1] at hle ⊢
   rw [List.length_cons]
   constructor
   ·intro hh;omega
   ·intro hh;exact absurd hm (hh y (List.mem_cons_self ..))
theorem zxO {l:List Int} (h:Asc l):l.Pairwise (· ≠ ·):=List.Pairwise.imp (fun {a b} (hab:a<b)=>by omega) h
theorem zm4 (c:Config):mayC c=(((zdw c.voters c.learners).1==0)&&!((zdw c.voters c.learners).2.any outN)&&decide ((0:Int)<(c.voters.length:Int))&&(((zdw c.voters c.learners).2.length:Int)==(c.voters.length:Int)+(c.learners.length:Int))):=by
 rw [Bool.eq_iff_iff]
 by_cases hi:isC c.voters=true/\isC c.learners=true
 ·obtain ⟨h1,h2⟩:=hi
  have a2:=(isC_iff.1 h2).1
  have a1:=(isC_iff.1 h1).1
  have hmem:∀ x,x∈zbB c.voters c.learners↔x∈c.voters\/x∈c.learners:=fun x=>putAll_mem
  have hfull:=zgp c.learners c.voters (zxO a2)
  have hany:((zbB c.voters c.learners).any outN=false)↔(c.voters.all inN=true/\c.learners.all inN=true):=by
   rw [List.any_eq_false,List.all_eq_true,List.all_eq_true]
   constructor
   ·intro h
    exact ⟨fun x hx=>by have:=h x ((hmem x).2 (.inl hx));rw [zit] at this;simpa using this,fun x hx=>by have:=h x ((hmem x).2 (.inr hx));rw [zit] at this;simpa using this⟩
   ·rintro ⟨k1,k2⟩ x hx
    rw [zit]
    rcases (hmem x).1 hx with h | h
    ·simp [k1 x h]
    ·simp [k2 x h]
  have hdis:(c.voters.all (fun x=>!hasB c.learners x)=true)↔∀ y∈c.learners,y∉c.voters:=by
   rw [List.all_eq_true]
   constructor
   ·intro h y hy hv
    have:=h y hv
    simp [hasB_iff.2 hy] at this
   ·intro h x hx
    cases hb:hasB c.learners x
    ·rfl
    ·exact absurd hx (h x (hasB_iff.1 hb))
  have hne:(c.voters≠[])↔(0:Int)<(c.voters.length:Int):=by
   cases c.voters<;>simp<;>omega
  unfold mayC zdw
  rw [h1,h2]
  simp only [Bool.and_eq_true,decide_eq_true_eq,true_and,hdis,Bool.and_self,if_true]
  by_cases hlen:(zbB c.voters c.learners).length<=16
  ·rw [if_pos hlen]
   constructor
   ·rintro ⟨⟨⟨v1,l1⟩,ne⟩,d⟩
    refine ⟨⟨⟨by simp,?_⟩,hne.1 ne⟩,?_⟩
    ·rw [hany.2 ⟨v1,l1⟩];rfl
    ·rw [beq_iff_eq];have:=hfull.2 d;simp only;omega
   ·rintro ⟨⟨⟨_,an⟩,ne⟩,d⟩
    rw [beq_iff_eq] at d
    have h3:=hany.1 (by simpa using an)
    exact ⟨⟨⟨h3.1,h3.2⟩,hne.2 ne⟩,hfull.1 (by simp only at d;omega)⟩
  ·rw [if_neg hlen]
   constructor
   ·rintro ⟨⟨⟨v1,l1⟩,ne⟩,d⟩
    exfalso
    have hl:=zcL _ 1 5 (zfn (ys:=c.learners) a1) (fun x hx=>by
     have:inN x=true:=by
      rcases (hmem x).1 hx with h | h
      ·exact List.all_eq_true.1 v1 x h
      ·exact List.all_eq_true.1 l1 x h
     simpa [inN] using this) (by omega)
    omega
   ·rintro ⟨⟨⟨h,_⟩,_⟩,_⟩
    simp at h
 ·have ebr:zdw c.voters c.learners=(1,[]):=by rw [zdw,if_neg (by simpa using hi)]
  rw [ebr]
  constructor
  ·intro h
   unfold mayC at h
   simp only [Bool.and_eq_true] at h
   exact absurd ⟨h.1.1.1.1,h.1.1.2.1⟩ hi
  ·intro h
   simp at h
def zwM:List Ent:=[zwc,zhP]
theorem zo9:∀ e∈zwM,zaf Tryz.prog e:=zaa zmQ (zaa ziS zad)
theorem zp3 (c:Config) (hc:zaw c):FnC Tryz.prog 76 [dConfig.can c] (.bool (mayC c)) D2:=by
 refine FnG.of_vc (zak zo9 fun _=>none) Tryz.func76 rfl (by decide) rfl 300 (p:=fun (V:List PE->Prop)=>let v0:=c.learners;let v2:=c.voters.length;let v3:=zdw c.voters v0;let v4:=(↑v2:Int);let v6:=Prod.fst v3==0;let v7:=zac v6 (!List.any (Prod.snd v3) outN) false;let v8:=zac v7 (decide (v4>0)) false;True/\((v2<=1000000/\v0.length<=1000000)/\True)/\((v6=true->v6=true)/\(v6=true->v6=true)/\(v6=true->v6=true)/\True)/\((v7=true->v7=true)/\(v7=true->v7=true)/\(v7=true->v7=true)/\(v7=true->v7=true)/\(v8=true->v8=true)/\(v8=true->v8=true)/\(v8=true->v8=true)/\(v8=true->v8=true)/\(v8=true->v8=true)/\(v8=true->v8=true)/\(v8=true->v8=true)/\(v8=true->v8=true)/\(v8=true->v8=true)/\(v8=true->v8=true)/\True)/\zac v8 ((↑(List.length (Prod.snd v3)):Int)==IntKind.wrap IntKind.i64 (v4+(↑(v0.length):Int))) false=mayC c/\True) (by kernel_rfl) ?_
 simp only [imp_self,implies_true,true_and,and_true,zah,zai]
 refine ⟨hc,?_⟩
 rw [zm4,zaD (by unfold zaw at hc;constructor<;>omega)]
def eMay:Ent:=ent1 76 dConfig fun c=>([zaw c],.bool (mayC c),D2)
theorem zqM:zaf Tryz.prog eMay:=za4 (zp3 default (by unfold zaw;decide)).1 fun c h=>zp3 c (h _ (by simp))
theorem zuG (c:Config):FnC Tryz.prog 74 [dConfig.can c] (.agg (c.svs [0])) D2:=by
 refine FnG.of_vc (zak zad fun _=>none) Tryz.func74 rfl (by decide) rfl 300 (p:=fun (V:List PE->Prop)=>True/\True/\c.voters=c.voters/\c.learners=c.learners/\True) (by kernel_rfl) ?_
 simp
def eAsk:Ent:=ent1 74 dConfig fun c=>([],.agg (c.svs [0]),D2)
theorem zrc:zaf Tryz.prog eAsk:=za4 (zuG default).1 fun c h=>zuG c
theorem zp0 (c:Config) (n:Int):FnC Tryz.prog 75 [dConfig.can c,dInt.can n] (.tup [.bool (hasB c.voters n),.bool (hasB c.learners n)]) D2:=by
 refine FnG.of_vc (zak (zaa zvY zad) fun _=>none) Tryz.func75 rfl (by decide) rfl 300 (p:=fun (V:List PE->Prop)=>let v0:=hasB c.voters n;let v1:=hasB c.learners n;True/\True/\v0=v0/\v1=v1/\True) (by kernel_rfl) ?_
 simp
def zvW:Ent:=ent2 75 dConfig dInt fun c n=>([],.tup [.bool (hasB c.voters n),.bool (hasB c.learners n)],D2)
theorem zmM:zaf Tryz.prog zvW:=za3 (zp0 default 0).1 fun c n h=>zp0 c n
noncomputable def zwL:List Ent:=[eMay,eAsk,zvW,zwc,zu0,zvO,zfR]
theorem zeC:∀ e∈zwL,zaf Tryz.prog e:=zaa zqM (zaa zrc (zaa zmM (zaa zmQ (zaa zqD (zaa ziK (zaa ze1 zad))))))
def errM (b:Bool):Int:=if b then 0 else 160
theorem zjP (c:Config) (hc:zaw c):FnC Tryz.prog 58 [dConfig.can c] (.int .i64 (errM (mayC c))) D2:=by
 refine FnG.of_vc (zak zeC fun _=>none) Tryz.func58 rfl (by decide) rfl 300 (p:=fun (V:List PE->Prop)=>True/\(zaw c/\True)/\True/\((!mayC c)=true->True/\(160:Int)=errM (mayC c)/\True)/\((!mayC c)=false->True/\(0:Int)=errM (mayC c)/\True)) (by kernel_rfl) ?_
 simp only [imp_self,implies_true,true_and,and_true,zah,zai]
 refine ⟨hc,fun h=>?_,fun h=>?_⟩
 ·have:mayC c=false:=by simpa using h
  rw [this];rfl
 ·have:mayC c=true:=by simpa using h
  rw [this];rfl
def allC (c:Config):List Int:=if mayC c then zbB c.voters c.learners else []
theorem zm5 {c:Config} (h:mayC c=true):zdw c.voters c.learners=(0,zbB c.voters c.learners):=by
 rw [zm4] at h
 simp only [Bool.and_eq_true] at h
 unfold zdw at h ⊢
 split at h
 ·rename_i hi
  rw [if_pos hi]
  split at h
  ·rename_i hl;rw [if_pos hl]
  ·simp at h
 ·simp at h
theorem zp8 (c:Config) (hc:zaw c):FnC Tryz.prog 85 [dConfig.can c] (.sl [1] (.rInts (allC c))) D2:=by
 refine FnG.of_vc (zak zeC fun _=>none) Tryz.func85 rfl (by decide) rfl 300 (p:=fun (V:List PE->Prop)=>True/\(zaw c/\True)/\True/\((!mayC c)=true->True/\allC c=[]/\True)/\((!mayC c)=false->((c.voters.length<=1000000/\c.learners.length<=1000000)/\True)/\True/\Prod.snd (zdw c.voters c.learners)=allC c/\True)) (by kernel_rfl) ?_
 simp only [imp_self,implies_true,true_and,and_true,zah,zai]
 refine ⟨hc,fun h=>?_,fun h=>⟨hc,?_⟩⟩
 ·simp at h;simp [allC,h]
 ·simp at h;rw [zm5 h];simp [allC,h]
theorem zjL (c:Config) (n:Int) (hc:zaw c):FnC Tryz.prog 36 [dConfig.can c,dInt.can n] (.bool (hasB c.voters n&&mayC c)) D2:=by
 refine FnG.of_vc (zak zeC fun _=>none) Tryz.func36 rfl (by decide) rfl 300 (p:=fun (V:List PE->Prop)=>let v0:=hasB c.voters n;True/\True/\((v0=true->v0=true)/\(v0=true->v0=true)/\(v0=true->v0=true)/\(v0=true->zaw c)/\(v0=true->v0=true)/\True)/\zac v0 (mayC c) false=(v0&&mayC c)/\True) (by kernel_rfl) ?_
 simp only [imp_self,implies_true,true_and,and_true,zah,zai]
 exact fun _=>hc
theorem zg0 (c:Config) (l:List Int) (hc:zaw c):FnC Tryz.prog 96 [dConfig.can c,dInts.can l] (.bool (mayC c&&zbH c.voters l)) D2:=by
 refine FnG.of_vc (zak zeC fun _=>none) Tryz.func96 rfl (by decide) rfl 300 (p:=fun (V:List PE->Prop)=>let v0:=zbH c.voters l;True/\(zaw c/\(mayC c=true->mayC c=true)/\(mayC c=true->mayC c=true)/\(mayC c=true->mayC c=true)/\(mayC c=true->mayC c=true)/\True)/\zac (mayC c) v0 false=(mayC c&&v0)/\True) (by kernel_rfl) ?_
 simp only [imp_self,implies_true,true_and,and_true,zah,zai]
 exact hc
def zl0:Ent:=ent1 58 dConfig fun c=>([zaw c],.int .i64 (errM (mayC c)),D2)
theorem zhN:zaf Tryz.prog zl0:=za4 (zjP default (by unfold zaw;decide)).1 fun c h=>zjP c (h _ (by simp))
def eAll:Ent:=ent1 85 dConfig fun c=>([zaw c],.sl [1] (.rInts (allC c)),D2)
theorem zwf:zaf Tryz.prog eAll:=za4 (zp8 default (by unfold zaw;decide)).1 fun c h=>zp8 c (h _ (by simp))
def zuw:Ent:=ent2 36 dConfig dInt fun c n=>([zaw c],.bool (hasB c.voters n&&mayC c),D2)
theorem zq3:zaf Tryz.prog zuw:=za3 (zjL default 0 (by unfold zaw;decide)).1 fun c n h=>zjL c n (h _ (by simp))
def ziM:Ent:=ent2 96 dConfig dInts fun c l=>([zaw c],.bool (mayC c&&zbH c.voters l),D2)
theorem zgJ:zaf Tryz.prog ziM:=za3 (zg0 default [] (by unfold zaw;decide)).1 fun c l h=>zg0 c l (h _ (by simp))
def seqC:Int->List Entry->Bool
 | _,[]=>true
 | s,e::l=>(e.index==s+1)&&seqC (s+1) l
theorem seqC_iff:∀ {l:List Entry} {s:Int},seqC s l=true↔∀ i,i<l.length->(l.getD i default).index=s+1+i
 | [],s=>by simp [seqC]
 | e::l,s=>by
  simp only [seqC,Bool.and_eq_true,beq_iff_eq,seqC_iff (l:=l)]
  constructor
  ·rintro ⟨h1,h2⟩ i hi
   cases i with
   | zero=>simp only [List.getD_cons_zero];omega
   | succ i=>
    have:=h2 i (by simpa using hi)
    simp only [List.getD_cons_succ];omega
  ·intro h
   refine ⟨by have:=h 0 (by simp);simp only [List.getD_cons_zero] at this;omega,fun i hi=>?_⟩
   have:=h (i+1) (by simpa using hi)
   simp only [List.getD_cons_succ] at this;omega
def onC (k:Kept):Bool:=decide (0<=k.snap.index)&&decide (k.entries.length<=10000)&&seqC k.snap.index k.entries
theorem onC_iff {k:Kept}:onC k=true↔onP k:=by
 unfold onC onP okAt Kept.en
 simp only [Bool.and_eq_true,decide_eq_true_eq,seqC_iff,and_assoc]
 constructor
 ·rintro ⟨h1,h2,h3⟩
  exact ⟨h1,h2,fun i hi=>by have:=h3 i hi;omega⟩
 ·rintro ⟨h1,h2,h3⟩
  exact ⟨h1,h2,fun i hi=>by have:=h3 i hi;omega⟩
theorem zld (k:Kept):onB k=onC k:=by rw [Bool.eq_iff_iff,onB_iff,onC_iff]
theorem zn9 {k:Kept} (h:onC k=true) {i:Nat} (hi:i<k.entries.length):(k.entries.getD i default).index=k.snap.index+1+i:=by
 unfold onC at h
 simp only [Bool.and_eq_true] at h
 exact seqC_iff.1 h.2 i hi
theorem zdA {k:Kept} (h:onC k=true):0<=k.snap.index/\k.entries.length<=10000:=by
 unfold onC at h
 simp only [Bool.and_eq_true,decide_eq_true_eq] at h
 exact h.1
def zam (k:Kept):Int×Int:=if onC k then znL k else (0,0)
theorem zpL (k:Kept):zb9 k=zam k:=by rw [zm8,zam,zld]
theorem zax {k:Kept} (h:onC k=true):(zam k).1=k.snap.index+k.entries.length:=by
 rw [zam,if_pos h,znL]
 split
 ·rename_i h0;rw [h0];simp [zin]
 ·rename_i h0
  show (k.entries.getD _ default).index=_
  rw [zn9 h (by omega)];omega
def zau (k:Kept) (i:Int):Int×Int:=
 if onC k then (if i=k.snap.index then (k.snap.term,0) else if k.snap.index<i/\i<=k.snap.index+k.entries.length then ((k.entries.getD (i-k.snap.index-1).toNat default).term,0) else (0,150)) else (0,1)
theorem zdz (k:Kept) (i:Int):zaQ k i=zau k i:=by
 unfold zau
 by_cases h:onC k=true
 ·have hb:onB k=true:=by rw [zld];exact h
  rw [if_pos h]
  split
  ·rename_i e;subst e;exact zho hb
  ·rename_i h0
   split
   ·rename_i h1
    have hj:(i-k.snap.index-1).toNat<k.entries.length:=by omega
    have:=zif hb hj
    have e:(k.en (i-k.snap.index-1).toNat).index=i:=by
     show (k.entries.getD _ default).index=i
     rw [zn9 h hj];omega
    rw [e] at this;exact this
   ·rename_i h1
    refine zfh hb h0 fun j hj e=>h1 ?_
    have:(k.en j).index=_:=zn9 h hj
    omega
 ·have h2:onC k=false:=by simpa using h
  rw [if_neg h];exact zjr (by rw [zld];exact h2) i
def zeM (k:Kept) (i t:Int):Bool:=zlg (onC k) (zam k) i t
theorem zsF (k:Kept) (i t:Int):zjJ k i t=zeM k i t:=by rw [zjJ,zeM,zld,zpL]
def zmm (k:Kept) (a m:Int):List Entry:=(k.entries.drop (a-1-k.snap.index).toNat).take m.toNat
def zd4 (k:Kept) (a:Int):Bool:=onC k&&(decide (k.snap.index<a)&&decide (a-1<=k.snap.index+k.entries.length))
def zbk (k:Kept) (a m:Int):List Entry×Int:=if onC k then (if zd4 k a then (zmm k a m,0) else ([],150)) else ([],1)
def cfgB (i:Int) (e:Entry):Bool:=decide (e.index<=i)&&e.kind==2
def cfgR (k:Kept) (i:Int):Config×Int:=match k.entries.reverse.find? (cfgB i) with
 | some e=>(e.config,e.index)
 | none=>(k.snap.config,k.snap.index)
def zav (k:Kept) (i:Int):Config×Int×Int:=if (zau k i).2=0 then ((cfgR k i).1,(cfgR k i).2,0) else (default,0,(zau k i).2)
def zl3:Ent:=ent1 56 dKept fun k=>([],.int .i64 (err (onC k)),D2)
theorem zhR:zaf Tryz.prog zl3:=za4 (zfU default).1 fun k _=>by rw [<- zld];exact zfU k
def eOnC:Ent:=ent1 52 dKept fun k=>([],.bool (onC k),D2)
theorem zvV:zaf Tryz.prog eOnC:=za4 (zsE default).1 fun k _=>by rw [<- zld];exact zsE k
def zk4:Ent:=ent1 54 dKept fun k=>([],.tup [.int .i64 (zam k).1,.int .i64 (zam k).2],D2)
theorem zeZ:zaf Tryz.prog zk4:=za4 (zi2 default).1 fun k _=>by rw [<- zpL];exact zi2 k
def zgI:Ent:=ent2 50 dKept dInt fun k i=>([],.tup [.int .i64 (zau k i).1,.int .i64 (zau k i).2],D2)
theorem zcW:zaf Tryz.prog zgI:=za3 (zid default 0).1 fun k i _=>by rw [<- zdz];exact zid k i
def zlv:Ent:=ent2 16 dKept dInt fun k i=>([],.tup [.int .i64 (zau k i).1,.int .i64 (zau k i).2],D2)
theorem zhK:zaf Tryz.prog zlv:=za3 (zfM default 0).1 fun k i _=>by rw [<- zdz];exact zfM k i
theorem zo4 {E:Env} {w:World} {s t u:SV} {vals:List Value} (h:DenL E w [s,t,u] vals):∃ v x y,vals=[v,x,y]/\DenV E w s v/\DenV E w t x/\DenV E w u y:=by
 match vals,h with
 | [v,x,y],h=>exact ⟨v,x,y,rfl,h.1,h.2.1,h.2.2.1⟩
theorem zm3 (k:Kept) (i t:Int):FnC Tryz.prog 65 [dKept.can k,dInt.can i,dInt.can t] (.bool (zeM k i t)) D2:=FnC.of_bool (fnB Tryz.func65 (by decide) rfl) fun w E vals hd=>by
 obtain ⟨v,u,y,rfl,⟨xs,rfl,hl⟩,⟨rfl,_⟩,⟨rfl,_⟩⟩:=zo4 hd
 rw [<- zsF];exact zpr xs k i t w _ (Kept.svs_rd hl)
def zx8:Ent:=ent3 65 dKept dInt dInt fun k i t=>([],.bool (zeM k i t),D2)
theorem zk1:zaf Tryz.prog zx8:=zlt (zm3 default 0 0).1 fun k i t _=>zm3 k i t
def tabK:List Ent:=[zl3,eOnC,zk4,zgI,zlv,zvU]
theorem zoA:∀ e∈tabK,zaf Tryz.prog e:=zaa zhR (zaa zvV (zaa zeZ (zaa zcW (zaa zhK (zaa zmJ zad)))))
theorem znz {k:Kept} {a:Int} (ho:onC k=true) (ha:I64 a):(decide (a<=k.snap.index)||decide (IntKind.i64.wrap (a-1)>(zam k).1))=!zd4 k a:=by
 have hb:=zdA ho
 rw [zax ho,zd4,ho]
 by_cases h:a<=k.snap.index
 ·simp [h,Int.not_lt.2 h]
 ·rw [zaD ⟨by omega,by have:=ha.2;omega⟩]
  by_cases h2:a-1<=k.snap.index+k.entries.length
  ·have:¬ a-1>k.snap.index+k.entries.length:=by omega
   simp [h,h2,this];omega
  ·have:a-1>k.snap.index+k.entries.length:=by omega
   simp [h,h2,this]
theorem zsx {k:Kept} {a:Int} (h:zd4 k a=true):k.snap.index<a/\a-1<=k.snap.index+k.entries.length:=by
 unfold zd4 at h
 simp only [Bool.and_eq_true,decide_eq_true_eq] at h
 exact h.2
theorem zti {b:Bool}:(err b != (0:Int))=!b:=by cases b<;>rfl
theorem zml (k:Kept) (a m:Int) (hs:zbQ k) (hm0:0<=m):FnC Tryz.prog 95 [dKept.can k,dInt.can a,dInt.can m] (.tup [.sl [1] (.rEntry (zbk k a m).1),.int .i64 (zbk k a m).2]) D2:=by
 refine FnC.g3 dKept dInt dInt k a m (fnB Tryz.func95 (by decide) rfl) fun hk ha hm=>?_
 refine FnG.of_vc (zak zoA fun _=>none) Tryz.func95 rfl (by decide) rfl 300 (p:=fun (V:List PE->Prop)=>let v0:=k.snap.index;let v2:=(↑(k.entries.length):Int);let v3:=Prod.snd (zbk k a m);let v4:=err (onC k) != 0;let v5:=decide (a<=v0);let v6:=IntKind.wrap IntKind.i64 (a-(1:Int));let v7:=IntKind.wrap IntKind.i64 (v6-v0);let v8:=zac v5 true (decide (v6>(Prod.fst (zam k))));True/\True/\True/\True/\(v4=true->True/\Prod.fst (zbk k a m)=[]/\err (onC k)=v3/\True)/\(v4=false->True/\(((!v5)=true->(!v5)=true)/\((!v5)=true->(!v5)=true)/\((!v5)=true->(!v5)=true)/\(v5=false->(!v5)=true)/\True)/\True/\(v8=true->True/\Prod.fst (zbk k a m)=[]/\(150:Int)=v3/\True)/\(v8=false->True/\((0:Int)<=v7/\v7<=v2/\v2<=v2/\True)/\V [PE.b,PE.b]))) (by kernel_rfl) ?_
 simp only [imp_self,implies_true,true_and,and_true,zah,zai,zti,List.take_length]
 have hkl:=hk.entries.1
 refine ⟨fun h=>?_,fun h=>?_⟩
 ·have h:onC k=false:=by simpa using h
  simp [zbk,h,err]
 have h:onC k=true:=by simpa using h
 rw [znz h ha]
 have hb:=zdA h
 refine ⟨fun h2=>by rw [h2];rfl,fun h2=>?_,fun h2=>?_⟩
 ·have h2:zd4 k a=false:=by simpa using h2
  simp [zbk,h,h2]
 have h2:zd4 k a=true:=by simpa using h2
 obtain ⟨h3,h4⟩:=zsx h2
 have hw:IntKind.i64.wrap (IntKind.i64.wrap (a-1)-k.snap.index)=a-1-k.snap.index:=by
  have ha2:a<=9223372036854775807:=ha.2
  rw [zaD (n:=a-1) ⟨by omega,by omega⟩,zaD ⟨by omega,by omega⟩]
 refine ⟨by rw [hw];omega,?_⟩
 have he:zbk k a m=(zmm k a m,0):=by rw [zbk,if_pos h,if_pos h2]
 generalize hX:k.entries.drop (a-1-k.snap.index).toNat=X at *
 have hXl:X.length<=k.entries.length:=by rw [<- hX,List.length_drop];omega
 have hXs:∀ j,j<X.length->zen (X.getD j default):=fun j hj=>hs.1.2 _ (by rw [<- hX] at hj ⊢;exact List.mem_of_mem_drop (zb1 hj))
 refine LoopG.head (zak zoA fun _=>none) 0 (A:=Nat) (fun j=>j<=X.length/\j<=m.toNat) (fun j=>[(45,.int .i64 j),(44,.int .i64 (X.length:Int)),(43,.sl [0] (.rEntry X)),(11,.own 11)]) (fun j=>[(11,.row 71 [12] (.rEntry (X.take j))),(12,.dead)]) (fun j=>X.length-j) 0 ⟨Nat.zero_le _,Nat.zero_le _⟩ (p0:=let v0:=List.drop (Int.toNat (IntKind.wrap IntKind.i64 (IntKind.wrap IntKind.i64 (a-(1:Int))-k.snap.index))) (List.take k.entries.length k.entries);(0:Int)=(↑(0:Nat):Int)/\(↑(v0.length):Int)=(↑(List.length X):Int)/\v0=X/\(0:Int)=0/\m=m/\List.take (0:Nat) X=[]/\True) (by kernel_rfl) ?_ 300 (p:=fun (x:Nat) (V:List PE->Prop)=>let v0:=(↑x:Int);let v1:=List.length (List.take x X);let v2:=(↑(List.length X):Int);let v3:=List.getD X x default;let v6:=decide (v0<v2);let v7:=decide ((↑v1:Int)>=m);True/\True/\(v6=true->((0:Int)<=v0/\v0<v2/\True)/\True/\True/\(v7=true->True/\List.take x X=Prod.fst (zbk k a m)/\v1<=17592186044416/\(0:Int)=Prod.snd (zbk k a m)/\True)/\(v7=false->(v3.config.voters.length<=1000000/\v3.config.learners.length<=1000000/\(v1+List.length [v3])*(1024:Nat)<=140737488355328/\True)/\True/\V [PE.a,PE.b]))/\(v6=false->True/\List.take x X=Prod.fst (zbk k a m)/\v1<=17592186044416/\(0:Int)=Prod.snd (zbk k a m)/\True)) (by intro x;kernel_rfl) ?_
 ·simp only [List.take_length];rw [hw,hX];simp
 ·rintro j ⟨hj,hjm⟩
  simp only [imp_self,implies_true,true_and,and_true,decide_eq_true_eq,decide_eq_false_iff_not,List.length_take,Nat.min_eq_left hj]
  refine ⟨fun h6=>⟨by omega,fun h7=>?_,fun h7=>⟨?_,?_⟩⟩,fun h6=>?_⟩
  ·have:j=m.toNat:=by omega
   subst this
   rw [he,zmm,hX];simp;omega
  ·have:=hXs j (by omega)
   exact ⟨this.1,this.2,by simp only [List.length_cons,List.length_nil];omega⟩
  ·refine Back.mk (j+1) ⟨by omega,by omega⟩ (by omega) (p0:=let v0:=(↑(List.length X):Int);IntKind.wrap IntKind.i64 ((↑j:Int)+(1:Int))=(↑(j+(1:Nat)):Int)/\v0=v0/\X=X/\(0:Int)=0/\m=m/\List.take j X++[List.getD X j default]=List.take (j+(1:Nat)) X/\True) (by kernel_rfl) ?_
   simp only [true_and,and_true,zbN (i:=j) (by omega)]
   exact ⟨by omega,by rw [zaL (d:=default) (by omega)]⟩
  ·have:j=X.length:=by omega
   subst this
   rw [he,zmm,hX,List.take_of_length_le hjm];simp;omega
def zuz:Ent:=ent3 95 dKept dInt dInt fun k a m=>([zbQ k,0<=m],.tup [.sl [1] (.rEntry (zbk k a m).1),.int .i64 (zbk k a m).2],D2)
theorem zkN:zbQ default:=⟨⟨by decide,fun x h=>by cases h⟩,by unfold zaw;decide⟩
theorem zqA:zaf Tryz.prog zuz:=zlt (zml default 0 0 zkN (by decide)).1 fun k a m h=>zml k a m (h _ (by simp)) (h _ (by simp))
end Go.Proofs.YtkhphiahindnnaaGreat
namespace Go.Proofs.YtkhphiahindnnaaGreat
namespace Ag
structure Play where
 ns:List Node
 net:List Message
 many:Int
 deriving Inhabited
def zhf (l:List Message):List Message:=if 100<l.length then l.drop (l.length-100) else l
def zdv (p:Play) (i:Nat) (n:Node) (o:Out) (e:Int):Play×Bool:=if e≠0 then (p,e != 1) else (⟨p.ns.set i n,zhf (p.net++o.messages),p.many⟩,true)
end Ag
end Go.Proofs.YtkhphiahindnnaaGreat
namespace Go.Proofs.YtkhphiahindnnaaGreat
open Go.RowKit Go.ChangeShapes Go.WideShapes Go.Deep
open Ag
set_option maxRecDepth 100000
def zu4:Ent:=ent2 17 dEntry dEntry fun a b=>([],.bool (decide (a=b)),D2)
theorem zqI:zaf Tryz.prog zu4:=za3 (zgj default default).1 fun a b _=>zgj a b
def zrF (a b:Node) (k:Nat):Prop:=
 (a.kept.entries.getD k default).index<=a.commit->(a.kept.entries.getD k default).index<=b.commit->b.kept.snap.index<=(a.kept.entries.getD k default).index ->
  zau b.kept (a.kept.entries.getD k default).index=((a.kept.entries.getD k default).term,0) /\
  (0<=(a.kept.entries.getD k default).index-b.kept.snap.index-1->((a.kept.entries.getD k default).index-b.kept.snap.index-1).toNat<b.kept.entries.length /\
   b.kept.entries.getD ((a.kept.entries.getD k default).index-b.kept.snap.index-1).toNat default=a.kept.entries.getD k default)
structure AgreeG (a b:Node):Prop where
 len:a.kept.entries.length<=1000000
 at_:∀ k,k<a.kept.entries.length->zrF a b k/\0<=(a.kept.entries.getD k default).index/\(a.kept.entries.getD k default).index<=1000000
 sn:0<=b.kept.snap.index/\b.kept.snap.index<=1000000
noncomputable def tabPb:List Ent:=[zlv,zu4]
theorem zmc:∀ e∈tabPb,zaf Tryz.prog e:=zaa zhK (zaa zqI zad)
theorem znk (a b:Node) (H:AgreeG a b):FnC Tryz.prog 6 [dNode.can a,dNode.can b] (.bool true) D2:=by
 refine FnG.of_vc (zak zmc fun _=>none) Tryz.func6 rfl (by decide) rfl 300 (p:=fun (V:List PE->Prop)=>True/\True/\V []) (by kernel_rfl) ?_
 dsimp only
 refine ⟨trivial,trivial,?_⟩
 refine LoopG.head (zak zmc fun _=>none) 0 (A:=Nat) (fun j=>j<=a.kept.entries.length) (fun j=>[(5,.int .i64 j),(4,.bool false)]) (fun _=>[]) (fun j=>a.kept.entries.length-j) 0 (by show 0<=_;omega) (p0:=let v0:=b.kept;let v1:=a.kept;let v2:=v1.vote;let v3:=v0.snap;let v4:=v1.term;let v5:=v1.entries;let v6:=v0.vote;let v7:=v0.term;let v8:=v0.entries;let v9:=v1.snap;let v10:=v9.data;let v11:=v3.index;let v12:=v9.term;let v13:=v3.term;let v14:=v9.config;let v15:=v3.data;let v16:=v3.config;let v17:=v9.index;let v18:=v16.voters;let v19:=v14.voters;let v20:=v14.learners;let v21:=v16.learners;(0:Int)=(↑(0:Nat):Int)/\false=false/\b.id=b.id/\b.role=b.role/\v7=v7/\v6=v6/\v11=v11/\v13=v13/\v18=v18/\v21=v21/\v15=v15/\v8=v8/\b.commit=b.commit/\b.lead=b.lead/\b.elapsed=b.elapsed/\b.yes=b.yes/\b.peers=b.peers/\b.round=b.round/\b.reads=b.reads/\a.id=a.id/\a.role=a.role/\v4=v4/\v2=v2/\v17=v17/\v12=v12/\v19=v19/\v20=v20/\v10=v10/\v5=v5/\a.commit=a.commit/\a.lead=a.lead/\a.elapsed=a.elapsed/\a.yes=a.yes/\a.peers=a.peers/\a.round=a.round/\a.reads=a.reads/\True) (by kernel_rfl) ?_ 300 (p:=fun (x:Nat) (V:List PE->Prop)=>let v0:=b.kept;let v1:=v0.entries;let v2:=a.kept.entries;let v3:=(↑x:Int);let v4:=v0.snap.index;let v5:=(0:Int);let v6:=(↑(v2.length):Int);let v7:=List.getD v2 x default;let v8:=v7.index;let v9:=zau v0 v8;let v10:=Prod.snd v9 != v5;let v11:=decide (v3<v6);let v12:=decide (v8>b.commit);let v13:=IntKind.wrap IntKind.i64 (IntKind.wrap IntKind.i64 (v8-v4)-(1:Int));let v14:=List.getD v1 (Int.toNat v13) default;let v15:=zac v10 true (Prod.fst v9 != v7.term);let v16:=zac v11 (decide (v8<=a.commit)) false;let v17:=zac v12 true (decide (v8<v4));let v18:=decide (v13>=v5);let v19:=zac v18 (!decide (v14=v7)) false;((v11=true->v11=true)/\(v11=true->v11=true)/\(v11=true->v11=true)/\(v11=true->v11=true)/\(v11=true->v5<=v3)/\(v11=true->v3<v6)/\(v11=true->v11=true)/\(v11=true->v11=true)/\(v11=true->v11=true)/\(v11=true->v11=true)/\(v11=true->v11=true)/\(v11=true->v11=true)/\True)/\True/\(v16=true->(v5<=v3/\v3<v6/\True)/\(((!v12)=true->(!v12)=true)/\((!v12)=true->(!v12)=true)/\((!v12)=true->(!v12)=true)/\((!v12)=true->(!v12)=true)/\((!v12)=true->(!v12)=true)/\((!v12)=true->(!v12)=true)/\(v12=false->(!v12)=true)/\True)/\True/\(v17=true->True/\V [PE.a,PE.a])/\(v17=false->True/\(((!v10)=true->(!v10)=true)/\((!v10)=true->(!v10)=true)/\((!v10)=true->(!v10)=true)/\(v10=false->(!v10)=true)/\True)/\True/\(v15=true->True/\false=true/\True)/\(v15=false->True/\((v18=true->v18=true)/\(v18=true->v18=true)/\(v18=true->v18=true)/\(v18=true->v18=true)/\(v18=true->v5<=v13)/\(v18=true->v13<(↑(v1.length):Int))/\(v18=true->v18=true)/\(v18=true->v18=true)/\(v18=true->v18=true)/\(v18=true->v18=true)/\(v18=true->v18=true)/\True)/\True/\(v19=true->True/\false=true/\True)/\(v19=false->True/\V [PE.a,PE.b,PE.b,PE.b]))))/\(v16=false->True/\true=true/\True)) (by intro x;kernel_rfl) ?_
 ·dsimp only
  repeat' apply And.intro
  all_goals first | rfl | trivial
 rintro j hj
 have hj:j<=a.kept.entries.length:=hj
 dsimp only
 simp only [imp_self,implies_true,true_and,and_true,zah,zai]
 by_cases hlt:(j:Int)<(a.kept.entries.length:Int)
 ·have hj2:j<a.kept.entries.length:=by omega
  have hll:=H.len
  obtain ⟨hA,hb0,hb1⟩:=H.at_ j hj2
  have hs:=H.sn
  unfold zrF at hA
  have ew:IntKind.wrap IntKind.i64 ((j:Int)+1)=((j+1:Nat):Int):=by rw [zaD ⟨by omega,by omega⟩];rfl
  have ew2:IntKind.wrap IntKind.i64 (IntKind.wrap IntKind.i64 ((a.kept.entries.getD j default).index-b.kept.snap.index)-1)=(a.kept.entries.getD j default).index-b.kept.snap.index-1:=by
   rw [zaD (n:=(a.kept.entries.getD j default).index-b.kept.snap.index) ⟨by omega,by omega⟩,zaD ⟨by omega,by omega⟩]
  simp only [ew2]
  refine ⟨⟨fun _=>Int.natCast_nonneg _,fun h=>of_decide_eq_true h⟩,fun hc=>⟨⟨Int.natCast_nonneg _,hlt⟩,fun h=>by rw [h];rfl,fun h=>?_,fun h=>?_⟩⟩
  ·refine Back.mk (j+1) (by show j+1<=a.kept.entries.length;omega) (by show a.kept.entries.length-(j+1)<a.kept.entries.length-j;omega) (p0:=let v0:=b.kept;let v1:=a.kept;let v2:=v1.vote;let v3:=v0.snap;let v4:=v1.term;let v5:=v1.entries;let v6:=v0.vote;let v7:=v0.term;let v8:=v0.entries;let v9:=v1.snap;let v10:=v9.data;let v11:=v3.index;let v12:=v9.term;let v13:=v3.term;let v14:=v9.config;let v15:=v3.data;let v16:=v3.config;let v17:=v9.index;let v18:=v16.voters;let v19:=v14.voters;let v20:=v14.learners;let v21:=v16.learners;IntKind.wrap IntKind.i64 ((↑j:Int)+(1:Int))=(↑(j+(1:Nat)):Int)/\false=false/\b.id=b.id/\b.role=b.role/\v7=v7/\v6=v6/\v11=v11/\v13=v13/\v18=v18/\v21=v21/\v15=v15/\v8=v8/\b.commit=b.commit/\b.lead=b.lead/\b.elapsed=b.elapsed/\b.yes=b.yes/\b.peers=b.peers/\b.round=b.round/\b.reads=b.reads/\a.id=a.id/\a.role=a.role/\v4=v4/\v2=v2/\v17=v17/\v12=v12/\v19=v19/\v20=v20/\v10=v10/\v5=v5/\a.commit=a.commit/\a.lead=a.lead/\a.elapsed=a.elapsed/\a.yes=a.yes/\a.peers=a.peers/\a.round=a.round/\a.reads=a.reads/\True) (by kernel_rfl) ?_
   dsimp only
   repeat' apply And.intro
   all_goals first | exact ew | rfl | trivial
  ·rw [Bool.and_eq_true,decide_eq_true_eq,decide_eq_true_eq] at hc
   rw [Bool.or_eq_false_iff,decide_eq_false_iff_not,decide_eq_false_iff_not] at h
   obtain ⟨hT,hE⟩:=hA hc.2 (by omega) (by omega)
   have h1:(zau b.kept (a.kept.entries.getD j default).index).1=(a.kept.entries.getD j default).term:=by rw [hT]
   have h2:(zau b.kept (a.kept.entries.getD j default).index).2=0:=by rw [hT]
   rw [h1,h2]
   have z1:((0:Int) != 0)=false:=rfl
   have z2:((a.kept.entries.getD j default).term != (a.kept.entries.getD j default).term)=false:=by simp
   rw [z1,z2]
   refine ⟨fun _=>rfl,fun h=>absurd h (by decide),fun _=>⟨⟨fun h=>of_decide_eq_true h,fun h=>?_⟩,fun h=>?_,fun _=>?_⟩⟩
   ·have h:=of_decide_eq_true h
    have:=(hE h).1
    omega
   ·rw [Bool.and_eq_true,Bool.not_eq_true',decide_eq_false_iff_not] at h
    have h0:=of_decide_eq_true h.1
    exact absurd (hE h0).2 h.2
   ·refine Back.mk (j+1) (by show j+1<=a.kept.entries.length;omega) (by show a.kept.entries.length-(j+1)<a.kept.entries.length-j;omega) (p0:=let v0:=b.kept;let v1:=a.kept;let v2:=v1.vote;let v3:=v0.snap;let v4:=v1.term;let v5:=v1.entries;let v6:=v0.vote;let v7:=v0.term;let v8:=v0.entries;let v9:=v1.snap;let v10:=v9.data;let v11:=v3.index;let v12:=v9.term;let v13:=v3.term;let v14:=v9.config;let v15:=v3.data;let v16:=v3.config;let v17:=v9.index;let v18:=v16.voters;let v19:=v14.voters;let v20:=v14.learners;let v21:=v16.learners;IntKind.wrap IntKind.i64 ((↑j:Int)+(1:Int))=(↑(j+(1:Nat)):Int)/\false=false/\b.id=b.id/\b.role=b.role/\v7=v7/\v6=v6/\v11=v11/\v13=v13/\v18=v18/\v21=v21/\v15=v15/\v8=v8/\b.commit=b.commit/\b.lead=b.lead/\b.elapsed=b.elapsed/\b.yes=b.yes/\b.peers=b.peers/\b.round=b.round/\b.reads=b.reads/\a.id=a.id/\a.role=a.role/\v4=v4/\v2=v2/\v17=v17/\v12=v12/\v19=v19/\v20=v20/\v10=v10/\v5=v5/\a.commit=a.commit/\a.lead=a.lead/\a.elapsed=a.elapsed/\a.yes=a.yes/\a.peers=a.peers/\a.round=a.round/\a.reads=a.reads/\True) (by kernel_rfl) ?_
    dsimp only
    repeat' apply And.intro
    all_goals first | exact ew | rfl | trivial
 ·rw [decide_eq_false hlt,Bool.false_and]
  exact ⟨⟨fun h=>absurd h (by decide),fun h=>absurd h (by decide)⟩,fun h=>absurd h (by decide)⟩
theorem zwA:AgreeG default default:=⟨by decide,fun k hk=>absurd hk (Nat.not_lt_zero k),⟨by decide,by decide⟩⟩
def zuE:Ent:=ent2 6 dNode dNode fun a b=>([AgreeG a b],.bool true,D2)
theorem zrg:zaf Tryz.prog zuE:=za3 (znk default default zwA).1 fun a b h=>znk a b (h _ (by simp))
end Go.Proofs.YtkhphiahindnnaaGreat
namespace Go.Proofs.YtkhphiahindnnaaGreat
open Go.RowKit Go.ChangeShapes Go.WideShapes Go.Deep
def E0 (S:Nat->Prop):Env:=⟨fun _=>none,fun i b=>i=0/\S b,fun _ _=>False⟩
theorem mem0 {w:World} {S:Nat->Prop} (hS:∀ b,S b->b<w.heap.size):MemOk w.heap.size (cxIn (E0 S) D2 1) w (E0 S) (mOf D2) w:=by
 have hl:∀ t,(mOf D2 t).live=false:=by intro t;rw [mD2];split<;>rfl
 refine ⟨fun t ht=>⟨rfl,fun b hb=>?_⟩,fun t T vs ht=>?_,fun t T ls r ht=>?_,fun i b hb=>⟨hS b hb.2,fun h=>?_⟩,fun i j b hi hj=>hi.1.trans hj.1.symm,fun i hi he=>?_,fun t b hh=>absurd hh zf3,fun i b _ hb=>hb,fun t u b h1=>absurd h1 zf3,fun t v h=>?_,BelowX.refl _ _ _,Nat.le_refl _,fun t o ht=>by have:=hl t;rw [ht] at this;cases this⟩
 ·have:=hb.1;subst this;rw [mD2] at ht;simp at ht
 ·have:=hl t;rw [ht] at this;cases this
 ·have:=hl t;rw [ht] at this;cases this
 ·have:=hb.1;simp [cxIn] at h;omega
 ·rw [mD2] at he
  simp [cxIn] at hi;subst hi;simp at he
 ·simp only [cxIn] at h
  split at h
  ·exact h
  ·cases h
theorem zpI {f:FuncId} {ins:List SV} (h:FnC Tryz.prog f ins (.bool true) D2) (w:World) (S:Nat->Prop) (hS:∀ b,S b->b<w.heap.size) (vals:List Value) (hd:DenL (E0 S) w ins vals):Calls Tryz.prog f vals.toArray w fun e w'=>e = .returned (.bool true)/\Below w.heap.size w w' :=
 (h.2 w (E0 S) vals (mem0 hS) hd).mono (by
  rintro e w' ⟨v,E',rfl,hv,hm⟩
  refine ⟨by rw [show v = .bool true from hv],hm.below.os,hm.below.tape,hm.below.output,hm.below.size,fun b hb=>hm.below.block b hb (fun ⟨t,ht⟩=>zf3 ht)⟩)
theorem znn {S:Nat->Prop} {b:Nat} (h:S b):(E0 S).set [0] b:=⟨0,by simp,rfl,h⟩
theorem zuI {w w':World} {S:Nat->Prop} {E':Env} (hm:MemOk w.heap.size (cxIn (E0 S) D2 1) w E' (mOf D2) w') {i b:Nat} (hi:1<=i) (h:E'.σ i b):w.heap.size<=b:=
 ((hm.lab i b h).2 hi).resolve_right (fun ⟨t,ht⟩=>zf3 ht)
theorem zno {w w':World} {S:Nat->Prop} {E':Env} (hm:MemOk w.heap.size (cxIn (E0 S) D2 1) w E' (mOf D2) w'):Below w.heap.size w w' :=
 ⟨hm.below.os,hm.below.tape,hm.below.output,hm.below.size,fun b hb=>hm.below.block b hb (fun ⟨t,ht⟩=>zf3 ht)⟩
end Go.Proofs.YtkhphiahindnnaaGreat
namespace Go.Proofs.YtkhphiahindnnaaGreat
open Go.RowKit Go.ChangeShapes Go.WideShapes Go.Deep
def Env.only (E:Env):Env:=⟨E.β,fun i b=>i=0/\E.σ i b,E.φ⟩
theorem Env.only_zero (E:Env):E.only.zero:=fun i b h=>h.1
theorem Env.only_le (E:Env):E.only.Le E:=⟨fun _ _ h=>h,fun _ _ h=>h.2⟩
def o0:SV->Bool
 | .any=>true
 | .int _ _=>true
 | .bool _=>true
 | .str _=>true
 | .nil=>true
 | .sl ls _=>ls.all (Nat.beq 0)
 | _=>false
def o1:SV->Bool
 | .agg vs=>vs.all o0
 | s=>o0 s
section
variable {E : Env} {w : World}
theorem zxa {s:SV} {v:Value} (h:o0 s=true) (hd:DenV E w s v):DenV E.only w s v:=by
 cases s with
 | sl ls r=>
  exact Rd.mono hd (fun b _ ⟨i,hi,hs⟩=>⟨i,hi,(Nat.eq_of_beq_eq_true (List.all_eq_true.1 h i hi)).symm,hs⟩)
 | any=>exact hd
 | int k n=>exact hd
 | bool b=>exact hd
 | str s=>exact hd
 | nil=>exact hd
 | _=>simp [o0] at h
theorem zuk:∀ {ss:List SV} {vs:List Value},ss.all o0=true->DenL E w ss vs->DenL E.only w ss vs
 | [],[],_,_=>trivial
 | s::ss,v::vs,h,hd=>by
  rw [List.all_cons,Bool.and_eq_true] at h
  exact ⟨zxa h.1 hd.1,zuk h.2 hd.2⟩
 | [],_::_,_,hd=>hd.elim
 | _::_,[],_,hd=>hd.elim
theorem o1_ok {s:SV} {v:Value} (h:o1 s=true) (hd:DenV E w s v):DenV E.only w s v:=by
 cases s with
 | agg vs=>
  obtain ⟨xs,hv,hl⟩:=hd
  exact ⟨xs,hv,zuk h hl⟩
 | _=>exact zxa h hd
end
section
variable {P : Program} {σ α β γ δ : Type}
def Dec.strict (a:Dec α) (s:SV):Option α:=bif o1 s then a.dec s else none
theorem Dec.strict_ok (a:Dec α) {s:SV} {x:α} (h:a.strict s=some x) {E:Env} {w:World} {v:Value} (hd:DenV E w s v):DenV E w (a.can x) v:=by
 unfold Dec.strict at h
 cases ho:o1 s
 ·rw [ho] at h;cases h
 ·rw [ho] at h
  exact DenV.mono E.only_le (Same.refl _ _) _ _ (a.ok s x h E.only w v E.only_zero (o1_ok ho hd))
theorem FnG.preN {f:FuncId} {nl:Nat} {mi:List BE} {ins ins':List SV} {out:SV} {mo:List BE} (h:FnG P f nl mi ins out mo) (hd:∀ E w vals,DenL E w ins' vals->DenL E w ins vals):FnG P f nl mi ins' out mo:=
 ⟨h.1,fun w E vals hm hv=>h.2 w E vals hm (hd E w vals hv)⟩
def goN0 (M:Mem σ) (r:σ->R3) (ins:List SV) (mi:List BE):Option R3:=match M.dec mi,ins with
 | some s,[.ptr 2 0]=>some (r s)
 | _,_=>none
def goN1 (M:Mem σ) (a:Dec α) (r:σ->α->R3) (ins:List SV) (mi:List BE):Option R3:=match M.dec mi,ins with
 | some s,[.ptr 2 0,x]=>match a.strict x with
  | some x=>some (r s x)
  | none=>none
 | _,_=>none
variable {f : FuncId} {M : Mem σ} {a : Dec α} {b : Dec β} {c : Dec γ} {nl : Nat} {al gl : List Nat} {vr : List (Nat × TypeId × RL)}
def zks (f:FuncId) (nl:Nat) (M:Mem σ) (vr:List (Nat×TypeId×RL)) (al gl:List Nat) (r:σ->R3):Ent:=⟨f,true,al,gl,nl,vr,goN0 M r⟩
def zxv (f:FuncId) (nl:Nat) (M:Mem σ) (a:Dec α) (vr:List (Nat×TypeId×RL)) (al gl:List Nat) (r:σ->α->R3):Ent:=⟨f,true,al,gl,nl,vr,goN1 M a r⟩
theorem zdj {r:σ->R3} (hB:FnB P f) (h:∀ s,(∀ p∈(r s).1,p)->FnG P f nl (M.mi s) [.ptr 2 0] (r s).2.1 (r s).2.2):zaf P (zks f nl M vr al gl r):=by
 refine ⟨hB,fun ins mi n out mo hg hn=>?_⟩
 change goN0 M r ins mi=some (n,out,mo) at hg
 unfold goN0 at hg
 split at hg
 case h_2=>simp at hg
 rename_i s e
 have e:=M.ok _ _ e
 subst e
 simp only [Option.some.injEq] at hg
 have:=h s (by rw [hg];exact hn)
 rwa [hg] at this
theorem ztk {r:σ->α->R3} (hB:FnB P f) (h:∀ s x,(∀ p∈(r s x).1,p)->FnG P f nl (M.mi s) [.ptr 2 0,a.can x] (r s x).2.1 (r s x).2.2):zaf P (zxv f nl M a vr al gl r):=by
 refine ⟨hB,fun ins mi n out mo hg hn=>?_⟩
 change goN1 M a r ins mi=some (n,out,mo) at hg
 unfold goN1 at hg
 split at hg
 case h_2=>simp at hg
 rename_i s x e
 have e:=M.ok _ _ e
 subst e
 split at hg
 case h_2=>simp at hg
 rename_i y ey
 simp only [Option.some.injEq] at hg
 have:=h s y (by rw [hg];exact hn)
 rw [hg] at this
 refine this.preN fun E w vals hd=>?_
 match vals,hd with
 | [v,u],hd=>exact ⟨hd.1,a.strict_ok ey hd.2.1,trivial⟩
end
end Go.Proofs.YtkhphiahindnnaaGreat
namespace Go.Proofs.YtkhphiahindnnaaGreat
open Go.RowKit Go.ChangeShapes Go.WideShapes Go.Deep
structure DecL (α:Type) where
 dec:SV->Option α
 can:α->SV
 ok:∀ s x,dec s=some x->∀ E w v,DenV E w s v->DenV E w (can x) v
def Dec.L {α:Type} (a:Dec α):DecL α:=⟨a.strict,a.can,fun s x h E w v hd=>a.strict_ok h hd⟩
def Env.sh (E:Env) (l:Nat):Env:=⟨E.β,fun i b=>i=0/\E.σ l b,E.φ⟩
theorem Env.sh_zero (E:Env) (l:Nat):(E.sh l).zero:=fun i b h=>h.1
theorem Env.sh_set {E:Env} {l b:Nat} (h:(E.sh l).set [0] b):E.set [l] b:=by
 obtain ⟨i,_,_,hs⟩:=h;exact ⟨l,by simp,hs⟩
def dn0 (l:Nat):SV->Option SV
 | .any=>some .any
 | .int k n=>some (.int k n)
 | .bool b=>some (.bool b)
 | .str s=>some (.str s)
 | .nil=>some .nil
 | .sl ls r=>if ls.all (Nat.beq l) then some (.sl [0] r) else none
 | _=>none
def dnLs (l:Nat):List SV->Option (List SV)
 | []=>some []
 | s::r=>match dn0 l s,dnLs l r with
  | some a,some b=>some (a::b)
  | _,_=>none
section
variable {E : Env} {w : World} {l : Nat}
theorem zxF {s t:SV} {v:Value} (h:dn0 l s=some t) (hd:DenV E w s v):DenV (E.sh l) w t v:=by
 cases s with
 | sl ls r=>
  simp only [dn0] at h
  split at h
  ·rename_i ha
   simp only [Option.some.injEq] at h;subst h
   exact Rd.mono hd (fun b _ ⟨i,hi,hs⟩=>⟨0,by simp,rfl,by rw [Nat.eq_of_beq_eq_true (List.all_eq_true.1 ha i hi)];exact hs⟩)
  ·cases h
 | any=>simp only [dn0,Option.some.injEq] at h;subst h;exact hd
 | int k n=>simp only [dn0,Option.some.injEq] at h;subst h;exact hd
 | bool b=>simp only [dn0,Option.some.injEq] at h;subst h;exact hd
 | str s=>simp only [dn0,Option.some.injEq] at h;subst h;exact hd
 | nil=>simp only [dn0,Option.some.injEq] at h;subst h;exact hd
 | _=>simp [dn0] at h
theorem zri:∀ {ss ts:List SV} {vs:List Value},dnLs l ss=some ts->DenL E w ss vs->DenL (E.sh l) w ts vs
 | [],ts,[],h,_=>by simp only [dnLs,Option.some.injEq] at h;subst h;trivial
 | s::ss,ts,v::vs,h,hd=>by
  simp only [dnLs] at h
  split at h
  ·rename_i a b ha hb
   simp only [Option.some.injEq] at h;subst h
   exact ⟨zxF ha hd.1,zri hb hd.2⟩
  ·cases h
 | [],_,_::_,_,hd=>hd.elim
 | _::_,_,[],_,hd=>hd.elim
end
def Dec.lab {α:Type} (a:Dec α) (l:Nat) (can:α->List SV) (hc:∀ x E w v,DenV (Env.sh E l) w (a.can x) v->DenV E w (.agg (can x)) v):DecL α where
 dec:=fun s=>match s with
  | .agg vs=>match dnLs l vs with
   | some us=>a.dec (.agg us)
   | none=>none
  | _=>none
 can:=fun x=> .agg (can x)
 ok:=by
  intro s x h E w v hd
  split at h
  case h_2=>cases h
  split at h
  case h_2=>cases h
  rename_i vs us hu
  obtain ⟨xs,hv,hl⟩:=hd
  exact hc x E w v (a.ok _ x h (E.sh l) w v (Env.sh_zero E l) ⟨xs,hv,zri hu hl⟩)
def dMsg2:DecL Message:=dMessage.lab 2 (fun x=>x.svs [2]) fun x E w v ⟨xs,hv,hl⟩=>⟨xs,hv,Message.svs_of (RdL.mono (fun b _ hb=>Env.sh_set hb) (Message.svs_rd hl))⟩
def dRec2:DecL Record:=dRecord.lab 2 (fun x=>x.svs [2]) fun x E w v ⟨xs,hv,hl⟩=>⟨xs,hv,Record.svs_of (RdL.mono (fun b _ hb=>Env.sh_set hb) (Record.svs_rd hl))⟩
def dEnt2:DecL Entry:=dEntry.lab 2 (fun x=>x.svs [2]) fun x E w v ⟨xs,hv,hl⟩=>⟨xs,hv,Entry.svs_of (RdL.mono (fun b _ hb=>Env.sh_set hb) (Entry.svs_rd hl))⟩
section
variable {P : Program} {σ α β γ δ : Type}
def goL1 (M:Mem σ) (a:DecL α) (r:σ->α->R3) (ins:List SV) (mi:List BE):Option R3:=match M.dec mi,ins with
 | some s,[.ptr 2 0,x]=>match a.dec x with
  | some x=>some (r s x)
  | none=>none
 | _,_=>none
def goL3 (M:Mem σ) (a:DecL α) (b:DecL β) (c:DecL γ) (r:σ->α->β->γ->R3) (ins:List SV) (mi:List BE):Option R3:=match M.dec mi,ins with
 | some s,[.ptr 2 0,x,y,z]=>match a.dec x,b.dec y,c.dec z with
  | some x,some y,some z=>some (r s x y z)
  | _,_,_=>none
 | _,_=>none
variable {f : FuncId} {M : Mem σ} {a : DecL α} {b : DecL β} {c : DecL γ} {nl : Nat} {al gl : List Nat} {vr : List (Nat × TypeId × RL)}
def zdk (f:FuncId) (nl:Nat) (M:Mem σ) (a:DecL α) (vr:List (Nat×TypeId×RL)) (al gl:List Nat) (r:σ->α->R3):Ent:=⟨f,true,al,gl,nl,vr,goL1 M a r⟩
def ztm (f:FuncId) (nl:Nat) (M:Mem σ) (a:DecL α) (b:DecL β) (c:DecL γ) (vr:List (Nat×TypeId×RL)) (al gl:List Nat) (r:σ->α->β->γ->R3):Ent:=⟨f,true,al,gl,nl,vr,goL3 M a b c r⟩
theorem zaY {r:σ->α->R3} (hB:FnB P f) (h:∀ s x,(∀ p∈(r s x).1,p)->FnG P f nl (M.mi s) [.ptr 2 0,a.can x] (r s x).2.1 (r s x).2.2):zaf P (zdk f nl M a vr al gl r):=by
 refine ⟨hB,fun ins mi n out mo hg hn=>?_⟩
 change goL1 M a r ins mi=some (n,out,mo) at hg
 unfold goL1 at hg
 split at hg
 case h_2=>simp at hg
 rename_i s x e
 have e:=M.ok _ _ e
 subst e
 split at hg
 case h_2=>simp at hg
 rename_i y ey
 simp only [Option.some.injEq] at hg
 have:=h s y (by rw [hg];exact hn)
 rw [hg] at this
 refine this.preN fun E w vals hd=>?_
 match vals,hd with
 | [v,u],hd=>exact ⟨hd.1,a.ok _ _ ey E w u hd.2.1,trivial⟩
theorem ziI {r:σ->α->β->γ->R3} (hB:FnB P f) (h:∀ s x y z,(∀ p∈(r s x y z).1,p)->FnG P f nl (M.mi s) [.ptr 2 0,a.can x,b.can y,c.can z] (r s x y z).2.1 (r s x y z).2.2):zaf P (ztm f nl M a b c vr al gl r):=by
 refine ⟨hB,fun ins mi n out mo hg hn=>?_⟩
 change goL3 M a b c r ins mi=some (n,out,mo) at hg
 unfold goL3 at hg
 split at hg
 case h_2=>simp at hg
 rename_i s x y z e
 have e:=M.ok _ _ e
 subst e
 split at hg
 case h_2=>simp at hg
 rename_i p q t ep eq et
 simp only [Option.some.injEq] at hg
 have:=h s p q t (by rw [hg];exact hn)
 rw [hg] at this
 refine this.preN fun E w vals hd=>?_
 match vals,hd with
 | [v,u,t,k],hd=>exact ⟨hd.1,a.ok _ _ ep E w u hd.2.1,b.ok _ _ eq E w t hd.2.2.1,c.ok _ _ et E w k hd.2.2.2.1,trivial⟩
end
end Go.Proofs.YtkhphiahindnnaaGreat
namespace Go.Proofs.YtkhphiahindnnaaGreat
open Go.RowKit Go.ChangeShapes Go.WideShapes Go.Deep
open Ag
set_option maxRecDepth 100000
section
variable {P : Program} {σ α β γ δ : Type}
def goL4 (M:Mem σ) (a:DecL α) (b:DecL β) (c:DecL γ) (d:DecL δ) (r:σ->α->β->γ->δ->R3) (ins:List SV) (mi:List BE):Option R3:=match M.dec mi,ins with
 | some s,[.ptr 2 0,x,y,z,u]=>match a.dec x,b.dec y,c.dec z,d.dec u with
  | some x,some y,some z,some u=>some (r s x y z u)
  | _,_,_,_=>none
 | _,_=>none
variable {f : FuncId} {M : Mem σ} {a : DecL α} {b : DecL β} {c : DecL γ} {d : DecL δ} {nl : Nat} {al gl : List Nat} {vr : List (Nat × TypeId × RL)}
def zxw (f:FuncId) (nl:Nat) (M:Mem σ) (a:DecL α) (b:DecL β) (c:DecL γ) (d:DecL δ) (vr:List (Nat×TypeId×RL)) (al gl:List Nat) (r:σ->α->β->γ->δ->R3):Ent:=⟨f,true,al,gl,nl,vr,goL4 M a b c d r⟩
theorem ztl {r:σ->α->β->γ->δ->R3} (hB:FnB P f) (h:∀ s x y z u,(∀ p∈(r s x y z u).1,p)->FnG P f nl (M.mi s) [.ptr 2 0,a.can x,b.can y,c.can z,d.can u] (r s x y z u).2.1 (r s x y z u).2.2):zaf P (zxw f nl M a b c d vr al gl r):=by
 refine ⟨hB,fun ins mi n out mo hg hn=>?_⟩
 change goL4 M a b c d r ins mi=some (n,out,mo) at hg
 unfold goL4 at hg
 split at hg
 case h_2=>simp at hg
 rename_i s x y z u e
 have e:=M.ok _ _ e
 subst e
 split at hg
 case h_2=>simp at hg
 rename_i p q t v ep eq et ev
 simp only [Option.some.injEq] at hg
 have:=h s p q t v (by rw [hg];exact hn)
 rw [hg] at this
 refine this.preN fun E w vals hd=>?_
 match vals,hd with
 | [v,u,t,k,j],hd=>exact ⟨hd.1,a.ok _ _ ep E w u hd.2.1,b.ok _ _ eq E w t hd.2.2.1,c.ok _ _ et E w k hd.2.2.2.1,d.ok _ _ ev E w j hd.2.2.2.2.1,trivial⟩
end
def zwh:DecL Node:=dNode.lab 2 (fun x=>x.svs [2]) fun x E w v ⟨xs,hv,hl⟩=>⟨xs,hv,Node.svs_of (RdL.mono (fun b _ hb=>Env.sh_set hb) (Node.svs_rd hl))⟩
def zxG:DecL Out:=dOut.lab 2 (fun x=>x.svs [2]) fun x E w v ⟨xs,hv,hl⟩=>⟨xs,hv,Out.svs_of (RdL.mono (fun b _ hb=>Env.sh_set hb) (Out.svs_rd hl))⟩
def pMi (p:Play):List BE:=[.dead,.dead,.cells 36 [.own 3,.own 4,.int .i64 p.many],.row 49 [1] (.rNode p.ns),.row 58 [1] (.rMessage p.net)]
def pMo (p:Play):List BE:=[.dead,.dead,.cells 36 [.own 5,.own 6,.int .i64 p.many],.dead,.dead,.row 49 [1,2] (.rNode p.ns),.row 58 [1,2] (.rMessage p.net)]
def mPl:Mem Play where
 mi:=pMi
 dec:=fun m=>match m with
  | [.dead,.dead,.cells 36 [.own 3,.own 4,.int .i64 many],.row 49 [1] (.rNode ns),.row 58 [1] (.rMessage net)]=>some ⟨ns,net,many⟩
  | _=>none
 ok:=by
  intro m x h
  split at h
  ·simp only [Option.some.injEq] at h;subst h;rfl
  ·simp at h
def vrP:List (Nat×TypeId×RL):=[(0,49,.rNode []),(1,58,.rMessage [])]
def glP:List Nat:=[1,1,1]
theorem zrh (p:Play) (at_:Int) (n:Node) (o:Out) (e:Int) (h1:e=0->0<=at_/\at_<(p.ns.length:Int)) (h2:p.net.length<=1000000) (h3:o.messages.length<=1000000) :
  FnG Tryz.prog 11 3 (pMi p) [.ptr 2 0,.int .i64 at_,.agg (n.svs [2]),.agg (o.svs [2]),.int .i64 e] (.bool (zdv p at_.toNat n o e).2) (pMo (zdv p at_.toNat n o e).1):=by
 refine FnG.of_vc (zak zad fun _=>none) Tryz.func11 rfl (by decide) rfl 300 (p:=fun (V:List PE->Prop)=>let v0:=Int.toNat at_;let v1:=Play.net p;let v2:=List.length (Play.ns p);let v3:=(100:Int);let v4:=zdv p v0 n o e;let v5:=Prod.snd v4;let v6:=Prod.fst v4;let v7:=Play.net v6;let v8:=Play.ns v6;let v9:=v1++o.messages;let v10:=(↑(v9.length):Int);let v11:=IntKind.wrap IntKind.i64 (v10-v3);let v12:=decide (v10>v3);True/\True/\True/\((e != 0)=true->True/\(e != 1)=v5/\Play.many p=Play.many v6/\Play.ns p=v8/\v1=v7/\True)/\((e != 0)=false->((0:Int)<=at_/\at_<(↑v2:Int)/\v0<v2/\True)/\((v1.length+o.messages.length)*(1024:Nat)<=140737488355328/\True)/\True/\True/\(v12=true->((0:Int)<=v11/\v11<=v10/\True)/\True/\true=v5/\Play.many p=Play.many v6/\List.set (Play.ns p) v0 n=v8/\List.drop (Int.toNat v11) v9=v7/\True)/\(v12=false->True/\true=v5/\Play.many p=Play.many v6/\List.set (Play.ns p) v0 n=v8/\v9=v7/\True))) (by kernel_rfl) ?_
 dsimp only
 refine ⟨trivial,trivial,trivial,fun he=>?_,fun he=>?_⟩
 ·have he':e≠0:=by simpa using he
  have ed:zdv p at_.toNat n o e=(p,e != 1):=by unfold zdv;rw [if_pos he']
  rw [ed]
  exact ⟨trivial,rfl,rfl,rfl,rfl,trivial⟩
 ·have he':e=0:=by simpa using he
  have ed:zdv p at_.toNat n o e=(⟨p.ns.set at_.toNat n,zhf (p.net++o.messages),p.many⟩,true):=by unfold zdv;rw [if_neg (fun h=>h he')]
  rw [ed]
  obtain ⟨a1,a2⟩:=h1 he'
  have hl:(p.net++o.messages).length=p.net.length+o.messages.length:=List.length_append
  refine ⟨⟨a1,a2,by omega,trivial⟩,⟨by omega,trivial⟩,trivial,trivial,fun h=>?_,fun h=>?_⟩
  ·have h:((p.net++o.messages).length:Int)>100:=of_decide_eq_true h
   have ew:IntKind.wrap IntKind.i64 (((p.net++o.messages).length:Int)-100)=((p.net++o.messages).length:Int)-100:=zaD ⟨by omega,by omega⟩
   have el:zhf (p.net++o.messages)=(p.net++o.messages).drop ((p.net++o.messages).length-100):=by unfold zhf;rw [if_pos (by omega)]
   rw [ew,el]
   refine ⟨⟨by omega,by omega,trivial⟩,trivial,rfl,rfl,rfl,?_,trivial⟩
   show List.drop (((p.net++o.messages).length:Int)-100).toNat _=_
   congr 1
   omega
  ·have h:¬ ((p.net++o.messages).length:Int)>100:=of_decide_eq_false h
   have el:zhf (p.net++o.messages)=p.net++o.messages:=by unfold zhf;rw [if_neg (by omega)]
   rw [el]
   exact ⟨trivial,rfl,rfl,rfl,rfl,trivial⟩
def zxC:Ent:=zxw 11 3 mPl dInt.L zwh zxG dInt.L vrP [1,0,2,2,0] glP fun p at_ n o e=>([e=0->0<=at_/\at_<(p.ns.length:Int),p.net.length<=1000000,o.messages.length<=1000000],.bool (zdv p at_.toNat n o e).2,pMo (zdv p at_.toNat n o e).1)
theorem zt0:zaf Tryz.prog zxC:=ztl (zrh default 0 default default 1 (fun h=>by cases h) (by decide) (by decide)).1 fun p at_ n o e h=>zrh p at_ n o e (h _ (by simp)) (h _ (by simp)) (h _ (by simp))
end Go.Proofs.YtkhphiahindnnaaGreat
namespace Go.Proofs.YtkhphiahindnnaaGreat
namespace Ag
abbrev za0:=List Entry
theorem zb8 {a b c:za0} (ha:a <+: c) (hb:b <+: c) (h:a.length<=b.length):a <+: b:=List.prefix_of_prefix_length_le ha hb h
theorem zbq {a c:za0} (h:a <+: c):a=c.take a.length:=List.prefix_iff_eq_take.1 h
theorem zar (c:za0) (n:Nat):c.take n <+: c:=List.take_prefix n c
theorem za7 {a c:za0} (h:a <+: c) {k:Nat} (hk:k<a.length):a.getD k default=c.getD k default:=by
 obtain ⟨t,rfl⟩:=h
 simp [List.getD,List.getElem?_append_left hk]
theorem zgr {a c:za0} {k:Nat} (h:a <+: c) (hk:k<=a.length):a.take k=c.take k:=by
 obtain ⟨t,rfl⟩:=h
 rw [List.take_append_of_le_length hk]
theorem zbx {c:za0} {m n:Nat} (h:m<=n):c.take m <+: c.take n:=by
 refine zb8 (zar c m) (zar c n) ?_
 rw [List.length_take,List.length_take];omega
theorem zaH {a c:za0} (h:a <+: c):a.length<=c.length:=h.length_le
theorem zwT {a c:za0} (h:a <+: c) (hl:c.length<=a.length):a=c:=h.eq_of_length (Nat.le_antisymm h.length_le hl)
def zbw (l:za0):Int:=match l.getLast? with | some e=>e.term | none=>1
theorem zpJ:zbw []=1:=rfl
theorem zpK (l:za0) (e:Entry):zbw (l++[e])=e.term:=by simp [zbw]
theorem zbl {l:za0} (h:0<l.length):zbw l=(l.getD (l.length-1) default).term:=by
 rcases List.eq_nil_or_concat l with rfl | ⟨m,e,rfl⟩
 ·simp at h
 ·rw [List.concat_eq_append,zpK]
  simp [List.getD]
def zaS (l:za0):Nat:=
 (l.length-(l.reverse.takeWhile fun e=>!(e.kind==2)).length)
def cfg0 (c0:Config) (l:za0):Config:=match l.reverse.find? (fun e=>e.kind==2) with
 | some e=>e.config
 | none=>c0
theorem zoo {c0:Config} {l:za0} {e:Entry} (h:¬ e.kind=2):cfg0 c0 (l++[e])=cfg0 c0 l:=by
 unfold cfg0
 rw [List.reverse_append]
 show (match (e::l.reverse).find? _ with | some e=>e.config | none=>c0)=_
 rw [List.find?_cons,show (e.kind==2)=false by simpa using h]
theorem zeR {l:za0} {e:Entry} (h:¬ e.kind=2):zaS (l++[e])=zaS l:=by
 unfold zaS
 rw [List.reverse_append]
 show (l++[e]).length-((e::l.reverse).takeWhile _).length=_
 rw [List.takeWhile_cons_of_pos (by simpa using h)]
 simp only [List.length_append,List.length_cons,List.length_nil]
 omega
theorem znM {l:za0} {e:Entry} (h:e.kind=2):zaS (l++[e])=l.length+1:=by
 unfold zaS
 rw [List.reverse_append]
 show (l++[e]).length-((e::l.reverse).takeWhile _).length=_
 rw [List.takeWhile_cons_of_neg (by simp [h])]
 simp
theorem zbX (l:za0):zaS l<=l.length:=Nat.sub_le _ _
theorem zdp {c0:Config} {l:za0} {k:Nat}:∀ (n:Nat),k+n<=l.length->(∀ j,k<=j->j<k+n->¬ (l.getD j default).kind=2)->cfg0 c0 (l.take (k+n))=cfg0 c0 (l.take k)/\zaS (l.take (k+n))=zaS (l.take k)
 | 0,_,_=>⟨rfl,rfl⟩
 | n+1,h,hk=>by
  have ih:=zdp (c0:=c0) (l:=l) (k:=k) n (by omega) fun j h1 h2=>hk j h1 (by omega)
  have e:l.take (k+(n+1))=l.take (k+n)++[l.getD (k+n) default]:=by
   rw [show k+(n+1)=k+n+1 by omega,List.take_add_one,List.getD_eq_getElem?_getD,List.getElem?_eq_getElem (by omega)]
   rfl
  have h2:=hk (k+n) (by omega) (by omega)
  rw [e,zoo h2,zeR h2]
  exact ih
theorem zig {l:za0} {k:Nat} (h:k<l.length):l.take (k+1)=l.take k++[l.getD k default]:=by
 rw [List.take_add_one,List.getD_eq_getElem?_getD,List.getElem?_eq_getElem h]
 rfl
theorem zeQ {l:za0}:∀ (n:Nat),n<=l.length->(0<zaS (l.take n)->(l.getD (zaS (l.take n)-1) default).kind=2)/\(∀ j,zaS (l.take n)<=j->j<n->¬ (l.getD j default).kind=2)
 | 0,_=>⟨fun h=>by simp [zaS] at h,fun j _ h=>by omega⟩
 | n+1,h=>by
  have ih:=zeQ (l:=l) n (by omega)
  rw [zig (by omega)]
  have hl:(l.take n).length=n:=by rw [List.length_take];omega
  by_cases hk:(l.getD n default).kind=2
  ·rw [znM hk,hl]
   refine ⟨fun _=>by simpa using hk,fun j h1 h2=>by omega⟩
  ·rw [zeR hk]
   refine ⟨ih.1,fun j h1 h2=>?_⟩
   by_cases e:j=n
   ·rw [e];exact hk
   ·exact ih.2 j h1 (by omega)
structure El where
 id:Int
 e:za0
 l:za0
 q:List Int
structure Cm where
 t:Int
 p:za0
 l:za0
 a:List Int
def Val (el:Int->Option El) (l:za0):Prop:=∀ k,k<l.length->∃ x,el (l.getD k default).term=some x/\l.take (k+1) <+: x.l
structure ElOk (el:Int->Option El):Prop where
 two:∀ t x,el t=some x->2<=t
 pre:∀ t x,el t=some x->x.e <+: x.l
 lo:∀ t x,el t=some x->∀ k,k<x.e.length->(x.e.getD k default).term<t
 hi:∀ t x,el t=some x->∀ k,x.e.length<=k->k<x.l.length->(x.l.getD k default).term=t
 val:∀ t x,el t=some x->Val el x.e
section
variable {el : Int -> Option El} (H : ElOk el)
theorem Val.take {l:za0} (h:Val el l) (n:Nat):Val el (l.take n):=by
 intro k hk
 have hk2:k<n/\k<l.length:=by rw [List.length_take] at hk;omega
 obtain ⟨x,h1,h2⟩:=h k hk2.2
 have e:(l.take n).getD k default=l.getD k default:=za7 (zar l n) hk
 refine ⟨x,by rw [e];exact h1,?_⟩
 rw [List.take_take,show min (k+1) n=k+1 by omega]
 exact h2
theorem Val.pre {a l:za0} (h:Val el l) (hp:a <+: l):Val el a:=by
 rw [zbq hp];exact h.take _
include H
theorem ElOk.led {t:Int} {x:El} (h:el t=some x):Val el x.l:=by
 intro k hk
 by_cases h1:k<x.e.length
 ·obtain ⟨y,h2,h3⟩:=H.val t x h k h1
  rw [za7 (H.pre t x h) h1] at h2
  refine ⟨y,h2,?_⟩
  rw [<- zgr (H.pre t x h) (by omega)]
  exact h3
 ·rw [H.hi t x h k (by omega) hk]
  exact ⟨x,h,zar _ _⟩
theorem Val.began {l:za0} (h:Val el l) {k:Nat} (hk:k<l.length) {t:Int} (ht:(l.getD k default).term=t) {x:El} (hx:el t=some x):l.take (k+1) <+: x.l/\x.e.length<=k/\x.e <+: l.take (k+1):=by
 obtain ⟨y,h1,h2⟩:=h k hk
 rw [ht,hx] at h1
 simp only [Option.some.injEq] at h1
 subst h1
 have hl:(l.take (k+1)).length=k+1:=by rw [List.length_take];omega
 have e1:l.getD k default=x.l.getD k default:=by
  rw [<- za7 (zar l (k+1)) (by omega),za7 h2 (by omega)]
 have hle:x.e.length<=k:=by
  rcases Nat.lt_or_ge k x.e.length with h3 | h3
  ·have h4:=H.lo t x hx k h3
   rw [za7 (H.pre t x hx) h3,<- e1,ht] at h4
   omega
  ·exact h3
 exact ⟨h2,hle,zb8 (H.pre t x hx) h2 (by omega)⟩
theorem Val.mono {l:za0} (h:Val el l) {i j:Nat} (hij:i<=j) (hj:j<l.length):(l.getD i default).term<=(l.getD j default).term:=by
 obtain ⟨x,h1,h2⟩:=h j hj
 obtain ⟨h3,h4,h5⟩:=h.began H hj rfl h1
 have hl:(l.take (j+1)).length=j+1:=by rw [List.length_take];omega
 have e1:l.getD i default=x.l.getD i default:=by
  rw [<- za7 (zar l (j+1)) (by omega),za7 h2 (by omega)]
 rw [e1]
 have hxl:=zaH h2
 by_cases hi:i<x.e.length
 ·have:=H.lo _ x h1 i hi
  rw [za7 (H.pre _ x h1) hi] at this
  omega
 ·rw [H.hi _ x h1 i (by omega) (by omega)]
  omega
theorem Val.term2 {l:za0} (h:Val el l) {k:Nat} (hk:k<l.length):2<=(l.getD k default).term:=by
 obtain ⟨x,h1,_⟩:=h k hk
 exact H.two _ x h1
theorem Val.last_le {l:za0} (h:Val el l) {k:Nat} (hk:k<l.length):(l.getD k default).term<=zbw l:=by
 rw [zbl (by omega)]
 exact h.mono H (by omega) (by omega)
theorem Val.last1 {l:za0} (h:Val el l):1<=zbw l:=by
 rcases Nat.eq_zero_or_pos l.length with h0 | h0
 ·rw [List.eq_nil_of_length_eq_zero h0];decide
 ·rw [zbl h0]
  have:=h.term2 H (k:=l.length-1) (by omega)
  omega
omit H in
theorem Val.match_ {l m:za0} (h:Val el l) (h':Val el m) {k:Nat} (hk:k<l.length) (hk':k<m.length) (ht:(l.getD k default).term=(m.getD k default).term):l.take (k+1)=m.take (k+1):=by
 obtain ⟨x,h1,h2⟩:=h k hk
 obtain ⟨y,h3,h4⟩:=h' k hk'
 rw [<- ht,h1] at h3
 simp only [Option.some.injEq] at h3
 subst h3
 have a:=zbq h2
 have b:=zbq h4
 rw [a,b,List.length_take,List.length_take]
 congr 1
 omega
def Newer (e q:za0):Prop:=zbw q<zbw e\/(zbw q=zbw e/\q.length<=e.length)
omit H in
theorem Newer.refl (e:za0):Newer e e:= .inr ⟨rfl,Nat.le_refl _⟩
theorem zjI {e q p:za0} {t t':Int} (he:Val el e) (hq:Val el q) (hlo:∀ k,k<e.length->(e.getD k default).term<t') (hn:Newer e q) (hp:p <+: q) (hp0:0<p.length) (hpt:zbw p=t) (hc:∀ u x,el u=some x->t<u->u<t'->p <+: x.e):p <+: e:=by
 have hpl:=zaH hp
 have hq1:t<=zbw q:=by
  rw [<- hpt,zbl hp0,za7 hp (by omega)]
  exact hq.last_le H (by omega)
 rcases hn with hn | ⟨hn,hl⟩
 ·have h1:=he.last1 H
  have hq2:=hq.last1 H
  have h0:0<e.length:=by
   rcases Nat.eq_zero_or_pos e.length with h0 | h0
   ·rw [List.eq_nil_of_length_eq_zero h0,zpJ] at hn
    omega
   ·exact h0
  obtain ⟨x,h2,h3⟩:=he (e.length-1) (by omega)
  have e1:=zbl h0
  have h4:=hlo (e.length-1) (by omega)
  have h5:=hc _ x h2 (by omega) h4
  obtain ⟨_,_,h6⟩:=he.began H (k:=e.length-1) (by omega) rfl h2
  exact h5.trans (h6.trans (zar _ _))
 ·have hq0:0<q.length:=by omega
  have h0:0<e.length:=by omega
  obtain ⟨x,h2,h3⟩:=he (e.length-1) (by omega)
  obtain ⟨y,h4,h5⟩:=hq (q.length-1) (by omega)
  rw [<- zbl h0] at h2
  rw [<- zbl hq0,hn,h2] at h4
  simp only [Option.some.injEq] at h4
  subst h4
  rw [show e.length-1+1=e.length by omega,List.take_length] at h3
  rw [show q.length-1+1=q.length by omega,List.take_length] at h5
  exact hp.trans (zb8 h5 h3 hl)
end
def lcp:za0->za0->za0
 | a::l,b::m=>if a=b then a::lcp l m else []
 | _,_=>[]
theorem zlk:∀ l m:za0,lcp l m <+: l/\lcp l m <+: m
 | a::l,b::m=>by
  unfold lcp
  split
  ·rename_i h
   subst h
   obtain ⟨h1,h2⟩:=zlk l m
   exact ⟨List.cons_prefix_cons.2 ⟨rfl,h1⟩,List.cons_prefix_cons.2 ⟨rfl,h2⟩⟩
  ·exact ⟨List.nil_prefix,List.nil_prefix⟩
 | [],m=>by simp [lcp]
 | a::l,[]=>by simp [lcp]
theorem zll:∀ {s l m:za0},s <+: l->s <+: m->s <+: lcp l m
 | [],_,_,_,_=>List.nil_prefix
 | x::s,a::l,b::m,h1,h2=>by
  obtain ⟨e1,g1⟩:=List.cons_prefix_cons.1 h1
  obtain ⟨e2,g2⟩:=List.cons_prefix_cons.1 h2
  subst e1
  subst e2
  unfold lcp
  rw [if_pos rfl]
  exact List.cons_prefix_cons.2 ⟨rfl,zll g1 g2⟩
 | x::s,[],_,h1,_=>by simp at h1
 | x::s,_::_,[],_,h2=>by simp at h2
end Ag
end Go.Proofs.YtkhphiahindnnaaGreat
namespace Go.Proofs.YtkhphiahindnnaaGreat
namespace Ag
section
variable (el : Int -> Option El) (C : Cm -> Prop) (adj : Config -> Config -> Prop) (c0 : Config)
def zha (t:Int) (l:za0) (k:Nat):Prop:=
 (∃ c,C c/\c.t=t/\c.l <+: l.take k) /\
 (zaS (l.take k)=0\/∃ c,C c/\c.t<=t/\l.take (zaS (l.take k)) <+: c.p/\c.p <+: l.take k/\(c.t=t->c.l <+: l.take k)) /\
 adj (cfg0 c0 (l.take k)) (cfg0 c0 (l.take (k+1)))
def Laid:Prop:=∀ t x,el t=some x->∀ k,x.e.length<=k->k<x.l.length->(x.l.getD k default).kind=2->zha C adj c0 t x.l k
structure CmOk:Prop where
 ok:∀ c,C c->∃ x,el c.t=some x/\c.p <+: c.l/\c.l <+: x.l/\0<c.p.length/\zbw c.p=c.t
end
theorem zeA {l m:za0} {k j:Nat} (h:l.take k=m.take k) (hj:j<=k):l.take j=m.take j:=by
 have:=congrArg (List.take j) h
 rwa [List.take_take,List.take_take,Nat.min_eq_left hj] at this
section
variable {el : Int -> Option El} {C : Cm -> Prop} {adj : Config -> Config -> Prop} {c0 : Config} (H : ElOk el) (HL : Laid el C adj c0) (HC : CmOk el C)
include H HL
theorem zfq {l:za0} (hv:Val el l) {k:Nat} (hk:k<l.length) (hc:(l.getD k default).kind=2):zha C adj c0 (l.getD k default).term l k:=by
 obtain ⟨x,h1,h2⟩:=hv k hk
 obtain ⟨_,h3,_⟩:=hv.began H hk rfl h1
 have hl:(l.take (k+1)).length=k+1:=by rw [List.length_take];omega
 have hxl:=zaH h2
 have e1:l.take (k+1)=x.l.take (k+1):=by
  have:=zbq h2
  rwa [hl] at this
 have e2:l.getD k default=x.l.getD k default:=by
  rw [<- za7 (zar l (k+1)) (by omega),za7 h2 (by omega)]
 have e3:l.take k=x.l.take k:=zeA e1 (Nat.le_succ k)
 obtain ⟨a1,a2,a3⟩:=HL _ x h1 k h3 (by omega) (by rw [<- e2];exact hc)
 have e4:x.l.take (zaS (x.l.take k))=l.take (zaS (l.take k)):=by
  rw [e3]
  have:=zbX (x.l.take k)
  rw [List.length_take] at this
  exact (zeA e3 (by omega)).symm
 refine ⟨by rw [e3];exact a1,?_,by rw [e3,e1];exact a3⟩
 rcases a2 with a2 | ⟨c,b1,b2,b3,b4,b5⟩
 ·exact .inl (by rw [e3];exact a2)
 ·refine .inr ⟨c,b1,b2,?_,by rw [e3];exact b4,by rw [e3];exact b5⟩
  rw [<- e4];exact b3
include HC
theorem zcE {c:Cm} (hc:C c):∃ x,el c.t=some x/\c.p <+: x.l/\c.l <+: x.l/\x.e <+: c.p/\Val el c.l/\Val el c.p/\(c.p.getD (c.p.length-1) default).term=c.t:=by
 obtain ⟨x,h1,h2,h3,h4,h5⟩:=HC.ok c hc
 have hp:=h2.trans h3
 have hvl:Val el c.l:=(H.led h1).pre h3
 have hvp:Val el c.p:=(H.led h1).pre hp
 rw [zbl h4] at h5
 obtain ⟨_,_,h6⟩:=hvp.began H (k:=c.p.length-1) (by omega) h5 h1
 rw [show c.p.length-1+1=c.p.length by omega,List.take_length] at h6
 exact ⟨x,h1,hp,h3,h6,hvl,hvp,h5⟩
def zlN (adj:Config->Config->Prop) (a b:Config):Prop:=a=b\/adj a b\/adj b a
omit H HL HC in
theorem zdg {l r:za0} (hr:r <+: l) (h1:∀ k1 k2,r.length<=k1->k1<k2->k2<l.length->(l.getD k1 default).kind=2->(l.getD k2 default).kind=2->False) :
  (∀ k,r.length<=k->k<l.length->¬ (l.getD k default).kind=2)\/∃ k,r.length<=k/\k<l.length/\(l.getD k default).kind=2/\cfg0 c0 l=cfg0 c0 (l.take (k+1))/\cfg0 c0 r=cfg0 c0 (l.take k):=by
 by_cases h:∃ k,r.length<=k/\k<l.length/\(l.getD k default).kind=2
 ·obtain ⟨k,a1,a2,a3⟩:=h
  refine .inr ⟨k,a1,a2,a3,?_,?_⟩
  ·have:=(zdp (c0:=c0) (l:=l) (k:=k+1) (l.length-(k+1)) (by omega) fun j b1 b2 b3=>h1 k j a1 (by omega) (by omega) a3 b3).1
   rwa [show k+1+(l.length-(k+1))=l.length by omega,List.take_length] at this
  ·have:=(zdp (c0:=c0) (l:=l) (k:=r.length) (k-r.length) (by omega) fun j b1 b2 b3=>h1 j k b1 (by omega) a2 b3 a3).1
   rw [show r.length+(k-r.length)=k by omega,<- zbq hr] at this
   exact this.symm
 ·exact .inl fun k a1 a2 a3=>h ⟨k,a1,a2,a3⟩
theorem zpt {l e:za0} (hl:Val el l) (he:Val el e)
  (hy:∀ c k,C c->c.t=(l.getD k default).term->c.l <+: l.take k->(lcp l e).length<=k->k<l.length->(∃ k2,(lcp l e).length<=k2/\k2<e.length/\(e.getD k2 default).kind=2)->c.p <+: e)
  (hz:∀ c k,C c->c.t=(e.getD k default).term->c.l <+: e.take k->(lcp l e).length<=k->k<e.length->c.p <+: l)
  (hcl:∀ c k,C c->c.t<=(l.getD k default).term->c.p <+: l.take k->(c.t=(l.getD k default).term->c.l <+: l.take k)->k<l.length->c.p <+: e)
  (hce:∀ c k,C c->c.t<=(e.getD k default).term->c.p <+: e.take k->(lcp l e).length<c.p.length->k<e.length->c.p <+: l):zlN adj (cfg0 c0 l) (cfg0 c0 e):=by
 obtain ⟨r1,r2⟩:=zlk l e
 have hmx:∀ s,s <+: l->s <+: e->s.length<=(lcp l e).length:=fun s a b=>zaH (zll a b)
 generalize hr:lcp l e=r at *
 -- not both
 have hno:∀ k1 k2,r.length<=k1->k1<l.length->(l.getD k1 default).kind=2->r.length<=k2->k2<e.length->(e.getD k2 default).kind=2->False:=by
  intro k1 k2 a1 a2 a3 b1 b2 b3
  obtain ⟨⟨c1,x1,x2,x3⟩,_,_⟩:=zfq H HL hl a2 a3
  obtain ⟨⟨c2,y1,y2,y3⟩,_,_⟩:=zfq H HL he b2 b3
  have z1:=hy c1 k1 x1 x2 x3 a1 a2 ⟨k2,b1,b2,b3⟩
  have z2:=hz c2 k2 y1 y2 y3 b1 b2
  obtain ⟨_,p1,p2,p3,_,_⟩:=HC.ok c1 x1
  obtain ⟨_,q1,q2,q3,_,_⟩:=HC.ok c2 y1
  have w1:c1.p <+: l:=p2.trans (x3.trans (zar _ _))
  have w2:c2.p <+: e:=q2.trans (y3.trans (zar _ _))
  have m1:=hmx _ w1 z1
  have m2:=hmx _ z2 w2
  obtain ⟨_,_,_,_,_,_,_,t1⟩:=zcE H HL HC x1
  obtain ⟨_,_,_,_,_,_,_,t2⟩:=zcE H HL HC y1
  obtain ⟨_,_,_,_,n1,_⟩:=HC.ok c1 x1
  obtain ⟨_,_,_,_,n2,_⟩:=HC.ok c2 y1
  have hrl:=zaH r1
  have hre:=zaH r2
  -- the term at the end of what is common
  have u1:(l.getD (r.length-1) default).term=(l.getD k1 default).term:=by
   have g1:=hl.mono H (i:=c1.p.length-1) (j:=r.length-1) (by omega) (by omega)
   have g2:=hl.mono H (i:=r.length-1) (j:=k1) (by omega) a2
   rw [<- za7 w1 (by omega),t1,x2] at g1
   omega
  have u2:(e.getD (r.length-1) default).term=(e.getD k2 default).term:=by
   have g1:=he.mono H (i:=c2.p.length-1) (j:=r.length-1) (by omega) (by omega)
   have g2:=he.mono H (i:=r.length-1) (j:=k2) (by omega) b2
   rw [<- za7 w2 (by omega),t2,y2] at g1
   omega
  have u3:(l.getD (r.length-1) default).term=(e.getD (r.length-1) default).term:=by rw [<- za7 r1 (by omega),za7 r2 (by omega)]
  obtain ⟨x,h1,h2⟩:=hl k1 a2
  obtain ⟨y,h3,h4⟩:=he k2 b2
  rw [<- u2,<- u3,u1,h1] at h3
  simp only [Option.some.injEq] at h3
  subst h3
  have l1:(l.take (k1+1)).length=k1+1:=by rw [List.length_take];omega
  have l2:(e.take (k2+1)).length=k2+1:=by rw [List.length_take];omega
  have s1:l.take (r.length+1) <+: x.l:=(zbx (by omega)).trans h2
  have s2:e.take (r.length+1) <+: x.l:=(zbx (by omega)).trans h4
  have s3:l.take (r.length+1)=e.take (r.length+1):=by
   refine zwT (zb8 s1 s2 ?_) ?_<;>rw [List.length_take,List.length_take]<;>omega
  have:=hmx (l.take (r.length+1)) (zar _ _) (by rw [s3];exact zar _ _)
  rw [List.length_take] at this
  omega
 -- at most one on either side
 have two:∀ {m:za0},Val el m->r <+: m->(∀ c k,C c->c.t<=(m.getD k default).term->c.p <+: m.take k->(c.t=(m.getD k default).term->c.l <+: m.take k)->r.length<c.p.length->k<m.length->c.p.length<=r.length)->∀ k1 k2,r.length<=k1->k1<k2->k2<m.length->(m.getD k1 default).kind=2->(m.getD k2 default).kind=2->False:=by
  intro m hm hrm hcov k1 k2 a1 a2 a3 a4 a5
  obtain ⟨_,hc,_⟩:=zfq H HL hm a3 a5
  have hb:=zeQ (l:=m) k2 (by omega)
  have hgt:k1<zaS (m.take k2):=by
   rcases Nat.lt_or_ge k1 (zaS (m.take k2)) with g | g
   ·exact g
   ·exact absurd a4 (hb.2 k1 g a2)
  rcases hc with hc | ⟨c,b1,b2,b3,b4,b5⟩
  ·omega
  ·have g1:=zaH b3
   have g2:=zbX (m.take k2)
   rw [List.length_take] at g1 g2
   have g3:r.length<c.p.length:=by omega
   have:=hcov c k2 b1 b2 b4 b5 g3 a3
   omega
 have one_l:=two hl r1 fun c k a1 a2 a3 a4 a5 a6=>hmx _ (a3.trans (zar _ _)) (hcl c k a1 a2 a3 a4 a6)
 have one_e:=two he r2 fun c k a1 a2 a3 a4 a5 a6=>hmx _ (hce c k a1 a2 a3 a5 a6) (a3.trans (zar _ _))
 rcases zdg (c0:=c0) r1 one_l with g | ⟨k,g1,g2,g3,g4,g5⟩
 ·have e1:cfg0 c0 l=cfg0 c0 r:=by
   have:=(zdp (c0:=c0) (l:=l) (k:=r.length) (l.length-r.length) (by have:=zaH r1;omega) fun j b1 b2=>g j b1 (by omega)).1
   rwa [show r.length+(l.length-r.length)=l.length by have:=zaH r1;omega,List.take_length,<- zbq r1] at this
  rcases zdg (c0:=c0) r2 one_e with h | ⟨k,h1,h2,h3,h4,h5⟩
  ·have e2:cfg0 c0 e=cfg0 c0 r:=by
    have:=(zdp (c0:=c0) (l:=e) (k:=r.length) (e.length-r.length) (by have:=zaH r2;omega) fun j b1 b2=>h j b1 (by omega)).1
    rwa [show r.length+(e.length-r.length)=e.length by have:=zaH r2;omega,List.take_length,<- zbq r2] at this
   exact .inl (by rw [e1,e2])
  ·obtain ⟨_,_,ha⟩:=zfq H HL he h2 h3
   refine .inr (.inl ?_)
   rw [e1,h5,h4];exact ha
 ·rcases zdg (c0:=c0) r2 one_e with h | ⟨k2,h1,h2,h3,h4,h5⟩
  ·have e2:cfg0 c0 e=cfg0 c0 r:=by
    have:=(zdp (c0:=c0) (l:=e) (k:=r.length) (e.length-r.length) (by have:=zaH r2;omega) fun j b1 b2=>h j b1 (by omega)).1
    rwa [show r.length+(e.length-r.length)=e.length by have:=zaH r2;omega,List.take_length,<- zbq r2] at this
   obtain ⟨_,_,ha⟩:=zfq H HL hl g2 g3
   refine .inr (.inr ?_)
   rw [e2,g5,g4];exact ha
  ·exact absurd h3 (fun h3=>hno k k2 g1 g2 g3 h1 h2 h3)
end
end Ag
end Go.Proofs.YtkhphiahindnnaaGreat
namespace Go.Proofs.YtkhphiahindnnaaGreat
namespace Ag
section
variable {el : Int -> Option El} {C : Cm -> Prop} {adj : Config -> Config -> Prop} {c0 : Config} {maj : Config -> List Int -> Prop} (H : ElOk el) (HL : Laid el C adj c0) (HC : CmOk el C)
include H HL HC
theorem zmY (meet:∀ a b A B,zlN adj a b->maj a A->maj b B->∃ v,v∈A/\v∈B)
  {t':Int} {e:za0} {Q:List Int} (he:Val el e) (hlo:∀ k,k<e.length->(e.getD k default).term<t') (hQ:maj (cfg0 c0 e) Q)
  (hA:∀ c,C c->maj (cfg0 c0 c.l) c.a)
  (h1:∀ c u x,C c->el u=some x->c.t<u->u<t'->c.p <+: x.e)
  (hv:∀ c,C c->c.t<t'->∀ v,v∈c.a->v∈Q->c.p <+: e) :
  ∀ c,C c->c.t<t'->c.p <+: e:=by
 have key:∀ n m:Nat,∀ c,C c->c.t<t'->c.t.toNat=n->c.l.length=m->c.p <+: e:=by
  intro n
  induction n using Nat.strongRecOn with
  | _ n ihn=>
  intro m
  induction m using Nat.strongRecOn with
  | _ m ihm=>
  intro c hc hct hn hm
  obtain ⟨x,hx,hpx,hlx,hep,hvl,hvp,hpt⟩:=zcE H HL HC hc
  obtain ⟨_,_,hpl,_,hp0,_⟩:=HC.ok c hc
  have ht2:=H.two _ _ hx
  have ih:∀ c2,C c2->(c2.t<c.t\/(c2.t=c.t/\c2.l.length<c.l.length))->c2.p <+: e:=by
   intro c2 hc2 hlt
   obtain ⟨x2,hx2,_⟩:=HC.ok c2 hc2
   have ht3:=H.two _ _ hx2
   rcases hlt with g | ⟨g1,g2⟩
   ·exact ihn c2.t.toNat (by omega) c2.l.length c2 hc2 (by omega) rfl rfl
   ·exact ihm c2.l.length (by omega) c2 hc2 (by omega) (by rw [g1];exact hn) rfl
  by_cases hgoal:c.p <+: e
  ·exact hgoal
  exfalso
  obtain ⟨r1,r2⟩:=zlk c.l e
  have htop:∀ k,k<c.l.length->(c.l.getD k default).term<=c.t:=fun k hk=>by
   rw [za7 hlx hk]
   have hxl:=zaH hlx
   by_cases g:k<x.e.length
   ·have:=H.lo _ _ hx k g
    rw [za7 (H.pre _ _ hx) g] at this
    omega
   ·rw [H.hi _ _ hx k (by omega) (by omega)]
    exact Int.le_refl _
  have hnear:=zpt H HL HC (l:=c.l) (e:=e) hvl he
   (by
    intro c2 k g1 g2 g3 g4 g5 _
    refine ih c2 g1 ?_
    have a:=htop k g5
    have b:=zaH g3
    rw [List.length_take] at b
    rcases Int.lt_or_le c2.t c.t with h | h
    ·exact .inl h
    ·exact .inr ⟨by omega,by omega⟩)
   (by
    intro c2 k g1 g2 g3 g4 g5
    obtain ⟨x2,hx2,_,_,_,_,_,_⟩:=zcE H HL HC g1
    have hk2:=hlo k g5
    have hx2':=hx2
    rw [g2] at hx2'
    obtain ⟨b1,b2,b3⟩:=he.began H g5 rfl hx2'
    rcases Int.lt_trichotomy c2.t c.t with g | g | g
    ·exact (h1 c2 _ x g1 hx g hct).trans (hep.trans hpl)
    ·exfalso
     have ex:x2=x:=by
      rw [g,hx] at hx2
      exact (Option.some.inj hx2).symm
     rw [ex] at b1
     have bl:(e.take (k+1)).length=k+1:=by rw [List.length_take];omega
     rcases Nat.le_total c.p.length (k+1) with q | q
     ·exact hgoal ((zb8 hpx b1 (by omega)).trans (zar _ _))
     ·have s:=zaH (zll ((zb8 b1 hpx (by omega)).trans hpl) (zar e (k+1)))
      omega
    ·exfalso
     exact hgoal ((h1 c _ x2 hc hx2 g (by omega)).trans (b3.trans (zar _ _))))
   (by
    intro c2 k g1 g2 g3 g4 g5
    refine ih c2 g1 ?_
    have a:=htop k g5
    rcases Int.lt_or_le c2.t c.t with h | h
    ·exact .inl h
    ·have b:=zaH (g4 (by omega))
     rw [List.length_take] at b
     exact .inr ⟨by omega,by omega⟩)
   (by
    intro c2 k g1 g2 g3 g4 g5
    obtain ⟨x2,hx2,b1,_,b3,_,_,_⟩:=zcE H HL HC g1
    have hk2:=hlo k g5
    rcases Int.lt_trichotomy c2.t c.t with g | g | g
    ·exact (h1 c2 _ x g1 hx g hct).trans (hep.trans hpl)
    ·have ex:x2=x:=by
      rw [g,hx] at hx2
      exact (Option.some.inj hx2).symm
     rw [ex] at b1
     rcases Nat.le_total c.p.length c2.p.length with q | q
     ·exact absurd ((zb8 hpx b1 q).trans (g3.trans (zar _ _))) hgoal
     ·exact (zb8 b1 hpx q).trans hpl
    ·exact absurd ((h1 c _ x2 hc hx2 g (by omega)).trans (b3.trans (g3.trans (zar _ _)))) hgoal)
  obtain ⟨v,v1,v2⟩:=meet _ _ _ _ hnear (hA c hc) hQ
  exact hgoal (hv c hc hct v v1 v2)
 intro c hc hct
 exact key _ _ c hc hct rfl rfl
theorem zuN {t':Int} {e1 e2:za0} (h1:Val el e1) (h2:Val el e2) (hlo1:∀ k,k<e1.length->(e1.getD k default).term<t') (hlo2:∀ k,k<e2.length->(e2.getD k default).term<t')
  (hc1:∀ c,C c->c.t<t'->c.p <+: e1) (hc2:∀ c,C c->c.t<t'->c.p <+: e2):zlN adj (cfg0 c0 e1) (cfg0 c0 e2):=by
 refine zpt H HL HC h1 h2 (fun c k g1 g2 g3 g4 g5 _=>hc2 c g1 ?_) (fun c k g1 g2 g3 g4 g5=>hc1 c g1 ?_) (fun c k g1 g2 g3 g4 g5=>hc2 c g1 ?_) (fun c k g1 g2 g3 g4 g5=>hc1 c g1 ?_)
 ·have:=hlo1 k g5;omega
 ·have:=hlo2 k g5;omega
 ·have:=hlo1 k g5;omega
 ·have:=hlo2 k g5;omega
theorem zsk (h1:∀ c u x,C c->el u=some x->c.t<u->c.p <+: x.e) {c d:Cm} (hc:C c) (hd:C d):c.p <+: d.p\/d.p <+: c.p:=by
 obtain ⟨x,hx,a1,_,a3,_⟩:=zcE H HL HC hc
 obtain ⟨y,hy,b1,_,b3,_⟩:=zcE H HL HC hd
 rcases Int.lt_trichotomy c.t d.t with g | g | g
 ·exact .inl ((h1 c _ y hc hy g).trans b3)
 ·rw [g,hy] at hx
  simp only [Option.some.injEq] at hx
  subst hx
  rcases Nat.le_total c.p.length d.p.length with q | q
  ·exact .inl (zb8 a1 b1 q)
  ·exact .inr (zb8 b1 a1 q)
 ·exact .inr ((h1 d _ x hd hx g).trans a3)
theorem zmh (h1:∀ c u x,C c->el u=some x->c.t<u->c.p <+: x.e) {c:Cm} (hc:C c) {t:Int} {x:El} (hx:el t=some x) (ht:c.t<=t):c.p <+: x.l:=by
 obtain ⟨y,hy,a1,_⟩:=zcE H HL HC hc
 rcases Int.lt_or_le c.t t with g | g
 ·exact (h1 c t x hc hx g).trans (H.pre _ _ hx)
 ·have e:c.t=t:=by omega
  rw [e,hx] at hy
  simp only [Option.some.injEq] at hy
  subst hy
  exact a1
end
end Ag
end Go.Proofs.YtkhphiahindnnaaGreat
namespace Go.Proofs.YtkhphiahindnnaaGreat
namespace Ag
structure AN where
 term:Int
 vote:Int
 log:za0
 com:Nat
 role:Int
 yes:List Int
 mat:List (Int×Nat)
structure Gh where
 el:Int->Option El
 C:Cm->Prop
 K:Int->Int->za0->Prop
 V:Int->Int->Int->za0->Bool->Prop
 D:Int->Int->za0->Prop
section
variable (adj : Config -> Config -> Prop) (maj : Config -> List Int -> Prop) (c0 : Config)
structure GI (g:Gh):Prop where
 H:ElOk g.el
 L:Laid g.el g.C adj c0
 M:CmOk g.el g.C
 A:∀ c,g.C c->maj (cfg0 c0 c.l) c.a
 ack:∀ c,g.C c->∀ v,v∈c.a->∃ q,g.K v c.t q/\c.p <+: q
 one:∀ c u x,g.C c->g.el u=some x->c.t<u->c.p <+: x.e
 K:∀ v t q,g.K v t q->∃ x,g.el t=some x/\q <+: x.l
 cand:∀ t x,g.el t=some x->g.D t x.id x.e/\maj (cfg0 c0 x.e) x.q/\∀ v,v∈x.q->∃ p,g.V v t x.id p false
 vote:∀ v t c q b,g.V v t c q b->c≠0/\(∃ e,g.D t c e/\Newer e q)/\Val g.el q
 keep:∀ v t c q b,g.V v t c q b->∀ t0 a,g.K v t0 a->t0<t->∀ p,p <+: a->(∀ u x,g.el u=some x->t0<u->(u<t\/(b=true/\u=t))->p <+: x.e)->p <+: q
 vone:∀ v t c c' q q' b b',g.V v t c q b->g.V v t c' q' b'->c=c'
 late:∀ v t c q,g.V v t c q true->∃ x,g.el t=some x
 D:∀ t c e,g.D t c e->Val g.el e/\(∀ k,k<e.length->(e.getD k default).term<t)/\2<=t
 done:∀ t c e e',g.D t c e->g.D t c e'->e=e'
structure NI (g:Gh) (v:Int) (n:AN):Prop where
 val:Val g.el n.log
 one:1<=n.term
 hi:∀ k,k<n.log.length->(n.log.getD k default).term<=n.term
 V:∀ t c q b,g.V v t c q b->t<n.term\/(t=n.term/\n.vote=c)
 W:n.vote≠0->∃ q b,g.V v n.term n.vote q b
 D:∀ t e,g.D t v e->t<=n.term
 K:∀ t a,g.K v t a->t<=n.term/\∀ p,p <+: a->(∀ u x,g.el u=some x->t<u->u<=n.term->p <+: x.e)->p <+: n.log
 com:n.com<=n.log.length
 sure:n.com=0\/∃ c,g.C c/\c.t<=n.term/\n.log.take n.com <+: c.p
 cand:n.role=3->g.D n.term v n.log/\n.vote=v/\(∀ y,y∈n.yes->∃ q b,g.V y n.term v q b)/\∀ x,g.el n.term=some x->x.id≠v
 led:n.role=4->∃ x,g.el n.term=some x/\x.id=v/\x.l=n.log/\∀ p,p∈n.mat->p.2=0\/∃ q,g.K p.1 n.term q/\p.2<=q.length
structure Ext (v:Int) (g g':Gh):Prop where
 el:∀ t x,g.el t=some x->∃ x',g'.el t=some x'/\x'.id=x.id/\x'.e=x.e/\x.l <+: x'.l/\(x.id≠v->x'.l=x.l)
 new:∀ t x',g'.el t=some x'->(∃ x,g.el t=some x)\/x'.id=v
 C:∀ c,g.C c->g'.C c
 K:∀ u t q,g.K u t q->g'.K u t q
 Kn:∀ u t q,g'.K u t q->g.K u t q\/u=v
 V:∀ u t c q b,g.V u t c q b->g'.V u t c q b
 Vn:∀ u t c q b,g'.V u t c q b->g.V u t c q b\/u=v
 D:∀ t c e,g.D t c e->g'.D t c e
 Dn:∀ t c e,g'.D t c e->g.D t c e\/c=v
end
theorem Ext.refl (v:Int) (g:Gh):Ext v g g:=
 ⟨fun t x h=>⟨x,h,rfl,rfl,List.prefix_refl _,fun _=>rfl⟩,fun t x h=> .inl ⟨x,h⟩,fun _ h=>h,fun _ _ _ h=>h,fun _ _ _ h=> .inl h,fun _ _ _ _ _ h=>h,fun _ _ _ _ _ h=> .inl h,fun _ _ _ h=>h,fun _ _ _ h=> .inl h⟩
theorem Ext.trans {v:Int} {g g' g'':Gh} (h:Ext v g g') (k:Ext v g' g''):Ext v g g'':=by
 refine ⟨fun t x hx=>?_,fun t x hx=>?_,fun c hc=>k.C c (h.C c hc),fun u t q hq=>k.K _ _ _ (h.K _ _ _ hq),fun u t q hq=>?_,fun u t c q b hq=>k.V _ _ _ _ _ (h.V _ _ _ _ _ hq),fun u t c q b hq=>?_,fun t c e hq=>k.D _ _ _ (h.D _ _ _ hq),fun t c e hq=>?_⟩
 ·obtain ⟨x1,a1,a2,a3,a4,a5⟩:=h.el t x hx
  obtain ⟨x2,b1,b2,b3,b4,b5⟩:=k.el t x1 a1
  exact ⟨x2,b1,b2.trans a2,b3.trans a3,a4.trans b4,fun e=>(b5 (by rw [a2];exact e)).trans (a5 e)⟩
 ·rcases k.new t x hx with ⟨x1,a⟩ | a
  ·rcases h.new t x1 a with ⟨x0,b⟩ | b
   ·exact .inl ⟨x0,b⟩
   ·obtain ⟨x2,c1,c2,_⟩:=k.el t x1 a
    rw [hx] at c1
    simp only [Option.some.injEq] at c1
    subst c1
    exact .inr (c2.trans b)
  ·exact .inr a
 ·rcases k.Kn _ _ _ hq with a | a
  ·exact h.Kn _ _ _ a
  ·exact .inr a
 ·rcases k.Vn _ _ _ _ _ hq with a | a
  ·exact h.Vn _ _ _ _ _ a
  ·exact .inr a
 ·rcases k.Dn _ _ _ hq with a | a
  ·exact h.Dn _ _ _ a
  ·exact .inr a
theorem Ext.val {v:Int} {g g':Gh} (h:Ext v g g') {l:za0} (hl:Val g.el l):Val g'.el l:=fun k hk=>by
 obtain ⟨x,h1,h2⟩:=hl k hk
 obtain ⟨x',a1,_,_,a4,_⟩:=h.el _ x h1
 exact ⟨x',a1,h2.trans a4⟩
theorem Ext.old {v:Int} {g g':Gh} (h:Ext v g g') {t:Int} {x x':El} (hx:g.el t=some x) (hx':g'.el t=some x'):x'.id=x.id/\x'.e=x.e/\x.l <+: x'.l/\(x.id≠v->x'.l=x.l):=by
 obtain ⟨y,a1,a2⟩:=h.el t x hx
 rw [hx'] at a1
 simp only [Option.some.injEq] at a1
 subst a1
 exact a2
theorem NI.ext {v u:Int} {g g':Gh} {n:AN} (h:NI g u n) (he:Ext v g g') (hu:u≠v):NI g' u n:=by
 have hK:∀ t a,g'.K u t a->g.K u t a:=fun t a hk=>(he.Kn _ _ _ hk).resolve_right hu
 have hV:∀ t c q b,g'.V u t c q b->g.V u t c q b:=fun t c q b hk=>(he.Vn _ _ _ _ _ hk).resolve_right hu
 have hD:∀ t e,g'.D t u e->g.D t u e:=fun t e hk=>(he.Dn _ _ _ hk).resolve_right hu
 refine ⟨he.val h.val,h.one,h.hi,fun t c q b hv=>h.V t c q b (hV _ _ _ _ hv),fun hv=>?_,fun t e hd=>h.D t e (hD _ _ hd),fun t a hk=>?_,h.com,?_,fun hr=>?_,fun hr=>?_⟩
 ·obtain ⟨q,b,a⟩:=h.W hv
  exact ⟨q,b,he.V _ _ _ _ _ a⟩
 ·obtain ⟨a1,a2⟩:=h.K t a (hK _ _ hk)
  refine ⟨a1,fun p hp hc=>a2 p hp fun w x hx h1 h2=>?_⟩
  obtain ⟨x',b1,_,b3,_⟩:=he.el w x hx
  rw [<- b3];exact hc w x' b1 h1 h2
 ·rcases h.sure with a | ⟨c,a1,a2,a3⟩
  ·exact .inl a
  ·exact .inr ⟨c,he.C c a1,a2,a3⟩
 ·obtain ⟨a1,a2,a3,a4⟩:=h.cand hr
  refine ⟨he.D _ _ _ a1,a2,fun y hy=>?_,fun x hx=>?_⟩
  ·obtain ⟨q,b,c⟩:=a3 y hy
   exact ⟨q,b,he.V _ _ _ _ _ c⟩
  ·rcases he.new _ x hx with ⟨x0,b⟩ | b
   ·rw [(he.old b hx).1];exact a4 x0 b
   ·rw [b];exact fun e=>hu e.symm
 ·obtain ⟨x,a1,a2,a3,a4⟩:=h.led hr
  obtain ⟨x',b1,b2,b3,b4,b5⟩:=he.el _ x a1
  refine ⟨x',b1,b2.trans a2,(b5 (by rw [a2];exact hu)).trans a3,fun p hp=>?_⟩
  rcases a4 p hp with c | ⟨q,c1,c2⟩
  ·exact .inl c
  ·exact .inr ⟨q,he.K _ _ _ c1,c2⟩
section
variable {adj : Config -> Config -> Prop} {maj : Config -> List Int -> Prop} {c0 : Config} {g : Gh} {v : Int} {n : AN}
theorem NI.fall (h:NI g v n) {t:Int} (ht:n.term<t) {n':AN} (e1:n'.term=t) (e2:n'.vote=0) (e3:n'.log=n.log) (e4:n'.com=n.com) (e5:n'.role=1):NI g v n':=by
 refine ⟨by rw [e3];exact h.val,by have:=h.one;omega,fun k hk=>?_,fun t0 c q b hv=>?_,fun hv=>absurd e2 hv,fun t0 e hd=>?_,fun t0 a hk=>?_,by rw [e3,e4];exact h.com,?_,fun hr=>?_,fun hr=>?_⟩
 ·rw [e3] at hk ⊢
  have:=h.hi k hk
  omega
 ·have:=h.V t0 c q b hv
  omega
 ·have:=h.D t0 e hd
  omega
 ·obtain ⟨a1,a2⟩:=h.K t0 a hk
  refine ⟨by omega,fun p hp hc=>?_⟩
  rw [e3]
  exact a2 p hp fun w x hx h1 h2=>hc w x hx h1 (by omega)
 ·rw [e3,e4]
  rcases h.sure with a | ⟨c,a1,a2,a3⟩
  ·exact .inl a
  ·exact .inr ⟨c,a1,by omega,a3⟩
 ·omega
 ·omega
theorem NI.rest (h:NI g v n) {n':AN} (e1:n'.term=n.term) (e2:n'.vote=n.vote) (e3:n'.log=n.log) (e4:n'.com<=n.com) (e5:n'.role≠3) (e6:n'.role≠4):NI g v n':=by
 have hc:=h.com
 refine ⟨by rw [e3];exact h.val,by rw [e1];exact h.one,by rw [e3,e1];exact h.hi,by rw [e1,e2];exact h.V,by rw [e1,e2];exact h.W,by rw [e1];exact h.D,by rw [e1,e3];exact h.K,by rw [e3];omega,?_,fun hr=>absurd hr e5,fun hr=>absurd hr e6⟩
 rw [e3]
 rcases h.sure with a | ⟨c,a1,a2,a3⟩
 ·exact .inl (by omega)
 ·exact .inr ⟨c,a1,by omega,(zbx e4).trans a3⟩
theorem NI.same (h:NI g v n) {n':AN} (e1:n'.term=n.term) (e2:n'.vote=n.vote) (e3:n'.log=n.log) (e4:n'.com=n.com) (e5:n'.role=n.role) (e6:n.role=3->∀ y,y∈n'.yes->∃ q b,g.V y n.term v q b) (e7:n.role=4->∀ p,p∈n'.mat->p.2=0\/∃ q,g.K p.1 n.term q/\p.2<=q.length):NI g v n':=by
 refine ⟨by rw [e3];exact h.val,by rw [e1];exact h.one,by rw [e3,e1];exact h.hi,by rw [e1,e2];exact h.V,by rw [e1,e2];exact h.W,by rw [e1];exact h.D,by rw [e1,e3];exact h.K,by rw [e3,e4];exact h.com,by rw [e3,e4,e1];exact h.sure,fun hr=>?_,fun hr=>?_⟩
 ·rw [e5] at hr
  obtain ⟨a1,a2,a3,a4⟩:=h.cand hr
  rw [e1,e2,e3]
  exact ⟨a1,a2,e6 hr,a4⟩
 ·rw [e5] at hr
  obtain ⟨x,a1,a2,a3,a4⟩:=h.led hr
  rw [e1,e3]
  exact ⟨x,a1,a2,a3,e7 hr⟩
theorem NI.more (h:NI g v n) {n':AN} (e1:n'.term=n.term) (e2:n'.vote=n.vote) (e3:n'.log=n.log) (e5:n'.role=n.role) (e6:n'.yes=n.yes) (e7:n'.mat=n.mat) (hl:n'.com<=n.log.length) (hs:n'.com=0\/∃ c,g.C c/\c.t<=n.term/\n.log.take n'.com <+: c.p):NI g v n':=by
 refine ⟨by rw [e3];exact h.val,by rw [e1];exact h.one,by rw [e3,e1];exact h.hi,by rw [e1,e2];exact h.V,by rw [e1,e2];exact h.W,by rw [e1];exact h.D,by rw [e1,e3];exact h.K,by rw [e3];exact hl,by rw [e3,e1];exact hs,fun hr=>?_,fun hr=>?_⟩
 ·rw [e5] at hr
  rw [e1,e2,e3,e6]
  exact h.cand hr
 ·rw [e5] at hr
  rw [e1,e3,e7]
  exact h.led hr
def Gh.addV (g:Gh) (v t c:Int) (q:za0) (b:Bool):Gh:={g with V:=fun u t' c' q' b'=>g.V u t' c' q' b'\/(u=v/\t'=t/\c'=c/\q'=q/\b'=b)}
def Gh.addD (g:Gh) (t c:Int) (e:za0):Gh:={g with D:=fun t' c' e'=>g.D t' c' e'\/(t'=t/\c'=c/\e'=e)}
def Gh.addK (g:Gh) (v t:Int) (q:za0):Gh:={g with K:=fun u t' q'=>g.K u t' q'\/(u=v/\t'=t/\q'=q)}
def Gh.addC (g:Gh) (c:Cm):Gh:={g with C:=fun c'=>g.C c'\/c'=c}
def Gh.setE (g:Gh) (t:Int) (x:El):Gh:={g with el:=fun t'=>if t'=t then some x else g.el t'}
theorem Ext.addV (g:Gh) (v t c:Int) (q:za0) (b:Bool):Ext v g (g.addV v t c q b):=
 ⟨fun t x h=>⟨x,h,rfl,rfl,List.prefix_refl _,fun _=>rfl⟩,fun t x h=> .inl ⟨x,h⟩,fun _ h=>h,fun _ _ _ h=>h,fun _ _ _ h=> .inl h,fun _ _ _ _ _ h=> .inl h,fun _ _ _ _ _ h=>h.imp id fun h=>h.1,fun _ _ _ h=>h,fun _ _ _ h=> .inl h⟩
theorem Ext.addD (g:Gh) (t v:Int) (e:za0):Ext v g (g.addD t v e):=
 ⟨fun t x h=>⟨x,h,rfl,rfl,List.prefix_refl _,fun _=>rfl⟩,fun t x h=> .inl ⟨x,h⟩,fun _ h=>h,fun _ _ _ h=>h,fun _ _ _ h=> .inl h,fun _ _ _ _ _ h=>h,fun _ _ _ _ _ h=> .inl h,fun _ _ _ h=> .inl h,fun _ _ _ h=>h.imp id fun h=>h.2.1⟩
theorem Ext.addK (g:Gh) (v t:Int) (q:za0):Ext v g (g.addK v t q):=
 ⟨fun t x h=>⟨x,h,rfl,rfl,List.prefix_refl _,fun _=>rfl⟩,fun t x h=> .inl ⟨x,h⟩,fun _ h=>h,fun _ _ _ h=> .inl h,fun _ _ _ h=>h.imp id fun h=>h.1,fun _ _ _ _ _ h=>h,fun _ _ _ _ _ h=> .inl h,fun _ _ _ h=>h,fun _ _ _ h=> .inl h⟩
theorem Ext.addC (v:Int) (g:Gh) (c:Cm):Ext v g (g.addC c):=
 ⟨fun t x h=>⟨x,h,rfl,rfl,List.prefix_refl _,fun _=>rfl⟩,fun t x h=> .inl ⟨x,h⟩,fun _ h=> .inl h,fun _ _ _ h=>h,fun _ _ _ h=> .inl h,fun _ _ _ _ _ h=>h,fun _ _ _ _ _ h=> .inl h,fun _ _ _ h=>h,fun _ _ _ h=> .inl h⟩
theorem Ext.newE {g:Gh} {t:Int} {x:El} (h:g.el t=none) (hx:x.id=v):Ext v g (g.setE t x):=by
 refine ⟨fun t' y hy=>⟨y,?_,rfl,rfl,List.prefix_refl _,fun _=>rfl⟩,fun t' y hy=>?_,fun _ h=>h,fun _ _ _ h=>h,fun _ _ _ h=> .inl h,fun _ _ _ _ _ h=>h,fun _ _ _ _ _ h=> .inl h,fun _ _ _ h=>h,fun _ _ _ h=> .inl h⟩
 ·show (if t'=t then some x else g.el t')=some y
  rw [if_neg (fun e=>by rw [e,h] at hy;cases hy)]
  exact hy
 ·have hy:(if t'=t then some x else g.el t')=some y:=hy
  by_cases e:t'=t
  ·rw [if_pos e] at hy
   simp only [Option.some.injEq] at hy
   exact .inr (by rw [<- hy];exact hx)
  ·rw [if_neg e] at hy
   exact .inl ⟨y,hy⟩
theorem Ext.moreE {g:Gh} {t:Int} {x x':El} (h:g.el t=some x) (hx:x.id=v) (h1:x'.id=x.id) (h2:x'.e=x.e) (h3:x.l <+: x'.l):Ext v g (g.setE t x'):=by
 refine ⟨fun t' y hy=>?_,fun t' y hy=>?_,fun _ h=>h,fun _ _ _ h=>h,fun _ _ _ h=> .inl h,fun _ _ _ _ _ h=>h,fun _ _ _ _ _ h=> .inl h,fun _ _ _ h=>h,fun _ _ _ h=> .inl h⟩
 ·by_cases e:t'=t
  ·rw [e,h] at hy
   simp only [Option.some.injEq] at hy
   subst hy
   exact ⟨x',by show (if t'=t then _ else _)=_;rw [if_pos e],h1,h2,h3,fun hn=>absurd hx hn⟩
  ·exact ⟨y,by show (if t'=t then _ else _)=_;rw [if_neg e];exact hy,rfl,rfl,List.prefix_refl _,fun _=>rfl⟩
 ·have hy:(if t'=t then some x' else g.el t')=some y:=hy
  by_cases e:t'=t
  ·rw [if_pos e] at hy
   exact .inl ⟨x,by rw [e];exact h⟩
  ·rw [if_neg e] at hy
   exact .inl ⟨y,hy⟩
end
end Ag
end Go.Proofs.YtkhphiahindnnaaGreat
namespace Go.Proofs.YtkhphiahindnnaaGreat
namespace Ag
section
variable {adj : Config -> Config -> Prop} {maj : Config -> List Int -> Prop} {c0 : Config} {g : Gh} {v : Int} {n : AN}
theorem GI.addV (h:GI adj maj c0 g) {c:Int} {q:za0} {b:Bool} {t:Int} (hc:c≠0) (hd:∃ e,g.D t c e/\Newer e q) (hq:Val g.el q)
  (hk:∀ t0 a,g.K v t0 a->t0<t->∀ p,p <+: a->(∀ u x,g.el u=some x->t0<u->(u<t\/(b=true/\u=t))->p <+: x.e)->p <+: q)
  (ho:∀ c' q' b',g.V v t c' q' b'->c'=c) (hl:b=true->∃ x,g.el t=some x):GI adj maj c0 (g.addV v t c q b):=by
 refine ⟨h.H,h.L,h.M,h.A,h.ack,h.one,h.K,fun t' x hx=>?_,fun u t' c' q' b' hv=>?_,fun u t' c' q' b' hv=>?_,fun u t' c1 c2 q1 q2 b1 b2 h1 h2=>?_,fun u t' c' q' hv=>?_,h.D,h.done⟩
 ·obtain ⟨a1,a2,a3⟩:=h.cand t' x hx
  exact ⟨a1,a2,fun w hw=>(a3 w hw).imp fun p hp=> .inl hp⟩
 ·rcases hv with hv | ⟨rfl,rfl,rfl,rfl,rfl⟩
  ·exact h.vote _ _ _ _ _ hv
  ·exact ⟨hc,hd,hq⟩
 ·rcases hv with hv | ⟨rfl,rfl,rfl,rfl,rfl⟩
  ·exact h.keep _ _ _ _ _ hv
  ·exact hk
 ·rcases h1 with h1 | ⟨rfl,rfl,rfl,rfl,rfl⟩
  ·rcases h2 with h2 | ⟨rfl,rfl,rfl,rfl,rfl⟩
   ·exact h.vone _ _ _ _ _ _ _ _ h1 h2
   ·exact ho _ _ _ h1
  ·rcases h2 with h2 | ⟨_,_,rfl,_,_⟩
   ·exact (ho _ _ _ h2).symm
   ·rfl
 ·rcases hv with hv | ⟨_,rfl,_,_,e⟩
  ·exact h.late _ _ _ _ hv
  ·exact hl e.symm
theorem zo1 (h:GI adj maj c0 g) (hn:NI g v n) (hv0:v≠0) {c:Int} (hc:c≠0) (h0:n.vote=0) {e:za0} (hd:g.D n.term c e) (hw:Newer e n.log) {n':AN} (e1:n'.term=n.term) (e2:n'.vote=c) (e3:n'.log=n.log) (e4:n'.com=n.com) (e5:n'.role=n.role) (e6:n'.mat=n.mat) :
  ∃ g',GI adj maj c0 g'/\Ext v g g'/\NI g' v n'/\g'.el=g.el/\∃ q b,g'.V v n.term c q b:=by
 have hno:∀ c' q' b',g.V v n.term c' q' b'->c'=c:=fun c' q' b' hv=>by
  have a:=hn.V _ _ _ _ hv
  have b:=(h.vote _ _ _ _ _ hv).1
  omega
 have hno2:∀ c' q' b',¬ g.V v n.term c' q' b':=fun c' q' b' hv=>by
  have a:=hn.V _ _ _ _ hv
  have b:=(h.vote _ _ _ _ _ hv).1
  omega
 refine ⟨g.addV v n.term c n.log (g.el n.term).isSome,h.addV hc ⟨e,hd,hw⟩ hn.val (fun t0 a hk ht p hp hcc=>(hn.K t0 a hk).2 p hp fun u x hx h1 h2=>hcc u x hx h1 ?_) hno ?_,Ext.addV ..,?_,rfl,n.log,_,.inr ⟨rfl,rfl,rfl,rfl,rfl⟩⟩
 ·rcases Int.lt_or_le u n.term with g1 | g1
  ·exact .inl g1
  ·have:u=n.term:=by omega
   subst this
   exact .inr ⟨by rw [hx];rfl,rfl⟩
 ·intro hb
  cases hx:g.el n.term with
  | none=>rw [hx] at hb;cases hb
  | some x=>exact ⟨x,rfl⟩
 ·refine ⟨by rw [e3];exact hn.val,by rw [e1];exact hn.one,by rw [e3,e1];exact hn.hi,fun t c' q b hv=>?_,fun _=>?_,by rw [e1];exact hn.D,by rw [e1,e3];exact hn.K,by rw [e3,e4];exact hn.com,by rw [e3,e4,e1];exact hn.sure,fun hr=>?_,fun hr=>?_⟩
  ·rw [e1,e2]
   rcases hv with hv | ⟨_,rfl,rfl,_,_⟩
   ·rcases hn.V _ _ _ _ hv with a | ⟨a,_⟩
    ·exact .inl a
    ·subst a
     exact absurd hv (hno2 _ _ _)
   ·exact .inr ⟨rfl,rfl⟩
  ·rw [e1,e2]
   exact ⟨_,_,.inr ⟨rfl,rfl,rfl,rfl,rfl⟩⟩
  ·rw [e5] at hr
   have:=(hn.cand hr).2.1
   omega
  ·rw [e5] at hr
   rw [e1,e3,e6]
   exact hn.led hr
theorem znx (h:GI adj maj c0 g) (hn:NI g v n) (hv0:v≠0) {n':AN} (e1:n'.term=n.term+1) (e2:n'.vote=v) (e3:n'.log=n.log) (e4:n'.com=n.com) (e5:n'.role=3) (e6:n'.yes=[v]) :
  ∃ g',GI adj maj c0 g'/\Ext v g g'/\NI g' v n'/\g'.el=g.el:=by
 have h1:GI adj maj c0 (g.addD (n.term+1) v n.log):=by
  refine ⟨h.H,h.L,h.M,h.A,h.ack,h.one,h.K,fun t x hx=>?_,fun u t c q b hv=>?_,h.keep,h.vone,h.late,fun t c e hd=>?_,fun t c e e' hd hd'=>?_⟩
  ·obtain ⟨a1,a2,a3⟩:=h.cand t x hx
   exact ⟨.inl a1,a2,a3⟩
  ·obtain ⟨a1,⟨e,a2,a3⟩,a4⟩:=h.vote _ _ _ _ _ hv
   exact ⟨a1,⟨e,.inl a2,a3⟩,a4⟩
  ·rcases hd with hd | ⟨rfl,rfl,rfl⟩
   ·exact h.D _ _ _ hd
   ·have:=hn.one
    exact ⟨hn.val,fun k hk=>by have:=hn.hi k hk;omega,by omega⟩
  ·rcases hd with hd | ⟨rfl,rfl,rfl⟩
   ·rcases hd' with hd' | ⟨rfl,rfl,rfl⟩
    ·exact h.done _ _ _ _ hd hd'
    ·have:=hn.D _ _ hd
     omega
   ·rcases hd' with hd' | ⟨_,_,rfl⟩
    ·have:=hn.D _ _ hd'
     omega
    ·rfl
 have hno:∀ c' q' b',¬ g.V v (n.term+1) c' q' b':=fun c' q' b' hv=>by
  have:=hn.V _ _ _ _ hv
  omega
 have x1:=Ext.addD g (n.term+1) v n.log
 refine ⟨(g.addD (n.term+1) v n.log).addV v (n.term+1) v n.log (g.el (n.term+1)).isSome,h1.addV hv0 ⟨n.log,.inr ⟨rfl,rfl,rfl⟩,Newer.refl _⟩ hn.val (fun t0 a hk ht p hp hcc=>(hn.K t0 a hk).2 p hp fun u x hx g1 g2=>hcc u x hx g1 (.inl (by omega))) (fun c' q' b' hv=>absurd hv (hno _ _ _)) ?_,x1.trans (Ext.addV ..),?_,rfl⟩
 ·intro hb
  have hb:(g.el (n.term+1)).isSome=true:=hb
  cases hx:g.el (n.term+1) with
  | none=>rw [hx] at hb;cases hb
  | some x=>exact ⟨x,hx⟩
 ·refine ⟨by rw [e3];exact hn.val,by rw [e1];have:=hn.one;omega,fun k hk=>?_,fun t c' q b hv=>?_,fun _=>?_,fun t e hd=>?_,fun t a hk=>?_,by rw [e3,e4];exact hn.com,?_,fun hr=>?_,fun hr=>by omega⟩
  ·rw [e3] at hk ⊢
   have:=hn.hi k hk
   omega
  ·rw [e1,e2]
   rcases hv with hv | ⟨_,rfl,rfl,_,_⟩
   ·have:=hn.V _ _ _ _ hv
    omega
   ·exact .inr ⟨rfl,rfl⟩
  ·rw [e1,e2]
   exact ⟨_,_,.inr ⟨rfl,rfl,rfl,rfl,rfl⟩⟩
  ·rw [e1]
   rcases hd with hd | ⟨rfl,_,_⟩
   ·have:=hn.D _ _ hd
    omega
   ·omega
  ·obtain ⟨a1,a2⟩:=hn.K t a hk
   refine ⟨by omega,fun p hp hcc=>?_⟩
   rw [e3]
   exact a2 p hp fun u x hx g1 g2=>hcc u x hx g1 (by omega)
  ·rw [e3,e4]
   rcases hn.sure with a | ⟨c,a1,a2,a3⟩
   ·exact .inl a
   ·exact .inr ⟨c,a1,by omega,a3⟩
  ·rw [e1,e2,e3,e6]
   refine ⟨.inr ⟨rfl,rfl,rfl⟩,rfl,fun y hy=>?_,fun x hx e=>?_⟩
   ·rw [List.mem_singleton] at hy
    subst hy
    exact ⟨_,_,.inr ⟨rfl,rfl,rfl,rfl,rfl⟩⟩
   ·have hx:g.el (n.term+1)=some x:=hx
    obtain ⟨a1,_,_⟩:=h.cand _ x hx
    rw [e] at a1
    have:=hn.D _ _ a1
    omega
theorem zuO (h:GI adj maj c0 g) (meet:∀ a b A B,zlN adj a b->maj a A->maj b B->∃ v,v∈A/\v∈B) {t c:Int} {e:za0} {Q:List Int} (hd:g.D t c e) (hQ:maj (cfg0 c0 e) Q) (hv:∀ w,w∈Q->∃ q b,g.V w t c q b):∀ d,g.C d->d.t<t->d.p <+: e:=by
 obtain ⟨d1,d2,d3⟩:=h.D _ _ _ hd
 refine zmY h.H h.L h.M meet d1 d2 hQ h.A (fun d u x hd hx h1 _=>h.one d u x hd hx h1) fun d hdC hdt w w1 w2=>?_
 obtain ⟨q,k1,k2⟩:=h.ack d hdC w w1
 obtain ⟨qv,b,hvv⟩:=hv w w2
 obtain ⟨_,⟨e',a1,a2⟩,a3⟩:=h.vote _ _ _ _ _ hvv
 have ee:=h.done _ _ _ _ a1 hd
 subst ee
 have hk:=h.keep _ _ _ _ _ hvv _ _ k1 hdt d.p k2 fun u x hx h1 _=>h.one d u x hdC hx h1
 obtain ⟨x,b1,b2,b3,b4,b5⟩:=h.M.ok d hdC
 exact zjI h.H d1 a3 d2 a2 hk b4 b5 fun u x hx h1 _=>h.one d u x hdC hx h1
theorem znW (h:GI adj maj c0 g) (meet:∀ a b A B,zlN adj a b->maj a A->maj b B->∃ v,v∈A/\v∈B) (hn:NI g v n) (hr:n.role=3) (hm:maj (cfg0 c0 n.log) n.yes)
  {n':AN} (e1:n'.term=n.term) (e2:n'.vote=n.vote) (e3:n'.log=n.log) (e4:n'.com=n.com) (e5:n'.role=4) (e6:∀ p,p∈n'.mat->p.2=0) :
  ∃ g',GI adj maj c0 g'/\Ext v g g'/\NI g' v n'/\∀ t x,g'.el t=some x->(∃ y,g.el t=some y/\x=y)\/x.l=n.log:=by
 obtain ⟨c1,c2,c3,c4⟩:=hn.cand hr
 have hall:=zuO h meet c1 hm c3
 obtain ⟨d1,d2,d3⟩:=h.D _ _ _ c1
 have hnone:g.el n.term=none:=by
  cases hx:g.el n.term with
  | none=>rfl
  | some x=>
   exfalso
   obtain ⟨a1,a2,a3⟩:=h.cand _ _ hx
   obtain ⟨b1,b2,b3⟩:=h.D _ _ _ a1
   have hnear:=zuN h.H h.L h.M b1 d1 b2 d2 (fun d hd ht=>h.one d _ x hd hx ht) hall
   obtain ⟨w,w1,w2⟩:=meet _ _ _ _ hnear a2 hm
   obtain ⟨p,k1⟩:=a3 w w1
   obtain ⟨q,b,k2⟩:=c3 w w2
   exact c4 x hx (h.vone _ _ _ _ _ _ _ _ k1 k2)
 have hx:=Ext.newE (g:=g) (t:=n.term) (x:=⟨v,n.log,n.log,n.yes⟩) (v:=v) hnone rfl
 have hel:∀ t y,(g.setE n.term ⟨v,n.log,n.log,n.yes⟩).el t=some y->(t=n.term/\y=⟨v,n.log,n.log,n.yes⟩)\/(t≠n.term/\g.el t=some y):=fun t y hy=>by
  have hy:(if t=n.term then some (⟨v,n.log,n.log,n.yes⟩:El) else g.el t)=some y:=hy
  by_cases e:t=n.term
  ·rw [if_pos e] at hy
   exact .inl ⟨e,(Option.some.inj hy).symm⟩
  ·rw [if_neg e] at hy
   exact .inr ⟨e,hy⟩
 have hmono:∀ t y,g.el t=some y->(g.setE n.term ⟨v,n.log,n.log,n.yes⟩).el t=some y:=fun t y hy=>by
  show (if t=n.term then _ else _)=_
  rw [if_neg (fun e=>by rw [e,hnone] at hy;cases hy)]
  exact hy
 have hmc:=h.M
 refine ⟨g.setE n.term ⟨v,n.log,n.log,n.yes⟩,?_,hx,?_,fun t x h=>(hel t x h).elim (fun h=> .inr (by rw [h.2])) fun h=> .inl ⟨x,h.2,rfl⟩⟩
 ·refine ⟨⟨fun t y hy=>?_,fun t y hy=>?_,fun t y hy k hk=>?_,fun t y hy k hk hk2=>?_,fun t y hy=>?_⟩,fun t y hy k hk hk2 hk3=>?_,⟨fun c hc=>?_⟩,h.A,h.ack,fun c u y hc hy ht=>?_,fun u t q hk=>?_,fun t y hy=>?_,fun u t c q b hv=>?_,fun u t c q b hv t0 a hk ht p hp hcc=>?_,h.vone,fun u t c q hv=>?_,fun t c e hd=>?_,h.done⟩
  ·rcases hel t y hy with ⟨rfl,rfl⟩ | ⟨_,h1⟩
   ·exact d3
   ·exact h.H.two _ _ h1
  ·rcases hel t y hy with ⟨rfl,rfl⟩ | ⟨_,h1⟩
   ·exact List.prefix_refl _
   ·exact h.H.pre _ _ h1
  ·rcases hel t y hy with ⟨rfl,rfl⟩ | ⟨_,h1⟩
   ·exact d2 k hk
   ·exact h.H.lo _ _ h1 k hk
  ·rcases hel t y hy with ⟨rfl,rfl⟩ | ⟨_,h1⟩
   ·have hk:n.log.length<=k:=hk
    have hk2:k<n.log.length:=hk2
    omega
   ·exact h.H.hi _ _ h1 k hk hk2
  ·rcases hel t y hy with ⟨rfl,rfl⟩ | ⟨_,h1⟩
   ·exact hx.val d1
   ·exact hx.val (h.H.val _ _ h1)
  ·rcases hel t y hy with ⟨rfl,rfl⟩ | ⟨_,h1⟩
   ·have hk:n.log.length<=k:=hk
    have hk2:k<n.log.length:=hk2
    omega
   ·exact h.L _ _ h1 k hk hk2 hk3
  ·obtain ⟨x,a1,a2⟩:=h.M.ok c hc
   exact ⟨x,hmono _ _ a1,a2⟩
  ·rcases hel u y hy with ⟨rfl,rfl⟩ | ⟨_,h1⟩
   ·exact hall c hc ht
   ·exact h.one c u y hc h1 ht
  ·obtain ⟨x,a1,a2⟩:=h.K _ _ _ hk
   exact ⟨x,hmono _ _ a1,a2⟩
  ·rcases hel t y hy with ⟨rfl,rfl⟩ | ⟨_,h1⟩
   ·refine ⟨c1,hm,fun w hw=>?_⟩
    obtain ⟨q,b,k2⟩:=c3 w hw
    cases b with
    | false=>exact ⟨q,k2⟩
    | true=>
     obtain ⟨x,hx⟩:=h.late _ _ _ _ k2
     rw [hnone] at hx
     cases hx
   ·exact h.cand _ _ h1
  ·obtain ⟨a1,a2,a3⟩:=h.vote _ _ _ _ _ hv
   exact ⟨a1,a2,hx.val a3⟩
  ·exact h.keep _ _ _ _ _ hv t0 a hk ht p hp fun w x hxx h1 h2=>hcc w x (hmono _ _ hxx) h1 h2
  ·obtain ⟨x,a1⟩:=h.late _ _ _ _ hv
   exact ⟨x,hmono _ _ a1⟩
  ·obtain ⟨a1,a2,a3⟩:=h.D _ _ _ hd
   exact ⟨hx.val a1,a2,a3⟩
 ·refine ⟨by rw [e3];exact hx.val hn.val,by rw [e1];exact hn.one,by rw [e3,e1];exact hn.hi,by rw [e1,e2];exact hn.V,by rw [e1,e2];exact hn.W,by rw [e1];exact hn.D,fun t a hk=>?_,by rw [e3,e4];exact hn.com,by rw [e3,e4,e1];exact hn.sure,fun hr=>by omega,fun _=>?_⟩
  ·obtain ⟨a1,a2⟩:=hn.K t a hk
   refine ⟨by rw [e1];exact a1,fun p hp hcc=>?_⟩
   rw [e3]
   exact a2 p hp fun u x hxx h1 h2=>hcc u x (hmono _ _ hxx) h1 (by rw [e1];exact h2)
  ·refine ⟨⟨v,n.log,n.log,n.yes⟩,by rw [e1];show (if n.term=n.term then _ else _)=_;rw [if_pos rfl],rfl,by rw [e3],fun p hp=> .inl (e6 p hp)⟩
theorem zsO (h:GI adj maj c0 g) (hn:NI g v n) (hr:n.role=4) {x:Entry} (hx:x.term=n.term) (hc:x.kind=2->zha g.C adj c0 n.term (n.log++[x]) n.log.length)
  {n':AN} (e1:n'.term=n.term) (e2:n'.vote=n.vote) (e3:n'.log=n.log++[x]) (e4:n'.com=n.com) (e5:n'.role=4) (e6:n'.mat=n.mat) :
  ∃ g',GI adj maj c0 g'/\Ext v g g'/\NI g' v n'/\∀ t x',g'.el t=some x'->(∃ y,g.el t=some y/\x'=y)\/x'.l=n.log++[x]:=by
 obtain ⟨y,y1,y2,y3,y4⟩:=hn.led hr
 have hpre:y.l <+: (n.log++[x]):=by rw [y3];exact List.prefix_append _ _
 have hex:=Ext.moreE (g:=g) (t:=n.term) (x:=y) (x':=⟨y.id,y.e,n.log++[x],y.q⟩) (v:=v) y1 y2 rfl rfl hpre
 have hel:∀ t z,(g.setE n.term ⟨y.id,y.e,n.log++[x],y.q⟩).el t=some z->(t=n.term/\z=⟨y.id,y.e,n.log++[x],y.q⟩)\/(t≠n.term/\g.el t=some z):=fun t z hz=>by
  have hz:(if t=n.term then some (⟨y.id,y.e,n.log++[x],y.q⟩:El) else g.el t)=some z:=hz
  by_cases e:t=n.term
  ·rw [if_pos e] at hz
   exact .inl ⟨e,(Option.some.inj hz).symm⟩
  ·rw [if_neg e] at hz
   exact .inr ⟨e,hz⟩
 have hyl:y.l.length=n.log.length:=by rw [y3]
 have hlen:(n.log++[x]).length=n.log.length+1:=by simp
 have hH:ElOk (g.setE n.term ⟨y.id,y.e,n.log++[x],y.q⟩).el:=by
  refine ⟨fun t z hz=>?_,fun t z hz=>?_,fun t z hz k hk=>?_,fun t z hz k hk hk2=>?_,fun t z hz=>?_⟩
  ·rcases hel t z hz with ⟨rfl,rfl⟩ | ⟨_,h1⟩
   ·exact h.H.two _ _ y1
   ·exact h.H.two _ _ h1
  ·rcases hel t z hz with ⟨rfl,rfl⟩ | ⟨_,h1⟩
   ·exact (h.H.pre _ _ y1).trans hpre
   ·exact h.H.pre _ _ h1
  ·rcases hel t z hz with ⟨rfl,rfl⟩ | ⟨_,h1⟩
   ·exact h.H.lo _ _ y1 k hk
   ·exact h.H.lo _ _ h1 k hk
  ·rcases hel t z hz with ⟨rfl,rfl⟩ | ⟨_,h1⟩
   ·have hk2:k<(n.log++[x]).length:=hk2
    show ((n.log++[x]).getD k default).term=_
    by_cases e:k<n.log.length
    ·rw [<- za7 hpre (by omega)]
     exact h.H.hi _ _ y1 k hk (by omega)
    ·have e:k=n.log.length:=by omega
     rw [e]
     simp [List.getD,hx]
   ·exact h.H.hi _ _ h1 k hk hk2
  ·rcases hel t z hz with ⟨rfl,rfl⟩ | ⟨_,h1⟩
   ·exact hex.val (h.H.val n.term y y1)
   ·exact hex.val (h.H.val _ _ h1)
 have htk:∀ k,k<=n.log.length->(n.log++[x]).take k=y.l.take k:=fun k hk=>by rw [y3,List.take_append_of_le_length hk]
 refine ⟨g.setE n.term ⟨y.id,y.e,n.log++[x],y.q⟩,?_,hex,?_,fun t z h=>(hel t z h).elim (fun h=> .inr (by rw [h.2])) fun h=> .inl ⟨z,h.2,rfl⟩⟩
 ·refine ⟨hH,fun t z hz k hk hk2 hk3=>?_,⟨fun c hc=>?_⟩,h.A,h.ack,fun c u z hc hz ht=>?_,fun u t q hk=>?_,fun t z hz=>?_,fun u t c q b hv=>?_,fun u t c q b hv t0 a hk ht p hp hcc=>?_,h.vone,fun u t c q hv=>?_,fun t c e hd=>?_,h.done⟩
  ·rcases hel t z hz with ⟨rfl,rfl⟩ | ⟨_,h1⟩
   ·have hk:y.e.length<=k:=hk
    have hk2:k<(n.log++[x]).length:=hk2
    have hk3:((n.log++[x]).getD k default).kind=2:=hk3
    show zha g.C adj c0 n.term (n.log++[x]) k
    by_cases e:k<n.log.length
    ·rw [<- za7 hpre (by omega)] at hk3
     have hold:=h.L _ _ y1 k hk (by omega) hk3
     unfold zha at hold ⊢
     have hcf:=zbX (y.l.take k)
     rw [List.length_take] at hcf
     rw [htk k (by omega),htk (k+1) (by omega),htk (zaS (y.l.take k)) (by omega)]
     exact hold
    ·have e:k=n.log.length:=by omega
     subst e
     refine hc ?_
     simpa [List.getD] using hk3
   ·exact h.L _ _ h1 k hk hk2 hk3
  ·obtain ⟨z,a1,a2,a3,a4⟩:=h.M.ok c hc
   obtain ⟨z',b1,_,_,b4,_⟩:=hex.el _ _ a1
   exact ⟨z',b1,a2,a3.trans b4,a4⟩
  ·rcases hel u z hz with ⟨rfl,rfl⟩ | ⟨_,h1⟩
   ·exact h.one c _ y hc y1 ht
   ·exact h.one c u z hc h1 ht
  ·obtain ⟨z,a1,a2⟩:=h.K _ _ _ hk
   obtain ⟨z',b1,_,_,b4,_⟩:=hex.el _ _ a1
   exact ⟨z',b1,a2.trans b4⟩
  ·rcases hel t z hz with ⟨rfl,rfl⟩ | ⟨_,h1⟩
   ·exact h.cand n.term y y1
   ·exact h.cand _ _ h1
  ·obtain ⟨a1,a2,a3⟩:=h.vote _ _ _ _ _ hv
   exact ⟨a1,a2,hex.val a3⟩
  ·refine h.keep _ _ _ _ _ hv t0 a hk ht p hp fun w z hz h1 h2=>?_
   obtain ⟨z',b1,_,b3,_⟩:=hex.el _ _ hz
   rw [<- b3];exact hcc w z' b1 h1 h2
  ·obtain ⟨z,a1⟩:=h.late _ _ _ _ hv
   obtain ⟨z',b1,_⟩:=hex.el _ _ a1
   exact ⟨z',b1⟩
  ·obtain ⟨a1,a2,a3⟩:=h.D _ _ _ hd
   exact ⟨hex.val a1,a2,a3⟩
 ·have hset:(g.setE n.term ⟨y.id,y.e,n.log++[x],y.q⟩).el n.term=some ⟨y.id,y.e,n.log++[x],y.q⟩:=by
   show (if n.term=n.term then _ else _)=_
   rw [if_pos rfl]
  refine ⟨by rw [e3];exact hH.led hset,by rw [e1];exact hn.one,fun k hk=>?_,by rw [e1,e2];exact hn.V,by rw [e1,e2];exact hn.W,by rw [e1];exact hn.D,fun t a hk=>?_,by rw [e3,e4,hlen];have:=hn.com;omega,?_,fun hr=>by omega,fun _=>?_⟩
  ·rw [e3] at hk ⊢
   rw [e1]
   by_cases e:k<n.log.length
   ·have:=hn.hi k e
    have e9:=za7 (List.prefix_append n.log [x]) (k:=k) e
    rw [<- e9]
    exact this
   ·have e:k=n.log.length:=by omega
    rw [e]
    simp [List.getD,hx]
  ·obtain ⟨a1,a2⟩:=hn.K t a hk
   refine ⟨by rw [e1];exact a1,fun p hp hcc=>?_⟩
   rw [e3]
   refine (a2 p hp fun w z hz h1 h2=>?_).trans (List.prefix_append _ _)
   obtain ⟨z',b1,_,b3,_⟩:=hex.el _ _ hz
   rw [<- b3];exact hcc w z' b1 h1 (by rw [e1];exact h2)
  ·rw [e3,e4,e1,List.take_append_of_le_length hn.com]
   exact hn.sure
  ·exact ⟨⟨y.id,y.e,n.log++[x],y.q⟩,by rw [e1];exact hset,y2,by rw [e3],by rw [e6,e1];exact y4⟩
theorem znl (h:GI adj maj c0 g) (hn:NI g v n) {q:za0} {x:El} (hx:g.el n.term=some x) (hq:q <+: x.l) (hl:q <+: n.log):∃ g',GI adj maj c0 g'/\Ext v g g'/\NI g' v n/\g'.el=g.el/\g'.K v n.term q:=by
 refine ⟨g.addK v n.term q,?_,Ext.addK ..,?_,rfl,.inr ⟨rfl,rfl,rfl⟩⟩
 ·refine ⟨h.H,h.L,h.M,h.A,fun c hc w hw=>?_,h.one,fun u t a hk=>?_,h.cand,h.vote,fun u t c a b hv t0 a' hk ht p hp hcc=>?_,h.vone,h.late,h.D,h.done⟩
  ·obtain ⟨a,a1,a2⟩:=h.ack c hc w hw
   exact ⟨a,.inl a1,a2⟩
  ·rcases hk with hk | ⟨rfl,rfl,rfl⟩
   ·exact h.K _ _ _ hk
   ·exact ⟨x,hx,hq⟩
  ·rcases hk with hk | ⟨rfl,rfl,rfl⟩
   ·exact h.keep _ _ _ _ _ hv t0 a' hk ht p hp hcc
   ·have:=hn.V _ _ _ _ hv
    omega
 ·refine ⟨hn.val,hn.one,hn.hi,hn.V,hn.W,hn.D,fun t a hk=>?_,hn.com,hn.sure,hn.cand,fun hr=>?_⟩
  ·rcases hk with hk | ⟨_,rfl,rfl⟩
   ·exact hn.K t a hk
   ·exact ⟨Int.le_refl _,fun p hp _=>hp.trans hl⟩
  ·obtain ⟨y,a1,a2,a3,a4⟩:=hn.led hr
   refine ⟨y,a1,a2,a3,fun p hp=>?_⟩
   rcases a4 p hp with b | ⟨r,b1,b2⟩
   ·exact .inl b
   ·exact .inr ⟨r,.inl b1,b2⟩
theorem zlE (h:GI adj maj c0 g) (meet:∀ a b A B,zlN adj a b->maj a A->maj b B->∃ v,v∈A/\v∈B) (hn:NI g v n) (hr:n.role=4) {k:Nat} (hk0:0<k) (hk:k<=n.log.length) (ht:(n.log.getD (k-1) default).term=n.term) {A:List Int} (hA:maj (cfg0 c0 n.log) A)
  (hall:∀ w,w∈A->w=v\/∃ p,p∈n.mat/\p.1=w/\k<=p.2)
  {n':AN} (e1:n'.term=n.term) (e2:n'.vote=n.vote) (e3:n'.log=n.log) (e4:n'.com=k) (e5:n'.role=4) (e6:n'.mat=n.mat) (e7:n'.yes=n.yes) :
  ∃ g',GI adj maj c0 g'/\Ext v g g'/\NI g' v n'/\g'.el=g.el:=by
 obtain ⟨y,y1,y2,y3,y4⟩:=hn.led hr
 obtain ⟨g1,h1,x1,hn1,hel1,hk1⟩:=znl h hn y1 (q:=n.log) (by rw [y3];exact List.prefix_refl _) (List.prefix_refl _)
 obtain ⟨z,z1,z2,z3,z4⟩:=hn1.led hr
 have hlk:(n.log.take k).length=k:=by rw [List.length_take];omega
 have hlast:zbw (n.log.take k)=n.term:=by
  rw [zbl (by omega),hlk,za7 (zar n.log k) (by omega)]
  exact ht
 have hM:CmOk g1.el (g1.addC ⟨n.term,n.log.take k,n.log,A⟩).C:=by
  refine ⟨fun c hc=>?_⟩
  rcases hc with hc | rfl
  ·exact h1.M.ok c hc
  ·exact ⟨z,z1,zar _ _,by rw [z3];exact List.prefix_refl _,by show 0<(n.log.take k).length;omega,hlast⟩
 have hL:Laid g1.el (g1.addC ⟨n.term,n.log.take k,n.log,A⟩).C adj c0:=by
  intro t x hx j hj hj2 hj3
  obtain ⟨⟨c,a1,a2⟩,b,d⟩:=h1.L t x hx j hj hj2 hj3
  refine ⟨⟨c,.inl a1,a2⟩,?_,d⟩
  rcases b with b | ⟨c,b1,b2⟩
  ·exact .inl b
  ·exact .inr ⟨c,.inl b1,b2⟩
 have hAA:∀ c,(g1.addC ⟨n.term,n.log.take k,n.log,A⟩).C c->maj (cfg0 c0 c.l) c.a:=by
  intro c hc
  rcases hc with hc | rfl
  ·exact h1.A c hc
  ·exact hA
 have hack:∀ c,(g1.addC ⟨n.term,n.log.take k,n.log,A⟩).C c->∀ w,w∈c.a->∃ q,g1.K w c.t q/\c.p <+: q:=by
  intro c hc w hw
  rcases hc with hc | rfl
  ·exact h1.ack c hc w hw
  ·rcases hall w hw with rfl | ⟨p,p1,p2,p3⟩
   ·exact ⟨n.log,hk1,zar _ _⟩
   ·rcases z4 p p1 with q | ⟨q,q1,q2⟩
    ·omega
    ·obtain ⟨z',b1,b2⟩:=h1.K _ _ _ q1
     rw [z1] at b1
     simp only [Option.some.injEq] at b1
     subst b1
     rw [p2] at q1
     refine ⟨q,q1,zb8 (c:=z.l) (by rw [z3];exact zar _ _) b2 ?_⟩
     show (n.log.take k).length<=_
     omega
 -- later leaders have it
 have hone:∀ m:Nat,∀ c u x,(g1.addC ⟨n.term,n.log.take k,n.log,A⟩).C c->g1.el u=some x->c.t<u->u.toNat=m->c.p <+: x.e:=by
  intro m
  induction m using Nat.strongRecOn with
  | _ m ih=>
  intro c u x hc hx hcu hm
  have hu2:=h1.H.two _ _ hx
  obtain ⟨a1,a2,a3⟩:=h1.cand _ _ hx
  obtain ⟨d1,d2,d3⟩:=h1.D _ _ _ a1
  refine zmY h1.H hL hM meet d1 d2 a2 hAA (fun c u' x' hc hx' g1' g2=>?_) (fun c hc hct w w1 w2=>?_) c hc hcu
  ·have:=h1.H.two _ _ hx'
   exact ih u'.toNat (by omega) c u' x' hc hx' g1' rfl
  ·obtain ⟨q,k1,k2⟩:=hack c hc w w1
   obtain ⟨p,hv⟩:=a3 w w2
   obtain ⟨_,⟨e',b1,b2⟩,b3⟩:=h1.vote _ _ _ _ _ hv
   have ee:=h1.done _ _ _ _ b1 a1
   rw [ee] at b2
   have hc2:∀ u' x',g1.el u'=some x'->c.t<u'->u'<u->c.p <+: x'.e:=fun u' x' hx' q1 q2=>by
    have:=h1.H.two _ _ hx'
    exact ih u'.toNat (by omega) c u' x' hc hx' q1 rfl
   have hkp:=h1.keep _ _ _ _ _ hv _ _ k1 hct c.p k2 fun u' x' hx' q1 q2=>hc2 u' x' hx' q1 (by
    rcases q2 with q2 | ⟨q2,_⟩
    ·exact q2
    ·cases q2)
   obtain ⟨_,_,_,_,p4,p5⟩:=hM.ok c hc
   exact zjI h1.H d1 b3 d2 b2 hkp p4 p5 hc2
 have hx2:=Ext.addC v g1 ⟨n.term,n.log.take k,n.log,A⟩
 refine ⟨g1.addC ⟨n.term,n.log.take k,n.log,A⟩,?_,x1.trans hx2,?_,hel1⟩
 ·exact ⟨h1.H,hL,hM,hAA,hack,fun c u x hc hx ht=>hone _ c u x hc hx ht rfl,h1.K,h1.cand,h1.vote,h1.keep,h1.vone,h1.late,h1.D,h1.done⟩
 ·refine ⟨by rw [e3];exact hn1.val,by rw [e1];exact hn1.one,by rw [e3,e1];exact hn1.hi,by rw [e1,e2];exact hn1.V,by rw [e1,e2];exact hn1.W,by rw [e1];exact hn1.D,by rw [e1,e3];exact hn1.K,by rw [e3,e4];exact hk,?_,fun hr=>by omega,fun _=>?_⟩
  ·rw [e1,e3,e4]
   exact .inr ⟨⟨n.term,n.log.take k,n.log,A⟩,.inr rfl,Int.le_refl _,List.prefix_refl _⟩
  ·rw [e1,e3,e6]
   exact hn1.led hr
theorem zia (h:GI adj maj c0 g) (hn:NI g v n) {q:za0} {x:El} (hx:g.el n.term=some x) (hq:q <+: x.l) (hno:¬ q <+: n.log) {n':AN} (e1:n'.term=n.term) (e2:n'.vote=n.vote) (e3:n'.log=q) (e4:n'.com=n.com) (e5:n'.role=1):NI g v n'/\n.log.take n.com <+: q:=by
 have hsure:n.log.take n.com <+: x.l:=by
  rcases hn.sure with a | ⟨c,a1,a2,a3⟩
  ·rw [a];simp
  ·exact a3.trans (zmh h.H h.L h.M h.one a1 hx a2)
 have hcq:n.log.take n.com <+: q:=by
  rcases Nat.le_total (n.log.take n.com).length q.length with g1 | g1
  ·exact zb8 hsure hq g1
  ·exact absurd ((zb8 hq hsure g1).trans (zar _ _)) hno
 have hcl:(n.log.take n.com).length=n.com:=by have:=hn.com;rw [List.length_take];omega
 have hcq2:=zaH hcq
 have hvq:Val g.el q:=(h.H.led hx).pre hq
 refine ⟨⟨by rw [e3];exact hvq,by rw [e1];exact hn.one,fun k hk=>?_,by rw [e1,e2];exact hn.V,by rw [e1,e2];exact hn.W,by rw [e1];exact hn.D,fun t a hk=>?_,by rw [e3,e4];omega,?_,fun hr=>by omega,fun hr=>by omega⟩,hcq⟩
 ·rw [e3] at hk ⊢
  rw [e1,za7 hq hk]
  have hxl:=zaH hq
  by_cases g1:k<x.e.length
  ·have:=h.H.lo _ _ hx k g1
   rw [za7 (h.H.pre _ _ hx) g1] at this
   omega
  ·rw [h.H.hi _ _ hx k (by omega) (by omega)]
   exact Int.le_refl _
 ·obtain ⟨a1,a2⟩:=hn.K t a hk
  refine ⟨by rw [e1];exact a1,fun p hp hcc=>?_⟩
  rw [e3]
  rw [e1] at hcc
  have hpl:=a2 p hp hcc
  have hpx:p <+: x.l:=by
   rcases Int.lt_or_le t n.term with g1 | g1
   ·exact (hcc _ x hx g1 (Int.le_refl _)).trans (h.H.pre _ _ hx)
   ·have:t=n.term:=by omega
    subst this
    obtain ⟨z,b1,b2⟩:=h.K _ _ _ hk
    rw [hx] at b1
    simp only [Option.some.injEq] at b1
    subst b1
    exact hp.trans b2
  rcases Nat.le_total p.length q.length with g1 | g1
  ·exact zb8 hpx hq g1
  ·exact absurd ((zb8 hq hpx g1).trans hpl) hno
 ·rw [e3,e4,e1]
  have e:q.take n.com=n.log.take n.com:=by
   have:=zbq hcq
   rw [hcl] at this
   exact this.symm
  rw [e]
  exact hn.sure
end
end Ag
end Go.Proofs.YtkhphiahindnnaaGreat
