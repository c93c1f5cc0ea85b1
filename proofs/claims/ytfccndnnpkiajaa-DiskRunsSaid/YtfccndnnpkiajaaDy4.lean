/- Parts of the proof, joined: the symbolic walk and what it is told of each function. Condition: as each theorem says. -/
import Derived.Lib.Bytealg
import Derived.Lib.Strings
import Derived.Deep.RegionHeld3
import Derived.Deep.RegionLaw
import Derived.StillTailTactics
import Derived.Maps.RangeWalk
import Derived.Laws.CopyRow
import Derived.Shelf.SlIter.Nil
import Derived.Shelf.SortM.Plain
import Derived.Shelf.SortM.SortNone
import Derived.Shelf.SlMaps.Clone
import Derived.Ground.GgzProg
import Derived.Ground.SlgmProg
import Derived.Ground.SlmcProg
import Derived.Test.YtfccndnnpkiajaaProg
import Derived.OwnWalkIn
import Derived.TacticsInMore
import Derived.Deep.DeepCutAuto
import Derived.Deep.CutRange
import Derived.Test.YtfccndnnpkiajaaDy3
set_option linter.unusedVariables false
set_option linter.unusedSimpArgs false
set_option linter.unusedSectionVars false
namespace Go.Proofs.Ytfccndnnpkiajaa
open Go.RowKit Go.ChangeShapes Go.WideShapes Go.Deep
set_option maxRecDepth 100000
theorem zlY (c:Int):zac (zac (zac (decide (c<97)) true (decide (c>122))) (zac (decide (c<48)) true (decide (c>57))) false) (c != 95) false=!nmB c:=by
 have o:∀ a b:Bool,zac a true b=(a||b):=fun a b=>by cases a<;>rfl
 have n:∀ a b:Bool,zac a b false=(a&&b):=fun a b=>by cases a<;>rfl
 rw [n,n,o,o,Bool.eq_iff_iff]
 unfold nmB
 simp only [Bool.and_eq_true,Bool.or_eq_true,Bool.not_eq_true',decide_eq_true_eq,bne_iff_ne,Bool.or_eq_false_iff,Bool.and_eq_false_iff,decide_eq_false_iff_not,beq_eq_false_iff_ne]
 omega
theorem zgC (s:ByteArray):FnC Try.prog 61 [dStr.can s] (.bool (zaT s)) D2:=by
 refine FnG.of_vc (zax zas fun _=>none) Try.func61 rfl (by decide) rfl 300 (p:=fun (V:List PE→Prop)=>let v0:=(0:Int);let v1:=(↑(ByteArray.size s):Int);let v2:=sGet s v0;let v3:=decide (v1<1);let v4:=zac v3 true (decide (v1>16));let v5:=zac v4 true (decide (v2<97));let v6:=zac v5 true (decide (v2>122));True∧(((!v3)=true→(!v3)=true)∧((!v3)=true→(!v3)=true)∧(v3=false→(!v3)=true)∧((!v4)=true→(!v4)=true)∧((!v4)=true→v0≤v0)∧((!v4)=true→v0<v1)∧((!v4)=true→(!v4)=true)∧(v4=false→(!v4)=true)∧((!v5)=true→(!v5)=true)∧((!v5)=true→v0≤v0)∧((!v5)=true→v0<v1)∧((!v5)=true→(!v5)=true)∧(v5=false→(!v5)=true)∧True)∧True∧(v6=true→True∧false=zaT s∧True)∧(v6=false→True∧V [PE.b])) (by kernel_rfl) ?_
 intros
 have hb:∀ {b:Bool},b=false→(!b)=true:=fun h=>by rw [h];rfl
 have h00:(0:Int)≤0:=Int.le_refl 0
 have hsz:(!zac (decide ((s.size:Int)<1)) true (decide ((s.size:Int)>16)))=true→(0:Int)<(s.size:Int):=fun h=>by
  have h:zac (decide ((s.size:Int)<1)) true (decide ((s.size:Int)>16))=false:=by simpa using h
  have:=of_decide_eq_false (zbz h).1
  omega
 have hsz2:(!zac (zac (decide ((s.size:Int)<1)) true (decide ((s.size:Int)>16))) true (decide (sGet s 0<97)))=true→(0:Int)<(s.size:Int):=fun h=>by
  have h:zac (zac (decide ((s.size:Int)<1)) true (decide ((s.size:Int)>16))) true (decide (sGet s 0<97))=false:=by simpa using h
  exact hsz (hb (zbz h).1)
 refine ⟨trivial,⟨id,id,hb,id,fun _=>h00,hsz,id,hb,id,fun _=>h00,hsz2,id,hb,trivial⟩,trivial,fun h=>⟨trivial,?_,trivial⟩,fun h=>⟨trivial,?_⟩⟩
 ·have hh:(decide (1≤s.size)&&decide (s.size≤16)&&(decide (97≤sGet s 0)&&decide (sGet s 0≤122)))=false:=by
   rw [Bool.eq_false_iff]
   intro hc
   simp only [Bool.and_eq_true,decide_eq_true_eq] at hc
   rcases zbU h with h | h
   ·rcases zbU h with h | h
    ·rcases zbU h with h | h
     ·have:(s.size:Int)<1:=of_decide_eq_true h
      omega
     ·have:(s.size:Int)>16:=of_decide_eq_true h
      omega
    ·have:sGet s 0<97:=of_decide_eq_true h
     omega
   ·have:sGet s 0>122:=of_decide_eq_true h
    omega
  unfold zaT
  rw [hh]
  rfl
 ·obtain ⟨h,g4⟩:=zbz h
  obtain ⟨h,g3⟩:=zbz h
  obtain ⟨g1,g2⟩:=zbz h
  replace g1:¬ (s.size:Int)<1:=of_decide_eq_false g1
  replace g2:¬ (s.size:Int)>16:=of_decide_eq_false g2
  replace g3:¬ sGet s 0<97:=of_decide_eq_false g3
  replace g4:¬ sGet s 0>122:=of_decide_eq_false g4
  have hn:zaT s=(List.range s.size).all fun i=>nmB (sGet s i):=by
   unfold zaT
   rw [decide_eq_true (by omega),decide_eq_true (by omega),decide_eq_true (by omega),decide_eq_true (by omega)]
   rfl
  rw [hn]
  refine LoopG.head (zax zas fun _=>none) 0 (A:=Nat) (fun j=>j≤s.size∧∀ i,i<j→nmB (sGet s i)=true) (fun j=>[(3,.int .i64 j),(2,.bool false)]) (fun _=>[]) (fun j=>s.size-j) 0 ⟨Nat.zero_le _,fun i h=>absurd h (Nat.not_lt_zero _)⟩ (p0:=(0:Int)=(↑(0:Nat):Int)∧false=false∧s=s∧True) (by kernel_rfl) ?_ 300 (p:=fun (z:Nat) (V:List PE→Prop)=>let v0:=(↑z:Int);let v1:=(↑(ByteArray.size s):Int);let v2:=sGet s v0;let v3:=List.all (List.range (ByteArray.size s)) fun (i:Nat)=>nmB (sGet s (↑i:Int));let v4:=decide (v0<v1);let v5:=decide (v2<48);let v6:=decide (v2<97);let v7:=zac v6 true (decide (v2>122));let v8:=zac v7 (zac v5 true (decide (v2>57))) false;let v9:=zac v8 (v2 != 95) false;True∧True∧(v4=true→((0:Int)≤v0∧v0<v1∧((!v6)=true→(!v6)=true)∧((!v6)=true→(!v6)=true)∧((!v6)=true→(0:Int)≤v0)∧((!v6)=true→v0<v1)∧((!v6)=true→(!v6)=true)∧(v6=false→(!v6)=true)∧(v7=true→v7=true)∧(v7=true→v7=true)∧(v7=true→(0:Int)≤v0)∧(v7=true→v0<v1)∧(v7=true→v7=true)∧(v7=true→v7=true)∧((v7&&!v5)=true→(v7&&!v5)=true)∧((v7&&!v5)=true→(v7&&!v5)=true)∧((v7&&!v5)=true→(0:Int)≤v0)∧((v7&&!v5)=true→v0<v1)∧((v7&&!v5)=true→(v7&&!v5)=true)∧(v7=true→v7=true)∧(v7=true→v5=false→(v7&&!v5)=true)∧(v7=true→v7=true)∧(v8=true→v8=true)∧(v8=true→v8=true)∧(v8=true→(0:Int)≤v0)∧(v8=true→v0<v1)∧(v8=true→v8=true)∧(v8=true→v8=true)∧True)∧True∧(v9=true→True∧false=v3∧True)∧(v9=false→True∧V [PE.a,PE.b]))∧(v4=false→True∧true=v3∧True)) (by intro z;kernel_rfl) ?_
  ·intros
   repeat' apply And.intro
   all_goals first | trivial | rfl
  rintro j ⟨hj,h0⟩
  have b1:(0:Int)≤(j:Int):=Int.natCast_nonneg j
  intros
  refine ⟨trivial,trivial,fun h4=>?_,fun h4=>⟨trivial,?_,trivial⟩⟩
  ·have b2:(j:Int)<(s.size:Int):=of_decide_eq_true h4
   have e:=zb2 (i:=j) (by omega)
   refine ⟨?_,trivial,fun h9=>⟨trivial,?_,trivial⟩,fun h9=>⟨trivial,?_⟩⟩
   ·repeat' apply And.intro
    all_goals first | exact trivial | exact b1 | exact b2 | exact id | exact fun _=>b1 | exact fun _=>b2 | exact hb | exact fun h g=>by rw [h,g];rfl
   ·have h9:=(zlY (sGet s (j:Int))).symm.trans h9
    have h9:nmB (sGet s (j:Int))=false:=by simpa using h9
    symm
    rw [List.all_eq_false]
    exact ⟨j,List.mem_range.2 (by omega),by rw [h9];decide⟩
   ·have h9:=(zlY (sGet s (j:Int))).symm.trans h9
    have h9:nmB (sGet s (j:Int))=true:=by simpa using h9
    refine Back.mk (j+1) ⟨by omega,fun i hi=>?_⟩ (by omega) (p0:=IntKind.wrap IntKind.i64 ((↑j:Int)+(1:Int))=(↑(j+(1:Nat)):Int)∧false=false∧s=s∧True) (by kernel_rfl) ?_
    ·by_cases h:i=j
     ·rw [h];exact h9
     ·exact h0 i (by omega)
    ·intros
     repeat' apply And.intro
     all_goals first | trivial | exact e | rfl
  ·have hj':j=s.size:=by
    have:¬ (j:Int)<(s.size:Int):=of_decide_eq_false h4
    omega
   subst hj'
   symm
   rw [List.all_eq_true]
   intro i hi
   exact h0 i (List.mem_range.1 hi)
noncomputable def zjl:Ent:=ent1 61 dStr fun s=>([],.bool (zaT s),D2)
theorem zfD:zar Try.prog zjl:=zbt (zgC default).1 fun s _=>zgC s
def rdCs (ls:List Nat) (d:RDisk) (q:Nat):List SV:=[.int .i64 d.room,.sl ls (.rFile d.lasts),.own q,.bool d.down,.bool d.stops,.int .i64 d.left]
def rdMi (d:RDisk):List BE:=[.dead,.dead,.cells 78 (rdCs [0] d 3),.row 92 [0] (.rDChange d.changes)]
def rdMo (d:RDisk):List BE:=[.dead,.dead,.cells 78 (rdCs [0,1] d 4),.dead,.row 92 [0,1] (.rDChange d.changes)]
def mRD:Mem RDisk where
 mi:=rdMi
 dec:=fun m=>match m with
  | [.dead,.dead,.cells 78 [.int .i64 room,.sl [0] (.rFile la),.own 3,.bool down,.bool stops,.int .i64 left],.row 92 [0] (.rDChange ch)]=>some ⟨room,la,ch,down,stops,left⟩
  | _=>none
 ok:=by
  intro m x h
  split at h
  ·simp only [Option.some.injEq] at h;subst h;rfl
  ·simp at h
def vrD:List (Nat×TypeId×RL):=[(2,92,.rDChange [])]
def DOk (d:RDisk):Prop:=∀ j,j<d.changes.length→ChOk ((d.changes.take j).foldl zad d.lasts) (d.changes.getD j default)
noncomputable def tabDb:List Ent:=[zkM,zhD,zjl]
theorem zdx:∀ e∈tabDb,zar Try.prog e:=zah zeS (zah zcN (zah zfD zas))
theorem zim (d:RDisk) (hk:DOk d) (hl:d.changes.length≤100000):FnG Try.prog 59 1 (rdMi d) [.ptr 2 0] (.sl [0,1] (.rFile (zaa d))) (rdMi d):=by
 refine FnG.of_vc (zax zdx fun _=>none) Try.func59 rfl (by decide) rfl 300 (p:=fun (V:List PE→Prop)=>True∧True∧True∧V []) (by kernel_rfl) ?_
 simp only [true_and]
 refine LoopG.head (zax zdx fun _=>none) 0 (A:=Nat) (fun j=>j≤d.changes.length) (fun j=>[(4,.int .i64 j),(3,.sl [0,901] (.rFile ((d.changes.take j).foldl zad d.lasts)))]) (fun _=>[(901,.dead)]) (fun j=>d.changes.length-j) 0 (Nat.zero_le _) (p0:=let v0:=RDisk.changes d;let v1:=RDisk.lasts d;(0:Int)=(↑(0:Nat):Int)∧v1=List.foldl zad v1 (List.take (0:Nat) v0)∧RDisk.room d=RDisk.room d∧v1=v1∧RDisk.down d=RDisk.down d∧RDisk.stops d=RDisk.stops d∧RDisk.left d=RDisk.left d∧v0=v0∧True) (by kernel_rfl) ?_ 300 (p:=fun (z:Nat) (V:List PE→Prop)=>let v0:=RDisk.lasts d;let v1:=RDisk.changes d;let v2:=(↑z:Int);let v3:=v1.length;let v4:=(↑v3:Int);let v5:=List.foldl zad v0 (List.take z v1);let v6:=decide (v2<v4);True∧True∧(v6=true→((0:Int)≤v2∧v2<v4∧z<v3∧ChOk v5 (List.getD v1 z default)∧True)∧True∧V [PE.a])∧(v6=false→True∧v5=zaa d∧RDisk.room d=RDisk.room d∧v0=v0∧RDisk.down d=RDisk.down d∧RDisk.stops d=RDisk.stops d∧RDisk.left d=RDisk.left d∧v1=v1∧True)) (by intro z;kernel_rfl) ?_
 ·intros
  repeat' apply And.intro
  all_goals first | trivial | rfl
 rintro j hj
 have hj:j≤d.changes.length:=hj
 intros
 refine ⟨trivial,trivial,fun h=>?_,fun h=>⟨trivial,?_,rfl,rfl,rfl,rfl,rfl,rfl,trivial⟩⟩
 ·have b2:(j:Int)<(d.changes.length:Int):=of_decide_eq_true h
  have e:=zb2 (i:=j) (by omega)
  have er:(d.changes.take (j+1)).foldl zad d.lasts=zad ((d.changes.take j).foldl zad d.lasts) (d.changes.getD j default):=by
   rw [za5 (d:=default) (by omega),List.foldl_append];rfl
  refine ⟨⟨Int.natCast_nonneg _,b2,by show j<d.changes.length;omega,hk j (by omega),trivial⟩,trivial,?_⟩
  refine Back.mk (j+1) (by show j+1≤d.changes.length;omega) (by show d.changes.length-(j+1)<d.changes.length-j;omega) (p0:=let v0:=RDisk.changes d;let v1:=RDisk.lasts d;IntKind.wrap IntKind.i64 ((↑j:Int)+(1:Int))=(↑(j+(1:Nat)):Int)∧zad (List.foldl zad v1 (List.take j v0)) (List.getD v0 j default)=List.foldl zad v1 (List.take (j+(1:Nat)) v0)∧RDisk.room d=RDisk.room d∧v1=v1∧RDisk.down d=RDisk.down d∧RDisk.stops d=RDisk.stops d∧RDisk.left d=RDisk.left d∧v0=v0∧True) (by kernel_rfl) ?_
  intros
  repeat' apply And.intro
  all_goals first | trivial | exact e | exact er.symm | rfl
 ·have hj':j=d.changes.length:=by
   have:¬ (j:Int)<(d.changes.length:Int):=of_decide_eq_false h
   omega
  subst hj'
  show (d.changes.take d.changes.length).foldl zad d.lasts=zaa d
  rw [List.take_length]
  rfl
noncomputable def zlT:Ent:=zmU 59 1 mRD vrD [0] [0,0] fun d=>([DOk d,d.changes.length≤100000],.sl [0,1] (.rFile (zaa d)),rdMi d)
theorem zjq:zar Try.prog zlT:=zgU (fnB Try.func59 (by decide) rfl) fun d h=>zim d (h (DOk d) (by simp)) (h (d.changes.length≤100000) (by simp))
theorem zkk (d:RDisk):FnG Try.prog 64 1 (rdMi d) [.ptr 2 0] (.tup []) (rdMi (zbh d)):=by
 refine FnG.of_vc (zax zas fun _=>none) Try.func64 rfl (by decide) rfl 300 (p:=fun (V:List PE→Prop)=>let v0:=RDisk.stops d;let v1:=zbh d;let v2:=IntKind.wrap IntKind.i64 (RDisk.left d-(1:Int));True∧True∧zbc v0 (RDisk.room d) (RDisk.room d)=RDisk.room v1∧(if v0=true then RDisk.lasts d else RDisk.lasts d)=RDisk.lasts v1∧zac v0 (decide (v2≤0)) (RDisk.down d)=RDisk.down v1∧zac v0 v0 v0=RDisk.stops v1∧zbc v0 v2 (RDisk.left d)=RDisk.left v1∧RDisk.changes d=RDisk.changes v1∧True) (by kernel_rfl) ?_
 have p1:∀ b:Bool,∀ x:Int,zbc b x x=x:=fun b x=>by cases b<;>rfl
 have p2:∀ b c:Bool,zac b c c=c:=fun b c=>by cases b<;>rfl
 intros
 refine ⟨trivial,trivial,p1 _ _,?_,?_,p2 _ _,?_,rfl,trivial⟩
 ·show (if d.stops=true then d.lasts else d.lasts)=d.lasts
  split<;>rfl
 ·show zac d.stops _ d.down=(if d.stops then _ else d.down)
  cases d.stops<;>rfl
 ·show zbc d.stops _ d.left=(if d.stops then _ else d.left)
  cases d.stops<;>rfl
noncomputable def zjf:Ent:=zmU 64 1 mRD vrD [0] [0,0] fun d=>([],.tup [],rdMi (zbh d))
theorem zfC:zar Try.prog zjf:=zgU (fnB Try.func64 (by decide) rfl) fun d _=>zkk d
noncomputable def tabDc:List Ent:=[zjf]
theorem zjY:∀ e∈tabDc,zar Try.prog e:=zah zfC zas
theorem zhv (d:RDisk) (c:DChange) (hl:d.changes.length≤100000) (hc:c.bytes.length≤10000000):FnG Try.prog 63 1 (rdMi d) [.ptr 2 0,dDChange.can c] (.tup []) (rdMo (chgD d c)):=by
 refine FnG.of_vc (zax zjY fun _=>none) Try.func63 rfl (by decide) rfl 300 (p:=fun (V:List PE→Prop)=>let v0:=chgD d c;let v1:=List.length (DChange.bytes c);let v2:=zbh (RDisk.mk (RDisk.room d) (RDisk.lasts d) (RDisk.changes d++[c]) (RDisk.down d) (RDisk.stops d) (RDisk.left d));True∧True∧(((0:Nat)+v1)*(1024:Nat)≤140737488355328∧True)∧True∧(v1≤140737488355328∧(List.length (RDisk.changes d)+List.length [c])*(1024:Nat)≤140737488355328∧True)∧True∧RDisk.room v2=RDisk.room v0∧RDisk.lasts v2=RDisk.lasts v0∧RDisk.down v2=RDisk.down v0∧RDisk.stops v2=RDisk.stops v0∧RDisk.left v2=RDisk.left v0∧RDisk.changes v2=RDisk.changes v0∧True) (by kernel_rfl) ?_
 intros
 exact ⟨trivial,trivial,⟨by show (0+c.bytes.length)*1024≤_;omega,trivial⟩,trivial,⟨by show c.bytes.length≤_;omega,by show (d.changes.length+1)*1024≤_;omega,trivial⟩,trivial,rfl,rfl,rfl,rfl,rfl,rfl,trivial⟩
noncomputable def zom:Ent:=zgf 63 1 mRD dDChange vrD [0,0] [0,0] fun d c=>([d.changes.length≤100000,c.bytes.length≤10000000],.tup [],rdMo (chgD d c))
theorem zkO:zar Try.prog zom:=zck (fnB Try.func63 (by decide) rfl) fun d c h=>zhv d c (h (d.changes.length≤100000) (by simp)) (h (c.bytes.length≤10000000) (by simp))
structure BdD (d:RDisk):Prop where
 sub:∀ ks:List DChange,ks.Sublist d.changes→∀ c∈d.changes,ChOk (ks.foldl zad d.lasts) c
 cl:d.changes.length≤1000
 fl:(zaa d).length≤3000
 fb:∀ x∈zaa d,x.bytes.length≤4194304
 cb:∀ c∈d.changes,c.bytes.length≤4194304
theorem zaC {p:RDisk×Int} {X:RDisk} {r:Int} (h:p=(X,r)):r=p.2∧X.room=p.1.room∧X.lasts=p.1.lasts∧X.down=p.1.down∧X.stops=p.1.stops∧X.left=p.1.left∧X.changes=p.1.changes∧True:=by
 rw [h];exact ⟨rfl,rfl,rfl,rfl,rfl,rfl,rfl,trivial⟩
theorem BdD.ok {d:RDisk} (h:BdD d):DOk d:=fun j hj=>h.sub _ (List.take_sublist _ _) _ (zaX hj)
theorem BdD.cl5 {d:RDisk} (h:BdD d):d.changes.length≤100000:=by have:=h.cl;omega
theorem zbE {l:List File} {n:ByteArray} (h:¬ zaj l n<0):zaf l n=(l.getD (zaj l n).toNat default).bytes:=if_neg h
theorem zfM {l:List File} {n:ByteArray} (h:zaj l n<0):zaf l n=[]:=if_pos h
theorem zbb {l:List File} {n:ByteArray} {m:Nat} (h:∀ x∈l,x.bytes.length≤m):(zaf l n).length≤m:=by
 by_cases c:zaj l n<0
 ·rw [zfM c];exact Nat.zero_le _
 ·rw [zbE c]
  have:=zbj l n
  exact h _ (zaX (by omega))
noncomputable def tabDd:List Ent:=[zlT,zhD,zjl,zkM,zom,zjf,zgh,ePut]
theorem zbv:∀ e∈tabDd,zar Try.prog e:=zah zjq (zah zcN (zah zfD (zah zeS (zah zkO (zah zfC (zah zes (zah zgi zas)))))))
theorem zkl (d:RDisk) (hb:BdD d) (file:ByteArray):FnG Try.prog 46 1 (rdMi d) [.ptr 2 0,dStr.can file] (.tup [.sl [0,1] (.rBytes (zaw d file).1),.int .i64 (zaw d file).2]) (rdMi d):=by
 refine FnG.of_vc (zax zbv fun _=>none) Try.func46 rfl (by decide) rfl 300 (p:=fun (V:List PE→Prop)=>let v0:=RDisk.changes d;let v1:=zaj (zaa d) file;let v2:=(0:Int);let v3:=Prod.fst (zaw d file);let v4:=Prod.snd (zaw d file);let v5:=decide (v1<v2);True∧(DOk d∧v0.length≤100000∧True)∧True∧True∧True∧(v5=true→True∧v3=[]∧(122:Int)=v4∧RDisk.room d=RDisk.room d∧RDisk.lasts d=RDisk.lasts d∧RDisk.down d=RDisk.down d∧RDisk.stops d=RDisk.stops d∧RDisk.left d=RDisk.left d∧v0=v0∧True)∧(v5=false→(v2≤v1∧v1<(↑(List.length (zaa d)):Int)∧True)∧File.bytes (List.getD (zaa d) (Int.toNat v1) default)=v3∧v2=v4∧RDisk.room d=RDisk.room d∧RDisk.lasts d=RDisk.lasts d∧RDisk.down d=RDisk.down d∧RDisk.stops d=RDisk.stops d∧RDisk.left d=RDisk.left d∧v0=v0∧True)) (by kernel_rfl) ?_
 have hf:=zbj (zaa d) file
 intros
 refine ⟨trivial,⟨hb.ok,hb.cl5,trivial⟩,trivial,trivial,trivial,fun h=>?_,fun h=>?_⟩
 ·have h:zaj (zaa d) file<0:=of_decide_eq_true h
  have e:zaw d file=([],122):=by unfold zaw;rw [if_pos h]
  exact ⟨trivial,congrArg Prod.fst e,(congrArg Prod.snd e).symm,rfl,rfl,rfl,rfl,rfl,rfl,trivial⟩
 ·have h:¬ zaj (zaa d) file<0:=of_decide_eq_false h
  have e:zaw d file=(zaf (zaa d) file,0):=by unfold zaw;rw [if_neg h]
  exact ⟨⟨by show 0≤zaj (zaa d) file;omega,hf.2,trivial⟩,(zbE h).symm.trans (congrArg Prod.fst e).symm,(congrArg Prod.snd e).symm,rfl,rfl,rfl,rfl,rfl,rfl,trivial⟩
noncomputable def zlN:Ent:=zgf 46 1 mRD dStr vrD [0,0] [0,0] fun d n=>([BdD d],.tup [.sl [0,1] (.rBytes (zaw d n).1),.int .i64 (zaw d n).2],rdMi d)
theorem zji:zar Try.prog zlN:=zck (fnB Try.func46 (by decide) rfl) fun d n h=>zkl d (h (BdD d) (by simp)) n
theorem zkj (d:RDisk) (n:Int):FnG Try.prog 42 1 (rdMi d) [.ptr 2 0,dInt.can n] (.int .i64 (zby d n).2) (rdMo (zby d n).1):=by
 refine FnG.of_vc (zax zbv fun _=>none) Try.func42 rfl (by decide) rfl 300 (p:=fun (V:List PE→Prop)=>let v0:=RDisk.down d;let v1:=(0:Int);let v2:=(1000000000:Int);let v3:=Prod.snd (zby d n);let v4:=Prod.fst (zby d n);let v5:=RDisk.down v4;let v6:=RDisk.left v4;let v7:=RDisk.stops v4;let v8:=decide (n<v1);let v9:=zac v8 true (decide (n>v2));True∧True∧True∧(v0=true→True∧(120:Int)=v3∧RDisk.room d=RDisk.room v4∧RDisk.lasts d=RDisk.lasts v4∧v0=v5∧RDisk.stops d=v7∧RDisk.left d=v6∧RDisk.changes d=RDisk.changes v4∧True)∧(v0=false→(((!v8)=true→(!v8)=true)∧(v8=false→(!v8)=true)∧True)∧True∧(v9=true→True∧(1:Int)=v3∧RDisk.room d=RDisk.room v4∧RDisk.lasts d=RDisk.lasts v4∧v0=v5∧RDisk.stops d=v7∧RDisk.left d=v6∧RDisk.changes d=RDisk.changes v4∧True)∧(v9=false→True∧True∧True∧True∧v1=v3∧RDisk.room d=RDisk.room v4∧RDisk.lasts d=RDisk.lasts v4∧(n==v1)=v5∧true=v7∧n=v6∧RDisk.changes d=RDisk.changes v4∧True))) (by kernel_rfl) ?_
 intros
 refine ⟨trivial,trivial,trivial,fun h0=>⟨trivial,zaC (X:=d) ?_⟩,fun h0=>⟨⟨id,fun h=>by rw [h];rfl,trivial⟩,trivial,fun h9=>⟨trivial,zaC (X:=d) ?_⟩,fun h9=>⟨trivial,trivial,trivial,trivial,zaC (X:={d with stops:=true,left:=n,down:=n==0}) ?_⟩⟩⟩
 ·have h0:d.down=true:=h0
  unfold zby;rw [if_pos h0]
 ·have h0:d.down=false:=h0
  unfold zby
  rw [if_neg (by rw [h0];decide),if_pos]
  rcases zbU h9 with h | h
  ·exact .inl (of_decide_eq_true h)
  ·exact .inr (of_decide_eq_true h)
 ·have h0:d.down=false:=h0
  have h1:=zbz h9
  unfold zby
  rw [if_neg (by rw [h0];decide),if_neg]
  rintro (h | h)
  ·exact of_decide_eq_false h1.1 h
  ·exact of_decide_eq_false h1.2 h
noncomputable def zlK:Ent:=zgf 42 1 mRD dInt vrD [0,0] [0,0] fun d n=>([],.int .i64 (zby d n).2,rdMo (zby d n).1)
theorem zje:zar Try.prog zlK:=zck (fnB Try.func42 (by decide) rfl) fun d n _=>zkj d n
theorem zm2 (d:RDisk) (hb:BdD d) (file:ByteArray) (n:Int):FnG Try.prog 39 1 (rdMi d) [.ptr 2 0,dStr.can file,dInt.can n] (.int .i64 (cutD d file n).2) (rdMo (cutD d file n).1):=by
 refine FnG.of_vc (zax zbv fun _=>none) Try.func39 rfl (by decide) rfl 300 (p:=fun (V:List PE→Prop)=>let v0:=RDisk.down d;let v1:=zaj (zaa d) file;let v2:=(0:Int);let v3:=Prod.fst (cutD d file n);let v4:=Prod.snd (cutD d file n);let v5:=RDisk.changes v3;let v6:=RDisk.left v3;let v7:=RDisk.room v3;let v8:=RDisk.down v3;let v9:=RDisk.lasts v3;let v10:=RDisk.stops v3;let v11:=chgD d (DChange.mk (2:Int) file n []);let v12:=decide (n<v2);let v13:=(↑(List.length (File.bytes (List.getD (zaa d) (Int.toNat v1) default))):Int);let v14:=decide (v1<v2);let v15:=zac v12 true (decide (n>v13));True∧(DOk d∧List.length (RDisk.changes d)≤100000∧True)∧True∧True∧True∧(v0=true→True∧(120:Int)=v4∧RDisk.room d=v7∧RDisk.lasts d=v9∧v0=v8∧RDisk.stops d=v10∧RDisk.left d=v6∧RDisk.changes d=v5∧True)∧(v0=false→True∧True∧(v14=true→True∧(122:Int)=v4∧RDisk.room d=v7∧RDisk.lasts d=v9∧v0=v8∧RDisk.stops d=v10∧RDisk.left d=v6∧RDisk.changes d=v5∧True)∧(v14=false→(((!v12)=true→(!v12)=true)∧((!v12)=true→(!v12)=true)∧((!v12)=true→v2≤v1)∧((!v12)=true→v1<(↑(List.length (zaa d)):Int))∧((!v12)=true→(!v12)=true)∧((!v12)=true→(!v12)=true)∧((!v12)=true→(!v12)=true)∧((!v12)=true→(!v12)=true)∧((!v12)=true→(!v12)=true)∧(v12=false→(!v12)=true)∧True)∧True∧(v15=true→True∧(123:Int)=v4∧RDisk.room d=v7∧RDisk.lasts d=v9∧v0=v8∧RDisk.stops d=v10∧RDisk.left d=v6∧RDisk.changes d=v5∧True)∧(v15=false→(List.length (RDisk.changes d)≤100000∧(0:Nat)≤10000000∧True)∧True∧v2=v4∧RDisk.room v11=v7∧RDisk.lasts v11=v9∧RDisk.down v11=v8∧RDisk.stops v11=v10∧RDisk.left v11=v6∧RDisk.changes v11=v5∧True)))) (by kernel_rfl) ?_
 have hf:=zbj (zaa d) file
 have hbn:∀ {b:Bool},b=false→(!b)=true:=fun h=>by rw [h];rfl
 intros
 refine ⟨trivial,⟨hb.ok,hb.cl5,trivial⟩,trivial,trivial,trivial,fun h0=>⟨trivial,zaC (X:=d) ?_⟩,fun h0=>⟨trivial,trivial,fun h14=>⟨trivial,zaC (X:=d) ?_⟩,fun h14=>?_⟩⟩
 ·have h0:d.down=true:=h0
  unfold cutD;rw [if_pos h0]
 ·have h0:d.down=false:=h0
  unfold cutD;rw [if_neg (by rw [h0];decide),if_pos (of_decide_eq_true h14)]
 ·have h0:d.down=false:=h0
  have h14:¬ zaj (zaa d) file<0:=of_decide_eq_false h14
  have b1:0≤zaj (zaa d) file:=by omega
  have b2:=hf.2
  have eb:=zbE h14
  refine ⟨?_,trivial,fun h15=>⟨trivial,zaC (X:=d) ?_⟩,fun h15=>⟨⟨hb.cl5,Nat.zero_le _,trivial⟩,trivial,zaC (X:=chgD d ⟨2,file,n,[]⟩) ?_⟩⟩
  ·repeat' apply And.intro
   all_goals first | exact trivial | exact id | exact fun _=>b1 | exact fun _=>b2 | exact hbn | exact fun h g=>by rw [h,g];rfl
  ·unfold cutD
   rw [if_neg (by rw [h0];decide),if_neg h14,if_pos,]
   rw [eb]
   rcases zbU h15 with h | h
   ·exact .inl (of_decide_eq_true h)
   ·exact .inr (of_decide_eq_true h)
  ·have h1:=zbz h15
   unfold cutD
   rw [if_neg (by rw [h0];decide),if_neg h14,if_neg]
   rw [eb]
   rintro (h | h)
   ·exact of_decide_eq_false h1.1 h
   ·exact of_decide_eq_false h1.2 h
noncomputable def zol:Ent:=zmT 39 1 mRD dStr dInt vrD [0,0,0] [0,0] fun d n k=>([BdD d],.int .i64 (cutD d n k).2,rdMo (cutD d n k).1)
theorem zkN:zar Try.prog zol:=zgT (fnB Try.func39 (by decide) rfl) fun d n k h=>zm2 d (h (BdD d) (by simp)) n k
theorem zhs (d:RDisk) (hb:BdD d) (file:ByteArray):FnG Try.prog 40 1 (rdMi d) [.ptr 2 0,dStr.can file] (.int .i64 (rmD d file).2) (rdMo (rmD d file).1):=by
 refine FnG.of_vc (zax zbv fun _=>none) Try.func40 rfl (by decide) rfl 300 (p:=fun (V:List PE→Prop)=>let v0:=RDisk.down d;let v1:=zaj (zaa d) file;let v2:=(0:Int);let v3:=Prod.fst (rmD d file);let v4:=Prod.snd (rmD d file);let v5:=RDisk.stops v3;let v6:=RDisk.left v3;let v7:=RDisk.lasts v3;let v8:=RDisk.down v3;let v9:=RDisk.changes v3;let v10:=RDisk.room v3;let v11:=chgD d (DChange.mk (3:Int) file v2 []);let v12:=decide (v1<v2);True∧True∧True∧(v0=true→True∧(120:Int)=v4∧RDisk.room d=v10∧RDisk.lasts d=v7∧v0=v8∧RDisk.stops d=v5∧RDisk.left d=v6∧RDisk.changes d=v9∧True)∧(v0=false→(DOk d∧List.length (RDisk.changes d)≤100000∧True)∧True∧(v12=true→True∧(122:Int)=v4∧RDisk.room d=v10∧RDisk.lasts d=v7∧v0=v8∧RDisk.stops d=v5∧RDisk.left d=v6∧RDisk.changes d=v9∧True)∧(v12=false→(List.length (RDisk.changes d)≤100000∧(0:Nat)≤10000000∧True)∧True∧v2=v4∧RDisk.room v11=v10∧RDisk.lasts v11=v7∧RDisk.down v11=v8∧RDisk.stops v11=v5∧RDisk.left v11=v6∧RDisk.changes v11=v9∧True))) (by kernel_rfl) ?_
 intros
 refine ⟨trivial,trivial,trivial,fun h0=>⟨trivial,zaC (X:=d) ?_⟩,fun h0=>⟨⟨hb.ok,hb.cl5,trivial⟩,trivial,fun h12=>⟨trivial,zaC (X:=d) ?_⟩,fun h12=>⟨⟨hb.cl5,Nat.zero_le _,trivial⟩,trivial,zaC (X:=chgD d ⟨3,file,0,[]⟩) ?_⟩⟩⟩
 ·have h0:d.down=true:=h0
  unfold rmD;rw [if_pos h0]
 ·have h0:d.down=false:=h0
  unfold rmD;rw [if_neg (by rw [h0];decide),if_pos (of_decide_eq_true h12)]
 ·have h0:d.down=false:=h0
  unfold rmD;rw [if_neg (by rw [h0];decide),if_neg (of_decide_eq_false h12)]
noncomputable def eRmD:Ent:=zgf 40 1 mRD dStr vrD [0,0] [0,0] fun d n=>([BdD d],.int .i64 (rmD d n).2,rdMo (rmD d n).1)
theorem zna:zar Try.prog eRmD:=zck (fnB Try.func40 (by decide) rfl) fun d n h=>zhs d (h (BdD d) (by simp)) n
theorem zig (d:RDisk) (hb:BdD d) (file:ByteArray) (at_:Int) (b:List Int) (hl:b.length≤1000000):FnG Try.prog 38 1 (rdMi d) [.ptr 2 0,dStr.can file,dInt.can at_,dBytes.can b] (.int .i64 (wrD d file at_ b).2) (rdMo (wrD d file at_ b).1):=by
 refine FnG.of_vc (zax zbv fun _=>none) Try.func38 rfl (by decide) rfl 300 (p:=fun (V:List PE→Prop)=>let v0:=zaa d;let v1:=RDisk.down d;let v2:=zaj v0 file;let v3:=(0:Int);let v4:=Prod.fst (wrD d file at_ b);let v5:=Prod.snd (wrD d file at_ b);let v6:=decide (at_<v3);let v7:=decide (v2≥v3);let v8:=zbc v7 (↑(List.length (File.bytes (List.getD v0 (Int.toNat v2) default))):Int) v3;let v9:=zac v6 true (decide (at_>v8));True∧(DOk d∧List.length (RDisk.changes d)≤100000∧True)∧True∧True∧True∧((v7=true→v3≤v2)∧(v7=true→v2<(↑(v0.length):Int))∧True)∧True∧True∧(v1=true→True∧(120:Int)=v5∧RDisk.room d=RDisk.room v4∧RDisk.lasts d=RDisk.lasts v4∧v1=RDisk.down v4∧RDisk.stops d=RDisk.stops v4∧RDisk.left d=RDisk.left v4∧RDisk.changes d=RDisk.changes v4∧True)∧(v1=false→True∧True∧((!zaT file)=true→True∧(122:Int)=v5∧RDisk.room d=RDisk.room v4∧RDisk.lasts d=RDisk.lasts v4∧v1=RDisk.down v4∧RDisk.stops d=RDisk.stops v4∧RDisk.left d=RDisk.left v4∧RDisk.changes d=RDisk.changes v4∧True)∧((!zaT file)=false→(((!v6)=true→(!v6)=true)∧((!v6)=true→(!v6)=true)∧(v6=false→(!v6)=true)∧True)∧True∧(v9=true→True∧(123:Int)=v5∧RDisk.room d=RDisk.room v4∧RDisk.lasts d=RDisk.lasts v4∧v1=RDisk.down v4∧RDisk.stops d=RDisk.stops v4∧RDisk.left d=RDisk.left v4∧RDisk.changes d=RDisk.changes v4∧True)∧(v9=false→(ChOk v0 (DChange.mk (1:Int) file at_ b)∧True)∧True∧True∧V [PE.b,PE.b,PE.b])))) (by kernel_rfl) ?_
 have hf:=zbj (zaa d) file
 have hfl:=hb.fl
 have hbl:=zbb (n:=file) hb.fb
 have hbn:∀ {b:Bool},b=false→(!b)=true:=fun h=>by rw [h];rfl
 have e8:zbc (decide (zaj (zaa d) file≥0)) (((zaa d).getD (zaj (zaa d) file).toNat default).bytes.length:Int) 0=((zaf (zaa d) file).length:Int):=by
  by_cases h:zaj (zaa d) file<0
  ·rw [decide_eq_false (by omega),zfM h];rfl
  ·rw [decide_eq_true (by omega),zbE h];rfl
 simp only [e8]
 intros
 refine ⟨trivial,⟨hb.ok,hb.cl5,trivial⟩,trivial,trivial,trivial,⟨of_decide_eq_true,fun _=>hf.2,trivial⟩,trivial,trivial,fun h0=>⟨trivial,zaC (X:=d) ?_⟩,fun h0=>⟨trivial,trivial,fun h1=>⟨trivial,zaC (X:=d) ?_⟩,fun h1=>⟨⟨id,id,hbn,trivial⟩,trivial,fun h9=>⟨trivial,zaC (X:=d) ?_⟩,fun h9=>?_⟩⟩⟩
 ·have h0:d.down=true:=h0
  unfold wrD;rw [if_pos h0]
 ·have h0:d.down=false:=h0
  unfold wrD;rw [if_neg (by rw [h0];decide),if_pos (by simpa using h1)]
 ·have h0:d.down=false:=h0
  unfold wrD;rw [if_neg (by rw [h0];decide),if_neg (by rw [show zaT file=true by simpa using h1];decide),if_pos]
  rcases zbU h9 with h | h
  ·exact .inl (of_decide_eq_true h)
  ·exact .inr (of_decide_eq_true h)
 ·have h0:d.down=false:=h0
  have h1:zaT file=true:=by simpa using h1
  obtain ⟨g1,g2⟩:=zbz h9
  have g1:¬ at_<0:=of_decide_eq_false g1
  have g2:¬ at_>((zaf (zaa d) file).length:Int):=of_decide_eq_false g2
  have hw:wrD d file at_ b=if sumF (zad (zaa d) ⟨1,file,at_,b⟩)>d.room∨((zad (zaa d) ⟨1,file,at_,b⟩).length:Int)>16 then (d,121) else (chgD d ⟨1,file,at_,b⟩,0):=by
   unfold wrD
   rw [if_neg (by rw [h0];decide),if_neg (by rw [h1];decide),if_neg (by omega)]
  have hd:zad (zaa d) ⟨1,file,at_,b⟩=zap ⟨file,zaB (zaf (zaa d) file) at_.toNat b⟩ (zaa d):=by unfold zad;rw [if_pos rfl]
  have hdl:=zbs ⟨file,zaB (zaf (zaa d) file) at_.toNat b⟩ (zaa d)
  have hll:=zaK (zaf (zaa d) file) at_.toNat b
  have hdm:∀ x∈zad (zaa d) ⟨1,file,at_,b⟩,x.bytes.length≤10000000:=fun x hx=>by
   rw [hd] at hx
   rcases zaL hx with rfl | hx
   ·show (zaB _ _ _).length≤_
    omega
   ·have:=hb.fb x hx;omega
  rw [← hd] at hdl
  refine ⟨⟨⟨by omega,by show 0≤at_;omega,by show at_≤_;omega,by show b.length≤_;omega,by show (zaf (zaa d) file).length≤_;omega⟩,trivial⟩,trivial,trivial,?_⟩
  rw [hw]
  clear hw hll e8
  generalize hA:zad (zaa d) ⟨1,file,at_,b⟩=af at *
  refine LoopG.head (zax zbv fun _=>none) 0 (A:=Nat) (fun j=>j≤af.length) (fun j=>[(14,.int .i64 j),(13,.int .i64 (sumF (af.take j)))]) (fun _=>[]) (fun j=>af.length-j) 0 (Nat.zero_le _) (p0:=let v0:=(0:Int);let v1:=zad (zaa d) (DChange.mk (1:Int) file at_ b);v0=(↑(0:Nat):Int)∧v0=sumF (List.take (0:Nat) af)∧v1=v1∧v0=v0∧file=file∧at_=at_∧b=b∧RDisk.room d=RDisk.room d∧RDisk.lasts d=RDisk.lasts d∧RDisk.down d=RDisk.down d∧RDisk.stops d=RDisk.stops d∧RDisk.left d=RDisk.left d∧RDisk.changes d=RDisk.changes d∧True) (by kernel_rfl) ?_ 300 (p:=fun (z:Nat) (V:List PE→Prop)=>let v0:=RDisk.room d;let v1:=(↑z:Int);let v2:=(16:Int);let v3:=sumF (List.take z af);let v4:=(↑(af.length):Int);let v5:=DChange.mk (1:Int) file at_ b;let v6:=chgD d v5;let v7:=(↑(List.length (zad (zaa d) v5)):Int);let v8:=decide (v3>v0);let v9:=decide (v1<v7);let v10:=zac v8 true (decide (v7>v2));let v11:=if sumF af>v0∨v4>v2 then (d,(121:Int)) else (v6,(0:Int));let v12:=Prod.snd v11;let v13:=Prod.fst v11;let v14:=RDisk.room v13;let v15:=RDisk.stops v13;let v16:=RDisk.changes v13;let v17:=RDisk.lasts v13;let v18:=RDisk.left v13;let v19:=RDisk.down v13;True∧True∧(v9=true→((0:Int)≤v1∧v1<v7∧True)∧True∧V [PE.a])∧(v9=false→(((!v8)=true→(!v8)=true)∧((!v8)=true→(!v8)=true)∧(v8=false→(!v8)=true)∧True)∧True∧(v10=true→True∧(121:Int)=v12∧v0=v14∧RDisk.lasts d=v17∧RDisk.down d=v19∧RDisk.stops d=v15∧RDisk.left d=v18∧RDisk.changes d=v16∧True)∧(v10=false→(List.length (RDisk.changes d)≤100000∧b.length≤10000000∧True)∧True∧(0:Int)=v12∧RDisk.room v6=v14∧RDisk.lasts v6=v17∧RDisk.down v6=v19∧RDisk.stops v6=v15∧RDisk.left v6=v18∧RDisk.changes v6=v16∧True))) (by intro z;kernel_rfl) ?_
  ·intros
   repeat' apply And.intro
   all_goals first | trivial | rfl
  rintro j hj
  have hj:j≤af.length:=hj
  have hal:af.length≤10000:=by omega
  simp only [hA]
  intros
  refine ⟨trivial,trivial,fun h=>?_,fun h=>?_⟩
  ·have b2:(j:Int)<(af.length:Int):=of_decide_eq_true h
   have e:=zb2 (i:=j) (by omega)
   have hm1:=hdm _ (zaX (d:=default) (show j<af.length by omega))
   obtain ⟨m0,m1⟩:=zic (M:=10000000) (af.take j) fun x hx=>hdm x (List.mem_of_mem_take hx)
   rw [List.length_take] at m1
   have es:IntKind.i64.wrap (sumF (af.take j)+((af.getD j default).bytes.length:Int))=sumF (af.take (j+1)):=by
    rw [za5 (d:=default) (by omega),zia]
    refine zjR ⟨by omega,?_⟩
    have:min j af.length*10000000≤10000*10000000:=Nat.mul_le_mul_right _ (by omega)
    omega
   refine ⟨⟨Int.natCast_nonneg _,b2,trivial⟩,trivial,?_⟩
   rw [← hA] at es
   refine Back.mk (j+1) (by show j+1≤af.length;omega) (by show af.length-(j+1)<af.length-j;omega) (p0:=let v0:=zad (zaa d) (DChange.mk (1:Int) file at_ b);IntKind.wrap IntKind.i64 ((↑j:Int)+(1:Int))=(↑(j+(1:Nat)):Int)∧IntKind.wrap IntKind.i64 (sumF (List.take j af)+(↑(List.length (File.bytes (List.getD v0 j default))):Int))=sumF (List.take (j+(1:Nat)) af)∧v0=v0∧(0:Int)=0∧file=file∧at_=at_∧b=b∧RDisk.room d=RDisk.room d∧RDisk.lasts d=RDisk.lasts d∧RDisk.down d=RDisk.down d∧RDisk.stops d=RDisk.stops d∧RDisk.left d=RDisk.left d∧RDisk.changes d=RDisk.changes d∧True) (by kernel_rfl) ?_
   simp only [hA] at es ⊢
   intros
   repeat' apply And.intro
   all_goals first | trivial | exact e | exact es | rfl
  ·have hj':j=af.length:=by
    have:¬ (j:Int)<(af.length:Int):=of_decide_eq_false h
    omega
   subst hj'
   have et:af.take af.length=af:=List.take_length
   refine ⟨⟨id,id,hbn,trivial⟩,trivial,fun h10=>⟨trivial,zaC (X:=d) ?_⟩,fun h10=>⟨⟨hb.cl5,by show b.length≤_;omega,trivial⟩,trivial,zaC (X:=chgD d ⟨1,file,at_,b⟩) ?_⟩⟩
   ·rw [if_pos]
    have h10:zac (decide (sumF (af.take af.length)>d.room)) true (decide ((af.length:Int)>16))=true:=h10
    rw [et] at h10
    rcases zbU h10 with h | h
    ·exact .inl (of_decide_eq_true h)
    ·exact .inr (of_decide_eq_true h)
   ·have h10:zac (decide (sumF (af.take af.length)>d.room)) true (decide ((af.length:Int)>16))=false:=h10
    rw [et] at h10
    have h2:=zbz h10
    rw [if_neg]
    rintro (h | h)
    ·exact of_decide_eq_false h2.1 h
    ·exact of_decide_eq_false h2.2 h
noncomputable def eWrD:Ent:=zmS 38 1 mRD dStr dInt dBytes vrD [0,0,0,0] [0,0] fun d n k b=>([BdD d,b.length≤1000000],.int .i64 (wrD d n k b).2,rdMo (wrD d n k b).1)
theorem zmX:zar Try.prog eWrD:=zgS (fnB Try.func38 (by decide) rfl) fun d n k b h=>zig d (h (BdD d) (by simp)) n k b (h (b.length≤1000000) (by simp))
theorem zki (d:RDisk) (hb:BdD d) (file:ByteArray):FnG Try.prog 41 1 (rdMi d) [.ptr 2 0,dStr.can file] (.int .i64 (syD d file).2) (rdMo (syD d file).1):=by
 refine FnG.of_vc (zax zbv fun _=>none) Try.func41 rfl (by decide) rfl 300 (p:=fun (V:List PE→Prop)=>let v0:=RDisk.down d;let v1:=Prod.snd (syD d file);let v2:=Prod.fst (syD d file);True∧True∧True∧(v0=true→True∧(120:Int)=v1∧RDisk.room d=RDisk.room v2∧RDisk.lasts d=RDisk.lasts v2∧v0=RDisk.down v2∧RDisk.stops d=RDisk.stops v2∧RDisk.left d=RDisk.left v2∧RDisk.changes d=RDisk.changes v2∧True)∧(v0=false→True∧True∧((!zaT file)=true→True∧(122:Int)=v1∧RDisk.room d=RDisk.room v2∧RDisk.lasts d=RDisk.lasts v2∧v0=RDisk.down v2∧RDisk.stops d=RDisk.stops v2∧RDisk.left d=RDisk.left v2∧RDisk.changes d=RDisk.changes v2∧True)∧((!zaT file)=false→True∧True∧V [PE.b,PE.b]))) (by kernel_rfl) ?_
 have hcl:=hb.cl
 intros
 refine ⟨trivial,trivial,trivial,fun h0=>⟨trivial,zaC (X:=d) ?_⟩,fun h0=>⟨trivial,trivial,fun h1=>⟨trivial,zaC (X:=d) ?_⟩,fun h1=>⟨trivial,trivial,?_⟩⟩⟩
 ·have h0:d.down=true:=h0
  unfold syD;rw [if_pos h0]
 ·have h0:d.down=false:=h0
  unfold syD;rw [if_neg (by rw [h0];decide),if_pos (by simpa using h1)]
 ·have h0:d.down=false:=h0
  have hw:syD d file=(zbh {d with lasts:=(d.changes.filter (ofF file)).foldl zad d.lasts,changes:=d.changes.filter (fun c=>!ofF file c)},0):=by
   unfold syD
   rw [if_neg (by rw [h0];decide),if_neg (by rw [show zaT file=true by simpa using h1];decide)]
  rw [hw]
  clear hw
  refine LoopG.head (zax zbv fun _=>none) 0 (A:=Nat) (fun j=>j≤d.changes.length) (fun j=>[(6,.int .i64 j),(5,.own 902)]) (fun j=>[(901,.dead),(2,.cells 78 [.int .i64 d.room,.sl [0,901] (.rFile (((d.changes.take j).filter (ofF file)).foldl zad d.lasts)),.own 3,.bool d.down,.bool d.stops,.int .i64 d.left]),(902,.row 92 [0] (.rDChange ((d.changes.take j).filter fun c=>!ofF file c)))]) (fun j=>d.changes.length-j) 0 (Nat.zero_le _) (p0:=let v0:=RDisk.changes d;let v1:=List.take (0:Nat) v0;(0:Int)=(↑(0:Nat):Int)∧(0:Int)=0∧file=file∧RDisk.room d=RDisk.room d∧RDisk.lasts d=List.foldl zad (RDisk.lasts d) (List.filter (ofF file) v1)∧RDisk.down d=RDisk.down d∧RDisk.stops d=RDisk.stops d∧RDisk.left d=RDisk.left d∧List.filter (fun (c:DChange)=>!ofF file c) v1=[]∧v0=v0∧True) (by kernel_rfl) ?_ 300 (p:=fun (z:Nat) (V:List PE→Prop)=>let v0:=RDisk.changes d;let v1:=(↑z:Int);let v2:=v0.length;let v3:=List.take z v0;let v4:=(↑v2:Int);let v5:=List.getD v0 z default;let v6:=List.filter (fun (c:DChange)=>!ofF file c) v3;let v7:=List.foldl zad (RDisk.lasts d) (List.filter (ofF file) v3);let v8:=ByteArray.toList (DChange.file v5)==ByteArray.toList file;let v9:=decide (v1<v4);let v10:=zbh (RDisk.mk (RDisk.room d) (List.foldl zad (RDisk.lasts d) (List.filter (ofF file) v0)) (List.filter (fun (c:DChange)=>!ofF file c) v0) (RDisk.down d) (RDisk.stops d) (RDisk.left d));let v11:=zbh (RDisk.mk (RDisk.room d) v7 v6 (RDisk.down d) (RDisk.stops d) (RDisk.left d));True∧True∧(v9=true→((0:Int)≤v1∧v1<v4∧z<v2∧True)∧True∧(v8=true→((0:Int)≤v1∧v1<v4∧z<v2∧ChOk v7 v5∧True)∧True∧V [PE.a,PE.a])∧(v8=false→((0:Int)≤v1∧v1<v4∧z<v2∧(v6.length+List.length [v5])*(1024:Nat)≤140737488355328∧True)∧True∧V [PE.a,PE.b]))∧(v9=false→True∧True∧True∧(0:Int)=0∧RDisk.room v11=RDisk.room v10∧RDisk.lasts v11=RDisk.lasts v10∧RDisk.down v11=RDisk.down v10∧RDisk.stops v11=RDisk.stops v10∧RDisk.left v11=RDisk.left v10∧RDisk.changes v11=RDisk.changes v10∧True)) (by intro z;kernel_rfl) ?_
  ·intros
   repeat' apply And.intro
   all_goals first | trivial | rfl
  rintro j hj
  have hj:j≤d.changes.length:=hj
  have hfl:((d.changes.take j).filter fun c=>!ofF file c).length≤1000:=by
   have h1:=List.length_filter_le (fun c=>!ofF file c) (d.changes.take j)
   have h2:(d.changes.take j).length≤j:=List.length_take_le ..
   omega
  intros
  refine ⟨trivial,trivial,fun h=>?_,fun h=>?_⟩
  ·have b2:(j:Int)<(d.changes.length:Int):=of_decide_eq_true h
   have b1:(0:Int)≤(j:Int):=Int.natCast_nonneg j
   have b3:j<d.changes.length:=by omega
   have e:=zb2 (i:=j) (by omega)
   have et:=za5 (d:=default) b3
   refine ⟨⟨b1,b2,b3,trivial⟩,trivial,fun h8=>⟨⟨b1,b2,b3,hb.sub _ ((List.filter_sublist).trans (List.take_sublist _ _)) _ (zaX b3),trivial⟩,trivial,?_⟩,fun h8=>⟨⟨b1,b2,b3,by show (((d.changes.take j).filter fun c=>!ofF file c).length+1)*1024≤_;omega,trivial⟩,trivial,?_⟩⟩
   ·have h8:ofF file (d.changes.getD j default)=true:=h8
    have e1:((d.changes.take (j+1)).filter (ofF file)).foldl zad d.lasts=zad (((d.changes.take j).filter (ofF file)).foldl zad d.lasts) (d.changes.getD j default):=by
     rw [et,List.filter_append,List.filter_cons,if_pos h8,List.foldl_append];rfl
    have e2:((d.changes.take (j+1)).filter fun c=>!ofF file c)=(d.changes.take j).filter fun c=>!ofF file c:=by
     rw [et,List.filter_append,List.filter_cons,if_neg (by rw [h8];decide),List.filter_nil,List.append_nil]
    refine Back.mk (j+1) (by show j+1≤d.changes.length;omega) (zcs b3) (p0:=let v0:=RDisk.changes d;let v1:=List.take j v0;let v2:=List.take (j+(1:Nat)) v0;IntKind.wrap IntKind.i64 ((↑j:Int)+(1:Int))=(↑(j+(1:Nat)):Int)∧(0:Int)=0∧file=file∧RDisk.room d=RDisk.room d∧zad (List.foldl zad (RDisk.lasts d) (List.filter (ofF file) v1)) (List.getD v0 j default)=List.foldl zad (RDisk.lasts d) (List.filter (ofF file) v2)∧RDisk.down d=RDisk.down d∧RDisk.stops d=RDisk.stops d∧RDisk.left d=RDisk.left d∧List.filter (fun (c:DChange)=>!ofF file c) v1=List.filter (fun (c:DChange)=>!ofF file c) v2∧v0=v0∧True) (by kernel_rfl) ?_
    intros
    repeat' apply And.intro
    all_goals first | trivial | exact e | exact e1.symm | exact e2.symm | rfl
   ·have h8:ofF file (d.changes.getD j default)=false:=h8
    have e1:((d.changes.take (j+1)).filter (ofF file)).foldl zad d.lasts=((d.changes.take j).filter (ofF file)).foldl zad d.lasts:=by
     rw [et,List.filter_append,List.filter_cons,if_neg (by rw [h8];decide),List.filter_nil,List.append_nil]
    have e2:((d.changes.take (j+1)).filter fun c=>!ofF file c)=((d.changes.take j).filter fun c=>!ofF file c)++[d.changes.getD j default]:=by
     rw [et,List.filter_append,List.filter_cons,if_pos (by rw [h8];rfl),List.filter_nil]
    refine Back.mk (j+1) (by show j+1≤d.changes.length;omega) (zcs b3) (p0:=let v0:=RDisk.changes d;let v1:=List.take j v0;let v2:=List.take (j+(1:Nat)) v0;IntKind.wrap IntKind.i64 ((↑j:Int)+(1:Int))=(↑(j+(1:Nat)):Int)∧(0:Int)=0∧file=file∧RDisk.room d=RDisk.room d∧List.foldl zad (RDisk.lasts d) (List.filter (ofF file) v1)=List.foldl zad (RDisk.lasts d) (List.filter (ofF file) v2)∧RDisk.down d=RDisk.down d∧RDisk.stops d=RDisk.stops d∧RDisk.left d=RDisk.left d∧List.filter (fun (c:DChange)=>!ofF file c) v1++[List.getD v0 j default]=List.filter (fun (c:DChange)=>!ofF file c) v2∧v0=v0∧True) (by kernel_rfl) ?_
    intros
    repeat' apply And.intro
    all_goals first | trivial | exact e | exact e1.symm | exact e2.symm | rfl
  ·have hj':j=d.changes.length:=by
    have:¬ (j:Int)<(d.changes.length:Int):=of_decide_eq_false h
    omega
   subst hj'
   have et:d.changes.take d.changes.length=d.changes:=List.take_length
   have es:zbh ⟨d.room,((d.changes.take d.changes.length).filter (ofF file)).foldl zad d.lasts,(d.changes.take d.changes.length).filter (fun c=>!ofF file c),d.down,d.stops,d.left⟩=zbh {d with lasts:=(d.changes.filter (ofF file)).foldl zad d.lasts,changes:=d.changes.filter (fun c=>!ofF file c)}:=by rw [et]
   exact ⟨trivial,trivial,trivial,rfl,congrArg RDisk.room es,congrArg RDisk.lasts es,congrArg RDisk.down es,congrArg RDisk.stops es,congrArg RDisk.left es,congrArg RDisk.changes es,trivial⟩
noncomputable def eSyD:Ent:=zgf 41 1 mRD dStr vrD [0,0] [0,0] fun d n=>([BdD d],.int .i64 (syD d n).2,rdMo (syD d n).1)
theorem zmY:zar Try.prog eSyD:=zck (fnB Try.func41 (by decide) rfl) fun d n h=>zki d (h (BdD d) (by simp)) n
end Go.Proofs.Ytfccndnnpkiajaa
namespace Go.Proofs.Ytfccndnnpkiajaa
open Go.RowKit Go.ChangeShapes Go.WideShapes Go.Deep
def E0 (S:Nat→Prop):Env:=⟨fun _=>none,fun i b=>i=0∧S b,fun _ _=>False⟩
theorem mem0 {w:World} {S:Nat→Prop} (hS:∀ b,S b→b<w.heap.size):MemOk w.heap.size (cxIn (E0 S) D2 1) w (E0 S) (mOf D2) w:=by
 have hl:∀ t,(mOf D2 t).live=false:=by intro t;rw [mD2];split<;>rfl
 refine ⟨fun t ht=>⟨rfl,fun b hb=>?_⟩,fun t T vs ht=>?_,fun t T ls r ht=>?_,fun i b hb=>⟨hS b hb.2,fun h=>?_⟩,fun i j b hi hj=>hi.1.trans hj.1.symm,fun i hi he=>?_,fun t b hh=>absurd hh zdj,fun i b _ hb=>hb,fun t u b h1=>absurd h1 zdj,fun t v h=>?_,BelowX.refl _ _ _,Nat.le_refl _,fun t o ht=>by have:=hl t;rw [ht] at this;cases this⟩
 ·have:=hb.1;subst this;rw [mD2] at ht;simp at ht
 ·have:=hl t;rw [ht] at this;cases this
 ·have:=hl t;rw [ht] at this;cases this
 ·have:=hb.1;simp [cxIn] at h;omega
 ·rw [mD2] at he
  simp [cxIn] at hi;subst hi;simp at he
 ·simp only [cxIn] at h
  split at h
  ·exact h
  ·cases h
theorem ziG {f:FuncId} {ins:List SV} (h:FnC Try.prog f ins (.bool true) D2) (w:World) (S:Nat→Prop) (hS:∀ b,S b→b<w.heap.size) (vals:List Value) (hd:DenL (E0 S) w ins vals):Calls Try.prog f vals.toArray w fun e w'=>e = .returned (.bool true)∧Below w.heap.size w w' :=
 (h.2 w (E0 S) vals (mem0 hS) hd).mono (by
  rintro e w' ⟨v,E',rfl,hv,hm⟩
  refine ⟨by rw [show v = .bool true from hv],hm.below.os,hm.below.tape,hm.below.output,hm.below.size,fun b hb=>hm.below.block b hb (fun ⟨t,ht⟩=>zdj ht)⟩)
theorem zjN {S:Nat→Prop} {b:Nat} (h:S b):(E0 S).set [0] b:=⟨0,by simp,rfl,h⟩
theorem zox {w w':World} {S:Nat→Prop} {E':Env} (hm:MemOk w.heap.size (cxIn (E0 S) D2 1) w E' (mOf D2) w') {i b:Nat} (hi:1≤i) (h:E'.σ i b):w.heap.size≤b:=
 ((hm.lab i b h).2 hi).resolve_right (fun ⟨t,ht⟩=>zdj ht)
theorem zhh {w w':World} {S:Nat→Prop} {E':Env} (hm:MemOk w.heap.size (cxIn (E0 S) D2 1) w E' (mOf D2) w'):Below w.heap.size w w' :=
 ⟨hm.below.os,hm.below.tape,hm.below.output,hm.below.size,fun b hb=>hm.below.block b hb (fun ⟨t,ht⟩=>zdj ht)⟩
end Go.Proofs.Ytfccndnnpkiajaa
namespace Go.Proofs.Ytfccndnnpkiajaa
open Go.RowKit Go.ChangeShapes Go.WideShapes Go.Deep
set_option maxRecDepth 100000
theorem zj9 (l:List Int) (hl:l.length≤100000000):FnC Try.prog 28 [dBytes.can l] (.sl [1] (.rBytes l)) D2:=by
 refine FnG.of_vc (zax zas fun _=>none) Try.func28 rfl (by decide) rfl 300 (p:=fun (V:List PE→Prop)=>True∧True∧True∧(l=[]→True∧l=[]∧True)∧(True→(((0:Nat)+l.length)*(1024:Nat)≤140737488355328∧True)∧l=l∧l.length≤140737488355328∧True)) (by kernel_rfl) ?_
 exact ⟨trivial,trivial,trivial,fun h=>⟨trivial,h,trivial⟩,fun _=>⟨⟨by show (0+l.length)*1024≤_;omega,trivial⟩,rfl,by show l.length≤_;omega,trivial⟩⟩
theorem zmC {f:FuncId} {l r:List Int} (h:FnC Try.prog f [dBytes.can l] (.sl [1] (.rBytes r)) D2) {w:World} {S:Nat→Prop} {v:Value} (hS:∀ b,S b→b<w.heap.size) (hv:BRd w S v l):Calls Try.prog f #[v] w (NewB w r):=
 (h.2 w (E0 S) [v] (mem0 hS) ⟨hv.mono (fun b _ hb=>zjN hb),trivial⟩).mono (by
  rintro e w' ⟨u,E',rfl,hv,hm⟩
  have hv:Rd w' (E'.set [1]) (.sl [.int .u8]) u (.sl (ints r)):=hv
  exact ⟨u,rfl,zhh hm,hv.mono fun b _ ⟨i,hi,hs⟩=>zox hm (by simp at hi;omega) hs⟩)
theorem zdZ {w:World} {S:Nat→Prop} {v:Value} {l:List Int} (hv:BRd w S v l) (hl:l.length≤100000000):Calls Try.prog 28 #[v] w (NewB w l):=
 zmC (S:=fun b=>S b∧b<w.heap.size) (zj9 l hl) (fun b hb=>hb.2) hv.here
theorem zmM (s:ByteArray) (c:Int) (w:World):Calls Try.prog 67 #[.string s,.int .u8 c] w fun e w'=>e = .returned (.int .i64 (Lib.indexByte s.data.toList c.toNat.toUInt8))∧w'=w:=by
 go_enter Try.func67,Try.ntmps67
 go_wp2
 rw [run_callFunc_extern (f:=72) rfl (by kernel_rfl) (by kernel_rfl) (by kernel_rfl) (e:=Extern.BytealgIndexByte.indexByte) (by kernel_rfl),Lib.run_indexByteString]
 simp only [Result.andThen]
 rw [Oper.upon_value]
 go_wp2
 go_ret
 exact ⟨rfl,rfl⟩
theorem zoe (s:ByteArray) (c:Int) (w:World):Calls Try.prog 51 #[.string s,.int .u8 c] w fun e w'=>e = .returned (.int .i64 (Lib.indexByte s.data.toList c.toNat.toUInt8))∧w'=w:=by
 have h:=zmM s c
 go_enter Try.func51,Try.ntmps51
 go_wp2_with (go_at_call 67;refine (h _).mono ?_;rintro e w' ⟨rfl,rfl⟩)
 go_ret
 exact ⟨rfl,rfl⟩
theorem zdn:∀ (l:List UInt8) (c:UInt8),Lib.indexByte l c<l.length
 | [],c=>by show (-1:Int)<0;decide
 | b::l,c=>by
  have:=zdn l c
  unfold Lib.indexByte
  rw [List.length_cons]
  split
  ·omega
  ·split<;>omega
theorem zbI:∀ (l:List UInt8) (c:UInt8),decide (Lib.indexByte l c<0)=!l.contains c
 | [],c=>rfl
 | b::l,c=>by
  have ih:=zbI l c
  have hg:=Lib.indexByte_ge l c
  unfold Lib.indexByte
  rw [List.contains_cons]
  cases h:b==c
  ·have h2:(c==b)=false:=by
    rw [beq_eq_false_iff_ne] at h ⊢;exact Ne.symm h
   rw [h2,Bool.false_or,← ih]
   simp only [Bool.false_eq_true,if_false]
   split
   ·rename_i e
    have e:Lib.indexByte l c = -1:=eq_of_beq e
    rw [e]
   ·rename_i e
    have e:Lib.indexByte l c ≠ -1:=fun g=>e (by rw [g];rfl)
    rw [decide_eq_decide]
    omega
  ·have h2:(c==b)=true:=by
    rw [beq_iff_eq] at h ⊢;exact h.symm
   rw [h2]
   rfl
noncomputable def eIx:Ent:=ent2 51 dStr dByte fun s c=>([s.size≤1000],.int .i64 (Lib.indexByte s.data.toList c.toNat.toUInt8),D2)
theorem zlS:zar Try.prog eIx:=zbJ (fnB Try.func51 (by decide) rfl) fun s c h=>FnC.of_int (fnB Try.func51 (by decide) rfl) fun w E vals hd=>by
 have hs:s.size≤1000:=h _ (List.mem_cons_self ..)
 have h1:=zdn s.data.toList c.toNat.toUInt8
 have h2:=Lib.indexByte_ge s.data.toList c.toNat.toUInt8
 have h3:s.data.toList.length=s.size:=Array.length_toList
 refine ⟨⟨by omega,by omega⟩,?_⟩
 match vals,hd with
 | [u,v],hd=>
  have e1:u = .string s:=hd.1.1
  have e2:v = .int .u8 c:=hd.2.1.1
  subst e1;subst e2
  exact (zoe s c w).mono fun e w' ⟨h1,h2⟩=>⟨h1,by subst h2;exact Below.refl _ _⟩
noncomputable def tabDx:List Ent:=[eIx]
theorem zg0:∀ e∈tabDx,zar Try.prog e:=zah zlS zas
def lowB (c:Int):Bool:=decide (97≤c)&&decide (c≤122)
theorem znX (c:Int) (h0:0≤c) (h1:c≤255):decide (Lib.indexByte (Array.toList #[(97:UInt8),98,99,100,101,102,103,104,105,106,107,108,109,110,111,112,113,114,115,116,117,118,119,120,121,122]) c.toNat.toUInt8<0)=!lowB c:=by
 rw [zbI]
 obtain ⟨n,rfl⟩:∃ n:Nat,c=n:=⟨c.toNat,by omega⟩
 have hn:n<256:=by omega
 clear h0 h1
 revert n
 decide
theorem nm_ix (c:Int) (h0:0≤c) (h1:c≤255):decide (Lib.indexByte (Array.toList #[(97:UInt8),98,99,100,101,102,103,104,105,106,107,108,109,110,111,112,113,114,115,116,117,118,119,120,121,122,48,49,50,51,52,53,54,55,56,57,95]) c.toNat.toUInt8<0)=!nmB c:=by
 rw [zbI]
 obtain ⟨n,rfl⟩:∃ n:Nat,c=n:=⟨c.toNat,by omega⟩
 have hn:n<256:=by omega
 clear h0 h1
 revert n
 decide
theorem zkv (s:ByteArray):FnC Try.prog 52 [dStr.can s] (.bool ((List.range s.size).all fun i=>nmB (sGet s i))) D2:=FnC.g1 dStr s (fnB Try.func52 (by decide) rfl) fun hx=>by
 have hx:s.size≤140737488355328:=hx
 refine FnG.of_vc (zax zg0 fun _=>none) Try.func52 rfl (by decide) rfl 300 (p:=fun (V:List PE→Prop)=>True∧True∧V []) (by kernel_rfl) ?_
 refine ⟨trivial,trivial,?_⟩
 refine LoopG.head (zax zg0 fun _=>none) 0 (A:=Nat) (fun j=>j≤s.size∧∀ i,i<j→nmB (sGet s i)=true) (fun j=>[(6,.int .i64 j),(2,.bool false)]) (fun _=>[]) (fun j=>s.size-j) 0 ⟨Nat.zero_le _,fun i h=>absurd h (Nat.not_lt_zero _)⟩ (p0:=let v0:=(↑(ByteArray.size s):Int);(0:Int)=(↑(0:Nat):Int)∧false=false∧v0=v0∧s=s∧True) (by kernel_rfl) ?_ 300 (p:=fun (z:Nat) (V:List PE→Prop)=>let v0:=(↑z:Int);let v1:=(↑(ByteArray.size s):Int);let v2:=List.all (List.range (ByteArray.size s)) fun (i:Nat)=>nmB (sGet s (↑i:Int));let v3:=decide (v0<v1);let v4:= #[(97:UInt8),(98:UInt8),(99:UInt8),(100:UInt8),(101:UInt8),(102:UInt8),(103:UInt8),(104:UInt8),(105:UInt8),(106:UInt8),(107:UInt8),(108:UInt8),(109:UInt8),(110:UInt8),(111:UInt8),(112:UInt8),(113:UInt8),(114:UInt8),(115:UInt8),(116:UInt8),(117:UInt8),(118:UInt8),(119:UInt8),(120:UInt8),(121:UInt8),(122:UInt8),(48:UInt8),(49:UInt8),(50:UInt8),(51:UInt8),(52:UInt8),(53:UInt8),(54:UInt8),(55:UInt8),(56:UInt8),(57:UInt8),(95:UInt8)];let v5:=Lib.indexByte (Array.toList v4) (Nat.toUInt8 (Int.toNat (sGet s v0)));let v6:=decide (v5<0);True∧True∧(v3=true→True∧((0:Int)≤v0∧v0<v1∧ByteArray.size (ByteArray.mk v4)≤1000∧True)∧True∧(v6=true→True∧false=v2∧True)∧(v6=false→True∧V [PE.a,PE.b]))∧(v3=false→True∧true=v2∧True)) (by intro z;kernel_rfl) ?_
 ·intros
  repeat' apply And.intro
  all_goals first | trivial | rfl
 rintro j ⟨hj,h0⟩
 have b1:(0:Int)≤(j:Int):=Int.natCast_nonneg j
 intros
 refine ⟨trivial,trivial,fun h3=>?_,fun h3=>⟨trivial,?_,trivial⟩⟩
 ·have b2:(j:Int)<(s.size:Int):=of_decide_eq_true h3
  have e:=zb2 (i:=j) (by omega)
  obtain ⟨g1,g2⟩:=zfS s j
  have hx:=nm_ix (sGet s (j:Int)) g1 g2
  refine ⟨trivial,⟨b1,b2,by decide,trivial⟩,trivial,fun h6=>⟨trivial,?_,trivial⟩,fun h6=>⟨trivial,?_⟩⟩
  ·have h7:(!nmB (sGet s (j:Int)))=true:=hx.symm.trans h6
   have h7:nmB (sGet s (j:Int))=false:=by simpa using h7
   symm
   rw [List.all_eq_false]
   exact ⟨j,List.mem_range.2 (by omega),by rw [h7];decide⟩
  ·have h7:(!nmB (sGet s (j:Int)))=false:=hx.symm.trans h6
   have h7:nmB (sGet s (j:Int))=true:=by simpa using h7
   refine Back.mk (j+1) ⟨by omega,fun i hi=>?_⟩ (by omega) (p0:=let v0:=(↑(ByteArray.size s):Int);IntKind.wrap IntKind.i64 ((↑j:Int)+(1:Int))=(↑(j+(1:Nat)):Int)∧false=false∧v0=v0∧s=s∧True) (by kernel_rfl) ?_
   ·by_cases h:i=j
    ·rw [h];exact h7
    ·exact h0 i (by omega)
   ·intros
    repeat' apply And.intro
    all_goals first | trivial | exact e | rfl
 ·have hj':j=s.size:=by
   have:¬ (j:Int)<(s.size:Int):=of_decide_eq_false h3
   omega
  subst hj'
  symm
  rw [List.all_eq_true]
  intro i hi
  exact h0 i (List.mem_range.1 hi)
noncomputable def zlQ:Ent:=ent1 52 dStr fun s=>([],.bool ((List.range s.size).all fun i=>nmB (sGet s i)),D2)
theorem zjm:zar Try.prog zlQ:=zbt (fnB Try.func52 (by decide) rfl) fun s _=>zkv s
noncomputable def tabDy:List Ent:=[eIx,zlQ]
theorem zjX:∀ e∈tabDy,zar Try.prog e:=zah zlS (zah zjm zas)
theorem zmD (s:ByteArray):FnC Try.prog 30 [dStr.can s] (.bool (zaT s)) D2:=by
 refine FnG.of_vc (zax zjX fun _=>none) Try.func30 rfl (by decide) rfl 300 (p:=fun (V:List PE→Prop)=>let v0:=(↑(ByteArray.size s):Int);let v1:=(0:Int);let v2:=!ByteArray.toList s==ByteArray.toList (ByteArray.mk #[]);let v3:=zac v2 (decide (v0≤16)) false;let v4:= #[(97:UInt8),(98:UInt8),(99:UInt8),(100:UInt8),(101:UInt8),(102:UInt8),(103:UInt8),(104:UInt8),(105:UInt8),(106:UInt8),(107:UInt8),(108:UInt8),(109:UInt8),(110:UInt8),(111:UInt8),(112:UInt8),(113:UInt8),(114:UInt8),(115:UInt8),(116:UInt8),(117:UInt8),(118:UInt8),(119:UInt8),(120:UInt8),(121:UInt8),(122:UInt8)];let v5:=Lib.indexByte (Array.toList v4) (Nat.toUInt8 (Int.toNat (sGet s v1)));let v6:=zac v3 (decide (v5≥v1)) false;True∧((v2=true→v2=true)∧(v2=true→v2=true)∧(v2=true→v2=true)∧(v3=true→v3=true)∧(v3=true→v1≤v1)∧(v3=true→v1<v0)∧(v3=true→v3=true)∧(v3=true→ByteArray.size (ByteArray.mk v4)≤1000)∧(v3=true→v3=true)∧(v3=true→v3=true)∧(v6=true→v6=true)∧(v6=true→v6=true)∧True)∧zac v6 (List.all (List.range (ByteArray.size s)) fun (i:Nat)=>nmB (sGet s (↑i:Int))) false=zaT s∧True) (by kernel_rfl) ?_
 obtain ⟨g1,g2⟩:=zfS s 0
 have hx:=znX (sGet s 0) g1 g2
 have hn:(!s.toList==(ByteArray.mk #[]).toList)=decide (1≤s.size):=by
  rw [Lib.toList_data,Lib.toList_data,Bool.eq_iff_iff]
  have e:(s.data.toList==(#[]:Array UInt8).toList)=decide (s.size=0):=by
   rw [Bool.eq_iff_iff,beq_iff_eq,decide_eq_true_iff]
   constructor
   ·intro h
    show s.data.size=0
    rw [← Array.length_toList,h];rfl
   ·intro h
    have h:s.data.size=0:=h
    exact List.eq_nil_of_length_eq_zero (by rw [Array.length_toList];exact h)
  rw [e]
  simp only [Bool.not_eq_true',decide_eq_false_iff_not,decide_eq_true_eq]
  omega
 intros
 have hv3:∀ b c:Bool,zac b c false=(b&&c):=fun b c=>by cases b<;>rfl
 have hsz:zac (!s.toList==(ByteArray.mk #[]).toList) (decide ((s.size:Int)≤16)) false=true→(0:Int)<(s.size:Int):=fun h=>by
  rw [hv3,hn,Bool.and_eq_true] at h
  have:=of_decide_eq_true h.1
  omega
 refine ⟨trivial,⟨id,id,id,id,fun _=>Int.le_refl 0,hsz,id,fun _=>by decide,id,id,id,id,trivial⟩,?_,trivial⟩
 have h6:decide (Lib.indexByte (Array.toList #[(97:UInt8),98,99,100,101,102,103,104,105,106,107,108,109,110,111,112,113,114,115,116,117,118,119,120,121,122]) (sGet s 0).toNat.toUInt8≥0)=lowB (sGet s 0):=by
  have e:decide (Lib.indexByte (Array.toList #[(97:UInt8),98,99,100,101,102,103,104,105,106,107,108,109,110,111,112,113,114,115,116,117,118,119,120,121,122]) (sGet s 0).toNat.toUInt8≥0)=!decide (Lib.indexByte (Array.toList #[(97:UInt8),98,99,100,101,102,103,104,105,106,107,108,109,110,111,112,113,114,115,116,117,118,119,120,121,122]) (sGet s 0).toNat.toUInt8<0):=by
   rw [← decide_not,decide_eq_decide,Int.not_lt]
  rw [e,hx,Bool.not_not]
 show zac (zac (zac (!s.toList==(ByteArray.mk #[]).toList) (decide ((s.size:Int)≤16)) false) (decide (Lib.indexByte (Array.toList #[(97:UInt8),98,99,100,101,102,103,104,105,106,107,108,109,110,111,112,113,114,115,116,117,118,119,120,121,122]) (sGet s 0).toNat.toUInt8≥0)) false) _ false=_
 rw [h6,hn,hv3,hv3,hv3]
 unfold zaT lowB
 have e16:decide ((s.size:Int)≤16)=decide (s.size≤16):=by rw [decide_eq_decide];omega
 rw [e16]
theorem zn6 {f:FuncId} {s:ByteArray} {b:Bool} (h:FnC Try.prog f [dStr.can s] (.bool b) D2) (w:World) (hs:NmOk s):Calls Try.prog f #[.string s] w fun e w'=>e = .returned (.bool b)∧Below w.heap.size w w' :=
 (h.2 w (E0 fun _=>False) [.string s] (mem0 fun b hb=>hb.elim) ⟨⟨rfl,hs⟩,trivial⟩).mono (by
  rintro e w' ⟨u,E',rfl,hv,hm⟩
  have hv:u = .bool b:=hv
  subst hv
  exact ⟨rfl,zhh hm⟩)
theorem zgI (s:ByteArray) (w:World) (hs:NmOk s):Calls Try.prog 30 #[.string s] w fun e w'=>e = .returned (.bool (zaT s))∧Below w.heap.size w w':=zn6 (zmD s) w hs
def zcS (w:World) (S:Nat→Prop) (mb:Nat) (M':List File) (e:Ending) (w':World):Prop:=
 e = .returned (.tuple #[])∧Turn (fun x=>x=mb) w w'∧FilesAt w' (fun x=>S x∨w.heap.size≤x) mb M'
theorem FilesAt.drew {w:World} {S:Nat→Prop} {mb:Nat} {M:List File} (h:FilesAt w S mb M):FilesAt w.drew S mb M:=h.kept rfl (w':=w.drew) ⟨Nat.le_refl _,fun _ _ _=>rfl⟩ fun _ _ h=>h
theorem zcd {w w1:World} {S:Nat→Prop} {mb:Nat} {M:List File} {n:ByteArray} {u:Value} {bs:List Int} (hm:FilesAt w S mb M) (hs:SortF M) (hmb:¬ S mb) (hl:M.length≤10000) (hn:NmOk n) (hb:Below w.drew.heap.size w.drew w1) (hu:BRd w1 (fun x=>w.drew.heap.size≤x) u bs) :
  ∃ w2,(Instr.mapUpdate TFi (.map (some mb)) (.string n) u).run Try.prog w1 = .ok () w2∧zcS w S mb (zap ⟨n,bs⟩ M) (.returned (.tuple #[])) w2∧∀ p t cs,S p→Blk w p t cs→Blk w1 p t cs∧Blk w2 p t cs:=by
 have hlt:=hm.lt
 have h1:FilesAt w1 (fun x=>S x∨w.heap.size≤x) mb M:=hm.drew.kept (hb.block mb hlt) (Same.below hb) fun _ _ h=> .inl h
 have hno:¬ (S mb∨w.heap.size≤mb):=fun h=>h.elim hmb (fun h=>by omega)
 obtain ⟨w2,r1,r2,r3⟩:=h1.put hs (by omega) hn (hu.mono fun b _ h=> .inr h) hno
 refine ⟨w2,r1,⟨rfl,?_,r2⟩,fun p t cs hp h=>⟨h.drew.next hb,(h.drew.next hb).grown r3 fun e=>hmb ((Option.some.inj e)▸hp)⟩⟩
 have h:=(Turn.below (w:=w.drew) hb).trans (Turn.grown (F:=fun x=>x=mb) r3 fun x e=> .inl (Option.some.inj e).symm) fun x _ h=>h
 exact ⟨h.os,h.tape,h.output,h.size,h.block⟩
set_option maxHeartbeats 4000000 in
theorem znG {w:World} {S:Nat→Prop} {c:DChange} {p1 p2 p3 mb:Nat} {bv:Value} {M:List File} (hp:S p1∧S p2∧S p3) (b1:Blk w p1 TSt #[.string c.file]) (b2:Blk w p2 TIn #[.int .i64 c.at_]) (b3:Blk w p3 TBy #[bv]) (hr:BRd w S bv c.bytes)
  (hm:FilesAt w S mb M) (hs:SortF M) (hmb:¬ S mb) (hl:M.length≤10000) (hn:NmOk c.file) (h0:0≤c.at_) (h1:c.at_≤10000000) (h2:c.bytes.length≤10000000) (h3:((zae M c.file).getD []).length≤100000000) :
  Calls Try.prog fWr #[.map (some mb),ptrV p1,ptrV p2,ptrV p3] w (zcS w S mb (zap ⟨c.file,zaB ((zae M c.file).getD []) c.at_.toNat c.bytes⟩ M)):=by
 obtain ⟨v,_,hlk,hv⟩:=hm.drew.look hn
 have hL:=Lib.hid (zgN hv (Rd.drew hr) h0 (by omega) (by omega) h3)
 have c1:=b1.cell 0
 have c2:=b2.cell 0
 have c3:=b3.cell 0
 simp only [List.getElem?_toArray,List.getElem?_cons_zero] at c1 c2 c3
 have B1:=Lib.hid b1
 have hput:=fun w1 u h1 h2=>zcd (w1:=w1) (u:=u) (bs:=zaB ((zae M c.file).getD []) c.at_.toNat c.bytes) hm hs hmb hl hn h1 h2
 have HP:=Lib.hid hput
 have B2:=Lib.hid b2
 have B3:=Lib.hid b3
 clear b1 b2 b3 hr hm hv hput
 unfold ptrV
 go_enter Try.func54,Try.ntmps54
 go_wp2_with fail
 go_region_held3 (fun W=>W.cell? ⟨p1,0,none⟩=some (.string c.file)∧W.cell? ⟨p2,0,none⟩=some (.int .i64 c.at_)∧W.cell? ⟨p3,0,none⟩=some bv) (first | exact ⟨c1,c2,c3⟩ | exact HS1.out | exact HS2.out) (first | (go_at_call 50;refine hL.out.mono ?_;rintro e w1 ⟨u,rfl,hb1,hu⟩;obtain ⟨w2,hup,hfin,hbx⟩:=HP.out w1 u hb1 hu;have HS1:=Lib.hid (⟨(hbx _ _ _ hp.1 B1.out).1.cell 0,(hbx _ _ _ hp.2.1 B2.out).1.cell 0,(hbx _ _ _ hp.2.2 B3.out).1.cell 0⟩:w1.cell? ⟨p1,0,none⟩=some (.string c.file)∧w1.cell? ⟨p2,0,none⟩=some (.int .i64 c.at_)∧w1.cell? ⟨p3,0,none⟩=some bv);have HS2:=Lib.hid (⟨(hbx _ _ _ hp.1 B1.out).2.cell 0,(hbx _ _ _ hp.2.1 B2.out).2.cell 0,(hbx _ _ _ hp.2.2 B3.out).2.cell 0⟩:w2.cell? ⟨p1,0,none⟩=some (.string c.file)∧w2.cell? ⟨p2,0,none⟩=some (.int .i64 c.at_)∧w2.cell? ⟨p3,0,none⟩=some bv);have HF:=Lib.hid hfin;clear hfin hu hb1 hbx))
 go_end0
 exact HF.out
theorem BRd.take {w:World} {S:Nat→Prop} {a:Option Addr} {n c k:Nat} {bs:List Int} (h:BRd w S (.slice a n c) bs) (hk:k≤n):BRd w S (.slice a k c) (bs.take k):=by
 have hl:bs.length=n:=by have:=Sl.len h;rwa [zay] at this
 have hbd:=Sl.bd h
 by_cases hp:0<k
 ·obtain ⟨b,off,rfl,hS,hlt,h1,h2,_,hc⟩:=BRd.row h (by omega)
  refine BRd.of_row (by rw [List.length_take];omega) (by omega) h2 (by omega) hS hlt (fun x hx=>BRd.by h x (List.mem_of_mem_take hx)) fun i hi=>?_
  have e:(bs.take k).getD i 0=bs.getD i 0:=by rw [List.getD_eq_getElem?_getD,List.getD_eq_getElem?_getD,List.getElem?_take_of_lt hi]
  rw [e]
  exact ⟨(hc i (by omega)).1,(hc i (by omega)).2.1⟩
 ·have e:k=0:=by omega
  subst e
  exact Rd.emp (fun e=>(hbd.2.2.2 e).2) (by unfold maxLen;omega)
set_option maxHeartbeats 1000000 in
theorem zoq {w:World} {S:Nat→Prop} {c:DChange} {p1 p2 mb:Nat} {M:List File} (hp:S p1∧S p2) (b1:Blk w p1 TSt #[.string c.file]) (b2:Blk w p2 TIn #[.int .i64 c.at_])
  (hm:FilesAt w S mb M) (hs:SortF M) (hmb:¬ S mb) (hl:M.length≤10000) (hn:NmOk c.file) (h0:0≤c.at_) (h1:c.at_≤10000000) (h3:((zae M c.file).getD []).length≤100000000) :
  Calls Try.prog fCu #[.map (some mb),ptrV p1,ptrV p2] w (zcS w S mb (if (zae M c.file).isSome then zap ⟨c.file,((zae M c.file).getD []).take c.at_.toNat⟩ M else M)):=by
 obtain ⟨v,hlk,_,hv⟩:=hm.look hn
 obtain ⟨v2,_,hlk2,hv2⟩:=hm.drew.look hn
 have e1:=hlk
 have c1:=b1.cell 0
 have c2:=b2.cell 0
 simp only [List.getElem?_toArray,List.getElem?_cons_zero] at c1 c2
 cases hf:(zae M c.file).isSome
 ·rw [hf] at hlk
  have HM:=Lib.hid hm
  clear b1 b2 hm hv hlk2 hv2 e1 h0 h1 h3
  unfold ptrV
  go_enter Try.func48,Try.ntmps48
  go_wp2
  go_end0
  exact ⟨rfl,Turn.refl _ _,HM.out.kept rfl (Same.refl _ _) fun _ _ h=> .inl h⟩
 ·rw [hf] at hlk
  obtain ⟨a,cap,rfl,hsl⟩:=hv.shape
  obtain ⟨bs,hbs⟩:∃ bs,(zae M c.file).getD []=bs:=⟨_,rfl⟩
  rw [hbs] at hv hlk h3 hsl ⊢
  obtain ⟨n,hnn⟩:∃ n,bs.length=n:=⟨_,rfl⟩
  obtain ⟨k,hk⟩:∃ k:Nat,min c.at_ (n:Int)=k:=⟨(min c.at_ (n:Int)).toNat,by omega⟩
  rw [hnn] at hv hlk h3 hsl
  have hkn:k≤n:=by omega
  have hbd:=Sl.bd hsl
  have et:bs.take c.at_.toNat=bs.take k:=by
   by_cases h:c.at_≤n
   ·congr 1;omega
   ·rw [List.take_of_length_le (by omega),List.take_of_length_le (by omega)]
  rw [et]
  have hC:=Lib.hid (zdZ (w:=w.drew) (Rd.drew (hv.take hkn)) (by rw [List.length_take];omega))
  have B1:=Lib.hid b1
  have B2:=Lib.hid b2
  have hput:=fun w1 u h1 h2=>zcd (w1:=w1) (u:=u) (bs:=bs.take k) hm hs hmb hl hn h1 h2
  have HP:=Lib.hid hput
  have hkn2:(k:Int)≤(n:Int):=by omega
  have hcap2:n≤cap:=hbd.1
  have hkc:(k:Int)≤(cap:Int):=by omega
  have hk0:(0:Int)≤(k:Int):=by omega
  clear b1 b2 hm hv hlk2 hv2 e1 h0 h1 h3 hput hbd hsl et
  unfold ptrV
  go_enter Try.func48,Try.ntmps48
  go_wp2_with fail
  go_region_held3 (fun W=>W.cell? ⟨p1,0,none⟩=some (.string c.file)∧W.cell? ⟨p2,0,none⟩=some (.int .i64 c.at_)) (first | exact ⟨c1,c2⟩ | exact HS1.out | exact HS2.out) (first | (go_at_call 28;refine hC.out.mono ?_;rintro e w1 ⟨u,rfl,hb1,hu⟩;obtain ⟨w2,hup,hfin,hbx⟩:=HP.out w1 u hb1 hu;have HS1:=Lib.hid (⟨(hbx _ _ _ hp.1 B1.out).1.cell 0,(hbx _ _ _ hp.2 B2.out).1.cell 0⟩:w1.cell? ⟨p1,0,none⟩=some (.string c.file)∧w1.cell? ⟨p2,0,none⟩=some (.int .i64 c.at_));have HS2:=Lib.hid (⟨(hbx _ _ _ hp.1 B1.out).2.cell 0,(hbx _ _ _ hp.2 B2.out).2.cell 0⟩:w2.cell? ⟨p1,0,none⟩=some (.string c.file)∧w2.cell? ⟨p2,0,none⟩=some (.int .i64 c.at_));have HF:=Lib.hid hfin;clear hfin hu hb1 hbx))
  go_wp2
  go_end0
  exact HF.out
theorem znN {w:World} {S:Nat→Prop} {c:DChange} {p1 mb:Nat} {M:List File} (hp:S p1) (b1:Blk w p1 TSt #[.string c.file])
  (hm:FilesAt w S mb M) (hs:SortF M) (hmb:¬ S mb) (hn:NmOk c.file):Calls Try.prog fRm #[.map (some mb),ptrV p1] w (zcS w S mb (za6 M c.file)):=by
 have c1:=b1.cell 0
 simp only [List.getElem?_toArray,List.getElem?_cons_zero] at c1
 obtain ⟨w2,hdr,hf2,hg⟩:=hm.drop hs hn hmb 0
 have hF:zcS w S mb (za6 M c.file) (.returned (.tuple #[])) w2:=⟨rfl,Turn.grown (F:=fun x=>x=mb) hg fun x e=> .inl (Option.some.inj e).symm,hf2.kept rfl (Same.refl _ _) fun _ _ h=> .inl h⟩
 have HF:=Lib.hid hF
 clear b1 hm hf2 hg hF
 unfold ptrV
 go_enter Try.func49,Try.ntmps49
 go_wp2
 go_end0
 exact HF.out
theorem zkY {M:List File} (hs:SortF M) (c:DChange) (hk:c.kind=2):(if (zae M c.file).isSome then zap ⟨c.file,((zae M c.file).getD []).take c.at_.toNat⟩ M else M)=zad M c:=by
 refine SortF.ext ?_ (hs.done c) fun m=>?_
 ·split
  ·exact hs.put _
  ·exact hs
 ·have e1:∀ o,zcP c o=if ((o.getD []).length:Int)≤c.at_ then o else o.map fun b=>b.take c.at_.toNat:=fun o=>by
   unfold zcP
   rw [if_neg (by rw [hk];decide),if_pos hk]
  rw [zbA,e1]
  cases hl:zae M c.file with
  | none=>
   rw [if_neg (by decide)]
   cases e:eqN c.file m
   ·simp
   ·have:=eqN_iff.1 e
    subst this
    rw [hl]
    simp
  | some b=>
   rw [if_pos (show (some b).isSome=true from rfl),zb8]
   cases e:eqN c.file m
   ·simp
   ·simp only [if_true,Option.getD_some]
    split
    ·rename_i h
     rw [List.take_of_length_le (by omega)]
    ·rfl
theorem zjy {w:World} {S:Nat→Prop} {c:DChange} {dv:Value} {mb:Nat} {M:List File} (h:DoAt w S c dv) (hm:FilesAt w S mb M) (hs:SortF M) (hmb:¬ S mb) (hl:M.length≤10000) (hn:NmOk c.file) (h0:0≤c.at_) (h1:c.at_≤10000000) (h2:c.bytes.length≤10000000) (h3:((zae M c.file).getD []).length≤100000000) :
  ∃ f cs,dv = .func (.func f) #[] (List.toArray cs)∧FnB Try.prog f∧Calls Try.prog f (.map (some mb)::cs).toArray w (zcS w S mb (zad M c)):=by
 cases h with
 | wr k hp b1 b2 b3 hr=>
  refine ⟨_,_,rfl,fnB Try.func54 (by decide) rfl,?_⟩
  have:=znG hp b1 b2 b3 hr hm hs hmb hl hn h0 h1 h2 h3
  have e:zad M c=zap ⟨c.file,zaB ((zae M c.file).getD []) c.at_.toNat c.bytes⟩ M:=by unfold zad;rw [if_pos k,za0]
  rw [e]
  exact this
 | cu k hp b1 b2=>
  refine ⟨_,_,rfl,fnB Try.func48 (by decide) rfl,?_⟩
  have:=zoq hp b1 b2 hm hs hmb hl hn h0 h1 h3
  rw [zkY hs c k] at this
  exact this
 | rm k hp b1=>
  refine ⟨_,_,rfl,fnB Try.func49 (by decide) rfl,?_⟩
  have:=znN hp b1 hm hs hmb hn
  have e:zad M c=za6 M c.file:=by unfold zad;rw [if_neg (by rw [k];decide),if_neg (by rw [k];decide)]
  rw [e]
  exact this
theorem box1 {w:World} {g:Nat} {t:TypeId} {v0:Value} (h:Blk w g t #[v0]):w.cell? ⟨g,0,none⟩=some v0:=h.cell 0
theorem zmk {w:World} {g:Nat} {t:TypeId} {v0:Value} (h:Blk w g t #[v0]):w.frozen? ⟨g,0,none⟩=false:=h.frozen 0
theorem box5 {w:World} {g:Nat} {t:TypeId} {v0 v1 v2 v3 v4:Value} (h:Blk w g t #[v0,v1,v2,v3,v4]):w.cell? ⟨g,0,none⟩=some v0∧w.cell? ⟨g,1,none⟩=some v1∧w.cell? ⟨g,2,none⟩=some v2∧w.cell? ⟨g,3,none⟩=some v3∧w.cell? ⟨g,4,none⟩=some v4:=
 ⟨h.cell 0,h.cell 1,h.cell 2,h.cell 3,h.cell 4⟩
theorem thaw5 {w:World} {g:Nat} {t:TypeId} {v0 v1 v2 v3 v4:Value} (h:Blk w g t #[v0,v1,v2,v3,v4]):w.frozen? ⟨g,0,none⟩=false∧w.frozen? ⟨g,1,none⟩=false∧w.frozen? ⟨g,2,none⟩=false∧w.frozen? ⟨g,3,none⟩=false∧w.frozen? ⟨g,4,none⟩=false:=
 ⟨h.frozen 0,h.frozen 1,h.frozen 2,h.frozen 3,h.frozen 4⟩
theorem box7 {w:World} {g:Nat} {t:TypeId} {v0 v1 v2 v3 v4 v5 v6:Value} (h:Blk w g t #[v0,v1,v2,v3,v4,v5,v6]):w.cell? ⟨g,0,none⟩=some v0∧w.cell? ⟨g,1,none⟩=some v1∧w.cell? ⟨g,2,none⟩=some v2∧w.cell? ⟨g,3,none⟩=some v3∧w.cell? ⟨g,4,none⟩=some v4∧w.cell? ⟨g,5,none⟩=some v5∧w.cell? ⟨g,6,none⟩=some v6:=
 ⟨h.cell 0,h.cell 1,h.cell 2,h.cell 3,h.cell 4,h.cell 5,h.cell 6⟩
theorem ze3 {w:World} {g:Nat} {t:TypeId} {v0 v1 v2 v3 v4 v5 v6:Value} (h:Blk w g t #[v0,v1,v2,v3,v4,v5,v6]):w.frozen? ⟨g,0,none⟩=false∧w.frozen? ⟨g,1,none⟩=false∧w.frozen? ⟨g,2,none⟩=false∧w.frozen? ⟨g,3,none⟩=false∧w.frozen? ⟨g,4,none⟩=false∧w.frozen? ⟨g,5,none⟩=false∧w.frozen? ⟨g,6,none⟩=false:=
 ⟨h.frozen 0,h.frozen 1,h.frozen 2,h.frozen 3,h.frozen 4,h.frozen 5,h.frozen 6⟩
theorem zfi {P:Program} (w:World) (a:Addr) (f:Fn) (bs cs:Array Value) (h:(w.cell? a).isSome=true) (hf:w.frozen? a=false):(store a (.func f bs cs)).run P w = .ok () (w.setCell a (.func f bs cs)):=by
 obtain ⟨u,hu⟩:=Option.isSome_iff_exists.1 h
 rw [run_store P w a _ _ rfl,hu]
 simp [hf]
def zov (w:World) (c:DChange) (e:Ending) (w':World):Prop:=∃ cs:List Value,e = .returned (.agg cs.toArray)∧ChAt w' (fun x=>w.heap.size≤x) c cs∧Below w.heap.size w w'
set_option maxHeartbeats 1000000 in
theorem zcu {w:World} {S:Nat→Prop} {file:ByteArray} {at_:Int} {bv:Value} {bs:List Int} (hn:NmOk file) (h0:0≤at_) (h1:at_≤10000000) (hr:BRd w S bv bs) (h2:bs.length≤10000000) :
  Calls Try.prog 34 #[.string file,.int .i64 at_,bv] w (zov w ⟨1,file,at_,bs⟩):=by
 have hC:=fun (w1:World) (hb:Below w.heap.size w w1)=>zdZ (hr.here.same (Same.below hb)) (by omega:bs.length≤100000000)
 have HC:=Lib.hid hC
 obtain ⟨a,cap,rfl,_⟩:=hr.shape
 obtain ⟨n,hnn⟩:∃ n,bs.length=n:=⟨_,rfl⟩
 rw [hnn] at HC
 clear hC hr
 go_enter Try.func34,Try.ntmps34
 go_wp2_with fail
 refine (HC.out _ ((((((Below.refl _ _).alloc (Nat.le_refl _) _).alloc (by simp<;>omega) _).alloc (by simp<;>omega) _)).alloc (by simp<;>omega) _)).mono ?_
 rintro e w5 ⟨u,rfl,hb5,hu⟩
 have kA0:=((((Blk.newAt _ (w.heap.size) TSt #[.string file] (by simp)).alloc _).alloc _).alloc _).below hb5 (by simp<;>omega);have qA0_0:=box1 kA0;have fA0_0:=zmk kA0;have kA1:=(((Blk.newAt _ (w.heap.size+1) TIn #[.int .i64 at_] (by simp)).alloc _).alloc _).below hb5 (by simp<;>omega);have qA1_0:=box1 kA1;have fA1_0:=zmk kA1;have kA2:=((Blk.newAt _ (w.heap.size+1+1) TBy #[.slice a n cap] (by simp)).alloc _).below hb5 (by simp<;>omega);have qA2_0:=box1 kA2;have fA2_0:=zmk kA2;have kA3:=(Blk.newAt _ (w.heap.size+1+1+1) TCh #[.string ⟨#[]⟩,.nilFunc,.int .i64 0,.slice none 0 0,.bool false] (by simp)).below hb5 (by simp<;>omega);obtain ⟨qA3_0,qA3_1,qA3_2,qA3_3,qA3_4⟩:=box5 kA3;obtain ⟨fA3_0,fA3_1,fA3_2,fA3_3,fA3_4⟩:=thaw5 kA3
 obtain ⟨a2,c2,rfl,_⟩:=hu.shape
 have HU:=Lib.hid hu
 have hsf:= @zfi Try.prog
 have HB5:=Lib.hid hb5
 clear hu hb5
 go_wp2_with fail
 obtain ⟨W,hW⟩:∃ W:World,((((((w5.setCell ⟨w.heap.size+1+1,0,none⟩ (.slice a2 n c2)).setCell ⟨w.heap.size+1+1+1,0,none⟩ (.string file)).setCell ⟨w.heap.size+1+1+1,1,none⟩ (.func (.func fWr) #[] #[ptrV w.heap.size,ptrV (w.heap.size+1),ptrV (w.heap.size+1+1)])).setCell ⟨w.heap.size+1+1+1,2,none⟩ (.int .i64 at_)).setCell ⟨w.heap.size+1+1+1,3,none⟩ (.slice a2 n c2)).setCell ⟨w.heap.size+1+1+1,4,none⟩ (.bool true))=W:=⟨_,rfl⟩
 have m0:Blk W w.heap.size TSt #[.string file]:=by
  rw [← hW];exact (((((kA0.far (by simp<;>omega) _).far (by simp<;>omega) _).far (by simp<;>omega) _).far (by simp<;>omega) _).far (by simp<;>omega) _).far (by simp<;>omega) _
 have m1:Blk W (w.heap.size+1) TIn #[.int .i64 at_]:=by
  rw [← hW];exact (((((kA1.far (by simp<;>omega) _).far (by simp<;>omega) _).far (by simp<;>omega) _).far (by simp<;>omega) _).far (by simp<;>omega) _).far (by simp<;>omega) _
 have m2:Blk W (w.heap.size+1+1) TBy #[.slice a2 n c2]:=by
  rw [← hW];exact (((((kA2.set 0 (.slice a2 n c2)).far (by simp<;>omega) _).far (by simp<;>omega) _).far (by simp<;>omega) _).far (by simp<;>omega) _).far (by simp<;>omega) _
 have m3:Blk W (w.heap.size+1+1+1) TCh #[.string file,.func (.func fWr) #[] #[ptrV w.heap.size,ptrV (w.heap.size+1),ptrV (w.heap.size+1+1)],.int .i64 at_,.slice a2 n c2,.bool true]:=by
  rw [← hW];exact (((((kA3.far (by simp<;>omega) (p:=⟨w.heap.size+1+1,0,none⟩) _).set 0 (.string file)).set 1 _).set 2 _).set 3 _).set 4 _
 obtain ⟨g0,g1,g2,g3,g4⟩:=box5 m3
 have hS:Same (fun x=>w.heap.size+4≤x) w5 W:=by
  rw [← hW]
  exact ((((((Same.refl _ w5).trans (Same.setCell (by show ¬ _;simp<;>omega) _)).trans (Same.setCell (by show ¬ _;simp<;>omega) _)).trans (Same.setCell (by show ¬ _;simp<;>omega) _)).trans (Same.setCell (by show ¬ _;simp<;>omega) _)).trans (Same.setCell (by show ¬ _;simp<;>omega) _)).trans (Same.setCell (by show ¬ _;simp<;>omega) _)
 have hB:Below w.heap.size w W:=by
  have h4:=(((((Below.refl w.heap.size w).alloc (Nat.le_refl _) (.cells #[.string file] TSt)).alloc (by simp<;>omega) (.cells #[.int .i64 at_] TIn)).alloc (by simp<;>omega) (.cells #[.slice a n cap] TBy)).alloc (by simp<;>omega) (.cells #[.string ⟨#[]⟩,.nilFunc,.int .i64 0,.slice none 0 0,.bool false] TCh)).trans (HB5.out.mono (by simp<;>omega))
  rw [← hW]
  exact (((((h4.setCell (by simp<;>omega) _).setCell (by simp<;>omega) _).setCell (by simp<;>omega) _).setCell (by simp<;>omega) _).setCell (by simp<;>omega) _).setCell (by simp<;>omega) _
 have hu2:=HU.out
 rw [hnn] at hu2
 have hr:BRd W (fun x=>w.heap.size≤x) (.slice a2 n c2) bs:=((hu2.mono (T:=fun x=>w.heap.size+4≤x) (fun b _ hb=>by simp at hb;show w.heap.size+4≤b;omega)).same hS).mono fun b _ hb=>by have hb:w.heap.size+4≤b:=hb;omega
 unfold ptrV at hW g1
 rw [hW]
 refine bodyPost_ret (v:= .agg #[.string file,.func (.func fWr) #[] #[ptrV w.heap.size,ptrV (w.heap.size+1),ptrV (w.heap.size+1+1)],.int .i64 at_,.slice a2 n c2,.bool true]) (by simp [results,Try.results34,go_sem,g0,g1,g2,g3,g4,ptrV]) rfl ⟨[_,_,_,_,_],rfl,⟨⟨_,_,rfl,.wr rfl ⟨Nat.le_refl _,Nat.le_succ _,by show w.heap.size≤w.heap.size+1+1;omega⟩ m0 m1 m2 hr,hr⟩,hn,⟨h0,h1⟩,h2⟩,hB⟩
end Go.Proofs.Ytfccndnnpkiajaa
namespace Go.Proofs.Ytfccndnnpkiajaa
open Go.RowKit Go.ChangeShapes Go.WideShapes Go.Deep
set_option maxRecDepth 100000
section
variable {w : World} {b : Nat} {d : RDisk} {F : Nat → Prop} {m1 m2 : Nat} {v : Value} {rows : List (List Value)}
theorem ze9 {n:Nat} {xs:List Value} (h:w.ownsRow 0 TCh 5 v n xs) {g:Nat} (hg:v.ownBlock=some g):∃ cur,w.heap[g]? = some (.cells cur TCh (0,0)):=by
 rcases h.2 with ⟨rfl,_⟩ | ⟨g',cap,cur,rfl,_,hh,_⟩
 ·cases hg
 ·have e:g'=g:=Option.some.inj hg
  subst e
  exact ⟨cur,hh⟩
theorem DkAt.b1 (h:DkAt w b d F m1 m2 v rows):b≠m1:=fun e=>by
 obtain ⟨es,c,hb⟩:=h.la.blk
 have h1:=h.blk
 unfold Blk at h1
 rw [← e,h1] at hb
 cases hb
theorem DkAt.b2 (h:DkAt w b d F m1 m2 v rows):b≠m2:=fun e=>by
 obtain ⟨es,c,hb⟩:=h.no.blk
 have h1:=h.blk
 unfold Blk at h1
 rw [← e,h1] at hb
 cases hb
theorem DkAt.bv (h:DkAt w b d F m1 m2 v rows):v.ownBlock≠some b:=fun e=>by
 obtain ⟨cur,hb⟩:=ze9 h.row e
 have h1:=h.blk
 unfold Blk at h1
 rw [h1] at hb
 have:=Option.some.inj hb
 simp only [Obj.cells.injEq] at this
 exact absurd this.2.1 (by decide)
theorem DkAt.v1 (h:DkAt w b d F m1 m2 v rows):v.ownBlock≠some m1:=fun e=>by
 obtain ⟨cur,hb⟩:=ze9 h.row e
 obtain ⟨es,c,hb2⟩:=h.la.blk
 rw [hb2] at hb
 cases hb
theorem DkAt.v2 (h:DkAt w b d F m1 m2 v rows):v.ownBlock≠some m2:=fun e=>by
 obtain ⟨cur,hb⟩:=ze9 h.row e
 obtain ⟨es,c,hb2⟩:=h.no.blk
 rw [hb2] at hb
 cases hb
theorem DkAt.kept (h:DkAt w b d F m1 m2 v rows) {w':World} {G:Nat→Prop} (hs:w.heap.size≤w'.heap.size) (e:∀ x,F x→w'.heap[x]? = w.heap[x]?) (hG:∀ x,F x→G x) (hGl:∀ x,G x→x<w'.heap.size):DkAt w' b d G m1 m2 v rows:=by
 have hS:Same (SB F b m1 m2 v) w w':=⟨hs,fun x hx _=>e x hx.1⟩
 have hT:∀ x,x<w.heap.size→SB F b m1 m2 v x→SB G b m1 m2 v x:=fun x _ hx=>⟨hG x hx.1,hx.2⟩
 exact ⟨(e b h.fb).trans h.blk,h.la.kept (e m1 h.f1) hS hT,h.no.kept (e m2 h.f2) hS hT,zan h.row fun g hg=>e g (h.fv g hg),h.rl,fun i hi=>(h.ch i hi).kept hS hT,hGl,hG _ h.fb,hG _ h.f1,hG _ h.f2,fun g hg=>hG _ (h.fv g hg),h.mm,h.inv⟩
end
theorem DkOk.kept {w w':World} {b:Nat} {d:RDisk} {F:Nat→Prop} (h:DkOk w b d F) (hs:w.heap.size≤w'.heap.size) (e:∀ x,F x→w'.heap[x]? = w.heap[x]?):DkOk w' b d F:=by
 obtain ⟨m1,m2,v,rows,h⟩:=h.o
 exact ⟨m1,m2,v,rows,h.kept hs e (fun _ h=>h) fun x hx=>Nat.lt_of_lt_of_le (h.fl x hx) hs⟩
def DPost (w:World) (b:Nat) (F:Nat→Prop) (d':RDisk) (r:Value) (e:Ending) (w':World):Prop:=
 e = .returned r∧∃ F',DkOk w' b d' F'∧(∀ x,F' x→F x∨w.heap.size≤x)∧Turn F w w'
theorem DPost.same {w w':World} {b:Nat} {F:Nat→Prop} {d:RDisk} {r:Value} (h:DkOk w b d F) (hb:Below w.heap.size w w'):DPost w b F d r (.returned r) w' :=
 ⟨rfl,F,h.kept hb.size fun x hx=>hb.block x (h.lt hx),fun x hx=> .inl hx,Turn.below hb⟩
theorem DkAt.scal {w w':World} {b:Nat} {d d':RDisk} {F:Nat→Prop} {m1 m2:Nat} {v:Value} {rows:List (List Value)} (h:DkAt w b d F m1 m2 v rows) (hs:w.heap.size≤w'.heap.size) (hb:Blk w' b TDi (dkCs d' m1 m2 v)) (e:∀ x,x<w.heap.size→x≠b→w'.heap[x]? = w.heap[x]?)
  (el:d'.lasts=d.lasts) (ec:d'.changes=d.changes) (er:d'.room=d.room) (hl:I64 d'.left):DkAt w' b d' F m1 m2 v rows:=by
 have hS:Same (SB F b m1 m2 v) w w':=⟨hs,fun x hx hl=>e x hl hx.2.1⟩
 have ef:zaa d'=zaa d:=by unfold zaa;rw [el,ec]
 have hi:DkI d':=⟨el▸h.inv.sl,el▸h.inv.fb,ec▸h.inv.ch,el▸h.inv.nm,by rw [el,ec];exact h.inv.np,er▸h.inv.rm,hl⟩
 refine ⟨hb,?_,?_,?_,by rw [ec];exact h.rl,?_,fun x hx=>Nat.lt_of_lt_of_le (h.fl x hx) hs,h.fb,h.f1,h.f2,h.fv,h.mm,hi⟩
 ·rw [el];exact h.la.kept (e m1 (h.fl _ h.f1) (Ne.symm h.b1)) hS fun _ _ h=>h
 ·rw [ef];exact h.no.kept (e m2 (h.fl _ h.f2) (Ne.symm h.b2)) hS fun _ _ h=>h
 ·rw [ec];exact zan h.row fun g hg=>e g (h.fl _ (h.fv g hg)) fun e=>h.bv (e▸hg)
 ·rw [ec];exact fun i hi=>(h.ch i hi).kept hS fun _ _ h=>h
theorem zbp {w:World} {b:Nat} {d:RDisk} {F:Nat→Prop} (h:DkOk w b d F):Calls Try.prog 29 #[ptrV b] w fun e w'=>e = .returned (.int .i64 (if d.down then 120 else 0))∧Below w.heap.size w w':=by
 obtain ⟨m1,m2,v,rows,h⟩:=h.o
 obtain ⟨q0,q1,q2,q3,q4,q5,q6⟩:=box7 h.blk
 clear h
 unfold ptrV
 cases hd:d.down
 all_goals
  rw [hd] at q4
  go_enter Try.func29,Try.ntmps29
  go_wp2
  go_ret
  exact ⟨rfl,Below.refl _ _⟩
theorem zkR {w:World} {b:Nat} {d:RDisk} {F:Nat→Prop} (h:DkOk w b d F):Calls Try.prog 15 #[ptrV b] w fun e w'=>e = .returned (.bool d.down)∧Below w.heap.size w w':=by
 obtain ⟨m1,m2,v,rows,h⟩:=h.o
 obtain ⟨q0,q1,q2,q3,q4,q5,q6⟩:=box7 h.blk
 clear h
 unfold ptrV
 go_enter Try.func15,Try.ntmps15
 go_wp2
 go_ret
 exact ⟨rfl,Below.refl _ _⟩
end Go.Proofs.Ytfccndnnpkiajaa
namespace Go.Proofs.Ytfccndnnpkiajaa
open Go.RowKit Go.ChangeShapes Go.WideShapes Go.Deep
set_option maxRecDepth 100000
theorem wrap_i64 (x:Int):I64 (IntKind.i64.wrap x):=by rw [IntKind.wrap_i64];omega
theorem zat {w:World} {p:Addr} {u:Value} {x:Nat} (h:x≠p.block):(w.setCell p u).heap[x]? = w.heap[x]? := Below.heap_setCell w p u x h
theorem ze8 {w:World} {b:Nat} {d:RDisk} {F:Nat→Prop} (h:DkOk w b d F):Calls Try.prog 33 #[ptrV b] w (DPost w b F (zbh d) (.tuple #[])):=by
 obtain ⟨m1,m2,v,rows,h⟩:=h.o
 obtain ⟨q0,q1,q2,q3,q4,q5,q6⟩:=box7 h.blk
 obtain ⟨z0,z1,z2,z3,z4,z5,z6⟩:=ze3 h.blk
 have H:=Lib.hid h
 clear h
 unfold ptrV
 cases hs:d.stops
 ·rw [hs] at q5
  go_enter Try.func33,Try.ntmps33
  go_wp2
  go_end0
  have e:zbh d=d:=by
   cases d
   simp only at hs
   subst hs
   rfl
  rw [e]
  exact DPost.same ⟨_,_,_,_,H.out⟩ (Below.refl _ _)
 ·rw [hs] at q5
  have hw:=Lib.hid (wrap_i64 (d.left-1))
  obtain ⟨l,hl⟩:∃ l,IntKind.i64.wrap (d.left-1)=l:=⟨_,rfl⟩
  rw [hl] at hw
  have hdec:∀ w':World,w'.cell? ⟨b,6,none⟩=some (.int .i64 l)→w'.cell? ⟨b,6,none⟩=some (.int .i64 l):=fun _ h=>h
  clear hdec
  go_enter Try.func33,Try.ntmps33
  go_wp2
  go_end0
  have h:=H.out
  refine ⟨rfl,F,⟨m1,m2,v,rows,h.scal (by simp [World.setCell]) ?_ (fun x _ hx=>by rw [zat hx,zat hx]) rfl rfl rfl ?_⟩,fun x hx=> .inl hx,((Turn.refl F w).set (.inl h.fb) _).set (.inl h.fb) _⟩
  ·have e:dkCs (zbh d) m1 m2 v = #[.int .i64 d.room,.map (some m1),.map (some m2),v,.bool (decide (l≤0)),.bool true,.int .i64 l]:=by
    unfold dkCs zbh
    simp only [hs,if_true,hl]
   rw [e]
   have k:=(h.blk.set 6 (.int .i64 l)).set 4 (.bool (decide (l≤0)))
   simpa [dkCs,hs] using k
  ·show I64 (if d.stops then IntKind.i64.wrap (d.left-1) else d.left)
   rw [hs,if_pos rfl,hl];exact hw.out
theorem zka {w:World} {b:Nat} {d:RDisk} {F:Nat→Prop} (h:DkOk w b d F) (n:Int):Calls Try.prog 21 #[ptrV b,.int .i64 n] w (DPost w b F (zby d n).1 (.int .i64 (zby d n).2)):=by
 have hst:=Lib.hid (zbp h)
 have h0:=Lib.hid h
 obtain ⟨m1,m2,v,rows,h⟩:=h.o
 have H:=Lib.hid h
 clear h
 cases hd:d.down
 ·rw [hd] at hst
  unfold zby
  rw [hd]
  simp only [Bool.false_eq_true,if_false]
  by_cases hn:n<0∨n>1000000000
  ·rw [if_pos hn]
   unfold ptrV at hst ⊢
   by_cases h1:n<0
   ·have c1:decide (n<0)=true:=decide_eq_true h1
    go_enter Try.func21,Try.ntmps21
    go_wp2_with (go_at_call 29;refine hst.out.mono ?_;rintro e w1 ⟨rfl,hb1⟩)
    go_ret
    exact DPost.same h0.out hb1
   ·have c1:decide (n<0)=false:=decide_eq_false h1
    have c2:decide (n>1000000000)=true:=decide_eq_true (by omega)
    go_enter Try.func21,Try.ntmps21
    go_wp2_with (go_at_call 29;refine hst.out.mono ?_;rintro e w1 ⟨rfl,hb1⟩)
    go_ret
    exact DPost.same h0.out hb1
  ·rw [if_neg hn]
   have c1:decide (n<0)=false:=decide_eq_false (by omega)
   have c2:decide (n>1000000000)=false:=decide_eq_false (by omega)
   have hn1:I64 n:=⟨by omega,by omega⟩
   have HN:=Lib.hid hn1
   clear hn hn1
   unfold ptrV at hst ⊢
   go_enter Try.func21,Try.ntmps21
   go_wp2_with (go_at_call 29;refine hst.out.mono ?_;rintro e w1 ⟨rfl,hb1⟩;have k1:=H.out.blk.below hb1 (H.out.fl _ H.out.fb);obtain ⟨q0,q1,q2,q3,q4,q5,q6⟩:=box7 k1;obtain ⟨z0,z1,z2,z3,z4,z5,z6⟩:=ze3 k1;have HB:=Lib.hid hb1;clear hb1 k1)
   go_ret
   have h:=H.out
   have hb1:=HB.out
   have h1:DkAt w1 b d F m1 m2 v rows:=h.kept hb1.size (fun x hx=>hb1.block x (h.fl x hx)) (fun _ h=>h) fun x hx=>Nat.lt_of_lt_of_le (h.fl x hx) hb1.size
   refine ⟨rfl,F,⟨m1,m2,v,rows,h1.scal (by simp [World.setCell]) ?_ (fun x _ hx=>by rw [zat hx,zat hx,zat hx]) rfl rfl rfl HN.out⟩,fun x hx=> .inl hx,(((Turn.below hb1).set (.inl h.fb) _).set (.inl h.fb) _).set (.inl h.fb) _⟩
   have k:=((h1.blk.set 5 (.bool true)).set 6 (.int .i64 n)).set 4 (.bool (n==0))
   simpa [dkCs] using k
 ·have e:zby d n=(d,120):=by unfold zby;rw [hd];rfl
  rw [e]
  rw [hd] at hst
  unfold ptrV at hst ⊢
  go_enter Try.func21,Try.ntmps21
  go_wp2_with (go_at_call 29;refine hst.out.mono ?_;rintro e w1 ⟨rfl,hb1⟩)
  go_ret
  exact DPost.same h0.out hb1
theorem zcY (d:RDisk) (n:ByteArray):zaw d n=(match zae (zaa d) n with | none=>([],122) | some b=>(b,0)):=by
 unfold zaw
 have h:=(zaE (zaa d) n).1
 cases e:zae (zaa d) n with
 | none=>rw [if_pos (h.2 e)]
 | some b=>
  have h2:¬ zaj (zaa d) n<0:=fun g=>by rw [h.1 g] at e;cases e
  rw [if_neg h2,za0,e]
  rfl
theorem zhJ {l:List File} {c:DChange} {M:Nat} (hl:∀ x∈l,x.bytes.length≤M) (hc:0≤c.at_∧c.at_+c.bytes.length≤(M:Int)):∀ x∈zad l c,x.bytes.length≤M:=by
 intro x hx
 unfold zad at hx
 split at hx
 ·rcases zaL hx with e | hx
  ·subst e
   show (zaB _ _ _).length≤M
   rw [zaK]
   have:=zbb (n:=c.file) hl
   omega
  ·exact hl x hx
 ·split at hx
  ·split at hx
   ·exact hl x hx
   ·rcases zaL hx with e | hx
    ·subst e
     show (List.take _ _).length≤M
     rw [List.length_take]
     have:=zbb (n:=c.file) hl
     omega
    ·exact hl x hx
  ·exact hl x (List.mem_filter.1 hx).1
theorem zaQ {M:Nat}:∀ (cs:List DChange) (l:List File),(∀ x∈l,x.bytes.length≤M)→(∀ c∈cs,0≤c.at_∧c.at_+c.bytes.length≤(M:Int))→∀ x∈cs.foldl zad l,x.bytes.length≤M
 | [],l,hl,_=>hl
 | c::cs,l,hl,hc=>zaQ cs (zad l c) (zhJ hl (hc c (List.mem_cons_self ..))) fun x hx=>hc x (List.mem_cons_of_mem _ hx)
theorem DkI.now {d:RDisk} (h:DkI d):∀ x∈zaa d,x.bytes.length≤4194304:=zaQ _ _ h.fb fun c hc=>⟨(h.ch c hc).1,(h.ch c hc).2.1⟩
theorem DkI.sn {d:RDisk} (h:DkI d):SortF (zaa d):=h.sl.dones _
theorem zb0 {l:List File} {M:Nat} (h:∀ x∈l,x.bytes.length≤M) (n:ByteArray):((zae l n).getD []).length≤M:=by
 rw [← za0]
 exact zbb h
def zow (w:World) (r:List Int×Int) (e:Ending) (w':World):Prop:=∃ u,e = .returned (.tuple #[u,.int .i64 r.2])∧Below w.heap.size w w'∧BRd w' (fun x=>w.heap.size≤x) u r.1
theorem zgE {w:World} {b:Nat} {d:RDisk} {F:Nat→Prop} (h:DkOk w b d F) {n:ByteArray} (hn:NmOk n):Calls Try.prog 11 #[ptrV b,.string n] w (zow w (zaw d n)):=by
 obtain ⟨m1,m2,v,rows,h⟩:=h.o
 obtain ⟨q0,q1,q2,q3,q4,q5,q6⟩:=box7 h.blk
 obtain ⟨u,hlk,_,hu⟩:=h.no.look hn
 have hl:=zb0 h.inv.now n
 rw [zcY]
 cases e:zae (zaa d) n with
 | none=>
  rw [e] at hlk
  clear h hu hl e
  unfold ptrV
  go_enter Try.func11,Try.ntmps11
  go_wp2
  go_ret2
  exact ⟨_,rfl,Below.refl _ _,BRd.nil _ _⟩
 | some bs=>
  rw [e] at hlk hu hl
  have hC:=Lib.hid (zdZ hu (by have hl:bs.length≤4194304:=hl;show bs.length≤_;omega))
  simp only [Option.isSome_some] at hlk
  clear h hu hl e
  unfold ptrV
  go_enter Try.func11,Try.ntmps11
  go_wp2_with (go_at_call 28;refine hC.out.mono ?_;rintro e w1 ⟨r,rfl,hb1,hr⟩)
  go_ret2
  exact ⟨_,rfl,hb1,hr⟩
def zaR (room:Int):RDisk:=⟨room,[],[],false,false,0⟩
theorem zgX {w:World} {room:Int} (h0:1≤room) (h1:room≤4194304):Calls Try.prog 9 #[.int .i64 room] w fun e w'=>∃ b F,e = .returned (.tuple #[ptrV b,.int .i64 0])∧DkOk w' b (zaR room) F∧(∀ x,F x→w.heap.size≤x)∧Below w.heap.size w w':=by
 have c1:decide (room<1)=false:=decide_eq_false (by omega)
 have c2:decide (room>4194304)=false:=decide_eq_false (by omega)
 have hmm:= @run_makeMap Try.prog
 have HR:=Lib.hid (show 1≤room∧room≤4194304 from ⟨h0,h1⟩)
 clear h0 h1
 go_enter Try.func9,Try.ntmps9
 go_wp2
 go_ret2
 obtain ⟨s,hs⟩:∃ s,w.heap.size=s:=⟨_,rfl⟩
 have f1:FilesAt (w.alloc (.map #[] 0)) (SB (fun x=>x=s∨x=s+1∨x=s+2) (s+2) s (s+1) (.slice none 0 0)) s []:=by have:=FilesAt.made w (SB (fun x=>x=s∨x=s+1∨x=s+2) (s+2) s (s+1) (.slice none 0 0));rwa [hs] at this
 have f2:=FilesAt.made (w.alloc (.map #[] 0)) (SB (fun x=>x=s∨x=s+1∨x=s+2) (s+2) s (s+1) (.slice none 0 0))
 have e2:(w.alloc (.map #[] 0)).heap.size=s+1:=by simp [hs]
 have e3:((w.alloc (.map #[] 0)).alloc (.map #[] 0)).heap.size=s+2:=by simp [hs]
 rw [e2] at f2
 have fa:∀ {w:World} {S:Nat→Prop} {mb:Nat} {M:List File} (o:Obj),FilesAt w S mb M→FilesAt (w.alloc o) S mb M:=fun o h=>h.kept (Below.heap_alloc _ _ _ h.lt) (Same.alloc _ _ _) fun _ _ h=>h
 have hR:=HR.out
 rw [hs]
 refine ⟨s+2,fun x=>x=s∨x=s+1∨x=s+2,rfl,⟨s,s+1,.slice none 0 0,[],⟨?_,fa _ (fa _ f1),fa _ f2,World.ownsRow_nil _ _ _ _,rfl,fun i hi=>absurd hi (Nat.not_lt_zero _),fun x hx=>?_,.inr (.inr rfl),.inl rfl,.inr (.inl rfl),fun g hg=>(by cases hg),by omega,⟨List.Pairwise.nil,fun x hx=>(by cases hx),fun x hx=>(by cases hx),fun x hx=>(by cases hx),trivial,hR,⟨by show (_:Int)≤0;decide,by show (0:Int)≤_;decide⟩⟩⟩⟩,fun x hx=>by omega,?_⟩
 ·have:=Blk.newAt ((w.alloc (.map #[] 0)).alloc (.map #[] 0)) (s+2) TDi (dkCs (zaR room) s (s+1) (.slice none 0 0)) e3.symm
  exact this
 ·simp [hs]
  omega
 ·have:=((((Below.refl w.heap.size w).alloc (Nat.le_refl _) (.map #[] 0)).alloc (by simp) (.map #[] 0)).alloc (by simp<;>omega) (.cells (dkCs (zaR room) s (s+1) (.slice none 0 0)) TDi))
  rw [hs] at this
  exact this
theorem zjz {w:World} {room:Int} (h:room<1∨room>4194304):Calls Try.prog 9 #[.int .i64 room] w fun e w'=>e = .returned (.tuple #[.pointer none,.int .i64 1])∧w'=w:=by
 by_cases h1:room<1
 ·have c1:decide (room<1)=true:=decide_eq_true h1
  go_enter Try.func9,Try.ntmps9
  go_wp2
  go_ret2
  exact ⟨rfl,rfl⟩
 ·have c1:decide (room<1)=false:=decide_eq_false h1
  have c2:decide (room>4194304)=true:=decide_eq_true (by omega)
  go_enter Try.func9,Try.ntmps9
  go_wp2
  go_ret2
  exact ⟨rfl,rfl⟩
abbrev TRw:TypeId:=56
theorem undR:Try.prog.underlying TRw=some (.slice TCh):=by kernel_rfl
def zCh:Value:= .agg #[.string ⟨#[]⟩,.nilFunc,.int .i64 0,.slice none 0 0,.bool false]
theorem zog:∃ i,Try.prog.info? TCh=some i∧i.zero=some zCh∧i.size=5∧i.bytes=64:=by
 have h:(Try.prog.info? TCh).map (fun i=>(i.zero,i.size,i.bytes))=some (some zCh,5,64):=by kernel_rfl
 cases e:Try.prog.info? TCh with
 | none=>rw [e] at h;cases h
 | some i=>
  rw [e] at h
  simp only [Option.map_some,Option.some.injEq,Prod.mk.injEq] at h
  exact ⟨i,rfl,h.1,h.2.1,h.2.2⟩
theorem DoAt.one {w:World} {S:Nat→Prop} {c:DChange} {v:Value} (h:DoAt w S c v):v.oneCell'=true:=by cases h<;>rfl
theorem ChAt.ones {w:World} {S:Nat→Prop} {c:DChange} {cs:List Value} (h:ChAt w S c cs):∀ u∈cs,u.oneCell'=true:=by
 obtain ⟨dv,bv,rfl,h1,h2⟩:=h.D
 intro u hu
 simp only [List.mem_cons,List.not_mem_nil,or_false] at hu
 rcases hu with rfl | rfl | rfl | rfl | rfl
 ·rfl
 ·exact h1.one
 ·rfl
 ·exact h2.one
 ·rfl
theorem zgB {w:World} {v:Value} {n:Nat} {xs cs:List Value} {ty:TypeId} (hr:w.ownsRow 0 TCh 5 v n xs) (hl:cs.length=5) (h1:∀ u∈cs,u.oneCell'=true) (hn:n≤100000) :
  ∃ v' w',(Builtin.append_ #[TRw,TRw] ty #[v,.slice (some ⟨w.heap.size,0,none⟩) 1 1]).run Try.prog (w.alloc (.cells cs.toArray TCh)) = .ok v' w'∧w'.ownsRow 0 TCh 5 v' (n+1) (xs++cs)∧w.grownBy w' v.ownBlock∧(v'.ownBlock=v.ownBlock∨∃ g,v'.ownBlock=some g∧w.heap.size≤g):=by
 obtain ⟨i,e1,e2,e3,e4⟩:=zog
 have hr1:(w.alloc (.cells cs.toArray TCh)).ownsRow 0 TCh 5 v n xs:=zan hr fun g hg=>Below.heap_alloc _ _ _ (hr.lt g hg).2
 obtain ⟨v',w',q1,q2,q3,_,q5⟩:=run_append_own_at (P:=Try.prog) (w.alloc (.cells cs.toArray TCh)) 0 TRw ty TCh i zCh 5 64 undR e1 e2 e3 e4 rfl (by decide) v n xs hr1 ⟨w.heap.size,0,none⟩ 1 1 cs (by omega)
  (fun j u hj=>by rw [WideShapes.add_plain,World.cell?_alloc_at _ _ _ _ rfl];simpa using hj) h1 (by unfold maxLen;omega) (by omega) (Nat.zero_le _)
 refine ⟨v',w',q1,q2,⟨q3.os,q3.tape,q3.output,by have:=q3.size;simp at this;omega,fun b hb hne=>by rw [q3.block b (by simp;omega) hne,Below.heap_alloc _ _ _ hb]⟩,?_⟩
 rcases q5 with e | e
 ·exact .inl e
 ·exact .inr ⟨_,e,by simp⟩
theorem zfe {ops:Array Oper} {o:Oper} {a:Act} {K:Act→World→Prop} {Q:Exit→Act→World→Prop} {E:Prop} {w:World} (hgd:o.guard=none) (s x:Operand)
  (ho:o.op = .call {callee:= .builtin .append,args:= #[s,x],argTypes:= #[TRw,TRw]}) (v:Value) (n:Nat) (xs cs:List Value) (hs:a.eval s=v) (hr:w.ownsRow 0 TCh 5 v n xs) (hl:cs.length=5) (h1:∀ u∈cs,u.oneCell'=true) (hn:n≤100000)
  (ad:Addr) (had:ad=⟨w.heap.size,0,none⟩) (hx:a.eval x = .slice (some ad) 1 1)
  (h:∀ v' w',w'.ownsRow 0 TCh 5 v' (n+1) (xs++cs)→w.grownBy w' v.ownBlock→(v'.ownBlock=v.ownBlock∨∃ g,v'.ownBlock=some g∧w.heap.size≤g)→K (a.put o.dst v') w') :
  if Region.wanted o (yielded ops a.tmps)=true then Oper.wp Try.prog o a (w.alloc (.cells cs.toArray TCh)) K Q else E:=by
 subst had
 have hw:Region.wanted o (yielded ops a.tmps)=true:=by simp [Region.wanted,hgd]
 rw [if_pos hw]
 obtain ⟨v',w',q1,q2,q3,q4⟩:=zgB (ty:=o.type) hr hl h1 hn
 exact zl0 s x TRw ho v _ hs hx (fun v' w'=>w'.ownsRow 0 TCh 5 v' (n+1) (xs++cs)∧w.grownBy w' v.ownBlock∧(v'.ownBlock=v.ownBlock∨∃ g,v'.ownBlock=some g∧w.heap.size≤g)) ⟨v',w',q1,q2,q3,q4⟩ (fun v' w' hR=>h v' w' hR.1 hR.2.1 hR.2.2)
theorem zel:∀ (cs:List DChange) (l:List File) (c:DChange),zgr l cs→(c.kind=1→c.at_≤((zae (cs.foldl zad l) c.file).getD []).length)→zgr l (cs++[c])
 | [],l,c,_,h=>⟨h,trivial⟩
 | x::cs,l,c,hn,h=>⟨hn.1,zel cs (zad l x) c hn.2 h⟩
def zed (d:RDisk) (c:DChange):RDisk:={d with changes:=d.changes++[c]}
theorem zgd (d:RDisk) (c:DChange):zaa (zed d c)=zad (zaa d) c:=by
 unfold zaa zed
 rw [List.foldl_append];rfl
theorem DkI.more {d:RDisk} (h:DkI d) {c:DChange} (h1:0≤c.at_∧c.at_+c.bytes.length≤4194304∧NmOk c.file) (h2:c.kind=1→c.at_≤((zae (zaa d) c.file).getD []).length):DkI (zed d c):=
 ⟨h.sl,h.fb,fun x hx=>by
  rcases List.mem_append.1 hx with hx | hx
  ·exact h.ch x hx
  ·rw [List.mem_singleton] at hx;subst hx;exact h1,h.nm,zel _ _ _ h.np h2,h.rm,h.i64⟩
theorem zkS (l:List File) (c:DChange):(zad l c).length≤l.length+1:=by
 unfold zad
 split
 ·exact zbs _ _
 ·split
  ·split
   ·omega
   ·exact zbs _ _
  ·have:=List.length_filter_le (fun y=>!eqN y.name c.file) l
   unfold za6
   omega
theorem zba:∀ (cs:List DChange) (l:List File),(cs.foldl zad l).length≤l.length+cs.length
 | [],l=>by simp
 | c::cs,l=>by
  have h1:=zba cs (zad l c)
  have h2:=zkS l c
  rw [List.foldl_cons,List.length_cons]
  omega
theorem zbn (d:RDisk):(zaa d).length≤d.lasts.length+d.changes.length:=zba _ _
theorem zaY {α:Type} {l:List α} {x d:α} {i:Nat} (h:i<l.length):(l++[x]).getD i d=l.getD i d:=by
 rw [List.getD_eq_getElem?_getD,List.getD_eq_getElem?_getD,List.getElem?_append_left h]
theorem zaZ {α:Type} {l:List α} {x d:α} {i:Nat} (h:i=l.length):(l++[x]).getD i d=x:=by
 subst h
 rw [List.getD_eq_getElem?_getD,List.getElem?_append_right (Nat.le_refl _)]
 simp
theorem DkAt.more {w w2 w3:World} {b:Nat} {d:RDisk} {F:Nat→Prop} {m1 m2:Nat} {v v':Value} {rows:List (List Value)} {c:DChange} {cs:List Value} (h:DkAt w b d F m1 m2 v rows) (hc:ChAt w (SB F b m1 m2 v) c cs)
  (h1:c.at_+c.bytes.length≤4194304) (h2:c.kind=1→c.at_≤((zae (zaa d) c.file).getD []).length)
  (ht:Turn (fun x=>x=m2) w w2) (hf:FilesAt w2 (fun x=>SB F b m1 m2 v x∨w.heap.size≤x) m2 (zad (zaa d) c))
  (hr:w3.ownsRow 0 TCh 5 v' (d.changes.length+1) (rows.flatten++cs)) (hg:w2.grownBy w3 v.ownBlock) (hv:v'.ownBlock=v.ownBlock∨∃ g,v'.ownBlock=some g∧w2.heap.size≤g) :
  DkAt (w3.setCell ⟨b,3,none⟩ v') b (zed d c) (fun x=>x<w3.heap.size∧(F x∨w.heap.size≤x)) m1 m2 v' (rows++[cs])∧Turn F w (w3.setCell ⟨b,3,none⟩ v'):=by
 have hsz4:(w3.setCell ⟨b,3,none⟩ v').heap.size=w3.heap.size:=by simp [World.setCell]
 have s12:=ht.size
 have s23:=hg.size
 have hbl:=h.fl _ h.fb
 have h1l:=h.fl _ h.f1
 have h2l:=h.fl _ h.f2
 have ev:∀ x,v.ownBlock≠some x→x<w2.heap.size→v'.ownBlock≠some x:=fun x h1 h2=>by
  rcases hv with e | ⟨g,e,hg⟩
  ·rw [e];exact h1
  ·rw [e]
   intro e2
   have:=Option.some.inj e2
   omega
 -- blocks far from what is written
 have far:∀ x,x<w2.heap.size→x≠b→v.ownBlock≠some x→(w3.setCell ⟨b,3,none⟩ v').heap[x]? = w2.heap[x]? := fun x hx hb hv=>by
  rw [zat (p:=⟨b,3,none⟩) hb]
  exact hg.block x hx (fun e=>hv e.symm)
 have far0:∀ x,x<w.heap.size→x≠m2→w2.heap[x]? = w.heap[x]? := fun x hx hm=>ht.block x hx hm
 have hS:Same (SB F b m1 m2 v) w (w3.setCell ⟨b,3,none⟩ v'):=⟨by omega,fun x hx hl=>by
  rw [far x (by omega) hx.2.1 hx.2.2.2.2,far0 x hl hx.2.2.2.1]⟩
 have hT:∀ x,x<w.heap.size→SB F b m1 m2 v x→SB (fun x=>x<w3.heap.size∧(F x∨w.heap.size≤x)) b m1 m2 v' x:=fun x hx hs=>⟨⟨by omega,.inl hs.1⟩,hs.2.1,hs.2.2.1,hs.2.2.2.1,ev x hs.2.2.2.2 (by omega)⟩
 have hB2:Blk w2 b TDi (dkCs d m1 m2 v):=(far0 b hbl h.b2).trans h.blk
 have hB3:Blk w3 b TDi (dkCs d m1 m2 v):=(hg.block b (by omega) (fun e=>h.bv e.symm)).trans hB2
 refine ⟨⟨?_,?_,?_,?_,?_,fun i hi=>?_,fun x hx=>by rw [hsz4];exact hx.1,⟨by omega,.inl h.fb⟩,⟨by omega,.inl h.f1⟩,⟨by omega,.inl h.f2⟩,fun g hgv=>?_,h.mm,h.inv.more ⟨hc.at0.1,h1,hc.nm⟩ h2⟩,?_⟩
 ·have k:=hB3.set 3 v'
  simpa [dkCs,zed] using k
 ·refine h.la.kept ?_ hS hT
  rw [far m1 (by omega) (Ne.symm h.b1) h.v1,far0 m1 h1l h.mm]
 ·rw [zgd]
  refine hf.kept (far m2 (by omega) (Ne.symm h.b2) h.v2) (S:=fun x=>SB F b m1 m2 v x∨w.heap.size≤x) ⟨by omega,fun x hx hl=>?_⟩ fun x hx hs=>?_
  ·rcases hx with hs | hs
   ·exact far x hl hs.2.1 hs.2.2.2.2
   ·exact far x hl (by omega) fun e=>by have:=h.fl _ (h.fv x e);omega
  ·rcases hs with hs | hs
   ·have:=h.fl x hs.1
    exact hT x this hs
   ·exact ⟨⟨by omega,.inr hs⟩,by omega,by omega,by omega,ev x (fun e=>by have:=h.fl _ (h.fv x e);omega) hx⟩
 ·have e:(rows++[cs]).flatten=rows.flatten++cs:=by simp
  have e2:(zed d c).changes.length=d.changes.length+1:=by simp [zed]
  rw [e,e2]
  refine zan hr fun g hgv=>?_
  rw [zat (p:=⟨b,3,none⟩) (fun e=>?_)]
  have e:g=b:=e
  rw [e] at hgv
  exact ev b h.bv (by omega) hgv
 ·simp [zed,h.rl]
 ·have e2:(zed d c).changes.length=d.changes.length+1:=by simp [zed]
  show ChAt _ _ ((d.changes++[c]).getD i default) ((rows++[cs]).getD i [])
  by_cases hi2:i<d.changes.length
  ·rw [zaY hi2,zaY (by rw [h.rl];exact hi2)]
   exact (h.ch i hi2).kept hS hT
  ·have:i=d.changes.length:=by omega
   subst this
   rw [zaZ rfl,zaZ h.rl.symm]
   exact hc.kept hS hT
 ·rcases hv with e | ⟨g',e,hge⟩
  ·rw [e] at hgv
   have:=h.fv g hgv
   have:=h.fl g this
   exact ⟨by omega,.inl (h.fv g hgv)⟩
  ·have e3:=hr.lt g hgv
   rw [e] at hgv
   have:=Option.some.inj hgv
   exact ⟨e3.2,.inr (by omega)⟩
 ·refine Turn.set ?_ (.inl h.fb) _
  refine (ht.mono (G:=F) fun x e=>?_).trans (Turn.grown (F:=fun x=>v.ownBlock=some x) hg fun x e=> .inl e) fun x hx e=>h.fv x e
  rw [e];exact h.f2
theorem DPost.after {w w4 w':World} {b:Nat} {F F1:Nat→Prop} {d':RDisk} {r:Value} {e:Ending} (hF:∀ x,F1 x→F x∨w.heap.size≤x) (ht:Turn F w w4) (h:DPost w4 b F1 d' r e w'):DPost w b F d' r e w':=by
 obtain ⟨he,F',h1,h2,h3⟩:=h
 refine ⟨he,F',h1,fun x hx=>?_,ht.trans h3 fun x hx hf=>?_⟩
 ·rcases h2 x hx with g | g
  ·exact hF x g
  ·exact .inr (Nat.le_trans ht.size g)
 ·rcases hF x hf with g | g
  ·exact g
  ·omega
theorem zmy {w:World} {v:Value} {n:Nat} {xs:List Value} (h:w.ownsRow 0 TCh 5 v (n+1) xs):∃ g cap,v = .slice (some ⟨g,0,none⟩) (n+1) cap:=by
 rcases h.2 with ⟨_,h2⟩ | ⟨g,cap,cur,rfl,_⟩
 ·omega
 ·exact ⟨g,cap,rfl⟩
theorem DkAt.drew {w:World} {b:Nat} {d:RDisk} {F:Nat→Prop} {m1 m2:Nat} {v:Value} {rows:List (List Value)} (h:DkAt w b d F m1 m2 v rows):DkAt w.drew b d F m1 m2 v rows:=
 h.kept (Nat.le_refl _) (fun _ _=>rfl) (fun _ h=>h) h.fl
theorem DkAt.below {w w':World} {b:Nat} {d:RDisk} {F:Nat→Prop} {m1 m2:Nat} {v:Value} {rows:List (List Value)} (h:DkAt w b d F m1 m2 v rows) (hb:Below w.heap.size w w'):DkAt w' b d F m1 m2 v rows:=
 h.kept hb.size (fun x hx=>hb.block x (h.fl x hx)) (fun _ h=>h) fun x hx=>Nat.lt_of_lt_of_le (h.fl x hx) hb.size
set_option maxHeartbeats 4000000 in
theorem zdh {w:World} {b:Nat} {d:RDisk} {F:Nat→Prop} {m1 m2:Nat} {v:Value} {rows:List (List Value)} {c:DChange} {cs:List Value} (h:DkAt w b d F m1 m2 v rows) (hc:ChAt w (SB F b m1 m2 v) c cs)
  (hN:d.lasts.length+d.changes.length≤5000) (h1:c.at_+c.bytes.length≤4194304) (h2:c.kind=1→c.at_≤((zae (zaa d) c.file).getD []).length) :
  Calls Try.prog 47 #[ptrV b,.agg cs.toArray] w (DPost w b F (chgD d c) (.int .i64 0)):=by
 have hbb:=h.fl _ h.fb
 have hb2:=h.b2
 have hm2:=h.fl _ h.f2
 -- the worlds ahead of the call
 obtain ⟨wa,hwa⟩:∃ wa,w.alloc (.cells cs.toArray TCh)=wa:=⟨_,rfl⟩
 have hBa:Below w.heap.size w wa.drew:=by rw [← hwa];exact ((Below.refl _ w).alloc (Nat.le_refl _) _).drew
 have kx:Blk wa w.heap.size TCh cs.toArray:=by rw [← hwa];exact Blk.new w TCh cs.toArray
 have ha:DkAt wa.drew b d F m1 m2 v rows:=h.below hBa
 have hca:ChAt wa.drew (SB F b m1 m2 v) c cs:=hc.kept (Same.below hBa) fun _ _ h=>h
 have hones:=hc.ones
 obtain ⟨dv,bv,hcs,hdo,hbv⟩:=hca.D
 have hlen:=zbn d
 have hlk:=zb0 h.inv.now c.file
 obtain ⟨f,cap,hdv,hB,hcall⟩:=zjy hdo ha.no ha.inv.sn (fun hs=>hs.2.2.2.1 rfl) (by omega) hc.nm hc.at0.1 hc.at0.2 hc.by0 (by omega)
 have hsz:w.heap.size<wa.heap.size:=by rw [← hwa];simp
 -- what stands behind the call
 have hmore:=fun (w2 w3:World) (v':Value) (ht:Turn (fun x=>x=m2) wa.drew w2) (hf:FilesAt w2 (fun x=>SB F b m1 m2 v x∨wa.drew.heap.size≤x) m2 (zad (zaa d) c)) (hr:w3.ownsRow 0 TCh 5 v' (d.changes.length+1) (rows.flatten++cs)) (hg:w2.drew.grownBy w3 v.ownBlock) (hv:v'.ownBlock=v.ownBlock∨∃ g,v'.ownBlock=some g∧w2.heap.size≤g)=>ha.more hca h1 h2 ht hf hr ⟨hg.os,hg.tape,hg.output,hg.size,hg.block⟩ hv
 have hfin:∀ (w2 w3:World) (v':Value) (ht:Turn (fun x=>x=m2) wa.drew w2) (hf:FilesAt w2 (fun x=>SB F b m1 m2 v x∨wa.drew.heap.size≤x) m2 (zad (zaa d) c)) (hr:w3.ownsRow 0 TCh 5 v' (d.changes.length+1) (rows.flatten++cs)) (hg:w2.drew.grownBy w3 v.ownBlock) (hv:v'.ownBlock=v.ownBlock∨∃ g,v'.ownBlock=some g∧w2.heap.size≤g),
   Calls Try.prog 33 #[ptrV b] (w3.setCell ⟨b,3,none⟩ v') fun e w'=>e = .returned (.tuple #[])∧DPost w b F (chgD d c) (.int .i64 0) (.returned (.int .i64 0)) w':=fun w2 w3 v' ht hf hr hg hv=>by
  obtain ⟨g1,g2⟩:=hmore w2 w3 v' ht hf hr hg hv
  refine (ze8 ⟨_,_,_,_,g1⟩).mono fun e w' hp=>?_
  obtain ⟨he,F',p1,p2,p3⟩:=hp
  refine ⟨he,DPost.after (F1:=fun x=>x<w3.heap.size∧(F x∨wa.drew.heap.size≤x)) (fun x hx=>?_) ((Turn.below hBa).trans g2 fun x _ hx=>hx) ⟨rfl,F',p1,p2,p3⟩⟩
  rcases hx.2 with g | g
  ·exact .inl g
  ·exact .inr (Nat.le_trans hBa.size g)
 have HFI:=Lib.hid hfin
 have HCA:=Lib.hid hcall
 have hcf:=za9 hB
 have q2:wa.cell? ⟨b,2,none⟩=some (.map (some m2)):=ha.blk.cell 2
 subst hcs
 obtain ⟨q0',q1',q2',q3',q4'⟩:=box5 kx
 have hB2:=fun (w2:World) (ht:Turn (fun x=>x=m2) wa.drew w2)=>(⟨ht.keep ha.blk hb2,ht.keep kx (by omega),zan ha.row fun g hg=>ht.block g (ha.fl _ (ha.fv g hg)) fun e=>ha.v2 (e▸hg)⟩:Blk w2 b TDi (dkCs d m1 m2 v)∧Blk w2 w.heap.size TCh #[.string c.file,dv,.int .i64 (chAt c),bv,.bool (c.kind==1)]∧w2.ownsRow 0 TCh 5 v d.changes.length rows.flatten)
 have HB2:=Lib.hid hB2
 have hbv2:=h.bv
 have hch:d.changes.length≤100000:=by omega
 have HON:=Lib.hid hones
 subst hdv
 clear hcall hfin hmore hB hB2 hdo hbv hca ha hBa hc h hones kx
 unfold ptrV at HFI ⊢
 go_enter Try.func47,Try.ntmps47
 go_wp2_with fail
 try rw [hwa]
 clear hwa
 go_still_tail 6,(by kernel_rfl)
 change wpList _ _ _ _ _ wa.drew
 go_wp2_with (first | (refine HCA.out.mono ?_;rintro e w2 ⟨rfl,ht,hf⟩))
 obtain ⟨kb,kx,hrow⟩:=HB2.out w2 ht
 obtain ⟨r0,r1,r2,r3,r4⟩:=box5 kx
 obtain ⟨s0,s1,s2,s3,s4,s5,s6⟩:=box7 kb
 obtain ⟨z0,z1,z2,z3,z4,z5,z6⟩:=ze3 kb
 have HR:=Lib.hid (show w2.drew.ownsRow 0 TCh 5 v d.changes.length rows.flatten from zan hrow fun _ _=>rfl)
 have HKB:=Lib.hid kb
 have s3a:(w2.alloc (.cells #[.string c.file,.func (.func f) #[] cap.toArray,.int .i64 (chAt c),bv,.bool (c.kind==1)] 66)).cell? ⟨b,3,none⟩=some v:=(kb.alloc (.cells #[.string c.file,.func (.func f) #[] cap.toArray,.int .i64 (chAt c),bv,.bool (c.kind==1)] 66)).cell 3
 have HT:=Lib.hid ht
 have HF:=Lib.hid hf
 clear hrow kx ht hf kb
 go_region_law (first | (refine zfe (w := w2.drew) rfl (.tmp 16) (.tmp 18) rfl v d.changes.length rows.flatten [.string c.file, .func (.func f) #[] cap.toArray, .int .i64 (chAt c), bv, .bool (c.kind == 1)] rfl HR.out rfl HON.out hch ⟨w2.heap.size, 0, none⟩ rfl rfl ?_; intro v' w3 hr3 hg3 hv3; obtain ⟨g', cap', rfl⟩ := zmy hr3; have HCL := Lib.hid (HFI.out w2 w3 _ HT.out HF.out hr3 hg3 hv3); have kb3 := HKB.out.drew.grown hg3 (fun e => hbv2 e.symm); obtain ⟨y0, y1, y2, y3, y4, y5, y6⟩ := box7 kb3; obtain ⟨x0, x1, x2, x3, x4, x5, x6⟩ := ze3 kb3; clear hr3 hg3 hv3 kb3) | fail "none")
 all_goals
  go_wp2_with (go_at_call 33;refine HCL.out.mono ?_;rintro e w5 ⟨rfl,hp5⟩)
  go_ret
  exact hp5
theorem zaJ (x:File) (l:List File):sumF (x::l)=x.bytes.length+sumF l:=by
 have key:∀ (l:List File) (a:Int),l.foldl (fun (s:Int) x=>s+((x.bytes.length:Nat):Int)) a=a+l.foldl (fun (s:Int) x=>s+((x.bytes.length:Nat):Int)) 0:=by
  intro l
  induction l with
  | nil=>intro a;simp
  | cons y l ih=>
   intro a
   rw [List.foldl_cons,List.foldl_cons,ih,ih (0+_)]
   omega
 unfold sumF
 rw [List.foldl_cons,key]
 omega
theorem zg2:sumF []=0:=rfl
theorem zib (l:List File):0≤sumF l:=by
 induction l with
 | nil=>exact Int.le_refl 0
 | cons x l ih=>rw [zaJ];omega
theorem zjZ {M:List File} (hM:SortF M) {n:ByteArray} {bs:List Int} (hx:zae M n=some bs) (p:File→Bool) (hp:∀ y,y.name=n→p y=false):sumF (M.filter fun y=>p y||eqN y.name n)=sumF (M.filter p)+bs.length:=by
 induction M with
 | nil=>cases hx
 | cons y M ih=>
  obtain ⟨h1,h2⟩:=List.pairwise_cons.1 hM
  unfold zae at hx
  rw [List.filter_cons,List.filter_cons]
  cases e:eqN y.name n
  ·rw [e] at hx
   simp only [Bool.false_eq_true,if_false] at hx
   simp only [Bool.or_false]
   cases hpy:p y
   ·simpa using ih h2 hx
   ·simp only [if_true]
    rw [zaJ,zaJ,ih h2 hx]
    omega
  ·rw [e] at hx
   simp only [if_true,Option.some.injEq] at hx
   have en:=eqN_iff.1 e
   rw [hp y en]
   simp only [Bool.false_or,if_true,Bool.false_eq_true,if_false]
   have e2:∀ z∈M,(p z||eqN z.name n)=p z:=fun z hz=>by
    have:z.name≠n:=fun e3=>by
     have:=zbG (h1 z hz)
     exact this (en.trans e3.symm)
    rw [eqN_no.2 this,Bool.or_false]
   rw [List.filter_congr e2,zaJ,← hx]
   omega
theorem zg1 {l:List File} (h:SortF l) (n:ByteArray):sumF (za6 l n)+((zae l n).getD []).length=sumF l:=by
 induction l with
 | nil=>rfl
 | cons x l ih=>
  obtain ⟨h1,h2⟩:=List.pairwise_cons.1 h
  have ih:=ih h2
  have el:zae (x::l) n=if eqN x.name n then some x.bytes else zae l n:=rfl
  unfold za6 at *
  rw [List.filter_cons,el]
  cases e:eqN x.name n
  ·simp only [Bool.not_false,if_true,Bool.false_eq_true,if_false]
   rw [zaJ,zaJ]
   omega
  ·simp only [Bool.not_true,Bool.false_eq_true,if_false,if_true,Option.getD_some]
   have hx:=eqN_iff.1 e
   rw [List.filter_eq_self.2 fun y hy=>by
    have:=zbG (h1 y hy)
    rw [hx] at this
    simp [eqN_no.2 (Ne.symm this)],zaJ]
   omega
theorem zmn {l:List File} (h:SortF l) (f:File):sumF (zap f l)+((zae l f.name).getD []).length=sumF l+f.bytes.length:=by
 induction l with
 | nil=>
  show sumF [f]+_=_
  rw [zaJ]
  show (f.bytes.length:Int)+sumF []+((([]:List Int).length:Nat):Int)=sumF []+f.bytes.length
  rw [zg2]
  simp
 | cons x l ih=>
  obtain ⟨h1,h2⟩:=List.pairwise_cons.1 h
  have ih:=ih h2
  unfold zap
  split
  ·have:=zg1 h f.name
   unfold za6 at this
   rw [zaJ]
   omega
  ·rename_i hle
   rw [Bool.not_eq_true] at hle
   have hne:=zbG (zc5 hle)
   have e:zae (x::l) f.name=zae l f.name:=by
    conv=>lhs;unfold zae
    rw [if_neg (by rw [Bool.not_eq_true];exact eqN_no.2 hne)]
   rw [e,zaJ,zaJ]
   omega
theorem zhS {M:List File} (h:SortF M) {n:ByteArray} {at_:Int} {b:List Int} (h0:0≤at_) (h1:at_≤((zae M n).getD []).length) :
  sumF (zad M ⟨1,n,at_,b⟩)=sumF M+(max (((zae M n).getD []).length:Int) (at_+b.length)-((zae M n).getD []).length)∧(zad M ⟨1,n,at_,b⟩).length=if (zae M n).isSome then M.length else M.length+1:=by
 have e:zad M ⟨1,n,at_,b⟩=zap ⟨n,zaB (zaf M n) at_.toNat b⟩ M:=by unfold zad;rw [if_pos rfl]
 rw [e,za0]
 have k:=zmn h ⟨n,zaB ((zae M n).getD []) at_.toNat b⟩
 have k2:=h.put_len ⟨n,zaB ((zae M n).getD []) at_.toNat b⟩
 refine ⟨?_,k2⟩
 simp only [zaK] at k
 omega
theorem zmK (a b:ByteArray):(kS a).sameKey (kS b)=eqN a b:=by
 by_cases e:a=b
 ·subst e
  rw [za7]
  exact WideAt.sameKey_self (ziL a)
 ·rw [eqN_no.2 e]
  exact Maps.sameKey_ne (zmL e)
theorem zl4 {l:List File} (h:SortF l) {n:ByteArray}:(((zae l n).getD []).length:Int)≤sumF l:=by
 have h1:=zg1 h n
 have h2:=zib (za6 l n)
 omega
theorem zjS {d:RDisk} (h:d.down=true) (n:ByteArray) (at_:Int) (b:List Int):wrD d n at_ b=(d,120):=by unfold wrD;rw [if_pos h]
theorem znH {d:RDisk} (hd:d.down=false) {M:List File} (hM:zaa d=M) (hs:SortF M) (n:ByteArray) (at_:Int) (b:List Int) {lo:Nat} (hlo:((zae M n).getD []).length=lo) {A0 x1:Int} (hx:min at_ (lo:Int)+(b.length:Int)=x1) (hA:max (lo:Int) x1-(lo:Int)=A0) :
  wrD d n at_ b=if zaT n=false then (d,122) else if at_<0∨at_>(lo:Int) then (d,123) else if A0+sumF M>d.room∨(((if (zae M n).isSome then M.length else M.length+1:Nat):Nat):Int)>16 then (d,121) else (chgD d ⟨1,n,at_,b⟩,0):=by
 unfold wrD
 rw [hd,hM,za0,hlo]
 simp only [Bool.false_eq_true,if_false]
 by_cases h1:zaT n=false
 ·rw [if_pos h1,if_pos h1]
 ·rw [if_neg h1,if_neg h1]
  by_cases h2:at_<0∨at_>(lo:Int)
  ·rw [if_pos h2,if_pos h2]
  ·rw [if_neg h2,if_neg h2]
   obtain ⟨k1,k2⟩:=zhS hs (n:=n) (at_:=at_) (b:=b) (by omega) (by rw [hlo];omega)
   rw [hlo] at k1
   rw [k1,k2]
   have e:sumF M+(max (lo:Int) (at_+(b.length:Int))-(lo:Int))=A0+sumF M:=by omega
   rw [e]
theorem DkAt.grow {w:World} {b:Nat} {d:RDisk} {F:Nat→Prop} {m1 m2:Nat} {v:Value} {rows:List (List Value)} (h:DkAt w b d F m1 m2 v rows) {w0:World} (hw:w0.heap.size≤w.heap.size) (hF:∀ x,F x→x<w0.heap.size) {c:DChange} {cs:List Value} (hc:ChAt w (fun x=>w0.heap.size≤x) c cs) :
  DkAt w b d (fun x=>F x∨(w0.heap.size≤x∧x<w.heap.size)) m1 m2 v rows∧ChAt w (SB (fun x=>F x∨(w0.heap.size≤x∧x<w.heap.size)) b m1 m2 v) c cs:=by
 refine ⟨h.kept (Nat.le_refl _) (fun _ _=>rfl) (fun _ h=> .inl h) fun x hx=>?_,hc.kept (Same.refl _ _) fun x hx hs=>?_⟩
 ·rcases hx with hx | hx
  ·exact h.fl x hx
  ·exact hx.2
 ·have hs:w0.heap.size≤x:=hs
  have a1:=hF _ h.fb
  have a2:=hF _ h.f1
  have a3:=hF _ h.f2
  exact ⟨.inr ⟨hs,hx⟩,by omega,by omega,by omega,fun e=>by have:=hF _ (h.fv x e);omega⟩
set_option maxHeartbeats 4000000 in
theorem zfc {w:World} {b:Nat} {d:RDisk} {F:Nat→Prop} (h:DkOk w b d F) (hN:d.lasts.length+d.changes.length≤5000) {S:Nat→Prop} {bv:Value} {bs:List Int} (hr:BRd w S bv bs) (hl:bs.length≤1000000) {n:ByteArray} (hn:NmOk n) {at_:Int} (hat:I64 at_) :
  Calls Try.prog 22 #[ptrV b,.string n,.int .i64 at_,bv] w (DPost w b F (wrD d n at_ bs).1 (.int .i64 (wrD d n at_ bs).2)):=by
 have hst:=Lib.hid (zbp h)
 have h0:=Lib.hid h
 obtain ⟨m1,m2,v,rows,h⟩:=h.o
 cases hd:d.down
 case true=>
  rw [hd] at hst
  rw [zjS hd]
  clear h hr
  unfold ptrV at hst ⊢
  go_enter Try.func22,Try.ntmps22
  go_wp2_with (go_at_call 29;refine hst.out.mono ?_;rintro e w1 ⟨rfl,hb1⟩)
  go_ret
  exact DPost.same h0.out hb1
 rw [hd] at hst
 have hK:=fun (w1:World) (hb:Below w.heap.size w w1)=>h.below hb
 have HK:=Lib.hid hK
 obtain ⟨a3,c3,rfl,_⟩:=hr.shape
 have HR:=Lib.hid hr
 clear hK hr
 obtain ⟨lb,hlb⟩:∃ lb,bs.length=lb:=⟨_,rfl⟩
 obtain ⟨M,hM⟩:∃ M,zaa d=M:=⟨_,rfl⟩
 obtain ⟨lo,hlo⟩:∃ lo,((zae M n).getD []).length=lo:=⟨_,rfl⟩
 rw [hlb] at hl
 have hlo2:lo≤4194304:=by rw [← hlo,← hM];exact zb0 h.inv.now n
 have hMl:M.length≤5000:=by rw [← hM];have:=zbn d;omega
 obtain ⟨x1,hx1⟩:∃ x1:Int,min at_ (lo:Int)+(lb:Int)=x1:=⟨_,rfl⟩
 obtain ⟨A0,hA0⟩:∃ A0:Int,max (lo:Int) x1-(lo:Int)=A0:=⟨_,rfl⟩
 have hA1:0≤A0∧A0≤1000000:=by omega
 have hw1:wrap64 (min at_ (lo:Int)+(lb:Int))=x1:=by
  have h1 : -9223372036854775808≤at_:=hat.1
  unfold wrap64;omega
 have hw2:wrap64 (max (lo:Int) x1-(lo:Int))=A0:=by unfold wrap64;omega
 have hsumb:∀ p:File→Bool,0≤sumF (M.filter p)∧sumF (M.filter p)≤30000000000:=fun p=>by
  refine ⟨zib _,?_⟩
  have h1:=(zic (M:=4194304) (M.filter p) (fun x hx=>by
   have:=List.mem_filter.1 hx
   exact h.inv.now x (hM▸this.1))).2
  have h2:=List.length_filter_le p M
  have h3:((M.filter p).length*4194304:Nat)≤5000*4194304:=Nat.mul_le_mul_right _ (by omega)
  omega
 have HSB:=Lib.hid hsumb
 have hsM:SortF M:=hM▸h.inv.sn
 have HSM:=Lib.hid hsM
 have HL:=Lib.hid (⟨hlo2,hMl,hA1,hx1,hA0⟩:lo≤4194304∧M.length≤5000∧(0≤A0∧A0≤1000000)∧min at_ (lo:Int)+(lb:Int)=x1∧max (lo:Int) x1-(lo:Int)=A0)
 have HI:=Lib.hid h.inv
 have HSP:=Lib.hid (znH hd hM hsM n at_ bs hlo (by rw [hlb];exact hx1) hA0)
 clear hsumb hlo2 hMl hx1 hA0 hA1 h hsM
 unfold ptrV at hst ⊢
 go_enter Try.func22,Try.ntmps22
 go_wp2_with (first | (go_at_call 29;refine hst.out.mono ?_;rintro e w1 ⟨rfl,hb1⟩;have k1:=HK.out w1 hb1;obtain ⟨q0,q1,q2,q3,q4,q5,q6⟩:=box7 k1.blk;obtain ⟨u,hlk,_,hu⟩:=k1.no.look hn;have hno:=k1.no;rw [hM] at hlk hu hno;obtain ⟨a2,c2,rfl,_⟩:=hu.shape;rw [hlo] at hlk;obtain ⟨D,hown,hsz,hDk⟩:=hno.D;have HOWN:=Lib.hid hown;have HSZ:=Lib.hid hsz;have HDK:=Lib.hid hDk;have HU:=Lib.hid hu;have HKK:=Lib.hid k1;have HB1:=Lib.hid hb1;clear hu k1 hb1 hown hsz hDk hno) | (at_len;refine wpList_len_own _ rfl _ 55 rfl TSt TBy undF RV m2 M.length D rfl HOWN.out ?_) | (at_range;refine wpList_range_own _ rfl _ 55 rfl TSt TBy keyS undF RV m2 M.length D rfl HOWN.out ?_;intro w2 hrg0 hg0 hs0) | fail)
 have HG0:=Lib.hid hg0
 have HRG:=Lib.hid hrg0
 clear hg0 hrg0 hs0
 go_frame
 go_loopw [12] (fun kv wr=>∃ (left:Lit→Bool) (cnt:Nat),kv = .int .i64 (A0+sumF (M.filter fun x=>!left (kS x.name)))∧Hid (wr.ranges Try.prog TSt RV m2 w1.heap.size M.length D left cnt)∧Hid (Below w.heap.size w wr)) (fun _ wr=>wr.rangeLeft m2 w1.heap.size)
 case atStart=>
  refine ⟨_,_,?_,HRG,Lib.hid (HB1.out.grown HG0.out HB1.out.size fun j hj=>by cases hj)⟩
  have e:(M.filter fun x=>!Maps.has D (kS x.name))=[]:=by
   rw [List.filter_eq_nil_iff]
   intro x hx
   rw [(HDK.out x.name).1,HSM.out.look hx]
   exact Bool.false_ne_true
  rw [e,zg2]
  simp
 case round=>
  obtain ⟨left,cnt,rfl,HRG1,HBW⟩:=hrel
  go_wp2_with (first | (at_next;refine wpList_next_ranges (w:=wr) rfl _ rfl TSt keyS RV Value.string id (fun key kl hk=>by obtain ⟨s,e,_⟩:=zlD hk;exact ⟨s,e⟩) (fun v y hv=>⟨v,rfl⟩) m2 w1.heap.size M.length D left cnt rfl HRG1.out ?_ ?_) | fail)
  ·intro hc0 hl0
   have eS:(M.filter fun x=>!left (kS x.name))=M:=List.filter_eq_self.2 fun x _=>by rw [hl0];rfl
   rw [eS]
   have kw:=HK.out wr HBW.out
   obtain ⟨q0,q1,q2,q3,q4,q5,q6⟩:=box7 kw.blk
   have HKW:=Lib.hid kw
   clear kw eS hl0 HRG1 hc0
   have hsp:=HSP.out
   rw [HSZ.out]
   obtain ⟨th,hth⟩:∃ th,(zae M n).isSome=th:=⟨_,rfl⟩
   rw [hth] at hsp ⊢
   have hml:=HL.out.2.1
   have hwm:wrap64 ((M.length:Int)+1)=(M.length:Int)+1:=by unfold wrap64;omega
   have hnm:=Lib.hid (zgI n wr hn)
   obtain ⟨SM,hSM⟩:∃ SM,sumF M=SM:=⟨_,rfl⟩
   rw [hSM] at hsp ⊢
   obtain ⟨ml,hmln⟩:∃ ml,M.length=ml:=⟨_,rfl⟩
   rw [hmln] at hsp hml hwm ⊢
   cases hnb:zaT n
   ·rw [hnb,if_pos rfl] at hsp
    have hsp:=Lib.hid hsp
    rw [hnb] at hnm
    clear hml
    cases th
    all_goals
     go_wp2_with (first | (go_at_call 30;refine hnm.out.mono ?_;rintro e w4 ⟨rfl,hb4⟩) | fail)
     go_ret
     rw [hsp.out]
     exact DPost.same h0.out (HBW.out.trans (hb4.mono HBW.out.size))
   ·rw [hnb,if_neg (by decide)] at hsp
    rw [hnb] at hnm
    by_cases h2:at_<0∨at_>(lo:Int)
    ·rw [if_pos h2] at hsp
     have hsp:=Lib.hid hsp
     by_cases h21:at_<0
     ·have c1:decide (at_<0)=true:=decide_eq_true h21
      clear h2
      cases th
      all_goals
       go_wp2_with (first | (go_at_call 30;refine hnm.out.mono ?_;rintro e w4 ⟨rfl,hb4⟩;have k4:=HK.out w4 (HBW.out.trans (hb4.mono HBW.out.size));obtain ⟨q0,q1,q2,q3,q4,q5,q6⟩:=box7 k4.blk;have HB4:=Lib.hid (HBW.out.trans (hb4.mono HBW.out.size));clear k4 hb4) | fail)
       go_ret
       rw [hsp.out]
       exact DPost.same h0.out HB4.out
     ·have c1:decide (at_<0)=false:=decide_eq_false h21
      have c2:decide (at_>(lo:Int))=true:=decide_eq_true (by omega)
      clear h2
      cases th
      all_goals
       go_wp2_with (first | (go_at_call 30;refine hnm.out.mono ?_;rintro e w4 ⟨rfl,hb4⟩;have k4:=HK.out w4 (HBW.out.trans (hb4.mono HBW.out.size));obtain ⟨q0,q1,q2,q3,q4,q5,q6⟩:=box7 k4.blk;have HB4:=Lib.hid (HBW.out.trans (hb4.mono HBW.out.size));clear k4 hb4) | fail)
       go_ret
       rw [hsp.out]
       exact DPost.same h0.out HB4.out
    ·rw [if_neg h2] at hsp
     have c1:decide (at_<0)=false:=decide_eq_false (by omega)
     have c2:decide (at_>(lo:Int))=false:=decide_eq_false (by omega)
     have H2:=Lib.hid h2
     clear h2
     by_cases h3:A0+SM>d.room∨(((if th=true then ml else ml+1:Nat):Nat):Int)>16
     ·rw [if_pos h3] at hsp
      have hsp:=Lib.hid hsp
      by_cases h31:A0+SM>d.room
      ·have c3:decide (A0+SM>d.room)=true:=decide_eq_true h31
       clear h3
       cases th
       all_goals
        go_wp2_with (first | (go_at_call 30;refine hnm.out.mono ?_;rintro e w4 ⟨rfl,hb4⟩;have k4:=HK.out w4 (HBW.out.trans (hb4.mono HBW.out.size));obtain ⟨q0,q1,q2,q3,q4,q5,q6⟩:=box7 k4.blk;have HB4:=Lib.hid (HBW.out.trans (hb4.mono HBW.out.size));clear k4 hb4) | fail)
        go_ret
        rw [hsp.out]
        exact DPost.same h0.out HB4.out
      ·have c3:decide (A0+SM>d.room)=false:=decide_eq_false h31
       cases th
       ·have c4:decide ((ml:Int)+1>16)=true:=decide_eq_true (by have:=h3.resolve_left h31;simpa using this)
        clear h3
        go_wp2_with (first | (go_at_call 30;refine hnm.out.mono ?_;rintro e w4 ⟨rfl,hb4⟩;have k4:=HK.out w4 (HBW.out.trans (hb4.mono HBW.out.size));obtain ⟨q0,q1,q2,q3,q4,q5,q6⟩:=box7 k4.blk;have HB4:=Lib.hid (HBW.out.trans (hb4.mono HBW.out.size));clear k4 hb4) | fail)
        go_ret
        rw [hsp.out]
        exact DPost.same h0.out HB4.out
       ·have c4:decide ((ml:Int)>16)=true:=decide_eq_true (by have:=h3.resolve_left h31;simpa using this)
        clear h3
        go_wp2_with (first | (go_at_call 30;refine hnm.out.mono ?_;rintro e w4 ⟨rfl,hb4⟩;have k4:=HK.out w4 (HBW.out.trans (hb4.mono HBW.out.size));obtain ⟨q0,q1,q2,q3,q4,q5,q6⟩:=box7 k4.blk;have HB4:=Lib.hid (HBW.out.trans (hb4.mono HBW.out.size));clear k4 hb4) | fail)
        go_ret
        rw [hsp.out]
        exact DPost.same h0.out HB4.out
     ·rw [if_neg h3] at hsp
      have hsp:=Lib.hid hsp
      have c3:decide (A0+SM>d.room)=false:=decide_eq_false (by omega)
      have hfit:at_+(bs.length:Int)≤4194304:=by
       have h4:=HI.out.rm.2
       obtain ⟨_,_,_,g1,g2⟩:=HL.out
       have h5:=H2.out
       have h6:=zl4 (n:=n) HSM.out
       rw [hlo,hSM] at h6
       have h7:¬ A0+SM>d.room:=fun e=>h3 (.inl e)
       rw [hlb]
       omega
      have hwr:=fun (w4:World) (hb:Below w.heap.size w w4)=>zcu (w:=w4) hn (at_:=at_) (by have:=H2.out;omega) (by have:=H2.out;have:=HL.out.1;omega) (HR.out.here.same (Same.below hb)) (by omega:bs.length≤10000000)
      have HW:=Lib.hid hwr
      have hch:=fun (w4 w5:World) (hb:Below w.heap.size w w4) (hb5:Below w4.heap.size w4 w5) (cs:List Value) (hc:ChAt w5 (fun x=>w4.heap.size≤x) ⟨1,n,at_,bs⟩ cs)=>by
       obtain ⟨g1,g2⟩:=(HK.out w5 (hb.trans (hb5.mono hb.size))).grow (w0:=w) (Nat.le_trans hb.size hb5.size) (fun x hx=>h0.out.lt hx) (hc.kept (Same.refl _ _) fun x _ hx=>Nat.le_trans hb.size hx)
       have g3:=zdh g1 g2 hN hfit (fun _=>by rw [hM,hlo];have:=H2.out;show at_≤_;omega)
       exact g3.mono fun e w6 hp=>DPost.after (w:=w) (F:=F) (fun x hx=>hx.imp id fun h=>h.1) (Turn.below (hb.trans (hb5.mono hb.size))) hp
      have HCH:=Lib.hid hch
      clear hch hwr hfit
      cases th
      ·have c4:decide ((ml:Int)+1>16)=false:=decide_eq_false (fun e=>h3 (.inr (by simpa using e)))
       clear h3
       go_wp2_with (first | (go_at_call 30;refine hnm.out.mono ?_;rintro e w4 ⟨rfl,hb4⟩;have k4:=HK.out w4 (HBW.out.trans (hb4.mono HBW.out.size));obtain ⟨q0,q1,q2,q3,q4,q5,q6⟩:=box7 k4.blk;have HB4:=Lib.hid (HBW.out.trans (hb4.mono HBW.out.size));clear k4 hb4) | (go_at_call 34;rw [← hlb];refine (HW.out _ HB4.out).mono ?_;rintro e w5 ⟨cs,rfl,hc5,hb5⟩;have HCC:=Lib.hid (HCH.out _ _ HB4.out hb5 cs hc5)) | (go_at_call 47;refine HCC.out.mono ?_;rintro e w6 ⟨rfl,hp6⟩;have HP6:=Lib.hid hp6;clear hp6) | fail)
       go_ret
       rw [hsp.out]
       exact ⟨rfl,HP6.out⟩
      ·have c4:decide ((ml:Int)>16)=false:=decide_eq_false (fun e=>h3 (.inr (by simpa using e)))
       clear h3
       go_wp2_with (first | (go_at_call 30;refine hnm.out.mono ?_;rintro e w4 ⟨rfl,hb4⟩;have k4:=HK.out w4 (HBW.out.trans (hb4.mono HBW.out.size));obtain ⟨q0,q1,q2,q3,q4,q5,q6⟩:=box7 k4.blk;have HB4:=Lib.hid (HBW.out.trans (hb4.mono HBW.out.size));clear k4 hb4) | (go_at_call 34;rw [← hlb];refine (HW.out _ HB4.out).mono ?_;rintro e w5 ⟨cs,rfl,hc5,hb5⟩;have HCC:=Lib.hid (HCH.out _ _ HB4.out hb5 cs hc5)) | (go_at_call 47;refine HCC.out.mono ?_;rintro e w6 ⟨rfl,hp6⟩;have HP6:=Lib.hid hp6;clear hp6) | fail)
       go_ret
       rw [hsp.out]
       exact ⟨rfl,HP6.out⟩
  ·intro x c kl yd yp w3 cnt3 hkey hlk2 hv hat3 hrg3 hlt3 hg3 hs3 hen
   obtain ⟨s,es,rfl⟩:=zlD hkey
   simp only [Value.string.injEq] at es
   subst es
   have ey:yd = .held c:=by
    unfold RV at hv
    simp only [Option.some.injEq,Prod.mk.injEq] at hv
    exact hv.1.symm
   subst ey
   have hhas:=Maps.has_true_of_atKey hat3
   rw [(HDK.out x).1] at hhas
   obtain ⟨b2,hb2⟩:=Option.isSome_iff_exists.1 hhas
   obtain ⟨u2,g1,g2⟩:=(HDK.out x).2 b2 hb2
   have ec:=(hat3 (.held c)).symm.trans (g1 _)
   simp only [DataW.held.injEq] at ec
   subst ec
   obtain ⟨a4,c4,rfl,_⟩:=g2.shape
   have hstep:=zjZ HSM.out hb2 (fun y=>!left (kS y.name)) (fun y e=>by rw [e,hlk2];rfl)
   have e3:(fun y:File=>!left (kS y.name)||eqN y.name x)=fun y=>!(left (kS y.name)&&!(kS y.name).sameKey (kS x)):=by
    funext y
    rw [zmK]
    cases left (kS y.name)<;>cases eqN y.name x<;>rfl
   rw [e3] at hstep
   have hb3:=HSB.out (fun y=>!(left (kS y.name)&&!(kS y.name).sameKey (kS x)))
   have hb4:=HSB.out (fun y=>!left (kS y.name))
   have hA:=HL.out.2.2.1
   obtain ⟨s1,hs1⟩:∃ s1,sumF (M.filter fun y=>!left (kS y.name))=s1:=⟨_,rfl⟩
   obtain ⟨s2,hs2⟩:∃ s2,sumF (M.filter fun y=>!(left (kS y.name)&&!(kS y.name).sameKey (kS x)))=s2:=⟨_,rfl⟩
   rw [hs1] at hb4 hstep ⊢
   rw [hs2] at hb3 hstep
   have hw3:wrap64 (A0+s1+(b2.length:Int))=A0+s2:=by unfold wrap64;omega
   have hS2:=Lib.hid hs2
   have HRG3:=Lib.hid hrg3
   have HBW3:=Lib.hid (HBW.out.grown hg3 HBW.out.size fun j hj=>by cases hj;exact HB1.out.size)
   clear hs2 hrg3 hg3 hb3 hb4 hstep e3 hat3 g1 g2 hv hA hs1
   go_wp2
   go_roundw
   case rel=>
    refine ⟨fun z=>left z&&!z.sameKey (kS x),cnt3,?_,HRG3,HBW3⟩
    rw [hS2.out,hw3]
   case measure=>rw [HRG3.out.left_eq,HRG1.out.left_eq];exact hlt3
theorem zj3 {d:RDisk} (n:ByteArray) (k:Int):cutD d n k=if d.down then ((d,120):RDisk×Int) else (match zae (zaa d) n with | none=>(d,122) | some b=>if k<0∨k>b.length then (d,123) else (chgD d ⟨2,n,k,[]⟩,0)):=by
 unfold cutD
 have h:=(zaE (zaa d) n).1
 split
 ·rfl
 ·cases e:zae (zaa d) n with
  | none=>rw [if_pos (h.2 e)]
  | some b=>
   rw [if_neg (fun g=>by rw [h.1 g] at e;cases e),za0,e]
   rfl
theorem zkn {d:RDisk} (n:ByteArray):rmD d n=if d.down then ((d,120):RDisk×Int) else if (zae (zaa d) n).isSome then (chgD d ⟨3,n,0,[]⟩,0) else (d,122):=by
 unfold rmD
 have h:=(zaE (zaa d) n).1
 split
 ·rfl
 ·cases e:zae (zaa d) n with
  | none=>rw [if_pos (h.2 e)];rfl
  | some b=>rw [if_neg (fun g=>by rw [h.1 g] at e;cases e)];rfl
set_option maxHeartbeats 4000000 in
theorem zkX {w:World} {b:Nat} {d:RDisk} {F:Nat→Prop} (h:DkOk w b d F) (hN:d.lasts.length+d.changes.length≤5000) {n:ByteArray} (hn:NmOk n) {k:Int} (hk:I64 k) :
  Calls Try.prog 23 #[ptrV b,.string n,.int .i64 k] w (DPost w b F (cutD d n k).1 (.int .i64 (cutD d n k).2)):=by
 have h0:=Lib.hid h
 have hsp:=zj3 (d:=d) n k
 have hst:=fun (w1:World) (hb:Below w.heap.size w w1)=>zbp (h.kept hb.size fun x hx=>hb.block x (h.lt hx))
 have HST:=Lib.hid hst
 clear hst
 obtain ⟨m1,m2,v,rows,h⟩:=h.o
 have hK:=fun (w1:World) (hb:Below w.heap.size w w1)=>h.below hb
 have HK:=Lib.hid hK
 clear hK
 have HI:=Lib.hid h.inv
 have hB0:Below w.heap.size w ((w.alloc (.cells #[.string n] TSt)).alloc (.cells #[.int .i64 k] TIn)):=((Below.refl _ w).alloc (Nat.le_refl _) _).alloc (by simp) _
 have HB0:=Lib.hid hB0
 clear hB0
 have HN:=Lib.hid hn
 unfold ptrV at HST ⊢
 cases hd:d.down
 case true=>
  rw [hd] at HST
  rw [hd,if_pos rfl] at hsp
  rw [hsp]
  clear h
  go_enter Try.func23,Try.ntmps23
  go_wp2_with (go_at_call 29;refine (HST.out _ HB0.out).mono ?_;rintro e w1 ⟨rfl,hb1⟩)
  go_ret
  exact DPost.same h0.out (HB0.out.trans (hb1.mono HB0.out.size))
 rw [hd] at HST
 rw [hd,if_neg (by decide)] at hsp
 have hch:=fun (w5:World) (hb:Below w.heap.size w w5) (c:DChange) (cs:List Value) (hc:ChAt w5 (fun x=>w.heap.size≤x) c cs) (h1:c.at_+c.bytes.length≤4194304) (h2:c.kind=1→c.at_≤((zae (zaa d) c.file).getD []).length)=>by
  obtain ⟨g1,g2⟩:=(HK.out w5 hb).grow hb.size (fun x hx=>h0.out.lt hx) hc
  exact (zdh g1 g2 hN h1 h2).mono fun e w6 hp=>DPost.after (w:=w) (F:=F) (fun x hx=>hx.imp id fun h=>h.1) (Turn.below hb) hp
 have HCH:=Lib.hid hch
 clear hch h
 go_enter Try.func23,Try.ntmps23
 go_wp2_with (go_at_call 29;refine (HST.out _ HB0.out).mono ?_;rintro e w1 ⟨rfl,hb1⟩)
 have hbw:=HB0.out.trans (hb1.mono HB0.out.size)
 have k1:=HK.out w1 hbw
 obtain ⟨q0,q1,q2,q3,q4,q5,q6⟩:=box7 k1.blk
 obtain ⟨u,hlk,_,hu⟩:=k1.drew.no.look hn
 have kA:=((Blk.new w TSt #[.string n]).alloc (.cells #[.int .i64 k] TIn)).next hb1
 have kB:=(Blk.newAt (w.alloc (.cells #[.string n] TSt)) (w.heap.size+1) TIn #[.int .i64 k] (by simp)).next hb1
 have r0:=box1 kA
 have r1:=box1 kB
 have HKA:=Lib.hid kA
 have HKB:=Lib.hid kB
 have HBW:=Lib.hid hbw
 clear hbw k1 kA kB hb1
 obtain ⟨a2,c2,rfl,_⟩:=hu.shape
 clear hu
 cases hlf:zae (zaa d) n with
 | none=>
  rw [hlf] at hlk hsp
  simp only [Option.isSome_none,Option.getD_none] at hlk
  dsimp only at hsp
  have HSP:=Lib.hid hsp
  clear hsp
  go_region_held3 (fun W=>W.cell? ⟨b,2,none⟩=some (.map (some m2))∧W.cell? ⟨w.heap.size,0,none⟩=some (.string n)) (first | exact ⟨q2,r0⟩ | fail) (first | fail)
  go_wp2
  go_ret
  rw [HSP.out]
  exact DPost.same h0.out HBW.out.drew
 | some bs=>
  rw [hlf] at hlk hsp
  simp only [Option.isSome_some,Option.getD_some] at hlk
  dsimp only at hsp
  obtain ⟨lo,hlo⟩:∃ lo,bs.length=lo:=⟨_,rfl⟩
  have hlo2:lo≤4194304:=by have:=zb0 HI.out.now n;rw [hlf] at this;rw [← hlo];exact this
  rw [hlo] at hlk hsp
  by_cases h2:k<0∨k>(lo:Int)
  ·rw [if_pos h2] at hsp
   have HSP:=Lib.hid hsp
   clear hsp
   by_cases h21:k<0
   ·have c1:decide (k<0)=true:=decide_eq_true h21
    clear h2
    go_region_held3 (fun W=>W.cell? ⟨b,2,none⟩=some (.map (some m2))∧W.cell? ⟨w.heap.size,0,none⟩=some (.string n)) (first | exact ⟨q2,r0⟩ | fail) (first | fail)
    go_wp2
    go_ret
    rw [HSP.out]
    exact DPost.same h0.out HBW.out.drew
   ·have c1:decide (k<0)=false:=decide_eq_false h21
    have c2:decide (k>(lo:Int))=true:=decide_eq_true (by omega)
    clear h2
    go_region_held3 (fun W=>W.cell? ⟨b,2,none⟩=some (.map (some m2))∧W.cell? ⟨w.heap.size,0,none⟩=some (.string n)) (first | exact ⟨q2,r0⟩ | fail) (first | fail)
    go_wp2
    go_ret
    rw [HSP.out]
    exact DPost.same h0.out HBW.out.drew
  ·rw [if_neg h2] at hsp
   have HSP:=Lib.hid hsp
   clear hsp
   have c1:decide (k<0)=false:=decide_eq_false (by omega)
   have c2:decide (k>(lo:Int))=false:=decide_eq_false (by omega)
   have hca:ChAt w1.drew (fun x=>w.heap.size≤x) ⟨2,n,k,[]⟩ [.string n,.func (.func fCu) #[] #[ptrV w.heap.size,ptrV (w.heap.size+1)],.int .i64 0,.slice none 0 0,.bool false]:=
    ⟨⟨_,_,rfl,.cu rfl ⟨Nat.le_refl _,Nat.le_succ _⟩ HKA.out.drew HKB.out.drew,BRd.nil _ _⟩,HN.out,⟨by show 0≤k;omega,by show k≤_;omega⟩,by show (0:Nat)≤_;omega⟩
   have HC:=Lib.hid (HCH.out w1.drew HBW.out.drew _ _ hca (by show k+((([]:List Int).length:Nat):Int)≤_;simp;omega) (fun e=>absurd e (by show ¬ (2:Int)=1;decide)))
   unfold ptrV at HC
   clear hca h2
   go_region_held3 (fun W=>W.cell? ⟨b,2,none⟩=some (.map (some m2))∧W.cell? ⟨w.heap.size,0,none⟩=some (.string n)) (first | exact ⟨q2,r0⟩ | fail) (first | fail)
   go_wp2_with (go_at_call 47;refine HC.out.mono ?_;rintro e w6 ⟨rfl,hp6⟩;have HP6:=Lib.hid hp6;clear hp6)
   go_ret
   rw [HSP.out]
   exact ⟨rfl,HP6.out⟩
set_option maxHeartbeats 4000000 in
theorem znc {w:World} {b:Nat} {d:RDisk} {F:Nat→Prop} (h:DkOk w b d F) (hN:d.lasts.length+d.changes.length≤5000) {n:ByteArray} (hn:NmOk n) :
  Calls Try.prog 24 #[ptrV b,.string n] w (DPost w b F (rmD d n).1 (.int .i64 (rmD d n).2)):=by
 have h0:=Lib.hid h
 have hsp:=zkn (d:=d) n
 have hst:=fun (w1:World) (hb:Below w.heap.size w w1)=>zbp (h.kept hb.size fun x hx=>hb.block x (h.lt hx))
 have HST:=Lib.hid hst
 clear hst
 obtain ⟨m1,m2,v,rows,h⟩:=h.o
 have hK:=fun (w1:World) (hb:Below w.heap.size w w1)=>h.below hb
 have HK:=Lib.hid hK
 clear hK
 have hB0:Below w.heap.size w (w.alloc (.cells #[.string n] TSt)):=(Below.refl _ w).alloc (Nat.le_refl _) _
 have HB0:=Lib.hid hB0
 clear hB0
 have HN:=Lib.hid hn
 unfold ptrV at HST ⊢
 cases hd:d.down
 case true=>
  rw [hd] at HST
  rw [hd,if_pos rfl] at hsp
  rw [hsp]
  clear h
  go_enter Try.func24,Try.ntmps24
  go_wp2_with (go_at_call 29;refine (HST.out _ HB0.out).mono ?_;rintro e w1 ⟨rfl,hb1⟩)
  go_ret
  exact DPost.same h0.out (HB0.out.trans (hb1.mono HB0.out.size))
 rw [hd] at HST
 rw [hd,if_neg (by decide)] at hsp
 have hch:=fun (w5:World) (hb:Below w.heap.size w w5) (c:DChange) (cs:List Value) (hc:ChAt w5 (fun x=>w.heap.size≤x) c cs) (h1:c.at_+c.bytes.length≤4194304) (h2:c.kind=1→c.at_≤((zae (zaa d) c.file).getD []).length)=>by
  obtain ⟨g1,g2⟩:=(HK.out w5 hb).grow hb.size (fun x hx=>h0.out.lt hx) hc
  exact (zdh g1 g2 hN h1 h2).mono fun e w6 hp=>DPost.after (w:=w) (F:=F) (fun x hx=>hx.imp id fun h=>h.1) (Turn.below hb) hp
 have HCH:=Lib.hid hch
 clear hch h
 go_enter Try.func24,Try.ntmps24
 go_wp2_with (go_at_call 29;refine (HST.out _ HB0.out).mono ?_;rintro e w1 ⟨rfl,hb1⟩)
 have hbw:=HB0.out.trans (hb1.mono HB0.out.size)
 have k1:=HK.out w1 hbw
 obtain ⟨q0,q1,q2,q3,q4,q5,q6⟩:=box7 k1.blk
 obtain ⟨u,hlk,_,hu⟩:=k1.drew.no.look hn
 have kA:=(Blk.new w TSt #[.string n]).next hb1
 have r0:=box1 kA
 have HKA:=Lib.hid kA
 have HBW:=Lib.hid hbw
 clear hbw k1 kA hb1
 obtain ⟨a2,c2,rfl,_⟩:=hu.shape
 clear hu
 obtain ⟨lo,hlo⟩:∃ lo,((zae (zaa d) n).getD []).length=lo:=⟨_,rfl⟩
 rw [hlo] at hlk
 cases hlf:(zae (zaa d) n).isSome
 ·rw [hlf] at hlk hsp
  rw [if_neg (by decide)] at hsp
  have HSP:=Lib.hid hsp
  clear hsp
  go_region_held3 (fun W=>W.cell? ⟨b,2,none⟩=some (.map (some m2))∧W.cell? ⟨w.heap.size,0,none⟩=some (.string n)) (first | exact ⟨q2,r0⟩ | fail) (first | fail)
  go_wp2
  go_ret
  rw [HSP.out]
  exact DPost.same h0.out HBW.out.drew
 ·rw [hlf] at hlk hsp
  rw [if_pos rfl] at hsp
  have HSP:=Lib.hid hsp
  clear hsp
  have hca:ChAt w1.drew (fun x=>w.heap.size≤x) ⟨3,n,0,[]⟩ [.string n,.func (.func fRm) #[] #[ptrV w.heap.size],.int .i64 0,.slice none 0 0,.bool false]:=
   ⟨⟨_,_,rfl,.rm rfl (Nat.le_refl _) HKA.out.drew,BRd.nil _ _⟩,HN.out,⟨Int.le_refl 0,by show (0:Int)≤10000000;decide⟩,by show (0:Nat)≤_;omega⟩
  have HC:=Lib.hid (HCH.out w1.drew HBW.out.drew _ _ hca (by show (0:Int)+((([]:List Int).length:Nat):Int)≤_;simp) (fun e=>absurd e (by show ¬ (3:Int)=1;decide)))
  unfold ptrV at HC
  clear hca
  go_region_held3 (fun W=>W.cell? ⟨b,2,none⟩=some (.map (some m2))∧W.cell? ⟨w.heap.size,0,none⟩=some (.string n)) (first | exact ⟨q2,r0⟩ | fail) (first | fail)
  go_wp2_with (go_at_call 47;refine HC.out.mono ?_;rintro e w6 ⟨rfl,hp6⟩;have HP6:=Lib.hid hp6;clear hp6)
  go_ret
  rw [HSP.out]
  exact ⟨rfl,HP6.out⟩
theorem zf8:∀ {L:List (List Value)} {i j:Nat},(∀ r∈L,r.length=5)→i<L.length→j<5→L.flatten[i*5+j]? = some ((L.getD i []).getD j undef)
 | r::L,0,j,h,_,hj=>by
  have hr:=h r (List.mem_cons_self ..)
  rw [List.flatten_cons,List.getElem?_append_left (by omega)]
  simp [List.getD,show 0*5+j<r.length by omega,show j<r.length by omega]
 | r::L,i+1,j,h,hi,hj=>by
  have hr:=h r (List.mem_cons_self ..)
  rw [List.flatten_cons,List.getElem?_append_right (by omega)]
  have e:(i+1)*5+j-r.length=i*5+j:=by omega
  rw [e,zf8 (fun x hx=>h x (List.mem_cons_of_mem _ hx)) (by simpa using hi) hj]
  rfl
theorem zcK:∀ {L:List (List Value)},(∀ r∈L,r.length=5)→L.flatten.length=L.length*5
 | [],_=>rfl
 | r::L,h=>by
  rw [List.flatten_cons,List.length_append,zcK fun x hx=>h x (List.mem_cons_of_mem _ hx),h r (List.mem_cons_self ..),List.length_cons]
  omega
structure RowB (w:World) (g cap:Nat) (L:List (List Value)):Prop where
 c:∃ cur:Array Value,w.heap[g]? = some (.cells cur TCh (0,0))∧cur.size=cap*5∧cur.toList.take (L.length*5)=L.flatten
 le:L.length≤cap
 cm:cap≤maxLen
 five:∀ r∈L,r.length=5
theorem RowB.of_own {w:World} {g n cap:Nat} {L:List (List Value)} (h:w.ownsRow 0 TCh 5 (.slice (some ⟨g,0,none⟩) n cap) n L.flatten) (h5:∀ r∈L,r.length=5) (hn:L.length=n):RowB w g cap L:=by
 rcases h.2 with ⟨h2,_⟩ | ⟨g',cap',cur,hv,h3,h4,h5',h6,h7,h8⟩
 ·cases h2
 ·simp only [Value.slice.injEq,Option.some.injEq,Addr.mk.injEq,and_true,true_and] at hv
  obtain ⟨rfl,rfl⟩:=hv
  exact ⟨⟨cur,h4,h7,by rw [hn];exact h8⟩,by omega,h6,h5⟩
theorem RowB.own {w:World} {g cap:Nat} {L:List (List Value)} (h:RowB w g cap L):w.ownsRow 0 TCh 5 (.slice (some ⟨g,0,none⟩) L.length cap) L.length L.flatten:=by
 obtain ⟨cur,h1,h2,h3⟩:=h.c
 exact ⟨zcK h.five,.inr ⟨g,cap,cur,rfl,Nat.zero_le _,h1,h.le,h.cm,h2,h3⟩⟩
theorem RowB.kept {w w':World} {g cap:Nat} {L:List (List Value)} (h:RowB w g cap L) (e:w'.heap[g]? = w.heap[g]?):RowB w' g cap L:=by
 obtain ⟨cur,h1,h2⟩:=h.c
 exact ⟨⟨cur,e.trans h1,h2⟩,h.le,h.cm,h.five⟩
theorem RowB.lt {w:World} {g cap:Nat} {L:List (List Value)} (h:RowB w g cap L):g<w.heap.size:=by
 obtain ⟨cur,h1,_⟩:=h.c
 exact (Array.getElem?_eq_some_iff.1 h1).1
theorem RowB.cell {w:World} {g cap:Nat} {L:List (List Value)} (h:RowB w g cap L) {i j:Nat} (hi:i<L.length) (hj:j<5):w.cell? ⟨g,i*5+j,none⟩=some ((L.getD i []).getD j undef)∧w.frozen? ⟨g,i*5+j,none⟩=false:=by
 obtain ⟨cur,h1,h2,h3⟩:=h.c
 have e:=zf8 h.five hi hj
 rw [← h3,List.getElem?_take_of_lt (by omega),Array.getElem?_toList] at e
 exact ⟨by simp [World.cell?,h1,e],by simp [World.frozen?,h1]⟩
theorem RowB.take {w:World} {g cap:Nat} {L:List (List Value)} (h:RowB w g cap L) (k:Nat):RowB w g cap (L.take k):=by
 obtain ⟨cur,h1,h2,h3⟩:=h.c
 have h5:=zcK (L:=L.take k) fun r hr=>h.five r (List.mem_of_mem_take hr)
 have e0:L.flatten=(L.take k).flatten++(L.drop k).flatten:=by rw [← List.flatten_append,List.take_append_drop]
 have e:L.flatten.take ((L.take k).length*5)=(L.take k).flatten:=by
  rw [e0]
  exact List.take_left' h5
 refine ⟨⟨cur,h1,h2,?_⟩,Nat.le_trans (by rw [List.length_take];omega) h.le,h.cm,fun r hr=>h.five r (List.mem_of_mem_take hr)⟩
 rw [← e,← h3,List.take_take]
 congr 1
 rw [List.length_take]
 omega
theorem zcc {α:Type} {l:List α} {i n:Nat} {x:α}:(l.set i x).take n=(l.take n).set i x:=by
 refine List.ext_getElem? fun k=>?_
 by_cases hk:k<n
 ·rw [List.getElem?_take_of_lt hk,List.getElem?_set,List.getElem?_set,List.getElem?_take_of_lt hk]
  simp only [List.length_take]
  by_cases e:i=k
  ·subst e
   simp only [if_true]
   congr 1
   simp only [eq_iff_iff]
   omega
  ·simp [e]
 ·rw [List.getElem?_eq_none (by simp;omega),List.getElem?_eq_none (by simp;omega)]
theorem zf7:∀ {L:List (List Value)} {i:Nat} {a0 a1 a2 a3 a4:Value},(∀ r∈L,r.length=5)→i<L.length →
  ((((L.flatten.set (i*5+0) a0).set (i*5+1) a1).set (i*5+2) a2).set (i*5+3) a3).set (i*5+4) a4=(L.set i [a0,a1,a2,a3,a4]).flatten
 | r::L,0,a0,a1,a2,a3,a4,h,_=>by
  have hr:=h r (List.mem_cons_self ..)
  match r,hr with
  | [x0,x1,x2,x3,x4],_=>rfl
 | r::L,i+1,a0,a1,a2,a3,a4,h,hi=>by
  have hr:=h r (List.mem_cons_self ..)
  have ih:=zf7 (L:=L) (i:=i) (a0:=a0) (a1:=a1) (a2:=a2) (a3:=a3) (a4:=a4) (fun x hx=>h x (List.mem_cons_of_mem _ hx)) (by simpa using hi)
  rw [List.set_cons_succ,List.flatten_cons,List.flatten_cons,← ih]
  have e:∀ k,(i+1)*5+k-r.length=i*5+k:=fun k=>by omega
  rw [List.set_append_right _ _ (by omega),List.set_append_right _ _ (by omega),List.set_append_right _ _ (by omega),List.set_append_right _ _ (by omega),List.set_append_right _ _ (by omega)]
  simp only [e]
theorem RowB.set1 {w:World} {g cap:Nat} {cur:Array Value} (h1:w.heap[g]? = some (.cells cur TCh (0,0))) (k:Nat) (u:Value):(w.setCell ⟨g,k,none⟩ u).heap[g]? = some (.cells (cur.setIfInBounds k u) TCh (0,0)):=by
 simp [World.setCell,Array.getElem?_modify,h1]
theorem RowB.set {w:World} {g cap:Nat} {L:List (List Value)} (h:RowB w g cap L) {i:Nat} (hi:i<L.length) (a0 a1 a2 a3 a4:Value) :
  RowB (((((w.setCell ⟨g,i*5+0,none⟩ a0).setCell ⟨g,i*5+1,none⟩ a1).setCell ⟨g,i*5+2,none⟩ a2).setCell ⟨g,i*5+3,none⟩ a3).setCell ⟨g,i*5+4,none⟩ a4) g cap (L.set i [a0,a1,a2,a3,a4]):=by
 obtain ⟨cur,h1,h2,h3⟩:=h.c
 refine ⟨⟨_,RowB.set1 (cap:=cap) (RowB.set1 (cap:=cap) (RowB.set1 (cap:=cap) (RowB.set1 (cap:=cap) (RowB.set1 (cap:=cap) h1 _ _) _ _) _ _) _ _) _ _,by simpa using h2,?_⟩,by simpa using h.le,h.cm,fun r hr=>?_⟩
 ·simp only [Array.toList_setIfInBounds,List.length_set]
  rw [zcc,zcc,zcc,zcc,zcc,h3]
  exact zf7 h.five hi
 ·rcases List.mem_or_eq_of_mem_set hr with hr | rfl
  ·exact h.five r hr
  ·rfl
theorem znZ {α:Type} {l:List α} (h:l.length=5):∃ x0 x1 x2 x3 x4,l=[x0,x1,x2,x3,x4]:=by
 match l,h with
 | [x0,x1,x2,x3,x4],_=>exact ⟨x0,x1,x2,x3,x4,rfl⟩
theorem zmm {w:World} {S:Nat→Prop} {c:DChange} {cs:List Value} {p:Nat} {n:ByteArray} (hc:ChAt w S c cs) (hp:Blk w p TSt #[.string n]) :
  Calls Try.prog 32 #[.agg cs.toArray,ptrV p] w fun e w'=>e = .returned (.bool (ofF n c))∧Below w.heap.size w w':=by
 obtain ⟨dv,bv,rfl,h1,h2⟩:=hc.D
 have hlt:=hp.lt
 have q0:=box1 (hp.alloc (.cells #[.string c.file,dv,.int .i64 (chAt c),bv,.bool (c.kind==1)] TCh))
 clear h1 h2 hc hp
 unfold ptrV
 go_enter Try.func32,Try.ntmps32
 go_wp2_with fail
 go_ret
 exact ⟨rfl,(Below.refl _ _).alloc (Nat.le_refl _) _⟩
def FirstP (p:Nat→Bool) (n:Nat) (k:Int):Prop:=(k = -1∧∀ i,i<n→p i=false)∨∃ k0:Nat,k=k0∧k0<n∧p k0=true∧∀ i,i<k0→p i=false
def znA (w:World) (S:Nat→Prop) (gf:FuncId) (lb:List Value) (L:List (List Value)) (p:Nat→Bool):Prop:=
 ∀ (w':World) (i:Nat),Same S w w'→w.heap.size≤w'.heap.size→i<L.length→Calls Try.prog gf (.agg (L.getD i []).toArray::lb).toArray w' fun e w''=>e = .returned (.bool (p i))∧Below w'.heap.size w' w''
set_option maxHeartbeats 1000000 in
theorem zh4 {w:World} {S:Nat→Prop} {g cap:Nat} {L:List (List Value)} {gf:FuncId} {lb:List Value} {p:Nat→Bool} (h:RowB w g cap L) (hS:∀ x,S x→x<w.heap.size) (hp:znA w S gf lb L p) (hB:FnB Try.prog gf) (hn:L.length≤1000000) :
  Calls Try.prog 53 #[.slice (some ⟨g,0,none⟩) L.length cap,.func (.func gf) #[] lb.toArray] w fun e w'=>∃ k,e = .returned (.int .i64 k)∧FirstP p L.length k∧Below w.heap.size w w':=by
 have hcf:=za9 hB
 have H:=Lib.hid h
 have HP:=Lib.hid hp
 have HS:=Lib.hid hS
 have hcl:=h.le
 obtain ⟨n,hnn⟩:∃ n,L.length=n:=⟨_,rfl⟩
 rw [hnn] at hn hcl ⊢
 clear h hp hS
 go_enter Try.func53,Try.ntmps53
 go_wp2
 go_loopw [8] (fun kv wr=>∃ (k:Nat),kv = .int .i64 k∧k≤n∧(∀ i,i<k→p i=false)∧Hid (Below w.heap.size w wr)) (fun kv _=>n-(intOf kv).toNat)
 case atStart=>exact ⟨0,rfl,Nat.zero_le _,fun i hi=>absurd hi (Nat.not_lt_zero _),Lib.hid (Below.refl _ _)⟩
 case round=>
  obtain ⟨k,rfl,hk,h0,HB⟩:=hrel
  have H0:=Lib.hid h0
  clear h0
  by_cases hlt:k<n
  ·have hltz:(k:Int)<(n:Int):=by omega
   have hk0:(0:Int)≤(k:Int):=Int.natCast_nonneg k
   have hw:wrap64 ((k:Int)+1)=(k:Int)+1:=by unfold wrap64;omega
   have hrow:=H.out.kept (HB.out.block g H.out.lt)
   obtain ⟨x0,x1,x2,x3,x4,hx⟩:∃ x0 x1 x2 x3 x4,L.getD k []=[x0,x1,x2,x3,x4]:=znZ (by
    have e:L.getD k []=L[k]:=by simp [List.getD,show k<L.length by omega]
    rw [e];exact H.out.five _ (List.getElem_mem _))
   have c0:=(hrow.cell (i:=k) (j:=0) (by omega) (by omega)).1
   have c1:=(hrow.cell (i:=k) (j:=1) (by omega) (by omega)).1
   have c2:=(hrow.cell (i:=k) (j:=2) (by omega) (by omega)).1
   have c3:=(hrow.cell (i:=k) (j:=3) (by omega) (by omega)).1
   have c4:=(hrow.cell (i:=k) (j:=4) (by omega) (by omega)).1
   have hcall:=HP.out wr k ⟨HB.out.size,fun x hx hl=>HB.out.block x hl⟩ HB.out.size (by omega)
   rw [hx] at c0 c1 c2 c3 c4 hcall
   simp only [List.getD_cons_zero,List.getD_cons_succ,Nat.add_zero] at c0 c1 c2 c3 c4
   have HC:=Lib.hid hcall
   clear hrow hcall hx
   go_wp2_with fail
   refine HC.out.mono ?_
   rintro e w2 ⟨rfl,hb2⟩
   have HB2:=Lib.hid (HB.out.trans (hb2.mono HB.out.size))
   clear hb2
   cases hpk:p k
   ·go_wp2
    go_roundw
    case rel=>
     refine ⟨k+1,by first | rfl | (rw [hw];rfl) | simp [hw],by omega,fun i hi=>?_,HB2⟩
     by_cases e:i=k
     ·rw [e];exact hpk
     ·exact H0.out i (by omega)
    case measure=>simp [intOf,hw];omega
   ·go_wp2
    go_ret
    exact ⟨_,rfl,.inr ⟨k,rfl,hlt,hpk,H0.out⟩,HB2.out⟩
  ·have hltz:¬ (k:Int)<(n:Int):=by omega
   obtain rfl:k=n:=by omega
   go_wp2
   go_ret
   exact ⟨_,rfl,.inl ⟨rfl,H0.out⟩,HB.out⟩
theorem ze0 {P:Program} {ops:Array Oper} {rest:List Oper} {o:Oper} {a:Act} {Q:Exit→Act→World→Prop} {w w':World} (hgd:o.guard=none) (x:Operand) (t:TypeId)
  (ho:o.op = .call {callee:= .builtin .clear,args:= #[x],argTypes:= #[t]}) (xv:Value) (hx:a.eval x=xv) (hrun:(Builtin.clear_ #[t] o.type #[xv]).run P w = .ok (.tuple #[]) w') (h:wpList P ops Q rest (a.put o.dst (.tuple #[])) w'):wpList P ops Q (o::rest) a w:=by
 refine wpList_plain hgd fun K hK=>?_
 unfold Oper.wp execOp
 simp only [ho,resolve,invoke,builtin,Sem.run_bind,Sem.run_pure,Result.andThen_ok,List.map_toArray,List.map_cons,List.map_nil,hx,hrun]
 exact hK _ _ h
theorem znE (w:World):(zeroValue TCh).run Try.prog w = .ok zCh w:=by kernel_rfl
theorem zhr {w:World} {g cap o n c:Nat} {L:List (List Value)} (h:RowB w g cap L) (hn:0<n) (ho:o*5+n*5≤cap*5) (hoL:o≤L.length) (ty:TypeId) :
  ∃ w',(Builtin.clear_ #[TRw] ty #[.slice (some ⟨g,o*5,none⟩) n c]).run Try.prog w = .ok (.tuple #[]) w'∧RowB w' g cap (L.take o)∧Turn (fun x=>x=g) w w':=by
 have ht:=h.take o
 obtain ⟨cur,h1,h2,h3⟩:=ht.c
 obtain ⟨m,rfl⟩:∃ m,n=m+1:=⟨n-1,by omega⟩
 obtain ⟨vs,hvs⟩:∃ vs,(Builtin.zeroCells zCh.cells (m+1)).toList=vs:=⟨_,rfl⟩
 have hvl:vs.length=(m+1)*5:=by
  rw [← hvs]
  simp [Builtin.zeroCells,zCh,Value.cells]
 have hv1:∀ u∈vs,u.oneCell'=true:=by
  intro u hu
  rw [← hvs] at hu
  simp only [Builtin.zeroCells,Array.toList_map,List.mem_map] at hu
  obtain ⟨i,_,rfl⟩:=hu
  have hi:(i % zCh.cells.size)=0∨(i % zCh.cells.size)=1∨(i % zCh.cells.size)=2∨(i % zCh.cells.size)=3∨(i % zCh.cells.size)=4:=by
   have:zCh.cells.size=5:=rfl
   rw [this];omega
  rcases hi with e | e | e | e | e
  all_goals (rw [e];rfl)
 have hst:=run_storeCells_at Try.prog g (o*5) TCh vs 0 cur w h1 (by rw [hvl,h2];omega) hv1
 obtain ⟨nw,hnw⟩:∃ nw,(cur.toList.take (o*5+0)++vs++cur.toList.drop (o*5+0+vs.length)).toArray=nw:=⟨_,rfl⟩
 rw [hnw] at hst
 refine ⟨w.setRow g nw,?_,⟨⟨nw,setRow_heap w g cur nw TCh _ h1,?_,?_⟩,ht.le,ht.cm,ht.five⟩,⟨rfl,rfl,rfl,by simp [World.setRow],fun b _ hb=>setRow_other w g b _ hb⟩⟩
 ·simp only [Builtin.clear_,Sem.run_bind,run_underlying undR,znE,Result.andThen]
  have hvs2:(Builtin.zeroCells (Value.agg #[.string ⟨#[]⟩,.nilFunc,.int .i64 0,.slice none 0 0,.bool false]).cells (m+1)).toList=vs:=hvs
  simp [run_underlying undR,znE,zCh]
  rw [hvs2,hst]
  rfl
 ·rw [← hnw]
  simp [h2,hvl]
  omega
 ·rw [← hnw]
  have e:(L.take o).length=o:=by rw [List.length_take];omega
  rw [e] at h3 ⊢
  simp only [Nat.add_zero,List.append_assoc]
  have h5:=zcK ht.five
  rw [e] at h5
  have hl:(cur.toList.take (o*5)).length=o*5:=by rw [h3];exact h5
  rw [List.take_left' hl]
  exact h3
def kp (L:List (List Value)) (p:Nat→Bool) (j:Nat):List (List Value):=((List.range j).filter fun t=>!p t).map fun t=>L.getD t []
theorem zeJ (L:List (List Value)) (p:Nat→Bool) (j:Nat):kp L p (j+1)=if p j then kp L p j else kp L p j++[L.getD j []]:=by
 unfold kp
 rw [List.range_succ,List.filter_append,List.map_append]
 cases h:p j<;>simp [h]
theorem zlC {L:List (List Value)} {p:Nat→Bool} {j:Nat} (hj:j≤L.length) (h:∀ i,i<j→p i=false):kp L p j=L.take j:=by
 induction j with
 | zero=>simp [kp]
 | succ j ih=>
  rw [zeJ,h j (Nat.lt_succ_self _),ih (by omega) fun i hi=>h i (by omega)]
  simp only [Bool.false_eq_true,if_false]
  rw [za5 (d:=[]) (by omega)]
theorem zgR (p:Nat→Bool):∀ n,(∀ i,i<n→p i=false)∨∃ k,k<n∧p k=true∧∀ i,i<k→p i=false
 | 0=> .inl fun i hi=>absurd hi (Nat.not_lt_zero _)
 | n+1=>by
  rcases zgR p n with h | ⟨k,h1,h2,h3⟩
  ·cases hp:p n
   ·exact .inl fun i hi=>by
     by_cases e:i=n
     ·rw [e];exact hp
     ·exact h i (by omega)
   ·exact .inr ⟨n,Nat.lt_succ_self _,hp,h⟩
  ·exact .inr ⟨k,by omega,h2,h3⟩
theorem FirstP.none {p:Nat→Bool} {n:Nat} {k:Int} (h:FirstP p n k) (h0:∀ i,i<n→p i=false):k = -1:=by
 rcases h with ⟨e,_⟩ | ⟨k0,_,h1,h2,_⟩
 ·exact e
 ·rw [h0 k0 h1] at h2;cases h2
theorem FirstP.some {p:Nat→Bool} {n:Nat} {k:Int} (h:FirstP p n k) {k1:Nat} (h1:k1<n) (h2:p k1=true) (h3:∀ i,i<k1→p i=false):k=k1:=by
 rcases h with ⟨_,e⟩ | ⟨k0,e,g1,g2,g3⟩
 ·rw [e k1 h1] at h2;cases h2
 ·rcases Nat.lt_trichotomy k0 k1 with c | c | c
  ·rw [h3 k0 c] at g2;cases g2
  ·rw [e,c]
  ·rw [g3 k1 c] at h2;cases h2
theorem zak {P:Program} {v:Value} (h1:v.oneCell'=true) (w:World) (a:Addr) (h:(w.cell? a).isSome=true) (hf:w.frozen? a=false):(store a v).run P w = .ok () (w.setCell a v):=by
 obtain ⟨u,hu⟩:=Option.isSome_iff_exists.1 h
 rw [run_store P w a v _ h1,hu]
 simp [hf]
def zjO (w:World) (g cap:Nat) (K:List (List Value)) (e:Ending) (w':World):Prop:=e = .returned (.slice (some ⟨g,0,none⟩) K.length cap)∧RowB w' g cap K∧Turn (fun x=>x=g) w w'
set_option maxHeartbeats 4000000 in
theorem zkW {w:World} {S:Nat→Prop} {g cap:Nat} {L:List (List Value)} {gf:FuncId} {lb:List Value} {p:Nat→Bool} (h:RowB w g cap L) (hS:∀ x,S x→x<w.heap.size∧x≠g) (hp:znA w S gf lb L p) (hB:FnB Try.prog gf) (hone:∀ r∈L,∀ u∈r,u.oneCell'=true) (hn:L.length≤1000000) :
  Calls Try.prog 31 #[.slice (some ⟨g,0,none⟩) L.length cap,.func (.func gf) #[] lb.toArray] w (zjO w g cap (kp L p L.length)):=by
 have hcf:=za9 hB
 have hI0:=zh4 h (fun x hx=>(hS x hx).1) hp hB hn
 have H:=Lib.hid h
 have HP:=Lib.hid hp
 have HS:=Lib.hid hS
 have HO:=Lib.hid hone
 clear hone
 have hcl:=h.le
 obtain ⟨n,hnn⟩:∃ n,L.length=n:=⟨_,rfl⟩
 rw [hnn] at hn hcl hI0 ⊢
 clear h hp hS
 rcases zgR p n with hall | ⟨k,hk,hpk,h0⟩
 ·have hI:=Lib.hid (hI0.mono (R':=fun e w'=>e = .returned (.int .i64 (-1))∧Below w.heap.size w w') fun e w' ⟨k,he,hf,hb⟩=>⟨by rw [he,hf.none hall],hb⟩)
  go_enter Try.func31,Try.ntmps31
  go_wp2_with (go_at_call 53;refine hI.out.mono ?_;rintro e w1 ⟨rfl,hb1⟩)
  go_ret
  have e:kp L p n=L:=by rw [zlC (by omega) hall,← hnn,List.take_length]
  rw [e]
  exact ⟨by rw [hnn];rfl,H.out.kept (hb1.block g H.out.lt),Turn.below hb1⟩
 ·have hI:=Lib.hid (hI0.mono (R':=fun e w'=>e = .returned (.int .i64 k)∧Below w.heap.size w w') fun e w' ⟨k',he,hf,hb⟩=>⟨by rw [he,hf.some hk hpk h0],hb⟩)
  have hk1:((k:Int) == -1)=false:=beq_eq_false_iff_ne.2 (by omega)
  have hw0:wrap64 ((k:Int)+1)=((k+1:Nat):Int):=by unfold wrap64;omega
  have H0:=Lib.hid h0
  clear h0 hI0
  go_enter Try.func31,Try.ntmps31
  go_wp2_with (go_at_call 53;refine hI.out.mono ?_;rintro e w1 ⟨rfl,hb1⟩)
  have HB1:=Lib.hid hb1
  clear hb1
  go_loopw [5,6] (fun s5 s6 wr=>∃ (i j:Nat) (M:List (List Value)),s5 = .int .i64 i∧s6 = .int .i64 j∧i<j∧j≤n∧M.length=n∧Hid (i=(kp L p j).length∧RowB wr g cap M∧M.take i=kp L p j∧(∀ t,j≤t→t<n→M.getD t []=L.getD t [])∧Turn (fun x=>x=g) w wr)) (fun _ s6 _=>n-(intOf s6).toNat)
  case atStart=>
   have e:kp L p (k+1)=L.take k:=by
    rw [zeJ,hpk,if_pos rfl,zlC (by omega) H0.out]
   refine ⟨k,k+1,L,rfl,by first | rfl | (rw [hw0];rfl) | simp [hw0],by omega,by omega,hnn,Lib.hid ⟨by rw [e,List.length_take];omega,H.out.kept (HB1.out.block g H.out.lt),by rw [e],fun t _ _=>rfl,Turn.below HB1.out⟩⟩
  case round=>
   obtain ⟨i,j,M,rfl,rfl,hij,hj,hM,HR⟩:=hrel
   by_cases hlt:j<n
   ·have hltz:(j:Int)<(n:Int):=by omega
    have hk0:(0:Int)≤(j:Int):=Int.natCast_nonneg j
    have hi0:(0:Int)≤(i:Int):=Int.natCast_nonneg i
    have hin:(i:Int)<(n:Int):=by omega
    have hw:wrap64 ((j:Int)+1)=((j+1:Nat):Int):=by unfold wrap64;omega
    have hwi:wrap64 ((i:Int)+1)=((i+1:Nat):Int):=by unfold wrap64;omega
    obtain ⟨hil,hrow,htk,hrest,htn⟩:=HR.out
    have hML:=hrest j (Nat.le_refl _) hlt
    have hmem:L.getD j []∈L:=by
     have e:L.getD j []=L[j]:=by simp [List.getD,show j<L.length by omega]
     rw [e];exact List.getElem_mem _
    obtain ⟨x0,x1,x2,x3,x4,hx⟩:∃ x0 x1 x2 x3 x4,L.getD j []=[x0,x1,x2,x3,x4]:=znZ (H.out.five _ hmem)
    have ho:=HO.out _ hmem
    rw [hx] at ho
    have s0:= @zak Try.prog x0 (ho _ (by simp))
    have s1:= @zak Try.prog x1 (ho _ (by simp))
    have s2:= @zak Try.prog x2 (ho _ (by simp))
    have s3:= @zak Try.prog x3 (ho _ (by simp))
    have s4:= @zak Try.prog x4 (ho _ (by simp))
    have c0:=(hrow.cell (i:=j) (j:=0) (by omega) (by omega)).1
    have c1:=(hrow.cell (i:=j) (j:=1) (by omega) (by omega)).1
    have c2:=(hrow.cell (i:=j) (j:=2) (by omega) (by omega)).1
    have c3:=(hrow.cell (i:=j) (j:=3) (by omega) (by omega)).1
    have c4:=(hrow.cell (i:=j) (j:=4) (by omega) (by omega)).1
    rw [hML,hx] at c0 c1 c2 c3 c4
    simp only [List.getD_cons_zero,List.getD_cons_succ,Nat.add_zero] at c0 c1 c2 c3 c4
    have hcall:=HP.out (wr.alloc (.cells #[x0,x1,x2,x3,x4] TCh)) j ((htn.same fun x hx=>(HS.out x hx).2).trans (Same.alloc _ _ _)) (by have:=htn.size;simp;omega) (by omega)
    rw [hx] at hcall
    have HC:=Lib.hid hcall
    have HX:=Lib.hid hx
    clear hil hrow htk hrest htn hML hmem hx ho hcall
    go_wp2_with fail
    refine HC.out.mono ?_
    rintro e w2 ⟨rfl,hb2⟩
    obtain ⟨hil,hrow,htk,hrest,htn⟩:=HR.out
    have hrow2:RowB w2 g cap M:=hrow.kept ((hb2.block g (by have:=hrow.lt;simp;omega)).trans (Below.heap_alloc _ _ _ hrow.lt))
    have kx:=(Blk.new wr TCh #[x0,x1,x2,x3,x4]).next hb2
    obtain ⟨b0,b1,b2,b3,b4⟩:=box5 kx
    have ht2:Turn (fun x=>x=g) w w2:=(htn.alloc (.cells #[x0,x1,x2,x3,x4] TCh)).trans (Turn.below (F:=fun x=>x=g) hb2) fun x _ h=>h
    have HT2:=Lib.hid ht2
    have HR2:=Lib.hid hrow2
    obtain ⟨d0,e0⟩:=hrow2.cell (i:=i) (j:=0) (by omega) (by omega)
    obtain ⟨d1,e1⟩:=hrow2.cell (i:=i) (j:=1) (by omega) (by omega)
    obtain ⟨d2,e2⟩:=hrow2.cell (i:=i) (j:=2) (by omega) (by omega)
    obtain ⟨d3,e3⟩:=hrow2.cell (i:=i) (j:=3) (by omega) (by omega)
    obtain ⟨d4,e4⟩:=hrow2.cell (i:=i) (j:=4) (by omega) (by omega)
    simp only [Nat.add_zero] at d0 e0
    generalize (M.getD i []).getD 0 undef=y0 at d0
    generalize (M.getD i []).getD 1 undef=y1 at d1
    generalize (M.getD i []).getD 2 undef=y2 at d2
    generalize (M.getD i []).getD 3 undef=y3 at d3
    generalize (M.getD i []).getD 4 undef=y4 at d4
    clear hil hrow htk hrest htn hrow2 kx hb2 ht2
    cases hpj:p j
    ·go_wp2
     go_roundw
     case rel=>
      obtain ⟨hil,hrow,htk,hrest,htn⟩:=HR.out
      have ekp:kp L p (j+1)=kp L p j++[[x0,x1,x2,x3,x4]]:=by rw [zeJ,hpj,HX.out];rfl
      refine ⟨i+1,j+1,M.set i [x0,x1,x2,x3,x4],by first | rfl | (rw [hwi];rfl) | simp [hwi],by first | rfl | (rw [hw];rfl) | simp [hw],by omega,by omega,by rw [List.length_set];exact hM,Lib.hid ⟨by rw [ekp,List.length_append,← hil];rfl,?_,?_,fun t h1 h2=>?_,?_⟩⟩
      ·have:=HR2.out.set (i:=i) (by omega) x0 x1 x2 x3 x4
       simpa using this
      ·have hi2:i<M.length:=by omega
       rw [za5 (d:=[]) (by rw [List.length_set];exact hi2),ekp,zcc,List.set_eq_of_length_le (by rw [List.length_take];omega),htk]
       congr 2
       simp [List.getD,hi2]
      ·rw [List.getD_eq_getElem?_getD,List.getElem?_set_ne (by omega),← List.getD_eq_getElem?_getD]
       exact hrest t (by omega) h2
      ·exact ((((HT2.out.set (.inl rfl) _).set (.inl rfl) _).set (.inl rfl) _).set (.inl rfl) _).set (.inl rfl) _
     case measure=>simp [intOf,hw];omega
    ·go_wp2
     go_roundw
     case rel=>
      obtain ⟨hil,hrow,htk,hrest,htn⟩:=HR.out
      have ekp:kp L p (j+1)=kp L p j:=by rw [zeJ,hpj];rfl
      exact ⟨i,j+1,M,rfl,by first | rfl | (rw [hw];rfl) | simp [hw],by omega,by omega,hM,Lib.hid ⟨by rw [ekp];exact hil,HR2.out,by rw [ekp];exact htk,fun t h1 h2=>hrest t (by omega) h2,HT2.out⟩⟩
     case measure=>simp [intOf,hw];omega
   ·have hltz:¬ (j:Int)<(n:Int):=by omega
    obtain rfl:j=n:=by omega
    obtain ⟨hil,hrow,htk,hrest,htn⟩:=HR.out
    have hMt:M.take i=kp L p j:=htk
    obtain ⟨w9,hcl9,hr9,ht9⟩:=zhr (w:=wr) (g:=g) (cap:=cap) (o:=i) (n:=j-i) (c:=cap-i) hrow (by omega) (by omega) (by omega) 0
    have HF:Hid (zjO w g cap (kp L p j) (.returned (.slice (some ⟨g,0,none⟩) i cap)) w9):=Lib.hid ⟨by rw [hil],by rw [← htk];exact hr9,htn.trans ht9 fun x _ h=>h⟩
    have HCL:=Lib.hid hcl9
    have hi0:(0:Int)≤(i:Int):=Int.natCast_nonneg i
    have hin:(i:Int)≤(j:Int):=by omega
    have hic:(i:Int)≤(cap:Int):=by omega
    have hne:¬ cap=i:=by omega
    clear hil hrow htk hrest htn hMt hcl9 hr9 ht9
    go_wp2_with (refine ze0 rfl (.tmp 38) 56 rfl (.slice (some ⟨g,i*5,none⟩) (j-i) (cap-i)) rfl HCL.out ?_)
    go_ret
    exact HF.out
def zfO:Option (List Int)→List DChange→Prop
 | _,[]=>True
 | o,c::cs=>(c.kind=1→c.at_≤(o.getD []).length)∧zfO (zcP c o) cs
theorem zcC:∀ (cs:List DChange) (l:List File),zgr l cs↔∀ n,zfO (zae l n) (cs.filter (ofF n))
 | [],l=>⟨fun _ _=>trivial,fun _=>trivial⟩
 | c::cs,l=>by
  have ih:=zcC cs (zad l c)
  constructor
  ·rintro ⟨h1,h2⟩ n
   have h3:=ih.1 h2 n
   rw [zbA] at h3
   rw [List.filter_cons]
   cases e:eqN c.file n
   ·rw [e] at h3
    rw [if_neg (by unfold ofF;rw [e];decide)]
    simpa using h3
   ·rw [e,if_pos rfl] at h3
    rw [if_pos (show ofF n c=true from e)]
    have:=eqN_iff.1 e
    subst this
    exact ⟨h1,h3⟩
  ·intro h
   have h1:=h c.file
   rw [List.filter_cons,if_pos (show ofF c.file c=true from za7 _)] at h1
   refine ⟨h1.1,ih.2 fun n=>?_⟩
   rw [zbA]
   have h2:=h n
   rw [List.filter_cons] at h2
   cases e:eqN c.file n
   ·rw [if_neg (by unfold ofF;rw [e];decide)] at h2
    simpa using h2
   ·have:=eqN_iff.1 e
    subst this
    rw [if_pos rfl]
    exact h1.2
theorem zh7 (n m:ByteArray) (cs:List DChange):(cs.filter fun c=>!ofF n c).filter (ofF m)=if m=n then [] else cs.filter (ofF m):=by
 rw [List.filter_filter]
 split
 ·rename_i e
  subst e
  have e1:∀ c,(ofF m c&&!ofF m c)=false:=fun c=>by cases ofF m c<;>rfl
  simp only [e1,zcL]
 ·rename_i e
  refine List.filter_congr fun c _=>?_
  cases hc:ofF m c
  ·rfl
  ·have h1:ofF n c=false:=eqN_no.2 fun e2=>e ((eqN_iff.1 hc).symm.trans e2)
   rw [h1];rfl
theorem zh8 (n m:ByteArray) (cs:List DChange) (h:m≠n):(cs.filter (ofF n)).filter (ofF m)=[]:=by
 rw [List.filter_filter]
 have e1:∀ c,(ofF m c&&ofF n c)=false:=fun c=>by
  cases hc:ofF m c
  ·rfl
  ·have h1:ofF n c=false:=eqN_no.2 fun e2=>h ((eqN_iff.1 hc).symm.trans e2)
   rw [h1];rfl
 simp only [e1,zcL]
theorem zhx {l:List File} {cs:List DChange} (h:zgr l cs) (n:ByteArray):zgr ((cs.filter (ofF n)).foldl zad l) (cs.filter fun c=>!ofF n c):=by
 rw [zcC] at h ⊢
 intro m
 rw [zh7]
 split
 ·trivial
 ·rename_i e
  rw [zaV,zh8 _ _ _ e]
  exact h m
theorem zne {l:List File} {c:DChange} (hl:∀ x∈l,NmOk x.name) (hc:NmOk c.file):∀ x∈zad l c,NmOk x.name:=by
 intro x hx
 unfold zad at hx
 split at hx
 ·rcases zaL hx with e | hx
  ·subst e;exact hc
  ·exact hl x hx
 ·split at hx
  ·split at hx
   ·exact hl x hx
   ·rcases zaL hx with e | hx
    ·subst e;exact hc
    ·exact hl x hx
  ·exact hl x (List.mem_filter.1 hx).1
theorem zd2:∀ (cs:List DChange) (l:List File),(∀ x∈l,NmOk x.name)→(∀ c∈cs,NmOk c.file)→∀ x∈cs.foldl zad l,NmOk x.name
 | [],l,hl,_=>hl
 | c::cs,l,hl,hc=>zd2 cs (zad l c) (zne hl (hc c (List.mem_cons_self ..))) fun x hx=>hc x (List.mem_cons_of_mem _ hx)
def sy1 (d:RDisk) (n:ByteArray):RDisk:={d with lasts:=(d.changes.filter (ofF n)).foldl zad d.lasts,changes:=d.changes.filter (fun c=>!ofF n c)}
theorem zhA {d:RDisk} (h:SortF d.lasts) (n:ByteArray):zaa (sy1 d n)=zaa d:=zhm h d.changes n
theorem DkI.sync {d:RDisk} (h:DkI d) (n:ByteArray):DkI (sy1 d n):=
 ⟨h.sl.dones _,zaQ _ _ h.fb fun c hc=>by have:=h.ch c (List.mem_filter.1 hc).1;exact ⟨this.1,this.2.1⟩,fun c hc=>h.ch c (List.mem_filter.1 hc).1,zd2 _ _ h.nm fun c hc=>(h.ch c (List.mem_filter.1 hc).1).2.2,zhx h.np n,h.rm,h.i64⟩
theorem zf1 (cs:List DChange) (rows:List (List Value)) (n:ByteArray):(cs.filter fun c=>!ofF n c)=((List.range cs.length).filter fun t=>!ofF n (cs.getD t default)).map fun t=>cs.getD t default:=by
 have key:∀ (l:List DChange) (f:DChange→Bool),l.filter f=((List.range l.length).filter fun t=>f (l.getD t default)).map fun t=>l.getD t default:=by
  intro l f
  have e:l=(List.range l.length).map fun t=>l.getD t default:=by
   refine List.ext_getElem? fun i=>?_
   rw [List.getElem?_map]
   by_cases hi:i<l.length
   ·simp [hi,List.getD]
   ·rw [List.getElem?_eq_none (by omega),List.getElem?_eq_none (by simp;omega)]
    rfl
  conv=>lhs;rw [e]
  rw [List.filter_map]
  rfl
 exact key cs _
theorem kp_at {cs:List DChange} {rows:List (List Value)} (n:ByteArray) (hl:rows.length=cs.length) {i:Nat} (hi:i<(cs.filter fun c=>!ofF n c).length) :
  ∃ t,t<cs.length∧(cs.filter fun c=>!ofF n c).getD i default=cs.getD t default∧(kp rows (fun t=>ofF n (cs.getD t default)) cs.length).getD i []=rows.getD t []:=by
 rw [zf1 cs rows n] at hi ⊢
 rw [List.length_map] at hi
 unfold kp
 have hm:=List.getElem_mem hi
 have h1:=List.mem_range.1 (List.mem_filter.1 hm).1
 refine ⟨((List.range cs.length).filter fun t=>!ofF n (cs.getD t default))[i],h1,?_,?_⟩
 ·rw [List.getD_eq_getElem?_getD,List.getElem?_map,List.getElem?_eq_getElem hi];rfl
 ·rw [List.getD_eq_getElem?_getD,List.getElem?_map,List.getElem?_eq_getElem hi];rfl
theorem zlB (cs:List DChange) (rows:List (List Value)) (n:ByteArray):(kp rows (fun t=>ofF n (cs.getD t default)) cs.length).length=(cs.filter fun c=>!ofF n c).length:=by
 rw [zf1 cs rows n]
 unfold kp
 rw [List.length_map,List.length_map]
theorem zdu (cs:List DChange) (l:List File) (n:ByteArray) {j:Nat} (hj:j<cs.length):((cs.take (j+1)).filter (ofF n)).foldl zad l=if ofF n (cs.getD j default) then zad (((cs.take j).filter (ofF n)).foldl zad l) (cs.getD j default) else ((cs.take j).filter (ofF n)).foldl zad l:=by
 rw [za5 (d:=default) hj,List.filter_append]
 cases h:ofF n (cs.getD j default)
 ·rw [List.filter_cons,if_neg (by rw [h];decide)]
  simp
 ·rw [List.filter_cons,if_pos h,List.foldl_append]
  rfl
theorem DkAt.sync {w w2 w3:World} {b:Nat} {d:RDisk} {F:Nat→Prop} {m1 m2 g cap:Nat} {rows:List (List Value)} {n:ByteArray} {v v':Value} (hv:v = .slice (some ⟨g,0,none⟩) d.changes.length cap) (hv':v' = .slice (some ⟨g,0,none⟩) (sy1 d n).changes.length cap) (h:DkAt w b d F m1 m2 v rows)
  (ht:Turn (fun x=>x=m1) w w2) (hf:FilesAt w2 (fun x=>SB F b m1 m2 v x∨w.heap.size≤x) m1 (sy1 d n).lasts)
  (hr:RowB w3 g cap (kp rows (fun t=>ofF n (d.changes.getD t default)) d.changes.length)) (ht3:Turn (fun x=>x=g) w2 w3) :
  DkAt (w3.setCell ⟨b,3,none⟩ v') b (sy1 d n) (fun x=>x<w3.heap.size∧(F x∨w.heap.size≤x)) m1 m2 v' (kp rows (fun t=>ofF n (d.changes.getD t default)) d.changes.length) ∧
   Turn F w (w3.setCell ⟨b,3,none⟩ v'):=by
 have ob:v.ownBlock=some g:=by rw [hv];rfl
 have ob':v'.ownBlock=some g:=by rw [hv'];rfl
 have hbl:=h.fl _ h.fb
 have h1l:=h.fl _ h.f1
 have h2l:=h.fl _ h.f2
 have hgl:=h.fl _ (h.fv g ob)
 have hbg:b≠g:=fun e=>h.bv (by rw [ob,e])
 have h1g:m1≠g:=fun e=>h.v1 (by rw [ob,e])
 have h2g:m2≠g:=fun e=>h.v2 (by rw [ob,e])
 have s12:=ht.size
 have s23:=ht3.size
 have hsz4:(w3.setCell ⟨b,3,none⟩ v').heap.size=w3.heap.size:=by simp [World.setCell]
 have far:∀ x,x<w2.heap.size→x≠b→x≠g→(w3.setCell ⟨b,3,none⟩ v').heap[x]? = w2.heap[x]? := fun x hx hb hg=>by
  rw [zat (p:=⟨b,3,none⟩) hb]
  exact ht3.block x hx hg
 have far0:∀ x,x<w.heap.size→x≠m1→w2.heap[x]? = w.heap[x]? := fun x hx hm=>ht.block x hx hm
 have hS:Same (SB F b m1 m2 v) w (w3.setCell ⟨b,3,none⟩ v'):=⟨by omega,fun x hx hl=>by
  rw [far x (by omega) hx.2.1 (fun e=>hx.2.2.2.2 (by rw [ob,e])),far0 x hl hx.2.2.1]⟩
 have hT:∀ x,x<w.heap.size→SB F b m1 m2 v x→SB (fun x=>x<w3.heap.size∧(F x∨w.heap.size≤x)) b m1 m2 v' x:=fun x _ hs=>⟨⟨by omega,.inl hs.1⟩,hs.2.1,hs.2.2.1,hs.2.2.2.1,fun e=>hs.2.2.2.2 (by rw [ob];rw [ob'] at e;exact e)⟩
 have hB3:Blk w3 b TDi (dkCs d m1 m2 v):=(ht3.block b (by omega) hbg).trans ((far0 b hbl h.b1).trans h.blk)
 have hlen:(kp rows (fun t=>ofF n (d.changes.getD t default)) d.changes.length).length=(sy1 d n).changes.length:=zlB _ _ _
 refine ⟨⟨?_,?_,?_,?_,hlen,fun i hi=>?_,fun x hx=>by rw [hsz4];exact hx.1,⟨by omega,.inl h.fb⟩,⟨by omega,.inl h.f1⟩,⟨by omega,.inl h.f2⟩,fun g' hg'=>?_,h.mm,h.inv.sync n⟩,?_⟩
 ·have k:=hB3.set 3 v'
  simpa [dkCs,sy1] using k
 ·refine hf.kept (far m1 (by omega) (Ne.symm h.b1) h1g) (S:=fun x=>SB F b m1 m2 v x∨w.heap.size≤x) ⟨by omega,fun x hx hl=>?_⟩ fun x hx hs=>?_
  ·rcases hx with hs | hs
   ·exact far x hl hs.2.1 fun e=>hs.2.2.2.2 (by rw [ob,e])
   ·exact far x hl (by omega) (by omega)
  ·rcases hs with hs | hs
   ·exact hT x (h.fl x hs.1) hs
   ·exact ⟨⟨by omega,.inr hs⟩,by omega,by omega,by omega,by rw [ob'];intro e;have:=Option.some.inj e;omega⟩
 ·rw [zhA h.inv.sl]
  refine h.no.kept ?_ hS hT
  rw [far m2 (by omega) (Ne.symm h.b2) h2g,far0 m2 h2l (Ne.symm h.mm)]
 ·have:=hr.own
  rw [hlen,← hv'] at this
  exact zan this fun g' hg'=>by
   rw [ob'] at hg'
   have e:=Option.some.inj hg'
   subst e
   exact zat (p:=⟨b,3,none⟩) (Ne.symm hbg)
 ·obtain ⟨t,t1,t2,t3⟩:=kp_at n h.rl hi
  show ChAt _ _ ((d.changes.filter fun c=>!ofF n c).getD i default) _
  rw [t2,t3]
  exact (h.ch t t1).kept hS hT
 ·rw [ob'] at hg'
  have e:=Option.some.inj hg'
  subst e
  exact ⟨by omega,.inl (h.fv _ ob)⟩
 ·refine Turn.set ?_ (.inl h.fb) _
  refine (ht.mono (G:=F) fun x e=>?_).trans ht3 fun x hx e=>?_
  ·rw [e];exact h.f1
  ·rw [e];exact h.fv _ ob
theorem zh3 {w:World} {fv:Value}:Calls Try.prog 53 #[.slice none 0 0,fv] w fun e w'=>e = .returned (.int .i64 (-1))∧w'=w:=by
 go_enter Try.func53,Try.ntmps53
 go_wp2
 go_loopw [8] (fun kv wr=>kv = .int .i64 0∧wr=w) (fun _ _=>0)
 case atStart=>exact ⟨rfl,rfl⟩
 case round=>
  obtain ⟨rfl,rfl⟩:=hrel
  go_wp2
  go_ret
  exact ⟨rfl,rfl⟩
theorem zkV {w:World} {fv:Value}:Calls Try.prog 31 #[.slice none 0 0,fv] w fun e w'=>e = .returned (.slice none 0 0)∧w'=w:=by
 have hI:= @zh3 w fv
 go_enter Try.func31,Try.ntmps31
 go_wp2_with (go_at_call 53;refine hI.mono ?_;rintro e w1 ⟨rfl,rfl⟩)
 go_ret
 exact ⟨rfl,rfl⟩
theorem Blk.far0 {w w':World} {g:Nat} {t:TypeId} {cs:Array Value} {F:Nat→Prop} (h:Blk w g t cs) (ht:Turn F w w') (hn:¬ F g):Blk w' g t cs:=ht.keep h hn
theorem zl3 (d:RDisk) (n:ByteArray):syD d n=if d.down then ((d,120):RDisk×Int) else if zaT n=false then (d,122) else (zbh (sy1 d n),0):=rfl
set_option maxHeartbeats 8000000 in
theorem zfG {w:World} {b:Nat} {d:RDisk} {F:Nat→Prop} (h:DkOk w b d F) (hN:d.lasts.length+d.changes.length≤5000) {n:ByteArray} (hn:NmOk n) :
  Calls Try.prog 12 #[ptrV b,.string n] w (DPost w b F (syD d n).1 (.int .i64 (syD d n).2)):=by
 have h0:=Lib.hid h
 have hsp:=zl3 d n
 have hst:=fun (w1:World) (hb:Below w.heap.size w w1)=>zbp (h.kept hb.size fun x hx=>hb.block x (h.lt hx))
 have HST:=Lib.hid hst
 clear hst
 obtain ⟨m1,m2,v,rows,h⟩:=h.o
 have hK:=fun (w1:World) (hb:Below w.heap.size w w1)=>h.below hb
 have HK:=Lib.hid hK
 clear hK
 have hB0:Below w.heap.size w (w.alloc (.cells #[.string n] TSt)):=(Below.refl _ w).alloc (Nat.le_refl _) _
 have HB0:=Lib.hid hB0
 clear hB0
 have HI:=Lib.hid h.inv
 unfold ptrV at HST ⊢
 cases hd:d.down
 case true=>
  rw [hd] at HST
  rw [hd,if_pos rfl] at hsp
  rw [hsp]
  clear h
  go_enter Try.func12,Try.ntmps12
  go_wp2_with (go_at_call 29;refine (HST.out _ HB0.out).mono ?_;rintro e w1 ⟨rfl,hb1⟩)
  go_ret
  exact DPost.same h0.out (HB0.out.trans (hb1.mono HB0.out.size))
 rw [hd] at HST
 rw [hd,if_neg (by decide)] at hsp
 have hnm:=fun w1=>zgI n w1 hn
 have HNM:=Lib.hid hnm
 clear hnm
 cases hnb:zaT n
 case false=>
  rw [hnb,if_pos rfl] at hsp
  rw [hnb] at HNM
  rw [hsp]
  clear h
  go_enter Try.func12,Try.ntmps12
  go_wp2_with (first | (go_at_call 29;refine (HST.out _ HB0.out).mono ?_;rintro e w1 ⟨rfl,hb1⟩;have r0:=box1 ((Blk.new w TSt #[.string n]).next hb1);have HB1:=Lib.hid (HB0.out.trans (hb1.mono HB0.out.size));clear hb1) | (go_at_call 30;refine (HNM.out _).mono ?_;rintro e w2 ⟨rfl,hb2⟩) | fail)
  go_ret
  exact DPost.same h0.out (HB1.out.trans (hb2.mono HB1.out.size))
 rw [hnb,if_neg (by decide)] at hsp
 rw [hnb] at HNM
 have HSP:=Lib.hid hsp
 clear hsp
 rcases h.row.2 with ⟨rfl,hz⟩ | ⟨g,cap,cur,rfl,_⟩
 ·clear h
  have hnil:d.changes=[]:=List.eq_nil_of_length_eq_zero hz
  have hsy:sy1 d n=d:=by
   cases d
   simp only at hnil
   subst hnil
   rfl
  rw [hsy] at HSP
  have hdel:=fun (w:World) (fv:Value)=> @zkV w fv
  have HALL:=Lib.hid (fun (w3:World) (hb:Below w.heap.size w w3)=>by
   have h1:=HK.out w3 hb
   have h2:DkAt (w3.setCell ⟨b,3,none⟩ (.slice none 0 0)) b d F m1 m2 (.slice none 0 0) rows:=h1.scal (by simp [World.setCell]) (by
    have k:=h1.blk.set 3 (.slice none 0 0)
    simpa [dkCs] using k) (fun x _ hx=>zat hx) rfl rfl rfl h1.inv.i64
   exact (ze8 ⟨_,_,_,_,h2⟩).mono (R':=fun e w'=>e = .returned (.tuple #[])∧DPost w b F (zbh d) (.int .i64 0) (.returned (.int .i64 0)) w') fun e w' hp=>by
    obtain ⟨he,F',p1,p2,p3⟩:=hp
    exact ⟨he,DPost.after (F1:=F) (fun x hx=> .inl hx) ((Turn.below hb).set (.inl h1.fb) _) ⟨rfl,F',p1,p2,p3⟩⟩)
  unfold ptrV at HALL
  rw [hz] at *
  go_enter Try.func12,Try.ntmps12
  go_wp2_with (first | (go_at_call 29;refine (HST.out _ HB0.out).mono ?_;rintro e w1 ⟨rfl,hb1⟩;have r0:=box1 ((Blk.new w TSt #[.string n]).next hb1);have HKX:=Lib.hid ((Blk.new w TSt #[.string n]).next hb1);have HB1:=Lib.hid (HB0.out.trans (hb1.mono HB0.out.size));clear hb1) | (go_at_call 30;refine (HNM.out _).mono ?_;rintro e w2 ⟨rfl,hb2⟩;have r0:=box1 (HKX.out.next hb2);have HB2:=Lib.hid (HB1.out.trans (hb2.mono HB1.out.size));clear hb2;have k2:=HK.out w2 HB2.out;obtain ⟨q0,q1,q2,q3,q4,q5,q6⟩:=box7 k2.blk;obtain ⟨z0,z1,z2,z3,z4,z5,z6⟩:=ze3 k2.blk;clear k2) | fail)
  go_loopw [21] (fun kv wr=>kv = .int .i64 0∧wr=w2) (fun _ _=>0)
  case atStart=>exact ⟨rfl,rfl⟩
  case round=>
   obtain ⟨rfl,rfl⟩:=hrel
   go_wp2_with (first | (go_at_call 31;refine (hdel _ _).mono ?_;rintro e w3 ⟨rfl,rfl⟩) | (go_at_call 33;refine (HALL.out _ HB2.out).mono ?_;rintro e w6 ⟨rfl,hp6⟩) | fail)
   go_ret
   rw [HSP.out]
   exact hp6
 ·clear h
  go_enter Try.func12,Try.ntmps12
  go_wp2_with (first | (go_at_call 29;refine (HST.out _ HB0.out).mono ?_;rintro e w1 ⟨rfl,hb1⟩;have r0:=box1 ((Blk.new w TSt #[.string n]).next hb1);have HKX:=Lib.hid ((Blk.new w TSt #[.string n]).next hb1);have HB1:=Lib.hid (HB0.out.trans (hb1.mono HB0.out.size));clear hb1) | (go_at_call 30;refine (HNM.out _).mono ?_;rintro e w2 ⟨rfl,hb2⟩;have HKX2:=Lib.hid (HKX.out.next hb2);have HB2:=Lib.hid (HB1.out.trans (hb2.mono HB1.out.size));clear hb2;have k2:=HK.out w2 HB2.out;obtain ⟨q0,q1,q2,q3,q4,q5,q6⟩:=box7 k2.blk;have HK2:=Lib.hid k2;clear k2) | fail)
  try go_frame
  have hgb:g≠m1∧g≠b∧b≠m1:=⟨fun e=>HK2.out.v1 (by rw [← e];rfl),fun e=>HK2.out.bv (by rw [← e];rfl),HK2.out.b1⟩
  have hxb:w.heap.size≠m1:=fun e=>by have:=h0.out.lt (HK2.out.f1);omega
  have hrowb:RowB w2 g cap rows:=RowB.of_own HK2.out.row (fun r hr=>by
   obtain ⟨i,hi,rfl⟩:=List.mem_iff_getElem.1 hr
   have:=(HK2.out.ch i (by rw [← HK2.out.rl];exact hi)).len
   simpa [List.getD,hi] using this) HK2.out.rl
  have HRB:=Lib.hid hrowb
  have hNl:d.changes.length≤cap:=by have:=hrowb.le;rw [HK2.out.rl] at this;exact this
  clear hrowb
  go_loopw [21] (fun kv wr=>∃ (j:Nat),kv = .int .i64 j∧j≤d.changes.length∧Hid (Turn (fun x=>x=m1) w2 wr∧FilesAt wr (fun x=>SB F b m1 m2 (.slice (some ⟨g,0,none⟩) d.changes.length cap) x∨w2.heap.size≤x) m1 (((d.changes.take j).filter (ofF n)).foldl zad d.lasts))) (fun kv _=>d.changes.length-(intOf kv).toNat)
  case atStart=>exact ⟨0,rfl,Nat.zero_le _,Lib.hid ⟨Turn.refl _ _,HK2.out.la.kept rfl (Same.refl _ _) fun _ _ h=> .inl h⟩⟩
  case round=>
   obtain ⟨j,rfl,hj,HR⟩:=hrel
   by_cases hlt:j<d.changes.length
   ·have hltz:(j:Int)<(d.changes.length:Int):=by omega
    have hj0:(0:Int)≤(j:Int):=Int.natCast_nonneg j
    have hw:wrap64 ((j:Int)+1)=((j+1:Nat):Int):=by unfold wrap64;omega
    obtain ⟨htn,hfl⟩:=HR.out
    have hrow:=HRB.out.kept (htn.block g HRB.out.lt (fun e=>hgb.1 e))
    have hch:=HK2.out.ch j hlt
    obtain ⟨c,hc⟩:∃ c,d.changes.getD j default=c:=⟨_,rfl⟩
    rw [hc] at hch
    obtain ⟨dv,bv,ecs,hdo,hbv⟩:=hch.D
    have hrl:j<rows.length:=by have:=HK2.out.rl;omega
    have c0:=(hrow.cell (i:=j) (j:=0) hrl (by omega)).1
    have c1:=(hrow.cell (i:=j) (j:=1) hrl (by omega)).1
    have c2:=(hrow.cell (i:=j) (j:=2) hrl (by omega)).1
    have c3:=(hrow.cell (i:=j) (j:=3) hrl (by omega)).1
    have c4:=(hrow.cell (i:=j) (j:=4) hrl (by omega)).1
    rw [ecs] at c0 c1 c2 c3 c4
    simp only [List.getD_cons_zero,List.getD_cons_succ,Nat.add_zero] at c0 c1 c2 c3 c4
    have kbx:=HKX2.out.far0 htn hxb
    have r0:=box1 kbx
    have p1:=(htn.keep HK2.out.blk hgb.2.2)
    have bx1:=(show Blk wr b TDi _ from p1).cell 1
    have hones:=hch.ones
    rw [ecs] at hones
    have s1:= @zak Try.prog dv (hones _ (by simp))
    have s3:= @zak Try.prog bv (hones _ (by simp))
    have hnext:=zdu d.changes d.lasts n hlt
    rw [hc] at hnext
    obtain ⟨S1,hS1⟩:∃ S1:Nat→Prop,(fun x=>SB F b m1 m2 (.slice (some ⟨g,0,none⟩) d.changes.length cap) x∨w2.heap.size≤x)=S1:=⟨_,rfl⟩
    rw [hS1] at hfl
    have hno1:¬ S1 m1:=by
     rw [← hS1]
     rintro (hs | hs)
     ·exact hs.2.2.1 rfl
     ·have:=HK2.out.fl _ HK2.out.f1;omega
    cases hof:ofF n c
    ·rw [hof,if_neg (by decide)] at hnext
     have hof2:(c.file.toList==n.toList)=false:=hof
     have r0a:(wr.alloc (.cells #[.string c.file,dv,.int .i64 (chAt c),bv,.bool (c.kind==1)] 66)).cell? ⟨w.heap.size,0,none⟩=some (.string n):=box1 (kbx.alloc _)
     have HN2:=Lib.hid hnext
     have HFL:=Lib.hid hfl
     have HTN:=Lib.hid htn
     have HNO:=Lib.hid hno1
     clear hnext hfl htn hno1 hch hdo hbv ecs hones hrow p1 kbx
     go_wp2
     go_roundw
     case rel=>
      refine ⟨j+1,by first | rfl | (rw [hw];rfl) | simp [hw],by omega,Lib.hid ⟨HTN.out.alloc _,?_⟩⟩
      rw [HN2.out,hS1]
      exact HFL.out.kept (Below.heap_alloc _ _ _ HFL.out.lt) (Same.alloc _ _ _) fun _ _ h=>h
     case measure=>simp [intOf,hw];omega
    ·rw [hof,if_pos rfl] at hnext
     have hof2:(c.file.toList==n.toList)=true:=hof
     obtain ⟨wx,hwx⟩:∃ wx,wr.alloc (.cells #[.string c.file,dv,.int .i64 (chAt c),bv,.bool (c.kind==1)] TCh)=wx:=⟨_,rfl⟩
     have hbx:Below wr.heap.size wr wx.drew:=by rw [← hwx];exact ((Below.refl _ wr).alloc (Nat.le_refl _) _).drew
     have hSx:Same (SB F b m1 m2 (.slice (some ⟨g,0,none⟩) d.changes.length cap)) w2 wx.drew:=(htn.same fun x hx e=>hx.2.2.1 e).trans (Same.below hbx)
     have hdo1:DoAt wx.drew S1 c dv:=hdo.kept hSx fun x _ hx=>by rw [← hS1];exact .inl hx
     have hfl1:FilesAt wx.drew S1 m1 (((d.changes.take j).filter (ofF n)).foldl zad d.lasts):=hfl.kept (hbx.block _ hfl.lt) (Same.below hbx) fun _ _ h=>h
     have hmemf:∀ x∈(d.changes.take j).filter (ofF n),x∈d.changes:=fun x hx=>List.mem_of_mem_take (List.mem_filter.1 hx).1
     have hlk:=zb0 (zaQ (M:=4194304) ((d.changes.take j).filter (ofF n)) d.lasts HI.out.fb fun x hx=>by have:=HI.out.ch x (hmemf x hx);exact ⟨this.1,this.2.1⟩) c.file
     have hln:=zba ((d.changes.take j).filter (ofF n)) d.lasts
     have hl2:=List.length_filter_le (ofF n) (d.changes.take j)
     have hl3:(d.changes.take j).length≤j:=by rw [List.length_take];omega
     obtain ⟨f,cap',hdv,hB,hcall⟩:=zjy hdo1 hfl1 (HI.out.sl.dones _) hno1 (by omega) hch.nm hch.at0.1 hch.at0.2 hch.by0 (by omega)
     have hcf:=za9 hB
     have HC:=Lib.hid hcall
     have HN2:=Lib.hid hnext
     have HTN:=Lib.hid htn
     have HBX:=Lib.hid hbx
     have kx:Blk wx wr.heap.size TCh #[.string c.file,dv,.int .i64 (chAt c),bv,.bool (c.kind==1)]:=by rw [← hwx];exact Blk.new wr TCh _
     obtain ⟨y0,y1,y2,y3,y4⟩:=box5 kx
     have bx1x:wx.cell? ⟨b,1,none⟩=some (.map (some m1)):=(show Blk wx b TDi _ from (hbx.block b (by have:=HK2.out.fl _ HK2.out.fb;have:=htn.size;omega)).trans p1).cell 1
     have r0a:wx.cell? ⟨w.heap.size,0,none⟩=some (.string n):=by rw [← hwx];exact box1 (kbx.alloc _)
     subst hdv
     clear hnext hfl hfl1 htn hno1 hch hdo hdo1 hbv ecs hones hrow p1 hcall hbx hSx hmemf hlk hln hl2 hl3 kx kbx
     go_wp2_with fail
     try rw [hwx]
     clear hwx
     go_still_tail 6,(by kernel_rfl)
     change wpList _ _ _ _ _ wx.drew
     go_wp2_with (first | (refine HC.out.mono ?_;rintro e w5 ⟨rfl,ht5,hf5⟩))
     go_roundw
     case rel=>
      refine ⟨j+1,by first | rfl | (rw [hw];rfl) | simp [hw],by omega,Lib.hid ⟨?_,?_⟩⟩
      ·exact (HTN.out.trans (Turn.below (F:=fun x=>x=m1) HBX.out) fun x _ h=>h).trans ht5 fun x _ h=>h
      ·rw [HN2.out,hS1]
       refine hf5.kept rfl (Same.refl _ _) fun x _ hx=>?_
       rcases hx with hx | hx
       ·exact hx
       ·rw [← hS1]
        exact .inr (Nat.le_trans HTN.out.size (Nat.le_trans HBX.out.size hx))
     case measure=>simp [intOf,hw];omega
   ·have hltz:¬ (j:Int)<(d.changes.length:Int):=by omega
    obtain rfl:j=d.changes.length:=by omega
    obtain ⟨htn,hfl⟩:=HR.out
    rw [List.take_length] at hfl
    have hrow:=HRB.out.kept (htn.block g HRB.out.lt (fun e=>hgb.1 e))
    have kbx:=HKX2.out.far0 htn hxb
    have kb:=HK2.out.blk.far0 htn hgb.2.2
    obtain ⟨q0,q1,q2,q3,q4,q5,q6⟩:=box7 kb
    obtain ⟨z0,z1,z2,z3,z4,z5,z6⟩:=ze3 kb
    have hsxx:Same (SB F b m1 m2 (.slice (some ⟨g,0,none⟩) d.changes.length cap)) w2 wr:=htn.same fun x hx e=>hx.2.2.1 e
    have hsay:znA wr (fun x=>(SB F b m1 m2 (.slice (some ⟨g,0,none⟩) d.changes.length cap) x∨x=w.heap.size)∧x<wr.heap.size∧x≠g) 32 [ptrV w.heap.size] rows (fun t=>ofF n (d.changes.getD t default)):=by
     intro w' i hs hsz hi
     have hi2:i<d.changes.length:=by rw [← HK2.out.rl];exact hi
     have hc:=(HK2.out.ch i hi2).kept (T:=fun _=>True) (hsxx.trans (hs.mono fun x hx=>?_)) fun _ _ _=>trivial
     ·exact zmm hc (kbx.same hs ⟨.inr rfl,kbx.lt,fun e=>by have:=HK2.out.fl _ (HK2.out.fv g rfl);have:=h0.out.lt (HK2.out.fv g rfl);omega⟩)
     ·exact ⟨.inl hx,Nat.lt_of_lt_of_le (HK2.out.fl x hx.1) htn.size,fun e=>hx.2.2.2.2 (by rw [e];rfl)⟩
    have hdel:=zkW hrow (fun x hx=>hx.2) hsay (fnB Try.func32 (by decide) rfl) (fun r hr u hu=>by
     obtain ⟨i,hi,rfl⟩:=List.mem_iff_getElem.1 hr
     have:=(HK2.out.ch i (by rw [← HK2.out.rl];exact hi)).ones
     have e:rows.getD i []=rows[i]:=by simp [List.getD,hi]
     rw [e] at this
     exact this u hu) (by rw [HK2.out.rl];omega)
    rw [HK2.out.rl] at hdel
    have hkc:=zlB d.changes rows n
    have hfin:=fun (w3:World) (hr3:RowB w3 g cap (kp rows (fun t=>ofF n (d.changes.getD t default)) d.changes.length)) (ht3:Turn (fun x=>x=g) wr w3)=>DkAt.sync (n:=n) rfl rfl HK2.out htn hfl hr3 ht3
    have hall:=fun (w3:World) (hr3:RowB w3 g cap (kp rows (fun t=>ofF n (d.changes.getD t default)) d.changes.length)) (ht3:Turn (fun x=>x=g) wr w3)=>by
     obtain ⟨g1,g2⟩:=hfin w3 hr3 ht3
     exact (ze8 ⟨_,_,_,_,g1⟩).mono (R':=fun e w'=>e = .returned (.tuple #[])∧DPost w b F (zbh (sy1 d n)) (.int .i64 0) (.returned (.int .i64 0)) w') fun e w' hp=>by
      obtain ⟨he,F',p1,p2,p3⟩:=hp
      refine ⟨he,DPost.after (F1:=fun x=>x<w3.heap.size∧(F x∨w2.heap.size≤x)) (fun x hx=>?_) ((Turn.below HB2.out).trans g2 fun x _ hx=>hx) ⟨rfl,F',p1,p2,p3⟩⟩
      rcases hx.2 with g | g
      ·exact .inl g
      ·exact .inr (Nat.le_trans HB2.out.size g)
    have HALL:=Lib.hid hall
    have HDEL:=Lib.hid hdel
    have HKB:=Lib.hid kb
    rw [show (sy1 d n).changes.length=(d.changes.filter fun c=>!ofF n c).length from rfl,← hkc] at HALL
    clear hall hdel hfin hsay hsxx kb kbx hrow htn hfl hkc HR
    unfold ptrV at HALL HDEL
    go_wp2_with (first | (go_at_call 31;refine HDEL.out.mono ?_;rintro e w3 ⟨rfl,hr3,ht3⟩;have kb3:=HKB.out.far0 ht3 (Ne.symm hgb.2.1);obtain ⟨q0,q1,q2,q3,q4,q5,q6⟩:=box7 kb3;obtain ⟨z0,z1,z2,z3,z4,z5,z6⟩:=ze3 kb3;have HCL:=Lib.hid (HALL.out w3 hr3 ht3);clear kb3 hr3 ht3) | (go_at_call 33;refine HCL.out.mono ?_;rintro e w6 ⟨rfl,hp6⟩) | fail)
    go_ret
    rw [HSP.out]
    exact hp6
end Go.Proofs.Ytfccndnnpkiajaa
namespace Go.Proofs
open Go.Shelf
def Try.keysD_ren:Go.Shelf.Ren:=⟨fun | 7=>37 | 10=>58 | n=>n,fun | 23=>55 | 26=>9 | 3=>30 | 28=>73 | 0=>0 | 27=>72 | 33=>63 | 4=>4 | n=>n,fun | n=>n⟩
theorem Try.keysD:Go.Proofs.SlLaysZ.n7 Try.prog Try.keysD_ren:={
 mixed:=by kernel_rfl
 f7:=⟨Try.f37.name,by decide,Try.func37.trans (congrArg some (by kernel_rfl))⟩
 f10:=⟨Try.f58.name,by decide,Try.func58.trans (congrArg some (by kernel_rfl))⟩
 t0:=Try.underlying0
 a0:=Try.isAgg0
 z0:=Try.sizeOf0
 v0:=Try.zeroValue0
 t4:=Try.underlying4
 a4:=Try.isAgg4
 z4:=Try.sizeOf4
 v4:=Try.zeroValue4
 t23:=Try.underlying55
 a23:=Try.isAgg55
 z23:=Try.sizeOf55
 v23:=Try.zeroValue55
 t26:=Try.underlying9
 a26:=Try.isAgg9
 z26:=Try.sizeOf9
 v26:=Try.zeroValue9
 t27:=Try.underlying72
 a27:=Try.isAgg72
 z27:=Try.sizeOf72
 v27:=Try.zeroValue72
 t28:=Try.underlying73
 a28:=Try.isAgg73
 z28:=Try.sizeOf73
 v28:=Try.zeroValue73
 t33:=Try.underlying63
 a33:=Try.isAgg63
 z33:=Try.sizeOf63
 v33:=Try.zeroValue63}
def Try.sortedD_ren:Go.Shelf.Ren:=⟨fun | 6=>36 | 8=>56 | 9=>57 | 11=>68 | 13=>70 | 12=>69 | 23=>82 | 24=>83 | 14=>73 | 15=>74 | 16=>75 | 17=>76 | 18=>77 | 19=>78 | 20=>79 | 21=>80 | 22=>81 | 25=>84 | 26=>85 | 27=>86 | 28=>87 | 29=>88 | 30=>89 | 31=>90 | n=>n,fun | 26=>9 | 28=>73 | 24=>39 | 0=>0 | 3=>3 | 37=>99 | 48=>111 | 50=>113 | 4=>4 | 40=>103 | 39=>102 | 45=>108 | 5=>5 | 9=>9 | 51=>114 | 55=>118 | 57=>120 | 58=>121 | 33=>63 | n=>n,fun | n=>n⟩
theorem Try.sortedD:Go.Proofs.SlLaysZ.n6 Try.prog Try.sortedD_ren:={
 mixed:=by kernel_rfl
 f6:=⟨Try.f36.name,by decide,Try.func36.trans (congrArg some (by kernel_rfl))⟩
 f8:=⟨Try.f56.name,by decide,Try.func56.trans (congrArg some (by kernel_rfl))⟩
 f11:=⟨Try.f68.name,by decide,Try.func68.trans (congrArg some (by kernel_rfl))⟩
 t0:=Try.underlying0
 a0:=Try.isAgg0
 z0:=Try.sizeOf0
 v0:=Try.zeroValue0
 t24:=Try.underlying39
 a24:=Try.isAgg39
 z24:=Try.sizeOf39
 v24:=Try.zeroValue39
 t26:=Try.underlying9
 a26:=Try.isAgg9
 z26:=Try.sizeOf9
 v26:=Try.zeroValue9
 t28:=Try.underlying73
 a28:=Try.isAgg73
 z28:=Try.sizeOf73
 v28:=Try.zeroValue73
 i26:=by kernel_rfl}
def Try.sortD_ren:Go.Shelf.Ren:=⟨fun | 6=>57 | 8=>70 | 9=>69 | 19=>82 | 20=>83 | 21=>73 | 22=>74 | 23=>75 | 24=>76 | 25=>77 | 26=>78 | 27=>79 | 28=>80 | 29=>81 | 36=>84 | 31=>85 | 32=>86 | 37=>87 | 38=>88 | 39=>89 | 41=>90 | n=>n,fun | 27=>39 | 29=>9 | 3=>3 | 32=>99 | 26=>39 | 0=>0 | 44=>111 | 46=>113 | 4=>4 | 36=>103 | 35=>102 | 41=>108 | 5=>5 | 9=>9 | 53=>114 | 57=>118 | 63=>120 | 64=>121 | n=>n,fun | n=>n⟩
theorem Try.sortD:Go.Proofs.SlLaysM.n6 Try.prog Try.sortD_ren:={
 mixed:=by kernel_rfl
 f6:=⟨Try.f57.name,by decide,Try.func57.trans (congrArg some (by kernel_rfl))⟩
 f8:=Try.func70.trans (congrArg some (by kernel_rfl))
 f9:=⟨Try.f69.name,by decide,Try.func69.trans (congrArg some (by kernel_rfl))⟩
 f19:=Try.func82.trans (congrArg some (by kernel_rfl))
 f20:=Try.func83.trans (congrArg some (by kernel_rfl))
 f21:=⟨Try.f73.name,by decide,Try.func73.trans (congrArg some (by kernel_rfl))⟩
 f22:=⟨Try.f74.name,by decide,Try.func74.trans (congrArg some (by kernel_rfl))⟩
 f23:=⟨Try.f75.name,by decide,Try.func75.trans (congrArg some (by kernel_rfl))⟩
 f24:=⟨Try.f76.name,by decide,Try.func76.trans (congrArg some (by kernel_rfl))⟩
 f25:=⟨Try.f77.name,by decide,Try.func77.trans (congrArg some (by kernel_rfl))⟩
 f26:=⟨Try.f78.name,by decide,Try.func78.trans (congrArg some (by kernel_rfl))⟩
 f27:=⟨Try.f79.name,by decide,Try.func79.trans (congrArg some (by kernel_rfl))⟩
 f28:=⟨Try.f80.name,by decide,Try.func80.trans (congrArg some (by kernel_rfl))⟩
 f29:=⟨Try.f81.name,by decide,Try.func81.trans (congrArg some (by kernel_rfl))⟩
 f31:=Try.func85.trans (congrArg some (by kernel_rfl))
 f32:=Try.func86.trans (congrArg some (by kernel_rfl))
 f36:=⟨Try.f84.name,by decide,Try.func84.trans (congrArg some (by kernel_rfl))⟩
 f37:=⟨Try.f87.name,by decide,Try.func87.trans (congrArg some (by kernel_rfl))⟩
 f38:=⟨Try.f88.name,by decide,Try.func88.trans (congrArg some (by kernel_rfl))⟩
 f39:=⟨Try.f89.name,by decide,Try.func89.trans (congrArg some (by kernel_rfl))⟩
 f41:=⟨Try.f90.name,by decide,Try.func90.trans (congrArg some (by kernel_rfl))⟩
 t0:=Try.underlying0
 a0:=Try.isAgg0
 z0:=Try.sizeOf0
 v0:=Try.zeroValue0
 t3:=Try.underlying3
 a3:=Try.isAgg3
 z3:=Try.sizeOf3
 v3:=Try.zeroValue3
 t4:=Try.underlying4
 a4:=Try.isAgg4
 z4:=Try.sizeOf4
 v4:=Try.zeroValue4
 t5:=Try.underlying5
 a5:=Try.isAgg5
 z5:=Try.sizeOf5
 v5:=Try.zeroValue5
 t9:=Try.underlying9
 a9:=Try.isAgg9
 z9:=Try.sizeOf9
 v9:=Try.zeroValue9
 t26:=Try.underlying39
 a26:=Try.isAgg39
 z26:=Try.sizeOf39
 v26:=Try.zeroValue39
 t27:=Try.underlying39
 a27:=Try.isAgg39
 z27:=Try.sizeOf39
 v27:=Try.zeroValue39
 t29:=Try.underlying9
 a29:=Try.isAgg9
 z29:=Try.sizeOf9
 v29:=Try.zeroValue9
 t32:=Try.underlying99
 a32:=Try.isAgg99
 z32:=Try.sizeOf99
 v32:=Try.zeroValue99
 t35:=Try.underlying102
 a35:=Try.isAgg102
 z35:=Try.sizeOf102
 v35:=Try.zeroValue102
 t36:=Try.underlying103
 a36:=Try.isAgg103
 z36:=Try.sizeOf103
 v36:=Try.zeroValue103
 t41:=Try.underlying108
 a41:=Try.isAgg108
 z41:=Try.sizeOf108
 v41:=Try.zeroValue108
 t44:=Try.underlying111
 a44:=Try.isAgg111
 z44:=Try.sizeOf111
 v44:=Try.zeroValue111
 t46:=Try.underlying113
 a46:=Try.isAgg113
 z46:=Try.sizeOf113
 v46:=Try.zeroValue113
 t53:=Try.underlying114
 a53:=Try.isAgg114
 z53:=Try.sizeOf114
 v53:=Try.zeroValue114
 t57:=Try.underlying118
 a57:=Try.isAgg118
 z57:=Try.sizeOf118
 v57:=Try.zeroValue118
 t63:=Try.underlying120
 a63:=Try.isAgg120
 z63:=Try.sizeOf120
 v63:=Try.zeroValue120
 t64:=Try.underlying121
 a64:=Try.isAgg121
 z64:=Try.sizeOf121
 v64:=Try.zeroValue121}
def Try.cloneD_ren:Go.Shelf.Ren:=⟨fun | 5=>35 | 7=>55 | n=>n,fun | 23=>55 | 25=>9 | 3=>30 | 4=>4 | 20=>20 | n=>n,fun | n=>n⟩
theorem Try.cloneD:Go.Proofs.SlLaysW.n5 Try.prog Try.cloneD_ren:={
 mixed:=by kernel_rfl
 f5:=⟨Try.f35.name,by decide,Try.func35.trans (congrArg some (by kernel_rfl))⟩
 f7:=Try.func55.trans (congrArg some (by kernel_rfl))
 t4:=Try.underlying4
 a4:=Try.isAgg4
 z4:=Try.sizeOf4
 v4:=Try.zeroValue4
 t20:=Try.underlying20
 a20:=Try.isAgg20
 z20:=Try.sizeOf20
 v20:=Try.zeroValue20
 t23:=Try.underlying55
 a23:=Try.isAgg55
 z23:=Try.sizeOf55
 v23:=Try.zeroValue55}
end Go.Proofs
namespace Go.Proofs.Ytfccndnnpkiajaa
open Go.RowKit Go.ChangeShapes Go.WideShapes Go.Deep
set_option maxRecDepth 100000
theorem znL (m:Nat):AnyZ.SortsIn Try.prog Try.sortedD_ren Fence.wide m:=
 ⟨fun blk off cap ss W hH hblk hsz=>callsIn_wide.2 (AnyM.slices_Sort_string Try.sortD blk off cap ss W hH hblk hsz),
  fun p cap W=>callsIn_wide.2 (AnyM.slices_Sort_string_none Try.sortD p cap W)⟩
theorem zkB (mb:Option Nat) (W:World):CallsIn Fence.wide 5 Try.prog 37 #[.map mb] W fun e w'=>e = .returned (.func (.func 58) #[] #[.pointer (some ⟨W.heap.size,0,none⟩)])∧w'=W.alloc (.cells #[.map mb] TFi):=
 AnyZ.keys_in Try.keysD Fence.wide 5 trivial rfl mb W
set_option maxHeartbeats 1000000 in
theorem zhp {H:Type} (b nn:Nat) (D0:DataW H) (R:Value→Option (DataW H×List MemPlace)) (w:World) (hown:w.ownsMap Try.prog TSt R b nn D0) (hmax:Maps.size D0≤maxLen) (hbytes:Maps.size D0*16≤140737488355328) :
  CallsIn Fence.wide 5 Try.prog 36 #[.func (.func 58) #[] #[.pointer (some ⟨w.heap.size,0,none⟩)]] (w.alloc (.cells #[.map (some b)] TFi)) fun e w'=>∃ (v:Value) (ss:List (List UInt8)),e = .returned v∧ss.Perm (strKeys D0) ∧
   w'.ownsRow (w.alloc (.cells #[.map (some b)] TFi)).heap.size TSt 1 v ss.length ((ss.mergeSort (fun x y=>decide (x≤y))).map encStr)∧(v = .slice none 0 0↔ss=[])∧Below (w.alloc (.cells #[.map (some b)] TFi)).heap.size (w.alloc (.cells #[.map (some b)] TFi)) w':=by
 have hbl:=hown.lt
 have hseq:SeqGives Fence.wide 2 Try.prog 58 #[.pointer (some ⟨w.heap.size,0,none⟩)] encStr (fun ss=>ss.Perm (strKeys D0)) (Maps.size D0) (w.alloc (.cells #[.map (some b)] TFi)):=
  AnyZ.keys_gives (ρ:=Try.keysD_ren) {Try.keysD with} Fence.wide _ trivial rfl (by omega) w.heap.size b nn D0 _ (by simp) (by simp) (by
   obtain ⟨es,clock,hb,Ft,hs,hD⟩:=hown
   exact ⟨es,clock,(Below.heap_alloc _ _ b hbl).trans hb,Ft,hs,hD⟩)
 exact AnyZ.sorted_in Try.sortedD Fence.wide 5 trivial trivial trivial trivial rfl (by omega) (znL _) (enters_of Try.func57 (by kernel_rfl) rfl) 58 #[.pointer (some ⟨w.heap.size,0,none⟩)] trivial (enters_of Try.func58 (by kernel_rfl) rfl) _ _ hmax hbytes _ hseq
theorem zfs {w:World} {mb n:Nat} {D:DataW Value} {M:List File} (hown:w.ownsMap Try.prog TSt RV mb n D) (hM:SortF M) (hk:∀ m,Maps.has D (kS m)=(zae M m).isSome) {ss:List (List UInt8)} (hp:ss.Perm (strKeys D)) :
  (ss.mergeSort (fun x y=>decide (x≤y))).map encStr=(M.map (·.name)).map Value.string:=by
 have hlt:(M.map fun x=>x.name.data.toList).Pairwise fun a b=>a<b:=by
  refine List.pairwise_map.2 (hM.imp fun {a b} h=>?_)
  have:=sLess_iff.1 h
  rwa [Lib.toList_data,Lib.toList_data] at this
 have hc:Collected D (fun _=>false) (M.map fun x=>x.name.data.toList):=by
  refine ⟨List.nodup_iff_pairwise_ne.2 (hlt.imp (S:=fun a b=>a≠b) fun {a b} h e=>List.lt_irrefl b (by rw [e] at h;exact h)),fun x=>?_⟩
  have e:Lit.string x=kS ⟨x.toArray⟩:=by simp [kS]
  rw [e,hk]
  simp only [List.mem_map,and_true]
  constructor
  ·rintro ⟨y,hy,rfl⟩
   have e2:(⟨y.name.data.toList.toArray⟩:ByteArray)=y.name:=by cases y.name;simp
   rw [e2,hM.look hy]
   rfl
  ·intro h
   obtain ⟨b,hb⟩:=Option.isSome_iff_exists.1 h
   exact ⟨_,zb9 hb,by simp⟩
 have h1:=mergeSort_of_perm (hp.trans (hc.perm hown keyS undS fun _=>rfl).symm)
 have h2:(M.map fun x=>x.name.data.toList).mergeSort Go.leB=M.map fun x=>x.name.data.toList:=by
  refine List.mergeSort_of_pairwise (hlt.imp fun {a b} h=>?_)
  simp only [Go.leB,decide_eq_true_eq]
  exact List.le_of_lt h
 have h3:ss.mergeSort (fun x y=>decide (x≤y))=M.map fun x=>x.name.data.toList:=h1.trans h2
 rw [h3,List.map_map,List.map_map]
 refine List.map_congr_left fun x _=>?_
 show encStr x.name.data.toList=Value.string x.name
 simp [encStr]
def crK (torn:Int):List DChange→List DChange
 | []=>[]
 | [c]=>(match zbF c torn with | some c=>[c] | none=>[])
 | c::cs=>c::crK torn cs
theorem zfK (torn:Int):∀ (K:List DChange) (l:List File),zcQ torn K l=(crK torn K).foldl zad l
 | [],l=>rfl
 | [c],l=>by
  unfold zcQ crK
  cases zbF c torn<;>rfl
 | c::x::cs,l=>by
  show zcQ torn (x::cs) (zad l c)=_
  rw [zfK torn (x::cs)]
  rfl
theorem zd4 (torn:Int) (c:DChange):∀ K:List DChange,crK torn (K++[c])=K++(match zbF c torn with | some c=>[c] | none=>[])
 | []=>rfl
 | [x]=>rfl
 | x::y::K=>by
  show x::crK torn ((y::K)++[c])=_
  rw [zd4 torn c (y::K)]
  rfl
theorem zhk {c c':DChange} {torn:Int} (h:zbF c torn=some c'):c'=c∨(c.kind=1∧0<torn∧torn<c.bytes.length∧c'={c with bytes:=c.bytes.take torn.toNat}):=by
 unfold zbF at h
 split at h
 ·rename_i h1
  split at h
  ·cases h
  ·rename_i h2
   have:=Option.some.inj h
   exact .inr ⟨h1.1,by omega,h1.2.2,this.symm⟩
 ·exact .inl (Option.some.inj h).symm
theorem zj6 (torn:Int):∀ (K:List DChange) (c':DChange),c'∈crK torn K→∃ c∈K,c'=c∨(c.kind=1∧0<torn∧torn<c.bytes.length∧c'={c with bytes:=c.bytes.take torn.toNat})
 | [],c',h=>by cases h
 | [c],c',h=>by
  unfold crK at h
  cases e:zbF c torn with
  | none=>rw [e] at h;cases h
  | some c2=>
   rw [e] at h
   have h:c'∈[c2]:=h
   rw [List.mem_singleton] at h
   subst h
   exact ⟨c,List.mem_singleton.2 rfl,zhk e⟩
 | c::x::cs,c',h=>by
  have h:c'∈c::crK torn (x::cs):=h
  rcases List.mem_cons.1 h with e | h
  ·exact ⟨c,List.mem_cons_self ..,.inl e⟩
  ·obtain ⟨c2,h1,h2⟩:=zj6 torn (x::cs) c' h
   exact ⟨c2,List.mem_cons_of_mem _ h1,h2⟩
theorem zdR:∀ (cs:List DChange) (keep:List Bool) (c:DChange),c∈za8 cs keep→c∈cs
 | c0::cs,b::bs,c,h=>by
  unfold za8 at h
  cases b
  ·exact List.mem_cons_of_mem _ (zdR cs bs c (by simpa using h))
  ·rcases List.mem_cons.1 (by simpa using h:c∈c0::za8 cs bs) with e | h
   ·exact e▸List.mem_cons_self ..
   ·exact List.mem_cons_of_mem _ (zdR cs bs c h)
 | [],_,c,h=>by cases h
 | _::_,[],c,h=>by cases h
theorem zcF:∀ (cs:List DChange) (keep:List Bool),(za8 cs keep).length≤cs.length
 | c0::cs,b::bs=>by
  have:=zcF cs bs
  unfold za8
  cases b<;>simp<;>omega
 | [],_=>by simp [za8]
 | _::_,[]=>by simp [za8]
theorem zgk (torn:Int):∀ K:List DChange,(crK torn K).length≤K.length
 | []=>Nat.le_refl _
 | [c]=>by
  unfold crK
  cases zbF c torn<;>simp
 | c::x::cs=>by
  show (c::crK torn (x::cs)).length≤_
  have:=zgk torn (x::cs)
  simp only [List.length_cons] at this ⊢
  omega
theorem zlX {d:RDisk} (h:DkI d) (keep:List Bool) (torn:Int):∀ c∈crK torn (za8 d.changes keep),0≤c.at_∧c.at_+c.bytes.length≤4194304∧NmOk c.file:=by
 intro c hc
 obtain ⟨c2,h1,h2⟩:=zj6 torn _ c hc
 have h3:=h.ch c2 (zdR _ _ _ h1)
 rcases h2 with rfl | ⟨_,_,h4,rfl⟩
 ·exact h3
 ·refine ⟨h3.1,?_,h3.2.2⟩
  show c2.at_+((c2.bytes.take torn.toNat).length:Nat)≤4194304
  rw [List.length_take]
  have:=h3.2.1
  omega
theorem zj7 (d:RDisk) (keep:List Bool) (torn:Int):crD d keep torn={d with lasts:=(crK torn (za8 d.changes keep)).foldl zad d.lasts,changes:=[],down:=false,stops:=false}:=by
 unfold crD
 rw [zfK]
theorem DkI.crash {d:RDisk} (h:DkI d) (keep:List Bool) (torn:Int):DkI (crD d keep torn):=by
 rw [zj7]
 have hk:=zlX h keep torn
 exact ⟨h.sl.dones _,zaQ _ _ h.fb fun c hc=>⟨(hk c hc).1,(hk c hc).2.1⟩,fun c hc=>(by cases hc),zd2 _ _ h.nm fun c hc=>(hk c hc).2.2,trivial,h.rm,h.i64⟩
structure KRow (w0 wx:World) (S:Nat→Prop) (s:Value) (K:List DChange):Prop where
 r:∃ kr:List (List Value),wx.ownsRow 0 TCh 5 s K.length kr.flatten∧kr.length=K.length∧∀ i,i<K.length→ChAt wx (fun x=>S x∨(w0.heap.size≤x∧s.ownBlock≠some x)) (K.getD i default) (kr.getD i [])
 g:∀ g,s.ownBlock=some g→w0.heap.size≤g
 b:Below w0.heap.size w0 wx
theorem KRow.nil (w0:World) (S:Nat→Prop):KRow w0 w0 S (.slice none 0 0) []:=
 ⟨⟨[],World.ownsRow_nil _ _ _ _,rfl,fun i hi=>absurd hi (Nat.not_lt_zero _)⟩,fun g hg=>(by cases hg),Below.refl _ _⟩
theorem KRow.below {w0 wx w':World} {S:Nat→Prop} {s:Value} {K:List DChange} (h:KRow w0 wx S s K) (hb:Below wx.heap.size wx w'):KRow w0 w' S s K:=by
 obtain ⟨kr,h1,h2,h3⟩:=h.r
 exact ⟨⟨kr,zan h1 fun g hg=>hb.block g (h1.lt g hg).2,h2,fun i hi=>(h3 i hi).kept (Same.below hb) fun _ _ h=>h⟩,h.g,h.b.trans (hb.mono h.b.size)⟩
theorem KRow.shape {w0 wx:World} {S:Nat→Prop} {s:Value} {K:List DChange} (h:KRow w0 wx S s K):∃ a cap kr,s = .slice a K.length cap∧(0<K.length→∃ g,a=some ⟨g,0,none⟩∧RowB wx g cap kr)∧kr.length=K.length∧(∀ i,i<K.length→ChAt wx (fun x=>S x∨(w0.heap.size≤x∧s.ownBlock≠some x)) (K.getD i default) (kr.getD i [])):=by
 obtain ⟨kr,h1,h2,h3⟩:=h.r
 have h5:∀ r∈kr,r.length=5:=fun r hr=>by
  obtain ⟨i,hi,rfl⟩:=List.mem_iff_getElem.1 hr
  have:=(h3 i (by omega)).len
  simpa [List.getD,hi] using this
 have h1':=h1
 rcases h1.2 with ⟨rfl,hz⟩ | ⟨g,cap,cur,rfl,_⟩
 ·exact ⟨none,0,kr,by rw [hz],fun hp=>absurd hp (by omega),h2,h3⟩
 ·exact ⟨some ⟨g,0,none⟩,cap,kr,rfl,fun _=>⟨g,rfl,RowB.of_own h1' h5 h2⟩,h2,h3⟩
theorem KRow.app {w0 wx w1 w':World} {S:Nat→Prop} {s s':Value} {K:List DChange} {c:DChange} {cs:List Value} (h:KRow w0 wx S s K) (hS:∀ x,S x→x<w0.heap.size) (hb:Below wx.heap.size wx w1)
  (hc:ChAt w1 (fun x=>S x∨(w0.heap.size≤x∧s.ownBlock≠some x)) c cs) {kr:List (List Value)} (hkr:kr.length=K.length) (hk3:∀ i,i<K.length→ChAt wx (fun x=>S x∨(w0.heap.size≤x∧s.ownBlock≠some x)) (K.getD i default) (kr.getD i []))
  (hr:w'.ownsRow 0 TCh 5 s' (K.length+1) (kr.flatten++cs)) (hg:w1.grownBy w' s.ownBlock) (hs:s'.ownBlock=s.ownBlock∨∃ g,s'.ownBlock=some g∧w1.heap.size≤g):KRow w0 w' S s' (K++[c]):=by
 have hsz:=h.b.size
 have hsz1:=hb.size
 have hS2:Same (fun x=>S x∨(w0.heap.size≤x∧s.ownBlock≠some x)) w1 w':=⟨hg.size,fun x hx hl=>hg.block x hl fun e=>by
  rcases hx with hx | hx
  ·have:=h.g x e.symm
   have:=hS x hx
   omega
  ·exact hx.2 e.symm⟩
 have hT:∀ x,x<w1.heap.size→(S x∨(w0.heap.size≤x∧s.ownBlock≠some x))→(S x∨(w0.heap.size≤x∧s'.ownBlock≠some x)):=fun x hl hx=>by
  rcases hx with hx | hx
  ·exact .inl hx
  ·refine .inr ⟨hx.1,?_⟩
   rcases hs with e | ⟨g,e,hge⟩
   ·rw [e];exact hx.2
   ·rw [e]
    intro e2
    have:=Option.some.inj e2
    omega
 refine ⟨⟨kr++[cs],?_,by simp [hkr],fun i hi=>?_⟩,fun g hg'=>?_,?_⟩
 ·have e:(kr++[cs]).flatten=kr.flatten++cs:=by simp
  rw [e,List.length_append]
  exact hr
 ·rw [List.length_append] at hi
  by_cases hi2:i<K.length
  ·rw [zaY hi2,zaY (by rw [hkr];exact hi2)]
   exact ((hk3 i hi2).kept (Same.below hb) fun _ _ h=>h).kept hS2 hT
  ·have:i=K.length:=by simp at hi;omega
   subst this
   rw [zaZ rfl,zaZ hkr.symm]
   exact hc.kept hS2 hT
 ·rcases hs with e | ⟨g',e,hge⟩
  ·exact h.g g (e▸hg')
  ·rw [e] at hg'
   have:=Option.some.inj hg'
   omega
 ·refine (h.b.trans (hb.mono hsz)).grown hg (by omega) fun g hg'=>h.g g hg'
theorem KRow.init {w0 wx:World} {S:Nat→Prop} {g n cap:Nat} {K:List DChange} {c:DChange} (h:KRow w0 wx S (.slice (some ⟨g,0,none⟩) (n+1) cap) (K++[c])) (hn:K.length=n):KRow w0 wx S (.slice (some ⟨g,0,none⟩) n cap) K:=by
 obtain ⟨kr,h1,h2,h3⟩:=h.r
 have h5:∀ r∈kr,r.length=5:=fun r hr=>by
  obtain ⟨i,hi,rfl⟩:=List.mem_iff_getElem.1 hr
  have:=(h3 i (by omega)).len
  simpa [List.getD,hi] using this
 have hl:(K++[c]).length=n+1:=by simp [hn]
 rw [hl] at h1 h2
 have hB:=(RowB.of_own h1 h5 h2).take n
 have ht:(kr.take n).length=n:=by rw [List.length_take];omega
 have ho:=hB.own
 rw [ht] at ho
 refine ⟨⟨kr.take n,by rw [hn];exact ho,by rw [ht,hn],fun i hi=>?_⟩,fun g' hg'=>h.g g' hg',h.b⟩
 have:=h3 i (by rw [hl];omega)
 rw [zaY hi] at this
 have e:(kr.take n).getD i []=kr.getD i []:=by rw [List.getD_eq_getElem?_getD,List.getD_eq_getElem?_getD,List.getElem?_take_of_lt (by omega)]
 rw [e]
 exact this
theorem zfP {ops:Array Oper} {rest:List Oper} {o:Oper} {a:Act} {Q:Exit→Act→World→Prop} {w:World} (hgd:o.guard=none) (s x:Operand)
  (ho:o.op = .call {callee:= .builtin .append,args:= #[s,x],argTypes:= #[TRw,TRw]}) (v:Value) (n:Nat) (xs cs:List Value) (hs:a.eval s=v) (hr:w.ownsRow 0 TCh 5 v n xs) (hl:cs.length=5) (h1:∀ u∈cs,u.oneCell'=true) (hn:n≤100000)
  (ad:Addr) (had:ad=⟨w.heap.size,0,none⟩) (hx:a.eval x = .slice (some ad) 1 1)
  (h:∀ v' w',w'.ownsRow 0 TCh 5 v' (n+1) (xs++cs)→w.grownBy w' v.ownBlock→(v'.ownBlock=v.ownBlock∨∃ g,v'.ownBlock=some g∧w.heap.size≤g)→wpList Try.prog ops Q rest (a.put o.dst v') w') :
  wpList Try.prog ops Q (o::rest) a (w.alloc (.cells cs.toArray TCh)):=by
 subst had
 refine wpList_plain hgd fun K hK=>?_
 obtain ⟨v',w',q1,q2,q3,q4⟩:=zgB (ty:=o.type) hr hl h1 hn
 exact zl0 s x TRw ho v _ hs hx (fun v' w'=>w'.ownsRow 0 TCh 5 v' (n+1) (xs++cs)∧w.grownBy w' v.ownBlock∧(v'.ownBlock=v.ownBlock∨∃ g,v'.ownBlock=some g∧w.heap.size≤g)) ⟨v',w',q1,q2,q3,q4⟩ (fun v' w' hR=>hK _ _ (h v' w' hR.1 hR.2.1 hR.2.2))
theorem zhO {w:World} {S:Nat→Prop} {mb:Nat} {M:List File} (h:FilesAt w S mb M):Calls Try.prog 35 #[.map (some mb)] w fun e w'=>e = .returned (.map (some w.heap.size))∧FilesAt w' S w.heap.size M∧Below w.heap.size w w':=by
 obtain ⟨D,hown,hsz,hk⟩:=h.D
 refine (AnyW.maps_Clone_owns Try.cloneD TSt RV mb M.length D w hown).mono fun e w' ⟨he,h1,h2,h3⟩=>⟨he,⟨D,h1,hsz,fun n=>⟨(hk n).1,fun bs hbs=>?_⟩⟩,h3⟩
 obtain ⟨v,g1,g2⟩:=(hk n).2 bs hbs
 exact ⟨v,g1,g2.same (Same.below h3)⟩
abbrev BlR (w:World) (S:Nat→Prop) (v:Value) (bs:List Bool):Prop:=Rd w S (.sl [.bool]) v (.sl (bs.map fun b=>[.bool b]))
theorem BlR.cells {w:World} {S:Nat→Prop} {v:Value} {bs:List Bool} (h:BlR w S v bs):∃ a c,v = .slice a bs.length c∧bs.length≤140737488355328∧(∀ i,i<bs.length→∃ g off,a=some ⟨g,off,none⟩∧S g∧g<w.heap.size∧w.cell? ⟨g,off+i,none⟩=some (.bool (bs.getD i false))):=by
 obtain ⟨a,c,e,h⟩:=h.sl'
 have hl:(bs.map fun b=>[D.bool b]).length=bs.length:=List.length_map ..
 rw [hl] at e h
 refine ⟨a,c,e,h.bd.2.2.1,fun i hi=>?_⟩
 obtain ⟨g,off,rfl,hS,hlt,vals,h1,h2⟩:=h.rowAt (by omega)
 refine ⟨g,off,rfl,hS,hlt,?_⟩
 have h3:=h1 i 0 hi (by simp)
 have h4:=(h2 i hi).2 0 (by simp)
 have e1:((bs.map fun b=>[D.bool b]).getD i []).getD 0 default = .bool (bs.getD i false):=by simp [List.getD,hi]
 rw [e1] at h4
 rw [Rd.bool' h4] at h3
 simpa using h3
theorem DkAt.crash {w wr w5:World} {b:Nat} {d:RDisk} {F:Nat→Prop} {m1 m2:Nat} {v:Value} {rows:List (List Value)} {keep:List Bool} {torn:Int} (h:DkAt w b d F m1 m2 v rows) (ht:Turn (fun x=>x=m1) w wr)
  (hf:FilesAt w5 (fun x=>(SB F b m1 m2 v x∨w.heap.size≤x)∧x<wr.heap.size) m1 (crD d keep torn).lasts) (hf3:FilesAt w5 (fun x=>(SB F b m1 m2 v x∨w.heap.size≤x)∧x<wr.heap.size) wr.heap.size (crD d keep torn).lasts) (hb5:Below wr.heap.size wr w5) :
  DPost w b F (crD d keep torn) (.int .i64 0) (.returned (.int .i64 0)) ((((w5.setCell ⟨b,2,none⟩ (.map (some wr.heap.size))).setCell ⟨b,3,none⟩ (.slice none 0 0)).setCell ⟨b,4,none⟩ (.bool false)).setCell ⟨b,5,none⟩ (.bool false)):=by
 have hbl:=h.fl _ h.fb
 have h1l:=h.fl _ h.f1
 have hsz:=ht.size
 have h3l:=hf3.lt
 obtain ⟨W,hW⟩:∃ W,((((w5.setCell ⟨b,2,none⟩ (.map (some wr.heap.size))).setCell ⟨b,3,none⟩ (.slice none 0 0)).setCell ⟨b,4,none⟩ (.bool false)).setCell ⟨b,5,none⟩ (.bool false))=W:=⟨_,rfl⟩
 have hzW:W.heap.size=w5.heap.size:=by rw [← hW];simp [World.setCell]
 have hfar:∀ x,x≠b→W.heap[x]? = w5.heap[x]? := fun x hx=>by rw [← hW,zat hx,zat hx,zat hx,zat hx]
 have hblk:Blk W b TDi (dkCs (crD d keep torn) m1 wr.heap.size (.slice none 0 0)):=by
  have k5:Blk w5 b TDi (dkCs d m1 m2 v):=(hb5.block b (by omega)).trans (ht.keep h.blk h.b1)
  have k:=(((k5.set 2 (.map (some wr.heap.size))).set 3 (.slice none 0 0)).set 4 (.bool false)).set 5 (.bool false)
  rw [hW] at k
  simpa [dkCs,crD] using k
 have hS:Same (fun x=>(SB F b m1 m2 v x∨w.heap.size≤x)∧x<wr.heap.size) w5 W:=⟨by omega,fun x hx hl=>hfar x (by
  rcases hx.1 with g | g
  ·exact g.2.1
  ·omega)⟩
 have hT:∀ x,x<w5.heap.size→((SB F b m1 m2 v x∨w.heap.size≤x)∧x<wr.heap.size)→SB (fun x=>x<W.heap.size∧(F x∨w.heap.size≤x)) b m1 wr.heap.size (.slice none 0 0) x:=fun x hl hx=>by
  refine ⟨⟨by omega,hx.1.imp (fun g=>g.1) id⟩,?_,?_,by have:=hx.2;omega,fun e=>by cases e⟩
  ·rcases hx.1 with g | g
   ·exact g.2.1
   ·omega
  ·rcases hx.1 with g | g
   ·exact g.2.2.1
   ·omega
 refine ⟨rfl,fun x=>x<W.heap.size∧(F x∨w.heap.size≤x),?_,fun x hx=>hx.2,?_⟩
 ·rw [hW]
  refine ⟨m1,wr.heap.size,.slice none 0 0,[],⟨hblk,hf.kept (hfar _ (Ne.symm h.b1)) hS hT,hf3.kept (hfar _ (by omega)) hS hT,World.ownsRow_nil _ _ _ _,rfl,fun i hi=>absurd hi (Nat.not_lt_zero _),fun x hx=>hx.1,⟨by omega,.inl h.fb⟩,⟨by omega,.inl h.f1⟩,⟨by omega,.inr hsz⟩,fun g hg=>(by cases hg),by omega,h.inv.crash keep torn⟩⟩
 ·exact (((((((ht.mono fun x e=>by rw [e];exact h.f1).trans (Turn.below (F:=F) hb5) fun x _ h=>h).set (.inl h.fb) _).set (.inl h.fb) _).set (.inl h.fb) _).set (.inl h.fb) _))
theorem zlc {K:List DChange} {l:List File} {j:Nat} (hj:j<K.length):(K.take (j+1)).foldl zad l=zad ((K.take j).foldl zad l) (K.getD j default):=by
 rw [za5 (d:=default) hj,List.foldl_append]
 rfl
theorem zhl {c:DChange} {torn:Int} (h:¬ (c.kind=1∧0≤torn∧torn<c.bytes.length)):zbF c torn=some c:=by unfold zbF;rw [if_neg h]
theorem zhj {c:DChange} (h:c.kind=1∧(0:Int)≤0∧(0:Int)<c.bytes.length):zbF c 0=none:=by unfold zbF;rw [if_pos h,if_pos rfl]
theorem zhY {c:DChange} {torn:Int} (h:c.kind=1∧0≤torn∧torn<c.bytes.length) (hp:torn≠0):zbF c torn=some {c with bytes:=c.bytes.take torn.toNat}:=by unfold zbF;rw [if_pos h,if_neg hp]
theorem DkAt.rowB {w:World} {b:Nat} {d:RDisk} {F:Nat→Prop} {m1 m2 nl cv:Nat} {av:Option Addr} {rows:List (List Value)} (h:DkAt w b d F m1 m2 (.slice av nl cv) rows) (hn:d.changes.length=nl) (hp:0<nl):∃ g,av=some ⟨g,0,none⟩∧RowB w g cv rows∧nl≤cv∧F g:=by
 have hr:=h.row
 rcases hr.2 with ⟨e,hz⟩ | ⟨g,cap,cur,e,_⟩
 ·omega
 ·simp only [Value.slice.injEq] at e
  obtain ⟨rfl,e2,rfl⟩:=e
  rw [hn] at hr
  have hr:w.ownsRow 0 TCh 5 (.slice (some ⟨g,0,none⟩) nl cv) nl rows.flatten:=hr
  have hB:=RowB.of_own hr (fun r hr=>by
   obtain ⟨i,hi,rfl⟩:=List.mem_iff_getElem.1 hr
   have:=(h.ch i (by rw [← h.rl];exact hi)).len
   simpa [List.getD,hi] using this) (h.rl.trans hn)
  refine ⟨g,rfl,hB,?_,h.fv g rfl⟩
  have:=hB.le
  rw [h.rl] at this
  omega
theorem zeD {j n:Nat} (hw:wrap64 ((j:Int)+1)=((j+1:Nat):Int)) (h:j<n):n-(intOf (.int .i64 (wrap64 ((j:Int)+1)))).toNat<n-(intOf (.int .i64 (j:Int))).toNat:=by
 rw [hw]
 show n-((j+1:Nat):Int).toNat<n-(j:Int).toNat
 omega
theorem KRow.next {w0 wx w':World} {S:Nat→Prop} {s:Value} {K K':List DChange} (h:KRow w0 wx S s K) (e:K'=K) (hb:Below wx.heap.size wx w'):KRow w0 w' S s K':=e▸h.below hb
theorem KRow.last {w0 wx:World} {S:Nat→Prop} {a:Option Addr} {nk cap n0:Nat} {K K0:List DChange} {c:DChange} (h:KRow w0 wx S (.slice a nk cap) K) (hnk:K.length=nk) (hK:K=K0++[c]) (hn0:K0.length=n0) :
  ∃ g dv bv,a=some ⟨g,0,none⟩∧nk=n0+1∧nk≤cap∧(wx.cell? ⟨g,n0*5,none⟩=some (.string c.file)∧wx.cell? ⟨g,n0*5+1,none⟩=some dv∧wx.cell? ⟨g,n0*5+2,none⟩=some (.int .i64 (chAt c))∧wx.cell? ⟨g,n0*5+3,none⟩=some bv∧wx.cell? ⟨g,n0*5+4,none⟩=some (.bool (c.kind==1))) ∧
   ChAt wx (fun x=>S x∨(w0.heap.size≤x∧(Value.slice a nk cap).ownBlock≠some x)) c [.string c.file,dv,.int .i64 (chAt c),bv,.bool (c.kind==1)]∧g<wx.heap.size∧BRd wx (fun x=>S x∨(w0.heap.size≤x∧(Value.slice a nk cap).ownBlock≠some x)) bv (chBy c):=by
 have hz:nk=n0+1:=by rw [← hnk,hK,List.length_append,hn0];rfl
 obtain ⟨a',cap',kr,e,h2,h3,h4⟩:=h.shape
 simp only [Value.slice.injEq] at e
 obtain ⟨rfl,_,rfl⟩:=e
 obtain ⟨g,rfl,hB⟩:=h2 (by omega)
 have h5:=h4 n0 (by omega)
 have e1:K.getD n0 default=c:=by rw [hK];exact zaZ hn0.symm
 rw [e1] at h5
 obtain ⟨dv,bv,ecs,hdo,hbv⟩:=h5.D
 have hrl:n0<kr.length:=by omega
 have c0:=(hB.cell (i:=n0) (j:=0) hrl (by omega)).1
 have c1:=(hB.cell (i:=n0) (j:=1) hrl (by omega)).1
 have c2:=(hB.cell (i:=n0) (j:=2) hrl (by omega)).1
 have c3:=(hB.cell (i:=n0) (j:=3) hrl (by omega)).1
 have c4:=(hB.cell (i:=n0) (j:=4) hrl (by omega)).1
 rw [ecs] at c0 c1 c2 c3 c4
 simp only [List.getD_cons_zero,List.getD_cons_succ,Nat.add_zero] at c0 c1 c2 c3 c4
 rw [ecs] at h5
 have hle:=hB.le
 exact ⟨g,dv,bv,rfl,hz,by omega,⟨c0,c1,c2,c3,c4⟩,h5,hB.lt,hbv⟩
def ze2 (K:List DChange) (torn:Int):Bool:=match K.getLast? with
 | none=>false
 | some c=>c.kind==1&&(decide (torn≥0)&&decide (torn<c.bytes.length))
theorem zef (K0:List DChange) (c:DChange) (torn:Int):ze2 (K0++[c]) torn=(c.kind==1&&(decide (torn≥0)&&decide (torn<c.bytes.length))):=by unfold ze2;rw [List.getLast?_concat]
theorem zmj {K:List DChange} {torn:Int} (h:ze2 K torn=false):crK torn K=K:=by
 rcases List.eq_nil_or_concat K with ek | ⟨K0,c,ek⟩
 ·rw [ek];rfl
 ·rw [List.concat_eq_append] at ek
  subst ek
  rw [zef] at h
  rw [zd4,zhl]
  rintro ⟨h1,h2,h3⟩
  rw [h1,decide_eq_true (show torn≥0 from h2),decide_eq_true h3] at h
  cases h
theorem zmi {K:List DChange} {torn:Int} (h:ze2 K torn=true):∃ K0 c,K=K0++[c]∧c.kind=1∧0≤torn∧torn<c.bytes.length:=by
 rcases List.eq_nil_or_concat K with ek | ⟨K0,c,ek⟩
 ·rw [ek] at h;cases h
 ·rw [List.concat_eq_append] at ek
  subst ek
  rw [zef] at h
  simp only [Bool.and_eq_true,decide_eq_true_eq,beq_iff_eq] at h
  exact ⟨K0,c,rfl,h.1,h.2.1,h.2.2⟩
theorem KRow.cut {w0 wx w':World} {S:Nat→Prop} {g n nk cap:Nat} {K K0:List DChange} {c:DChange} (h:KRow w0 wx S (.slice (some ⟨g,0,none⟩) nk cap) K) (hK:K=K0++[c]) (hn:K0.length=n) (hk:nk=n+1) (hb:Below wx.heap.size wx w'):KRow w0 w' S (.slice (some ⟨g,0,none⟩) n cap) K0:=by
 subst hk
 subst hK
 exact (h.init hn).below hb
theorem KRow.torn {w0 wx w1 w5:World} {S:Nat→Prop} {g n0 cap:Nat} {K0:List DChange} {c:DChange} {cs:List Value} (h:KRow w0 wx S (.slice (some ⟨g,0,none⟩) n0 cap) K0) (hS:∀ x,S x→x<w0.heap.size) (hg:g<wx.heap.size) (hb1:Below wx.heap.size wx w1) (hb5:Below w1.heap.size w1 w5) (hc5:ChAt w5 (fun x=>w1.heap.size≤x) c cs) :
  ∃ kr:List (List Value),w5.ownsRow 0 TCh 5 (.slice (some ⟨g,0,none⟩) n0 cap) K0.length kr.flatten∧∀ (v':Value) (w':World),w'.ownsRow 0 TCh 5 v' (K0.length+1) (kr.flatten++cs)→w5.grownBy w' (Value.slice (some ⟨g,0,none⟩) n0 cap).ownBlock→(v'.ownBlock=(Value.slice (some ⟨g,0,none⟩) n0 cap).ownBlock∨∃ g,v'.ownBlock=some g∧w5.heap.size≤g)→KRow w0 w' S v' (K0++[c]):=by
 have hb05:Below wx.heap.size wx w5:=hb1.trans (hb5.mono hb1.size)
 obtain ⟨kr,g1,g2,g3⟩:=h.r
 refine ⟨kr,zan g1 fun g hg=>hb05.block g (g1.lt g hg).2,fun v' w' p1 p2 p3=>h.app hS hb05 (hc5.kept (Same.refl _ _) fun x hx hs=> .inr ⟨?_,fun e=>?_⟩) g2 g3 p1 p2 p3⟩
 ·have:=h.b.size
  have:=hb1.size
  have hs:w1.heap.size≤x:=hs
  omega
 ·have:=hb1.size
  have hs:w1.heap.size≤x:=hs
  have e:g=x:=Option.some.inj e
  omega
theorem zbK {w:World} {p:Addr} {v:Value} (h:w.cell? p=some v):p.block<w.heap.size:=by
 rcases Nat.lt_or_ge p.block w.heap.size with h1 | h1
 ·exact h1
 ·exfalso
  have e:w.heap[p.block]? = none:=by simp [h1]
  simp [World.cell?,e] at h
theorem zhR {w:World} {x:Nat} {f a v:Value} (h:w.cell? ⟨x,0,none⟩=some f∧w.cell? ⟨x,2,none⟩=some a∧w.cell? ⟨x,3,none⟩=some v) (o:Obj):(w.alloc o).cell? ⟨x,0,none⟩=some f∧(w.alloc o).cell? ⟨x,2,none⟩=some a∧(w.alloc o).cell? ⟨x,3,none⟩=some v:=by
 have hl:=zbK h.1
 have hb:Below w.heap.size w (w.alloc o):=(Below.refl _ _).alloc (Nat.le_refl _) _
 exact ⟨(Below.cell hb (p:=⟨x,0,none⟩) hl).trans h.1,(Below.cell hb (p:=⟨x,2,none⟩) hl).trans h.2.1,(Below.cell hb (p:=⟨x,3,none⟩) hl).trans h.2.2⟩
theorem zhQ {w w':World} {row:Option Nat} {x:Nat} {f a v:Value} (h:w.cell? ⟨x,0,none⟩=some f∧w.cell? ⟨x,2,none⟩=some a∧w.cell? ⟨x,3,none⟩=some v) (hn:row≠some x) (hg:w.grownBy w' row):w'.cell? ⟨x,0,none⟩=some f∧w'.cell? ⟨x,2,none⟩=some a∧w'.cell? ⟨x,3,none⟩=some v:=by
 have hl:=zbK h.1
 have e:=hg.block x hl fun e=>hn e.symm
 exact ⟨(World.cell?_of_block e).trans h.1,(World.cell?_of_block e).trans h.2.1,(World.cell?_of_block e).trans h.2.2⟩
set_option maxHeartbeats 8000000 in
theorem zfJ {w:World} {b:Nat} {d:RDisk} {F:Nat→Prop} (h:DkOk w b d F) (hN:d.lasts.length+d.changes.length≤5000) {SK:Nat→Prop} {kv:Value} {keep:List Bool} (hk:BlR w SK kv keep) {torn:Int} (htr:I64 torn) :
  Calls Try.prog 14 #[ptrV b,kv,.int .i64 torn] w (DPost w b F (crD d keep torn) (.int .i64 0)):=by
 obtain ⟨m1,m2,v,rows,h⟩:=h.o
 obtain ⟨a,cap,rfl,hkb,hkc⟩:=hk.cells
 obtain ⟨kl,hkl⟩:∃ kl,keep.length=kl:=⟨_,rfl⟩
 rw [hkl] at hkb hkc ⊢
 have HKC:=Lib.hid hkc
 have HKB:=Lib.hid hkb
 have HKL:=Lib.hid hkl
 have hK:=fun (w1:World) (hb:Below w.heap.size w w1)=>h.below hb
 have HK:=Lib.hid hK
 have H:=Lib.hid h
 have HI:=Lib.hid h.inv
 obtain ⟨q0,q1,q2,q3,q4,q5,q6⟩:=box7 h.blk
 obtain ⟨nl,hnl⟩:∃ nl,d.changes.length=nl:=⟨_,rfl⟩
 have hvs:∃ av cv,v = .slice av nl cv:=by
  rcases h.row.2 with ⟨rfl,hz⟩ | ⟨g,cap,cur,rfl,_⟩
  ·exact ⟨none,0,by rw [← hnl,hz]⟩
  ·exact ⟨_,_,by rw [← hnl]⟩
 obtain ⟨av,cv,rfl⟩:=hvs
 have HNL:=Lib.hid hnl
 have HT:=Lib.hid htr
 clear hK hk hkc hkb hkl hnl h htr
 unfold ptrV
 go_enter Try.func14,Try.ntmps14
 go_wp2_with fail
 go_loopw [7,21] (fun s7 s21 wr=>∃ j:Nat,s21 = .int .i64 j∧j≤nl∧Hid (KRow w wr (SB F b m1 m2 (.slice av nl cv)) s7 (za8 (d.changes.take j) keep))) (fun _ s21 _=>nl-(intOf s21).toNat)
 case atStart=>exact ⟨0,rfl,Nat.zero_le _,Lib.hid (by cases keep<;>exact KRow.nil _ _)⟩
 case round=>
  obtain ⟨j,rfl,hj,HR⟩:=hrel
  by_cases hlt:j<nl
  ·have hltz:(j:Int)<(nl:Int):=by omega
   have hj0:(0:Int)≤(j:Int):=Int.natCast_nonneg j
   have hw:wrap64 ((j:Int)+1)=((j+1:Nat):Int):=by have:=HNL.out;unfold wrap64;omega
   have hbw:=HR.out.b
   obtain ⟨g,rfl,hB0,hncv,hFg⟩:=H.out.rowB HNL.out (by omega)
   have hB:=hB0.kept (hbw.block g hB0.lt)
   have hch:=(H.out.ch j (by rw [HNL.out];exact hlt)).kept (Same.below hbw) fun _ _ h=>h
   obtain ⟨c,hc⟩:∃ c,d.changes.getD j default=c:=⟨_,rfl⟩
   rw [hc] at hch
   obtain ⟨dv,bv,ecs,hdo,hbv⟩:=hch.D
   have hrl:j<rows.length:=by have:=H.out.rl;have:=HNL.out;omega
   have c0:=(hB.cell (i:=j) (j:=0) hrl (by omega)).1
   have c1:=(hB.cell (i:=j) (j:=1) hrl (by omega)).1
   have c2:=(hB.cell (i:=j) (j:=2) hrl (by omega)).1
   have c3:=(hB.cell (i:=j) (j:=3) hrl (by omega)).1
   have c4:=(hB.cell (i:=j) (j:=4) hrl (by omega)).1
   rw [ecs] at c0 c1 c2 c3 c4
   simp only [List.getD_cons_zero,List.getD_cons_succ,Nat.add_zero] at c0 c1 c2 c3 c4
   have hones:=hch.ones
   rw [ecs] at hones
   have s1:= @zak Try.prog dv (hones _ (by simp))
   have s3:= @zak Try.prog bv (hones _ (by simp))
   have hnext:=zbl d.changes keep j (by rw [HNL.out];exact hlt)
   rw [hc] at hnext
   have HN2:=Lib.hid hnext
   have hlen:=zcF (d.changes.take j) keep
   rw [List.length_take] at hlen
   have hkll:=HKL.out
   have HBW:=Lib.hid hbw
   obtain ⟨n7,hn7⟩:∃ n7,(za8 (d.changes.take j) keep).length=n7:=⟨_,rfl⟩
   rw [ecs] at hch
   by_cases hkj:j<kl
   ·have hkz:(j:Int)<(kl:Int):=by omega
    obtain ⟨gk,ok,rfl,_,hgk,hck⟩:=HKC.out j hkj
    have hckr:(wr.alloc (.cells #[.string c.file,dv,.int .i64 (chAt c),bv,.bool (c.kind==1)] TCh)).cell? ⟨gk,ok+j,none⟩=some (.bool (keep.getD j false)):=by
     rw [← hck];exact Below.cell (hbw.alloc hbw.size _) hgk
    cases hb:keep.getD j false
    ·rw [hb] at hckr
     rw [hb,if_neg (by decide)] at hnext
     have HN3:=Lib.hid hnext
     clear hdo hbv ecs hones hnext hb hch hB hB0 hn7 hck hbw hlen hFg HN2 hc
     go_wp2
     go_roundw
     case rel=>exact ⟨j+1,congrArg _ hw,hlt,Lib.hid (HR.out.next HN3.out ((Below.refl _ _).alloc (Nat.le_refl _) _))⟩
     case measure=>exact zeD hw hlt
    ·rw [hb] at hckr
     rw [hb,if_pos rfl] at hnext
     have HN3:=Lib.hid hnext
     obtain ⟨kr,hro,hkrl,hk3⟩:=HR.out.r
     obtain ⟨W1,hW1⟩:∃ W1,wr.alloc (.cells #[.string c.file,dv,.int .i64 (chAt c),bv,.bool (c.kind==1)] TCh)=W1:=⟨_,rfl⟩
     have hb1:Below wr.heap.size wr W1:=by rw [← hW1];exact (Below.refl _ _).alloc (Nat.le_refl _) _
     rw [hW1] at hckr
     have kx:Blk W1 wr.heap.size TCh #[.string c.file,dv,.int .i64 (chAt c),bv,.bool (c.kind==1)]:=by rw [← hW1];exact Blk.new wr TCh _
     obtain ⟨y0,y1,y2,y3,y4⟩:=box5 kx
     have hro1:W1.ownsRow 0 TCh 5 u7 (za8 (d.changes.take j) keep).length kr.flatten:=zan hro fun g hg=>hb1.block g (hro.lt g hg).2
     have hfin:=fun (v':Value) (w':World) (g1:w'.ownsRow 0 TCh 5 v' ((za8 (d.changes.take j) keep).length+1) (kr.flatten++[.string c.file,dv,.int .i64 (chAt c),bv,.bool (c.kind==1)])) (g2:W1.grownBy w' u7.ownBlock) (g3:v'.ownBlock=u7.ownBlock∨∃ g,v'.ownBlock=some g∧W1.heap.size≤g)=>
      (HR.out.app (c:=c) (fun x hx=>H.out.fl x hx.1) hb1 (hch.kept (Same.below hb1) fun x hx h=> .inl h) hkrl hk3 g1 g2 g3)
     have HF:=Lib.hid hfin
     have HRO:=Lib.hid hro1
     have HON:=Lib.hid hones
     have HLE:=Lib.hid (show (za8 (d.changes.take j) keep).length≤100000 by omega)
     rw [hn7] at HF HRO HLE
     clear hdo hbv ecs hones hnext hb hch hB hB0 hn7 hck hbw hlen hFg HN2 hc hfin hro hro1 hk3 hkrl hb1
     go_wp2_with (at_builtin;refine zfP rfl (.tmp 36) (.tmp 38) rfl u7 n7 kr.flatten [.string c.file,dv,.int .i64 (chAt c),bv,.bool (c.kind==1)] rfl HRO.out rfl HON.out HLE.out ⟨W1.heap.size,0,none⟩ rfl rfl ?_;intro v' w' g1 g2 g3;have HF2:=Lib.hid (HF.out v' w' g1 g2 g3);clear g1 g2 g3)
     go_roundw
     case rel=>exact ⟨j+1,congrArg _ hw,hlt,Lib.hid (HN3.out▸HF2.out)⟩
     case measure=>exact zeD hw hlt
   ·have hkz:¬ (j:Int)<(kl:Int):=by omega
    have hb:keep.getD j false=false:=by rw [List.getD_eq_getElem?_getD,List.getElem?_eq_none (by omega)];rfl
    rw [hb,if_neg (by decide)] at hnext
    have HN3:=Lib.hid hnext
    clear hdo hbv ecs hones hnext hb hch hB hB0 hn7 hbw hlen hFg HN2 hc
    go_wp2
    go_roundw
    case rel=>exact ⟨j+1,congrArg _ hw,hlt,Lib.hid (HR.out.next HN3.out ((Below.refl _ _).alloc (Nat.le_refl _) _))⟩
    case measure=>exact zeD hw hlt
  ·have hltz:¬ (j:Int)<(nl:Int):=by omega
   obtain rfl:j=nl:=by omega
   have hkr:=HR.out
   rw [← HNL.out,List.take_length,HNL.out] at hkr
   have hKl:=zcF d.changes keep
   obtain ⟨K,hK⟩:∃ K,za8 d.changes keep=K:=⟨_,rfl⟩
   have hKok:=zlX HI.out keep torn
   have hcr:=zj7 d keep torn
   rw [hK] at hkr hKl hKok hcr
   rw [HNL.out] at hKl
   obtain ⟨nk,hnk⟩:∃ nk,K.length=nk:=⟨_,rfl⟩
   obtain ⟨a7,cap7,kr,e7,hpos7,hkr7,hk37⟩:=hkr.shape
   rw [hnk] at e7 hpos7 hkr7 hKl
   subst e7
   have HKR:=Lib.hid hkr
   have HPOS:=Lib.hid hpos7
   have HKR7:=Lib.hid hkr7
   have HK37:=Lib.hid hk37
   have HNK:=Lib.hid hnk
   have HKO:=Lib.hid hKok
   have HCR:=Lib.hid hcr
   have hwk:wrap64 ((nk:Int)-1)=(nk:Int)-1:=by have:=HNL.out;unfold wrap64;omega
   clear hkr hpos7 hkr7 hk37 hnk hKok hcr hj HR hK q0 q1 q2 q3 q4 q5 q6
   obtain ⟨z,hz⟩:∃ z:Int,(nk:Int)-1=z:=⟨_,rfl⟩
   have hwk:=hwk.trans hz
   have HZ:=Lib.hid hz
   have HKL2:=Lib.hid hKl
   clear hz hKl
   go_upto_region 11 with fail
   rw [hwk]
   clear hwk
   go_cut [66] (fun s wx=>s = .bool (ze2 K torn)∧wr=wx)
   case first=>
    rcases List.eq_nil_or_concat K with ek | ⟨K0,c,ek⟩
    ·have ez:nk=0:=by rw [← HNK.out,ek];rfl
     obtain rfl:z = -1:=by have:=HZ.out;rw [ez] at this;exact this.symm
     have eT:ze2 K torn=false:=by rw [ek];rfl
     have HET:=Lib.hid eT
     clear ek ez eT
     go_wp2
     go_meet
     exact ⟨by rw [HET.out],rfl⟩
    ·rw [List.concat_eq_append] at ek
     obtain ⟨n0,hn0⟩:∃ n0,K0.length=n0:=⟨_,rfl⟩
     obtain ⟨gk,dv,bv,rfl,enk,hcap,⟨c0,c1,c2,c3,c4⟩,hch,hgk,hbv⟩:=HKR.out.last HNK.out ek hn0
     obtain rfl:z=(n0:Int):=by have:=HZ.out;omega
     have hz0:(0:Int)≤(n0:Int):=Int.natCast_nonneg _
     have hz1:(n0:Int)<(nk:Int):=by omega
     obtain ⟨a3,cp3,rfl,_⟩:=hbv.shape
     obtain ⟨n3,hn3⟩:∃ n3,(chBy c).length=n3:=⟨_,rfl⟩
     have eT:ze2 K torn=(c.kind==1&&(decide (torn≥0)&&decide (torn<c.bytes.length))):=by rw [ek];unfold ze2;rw [List.getLast?_concat]
     rw [hn3] at c3
     have HET:=Lib.hid eT
     have HN3:=Lib.hid hn3
     clear eT hn3 hch hbv enk hn0 ek hcap
     cases e1:(c.kind==1)
     ·rw [e1] at c4
      have HE1:=Lib.hid e1
      clear e1
      go_wp2
      go_meet
      exact ⟨by rw [HET.out,HE1.out];rfl,rfl⟩
     ·rw [e1] at c4
      have HE1:=Lib.hid e1
      have eby:chBy c=c.bytes:=by unfold chBy;rw [if_pos (by simpa using e1)]
      have HEB:=Lib.hid eby
      clear e1 eby
      by_cases ht0:torn≥0
      ·have d1:decide (torn≥0)=true:=decide_eq_true ht0
       by_cases ht1:torn<(n3:Int)
       ·have d2:decide (torn<(n3:Int))=true:=decide_eq_true ht1
        go_wp2
        go_meet
        exact ⟨by rw [HET.out,HE1.out,← HEB.out,HN3.out,d1,d2];rfl,rfl⟩
       ·have d2:decide (torn<(n3:Int))=false:=decide_eq_false ht1
        go_wp2
        go_meet
        exact ⟨by rw [HET.out,HE1.out,← HEB.out,HN3.out,d1,d2];rfl,rfl⟩
      ·have d1:decide (torn≥0)=false:=decide_eq_false ht0
       go_wp2
       go_meet
       exact ⟨by rw [HET.out,HE1.out,d1];rfl,rfl⟩
   case rest=>
    obtain ⟨rfl,rfl⟩:=hcut
    go_upto_if 66 with fail
    go_cut [7] (fun s wx=>Hid (KRow w wx (SB F b m1 m2 (.slice av j cv)) s (crK torn K)))
    case first=>
     cases hT:ze2 K torn
     ·have HCF:=Lib.hid (zmj hT)
      clear hT
      go_wp2_with fail
      go_meet
      exact Lib.hid (by rw [HCF.out];exact HKR.out)
     ·obtain ⟨K0,c,ek,hk1,ht0,ht1⟩:=zmi hT
      obtain ⟨n0,hn0⟩:∃ n0,K0.length=n0:=⟨_,rfl⟩
      obtain ⟨gk,dv,bv,rfl,enk,hcap,⟨c0,c1,c2,c3,c4⟩,hch,hgk,hbv⟩:=HKR.out.last HNK.out ek hn0
      obtain rfl:z=(n0:Int):=by have:=HZ.out;omega
      have hz0:(0:Int)≤(n0:Int):=Int.natCast_nonneg _
      have hz1:(n0:Int)<(nk:Int):=by omega
      have hz2:(n0:Int)≤(cap7:Int):=by omega
      have eby:chBy c=c.bytes:=by unfold chBy;rw [if_pos hk1]
      have eat:chAt c=c.at_:=by unfold chAt;rw [if_pos hk1]
      have hones:=hch.ones
      have s1:= @zak Try.prog dv (hones _ (by simp))
      have s3:= @zak Try.prog bv (hones _ (by simp))
      rw [eby] at hbv
      rw [eat] at c2
      have ek1:(c.kind==1)=true:=by simp [hk1]
      rw [ek1] at c4
      obtain ⟨W1,hW1⟩:∃ W1,wr.alloc (.cells #[.string c.file,dv,.int .i64 c.at_,bv,.bool true] TCh)=W1:=⟨_,rfl⟩
      have hb1:Below wr.heap.size wr W1:=by rw [← hW1];exact (Below.refl _ _).alloc (Nat.le_refl _) _
      have hb1d:Below wr.heap.size wr W1.drew:=hb1.drew
      have kx:Blk W1 wr.heap.size TCh #[.string c.file,dv,.int .i64 c.at_,bv,.bool true]:=by rw [← hW1];exact Blk.new wr TCh _
      obtain ⟨y0,y1,y2,y3,y4⟩:=box5 kx
      have hcut1:=HKR.out.cut ek hn0 enk hb1
      by_cases hp:torn=0
      ·subst hp
       have hcr0:crK 0 K=K0:=by rw [ek,zd4,zhj ⟨hk1,Int.le_refl _,by simpa using ht1⟩];simp
       have HC0:=Lib.hid hcr0
       have HCU:=Lib.hid hcut1
       clear hT hcr0 hcut1 ek hch hbv hones eby eat enk hn0 hk1 ek1 ht0 ht1
       go_wp2_with fail
       go_meet
       exact Lib.hid (by rw [HC0.out];exact HCU.out)
      ·obtain ⟨tk,rfl⟩:∃ tk:Nat,torn=(tk:Int):=⟨torn.toNat,by omega⟩
       have hpn:0<tk:=by omega
       have hpz:(0:Int)<(tk:Int):=by omega
       obtain ⟨a3,cp3,rfl,hsl3⟩:=hbv.shape
       have hcp:=hsl3.bd.1
       have hz3:(0:Int)≤(tk:Int):=Int.natCast_nonneg _
       have hz4:(tk:Int)≤(cp3:Int):=by omega
       have hcrk:crK tk K=K0++[⟨1,c.file,c.at_,c.bytes.take tk⟩]:=by
        rw [ek,zd4,zhY ⟨hk1,ht0,ht1⟩ hp]
        obtain ⟨ck,cf,ca,cb⟩:=c
        simp only at hk1
        subst hk1
        simp
       have hbt:BRd W1.drew (fun x=>(SB F b m1 m2 (.slice av j cv) x∨(w.heap.size≤x∧(Value.slice (some ⟨gk,0,none⟩) nk cap7).ownBlock≠some x))∧x<wr.heap.size) (.slice a3 tk cp3) (c.bytes.take tk):=(BRd.take hbv (by omega)).here.same (Same.below hb1d)
       have hwr:=zcu (w:=W1.drew) hch.nm hch.at0.1 hch.at0.2 hbt (by rw [List.length_take];have:=hch.by0;omega)
       have hk0:=HKR.out.cut ek hn0 enk (Below.refl _ _)
       have HXN:=Lib.hid (show (Value.slice (some ⟨gk,0,none⟩) n0 cap7).ownBlock≠some wr.heap.size from fun e=>by have e:gk=wr.heap.size:=Option.some.inj e;omega)
       have HXL:=Lib.hid (show wr.heap.size<W1.drew.heap.size by rw [← hW1];simp [World.drew])
       have hfin:=fun (w5:World) (cs:List Value) (hc5:ChAt w5 (fun x=>W1.drew.heap.size≤x) ⟨1,c.file,c.at_,c.bytes.take tk⟩ cs) (hb5:Below W1.drew.heap.size W1.drew w5)=>hk0.torn (fun x hx=>H.out.fl x hx.1) hgk hb1d hb5 hc5
       have hn0l:n0≤100000:=by have:=HKL2.out;have:=HNL.out;omega
       rw [hn0] at hfin
       have HFIN:=Lib.hid hfin
       have HWR:=Lib.hid hwr
       have HC0:=Lib.hid hcrk
       have HN0:=Lib.hid hn0l
       clear hT hcrk hcut1 ek hch hbv hones eby eat enk hn0 hk1 ek1 ht0 ht1 hfin hwr hbt hsl3 hcp hn0l hp hb1 hb1d kx hk0
       go_wp2_with fail
       go_region_held3 (fun W => W.cell? ⟨wr.heap.size, 0, none⟩ = some (.string c.file) ∧ W.cell? ⟨wr.heap.size, 2, none⟩ = some (.int .i64 c.at_) ∧ W.cell? ⟨wr.heap.size, 3, none⟩ = some (.slice a3 c.bytes.length cp3)) (first | exact ⟨y0, y2, y3⟩ | exact HS1.out | exact zhR HS1.out _ | exact HS2.out) (first | (go_at_call 34; refine HWR.out.mono ?_; rintro e w5 ⟨cs, rfl, hc5, hb5⟩; obtain ⟨kr, hro, hfi⟩ := HFIN.out w5 cs hc5 hb5; have hones := hc5.ones; have hcl := hc5.len; have HRO := Lib.hid hro; have HFI := Lib.hid hfi; have HON := Lib.hid hones; have HS1 := Lib.hid (⟨(Below.cell hb5 HXL.out).trans y0, (Below.cell hb5 HXL.out).trans y2, (Below.cell hb5 HXL.out).trans y3⟩ : w5.cell? ⟨wr.heap.size, 0, none⟩ = some (.string c.file) ∧ w5.cell? ⟨wr.heap.size, 2, none⟩ = some (.int .i64 c.at_) ∧ w5.cell? ⟨wr.heap.size, 3, none⟩ = some (.slice a3 c.bytes.length cp3)); obtain ⟨dv2, bv2, rfl, _, _⟩ := hc5.D; clear hro hfi hones hcl hc5 hb5) | (refine zfe (w := w5) rfl (.tmp 76) (.tmp 86) rfl (.slice (some ⟨gk, 0, none⟩) n0 cap7) n0 kr.flatten _ rfl HRO.out rfl HON.out HN0.out ⟨w5.heap.size, 0, none⟩ rfl rfl ?_; intro v' w' g1 g2 g3; have HS2 := Lib.hid (zhQ HS1.out HXN.out g2); have HF2 := Lib.hid (HFI.out v' w' g1 g2 g3); clear g1 g2 g3) | fail "none")
       all_goals go_wp2_with fail
       go_meet
       exact Lib.hid (by rw [HC0.out];exact HF2.out)
    case rest=>
     have hlk:=zgk torn K
     rw [HNK.out] at hlk
     have hlk:=Nat.le_trans hlk HKL2.out
     have hcr:=HCR.out
     have hok:=HKO.out
     have hkr:=hcut.out
     obtain ⟨Kp,hKp⟩:∃ Kp,crK torn K=Kp:=⟨_,rfl⟩
     rw [hKp] at hcr hok hkr hlk
     obtain ⟨np,hnp⟩:∃ np,Kp.length=np:=⟨_,rfl⟩
     obtain ⟨a8,cap8,kr8,e8,hpos8,hkr8,hk38⟩:=hkr.shape
     rw [hnp] at e8 hpos8 hkr8 hlk
     have hg8:=hkr.g
     rw [e8] at hg8 hk38
     have hbc:=hkr.b
     have hk1:=HK.out wc hbc
     have k1:=hk1.blk
     obtain ⟨q0,q1,q2,q3,q4,q5,q6⟩:=box7 k1
     have HCR2:=Lib.hid hcr
     have HOK2:=Lib.hid hok
     have HNP:=Lib.hid hnp
     have HPOS8:=Lib.hid hpos8
     have HKR8:=Lib.hid hkr8
     have HK38:=Lib.hid hk38
     have HG8:=Lib.hid hg8
     have HBC:=Lib.hid hbc
     have HLK:=Lib.hid hlk
     have HK1:=Lib.hid hk1
     subst e8
     clear hcr hok hnp hpos8 hkr8 hk38 hg8 hbc hlk hkr hcut hKp HCR HKO HKR HPOS HKR7 HK37 k1 hk1
     go_wp2_with fail
     try go_frame
     go_loopw [90] (fun kv wr2=>∃ i:Nat,kv = .int .i64 i∧i≤np∧Hid (Turn (fun x=>x=m1) wc wr2∧FilesAt wr2 (fun x=>SB F b m1 m2 (.slice av j cv) x∨w.heap.size≤x) m1 ((Kp.take i).foldl zad d.lasts))) (fun kv _=>np-(intOf kv).toNat)
     case atStart=>exact ⟨0,rfl,Nat.zero_le _,Lib.hid ⟨Turn.refl _ _,HK1.out.la.kept rfl (Same.refl _ _) fun _ _ h=> .inl h⟩⟩
     case round=>
      obtain ⟨i,rfl,hi,HR2⟩:=hrel
      by_cases hlt2:i<np
      ·have hltz:(i:Int)<(np:Int):=by omega
       have hi0:(0:Int)≤(i:Int):=Int.natCast_nonneg i
       have hw:wrap64 ((i:Int)+1)=((i+1:Nat):Int):=by have:=HLK.out;have:=HNL.out;unfold wrap64;omega
       obtain ⟨g8,rfl,hrow0⟩:=HPOS8.out (by omega)
       have hg8:=HG8.out g8 rfl
       have hle8:=hrow0.le
       rw [HKR8.out] at hle8
       obtain ⟨htn,hfl⟩:=HR2.out
       have h1l:=H.out.fl _ H.out.f1
       have hbl:=H.out.fl _ H.out.fb
       have hrow:=hrow0.kept (htn.block g8 hrow0.lt (by omega))
       have hch:=HK38.out i (by rw [HNP.out];exact hlt2)
       obtain ⟨c,hc⟩:∃ c,Kp.getD i default=c:=⟨_,rfl⟩
       rw [hc] at hch
       have hcm:c∈Kp:=by
        have h1:i<Kp.length:=by rw [HNP.out];exact hlt2
        rw [← hc]
        have e:Kp.getD i default=Kp[i]:=by simp [List.getD,h1]
        rw [e];exact List.getElem_mem _
       obtain ⟨dv,bv,ecs,hdo,hbv⟩:=hch.D
       have hrl:i<kr8.length:=by rw [HKR8.out];exact hlt2
       have c0:=(hrow.cell (i:=i) (j:=0) hrl (by omega)).1
       have c1:=(hrow.cell (i:=i) (j:=1) hrl (by omega)).1
       have c2:=(hrow.cell (i:=i) (j:=2) hrl (by omega)).1
       have c3:=(hrow.cell (i:=i) (j:=3) hrl (by omega)).1
       have c4:=(hrow.cell (i:=i) (j:=4) hrl (by omega)).1
       rw [ecs] at c0 c1 c2 c3 c4
       simp only [List.getD_cons_zero,List.getD_cons_succ,Nat.add_zero] at c0 c1 c2 c3 c4
       have hones:=hch.ones
       rw [ecs] at hones
       have s1:= @zak Try.prog dv (hones _ (by simp))
       have s3:= @zak Try.prog bv (hones _ (by simp))
       have hnext:=zlc (K:=Kp) (l:=d.lasts) (j:=i) (by rw [HNP.out];exact hlt2)
       rw [hc] at hnext
       have p1:=htn.keep HK1.out.blk HK1.out.b1
       obtain ⟨S1,hS1⟩:∃ S1:Nat→Prop,(fun x=>SB F b m1 m2 (.slice av j cv) x∨w.heap.size≤x)=S1:=⟨_,rfl⟩
       rw [hS1] at hfl
       have hno1:¬ S1 m1:=by
        rw [← hS1]
        rintro (hs | hs)
        ·exact hs.2.2.1 rfl
        ·omega
       obtain ⟨wx,hwx⟩:∃ wx,wr.alloc (.cells #[.string c.file,dv,.int .i64 (chAt c),bv,.bool (c.kind==1)] TCh)=wx:=⟨_,rfl⟩
       have hbx:Below wr.heap.size wr wx.drew:=by rw [← hwx];exact ((Below.refl _ wr).alloc (Nat.le_refl _) _).drew
       have hSx:Same (fun x=>SB F b m1 m2 (.slice av j cv) x∨(w.heap.size≤x∧(Value.slice (some ⟨g8,0,none⟩) np cap8).ownBlock≠some x)) wc wx.drew:=(htn.same fun x hx e=>by
        rcases hx with hx | hx
        ·exact hx.2.2.1 e
        ·have:=hx.1;omega).trans (Same.below hbx)
       have hdo1:DoAt wx.drew S1 c dv:=hdo.kept hSx fun x _ hx=>by rw [← hS1];exact hx.imp id fun h=>h.1
       have hfl1:FilesAt wx.drew S1 m1 ((Kp.take i).foldl zad d.lasts):=hfl.kept (hbx.block _ hfl.lt) (Same.below hbx) fun _ _ h=>h
       have hmemf:∀ x∈Kp.take i,x∈Kp:=fun x hx=>List.mem_of_mem_take hx
       have hlk:=zb0 (zaQ (M:=4194304) (Kp.take i) d.lasts HI.out.fb fun x hx=>by have:=HOK2.out x (hmemf x hx);exact ⟨this.1,this.2.1⟩) c.file
       have hln:=zba (Kp.take i) d.lasts
       have hl3:(Kp.take i).length≤i:=by rw [List.length_take];omega
       have hnl2:=HNL.out
       have hlk2:=HLK.out
       obtain ⟨f,cap',hdv,hB,hcall⟩:=zjy hdo1 hfl1 (HI.out.sl.dones _) hno1 (by omega) hch.nm hch.at0.1 hch.at0.2 hch.by0 (by omega)
       have hcf:=za9 hB
       have HC:=Lib.hid hcall
       have HN2:=Lib.hid hnext
       have HTN:=Lib.hid htn
       have HBX:=Lib.hid hbx
       have kx:Blk wx wr.heap.size TCh #[.string c.file,dv,.int .i64 (chAt c),bv,.bool (c.kind==1)]:=by rw [← hwx];exact Blk.new wr TCh _
       obtain ⟨y0,y1,y2,y3,y4⟩:=box5 kx
       have bx1x:wx.cell? ⟨b,1,none⟩=some (.map (some m1)):=(show Blk wx b TDi _ from (hbx.block b (by have:=htn.size;have:=HBC.out.size;omega)).trans p1).cell 1
       have HFIN:=Lib.hid (fun (w5:World) (ht5:Turn (fun x=>x=m1) wx.drew w5) (hf5:FilesAt w5 (fun x=>S1 x∨wx.drew.heap.size≤x) m1 (zad ((Kp.take i).foldl zad d.lasts) c))=>(⟨(htn.trans (Turn.below (F:=fun x=>x=m1) hbx) fun x _ h=>h).trans ht5 fun x _ h=>h,by
        rw [hnext]
        refine hf5.kept rfl (Same.refl _ _) fun x _ hx=>?_
        rcases hx with hx | hx
        ·rw [← hS1] at hx;exact hx
        ·exact .inr (Nat.le_trans HBC.out.size (Nat.le_trans htn.size (Nat.le_trans hbx.size hx)))⟩:Turn (fun x=>x=m1) wc w5∧FilesAt w5 (fun x=>SB F b m1 m2 (.slice av j cv) x∨w.heap.size≤x) m1 ((Kp.take (i+1)).foldl zad d.lasts)))
       subst hdv
       clear hnext hfl hfl1 htn hno1 hch hdo hdo1 hbv ecs hones hrow hrow0 p1 hcall hbx hSx hmemf hlk hln hl3 kx hg8 h1l hbl hcm hnl2 hlk2 hS1 hc
       go_wp2_with fail
       try rw [hwx]
       clear hwx
       go_still_tail 6,(by kernel_rfl)
       change wpList _ _ _ _ _ wx.drew
       go_wp2_with (first | (refine HC.out.mono ?_;rintro e w5 ⟨rfl,ht5,hf5⟩;have HF5:=Lib.hid (HFIN.out w5 ht5 hf5);clear ht5 hf5))
       go_roundw
       case rel=>exact ⟨i+1,congrArg _ hw,hlt2,HF5⟩
       case measure=>exact zeD hw hlt2
      ·have hltz:¬ (i:Int)<(np:Int):=by omega
       obtain rfl:i=np:=by omega
       obtain ⟨htn,hfl⟩:=HR2.out
       rw [← HNP.out,List.take_length] at hfl
       have k1:=htn.keep HK1.out.blk HK1.out.b1
       obtain ⟨q0,q1,q2,q3,q4,q5,q6⟩:=box7 k1
       obtain ⟨z0,z1,z2,z3,z4,z5,z6⟩:=ze3 k1
       have hln:=zba Kp d.lasts
       have hfl2:FilesAt wr (fun x=>(SB F b m1 m2 (.slice av j cv) x∨w.heap.size≤x)∧x<wr.heap.size) m1 (crD d keep torn).lasts:=by
        rw [HCR2.out]
        exact hfl.kept rfl (Same.refl _ _) fun x hx h=>⟨h,hx⟩
       have hcl:=zhO hfl2
       have hfin:=fun (w5:World) (hf3:FilesAt w5 (fun x=>(SB F b m1 m2 (.slice av j cv) x∨w.heap.size≤x)∧x<wr.heap.size) wr.heap.size (crD d keep torn).lasts) (hb5:Below wr.heap.size wr w5)=>H.out.crash (keep:=keep) (torn:=torn) ((Turn.below HBC.out).trans htn fun x _ h=>h) (hfl2.kept (hb5.block _ hfl2.lt) (Same.below hb5) fun _ _ h=>h) hf3 hb5
       have hkp:=fun (w5:World) (hb5:Below wr.heap.size wr w5)=>(show Blk w5 b TDi _ from (hb5.block b (show Blk wr b TDi _ from k1).lt).trans k1)
       have HCL:=Lib.hid hcl
       have HFI:=Lib.hid hfin
       have HKP:=Lib.hid hkp
       clear hcl hfin hkp hfl2 hfl htn k1 hln
       go_wp2_with (go_at_call 35;refine HCL.out.mono ?_;rintro e w5 ⟨rfl,hf3,hb5⟩;have k5:=HKP.out w5 hb5;obtain ⟨q0,q1,q2,q3,q4,q5,q6⟩:=box7 k5;obtain ⟨z0,z1,z2,z3,z4,z5,z6⟩:=ze3 k5;have HP:=Lib.hid (HFI.out w5 hf3 hb5);clear k5 hf3 hb5)
       go_ret
       exact HP.out
theorem zaD (b:List Int) (i:Nat) (y:Int):(zaA b i y).length=b.length:=List.length_set ..
theorem zbo (b:List Int) (i:Nat) (y:Int) (k:Nat):(zaA b i y).getD k 0=if i=k∧i<b.length then xorI .u8 (b.getD i 0) y else b.getD k 0:=by
 unfold zaA
 simp only [List.getD_eq_getElem?_getD,List.getElem?_set]
 by_cases h:i=k
 ·subst h
  by_cases h2:i<b.length
  ·simp [h2]
  ·simp [h2]
 ·simp [h]
theorem zhX {b:List Int} {i:Nat} {y:Int} (h:b.length≤i):zaA b i y=b:=List.set_eq_of_length_le h
def zcU (i:Nat) (y:Int) (o:Option (List Int)):Option (List Int):=o.map fun b=>zaA b i y
theorem zfd (i:Nat) (y:Int) (o:Option (List Int)):((zcU i y o).getD []).length=(o.getD []).length:=by
 cases o with
 | none=>rfl
 | some b=>exact zaD b i y
theorem zcf (old:List Int) (k:Nat) (b:List Int) (h:k≤old.length) (j:Nat):(zaB old k b).getD j 0=if j<k then old.getD j 0 else if j<k+b.length then b.getD (j-k) 0 else old.getD j 0:=by
 unfold zaB
 have hl:((List.range k).map fun i=>old.getD i 0).length=k:=by simp
 rw [List.append_assoc]
 by_cases h1:j<k
 ·rw [if_pos h1,List.getD_eq_getElem?_getD,List.getElem?_append_left (by omega),List.getElem?_map,List.getElem?_range h1]
  rfl
 ·rw [if_neg h1,List.getD_eq_getElem?_getD,List.getElem?_append_right (by omega),hl]
  by_cases h2:j<k+b.length
  ·rw [if_pos h2,List.getElem?_append_left (by omega),List.getD_eq_getElem?_getD]
  ·rw [if_neg h2,List.getElem?_append_right (by omega),List.getElem?_drop,List.getD_eq_getElem?_getD]
   congr 2
   omega
theorem ext0 {a b:List Int} (h:a.length=b.length) (h2:∀ j,j<a.length→a.getD j 0=b.getD j 0):a=b:=by
 refine List.ext_getElem h fun j h3 h4=>?_
 have:=h2 j h3
 simpa [List.getD,h3,h4] using this
theorem ziI (old:List Int) (k:Nat) (b:List Int) (i:Nat) (y:Int) (h:k≤old.length):zaB (zaA old i y) k (if k≤i∧i-k<b.length then zaA b (i-k) y else b)=zaA (zaB old k b) i y:=by
 have hb:(if k≤i∧i-k<b.length then zaA b (i-k) y else b).length=b.length:=by
  split
  ·exact zaD ..
  ·rfl
 refine ext0 (by rw [zaK,zaD,zaD,zaK,hb]) fun j hj=>?_
 rw [zaK,zaD,hb] at hj
 rw [zcf _ _ _ (by rw [zaD];exact h),zbo,hb,zbo (zaB old k b),zaK,zcf old k b h j,zcf old k b h i]
 by_cases e:i=j
 ·subst e
  by_cases h1:i<k
  ·rw [if_pos h1,if_pos ⟨rfl,by omega⟩,if_pos ⟨rfl,by omega⟩,if_pos h1]
  ·rw [if_neg h1,if_pos (c:=i=i∧i<max old.length (k+b.length)) ⟨rfl,by omega⟩,if_neg h1]
   by_cases h2:i<k+b.length
   ·rw [if_pos h2,if_pos h2,if_pos ⟨by omega,by omega⟩,zbo,if_pos ⟨rfl,by omega⟩]
   ·rw [if_neg h2,if_neg h2,if_pos ⟨rfl,by omega⟩]
 ·rw [if_neg (c:=i=j∧i<max old.length (k+b.length)) (fun g=>e g.1),if_neg (c:=i=j∧i<old.length) (fun g=>e g.1)]
  by_cases h1:j<k
  ·rw [if_pos h1,if_pos h1]
  ·rw [if_neg h1,if_neg h1]
   by_cases h2:j<k+b.length
   ·rw [if_pos h2,if_pos h2]
    split
    ·rw [zbo,if_neg (by omega)]
    ·rfl
   ·rw [if_neg h2,if_neg h2]
theorem zhi (b:List Int) (i n:Nat) (y:Int):(zaA b i y).take n=zaA (b.take n) i y:=by
 refine ext0 (by simp [zaD]) fun j hj=>?_
 rw [List.length_take,zaD] at hj
 have e:∀ l:List Int,(l.take n).getD j 0=l.getD j 0:=fun l=>by rw [List.getD_eq_getElem?_getD,List.getD_eq_getElem?_getD,List.getElem?_take_of_lt (by omega)]
 rw [e,zbo,zbo,e]
 by_cases h:i=j
 ·subst h
  rw [if_pos ⟨rfl,by omega⟩,if_pos ⟨rfl,by rw [List.length_take];omega⟩]
  rw [List.getD_eq_getElem?_getD,List.getD_eq_getElem?_getD,List.getElem?_take_of_lt (by omega)]
 ·rw [if_neg (fun g=>h g.1),if_neg (fun g=>h g.1)]
theorem zdy (n:ByteArray) (at_ y:Int) (c:DChange):(spC n at_ y c).file=c.file∧(spC n at_ y c).kind=c.kind∧(spC n at_ y c).at_=c.at_∧(spC n at_ y c).bytes.length=c.bytes.length:=by
 unfold spC
 split
 ·exact ⟨rfl,rfl,rfl,zaD ..⟩
 ·exact ⟨rfl,rfl,rfl,rfl⟩
theorem zfg {n:ByteArray} {at_ y:Int} {c:DChange} (h:eqN c.file n=false):spC n at_ y c=c:=by
 unfold spC
 rw [if_neg (by rw [h];simp)]
theorem zhK {c:DChange} {o:Option (List Int)} {n:ByteArray} {i:Nat} {y:Int} (hf:eqN c.file n=true) (h0:0≤c.at_) (h1:c.kind=1→c.at_≤((o.getD []).length:Int)):zcP (spC n i y c) (zcU i y o)=zcU i y (zcP c o):=by
 obtain ⟨g1,g2,g3,g4⟩:=zdy n i y c
 by_cases k1:c.kind=1
 ·have e:(zcU i y o).getD []=zaA (o.getD []) i y:=by cases o<;>rfl
  have e2:(spC n i y c).bytes=if c.at_.toNat≤i∧i-c.at_.toNat<c.bytes.length then zaA c.bytes (i-c.at_.toNat) y else c.bytes:=by
   unfold spC
   by_cases h:c.at_.toNat≤i∧i-c.at_.toNat<c.bytes.length
   ·rw [if_pos h,if_pos ⟨k1,hf,by omega,by omega⟩]
    show zaA c.bytes _ y=_
    congr 1
    omega
   ·rw [if_neg h,if_neg (fun g=>h ⟨by omega,by omega⟩)]
  unfold zcP
  rw [if_pos (g2.trans k1),if_pos k1,g3,e,e2,ziI _ _ _ _ _ (by have:=h1 k1;omega)]
  rfl
 ·have e:spC n i y c=c:=by unfold spC;rw [if_neg (fun g=>k1 g.1)]
  rw [e]
  unfold zcP
  rw [if_neg k1,if_neg k1]
  split
  ·rw [zfd]
   split
   ·rfl
   ·cases o with
    | none=>rfl
    | some b=>exact congrArg some (zhi b i _ y)
  ·rfl
theorem zet {n:ByteArray} {i:Nat} {y:Int}:∀ (cs:List DChange) (o:Option (List Int)),(∀ c∈cs,eqN c.file n=true∧0≤c.at_)→zfO o cs→(cs.map (spC n i y)).foldl (fun o c=>zcP c o) (zcU i y o)=zcU i y (cs.foldl (fun o c=>zcP c o) o)∧zfO (zcU i y o) (cs.map (spC n i y))
 | [],o,_,_=>⟨rfl,trivial⟩
 | c::cs,o,h,hp=>by
  have hc:=h c (List.mem_cons_self ..)
  have e:=zhK (i:=i) (y:=y) hc.1 hc.2 hp.1
  obtain ⟨k1,k2⟩:=zet (n:=n) (i:=i) (y:=y) cs (zcP c o) (fun x hx=>h x (List.mem_cons_of_mem _ hx)) hp.2
  obtain ⟨g1,g2,g3,g4⟩:=zdy n i y c
  refine ⟨?_,?_,?_⟩
  ·show (cs.map (spC n i y)).foldl _ (zcP (spC n i y c) (zcU i y o))=_
   rw [e]
   exact k1
  ·rw [g2,g3,zfd]
   exact hp.1
  ·rw [e]
   exact k2
def spL (l:List File) (n:ByteArray) (i:Nat) (y:Int):List File:=if i<((zae l n).getD []).length then zap ⟨n,zaA ((zae l n).getD []) i y⟩ l else l
theorem zg8 (l:List File) (n:ByteArray) (i:Nat) (y:Int) (m:ByteArray):zae (spL l n i y) m=if eqN n m then zcU i y (zae l n) else zae l m:=by
 unfold spL
 by_cases h:i<((zae l n).getD []).length
 ·rw [if_pos h,zb8]
  cases hm:eqN n m
  ·rfl
  ·cases e:zae l n with
   | none=>rw [e] at h;exact absurd h (Nat.not_lt_zero _)
   | some b=>rfl
 ·rw [if_neg h]
  cases hm:eqN n m
  ·rfl
  ·have:=eqN_iff.1 hm
   subst this
   cases e:zae l n with
   | none=>rfl
   | some b=>
    rw [e] at h
    have h:¬ i<b.length:=h
    simp only [if_true]
    unfold zcU
    rw [Option.map_some,zhX (by omega)]
def sp1 (d:RDisk) (n:ByteArray) (i:Nat) (y:Int):RDisk:={d with lasts:=spL d.lasts n i y,changes:=d.changes.map (spC n i y)}
theorem zl5 (d:RDisk) (n:ByteArray) (at_ y:Int):spD d n at_ y=if zae (zaa d) n=none then ((d,122):RDisk×Int) else if at_<0∨at_≥((zae (zaa d) n).getD []).length then (d,123) else (sp1 d n at_.toNat y,0):=by
 unfold spD
 rw [za0]
 by_cases h:zae (zaa d) n=none
 ·rw [if_pos h,if_pos ((zaE _ _).1.2 h)]
 ·rw [if_neg h,if_neg (fun g=>h ((zaE _ _).1.1 g))]
  by_cases h2:at_<0∨at_≥((zae (zaa d) n).getD []).length
  ·rw [if_pos h2,if_pos h2]
  ·rw [if_neg h2,if_neg h2]
   obtain ⟨i,rfl⟩:∃ i:Nat,at_=i:=⟨at_.toNat,by omega⟩
   unfold sp1 spL
   rw [za0]
   have e:((i:Int).toNat)=i:=by omega
   rw [e]
   by_cases h3:i<((zae d.lasts n).getD []).length
   ·rw [if_pos h3,if_pos]
    refine ⟨?_,by omega⟩
    have:¬ zaj d.lasts n<0:=fun g=>by
     rw [(zaE d.lasts n).1.1 g] at h3
     exact absurd h3 (Nat.not_lt_zero _)
    omega
   ·rw [if_neg h3,if_neg (fun g=>h3 (by omega))]
theorem ziZ {n:ByteArray} {at_ y:Int} (cs:List DChange) (m:ByteArray):(cs.map (spC n at_ y)).filter (ofF m)=(cs.filter (ofF m)).map (spC n at_ y):=by
 rw [List.filter_map]
 congr 1
 refine List.filter_congr fun c _=>?_
 show ofF m (spC n at_ y c)=ofF m c
 unfold ofF
 rw [(zdy n at_ y c).1]
theorem zfu {n m:ByteArray} {at_ y:Int} (cs:List DChange) (h:n≠m):(cs.filter (ofF m)).map (spC n at_ y)=cs.filter (ofF m):=by
 conv=>rhs;rw [← List.map_id (cs.filter (ofF m))]
 refine List.map_congr_left fun c hc=>?_
 have h1:eqN c.file m=true:=(List.mem_filter.1 hc).2
 exact zfg (eqN_no.2 fun e=>h (e.symm.trans (eqN_iff.1 h1)))
theorem zg7 {d:RDisk} (h:DkI d) (n:ByteArray) (i:Nat) (y:Int) (m:ByteArray):zae ((d.changes.map (spC n i y)).foldl zad (spL d.lasts n i y)) m=(if eqN n m then zcU i y (zae (zaa d) n) else zae (zaa d) m)∧zfO (zae (spL d.lasts n i y) m) ((d.changes.map (spC n i y)).filter (ofF m)):=by
 have hp:=(zcC d.changes d.lasts).1 h.np m
 have e:=zaV d.changes d.lasts m
 rw [zaV,ziZ,zg8]
 cases hm:eqN n m
 ·have hne:n≠m:=eqN_no.1 hm
  rw [zfu _ hne]
  simp only [Bool.false_eq_true,if_false]
  exact ⟨e.symm,hp⟩
 ·have:=eqN_iff.1 hm
  subst this
  simp only [if_true]
  obtain ⟨k1,k2⟩:=zet (n:=n) (i:=i) (y:=y) (d.changes.filter (ofF n)) (zae d.lasts n) (fun c hc=>⟨(List.mem_filter.1 hc).2,(h.ch c (List.mem_filter.1 hc).1).1⟩) hp
  refine ⟨k1.trans ?_,k2⟩
  show zcU i y _=zcU i y (zae (d.changes.foldl zad d.lasts) n)
  rw [e]
theorem SortF.spL {l:List File} (h:SortF l) (n:ByteArray) (i:Nat) (y:Int):SortF (spL l n i y):=by
 unfold Go.Proofs.Ytfccndnnpkiajaa.spL
 split
 ·exact h.put _
 ·exact h
theorem zhB {d:RDisk} (h:DkI d) (n:ByteArray) (i:Nat) (y:Int):zaa (sp1 d n i y)=spL (zaa d) n i y:=by
 refine SortF.ext ((h.sl.spL n i y).dones _) (h.sn.spL n i y) fun m=>?_
 rw [zg8]
 exact (zg7 h n i y m).1
theorem zif {l:List File} {n:ByteArray} {i:Nat} {y:Int} {x:File} (h:x∈spL l n i y):x∈l∨(x.name=n∧x.bytes.length=((zae l n).getD []).length):=by
 unfold spL at h
 split at h
 ·rcases zaL h with e | h
  ·exact .inr (by subst e;exact ⟨rfl,zaD ..⟩)
  ·exact .inl h
 ·exact .inl h
theorem DkI.spoil {d:RDisk} (h:DkI d) {n:ByteArray} (hn:NmOk n) (i:Nat) (y:Int):DkI (sp1 d n i y):=by
 refine ⟨h.sl.spL n i y,fun x hx=>?_,fun c hc=>?_,fun x hx=>?_,(zcC _ _).2 fun m=>(zg7 h n i y m).2,h.rm,h.i64⟩
 ·rcases zif hx with hx | hx
  ·exact h.fb x hx
  ·rw [hx.2];exact zb0 h.fb n
 ·obtain ⟨c0,h0,rfl⟩:=List.mem_map.1 hc
  obtain ⟨g1,g2,g3,g4⟩:=zdy n i y c0
  rw [g1,g3,g4]
  exact h.ch c0 h0
 ·rcases zif hx with hx | hx
  ·exact h.nm x hx
  ·rw [hx.1];exact hn
end Go.Proofs.Ytfccndnnpkiajaa
