/- Parts of the proof, joined: the symbolic walk and what it is told of each function. Condition: as each theorem says. -/
import Derived.Test.YteabcgkjbnecaaaGreatRows
import Derived.WalkKit
import Derived.ProofKit
import Derived.OpenShut
import Derived.Lib.Hide
import Derived.Deep.QuietTactic
import Derived.BigQuiet
import Derived.Laws.CopyOwn
import Derived.WalkSpells
import Derived.Lib.SliceRun
import Derived.Shelf.Abstract
import Derived.Lib.AppendZeros
import Derived.Shelf.Sort.Plain
import Derived.Shelf.Slices.CompactI
import Derived.Shelf.Slices.In.SortNone
import Derived.Ground.SlsfProg
import Derived.Shelf.SlSortCmp.Whole1
import Derived.Shelf.SlSortCmp.NoneTotal
import Derived.Test.YteabcgkjbnecaaaGreatProg
import Derived.Sort.OwnSortedInts
import Derived.Lib.OwnBridge
import Derived.Laws.EntriesVeiled
import Derived.Stop.RegionWithIn
import Derived.Test.YteabcgkjbnecaaaGreatJz3
set_option linter.unusedVariables false
set_option linter.unusedSimpArgs false
set_option linter.unusedSectionVars false
namespace Go.Proofs.YteabcgkjbnecaaaGreat
open Go.RowKit Go.ChangeShapes Go.WideShapes Go.Deep
set_option maxRecDepth 100000
def zaq (c:Config):Prop:=c.voters.length≤1000000∧c.learners.length≤1000000
theorem zg3 (c:Config) (hc:zaq c):FnC Tryz.prog 122 [dConfig.can c] (.agg (c.svs [1])) D2:=by
 refine FnG.of_vc (zaj zd1 fun _=>none) Tryz.func122 rfl (by decide) rfl 300 (p:=fun (V:List PE→Prop)=>let v0:=c.learners;let v1:=c.voters;True∧True∧(((0:Nat)+v1.length)*(1024:Nat)≤140737488355328∧True)∧(((0:Nat)+v0.length)*(1024:Nat)≤140737488355328∧True)∧True∧v1=v1∧v1.length≤17592186044416∧v0=v0∧v0.length≤17592186044416∧True) (by kernel_rfl) ?_
 obtain ⟨h1,h2⟩:=hc
 simp
 omega
def zsz:Ent:=ent1 122 dConfig fun c=>([c.voters.length≤1000000,c.learners.length≤1000000],.agg (c.svs [1]),D2)
theorem zfO:zaf Tryz.prog zsz:=zan (zg3 default (by unfold zaq;decide)).1 fun c h=>zg3 c ⟨h _ (by simp),h _ (by simp)⟩
theorem ziL (x:Entry) (hc:zcH x):FnC Tryz.prog 52 [dEntry.can x] (.agg (x.svs [1])) D2:=by
 refine FnG.of_vc (zaj (zaa zfO zad) fun _=>none) Tryz.func52 rfl (by decide) rfl 300 (p:=fun (V:List PE→Prop)=>let v0:=x.config.learners;let v1:=x.config.voters;True∧(v1.length≤1000000∧v0.length≤1000000∧True)∧True∧x.index=x.index∧x.term=x.term∧x.kind=x.kind∧v1=v1∧v0=v0∧x.data=x.data∧True) (by kernel_rfl) ?_
 obtain ⟨h1,h2⟩:=hc
 simp
 omega
theorem zlG (x:Snap) (hc:zaq x.config):FnC Tryz.prog 51 [dSnap.can x] (.agg (x.svs [1])) D2:=by
 refine FnG.of_vc (zaj (zaa zfO zad) fun _=>none) Tryz.func51 rfl (by decide) rfl 300 (p:=fun (V:List PE→Prop)=>let v0:=x.config.learners;let v1:=x.config.voters;True∧(v1.length≤1000000∧v0.length≤1000000∧True)∧True∧x.index=x.index∧x.term=x.term∧v1=v1∧v0=v0∧x.data=x.data∧True) (by kernel_rfl) ?_
 obtain ⟨h1,h2⟩:=hc
 simp
 omega
def zpT:Ent:=ent1 52 dEntry fun x=>([x.config.voters.length≤1000000,x.config.learners.length≤1000000],.agg (x.svs [1]),D2)
theorem znn:zaf Tryz.prog zpT:=zan (ziL default (by unfold zcH;decide)).1 fun x h=>ziL x ⟨h _ (by simp),h _ (by simp)⟩
def zt5:Ent:=ent1 51 dSnap fun x=>([x.config.voters.length≤1000000,x.config.learners.length≤1000000],.agg (x.svs [1]),D2)
theorem zpQ:zaf Tryz.prog zt5:=zan (zlG default (by unfold zaq;decide)).1 fun x h=>zlG x ⟨h _ (by simp),h _ (by simp)⟩
def zb2 (k:Kept):Prop:=zch k.entries∧zaq k.snap.config
theorem zmg {α:Type} {d:α} {a b:List α} (hl:a.length=b.length) (h:∀ i,i<a.length→a.getD i d=b.getD i d):a=b:=by
 apply List.ext_getElem hl
 intro i h1 h2
 have:=h i h1
 rwa [zba h1,zba h2] at this
end Go.Proofs.YteabcgkjbnecaaaGreat
namespace Go.Proofs.YteabcgkjbnecaaaGreat
open Go.RowKit
def el (xs:List Int) (i:Nat):Int:=xs.getD i 0
structure IntSl (w:World) (a:Option Addr) (n:Nat) (xs:List Int):Prop where
 len:xs.length=n
 mx:n≤9223372036854775807
 row:0<n→∃ b off,a=some ⟨b,off,none⟩∧b<w.heap.size∧∀ i,i<n→w.cell? ⟨b,off+i,none⟩=some (.int .i64 (el xs i))
 lo:∀ i,-9223372036854775808≤el xs i
 hi:∀ i,el xs i≤9223372036854775807
theorem IntSl.drewN {w:World} {a:Option Addr} {n:Nat} {xs:List Int} (h:IntSl w a n xs) (k:Nat):IntSl (w.drewN k) a n xs:=⟨h.len,h.mx,h.row,h.lo,h.hi⟩
theorem IntSl.below {w w':World} {a:Option Addr} {n:Nat} {xs:List Int} (h:IntSl w a n xs) (hb:Below w.heap.size w w'):IntSl w' a n xs:=
 ⟨h.len,h.mx,fun hp=>by
  obtain ⟨b,off,e,hlt,hc⟩:=h.row hp
  exact ⟨b,off,e,Nat.lt_of_lt_of_le hlt hb.size,fun i hi=>by rw [hb.cell (p:=⟨b,off+i,none⟩) hlt];exact hc i hi⟩,h.lo,h.hi⟩
theorem IntSl.alloc {w:World} {a:Option Addr} {n:Nat} {xs:List Int} (h:IntSl w a n xs) (o:Obj):IntSl (w.alloc o) a n xs:=
 h.below ((Below.refl _ _).alloc (Nat.le_refl _) o)
theorem IntSl.nil (w:World):IntSl w none 0 []:=
 ⟨rfl,by omega,fun h=>absurd h (by omega),fun i=>by simp [el],fun i=>by simp [el]⟩
theorem IntSl.lit (w:World) (xs:List Int) (t:TypeId) (hm:xs.length≤9223372036854775807) (h:∀ x∈xs,-9223372036854775808≤x∧x≤9223372036854775807) :
  IntSl (w.alloc (.cells (xs.map (Value.int .i64)).toArray t)) (some ⟨w.heap.size,0,none⟩) xs.length xs:=by
 have hr:∀ i,-9223372036854775808≤el xs i∧el xs i≤9223372036854775807:=by
  intro i
  by_cases hi:i<xs.length
  ·have:el xs i=xs[i]:=by simp [el,hi]
   rw [this];exact h _ (List.getElem_mem hi)
  ·have:el xs i=0:=by simp [el,List.getElem?_eq_none (Nat.not_lt.1 hi)]
   rw [this];omega
 refine ⟨rfl,hm,fun _=>⟨w.heap.size,0,rfl,by simp,fun i hi=>?_⟩,fun i=>(hr i).1,fun i=>(hr i).2⟩
 have e:el xs i=xs[i]:=by simp [el,hi]
 rw [e,Nat.zero_add,World.cell?_alloc_at _ _ _ _ rfl]
 simp [hi]
def Dr (w w':World):Prop:=∃ q,w'=w.drewN q
theorem Dr.refl (w:World):Dr w w:=⟨0,rfl⟩
theorem Dr.drewN {w w':World} (h:Dr w w') (n:Nat):Dr w (w'.drewN n):=by
 obtain ⟨q,rfl⟩:=h;exact ⟨q+n,by simp [World.drewN,Nat.add_assoc]⟩
theorem Dr.nn (w:World) (a b:Nat):Dr w ((w.drewN a).drewN b):=Dr.drewN ⟨a,rfl⟩ b
theorem Dr.below {w w':World} (h:Dr w w') (B:Nat):Below B w w':=by
 obtain ⟨q,rfl⟩:=h;exact ⟨rfl,rfl,rfl,Nat.le_refl _,fun _ _=>rfl⟩
theorem zpA (zs:List Int) (i:Nat):el zs i∈zs∨el zs i=0:=by
 by_cases h:i<zs.length
 ·left;simp [el,h]
 ·right;simp [el,List.getElem?_eq_none (Nat.not_lt.1 h)]
def zh2 (xs:List Int) (k:Nat):Prop:=∀ i,i+1<k→el xs i<el xs (i+1)
noncomputable def isB (xs:List Int):Bool:=by classical exact decide (zh2 xs xs.length∧xs.length≤16)
theorem zk1 {xs:List Int}:isB xs=true↔zh2 xs xs.length∧xs.length≤16:=by simp [isB]
theorem ztt {xs:List Int} {k:Nat} (hk:k+1<xs.length) (h:el xs (k+1)≤el xs k):isB xs=false:=by
 rw [← Bool.not_eq_true,zk1];intro h';have:=h'.1 k hk;omega
theorem zk0 {xs:List Int} {n k:Nat} (hn:xs.length=n) (h:zh2 xs k) (hk:n≤k):isB xs=decide ((n:Int)≤16):=by
 rw [Bool.eq_iff_iff,zk1,decide_eq_true_eq]
 constructor
 ·intro h';omega
 ·intro h';exact ⟨fun i hi=>h i (by omega),by omega⟩
theorem zgx {xs:List Int} {k:Nat} (h:zh2 xs (k+1)) (hv:el xs k<el xs (k+1)):zh2 xs (k+2):=by
 intro i hi
 by_cases e:i=k
 ·subst e;exact hv
 ·exact h i (by omega)
theorem zcu (a:Option Addr) (n c:Nat) (xs:List Int) (w:World) (ha:IntSl w a n xs) :
  Calls Tryz.prog 58 #[.slice a n c] w fun e w'=>e = .returned (.bool (isB xs))∧Dr w w':=by
 have hm:=ha.mx
 by_cases h0:n≤1
 ·have hr:=zk0 ha.len (k:=n) (fun i hi=>by omega) (Nat.le_refl _)
  have ht:decide ((n:Int)≤16)=true:=by simp;omega
  have HR:=Lib.hid (hr.trans ht)
  clear hr ht
  rcases (show n=0∨n=1 by omega) with rfl | rfl
  all_goals
   go_enter Tryz.func58,Tryz.ntmps58
   go_wp2
   refine wp_loop_rounds 1 ?_
   rw [rounds_succ]
   go_wp2
   go_ret
   exact ⟨by rw [HR.out];rfl,Dr.refl _⟩
 ·have h1:(2:Int)≤(n:Int):=by omega
  go_enter Tryz.func58,Tryz.ntmps58
  go_wp2
  go_loopw [8] (fun i wr=>∃ k:Nat,k≤n-1∧i = .int .i64 k∧zh2 xs (k+1)∧Dr w wr) (fun i _=>n-1-(intOf i).toNat)
  case atStart=>exact ⟨0,Nat.zero_le _,rfl,fun i h=>absurd h (by omega),Dr.refl _⟩
  case round=>
   obtain ⟨k,hk,rfl,hq,q,rfl⟩:=hrel
   by_cases hlt:k<n-1
   ·obtain ⟨ba,oa,rfl,_,hca⟩:=ha.row (by omega)
    have ca:=hca k (by omega)
    have cb:=hca (k+1) (by omega)
    have k0:(0:Int)≤(k:Int):=by omega
    have k1:(k:Int)<(n:Int)-1:=by omega
    have k2:(k:Int)+1<(n:Int):=by omega
    have l1:=ha.lo k
    have l2:=ha.hi k
    clear hca
    by_cases hv:el xs k<el xs (k+1)
    ·have hv':=Lib.hid hv
     have t:¬ el xs (k+1)≤el xs k:=by omega
     go_wp2
     go_quiet (fail)
     go_wp2
     go_roundw
     case rel=>exact ⟨k+1,by omega,by go_num,zgx hq hv'.out,⟨_,rfl⟩⟩
     case measure=>simp [intOf];omega
    ·have hr:=Lib.hid (ztt (xs:=xs) (k:=k) (by rw [ha.len];omega) (by omega))
     have t:el xs (k+1)≤el xs k:=by omega
     go_wp2
     go_quiet (fail)
     go_wp2
     go_ret
     exact ⟨by rw [hr.out];rfl,by first | exact ⟨_,rfl⟩ | exact Dr.nn _ _ _⟩
   ·have hr:=Lib.hid (zk0 ha.len hq (by omega))
    have k1:¬ (k:Int)<(n:Int)-1:=by omega
    go_wp2
    all_goals
     go_ret
     refine ⟨?_,by first | exact ⟨_,rfl⟩ | exact Dr.nn _ _ _⟩
     rw [hr.out]
     rfl
theorem zh3 (a:Option Addr) (n c:Nat) (xs:List Int) (w:World) (ha:IntSl w a n xs) :
  Calls Tryz.prog 65 #[.slice a n c] w fun e w'=>e = .returned (.bool (isB xs))∧Dr w w':=by
 have hm:=ha.mx
 go_enter Tryz.func65,Tryz.ntmps65
 go_wp2
 go_loopw [3] (fun i wr=>∃ k:Nat,k≤n∧i = .int .i64 ((k:Int)+1)∧zh2 xs (k+1)∧Dr w wr) (fun i _=>n+1-(intOf i).toNat)
 case atStart=>exact ⟨0,Nat.zero_le _,rfl,fun i h=>absurd h (by omega),Dr.refl _⟩
 case round=>
  obtain ⟨k,hk,rfl,hq,q,rfl⟩:=hrel
  by_cases hlt:k+1<n
  ·obtain ⟨ba,oa,rfl,_,hca⟩:=ha.row (by omega)
   have ca:=hca k (by omega)
   have cb:=hca (k+1) (by omega)
   have k0:(0:Int)≤(k:Int):=by omega
   have k1:(k:Int)<(n:Int)-1:=by omega
   have k2:(k:Int)+1<(n:Int):=by omega
   have k3:(k:Int)<(n:Int):=by omega
   clear hca
   by_cases hv:el xs k<el xs (k+1)
   ·have hv':=Lib.hid hv
    have t:¬ el xs (k+1)≤el xs k:=by omega
    go_wp2
    go_quiet (fail)
    go_wp2
    go_roundw
    case rel=>exact ⟨k+1,by omega,by go_num,zgx hq hv'.out,⟨_,rfl⟩⟩
    case measure=>simp [intOf];omega
   ·have hr:=Lib.hid (ztt (xs:=xs) (k:=k) (by rw [ha.len];omega) (by omega))
    have t:el xs (k+1)≤el xs k:=by omega
    go_wp2
    go_quiet (fail)
    go_wp2
    go_ret
    exact ⟨by rw [hr.out];rfl,by first | exact ⟨_,rfl⟩ | exact Dr.nn _ _ _⟩
  ·have hr:=Lib.hid (zk0 ha.len hq (by omega))
   have k1:¬ (k:Int)+1<(n:Int):=by omega
   go_wp2
   all_goals
    go_ret
    refine ⟨?_,by first | exact ⟨_,rfl⟩ | exact Dr.nn _ _ _⟩
    rw [hr.out]
    rfl
def hasB (xs:List Int) (v:Int):Bool:=decide (v∈xs)
theorem zmc {xs:List Int} {v:Int} {k:Nat} (hk:k<xs.length) (h:el xs k=v):hasB xs v=true:=by
 simp only [hasB,decide_eq_true_eq]
 have:el xs k=xs[k]:=by simp [el,hk]
 rw [← h,this];exact List.getElem_mem hk
theorem zpx {xs:List Int} {v:Int} {n:Nat} (hn:xs.length=n) (h:∀ i,i<n→el xs i≠v):hasB xs v=false:=by
 simp only [hasB,decide_eq_false_iff_not]
 intro hm
 obtain ⟨i,hi,e⟩:=List.mem_iff_getElem.1 hm
 exact h i (by omega) (by rw [← e];simp [el,hi])
theorem zh4 (a:Option Addr) (n c:Nat) (xs:List Int) (v:Int) (w:World) (ha:IntSl w a n xs) :
  Calls Tryz.prog 172 #[.slice a n c,.int .i64 v] w fun e w'=>e = .returned (.bool (hasB xs v))∧w=w':=by
 have hm:=ha.mx
 go_enter Tryz.func172,Tryz.ntmps172
 go_wp2
 go_loop [5] (fun i=>∃ k:Nat,k≤n∧i = .int .i64 k∧∀ i,i<k→el xs i≠v) (fun i=>n-(intOf i).toNat)
 case atStart=>exact ⟨0,Nat.zero_le _,rfl,fun i h=>absurd h (by omega)⟩
 case round=>
  obtain ⟨k,hk,rfl,hq⟩:=hrel
  have hq':=Lib.hid hq
  clear hq
  by_cases hlt:k<n
  ·obtain ⟨ba,oa,rfl,_,hca⟩:=ha.row (by omega)
   have ca:=hca k (by omega)
   have k0:(0:Int)≤(k:Int):=by omega
   have k1:(k:Int)<(n:Int):=by omega
   clear hca
   by_cases hv:el xs k=v
   ·have t:(el xs k==v)=true:=by simp [hv]
    have hr:=Lib.hid (zmc (by rw [ha.len];exact hlt) hv)
    clear hv
    go_wp2
    go_ret
    exact ⟨by rw [hr.out];rfl,rfl⟩
   ·have t:(el xs k==v)=false:=by simp [hv]
    have hv':=Lib.hid hv
    clear hv
    go_wp2
    go_round
    case rel=>exact ⟨k+1,by omega,by go_num,fun i hi=>if e:i=k then by subst e;exact hv'.out else hq'.out i (by omega)⟩
    case measure=>simp [intOf];omega
  ·have hr:=Lib.hid (zpx ha.len (fun i hi=>hq'.out i (by omega)))
   have k1:¬ (k:Int)<(n:Int):=by omega
   go_wp2
   go_ret
   exact ⟨by rw [hr.out];rfl,rfl⟩
def idxI (xs:List Int) (v:Int):Int:=if hasB xs v then (xs.findIdx (fun x=>x==v):Nat) else -1
theorem zu6 (xs:List Int) (v:Int):decide (0≤idxI xs v)=hasB xs v:=by
 unfold idxI
 cases hasB xs v<;>simp
theorem zu7 {xs:List Int} {v:Int} {k:Nat} (hk:k<xs.length) (h:el xs k=v) (hq:∀ i,i<k→el xs i≠v):idxI xs v=k:=by
 have e:xs.findIdx (fun x=>x==v)=k:=by
  rw [List.findIdx_eq hk]
  refine ⟨?_,fun j hj=>?_⟩
  ·rw [← h];simp [el,hk]
  ·have:=hq j hj
   have hj':j<xs.length:=by omega
   simpa [el,hj'] using this
 simp [idxI,zmc hk h,e]
theorem zpn {xs:List Int} {v:Int} {n:Nat} (hn:xs.length=n) (h:∀ i,i<n→el xs i≠v):idxI xs v = -1:=by
 simp [idxI,zpx hn h]
theorem zpk (a:Option Addr) (n c:Nat) (xs:List Int) (v:Int) (w:World) (ha:IntSl w a n xs) :
  Calls Tryz.prog 222 #[.slice a n c,.int .i64 v] w fun e w'=>e = .returned (.int .i64 (idxI xs v))∧w=w':=by
 have hm:=ha.mx
 go_enter Tryz.func222,Tryz.ntmps222
 go_wp2
 go_loop [8] (fun i=>∃ k:Nat,k≤n∧i = .int .i64 k∧∀ i,i<k→el xs i≠v) (fun i=>n-(intOf i).toNat)
 case atStart=>exact ⟨0,Nat.zero_le _,rfl,fun i h=>absurd h (by omega)⟩
 case round=>
  obtain ⟨k,hk,rfl,hq⟩:=hrel
  have hq':=Lib.hid hq
  clear hq
  by_cases hlt:k<n
  ·obtain ⟨ba,oa,rfl,_,hca⟩:=ha.row (by omega)
   have ca:=hca k (by omega)
   have k0:(0:Int)≤(k:Int):=by omega
   have k1:(k:Int)<(n:Int):=by omega
   clear hca
   by_cases hv:el xs k=v
   ·have t:(v==el xs k)=true:=by simp [hv]
    have hr:=Lib.hid (zu7 (by rw [ha.len];exact hlt) hv hq'.out)
    clear hv
    go_wp2
    go_ret
    exact ⟨by rw [hr.out];rfl,rfl⟩
   ·have t:(v==el xs k)=false:=by simp;exact fun e=>hv e.symm
    have hv':=Lib.hid hv
    clear hv
    go_wp2
    go_round
    case rel=>exact ⟨k+1,by omega,by go_num,fun i hi=>if e:i=k then by subst e;exact hv'.out else hq'.out i (by omega)⟩
    case measure=>simp [intOf];omega
  ·have hr:=Lib.hid (zpn ha.len (fun i hi=>hq'.out i (by omega)))
   have k1:¬ (k:Int)<(n:Int):=by omega
   go_wp2
   go_ret
   exact ⟨by rw [hr.out];rfl,rfl⟩
theorem zjL (a:Option Addr) (n c:Nat) (xs:List Int) (v:Int) (w:World) (ha:IntSl w a n xs) :
  Calls Tryz.prog 213 #[.slice a n c,.int .i64 v] w fun e w'=>e = .returned (.bool (hasB xs v))∧w=w':=by
 rw [← zu6]
 go_enter Tryz.func213,Tryz.ntmps213
 go_wp2_with fail
 refine (zpk _ _ _ _ _ _ ha).mono ?_
 rintro e w' ⟨rfl,rfl⟩
 go_wp2
 go_ret
 exact ⟨rfl,rfl⟩
theorem zpv (a:Option Addr) (n c:Nat) (xs:List Int) (v:Int) (w:World) (ha:IntSl w a n xs) :
  Calls Tryz.prog 189 #[.slice a n c,.int .i64 v] w fun e w'=>e = .returned (.bool (hasB xs v))∧w=w':=by
 go_enter Tryz.func189,Tryz.ntmps189
 go_wp2_with fail
 refine (zjL _ _ _ _ _ _ ha).mono ?_
 rintro e w' ⟨rfl,rfl⟩
 go_wp2
 go_ret
 exact ⟨rfl,rfl⟩
theorem zhH:(Tryz.prog.info? 3).map (fun i=>(i.zero,i.size,i.bytes))=some (some (.int .i64 0),1,8):=by kernel_rfl
theorem zun (xs:List Int):∀ v∈xs.map (Value.int .i64),v.oneCell'=true:=by
 intro v hv;obtain ⟨x,_,rfl⟩:=List.mem_map.1 hv;rfl
theorem zrz {w:World} {b off n:Nat} {xs:List Int} (hl:xs.length=n) (h:∀ i,i<n→w.cell? ⟨b,off+i,none⟩=some (.int .i64 (el xs i))) :
  ∀ j v,(xs.map (Value.int .i64))[j]? = some v→w.cell? ((⟨b,off,none⟩:Addr).add j)=some v:=by
 intro j v hj
 rw [List.getElem?_map] at hj
 by_cases h2:j<xs.length
 ·rw [List.getElem?_eq_getElem h2] at hj
  simp only [Option.map_some,Option.some.injEq] at hj
  rw [WideShapes.add_plain,h j (by omega),← hj]
  simp [el,h2]
 ·rw [List.getElem?_eq_none (by omega)] at hj;simp at hj
theorem zh1 {w:World} {g:Nat} {t:TypeId} {l:List Value} (h:w.heap[g]? = some (.cells l.toArray t (0,0))) {i:Nat} {v:Value} (hv:l[i]? = some v):w.cell? ⟨g,i,none⟩=some v:=by
 simp [World.cell?,h,hv]
theorem zgv {w:World} {g:Nat} {t:TypeId} {l:List Value} (h:w.heap[g]? = some (.cells l.toArray t (0,0))) (i:Nat):w.frozen? ⟨g,i,none⟩=false:=by
 simp [World.frozen?,h]
theorem zok {w:World} {g:Nat} {t:TypeId} {l:List Value} (h:w.heap[g]? = some (.cells l.toArray t (0,0))) (i:Nat) (v:Value):(w.setCell ⟨g,i,none⟩ v).heap[g]? = some (.cells (l.set i v).toArray t (0,0)):=by
 simp [World.setCell,Array.getElem?_modify,h]
theorem IntSl.bd {w:World} {a:Option Addr} {n:Nat} {xs:List Int} (h:IntSl w a n xs):∀ x∈xs,-9223372036854775808≤x∧x≤9223372036854775807:=by
 intro x hx
 obtain ⟨i,hi,e⟩:=List.mem_iff_getElem.1 hx
 have h1:=h.lo i
 have h2:=h.hi i
 have:el xs i=x:=by rw [← e];simp [el,hi]
 rw [this] at h1 h2
 exact ⟨h1,h2⟩
theorem zfF {w w':World} {g:Nat} (h:w.grownBy w' (some g)) (i:Nat) (v:Value):w.grownBy (w'.setCell ⟨g,i,none⟩ v) (some g):=
 ⟨h.os,h.tape,h.output,by have:=h.size;simpa [World.setCell] using this,fun k hk hne=>by
  rw [Below.heap_setCell _ _ _ _ (fun e=>hne (by rw [e]))];exact h.block k hk hne⟩
theorem zrV {w w':World} (h:w.grownBy w' none):Below w.heap.size w w':=(Below.refl _ _).grown h (Nat.le_refl _) (fun k h=>by cases h)
def OwnI (base:Nat) (w:World) (v:Value) (xs:List Int):Prop:=w.ownsRow base 3 1 v xs.length (xs.map (Value.int .i64))
theorem OwnI.nil (base:Nat) (w:World):OwnI base w (.slice none 0 0) []:=World.ownsRow_nil w base _ _
theorem OwnI.below {base B:Nat} {w w':World} {v:Value} {xs:List Int} (h:OwnI base w v xs) (hb:Below B w w') (hB:w.heap.size≤B):OwnI base w' v xs:=by
 refine ⟨h.1,?_⟩
 rcases h.2 with h2 | ⟨g,cap,cur,hv,hg,hh,r⟩
 ·exact Or.inl h2
 ·exact Or.inr ⟨g,cap,cur,hv,hg,by rw [hb.block g (by have:=(Array.getElem?_eq_some_iff.1 hh).1;omega)];exact hh,r⟩
theorem OwnI.mono {base B:Nat} {w:World} {v:Value} {xs:List Int} (h:OwnI base w v xs) (hB:B≤base):OwnI B w v xs:=by
 refine ⟨h.1,?_⟩
 rcases h.2 with h2 | ⟨g,cap,cur,hv,hg,hh,r⟩
 ·exact Or.inl h2
 ·exact Or.inr ⟨g,cap,cur,hv,by omega,hh,r⟩
theorem OwnI.sl {base:Nat} {w:World} {v:Value} {xs:List Int} (h:OwnI base w v xs) (hb:∀ x∈xs,-9223372036854775808≤x∧x≤9223372036854775807) :
  ∃ a c,v = .slice a xs.length c∧IntSl w a xs.length xs:=by
 obtain ⟨h1,⟨rfl,hn⟩ | ⟨g,cap,cur,rfl,hg,hh,hl,hm,hs,ht⟩⟩:=h
 ·have hx:xs=[]:=List.eq_nil_of_length_eq_zero hn
  subst hx
  exact ⟨none,0,rfl,IntSl.nil w⟩
 ·have hr:∀ i,-9223372036854775808≤el xs i∧el xs i≤9223372036854775807:=by
   intro i
   rcases zpA xs i with hm | h0
   ·exact hb _ hm
   ·rw [h0];omega
  refine ⟨some ⟨g,0,none⟩,cap,rfl,rfl,by unfold maxLen at hm;omega,fun hp=>⟨g,0,rfl,(Array.getElem?_eq_some_iff.1 hh).1,fun i hi=>?_⟩,fun i=>(hr i).1,fun i=>(hr i).2⟩
  rw [Nat.zero_add]
  have e:(cur.toList.take (xs.length*1))[i]? = (xs.map (Value.int .i64))[i]? := by rw [ht]
  rw [List.getElem?_take,if_pos (by omega)] at e
  simp only [World.cell?,hh]
  rw [← Array.getElem?_toList,e]
  simp [el,hi]
theorem zum (w:World) (x:Value) (t:TypeId):∀ j u,[x][j]? = some u→(w.alloc (.cells #[x] t)).cell? ((⟨w.heap.size,0,none⟩:Addr).add j)=some u:=by
 intro j u hj
 match j,hj with
 | 0,hj=>
  simp only [List.getElem?_cons_zero,Option.some.injEq] at hj
  subst hj
  rw [WideShapes.add_plain,World.cell?_alloc_at _ _ _ _ rfl];rfl
theorem zb6 {ops:Array Oper} {rest:List Oper} {o:Oper} {a:Act} {Q:Exit→Act→World→Prop} {wr:World} (hgd:o.guard=none) (s x:Operand) (t:TypeId)
  (ho:o.op = .call {callee:= .builtin .append,args:= #[s,x],argTypes:= #[t,t]}) (ht:Tryz.prog.underlying t=some (.slice 3))
  (base:Nat) (v:Value) (xs:List Int) (hs:a.eval s=v) (hown:OwnI base wr v xs) (y:Int) (T:TypeId) (ad:Addr) (had:ad=⟨wr.heap.size,0,none⟩) (hx:a.eval x = .slice (some ad) 1 1)
  (hn:xs.length<8796093022208) (hbase:base≤wr.heap.size)
  (h:∀ v' w',OwnI base w' v' (xs++[y])→wr.grownBy w' v.ownBlock→wpList Tryz.prog ops Q rest (a.put o.dst v') w'):wpList Tryz.prog ops Q (o::rest) a (wr.alloc (.cells #[.int .i64 y] T)):=by
 obtain ⟨i0,hi,hz0,hz1,hz2⟩:=info_parts zhH
 subst had
 refine wpList_append_own _ hgd s x t ho base 3 i0 (.int .i64 0) 1 8 ht hi hz0 hz1 hz2 rfl (by decide) v xs.length (xs.map (Value.int .i64)) hs (World.ownsRow.alloc hown _) ⟨wr.heap.size,0,none⟩ 1 1 [.int .i64 y] hx rfl (zum _ _ _) (by simp [Value.oneCell']) (by unfold maxLen;omega) (by omega) (by simp;omega) ?_
 intro v' w' ho' hg' _
 refine h v' w' ?_ ?_
 ·show World.ownsRow _ _ _ _ _ _ _
  have e1:(xs++[y]).length=xs.length+1:=by simp
  have e2:(xs++[y]).map (Value.int .i64)=xs.map (Value.int .i64)++[.int .i64 y]:=by simp
  rw [e1,e2];exact ho'
 ·exact ⟨hg'.os,hg'.tape,hg'.output,by have:=hg'.size;simp at this;omega,fun k hk hne=>by rw [hg'.block k (by simp;omega) hne,Below.heap_alloc _ _ _ hk]⟩
theorem OwnI.bel {base:Nat} {w0 wr w':World} {v:Value} {xs:List Int} (h:OwnI base wr v xs) (hb:Below base w0 wr) (hg:wr.grownBy w' v.ownBlock) (hbase:base≤wr.heap.size):Below base w0 w' :=
 hb.grown hg hbase (fun k hk=>(World.ownsRow.lt h k hk).1)
theorem zdz {ops:Array Oper} {rest:List Oper} {o:Oper} {a:Act} {Q:Exit→Act→World→Prop} {wr:World} (hgd:o.guard=none) (s x:Operand) (t:TypeId)
  (ho:o.op = .call {callee:= .builtin .append,args:= #[s,x],argTypes:= #[t,t]}) (ht:Tryz.prog.underlying t=some (.slice 3))
  (base:Nat) (v:Value) (xs:List Int) (hs:a.eval s=v) (hown:OwnI base wr v xs) (ad:Addr) (m c:Nat) (ys:List Int) (hsl:IntSl wr (some ad) m ys) (hx:a.eval x = .slice (some ad) m c)
  (hn:xs.length+m<8796093022208) (hbase:base≤wr.heap.size)
  (h:∀ v' w',OwnI base w' v' (xs++ys)→wr.grownBy w' v.ownBlock→wpList Tryz.prog ops Q rest (a.put o.dst v') w'):wpList Tryz.prog ops Q (o::rest) a wr:=by
 obtain ⟨i0,hi,hz0,hz1,hz2⟩:=info_parts zhH
 refine wpList_append_own _ hgd s x t ho base 3 i0 (.int .i64 0) 1 8 ht hi hz0 hz1 hz2 rfl (by decide) v xs.length (xs.map (Value.int .i64)) hs hown ad m c (ys.map (Value.int .i64)) hx (by simp [hsl.len]) ?_ (zun ys) (by unfold maxLen;omega) (by omega) hbase ?_
 ·by_cases hp:0<m
  ·obtain ⟨b,off,e,hlt,hc⟩:=hsl.row hp
   obtain rfl:ad=⟨b,off,none⟩:=by simpa using e
   exact zrz hsl.len hc
  ·intro j u hj
   have:ys=[]:=List.eq_nil_of_length_eq_zero (by rw [hsl.len];omega)
   subst this;simp at hj
 intro v' w' ho' hg' _
 refine h v' w' ?_ hg'
 show World.ownsRow _ _ _ _ _ _ _
 have e1:(xs++ys).length=xs.length+m:=by simp [hsl.len]
 have e2:(xs++ys).map (Value.int .i64)=xs.map (Value.int .i64)++ys.map (Value.int .i64):=by simp
 rw [e1,e2];exact ho'
def zdH (w:World) (l:List Int) (e:Ending) (w':World):Prop:=∃ v,e = .returned v∧OwnI w.heap.size w' v l∧Below w.heap.size w w'
theorem IntSl.none {w:World} {n:Nat} {xs:List Int} (h:IntSl w none n xs):n=0∧xs=[]:=by
 by_cases hp:0<n
 ·obtain ⟨b,off,e,_⟩:=h.row hp;cases e
 ·have:n=0:=by omega
  subst this
  exact ⟨rfl,List.eq_nil_of_length_eq_zero h.len⟩
theorem OwnI.empty (w:World) (t:TypeId) (ht:t=3):OwnI w.heap.size (w.alloc (.cells #[] t)) (.slice (some ⟨w.heap.size,0,Option.none⟩) 0 0) []:=by
 subst ht;exact World.ownsRow_made w #[] 0 (Nat.le_refl _) (by unfold maxLen;omega) rfl
theorem zq6 (a:Option Addr) (n c:Nat) (xs:List Int) (w:World) (ha:IntSl w a n xs) (hn:n≤1099511627776) :
  Calls Tryz.prog 125 #[.slice a n c] w (zdH w xs):=by
 cases a with
 | none=>
  obtain ⟨rfl,rfl⟩:=ha.none
  have k1:=fun (w:World) (n c:Nat)=>Lib.run_eql_slice_nil (P:=Tryz.prog) w 23 3 none n c 0 0 Tryz.underlying23
  go_enter Tryz.func125,Tryz.ntmps125
  go_wp2
  go_ret
  exact ⟨_,rfl,OwnI.nil _ _,Below.refl _ _⟩
 | some ad=>
  have k1:=fun (w:World) (n c:Nat)=>Lib.run_eql_slice_nil (P:=Tryz.prog) w 23 3 (some ad) n c 0 0 Tryz.underlying23
  go_enter Tryz.func125,Tryz.ntmps125
  go_wp2_with (at_builtin;refine zdz rfl (.tmp 5) (.tmp 6) 23 rfl Tryz.underlying23 w.heap.size _ [] rfl (OwnI.empty w _ rfl) ad n c xs (ha.alloc _) rfl (by simp;omega) (by simp) ?_;intro v1 w1 ho1 hg1;have HO1:=Lib.hid ho1;have HB1:=Lib.hid ((OwnI.empty w _ rfl).bel ((Below.refl _ _).alloc (Nat.le_refl _) _) hg1 (by simp));clear ho1 hg1)
  go_ret
  exact ⟨_,rfl,HO1.out,HB1.out⟩
theorem zn4 (a:Option Addr) (n c:Nat) (xs:List Int) (w:World) (ha:IntSl w a n xs) (hn:n≤1099511627776) :
  Calls Tryz.prog 203 #[.slice a n c] w (zdH w xs):=by
 cases a with
 | none=>
  obtain ⟨rfl,rfl⟩:=ha.none
  have k1:=fun (w:World) (n c:Nat)=>Lib.run_eql_slice_nil (P:=Tryz.prog) w 22 3 none n c 0 0 Tryz.underlying22
  go_enter Tryz.func203,Tryz.ntmps203
  go_wp2
  go_ret
  exact ⟨_,rfl,OwnI.nil _ _,Below.refl _ _⟩
 | some ad=>
  have k1:=fun (w:World) (n c:Nat)=>Lib.run_eql_slice_nil (P:=Tryz.prog) w 22 3 (some ad) n c 0 0 Tryz.underlying22
  go_enter Tryz.func203,Tryz.ntmps203
  go_wp2_with (at_builtin;refine zdz rfl (.tmp 5) (.tmp 6) 22 rfl Tryz.underlying22 w.heap.size _ [] rfl (OwnI.empty w _ rfl) ad n c xs (ha.alloc _) rfl (by simp;omega) (by simp) ?_;intro v1 w1 ho1 hg1;have HO1:=Lib.hid ho1;have HB1:=Lib.hid ((OwnI.empty w _ rfl).bel ((Below.refl _ _).alloc (Nat.le_refl _) _) hg1 (by simp));clear ho1 hg1)
  go_ret
  exact ⟨_,rfl,HO1.out,HB1.out⟩
theorem zfc {w w1 w2:World} {r:Option Nat} (h:w.grownBy w1 r) (k:w1.grownBy w2 r):w.grownBy w2 r:=
 ⟨k.os.trans h.os,k.tape.trans h.tape,k.output.trans h.output,Nat.le_trans h.size k.size,fun i hi hne=>(k.block i (Nat.lt_of_lt_of_le hi h.size) hne).trans (h.block i hi hne)⟩
theorem zc8 {w w':World} {r:Option Nat} (h:Below w.heap.size w w'):w.grownBy w' r:=⟨h.os,h.tape,h.output,h.size,fun i hi _=>h.block i hi⟩
theorem zwn {w w':World} {r:Option Nat} (h:w.grownBy w' none):w.grownBy w' r:=zc8 (zrV h)
def zqT (g:Nat) (cv:Value) (p:Int→Bool) (I:World→Prop):Prop:=
 ∀ (x:Int) (w:World),I w→Calls Tryz.prog g #[.int .i64 x,cv] w fun e w'=>e = .returned (.bool (p x))∧Below w.heap.size w w'
def idxP (p:Int→Bool) (xs:List Int) (n:Nat):Int:=if xs.findIdx p<n then (xs.findIdx p:Nat) else -1
theorem zcf {xs:List Int} {i:Nat} (h:i<xs.length):el xs i=xs[i]:=by simp [el,h]
theorem zpm {p:Int→Bool} {xs:List Int} {n k:Nat} (hn:xs.length=n) (hk:k<n) (h:p (el xs k)=true) (hq:∀ i,i<k→p (el xs i)=false):idxP p xs n=k:=by
 have e:xs.findIdx p=k:=by
  rw [List.findIdx_eq (by omega)]
  refine ⟨by rw [zcf (by omega)] at h;exact h,fun j hj=>?_⟩
  have:=hq j hj
  rwa [zcf (by omega)] at this
 simp [idxP,e,hk]
theorem zjs {p:Int→Bool} {xs:List Int} {n:Nat} (hn:xs.length=n) (hq:∀ i,i<n→p (el xs i)=false):idxP p xs n = -1:=by
 have:¬ xs.findIdx p<n:=by
  intro h
  have h1:xs.findIdx p<xs.length:=by omega
  have h2:=List.findIdx_getElem (w:=h1)
  have h3:=hq _ h
  rw [zcf h1,h2] at h3
  cases h3
 simp [idxP,this]
theorem zhJ (g:Nat) (cv:Value) (p:Int→Bool) (I:World→Prop) (hp:zqT g cv p I) (eg:∀ args w,(callFunc g args).run Tryz.prog w = .ok (.enter g args) w)
  (a:Option Addr) (n c:Nat) (xs:List Int) (w:World) (hI:∀ w',w.grownBy w' none→I w') (ha:IntSl w a n xs) :
  Calls Tryz.prog 212 #[.slice a n c,.func (.func g) #[] #[cv]] w fun e w'=>e = .returned (.int .i64 (idxP p xs n))∧Below w.heap.size w w':=by
 have hm:=ha.mx
 have HI:=Lib.hid hI
 clear hI
 go_enter Tryz.func212,Tryz.ntmps212
 go_wp2
 go_loopw [8] (fun i wr=>∃ k:Nat,k≤n∧i = .int .i64 k∧(∀ i,i<k→p (el xs i)=false)∧Below w.heap.size w wr) (fun i _=>n-(intOf i).toNat)
 case atStart=>exact ⟨0,Nat.zero_le _,rfl,fun i h=>absurd h (by omega),Below.refl _ _⟩
 case round=>
  obtain ⟨k,hk,rfl,hq,hbel⟩:=hrel
  have HQ:=Lib.hid hq
  clear hq
  by_cases hlt:k<n
  ·have k0:(0:Int)≤(k:Int):=by omega
   have k1:(k:Int)<(n:Int):=by omega
   obtain ⟨ba,oa,rfl,hba,hca⟩:=(ha.below hbel).row (by omega)
   have ca:=hca k hlt
   clear hca
   cases hv:p (el xs k)
   case true=>
    have hr:=Lib.hid (zpm ha.len hlt hv HQ.out)
    have HV:=Lib.hid hv
    clear hv
    go_wp2_with fail
    refine (hp _ _ (HI.out _ (zc8 hbel))).mono ?_
    rw [HV.out]
    rintro e w1 ⟨rfl,hb1⟩
    go_wp2_with fail
    go_ret
    exact ⟨by rw [hr.out];rfl,hbel.trans (hb1.mono hbel.size)⟩
   case false=>
    have HV:=Lib.hid hv
    clear hv
    go_wp2_with fail
    refine (hp _ _ (HI.out _ (zc8 hbel))).mono ?_
    rw [HV.out]
    rintro e w1 ⟨rfl,hb1⟩
    go_wp2_with fail
    go_roundw
    case rel=>exact ⟨k+1,by omega,by go_num,fun i hi=>if e:i=k then by subst e;exact HV.out else HQ.out i (by omega),hbel.trans (hb1.mono hbel.size)⟩
    case measure=>simp [intOf];omega
  ·have hr:=Lib.hid (zjs ha.len (fun i hi=>HQ.out i (by omega)))
   have k1:¬ (k:Int)<(n:Int):=by omega
   go_wp2
   go_ret
   exact ⟨by rw [hr.out];rfl,hbel⟩
structure DelSt (p:Int→Bool) (xs:List Int) (n:Nat) (cur:List Value) (i j:Nat):Prop where
 hi:i=((xs.take j).filter (fun x=>!p x)).length
 ij:i<j
 hd:cur.take i=((xs.take j).filter (fun x=>!p x)).map (Value.int .i64)
 tl:∀ t,j≤t→t<n→cur[t]? = some (.int .i64 (el xs t))
theorem zbY {xs:List Int} {j:Nat} (h:j<xs.length):xs.take (j+1)=xs.take j++[el xs j]:=by
 rw [List.take_succ_eq_append_getElem h,zcf h]
theorem DelSt.keep {p:Int→Bool} {xs:List Int} {n:Nat} {cur:List Value} {i j:Nat} (h:DelSt p xs n cur i j) (hx:xs.length=n) (hc:n≤cur.length) (hj:j<n) (hv:p (el xs j)=false):DelSt p xs n (cur.set i (.int .i64 (el xs j))) (i+1) (j+1):=by
 have e:(xs.take (j+1)).filter (fun x=>!p x)=(xs.take j).filter (fun x=>!p x)++[el xs j]:=by
  rw [zbY (by omega),List.filter_append];simp [hv]
 have hij:=h.ij
 refine ⟨by rw [e,h.hi];simp,by omega,?_,fun t h1 h2=>?_⟩
 ·rw [e,List.map_append,← h.hd,List.take_succ_eq_append_getElem (by simp;omega)]
  rw [List.take_set_of_le (Nat.le_refl _)]
  simp
 ·rw [List.getElem?_set_ne (by omega)];exact h.tl t (by omega) h2
theorem DelSt.drop {p:Int→Bool} {xs:List Int} {n:Nat} {cur:List Value} {i j:Nat} (h:DelSt p xs n cur i j) (hx:xs.length=n) (hj:j<n) (hv:p (el xs j)=true):DelSt p xs n cur i (j+1):=by
 have e:(xs.take (j+1)).filter (fun x=>!p x)=(xs.take j).filter (fun x=>!p x):=by
  rw [zbY (by omega),List.filter_append];simp [hv]
 have hij:=h.ij
 exact ⟨by rw [e,h.hi],by omega,by rw [e];exact h.hd,fun t h1 h2=>h.tl t (by omega) h2⟩
theorem DelSt.first {p:Int→Bool} {xs:List Int} {n k:Nat} {cur:List Value} (hx:xs.length=n) (hk:k<n) (hcur:cur.take n=xs.map (Value.int .i64)) (hv:p (el xs k)=true) (hq:∀ i,i<k→p (el xs i)=false):DelSt p xs n cur k (k+1):=by
 have e0:(xs.take k).filter (fun x=>!p x)=xs.take k:=by
  rw [List.filter_eq_self]
  intro x hm
  obtain ⟨i,hi,e⟩:=List.mem_iff_getElem.1 hm
  simp only [List.length_take] at hi
  have:=hq i (by omega)
  rw [zcf (by omega)] at this
  rw [← e];simp [this]
 have e:(xs.take (k+1)).filter (fun x=>!p x)=xs.take k:=by
  rw [zbY (by omega),List.filter_append,e0];simp [hv]
 refine ⟨by rw [e];simp;omega,by omega,?_,fun t h1 h2=>?_⟩
 ·rw [e,List.map_take,← hcur,List.take_take,Nat.min_eq_left (by omega)]
 ·have:(cur.take n)[t]? = (xs.map (Value.int .i64))[t]? := by rw [hcur]
  rw [List.getElem?_take,if_pos h2] at this
  rw [this,zcf (by omega)];simp [show t<xs.length by omega]
structure RowIs (w:World) (g:Nat) (cur:List Value) (c:Nat):Prop where
 row:w.heap[g]? = some (.cells cur.toArray 3 (0,0))
 len:cur.length=c
theorem OwnI.rowIs {base:Nat} {w:World} {ad:Addr} {n c:Nat} {xs:List Int} (h:OwnI base w (.slice (some ad) n c) xs) :
  ∃ g cur,ad=⟨g,0,Option.none⟩∧base≤g∧n=xs.length∧n≤c∧c≤maxLen∧RowIs w g cur c∧cur.take n=xs.map (Value.int .i64):=by
 obtain ⟨h1,⟨hh,_⟩ | ⟨g,cap,cur,hv,hg,hh,hl,hm,hs,ht⟩⟩:=h
 ·simp at hh
 ·simp only [Value.slice.injEq,Option.some.injEq] at hv
  obtain ⟨rfl,rfl,rfl⟩:=hv
  exact ⟨g,cur.toList,rfl,hg,rfl,hl,hm,⟨by simpa using hh,by simpa using hs⟩,by simpa using ht⟩
theorem RowIs.owns {w:World} {g c i:Nat} {cur:List Value} {l:List Int} {base:Nat} (h:RowIs w g cur c) (hb:base≤g) (hi:l.length=i) (hl:i≤c) (hm:c≤maxLen) (ht:cur.take i=l.map (Value.int .i64)):OwnI base w (.slice (some ⟨g,0,Option.none⟩) i c) l:=by
 subst hi
 exact ⟨by simp,.inr ⟨g,c,cur.toArray,rfl,hb,h.row,hl,hm,by simp [h.len],by simpa using ht⟩⟩
theorem ziB {w:World} {g c:Nat} {cur:List Value} (h:RowIs w g cur c) (o:Nat) (l:List Value):∃ cur',RowIs (w.setCells g o l) g cur' c∧cur'.take o=cur.take o∧w.grownBy (w.setCells g o l) (some g):=by
 induction l generalizing w cur o with
 | nil=>exact ⟨cur,h,rfl,World.grownBy.refl _ _⟩
 | cons v l ih=>
  have h1:RowIs (w.setCell ⟨g,o,none⟩ v) g (cur.set o v) c:=⟨zok h.row o v,by simpa using h.len⟩
  obtain ⟨c2,h2,h3,h4⟩:=ih h1 (o+1)
  refine ⟨c2,h2,?_,zfc (zfF (World.grownBy.refl _ _) o v) h4⟩
  have e:(c2.take (o+1)).take o=((cur.set o v).take (o+1)).take o:=by rw [h3]
  rw [List.take_take,List.take_take,Nat.min_eq_left (by omega),List.take_set_of_le (Nat.le_refl _)] at e
  exact e
theorem ztO:∀ w,(zeroValue 3).run Tryz.prog w = .ok (.int .i64 0) w:=fun w=>by kernel_rfl
def zv4 (base:Nat) (w:World) (row:Option Nat) (l:List Int) (e:Ending) (w':World):Prop:=∃ v,e = .returned v∧OwnI base w' v l∧w.grownBy w' row
theorem zk4 {p:Int→Bool} {xs:List Int} {n:Nat} (hn:xs.length=n) (hq:∀ i,i<n→p (el xs i)=false):xs.filter (fun x=>!p x)=xs:=by
 rw [List.filter_eq_self]
 intro x hm
 obtain ⟨i,hi,e⟩:=List.mem_iff_getElem.1 hm
 have:=hq i (by omega)
 rw [zcf hi,e] at this
 simp [this]
set_option maxRecDepth 100000 in
set_option maxHeartbeats 1000000 in
theorem zgf (g:Nat) (cv:Value) (p:Int→Bool) (I:World→Prop) (hp:zqT g cv p I) (eg:∀ args w,(callFunc g args).run Tryz.prog w = .ok (.enter g args) w)
  (base:Nat) (a:Option Addr) (n c:Nat) (xs:List Int) (w:World) (hI:∀ w',w.grownBy w' (Value.ownBlock (.slice a n c))→I w') (ho:OwnI base w (.slice a n c) xs) (hb:∀ x∈xs,-9223372036854775808≤x∧x≤9223372036854775807) (hbase:base≤w.heap.size) :
  Calls Tryz.prog 184 #[.slice a n c,.func (.func g) #[] #[cv]] w (zv4 base w (Value.ownBlock (.slice a n c)) (xs.filter (fun x=>!p x))):=by
 obtain ⟨a',c',e,hsl⟩:=ho.sl hb
 obtain ⟨rfl,rfl,rfl⟩:a=a'∧n=xs.length∧c=c':=by simpa using e
 clear e
 have hm:=hsl.mx
 have hIF:=zhJ g cv p I hp eg a xs.length c xs w (fun w' h=>hI w' (zwn h)) hsl
 generalize hn:xs.length=n at *
 by_cases hnone:∀ i,i<n→p (el xs i)=false
 case pos=>
  have e1:=Lib.hid (zjs hn hnone)
  have e2:=Lib.hid (zk4 hn hnone)
  have HN:=Lib.hid hn
  have HO:=Lib.hid ho
  have HNO:=Lib.hid hnone
  clear hn ho hnone hI
  go_enter Tryz.func184,Tryz.ntmps184
  go_wp2_with fail
  refine hIF.mono ?_
  rw [e1.out]
  rintro e w1 ⟨rfl,hb1⟩
  go_wp2_with fail
  go_ret
  rw [e2.out]
  exact ⟨_,rfl,HO.out.below hb1 (Nat.le_refl _),zc8 hb1⟩
 case neg=>
  obtain ⟨k,hk,hkp,hkq⟩:∃ k,k<n∧p (el xs k)=true∧∀ i,i<k→p (el xs i)=false:=by
   have hlt:xs.findIdx p<xs.length:=by
    apply Classical.byContradiction
    intro h
    apply hnone
    intro i hi
    have h3:xs.findIdx p=xs.length:=by have:=List.findIdx_le_length (xs:=xs) (p:=p);omega
    have h4:=(List.findIdx_eq_length.1 h3) xs[i] (List.getElem_mem _)
    rw [zcf (by omega)];simpa using h4
   refine ⟨xs.findIdx p,by omega,?_,fun i hi=>?_⟩
   ·rw [zcf hlt];exact List.findIdx_getElem (w:=hlt)
   ·rw [zcf (by omega)]
    have:=List.not_of_lt_findIdx hi
    simpa using this
  obtain ⟨ba,oa,rfl,_,_⟩:=hsl.row (by omega)
  obtain ⟨gr,cur0,had,hbg,hnl,hnc,hcm,hrow0,hcur0⟩:=ho.rowIs
  obtain ⟨rfl,rfl⟩:ba=gr∧oa=0:=by simpa using had
  have e1:=Lib.hid (zpm hn hk hkp hkq)
  have HST:=Lib.hid (DelSt.first hn hk hcur0 hkp hkq)
  have HN:=Lib.hid hn
  have HI:=Lib.hid hI
  have HR0:=Lib.hid hrow0
  have hgl:ba<w.heap.size:=(Array.getElem?_eq_some_iff.1 hrow0.row).1
  have hcm':=hcm
  unfold maxLen at hcm'
  clear hn ho hnone hI hrow0 hcur0 hkp hkq had hnl
  go_enter Tryz.func184,Tryz.ntmps184
  go_wp2_with fail
  refine hIF.mono ?_
  rw [e1.out]
  rintro e w1 ⟨rfl,hb1⟩
  have hk1:((k:Int) == -1)=false:=by simp
  go_wp2_with fail
  go_loopw [5,6] (fun ti tj wr=>∃ i j:Nat,∃ cur,i<j∧j≤n∧ti = .int .i64 i∧tj = .int .i64 j∧DelSt p xs n cur i j∧RowIs wr ba cur c∧w.grownBy wr (some ba)) (fun _ tj _=>n-(intOf tj).toNat)
  case atStart=>
   refine ⟨k,k+1,cur0,by omega,by omega,rfl,by go_num,HST.out,⟨?_,HR0.out.len⟩,zc8 hb1⟩
   rw [hb1.block _ hgl];exact HR0.out.row
  case round=>
   obtain ⟨i,j,cur,hij,hj,rfl,rfl,hst,hrow,hgrow⟩:=hrel
   have hcl:=hrow.len
   by_cases hlt:j<n
   ·have k0:(0:Int)≤(j:Int):=by omega
    have k1:(j:Int)<(n:Int):=by omega
    have k2:(i:Int)<(n:Int):=by omega
    have cj:wr.cell? ⟨ba,j,none⟩=some (.int .i64 (el xs j)):=zh1 hrow.row (hst.tl j (Nat.le_refl _) hlt)
    have HS:=Lib.hid hst
    have HR:=Lib.hid hrow
    have HG:=Lib.hid hgrow
    have HCL:=Lib.hid hcl
    clear hst hrow hgrow hcl
    cases hv:p (el xs j)
    case true=>
     have HV:=Lib.hid hv
     clear hv
     go_wp2_with fail
     refine (hp _ _ (HI.out _ HG.out)).mono ?_
     rw [HV.out]
     rintro e w2 ⟨rfl,hb2⟩
     go_wp2_with fail
     go_roundw
     case rel=>exact ⟨i,j+1,cur,by omega,by omega,rfl,by go_num,HS.out.drop HN.out hlt HV.out,⟨by rw [hb2.block _ (Array.getElem?_eq_some_iff.1 HR.out.row).1];exact HR.out.row,HR.out.len⟩,zfc HG.out (zc8 hb2)⟩
     case measure=>simp [intOf];omega
    case false=>
     have HV:=Lib.hid hv
     clear hv
     go_wp2_with fail
     refine (hp _ _ (HI.out _ HG.out)).mono ?_
     rw [HV.out]
     rintro e w2 ⟨rfl,hb2⟩
     have HR2:Hid (RowIs w2 ba cur c):=⟨by rw [hb2.block _ (Array.getElem?_eq_some_iff.1 HR.out.row).1];exact HR.out.row,HR.out.len⟩
     have ci:w2.cell? ⟨ba,i,none⟩=some (cur[i]'(by rw [HCL.out];omega)):=zh1 HR2.out.row (by simp)
     have fi:=zgv HR2.out.row i
     go_wp2_with fail
     go_roundw
     case rel=>exact ⟨i+1,j+1,_,by omega,by omega,by go_num,by go_num,HS.out.keep HN.out (by rw [HCL.out];exact hnc) hlt HV.out,⟨zok HR2.out.row i _,by simpa using HCL.out⟩,zfF (zfc HG.out (zc8 hb2)) _ _⟩
     case measure=>simp [intOf];omega
   ·have k1:¬ (j:Int)<(n:Int):=by omega
    obtain rfl:j=n:=by omega
    have k2:(i:Int)≤(j:Int):=by omega
    have k3:(i:Int)≤(c:Int):=by omega
    have HS:=Lib.hid hst
    have HR:=Lib.hid hrow
    have HG:=Lib.hid hgrow
    have hclr:=Lib.run_clear_slice (P:=Tryz.prog) wr 23 3 0 (.int .i64 0) Tryz.underlying23 ztO rfl rfl ba i (j-i) (c-i) (by omega)
     (fun t ht=>by rw [zh1 hrow.row (v:=cur[i+t]'(by omega)) (by simp)];rfl) (fun t ht=>zgv hrow.row _)
    obtain ⟨w3,cur3,hw3,hrow3,htk3,hgrow3⟩:∃ w3 cur3,wr.setCells ba i (List.replicate (j-i) (.int .i64 0))=w3∧RowIs w3 ba cur3 c∧cur3.take i=cur.take i∧wr.grownBy w3 (some ba):=by
     obtain ⟨c3,h1,h2,h3⟩:=ziB hrow i (List.replicate (j-i) (.int .i64 0))
     exact ⟨_,c3,rfl,h1,h2,h3⟩
    rw [hw3] at hclr
    have HR3:=Lib.hid hrow3
    have HT3:=Lib.hid htk3
    have HG3:=Lib.hid hgrow3
    clear hst hrow hgrow hcl hw3 hrow3 htk3 hgrow3
    have k4:(i:Int)≤(j:Int):=by omega
    go_wp2
    go_ret
    have hfx:(xs.take j)=xs:=List.take_of_length_le (by rw [HN.out];exact Nat.le_refl _)
    refine ⟨_,rfl,HR3.out.owns hbg ?_ (by omega) hcm ?_,zfc HG.out HG3.out⟩
    ·have:=HS.out.hi;rw [hfx] at this;exact this.symm
    ·rw [HT3.out];have:=HS.out.hd;rw [hfx] at this;exact this
def zbz (v:Int) (s:List Int×Bool) (x:Int):List Int×Bool:=if s.2=false∧v<x then (s.1++[v]++[x],true) else (s.1++[x],s.2)
def zd5 (xs:List Int) (v:Int):Nat→List Int×Bool
 | 0=>([],hasB xs v)
 | k+1=>zbz v (zd5 xs v k) (el xs k)
def putL (xs:List Int) (v:Int):List Int:=if (zd5 xs v xs.length).2 then (zd5 xs v xs.length).1 else (zd5 xs v xs.length).1++[v]
theorem zox (xs:List Int) (v:Int) (k:Nat):(zd5 xs v k).1.length≤2*k:=by
 induction k with
 | zero=>simp [zd5]
 | succ k ih=>
  unfold zd5 zbz
  split<;>simp<;>omega
def zv2 (w:World) (l:List Int) (e:Ending) (w':World):Prop:=∃ v,e = .returned v∧OwnI w.heap.size w' v l∧Below w.heap.size w w'
set_option maxRecDepth 100000 in
theorem zuf (a:Option Addr) (n c:Nat) (xs:List Int) (v:Int) (w:World) (ha:IntSl w a n xs) (hn:n≤1099511627776) :
  Calls Tryz.prog 174 #[.slice a n c,.int .i64 v] w (zv2 w (putL xs v)):=by
 have hm:=ha.mx
 go_enter Tryz.func174,Tryz.ntmps174
 go_wp2_with fail
 refine (zh4 _ _ _ xs _ _ ha).mono ?_
 rintro e w' ⟨rfl,rfl⟩
 go_wp2_with fail
 go_loopw [5,6,7] (fun t b i wr=>∃ k:Nat,∃ o:List Int,∃ bb:Bool,k≤n∧i = .int .i64 k∧b = .bool bb∧zd5 xs v k=(o,bb)∧OwnI w.heap.size wr t o∧Below w.heap.size w wr) (fun _ _ i _=>n-(intOf i).toNat)
 case atStart=>exact ⟨0,[],_,Nat.zero_le _,rfl,rfl,rfl,OwnI.nil _ _,Below.refl _ _⟩
 case round=>
  obtain ⟨k,o,bb,hk,rfl,rfl,hst,hown,hbel⟩:=hrel
  have hlen:=zox xs v k
  rw [hst] at hlen
  simp only at hlen
  by_cases hlt:k<n
  ·have k0:(0:Int)≤(k:Int):=by omega
   have k1:(k:Int)<(n:Int):=by omega
   obtain ⟨ba,oa,rfl,hba,hca⟩:=ha.row (by omega)
   have ca:wr.cell? ⟨ba,oa+k,none⟩=some (.int .i64 (el xs k)):=by rw [hbel.cell (p:=⟨ba,oa+k,none⟩) hba];exact hca k hlt
   have CA:=Lib.hid (hca k hlt)
   clear hca
   have hsz:=hbel.size
   have H5:=Lib.hid hown
   have HB:=Lib.hid hbel
   have HS:=Lib.hid hst
   clear hown hbel hst
   by_cases hc:bb=false∧v<el xs k
   ·obtain ⟨rfl,hvx⟩:=hc
    have hnx:=Lib.hid (show zd5 xs v (k+1)=(o++[v]++[el xs k],true) by simp [zd5,HS.out,zbz,hvx])
    go_wp2_with (first | (at_builtin;refine zb6 rfl (.tmp 27) (.tmp 29) 23 rfl Tryz.underlying23 w.heap.size _ o rfl H5.out v 3 _ rfl rfl (by omega) hsz ?_;intro v1 w1 ho1 hg1;have HO1:=Lib.hid ho1;have HB1:=Lib.hid (H5.out.bel HB.out hg1 hsz);clear ho1 hg1;have hsz1:=HB1.out.size;have ca1:=(HB1.out.cell (p:=⟨ba,oa+k,none⟩) hba).trans CA.out) | (at_builtin;refine zb6 rfl (.tmp 31) (.tmp 36) 23 rfl Tryz.underlying23 w.heap.size _ (o++[v]) rfl HO1.out (el xs k) 3 _ rfl rfl ?len hsz1 ?_;rotate_right;intro v2 w2 ho2 hg2;have HO2:=Lib.hid ho2;have HB2:=Lib.hid (HO1.out.bel HB1.out hg2 hsz1);clear ho2 hg2))
    case len=>simp;omega
    go_roundw
    case rel=>exact ⟨k+1,_,_,by omega,by go_num,rfl,hnx.out,HO2.out,HB2.out⟩
    case measure=>simp [intOf];omega
   ·have hnx:=Lib.hid (show zd5 xs v (k+1)=(o++[el xs k],bb) by simp [zd5,HS.out,zbz,hc])
    cases bb
    case true=>
     go_wp2_with (at_builtin;refine zb6 rfl (.tmp 31) (.tmp 36) 23 rfl Tryz.underlying23 w.heap.size _ o rfl H5.out (el xs k) 3 _ rfl rfl (by omega) hsz ?_;intro v2 w2 ho2 hg2;have HO2:=Lib.hid ho2;have HB2:=Lib.hid (H5.out.bel HB.out hg2 hsz);clear ho2 hg2)
     go_roundw
     case rel=>exact ⟨k+1,_,_,by omega,by go_num,rfl,hnx.out,HO2.out,HB2.out⟩
     case measure=>simp [intOf];omega
    case false=>
     have hvx:¬ v<el xs k:=fun h=>hc ⟨rfl,h⟩
     clear hc
     go_wp2_with (at_builtin;refine zb6 rfl (.tmp 31) (.tmp 36) 23 rfl Tryz.underlying23 w.heap.size _ o rfl H5.out (el xs k) 3 _ rfl rfl (by omega) hsz ?_;intro v2 w2 ho2 hg2;have HO2:=Lib.hid ho2;have HB2:=Lib.hid (H5.out.bel HB.out hg2 hsz);clear ho2 hg2)
     go_roundw
     case rel=>exact ⟨k+1,_,_,by omega,by go_num,rfl,hnx.out,HO2.out,HB2.out⟩
     case measure=>simp [intOf];omega
  ·have k1:¬ (k:Int)<(n:Int):=by omega
   obtain rfl:k=n:=by omega
   have hlx:=ha.len
   have hpl:putL xs v=if bb then o else o++[v]:=by simp [putL,hlx,hst]
   have HPL:=Lib.hid hpl
   have hsz:=hbel.size
   have H5:=Lib.hid hown
   have HB:=Lib.hid hbel
   clear hown hbel hst hlx hpl hlt hk
   cases bb
   case true=>
    go_wp2
    go_ret
    exact ⟨_,rfl,by rw [HPL.out];exact H5.out,HB.out⟩
   case false=>
    go_wp2_with (at_builtin;refine zb6 rfl (.tmp 40) (.tmp 42) 23 rfl Tryz.underlying23 w.heap.size _ o rfl H5.out v 3 _ rfl rfl (by omega) hsz ?_;intro v2 w2 ho2 hg2;have HO2:=Lib.hid ho2;have HB2:=Lib.hid (H5.out.bel HB.out hg2 hsz);clear ho2 hg2)
    go_ret
    exact ⟨_,rfl,by rw [HPL.out];exact HO2.out,HB2.out⟩
def zbF (w:World) (code:Int) (l:List Int) (e:Ending) (w':World):Prop:=∃ v,e = .returned (.tuple #[v,.int .i64 code])∧OwnI w.heap.size w' v l∧Below w.heap.size w w'
def zay (xs:List Int) (v:Int):List Int:=xs.filter (fun x=>!(x==v))
theorem ziy (x v:Int) (bx:Nat) (w:World) (hc:w.cell? ⟨bx,0,none⟩=some (.int .i64 v)) :
  Calls Tryz.prog 185 #[.int .i64 x,.pointer (some ⟨bx,0,none⟩)] w fun e w'=>e = .returned (.bool (x==v))∧Below w.heap.size w w':=by
 generalize hr:(x==v)=r
 go_enter Tryz.func185,Tryz.ntmps185
 go_wp2
 go_ret
 exact ⟨rfl,Below.refl _ _⟩
theorem zmG (a:Option Addr) (n c:Nat) (xs:List Int) (v:Int) (w:World) (ha:IntSl w a n xs) (hn:n≤1099511627776) (hi:isB xs=false) :
  Calls Tryz.prog 133 #[.slice a n c,.int .i64 v] w (zbF w 1 []):=by
 have HI:=Lib.hid hi
 clear hi
 go_enter Tryz.func133,Tryz.ntmps133
 go_wp2_with fail
 refine (zcu _ _ _ xs _ (ha.alloc _)).mono ?_
 rw [HI.out]
 rintro e w1 ⟨rfl,q,rfl⟩
 go_wp2_with fail
 go_ret2
 exact ⟨_,rfl,OwnI.nil _ _,zb1 ((Below.refl _ _).alloc (Nat.le_refl _) _) _⟩
theorem zjX (a:Option Addr) (n c:Nat) (xs:List Int) (v:Int) (w:World) (ha:IntSl w a n xs) (hn:n≤1099511627776) (hi:isB xs=true) :
  Calls Tryz.prog 133 #[.slice a n c,.int .i64 v] w (zbF w 0 (zay xs v)):=by
 have HI:=Lib.hid hi
 have hbd:=ha.bd
 have eg:∀ args w,(callFunc 185 args).run Tryz.prog w = .ok (.enter 185 args) w:=enters_of Tryz.func185 (by kernel_rfl) rfl
 have HEG:=Lib.hid eg
 clear hi eg
 go_enter Tryz.func133,Tryz.ntmps133
 go_wp2_with fail
 refine (zcu _ _ _ xs _ (ha.alloc _)).mono ?_
 rw [HI.out]
 rintro e w1 ⟨rfl,q,rfl⟩
 go_wp2_with fail
 refine (zq6 _ _ _ xs _ ((ha.alloc _).drewN _) hn).mono ?_
 rintro e w2 ⟨cv,rfl,hown,hb2⟩
 have hs2:=hb2.size
 simp at hs2
 have HO:=Lib.hid (hown.mono (B:=w.heap.size+1) (by simp))
 have B2:Below w.heap.size w w2:=(zb1 ((Below.refl _ _).alloc (Nat.le_refl _) _) q).trans (hb2.mono (by simp))
 have HB2:=Lib.hid B2
 obtain ⟨ca,cc,rfl,hsl⟩:=hown.sl hbd
 have hbox:w2.cell? ⟨w.heap.size,0,none⟩=some (.int .i64 v):=by
  rw [hb2.cell (p:=⟨w.heap.size,0,none⟩) (by simp)]
  simp
 have hpred:zqT 185 (.pointer (some ⟨w.heap.size,0,none⟩)) (fun x=>x==v) (fun w'=>w'.cell? ⟨w.heap.size,0,none⟩=some (.int .i64 v)):=fun x w' h=>ziy x v _ w' h
 have hdel:=zgf _ _ _ _ hpred HEG.out (w.heap.size+1) ca xs.length cc xs w2 (fun w' hg=>?_) HO.out hbd (by omega)
 rotate_left
 ·refine hg.cell hbox ?_
  intro e
  have:=World.ownsRow.lt HO.out _ e.symm
  dsimp only at this
  omega
 have HD:=Lib.hid hdel
 clear hown hb2 B2 hbox hdel hpred
 go_wp2_with fail
 refine HD.out.mono ?_
 rintro e w3 ⟨dv,rfl,ho3,hg3⟩
 go_wp2_with fail
 go_ret2
 refine ⟨_,rfl,ho3.mono (by omega),HB2.out.grown hg3 HB2.out.size (fun k hk=>?_)⟩
 have:=World.ownsRow.lt HO.out _ hk
 omega
theorem zsB (a:Option Addr) (n c:Nat) (xs:List Int) (v:Int) (w:World) (ha:IntSl w a n xs) (hn:n≤1099511627776) :
  Calls Tryz.prog 173 #[.slice a n c,.int .i64 v] w (zdH w (zay xs v)):=by
 have hm:=ha.mx
 go_enter Tryz.func173,Tryz.ntmps173
 go_wp2
 go_loopw [5,6] (fun t i wr=>∃ k:Nat,k≤n∧i = .int .i64 k∧OwnI w.heap.size wr t (zay (xs.take k) v)∧Below w.heap.size w wr) (fun _ i _=>n-(intOf i).toNat)
 case atStart=>exact ⟨0,Nat.zero_le _,rfl,OwnI.nil _ _,Below.refl _ _⟩
 case round=>
  obtain ⟨k,hk,rfl,hown,hbel⟩:=hrel
  by_cases hlt:k<n
  ·have k0:(0:Int)≤(k:Int):=by omega
   have k1:(k:Int)<(n:Int):=by omega
   obtain ⟨ba,oa,rfl,hba,hca⟩:=(ha.below hbel).row (by omega)
   have ca:=hca k hlt
   have hlen:(zay (xs.take k) v).length≤k:=by
    have h1:=List.length_filter_le (fun x=>!(x==v)) (xs.take k)
    have h2:(xs.take k).length≤k:=List.length_take_le _ _
    unfold zay;omega
   have hts:=zbY (xs:=xs) (j:=k) (by rw [ha.len];exact hlt)
   have hsz:=hbel.size
   clear hca
   by_cases hv:el xs k=v
   ·have hd:zay (xs.take (k+1)) v=zay (xs.take k) v:=by rw [hts];simp [zay,hv]
    have HD:=Lib.hid hd
    have tt:(el xs k != v)=false:=by simp [hv]
    have HO:=Lib.hid hown
    have HB:=Lib.hid hbel
    clear hv hd hts hown hbel hlen
    go_wp2
    go_roundw
    case rel=>exact ⟨k+1,by omega,by go_num,by rw [HD.out];exact HO.out,HB.out⟩
    case measure=>simp [intOf];omega
   ·have hd:zay (xs.take (k+1)) v=zay (xs.take k) v++[el xs k]:=by rw [hts];simp [zay,hv]
    have HD:=Lib.hid hd
    have tt:(el xs k != v)=true:=by simp [hv]
    have HO:=Lib.hid hown
    have HB:=Lib.hid hbel
    generalize hg:zay (xs.take k) v=o at *
    clear hv hd hts hown hbel hg
    go_wp2_with (at_builtin;refine zb6 rfl (.tmp 19) (.tmp 24) 23 rfl Tryz.underlying23 w.heap.size _ o rfl HO.out (el xs k) 3 _ rfl rfl (by omega) hsz ?_;intro v2 w2 ho2 hg2;have HO2:=Lib.hid ho2;have HB2:=Lib.hid (HO.out.bel HB.out hg2 hsz);clear ho2 hg2)
    go_roundw
    case rel=>exact ⟨k+1,by omega,by go_num,by rw [HD.out];exact HO2.out,HB2.out⟩
    case measure=>simp [intOf];omega
  ·have k1:¬ (k:Int)<(n:Int):=by omega
   obtain rfl:k=n:=by omega
   rw [List.take_of_length_le (by rw [ha.len];exact Nat.le_refl _)] at hown
   go_wp2
   go_ret
   exact ⟨_,rfl,hown,hbel⟩
theorem zdI {ops:Array Oper} {rest:List Oper} {o:Oper} {a:Act} {Q:Exit→Act→World→Prop} {wr:World} (hgd:o.guard=none) (s x:Operand) (t:TypeId)
  (ho:o.op = .call {callee:= .builtin .append,args:= #[s,x],argTypes:= #[t,t]}) (ht:Tryz.prog.underlying t=some (.slice 3))
  (base:Nat) (v:Value) (xs:List Int) (hs:a.eval s=v) (hown:OwnI base wr v xs) (ao:Option Addr) (m c:Nat) (ys:List Int) (hsl:IntSl wr ao m ys) (hnil:ao=none→c=0) (hx:a.eval x = .slice ao m c)
  (hn:xs.length+m<8796093022208) (hbase:base≤wr.heap.size)
  (h:∀ v' w',OwnI base w' v' (xs++ys)→wr.grownBy w' v.ownBlock→wpList Tryz.prog ops Q rest (a.put o.dst v') w'):wpList Tryz.prog ops Q (o::rest) a wr:=by
 cases ao with
 | some ad=>exact zdz hgd s x t ho ht base v xs hs hown ad m c ys hsl hx hn hbase h
 | none=>
  obtain ⟨rfl,rfl⟩:=hsl.none
  obtain rfl:c=0:=hnil rfl
  obtain ⟨i0,hi,hz0,hz1,hz2⟩:=info_parts zhH
  refine Lib.wpList_append_run _ hgd s x t t ho v _ hs hx v wr (run_append_owned_none wr base t o.type 3 i0 1 ht hi v xs.length _ hown) ?_
  exact h v wr (by rw [List.append_nil];exact hown) (World.grownBy.refl _ _)
theorem zga (n:Nat):(Builtin.zeroCells #[Value.int .i64 0] n).size=n:=by simp [Builtin.zeroCells]
set_option maxRecDepth 100000 in
theorem zse (n:Nat) (N:Int) (w:World) (hN:N=n) (hn:n≤2199023255552) :
  Calls Tryz.prog 233 #[.slice none 0 0,.int .i64 N] w (zdH w []):=by
 subst hN
 obtain ⟨i0,hi,hz0,hz1,hz2⟩:=info_parts zhH
 by_cases h0:n=0
 ·subst h0
  go_enter Tryz.func233,Tryz.ntmps233
  go_wp2
  go_ret
  exact ⟨_,rfl,OwnI.nil _ _,Below.refl _ _⟩
 ·have t1:¬ (n:Int)<0:=by omega
  have t2:(0:Int)<(n:Int):=by omega
  have hr:=fun ty=>Lib.run_append_nil_zeros (P:=Tryz.prog) w 22 3 ty 3 i0 (.int .i64 0) .i64 .i64 Tryz.underlying22 Tryz.underlying3 hi hz0 n (by omega) (by omega) (by omega) (by rw [hz2];omega)
  have HR:=Lib.hid hr
  have hcap:=grownCap_ge w n 0 3
  have hcap2:=grownCap_le_maxLen w n 0 3 (by unfold maxLen;omega)
  clear hr
  go_enter Tryz.func233,Tryz.ntmps233
  go_wp2_with (at_builtin;refine Lib.wpList_append_run _ rfl (.tmp 20) (.tmp 21) 22 3 rfl _ _ rfl rfl _ _ (HR.out _) ?_)
  go_ret
  refine ⟨_,rfl,?_,((Below.refl _ _).alloc (Nat.le_refl _) _).drew⟩
  refine World.ownsRow_made w _ _ (Nat.le_refl _) hcap2 ?_
  simp only [Array.size_append,zga];omega
theorem zkS (gr:Nat) (a:Option Addr) (n ca:Nat) (xs:List Int) (b:Option Addr) (m cb:Nat) (ys:List Int) (w:World)
  (h0:w.cell? ⟨gr,0,none⟩=some (.slice a n ca)) (h1:w.cell? ⟨gr,1,none⟩=some (.slice b m cb)) (hgr:gr<w.heap.size) (ha:IntSl w a n xs) (hb:IntSl w b m ys) (hna:a=none→ca=0) (hnb:b=none→cb=0) (hn:n≤1099511627776) (hm:m≤1099511627776) :
  Calls Tryz.prog 219 #[.slice (some ⟨gr,0,none⟩) 2 2] w (zdH w (xs++ys)):=by
 have q1:(0:Int)≤(n:Int):=by omega
 have q2:(0:Int)≤(n:Int)+(m:Int):=by omega
 have H0:=Lib.hid h0
 have H1:=Lib.hid h1
 have hla:=ha.len
 have hlx:=Lib.hid (show ([]++xs).length+m<8796093022208 by simp;omega)
 clear hla
 go_enter Tryz.func219,Tryz.ntmps219
 go_wp2
 refine wp_loop_rounds 3 ?_
 rw [rounds_succ]
 go_wp2
 rw [rounds_succ]
 go_wp2
 rw [rounds_succ]
 go_wp2_with fail
 refine (zse (n+m) _ _ (by omega) (by omega)).mono ?_
 rintro e w1 ⟨v1,rfl,ho1,hb1⟩
 have g0:w1.cell? ⟨gr,0,none⟩=some (.slice a n ca):=by rw [hb1.cell (p:=⟨gr,0,none⟩) hgr];exact H0.out
 have z1:=hb1.size
 clear h0 h1
 have HO1:=Lib.hid ho1
 have HB1:=Lib.hid hb1
 have ha1:=Lib.hid (ha.below hb1)
 clear ho1 hb1
 go_wp2_with fail
 refine wp_loop_rounds 3 ?_
 rw [rounds_succ]
 go_wp2_with (at_builtin;refine zdI rfl (.tmp 31) (.tmp 32) 22 rfl Tryz.underlying22 w.heap.size _ [] rfl HO1.out a n ca xs ha1.out hna rfl (by simp;omega) z1 ?_;intro v2 w2 ho2 hg2;have HO2:=Lib.hid ho2;have HB2:=Lib.hid (HO1.out.bel HB1.out hg2 z1);clear ho2 hg2;have g1:w2.cell? ⟨gr,1,none⟩=some (.slice b m cb):=(HB2.out.cell (p:=⟨gr,1,none⟩) hgr).trans H1.out;have hb2:=Lib.hid (hb.below HB2.out);have z2:=HB2.out.size)
 rw [rounds_succ]
 go_wp2_with (at_builtin;refine zdI rfl (.tmp 31) (.tmp 32) 22 rfl Tryz.underlying22 w.heap.size _ ([]++xs) rfl HO2.out b m cb ys hb2.out hnb rfl hlx.out z2 ?_;intro v3 w3 ho3 hg3;have HO3:=Lib.hid ho3;have HB3:=Lib.hid (HO2.out.bel HB2.out hg3 z2);clear ho3 hg3)
 rw [rounds_succ]
 go_wp2
 go_ret
 exact ⟨_,rfl,by have:=HO3.out;rwa [List.nil_append] at this,HB3.out⟩
end Go.Proofs.YteabcgkjbnecaaaGreat
namespace Go.Proofs
open Go.Shelf
def Tryz.lays189_ren:Go.Shelf.Ren:=⟨fun | 189=>220 | 125=>215 | 257=>234 | 128=>231 | 129=>232 | 294=>240 | 295=>241 | 296=>242 | 297=>243 | 298=>244 | 299=>245 | 216=>246 | 300=>247 | 301=>248 | 328=>250 | 329=>236 | 330=>237 | 331=>251 | 332=>252 | 215=>253 | 343=>254 | n=>n,fun | 28=>22 | 3=>3 | 46=>215 | 0=>0 | 51=>231 | 53=>233 | 4=>4 | 183=>224 | 182=>223 | 131=>228 | 5=>5 | 9=>9 | 218=>236 | 222=>240 | 228=>247 | 229=>97 | n=>n,fun | n=>n⟩
theorem Tryz.lays189:Go.Proofs.Lays.n189 Tryz.prog Tryz.lays189_ren:={
 mixed:=by kernel_rfl
 f125:=Tryz.func215.trans (congrArg some (by kernel_rfl))
 f128:=Tryz.func231.trans (congrArg some (by kernel_rfl))
 f129:=Tryz.func232.trans (congrArg some (by kernel_rfl))
 f189:=Tryz.func220.trans (congrArg some (by kernel_rfl))
 f215:=Tryz.func253.trans (congrArg some (by kernel_rfl))
 f216:=Tryz.func246.trans (congrArg some (by kernel_rfl))
 f257:=Tryz.func234.trans (congrArg some (by kernel_rfl))
 f294:=Tryz.func240.trans (congrArg some (by kernel_rfl))
 f295:=Tryz.func241.trans (congrArg some (by kernel_rfl))
 f296:=Tryz.func242.trans (congrArg some (by kernel_rfl))
 f297:=Tryz.func243.trans (congrArg some (by kernel_rfl))
 f298:=Tryz.func244.trans (congrArg some (by kernel_rfl))
 f299:=Tryz.func245.trans (congrArg some (by kernel_rfl))
 f300:=Tryz.func247.trans (congrArg some (by kernel_rfl))
 f301:=Tryz.func248.trans (congrArg some (by kernel_rfl))
 f328:=Tryz.func250.trans (congrArg some (by kernel_rfl))
 f329:=Tryz.func236.trans (congrArg some (by kernel_rfl))
 f330:=Tryz.func237.trans (congrArg some (by kernel_rfl))
 f331:=Tryz.func251.trans (congrArg some (by kernel_rfl))
 f332:=Tryz.func252.trans (congrArg some (by kernel_rfl))
 f343:=Tryz.func254.trans (congrArg some (by kernel_rfl))
 t0:=Tryz.underlying0
 a0:=Tryz.isAgg0
 z0:=Tryz.sizeOf0
 v0:=Tryz.zeroValue0
 t3:=Tryz.underlying3
 a3:=Tryz.isAgg3
 z3:=Tryz.sizeOf3
 v3:=Tryz.zeroValue3
 t4:=Tryz.underlying4
 a4:=Tryz.isAgg4
 z4:=Tryz.sizeOf4
 v4:=Tryz.zeroValue4
 t5:=Tryz.underlying5
 a5:=Tryz.isAgg5
 z5:=Tryz.sizeOf5
 v5:=Tryz.zeroValue5
 t9:=Tryz.underlying9
 a9:=Tryz.isAgg9
 z9:=Tryz.sizeOf9
 v9:=Tryz.zeroValue9
 t28:=Tryz.underlying22
 a28:=Tryz.isAgg22
 z28:=Tryz.sizeOf22
 v28:=Tryz.zeroValue22
 t46:=Tryz.underlying215
 a46:=Tryz.isAgg215
 z46:=Tryz.sizeOf215
 v46:=Tryz.zeroValue215
 t51:=Tryz.underlying231
 a51:=Tryz.isAgg231
 z51:=Tryz.sizeOf231
 v51:=Tryz.zeroValue231
 t53:=Tryz.underlying233
 a53:=Tryz.isAgg233
 z53:=Tryz.sizeOf233
 v53:=Tryz.zeroValue233
 t131:=Tryz.underlying228
 a131:=Tryz.isAgg228
 z131:=Tryz.sizeOf228
 v131:=Tryz.zeroValue228
 t182:=Tryz.underlying223
 a182:=Tryz.isAgg223
 z182:=Tryz.sizeOf223
 v182:=Tryz.zeroValue223
 t183:=Tryz.underlying224
 a183:=Tryz.isAgg224
 z183:=Tryz.sizeOf224
 v183:=Tryz.zeroValue224
 t218:=Tryz.underlying236
 a218:=Tryz.isAgg236
 z218:=Tryz.sizeOf236
 v218:=Tryz.zeroValue236
 t222:=Tryz.underlying240
 a222:=Tryz.isAgg240
 z222:=Tryz.sizeOf240
 v222:=Tryz.zeroValue240
 t228:=Tryz.underlying247
 a228:=Tryz.isAgg247
 z228:=Tryz.sizeOf247
 v228:=Tryz.zeroValue247
 t229:=Tryz.underlying97
 a229:=Tryz.isAgg97
 z229:=Tryz.sizeOf97
 v229:=Tryz.zeroValue97}
open Go.Sort Go.RowKit in
theorem Tryz.slices_Sort_int (blk off cap:Nat) (zs:List Int) (w:World) (hH:Holds (Value.int .i64) w blk off zs.toArray) (hblk:blk<w.heap.size) (hsz:zs.length<4611686018427387904) :
  Calls Tryz.prog 220 #[.slice (some ⟨blk,off,none⟩) zs.length cap] w fun e w' =>
   e = .returned (.tuple #[])∧∃ n os,w'=grow (putRow (Value.int .i64) (Sort.ahead w n) blk off (zs.mergeSort fun x y=>decide (x≤y)).toArray) os:=Any.slices_Sort_int Tryz.lays189 blk off cap zs w hH hblk hsz
def Tryz.laysNm220_ren:Go.Shelf.Ren:=⟨fun | 20=>221 | n=>n,fun | 22=>22 | 3=>3 | 4=>4 | 0=>0 | n=>n,fun | n=>n⟩
theorem Tryz.laysNm220:Go.Proofs.Lays2.n20 Tryz.prog Tryz.laysNm220_ren:={
 mixed:=by kernel_rfl
 f20:=Tryz.func221.trans (congrArg some (by kernel_rfl))
 t0:=Tryz.underlying0
 a0:=Tryz.isAgg0
 z0:=Tryz.sizeOf0
 v0:=Tryz.zeroValue0
 t3:=Tryz.underlying3
 a3:=Tryz.isAgg3
 z3:=Tryz.sizeOf3
 v3:=Tryz.zeroValue3
 t4:=Tryz.underlying4
 a4:=Tryz.isAgg4
 z4:=Tryz.sizeOf4
 v4:=Tryz.zeroValue4
 t22:=Tryz.underlying22
 a22:=Tryz.isAgg22
 z22:=Tryz.sizeOf22
 v22:=Tryz.zeroValue22
 i3:=by kernel_rfl}
open Go.RowKit Go.Lib Go.Sort in
theorem Tryz.slices_Compact_int (blk off cap:Nat) (zs:List Int) (w:World) (hH:Holds (Value.int .i64) w blk off zs.toArray) (hsz:zs.length≤9223372036854775807) (hcap:zs.length≤cap) :
  Calls Tryz.prog 221 #[.slice (some ⟨blk,off,none⟩) zs.length cap] w fun e w'=>e = .returned (.slice (some ⟨blk,off,none⟩) (Lib.compact zs).length cap)∧∃ q,w'=putRow (Value.int .i64) (Sort.ahead w q) blk off (Lib.compact zs++List.replicate (zs.length-(Lib.compact zs).length) 0).toArray:=Any.slices_Compact_int Tryz.laysNm220 blk off cap zs w hH hsz hcap
open Go.RowKit Go.Lib Go.Sort in
theorem Tryz.slices_Compact_int_empty (a:Option Addr) (cap:Nat) (w:World) :
  Calls Tryz.prog 221 #[.slice a 0 cap] w fun e w'=>e = .returned (.slice a 0 cap)∧w'=w:=Any.slices_Compact_int_empty Tryz.laysNm220 a cap w
open Go.RowKit Go.Sort in
theorem Tryz.slices_Sort_int_none (p:Option Addr) (cap:Nat) (w:World) :
  Calls Tryz.prog 220 #[.slice p 0 cap] w fun e w'=>e = .returned (.tuple #[])∧w'=w:=Any.slices_Sort_int_none Tryz.lays189 p cap w
def Tryz.laysSortF_ren:Go.Shelf.Ren:=⟨fun | 6=>204 | 15=>215 | 14=>214 | 28=>231 | 29=>232 | 20=>223 | 21=>224 | 22=>225 | 23=>226 | 24=>227 | 25=>228 | 26=>229 | 27=>230 | 46=>235 | 47=>236 | 48=>237 | 49=>238 | 50=>239 | 57=>249 | n=>n,fun | 22=>22 | 24=>3 | 25=>207 | 3=>3 | 39=>215 | 0=>0 | 53=>231 | 55=>233 | 4=>4 | 46=>224 | 45=>223 | 50=>228 | 5=>5 | 9=>9 | 66=>236 | 70=>240 | 76=>247 | 77=>97 | n=>n,fun | n=>n⟩
theorem Tryz.laysSortF:Go.Proofs.SlLaysF.n6 Tryz.prog Tryz.laysSortF_ren:={
 mixed:=by kernel_rfl
 f6:=⟨Tryz.f204.name,by decide,Tryz.func204.trans (congrArg some (by kernel_rfl))⟩
 f14:=⟨Tryz.f214.name,by decide,Tryz.func214.trans (congrArg some (by kernel_rfl))⟩
 f15:=Tryz.func215.trans (congrArg some (by kernel_rfl))
 f20:=⟨Tryz.f223.name,by decide,Tryz.func223.trans (congrArg some (by kernel_rfl))⟩
 f21:=⟨Tryz.f224.name,by decide,Tryz.func224.trans (congrArg some (by kernel_rfl))⟩
 f22:=⟨Tryz.f225.name,by decide,Tryz.func225.trans (congrArg some (by kernel_rfl))⟩
 f23:=⟨Tryz.f226.name,by decide,Tryz.func226.trans (congrArg some (by kernel_rfl))⟩
 f24:=⟨Tryz.f227.name,by decide,Tryz.func227.trans (congrArg some (by kernel_rfl))⟩
 f25:=⟨Tryz.f228.name,by decide,Tryz.func228.trans (congrArg some (by kernel_rfl))⟩
 f26:=⟨Tryz.f229.name,by decide,Tryz.func229.trans (congrArg some (by kernel_rfl))⟩
 f27:=⟨Tryz.f230.name,by decide,Tryz.func230.trans (congrArg some (by kernel_rfl))⟩
 f28:=Tryz.func231.trans (congrArg some (by kernel_rfl))
 f29:=Tryz.func232.trans (congrArg some (by kernel_rfl))
 f46:=⟨Tryz.f235.name,by decide,Tryz.func235.trans (congrArg some (by kernel_rfl))⟩
 f47:=Tryz.func236.trans (congrArg some (by kernel_rfl))
 f48:=Tryz.func237.trans (congrArg some (by kernel_rfl))
 f49:=⟨Tryz.f238.name,by decide,Tryz.func238.trans (congrArg some (by kernel_rfl))⟩
 f50:=⟨Tryz.f239.name,by decide,Tryz.func239.trans (congrArg some (by kernel_rfl))⟩
 f57:=⟨Tryz.f249.name,by decide,Tryz.func249.trans (congrArg some (by kernel_rfl))⟩
 t0:=Tryz.underlying0
 a0:=Tryz.isAgg0
 z0:=Tryz.sizeOf0
 v0:=Tryz.zeroValue0
 t3:=Tryz.underlying3
 a3:=Tryz.isAgg3
 z3:=Tryz.sizeOf3
 v3:=Tryz.zeroValue3
 t4:=Tryz.underlying4
 a4:=Tryz.isAgg4
 z4:=Tryz.sizeOf4
 v4:=Tryz.zeroValue4
 t5:=Tryz.underlying5
 a5:=Tryz.isAgg5
 z5:=Tryz.sizeOf5
 v5:=Tryz.zeroValue5
 t9:=Tryz.underlying9
 a9:=Tryz.isAgg9
 z9:=Tryz.sizeOf9
 v9:=Tryz.zeroValue9
 t22:=Tryz.underlying22
 a22:=Tryz.isAgg22
 z22:=Tryz.sizeOf22
 v22:=Tryz.zeroValue22
 a24:=Tryz.isAgg3
 z24:=Tryz.sizeOf3
 t25:=Tryz.underlying207
 a25:=Tryz.isAgg207
 z25:=Tryz.sizeOf207
 v25:=Tryz.zeroValue207
 t39:=Tryz.underlying215
 a39:=Tryz.isAgg215
 z39:=Tryz.sizeOf215
 v39:=Tryz.zeroValue215
 t45:=Tryz.underlying223
 a45:=Tryz.isAgg223
 z45:=Tryz.sizeOf223
 v45:=Tryz.zeroValue223
 t46:=Tryz.underlying224
 a46:=Tryz.isAgg224
 z46:=Tryz.sizeOf224
 v46:=Tryz.zeroValue224
 t50:=Tryz.underlying228
 a50:=Tryz.isAgg228
 z50:=Tryz.sizeOf228
 v50:=Tryz.zeroValue228
 t53:=Tryz.underlying231
 a53:=Tryz.isAgg231
 z53:=Tryz.sizeOf231
 v53:=Tryz.zeroValue231
 t55:=Tryz.underlying233
 a55:=Tryz.isAgg233
 z55:=Tryz.sizeOf233
 v55:=Tryz.zeroValue233
 t66:=Tryz.underlying236
 a66:=Tryz.isAgg236
 z66:=Tryz.sizeOf236
 v66:=Tryz.zeroValue236
 t70:=Tryz.underlying240
 a70:=Tryz.isAgg240
 z70:=Tryz.sizeOf240
 v70:=Tryz.zeroValue240
 t76:=Tryz.underlying247
 a76:=Tryz.isAgg247
 z76:=Tryz.sizeOf247
 v76:=Tryz.zeroValue247
 t77:=Tryz.underlying97
 a77:=Tryz.isAgg97
 z77:=Tryz.sizeOf97
 v77:=Tryz.zeroValue97}
end Go.Proofs
namespace Go.Proofs.YteabcgkjbnecaaaGreat
open Go.RowKit
def zer (xs:List Int):List Int:=xs.mergeSort fun x y=>decide (x≤y)
def zmD (base:Nat) (w:World) (v:Value) (l:List Int) (e:Ending) (w':World):Prop:=e = .returned (.tuple #[])∧OwnI base w' v l∧w.grownBy w' v.ownBlock
theorem zr1 (base:Nat) (a:Option Addr) (n c:Nat) (xs:List Int) (w:World) (ho:OwnI base w (.slice a n c) xs) (hl:n<4611686018427387904) :
    Calls Tryz.prog 220 #[.slice a n c] w (zmD base w (.slice a n c) (zer xs)):=by
  by_cases h0:xs=[]
  · subst h0
    have hn:n=0:=by
      obtain ⟨h1,⟨hh,h2⟩ | ⟨g,cap,cur,hv,hg,hh,r⟩⟩:=ho
      · simp at hh;omega
      · simp at hv;omega
    subst hn
    refine (Tryz.slices_Sort_int_none a c w).mono ?_
    rintro e w' ⟨rfl,rfl⟩
    exact ⟨rfl,by simpa [zer] using ho,World.grownBy.refl _ _⟩
  · cases a with
    | none => exfalso
              obtain ⟨h1,⟨hh,h2⟩ | ⟨g,cap,cur,hv,_⟩⟩:=ho
              · exact h0 (List.eq_nil_of_length_eq_zero h2)
              · simp at hv
    | some ad=>
      have ho':=ho
      obtain ⟨h1,⟨hh,h2⟩ | ⟨g,cap,cur,hv,hg,hh,hle,hm,hs,ht⟩⟩:=ho
      · simp at hh
      · simp only [Value.slice.injEq,Option.some.injEq] at hv
        obtain ⟨rfl,rfl,rfl⟩:=hv
        rw [Nat.mul_one] at ht
        have hH:=holds_of_blockI hh ht
        refine (Tryz.slices_Sort_int g 0 c xs w hH (Array.getElem?_eq_some_iff.1 hh).1 hl).mono ?_
        rintro e w' ⟨rfl,n,os,rfl⟩
        refine ⟨rfl,?_,grownBy_sortedI _⟩
        have e1:(zer xs).length=xs.length:=by simp [zer]
        have:=ownsRow_sortedI (n:=n) (os:=os) (ss:=xs) (ts:=zer xs) e1 hg hh hle hm hs
        show World.ownsRow _ _ _ _ _ _ _
        rw [e1];exact this
def zv5 (base:Nat) (w:World) (v:Value) (l:List Int) (e:Ending) (w':World):Prop:=∃ v',e = .returned v'∧OwnI base w' v' l∧w.grownBy w' v.ownBlock
theorem zkT (base:Nat) (a:Option Addr) (n c:Nat) (xs:List Int) (w:World) (ho:OwnI base w (.slice a n c) xs) (hl:n≤9223372036854775807) :
    Calls Tryz.prog 221 #[.slice a n c] w (zv5 base w (.slice a n c) (Lib.compact xs)):=by
  by_cases h0:xs=[]
  · subst h0
    have hn:n=0:=by
      obtain ⟨h1,⟨hh,h2⟩ | ⟨g,cap,cur,hv,hg,hh,r⟩⟩:=ho
      · simp at hh;omega
      · simp at hv;omega
    subst hn
    refine (Tryz.slices_Compact_int_empty a c w).mono ?_
    rintro e w' ⟨rfl,rfl⟩
    exact ⟨_,rfl,ho,World.grownBy.refl _ _⟩
  · cases a with
    | none => exfalso
              obtain ⟨h1,⟨hh,h2⟩ | ⟨g,cap,cur,hv,_⟩⟩:=ho
              · exact h0 (List.eq_nil_of_length_eq_zero h2)
              · simp at hv
    | some ad=>
      have ho':=ho
      obtain ⟨h1,⟨hh,h2⟩ | ⟨g,cap,cur,hv,hg,hh,hle,hm,hs,ht⟩⟩:=ho
      · simp at hh
      · simp only [Value.slice.injEq,Option.some.injEq] at hv
        obtain ⟨rfl,rfl,rfl⟩:=hv
        rw [Nat.mul_one] at ht
        have hH:=holds_of_blockI hh ht
        refine (Tryz.slices_Compact_int g 0 c xs w hH hl hle).mono ?_
        rintro e w' ⟨rfl,q,rfl⟩
        have hcl:=Lib.compact_length_le xs
        have hlen:(Lib.compact xs++List.replicate (xs.length-(Lib.compact xs).length) 0).length=xs.length:=by simp;omega
        refine ⟨_,rfl,?_,grownBy_sortedI (n:=q) (os:= #[]) _⟩
        have:=Lib.ownsRow_putRow (q:=q) ho' hlen hcl
        rw [List.take_left] at this
        exact this
def zaR (xs:List Int):List Int:=Lib.compact (zer xs)
theorem zr2 {xs:List Int} (h:∀ x∈xs,-9223372036854775808≤x∧x≤9223372036854775807):∀ x∈zer xs,-9223372036854775808≤x∧x≤9223372036854775807:=
 fun x hx=>h x ((List.mergeSort_perm xs _).mem_iff.1 hx)
theorem zfV {xs:List Int} {x:Int} (h:x∈Lib.compact xs):x∈xs:=by
 unfold Lib.compact Lib.compactUpTo at h
 obtain ⟨i,hi,e⟩:=List.mem_map.1 h
 have h2:=(List.mem_filter.1 hi).1
 rw [List.mem_range] at h2
 rw [← e,getElem!_pos _ _ (by simpa using h2)]
 simp
theorem zg8 (gr:Nat) (a:Option Addr) (n ca:Nat) (xs:List Int) (b:Option Addr) (m cb:Nat) (ys:List Int) (w:World)
  (h0:w.cell? ⟨gr,0,none⟩=some (.slice a n ca)) (h1:w.cell? ⟨gr,1,none⟩=some (.slice b m cb)) (hgr:gr<w.heap.size) (ha:IntSl w a n xs) (hb:IntSl w b m ys) (hna:a=none→ca=0) (hnb:b=none→cb=0) (hn:n≤1099511627776) (hm:m≤1099511627776) (code:Int) (l:List Int)
  (hcl:((zaR (xs++ys)).length≤16∧code=0∧l=zaR (xs++ys))∨(16<(zaR (xs++ys)).length∧code=2∧l=[])) :
  Calls Tryz.prog 210 #[.slice (some ⟨gr,0,none⟩) 2 2] w (zbF w code l):=by
 have hbd:∀ x∈xs++ys,-9223372036854775808≤x∧x≤9223372036854775807:=by
  intro x hx
  rcases List.mem_append.1 hx with h | h
  ·exact ha.bd x h
  ·exact hb.bd x h
 have hlx:(xs++ys).length=n+m:=by simp [ha.len,hb.len]
 have hls:(zer (xs++ys)).length=n+m:=by simp [zer,ha.len,hb.len]
 have HLX:=Lib.hid hlx
 have HLS:=Lib.hid hls
 have hbs:=zr2 hbd
 have hcc:=zkS gr a n ca xs b m cb ys w h0 h1 hgr ha hb hna hnb hn hm
 generalize hz:xs++ys=zs at *
 have hbc:(zaR zs).length≤n+m:=by have:=Lib.compact_length_le (zer zs);unfold zaR;omega
 have hbm:∀ x∈zaR zs,-9223372036854775808≤x∧x≤9223372036854775807:=fun x hx=>hbs x (zfV hx)
 have HCL:=Lib.hid hcl
 clear hlx hls hz h0 h1 hcl
 go_enter Tryz.func210,Tryz.ntmps210
 go_wp2_with fail
 refine hcc.mono ?_
 rintro e w1 ⟨v1,rfl,ho1,hb1⟩
 obtain ⟨a1,c1,rfl,hs1⟩:=ho1.sl hbd
 have z1:=hb1.size
 have HO1:=Lib.hid ho1
 have HB1:=Lib.hid hb1
 have hz63:zs.length<4611686018427387904:=by have:=HLX.out;omega
 clear hs1 ho1 hb1
 go_wp2_with fail
 refine (zr1 w.heap.size _ _ _ zs _ HO1.out hz63).mono ?_
 rintro e w2 ⟨rfl,ho2,hg2⟩
 have HB2:=Lib.hid (HO1.out.bel HB1.out hg2 z1)
 have z2:=HB2.out.size
 have HO2:=Lib.hid ho2
 clear ho2 hg2
 have hz64:zs.length≤9223372036854775807:=by omega
 go_wp2_with fail
 refine (zkT w.heap.size _ _ _ (zer zs) _ HO2.out hz64).mono ?_
 rintro e w3 ⟨v3,rfl,ho3,hg3⟩
 have HB3:=Lib.hid (HO2.out.bel HB2.out hg3 z2)
 obtain ⟨a3,c3,rfl,hs3⟩:=OwnI.sl (xs:=zaR zs) ho3 hbm
 have HO3:Hid (OwnI w.heap.size w3 (.slice a3 (zaR zs).length c3) (zaR zs)):=ho3
 have hl3:(Lib.compact (zer zs)).length=(zaR zs).length:=rfl
 clear ho3 hg3 hs3 hl3
 rcases HCL.out with ⟨h16,rfl,rfl⟩ | ⟨h16,rfl,rfl⟩
 ·have t1:¬ (16:Int)<((zaR zs).length:Int):=by omega
  generalize hml:(zaR zs).length=ml at *
  clear hml
  go_wp2_with fail
  go_ret2
  exact ⟨_,rfl,HO3.out,HB3.out⟩
 ·have t1:(16:Int)<((zaR zs).length:Int):=by omega
  generalize hml:(zaR zs).length=ml at *
  clear hml
  go_wp2_with fail
  go_ret2
  exact ⟨_,rfl,OwnI.nil _ _,HB3.out⟩
theorem zto (n:Int) (w:World) (h:1≤n) (h2:n≤9223372036854775807) :
  Calls Tryz.prog 206 #[.int .i64 n] w fun e w'=>e = .returned (.int .i64 (n / 2+1))∧w=w':=by
 have h':¬ n<1:=by omega
 go_enter Tryz.func206,Tryz.ntmps206
 go_wp2
 go_ret
 exact ⟨rfl,rfl⟩
theorem znk (k n:Int) (b:Bool) (w:World) (h:0≤k) (h2:k≤n) (h3:n≤9223372036854775807) (hb:decide (n-k<k)=b) :
  Calls Tryz.prog 211 #[.int .i64 k,.int .i64 n] w fun e w'=>e = .returned (.bool b)∧w=w':=by
 subst hb
 go_enter Tryz.func211,Tryz.ntmps211
 go_wp2
 go_ret
 exact ⟨rfl,rfl⟩
def zcD (xs ys:List Int):Nat→Nat
 | 0=>0
 | k+1=>zcD xs ys k+(hasB ys (el xs k)).toNat
theorem zfh (xs ys:List Int) (k:Nat):zcD xs ys k≤k:=by
 induction k with
 | zero=>exact Nat.le_refl _
 | succ k ih=>unfold zcD;cases hasB ys (el xs k)<;>simp<;>omega
theorem zjT (b:Option Addr) (m cb:Nat) (ys:List Int) (v:Int) (w:World) (hb:IntSl w b m ys) :
  Calls Tryz.prog 218 #[.agg #[.slice b m cb],.int .i64 v] w fun e w'=>e = .returned (.bool (hasB ys v))∧Below w.heap.size w w':=by
 go_enter Tryz.func218,Tryz.ntmps218
 go_wp2_with fail
 refine (zpv _ _ _ ys _ _ (by repeat (first | assumption | apply IntSl.drewN | apply IntSl.alloc))).mono ?_
 rintro e w' ⟨rfl,rfl⟩
 go_wp2_with fail
 go_ret
 exact ⟨rfl,by repeat (first | exact Below.refl _ _ | refine zb1 ?_ _ | refine Below.alloc ?_ (by simp<;>omega) _)⟩
theorem zq0 (a:Option Addr) (n ca:Nat) (xs:List Int) (b:Option Addr) (m cb:Nat) (ys:List Int) (w:World) (ha:IntSl w a n xs) (hb:IntSl w b m ys) :
  Calls Tryz.prog 217 #[.slice a n ca,.func (.func 218) #[.agg #[.slice b m cb]] #[]] w fun e w'=>e = .returned (.int .i64 (zcD xs ys n))∧Below w.heap.size w w':=by
 have hm:=ha.mx
 go_enter Tryz.func217,Tryz.ntmps217
 go_wp2
 go_loopw [5,10] (fun t i wr=>∃ k:Nat,k≤n∧i = .int .i64 k∧t = .int .i64 (zcD xs ys k)∧Below w.heap.size w wr) (fun _ i _=>n-(intOf i).toNat)
 case atStart=>exact ⟨0,Nat.zero_le _,rfl,rfl,Below.refl _ _⟩
 case round=>
  obtain ⟨k,hk,rfl,rfl,hbel⟩:=hrel
  by_cases hlt:k<n
  ·have k0:(0:Int)≤(k:Int):=by omega
   have k1:(k:Int)<(n:Int):=by omega
   have hbw:=hb.below hbel
   obtain ⟨ba,oa,rfl,_,hca⟩:=(ha.below hbel).row (by omega)
   have ca:=hca k (by omega)
   have hle:=zfh xs ys k
   have hsc:(zcD xs ys (k+1):Int)=zcD xs ys k+((hasB ys (el xs k)).toNat:Int):=by simp [zcD]
   have HSC:=Lib.hid hsc
   clear hca hsc
   cases hbool:hasB ys (el xs k)
   all_goals
    have HB:=Lib.hid hbool
    clear hbool
    go_wp2_with fail
    refine (zjT _ _ _ ys _ _ hbw).mono ?_
    rw [HB.out]
    rintro e w' ⟨rfl,hb2⟩
    go_wp2_with fail
    go_roundw
    case rel=>exact ⟨k+1,by omega,by go_num,by rw [HSC.out,HB.out];simp,hbel.trans (hb2.mono hbel.size)⟩
    case measure=>simp [intOf];omega
  ·have k1:¬ (k:Int)<(n:Int):=by omega
   obtain rfl:k=n:=by omega
   go_wp2
   go_ret
   exact ⟨rfl,hbel⟩
noncomputable def zcT (xs ys:List Int):Bool:=isB xs&&decide ((0:Int)<(xs.length:Int))&&decide ((xs.length:Int)-(zcD xs ys xs.length:Int)<(zcD xs ys xs.length:Int))
theorem ziM {xs ys:List Int} (h:isB xs=false):zcT xs ys=false:=by simp [zcT,h]
theorem zg2 {xs ys:List Int} {n:Nat} (hn:xs.length=n) (h:n=0):zcT xs ys=false:=by
 have:¬ (0:Int)<(xs.length:Int):=by omega
 simp only [zcT,this,decide_false,Bool.and_false,Bool.false_and]
theorem zg1 {xs ys:List Int} {n:Nat} (hn:xs.length=n) (hp:0<n) (h:isB xs=true):zcT xs ys=decide ((n:Int)-(zcD xs ys n:Int)<(zcD xs ys n:Int)):=by
 subst hn
 have:(0:Int)<(xs.length:Int):=by omega
 simp only [zcT,h,this,decide_true,Bool.true_and]
set_option maxRecDepth 100000 in
theorem zki (a:Option Addr) (n ca:Nat) (xs:List Int) (b:Option Addr) (m cb:Nat) (ys:List Int) (w:World) (ha:IntSl w a n xs) (hb:IntSl w b m ys) :
  Calls Tryz.prog 208 #[.slice a n ca,.slice b m cb] w fun e w'=>e = .returned (.bool (zcT xs ys))∧Below w.heap.size w w':=by
 have hm:=ha.mx
 cases his:isB xs
 case false=>
  have HR:=Lib.hid (ziM (ys:=ys) his)
  have HI:=Lib.hid his
  clear his
  go_enter Tryz.func208,Tryz.ntmps208
  go_wp2_with fail
  refine (zcu _ _ _ xs _ ha).mono ?_
  rw [HI.out]
  rintro e w' ⟨rfl,q,rfl⟩
  go_wp2_with fail
  go_ret
  exact ⟨by rw [HR.out];rfl,by repeat (first | exact Below.refl _ _ | refine zb1 ?_ _ | refine Below.alloc ?_ (by simp<;>omega) _)⟩
 case true=>
  by_cases h0:n=0
  ·have HR:=Lib.hid (zg2 (ys:=ys) ha.len h0)
   have HI:=Lib.hid his
   clear his
   subst h0
   go_enter Tryz.func208,Tryz.ntmps208
   go_wp2_with fail
   refine (zcu _ _ _ xs _ ha).mono ?_
   rw [HI.out]
   rintro e w' ⟨rfl,q,rfl⟩
   go_wp2_with fail
   go_ret
   exact ⟨by rw [HR.out];rfl,by repeat (first | exact Below.refl _ _ | refine zb1 ?_ _ | refine Below.alloc ?_ (by simp<;>omega) _)⟩
  ·have hry:=zg1 (ys:=ys) ha.len (by omega) his
   have hle:=zfh xs ys n
   have HR:Hid (zcT xs ys=decide ((n:Int) / 2+1≤(zcD xs ys n:Int))):=by
    show _=_
    rw [hry];congr 1;simp only [eq_iff_iff];omega
   have HI:=Lib.hid his
   clear his hry
   have h0':(0:Int)<(n:Int):=by omega
   go_enter Tryz.func208,Tryz.ntmps208
   go_wp2_with fail
   refine (zcu _ _ _ xs _ ha).mono ?_
   rw [HI.out]
   rintro e w' ⟨rfl,q,rfl⟩
   go_wp2_with fail
   refine (zq0 _ _ _ xs _ _ _ ys _ (by repeat (first | assumption | apply IntSl.drewN | apply IntSl.alloc)) (by repeat (first | assumption | apply IntSl.drewN | apply IntSl.alloc))).mono ?_
   rintro e w1 ⟨rfl,hbel⟩
   go_wp2_with fail
   refine (zto _ _ (by omega) (by omega)).mono ?_
   rintro e w2 ⟨rfl,rfl⟩
   go_wp2_with fail
   go_ret
   exact ⟨by rw [HR.out];rfl,(zb1 (Below.refl _ _) _).trans hbel⟩
set_option maxRecDepth 100000 in
theorem ziF (a:Option Addr) (n ca:Nat) (xs:List Int) (b:Option Addr) (m cb:Nat) (ys:List Int) (w:World) (ha:IntSl w a n xs) (hb:IntSl w b m ys) :
  Calls Tryz.prog 209 #[.slice a n ca,.slice b m cb] w fun e w'=>e = .returned (.bool (zcT xs ys))∧Dr w w':=by
 have hm:=ha.mx
 go_enter Tryz.func209,Tryz.ntmps209
 go_wp2
 go_loop [5,6] (fun t i=>∃ k:Nat,k≤n∧i = .int .i64 k∧t = .int .i64 (zcD xs ys k)) (fun _ i=>n-(intOf i).toNat)
 case atStart=>exact ⟨0,Nat.zero_le _,rfl,rfl⟩
 case round=>
  obtain ⟨k,hk,rfl,rfl⟩:=hrel
  by_cases hlt:k<n
  ·have k0:(0:Int)≤(k:Int):=by omega
   have k1:(k:Int)<(n:Int):=by omega
   obtain ⟨ba,oa,rfl,_,hca⟩:=ha.row (by omega)
   have ca:=hca k (by omega)
   have hle:=zfh xs ys k
   have hsc:(zcD xs ys (k+1):Int)=zcD xs ys k+((hasB ys (el xs k)).toNat:Int):=by simp [zcD]
   have HSC:=Lib.hid hsc
   clear hca hsc
   cases hbool:hasB ys (el xs k)
   all_goals
    have HB:=Lib.hid hbool
    clear hbool
    go_wp2_with fail
    refine (zh4 _ _ _ ys _ _ hb).mono ?_
    rw [HB.out]
    rintro e w' ⟨rfl,rfl⟩
    go_wp2_with fail
    go_round
    case rel=>exact ⟨k+1,by omega,by go_num,by rw [HSC.out,HB.out];simp⟩
    case measure=>simp [intOf];omega
  ·have k1:¬ (k:Int)<(n:Int):=by omega
   obtain rfl:k=n:=by omega
   clear hk hlt
   cases his:isB xs
   case false=>
    have HR:=Lib.hid (ziM (ys:=ys) his)
    have HI:=Lib.hid his
    clear his
    go_wp2_with fail
    refine (zh3 _ _ _ xs _ ha).mono ?_
    rw [HI.out]
    rintro e w' ⟨rfl,q,rfl⟩
    go_wp2_with fail
    go_ret
    exact ⟨by rw [HR.out];rfl,⟨_,rfl⟩⟩
   case true=>
    by_cases h0:k=0
    ·have HR:=Lib.hid (zg2 (ys:=ys) ha.len h0)
     have HI:=Lib.hid his
     clear his
     subst h0
     go_wp2_with fail
     refine (zh3 _ _ _ xs _ ha).mono ?_
     rw [HI.out]
     rintro e w' ⟨rfl,q,rfl⟩
     go_wp2_with fail
     go_ret
     exact ⟨by rw [HR.out];rfl,⟨_,rfl⟩⟩
    ·have hry:=zg1 (ys:=ys) ha.len (by omega) his
     have hle:=zfh xs ys k
     have HR:=Lib.hid hry
     have HI:=Lib.hid his
     clear his hry
     have h0':(0:Int)<(k:Int):=by omega
     go_wp2_with fail
     refine (zh3 _ _ _ xs _ ha).mono ?_
     rw [HI.out]
     rintro e w' ⟨rfl,q,rfl⟩
     go_wp2_with fail
     refine (znk _ _ _ _ (by omega) (by omega) (by omega) rfl).mono ?_
     rintro e w2 ⟨rfl,rfl⟩
     go_wp2_with fail
     go_ret
     exact ⟨by rw [HR.out];rfl,⟨_,rfl⟩⟩
theorem zg4 (xs:List Int) (v:Int) (k:Nat) (hk:k≤xs.length):zd5 xs v k=(xs.take k).foldl (zbz v) ([],hasB xs v):=by
 induction k with
 | zero=>simp [zd5]
 | succ k ih=>
  have e:el xs k=xs[k]'(by omega):=by simp [el,show k<xs.length by omega]
  rw [zd5,ih (by omega),List.take_succ_eq_append_getElem (by omega),List.foldl_append,e];rfl
theorem zjz (v:Int) (l o:List Int):l.foldl (zbz v) (o,true)=(o++l,true):=by
 induction l generalizing o with
 | nil=>simp
 | cons x l ih=>rw [List.foldl_cons];simp only [zbz,reduceCtorEq,false_and,if_false];rw [ih];simp
def ins (v:Int):List Int→List Int
 | []=>[v]
 | x::l=>if v<x then v::x::l else x::ins v l
theorem znf (v:Int) (l o:List Int):(if (l.foldl (zbz v) (o,false)).2 then (l.foldl (zbz v) (o,false)).1 else (l.foldl (zbz v) (o,false)).1++[v])=o++ins v l:=by
 induction l generalizing o with
 | nil=>simp [ins]
 | cons x l ih=>
  rw [List.foldl_cons]
  by_cases h:v<x
  ·have e:zbz v (o,false) x=(o++[v]++[x],true):=by simp [zbz,h]
   rw [e,zjz];simp [ins,h]
  ·have e:zbz v (o,false) x=(o++[x],false):=by simp [zbz,h]
   rw [e,ih];simp [ins,h]
theorem zh5 {xs:List Int} {v:Int} (h:hasB xs v=true):putL xs v=xs:=by
 unfold putL
 rw [zg4 _ _ _ (Nat.le_refl _),h,List.take_length,zjz];simp
theorem zeX {xs:List Int} {v:Int} (h:hasB xs v=false):putL xs v=ins v xs:=by
 unfold putL
 rw [zg4 _ _ _ (Nat.le_refl _),h,List.take_length,znf];simp
theorem zpj (v:Int) (l:List Int):(ins v l).length=l.length+1:=by
 induction l with
 | nil=>rfl
 | cons x l ih=>unfold ins;split<;>simp [ih]
def Asc (l:List Int):Prop:=l.Pairwise (· < ·)
theorem zlf:∀ {a b:List Int},Asc a→Asc b→(∀ x,x∈a↔x∈b)→a=b
 | [],[],_,_,_=>rfl
 | [],y::b,_,_,h=>absurd ((h y).2 (by simp)) (by simp)
 | x::a,[],_,_,h=>absurd ((h x).1 (by simp)) (by simp)
 | x::a,y::b,ha,hb,h=>by
  have ha':=List.pairwise_cons.1 ha
  have hb':=List.pairwise_cons.1 hb
  have hxy:x=y:=by
   have h1:=(h x).1 (by simp)
   have h2:=(h y).2 (by simp)
   rcases List.mem_cons.1 h1 with e | h1
   ·exact e
   ·rcases List.mem_cons.1 h2 with e | h2
    ·exact e.symm
    ·have:=hb'.1 x h1;have:=ha'.1 y h2;omega
  subst hxy
  congr 1
  refine zlf ha'.2 hb'.2 fun z=>?_
  constructor
  ·intro hz
   have h1:=(h z).1 (List.mem_cons_of_mem _ hz)
   rcases List.mem_cons.1 h1 with e | h1
   ·subst e;exact absurd (ha'.1 z hz) (by omega)
   ·exact h1
  ·intro hz
   have h1:=(h z).2 (List.mem_cons_of_mem _ hz)
   rcases List.mem_cons.1 h1 with e | h1
   ·subst e;exact absurd (hb'.1 z hz) (by omega)
   ·exact h1
theorem zoo {xs:List Int} (h:zh2 xs xs.length):Asc xs:=by
 unfold Asc
 rw [List.pairwise_iff_getElem]
 intro i j hi hj hij
 induction j with
 | zero=>omega
 | succ j ih=>
  have h1:=h j (by omega)
  rw [zcf (by omega),zcf (by omega)] at h1
  by_cases e:i=j
  ·subst e;exact h1
  ·have:=ih (by omega) (by omega);omega
theorem zqO {xs:List Int} (h:Asc xs):zh2 xs xs.length:=by
 intro i hi
 rw [zcf (by omega),zcf hi]
 exact (List.pairwise_iff_getElem.1 h) i (i+1) (by omega) hi (by omega)
theorem isB_asc {xs:List Int}:isB xs=true↔Asc xs∧xs.length≤16:=by
 rw [zk1];exact ⟨fun h=>⟨zoo h.1,h.2⟩,fun h=>⟨zqO h.1,h.2⟩⟩
theorem keeps_iff {d:Array Int} {i:Nat}:Lib.keeps d i=true↔i=0∨d[i]! ≠ d[i-1]! := by simp [Lib.keeps]
theorem zkU {xs:List Int} (h:xs.Pairwise (· ≤ ·)):Asc (Lib.compact xs):=by
 unfold Asc Lib.compact Lib.compactUpTo
 rw [List.pairwise_map]
 have h1:((List.range xs.length).filter (Lib.keeps xs.toArray)).Pairwise (· < ·):=List.pairwise_lt_range.filter _
 refine h1.imp_of_mem fun {i j} hi hj hij=>?_
 have hi':=List.mem_filter.1 hi
 have hj':=List.mem_filter.1 hj
 have hil:=List.mem_range.1 hi'.1
 have hjl:=List.mem_range.1 hj'.1
 rcases keeps_iff.1 hj'.2 with e | e
 ·omega
 ·rw [getElem!_pos _ _ (by simpa using hjl),getElem!_pos _ _ (by simp;omega)] at e
  rw [getElem!_pos _ _ (by simpa using hil),getElem!_pos _ _ (by simpa using hjl)]
  simp only [List.getElem_toArray] at *
  have hp:=List.pairwise_iff_getElem.1 h
  have q1:xs[j-1]≤xs[j]:=hp (j-1) j (by omega) hjl (by omega)
  have q2:xs[i]≤xs[j-1]:=by
   by_cases e2:i=j-1
   ·subst e2;exact Int.le_refl _
   ·exact hp i (j-1) hil (by omega) (by omega)
  omega
theorem zfU {xs:List Int} {x:Int}:x∈Lib.compact xs↔x∈xs:=by
 refine ⟨zfV,fun h=>?_⟩
 have hlt:xs.findIdx (fun y=>y==x)<xs.length:=List.findIdx_lt_length_of_exists ⟨x,h,by simp⟩
 have hx:xs[xs.findIdx (fun y=>y==x)]=x:=by
  have:=List.findIdx_getElem (w:=hlt);simpa using this
 unfold Lib.compact Lib.compactUpTo
 refine List.mem_map.2 ⟨xs.findIdx (fun y=>y==x),List.mem_filter.2 ⟨List.mem_range.2 hlt,?_⟩,?_⟩
 ·rw [keeps_iff]
  by_cases h0:xs.findIdx (fun y=>y==x)=0
  ·exact .inl h0
  ·right
   rw [getElem!_pos _ _ (by simpa using hlt),getElem!_pos _ _ (by simp;omega)]
   simp only [List.getElem_toArray]
   rw [hx]
   have:=List.not_of_lt_findIdx (p:=fun y=>y==x) (xs:=xs) (i:=xs.findIdx (fun y=>y==x)-1) (by omega)
   simp at this
   exact fun e=>this e.symm
 ·rw [getElem!_pos _ _ (by simpa using hlt)];simpa using hx
theorem zi8 (xs:List Int):(zer xs).Pairwise (· ≤ ·):=by
 have:=List.pairwise_mergeSort (le:=fun x y:Int=>decide (x≤y)) (fun a b c=>by simp;omega) (fun a b=>by simp;omega) xs
 exact this.imp (by simp)
theorem zgB (xs:List Int):Asc (zaR xs):=zkU (zi8 xs)
theorem mergeL_mem {xs:List Int} {x:Int}:x∈zaR xs↔x∈xs:=by
 unfold zaR;rw [zfU];exact (List.mergeSort_perm xs _).mem_iff
theorem ins_mem {v x:Int} {l:List Int}:x∈ins v l↔x=v∨x∈l:=by
 induction l with
 | nil=>simp [ins]
 | cons y l ih=>
  unfold ins
  split
  ·simp
  ·simp [ih,or_left_comm]
theorem zu2 {v:Int} {l:List Int} (h:Asc l) (hv:v∉l):Asc (ins v l):=by
 induction l with
 | nil=>simp [ins,Asc]
 | cons y l ih=>
  have h':=List.pairwise_cons.1 h
  unfold ins
  split
  ·rename_i hlt
   refine List.pairwise_cons.2 ⟨fun z hz=>?_,h⟩
   rcases List.mem_cons.1 hz with rfl | hz
   ·exact hlt
   ·have:=h'.1 z hz;omega
  ·rename_i hlt
   refine List.pairwise_cons.2 ⟨fun z hz=>?_,ih h'.2 (fun hm=>hv (List.mem_cons_of_mem _ hm))⟩
   rcases ins_mem.1 hz with rfl | hz
   ·have:z≠y:=fun e=>hv (by simp [e]);omega
   ·exact h'.1 z hz
theorem hasB_iff {xs:List Int} {v:Int}:hasB xs v=true↔v∈xs:=by simp [hasB]
theorem hasB_not {xs:List Int} {v:Int}:hasB xs v=false↔v∉xs:=by simp [hasB]
theorem putL_mem {xs:List Int} {v x:Int}:x∈putL xs v↔x=v∨x∈xs:=by
 cases h:hasB xs v
 ·rw [zeX h,ins_mem]
 ·rw [zh5 h]
  have:=hasB_iff.1 h
  exact ⟨.inr,fun e=>e.elim (fun e=>e▸this) id⟩
theorem zcc {xs:List Int} {v:Int} (h:Asc xs):Asc (putL xs v):=by
 cases hb:hasB xs v
 ·rw [zeX hb];exact zu2 h (hasB_not.1 hb)
 ·rw [zh5 hb];exact h
theorem zmW {xs:List Int} {v:Int} (h:Asc xs):zaR (xs++[v])=putL xs v:=
 zlf (zgB _) (zcc h) fun x=>by rw [mergeL_mem,putL_mem];simp [or_comm]
def zaM (xs:List Int) (ys:List Int):List Int:=ys.foldl putL xs
theorem zg5 {xs ys:List Int} {x:Int}:x∈zaM xs ys↔x∈xs∨x∈ys:=by
 induction ys generalizing xs with
 | nil=>simp [zaM]
 | cons y ys ih=>
  show x∈zaM (putL xs y) ys↔_
  rw [ih,putL_mem]
  simp [or_assoc,or_left_comm]
theorem zez {xs ys:List Int} (h:Asc xs):Asc (zaM xs ys):=by
 induction ys generalizing xs with
 | nil=>exact h
 | cons y ys ih=>exact ih (zcc h)
theorem zhA {xs ys:List Int} (h:Asc xs):zaR (xs++ys)=zaM xs ys:=
 zlf (zgB _) (zez h) fun x=>by rw [mergeL_mem,zg5];simp
noncomputable def zbX (xs:List Int) (v:Int):Int×List Int:=if isB xs then (0,zay xs v) else (1,[])
noncomputable def cutR (l:List Int):Int×List Int:=if l.length≤16 then (0,l) else (2,[])
noncomputable def zi0 (xs:List Int) (v:Int):Int×List Int:=if isB xs then cutR (putL xs v) else (1,[])
noncomputable def zjP (xs ys:List Int):Int×List Int:=if isB xs=true∧isB ys=true then cutR (zaR (xs++ys)) else (1,[])
theorem zfS (l:List Int):(l.length≤16∧(cutR l).1=0∧(cutR l).2=l)∨(16<l.length∧(cutR l).1=2∧(cutR l).2=[]):=by
 unfold cutR
 by_cases h:l.length≤16
 ·left;simp [h]
 ·right;simp [h];omega
theorem znC (a:Option Addr) (n c:Nat) (xs:List Int) (v:Int) (w:World) (ha:IntSl w a n xs) (hn:n≤1099511627776) :
  Calls Tryz.prog 133 #[.slice a n c,.int .i64 v] w (zbF w (zbX xs v).1 (zbX xs v).2):=by
 unfold zbX
 cases hi:isB xs
 ·exact zmG a n c xs v w ha hn hi
 ·exact zjX a n c xs v w ha hn hi
theorem ztP (a:Option Addr) (n c:Nat) (xs:List Int) (v:Int) (w:World) (ha:IntSl w a n xs) (hi:isB xs=false) :
  Calls Tryz.prog 169 #[.slice a n c,.int .i64 v] w (zbF w 1 []):=by
 have HI:=Lib.hid hi
 clear hi
 go_enter Tryz.func169,Tryz.ntmps169
 go_wp2_with fail
 refine (zcu _ _ _ xs _ ha).mono ?_
 rw [HI.out]
 rintro e w1 ⟨rfl,q,rfl⟩
 go_wp2_with fail
 go_ret2
 exact ⟨_,rfl,OwnI.nil _ _,zb1 (Below.refl _ _) _⟩
theorem zqV (a:Option Addr) (n c:Nat) (xs:List Int) (v:Int) (w:World) (ha:IntSl w a n xs) (hna:a=none→c=0) (hn:n≤1099511627776) (hv : -9223372036854775808≤v∧v≤9223372036854775807) (hi:isB xs=true) (code:Int) (l:List Int)
  (hcl:((zaR (xs++[v])).length≤16∧code=0∧l=zaR (xs++[v]))∨(16<(zaR (xs++[v])).length∧code=2∧l=[])) :
  Calls Tryz.prog 169 #[.slice a n c,.int .i64 v] w (zbF w code l):=by
 have HI:=Lib.hid hi
 have HC:=Lib.hid hcl
 have HV:=Lib.hid hv
 clear hi hcl hv
 go_enter Tryz.func169,Tryz.ntmps169
 go_wp2_with fail
 refine (zcu _ _ _ xs _ ha).mono ?_
 rw [HI.out]
 rintro e w1 ⟨rfl,q,rfl⟩
 go_wp2_with fail
 refine (zg8 (w.heap.size+1) a n c xs (some ⟨w.heap.size,0,none⟩) 1 1 [v] _ ?_ ?_ ?_ ?_ ?_ hna ?_ hn ?_ code l HC.out).mono ?_
 ·exact World.cell?_alloc_at _ _ _ _ (by simp)
 ·exact World.cell?_alloc_at _ _ _ _ (by simp)
 ·simp
 ·repeat (first | assumption | apply IntSl.drewN | apply IntSl.alloc)
 ·have h1:=IntSl.lit w [v] 3 (by simp) (by simpa using HV.out)
  exact (h1.alloc _).drewN _
 ·simp
 ·omega
 rintro e w2 ⟨v2,rfl,ho2,hb2⟩
 go_wp2_with fail
 go_ret2
 have hs:=hb2.size
 simp at hs
 exact ⟨_,rfl,ho2.mono (by simp;omega),(by repeat (first | exact Below.refl _ _ | refine zb1 ?_ _ | refine Below.alloc ?_ (by simp<;>omega) _):Below w.heap.size w _).trans (hb2.mono (by simp;omega))⟩
theorem zv8 (a:Option Addr) (n c:Nat) (xs:List Int) (v:Int) (w:World) (ha:IntSl w a n xs) (hna:a=none→c=0) (hn:n≤1099511627776) (hv : -9223372036854775808≤v∧v≤9223372036854775807) :
  Calls Tryz.prog 169 #[.slice a n c,.int .i64 v] w (zbF w (zi0 xs v).1 (zi0 xs v).2):=by
 unfold zi0
 cases hi:isB xs
 ·exact ztP a n c xs v w ha hi
 ·have e:=zmW (v:=v) (isB_asc.1 hi).1
  rw [if_pos rfl]
  exact zqV a n c xs v w ha hna hn hv hi _ _ (by rw [e];exact zfS _)
theorem zwj (xs ys:List Int) (h:¬ (isB xs=true∧isB ys=true)):isB xs=false∨(isB xs=true∧isB ys=false):=by
 cases h1:isB xs
 ·exact .inl rfl
 ·cases h2:isB ys
  ·exact .inr ⟨rfl,rfl⟩
  ·exact absurd ⟨h1,h2⟩ h
theorem zvz (a:Option Addr) (n ca:Nat) (xs:List Int) (b:Option Addr) (m cb:Nat) (ys:List Int) (w:World) (ha:IntSl w a n xs) (hb:IntSl w b m ys) (h:¬ (isB xs=true∧isB ys=true)) :
  Calls Tryz.prog 181 #[.slice a n ca,.slice b m cb] w (zbF w 1 []):=by
 rcases zwj xs ys h with h1 | ⟨h1,h2⟩
 ·have H1:=Lib.hid h1
  clear h h1
  go_enter Tryz.func181,Tryz.ntmps181
  go_wp2_with fail
  refine (zcu _ _ _ xs _ ha).mono ?_
  rw [H1.out]
  rintro e w1 ⟨rfl,q,rfl⟩
  go_wp2_with fail
  go_ret2
  exact ⟨_,rfl,OwnI.nil _ _,zb1 (Below.refl _ _) _⟩
 ·have H1:=Lib.hid h1
  have H2:=Lib.hid h2
  clear h h1 h2
  go_enter Tryz.func181,Tryz.ntmps181
  go_wp2_with fail
  refine (zcu _ _ _ xs _ ha).mono ?_
  rw [H1.out]
  rintro e w1 ⟨rfl,q,rfl⟩
  go_wp2_with fail
  refine (zcu _ _ _ ys _ (hb.drewN _)).mono ?_
  rw [H2.out]
  rintro e w2 ⟨rfl,q2,rfl⟩
  go_wp2_with fail
  go_ret2
  exact ⟨_,rfl,OwnI.nil _ _,by repeat (first | exact Below.refl _ _ | refine zb1 ?_ _)⟩
theorem zsZ (a:Option Addr) (n ca:Nat) (xs:List Int) (b:Option Addr) (m cb:Nat) (ys:List Int) (w:World) (ha:IntSl w a n xs) (hb:IntSl w b m ys) (hna:a=none→ca=0) (hnb:b=none→cb=0) (hn:n≤1099511627776) (hm:m≤1099511627776) (h1:isB xs=true) (h2:isB ys=true) (code:Int) (l:List Int)
  (hcl:((zaR (xs++ys)).length≤16∧code=0∧l=zaR (xs++ys))∨(16<(zaR (xs++ys)).length∧code=2∧l=[])) :
  Calls Tryz.prog 181 #[.slice a n ca,.slice b m cb] w (zbF w code l):=by
 have H1:=Lib.hid h1
 have H2:=Lib.hid h2
 have HC:=Lib.hid hcl
 clear h1 h2 hcl
 go_enter Tryz.func181,Tryz.ntmps181
 go_wp2_with fail
 refine (zcu _ _ _ xs _ ha).mono ?_
 rw [H1.out]
 rintro e w1 ⟨rfl,q,rfl⟩
 go_wp2_with fail
 refine (zcu _ _ _ ys _ (hb.drewN _)).mono ?_
 rw [H2.out]
 rintro e w2 ⟨rfl,q2,rfl⟩
 go_wp2_with fail
 refine (zg8 w.heap.size a n ca xs b m cb ys _ ?_ ?_ ?_ ?_ ?_ hna hnb hn hm code l HC.out).mono ?_
 ·exact World.cell?_alloc_at _ _ _ _ (by simp)
 ·exact World.cell?_alloc_at _ _ _ _ (by simp)
 ·simp
 ·repeat (first | assumption | apply IntSl.drewN | apply IntSl.alloc)
 ·repeat (first | assumption | apply IntSl.drewN | apply IntSl.alloc)
 rintro e w3 ⟨v2,rfl,ho2,hb2⟩
 go_wp2_with fail
 go_ret2
 have hs:=hb2.size
 simp at hs
 exact ⟨_,rfl,ho2.mono (by simp),(by repeat (first | exact Below.refl _ _ | refine zb1 ?_ _ | refine Below.alloc ?_ (by simp<;>omega) _):Below w.heap.size w _).trans (hb2.mono (by simp))⟩
theorem zwI (a:Option Addr) (n ca:Nat) (xs:List Int) (b:Option Addr) (m cb:Nat) (ys:List Int) (w:World) (ha:IntSl w a n xs) (hb:IntSl w b m ys) (hna:a=none→ca=0) (hnb:b=none→cb=0) (hn:n≤1099511627776) (hm:m≤1099511627776) :
  Calls Tryz.prog 181 #[.slice a n ca,.slice b m cb] w (zbF w (zjP xs ys).1 (zjP xs ys).2):=by
 unfold zjP
 by_cases h:isB xs=true∧isB ys=true
 ·rw [if_pos h];exact zsZ a n ca xs b m cb ys w ha hb hna hnb hn hm h.1 h.2 _ _ (zfS _)
 ·rw [if_neg h];exact zvz a n ca xs b m cb ys w ha hb h
theorem zeY (xs:List Int) (v:Int):(putL xs v).length≤xs.length+1:=by
 cases h:hasB xs v
 ·rw [zeX h,zpj];exact Nat.le_refl _
 ·rw [zh5 h];omega
theorem zey (xs ys:List Int):(zaM xs ys).length≤xs.length+ys.length:=by
 induction ys generalizing xs with
 | nil=>simp [zaM]
 | cons y ys ih=>
  have h1:=ih (putL xs y)
  have h2:=zeY xs y
  show (zaM (putL xs y) ys).length≤_
  simp only [List.length_cons];omega
theorem zta {xs ys:List Int} (hx:∀ x∈xs,-9223372036854775808≤x∧x≤9223372036854775807) (hy:∀ x∈ys,-9223372036854775808≤x∧x≤9223372036854775807):∀ x∈(zjP xs ys).2,-9223372036854775808≤x∧x≤9223372036854775807:=by
 unfold zjP
 split
 ·rcases zfS (zaR (xs++ys)) with ⟨_,_,e⟩ | ⟨_,_,e⟩
  ·rw [e]
   intro x h
   rcases List.mem_append.1 (mergeL_mem.1 h) with h | h
   ·exact hx x h
   ·exact hy x h
  ·rw [e];simp
 ·simp
end Go.Proofs.YteabcgkjbnecaaaGreat
namespace Go.Proofs.YteabcgkjbnecaaaGreat
open Go.RowKit Go.Sort
def cmpD (x y:Int):Int:=if y<x then -1 else if x<y then 1 else 0
theorem ltD (x y:Int):ltOf cmpD x y=decide (y<x):=by
 unfold ltOf cmpD
 by_cases h1:y<x
 ·simp [h1]
 ·by_cases h2:x<y<;>simp [h1,h2]
theorem swoD:SWO (ltOf cmpD) where
 irrefl x:=by rw [ltD];simp
 trans x y z h1 h2:=by rw [ltD] at *;simp at *;omega
 ntrans x y z h1 h2:=by rw [ltD] at *;simp at *;omega
theorem zni (x y:Int) (w:World) :
  Calls Tryz.prog 216 #[.int .i64 x,.int .i64 y] w fun e w'=>e = .returned (.int .i64 (cmpD x y))∧w=w':=by
 unfold cmpD
 by_cases h1:y<x
 ·rw [if_pos h1]
  go_enter Tryz.func216,Tryz.ntmps216
  go_wp2
  go_ret
  exact ⟨rfl,rfl⟩
 ·rw [if_neg h1]
  by_cases h2:x<y
  ·rw [if_pos h2]
   go_enter Tryz.func216,Tryz.ntmps216
   go_wp2
   go_ret
   exact ⟨rfl,rfl⟩
  ·rw [if_neg h2]
   go_enter Tryz.func216,Tryz.ntmps216
   go_wp2
   go_ret
   exact ⟨rfl,rfl⟩
def zeh (xs:List Int):List Int:=xs.mergeSort fun x y=>!(ltOf cmpD) y x
theorem zi9 (base:Nat) (a:Option Addr) (n c:Nat) (xs:List Int) (w:World) (ho:OwnI base w (.slice a n c) xs) (hl:n<4611686018427387904) :
    Calls Tryz.prog 204 #[.slice a n c,.func (.func 216) #[] #[]] w (zmD base w (.slice a n c) (zeh xs)):=by
  have eg:∀ args w,(callFunc 216 args).run Tryz.prog w = .ok (.enter 216 args) w:=enters_of Tryz.func216 (by kernel_rfl) rfl
  by_cases h0:xs=[]
  · subst h0
    have hn:n=0:=by
      obtain ⟨h1,⟨hh,h2⟩ | ⟨g,cap,cur,hv,hg,hh,r⟩⟩:=ho
      · simp at hh;omega
      · simp at hv;omega
    subst hn
    have hcon:=AnyF.slices_SortFunc_none {Tryz.laysSortF with} a c (.func (.func 216) #[] #[]) w
    change Calls Tryz.prog 204 _ _ _ at hcon
    refine hcon.mono ?_
    rintro e w' ⟨rfl,rfl⟩
    exact ⟨rfl,by simpa [zeh] using ho,World.grownBy.refl _ _⟩
  · cases a with
    | none => exfalso
              obtain ⟨h1,⟨hh,h2⟩ | ⟨g,cap,cur,hv,_⟩⟩:=ho
              · exact h0 (List.eq_nil_of_length_eq_zero h2)
              · simp at hv
    | some ad=>
      obtain ⟨h1,⟨hh,h2⟩ | ⟨g,cap,cur,hv,hg,hh,hle,hm,hs,ht⟩⟩:=ho
      · simp at hh
      · simp only [Value.slice.injEq,Option.some.injEq] at hv
        obtain ⟨rfl,rfl,rfl⟩:=hv
        rw [Nat.mul_one] at ht
        have hH:=holds_of_blockI hh ht
        have hcmp:CmpReads Tryz.prog 216 #[] (Value.int .i64) cmpD g 0 xs.toArray.size w:=fun m os dk _ x y=>(zni x y _).mono fun e w' ⟨he,hw⟩=>⟨he,0,by rw [← hw];rfl⟩
        have hcon:=Any.slices_SortFunc_total Tryz.laysSortF (Value.int .i64) (fun _=>rfl) cmpD swoD 216 #[] g 0 c xs.toArray w eg hcmp.lays hH (Array.getElem?_eq_some_iff.1 hh).1 (by simpa using hl) (fun x y h1 h2=>by rw [ltD] at *;simp at *;omega)
        change Calls Tryz.prog 204 _ _ _ at hcon
        rw [List.size_toArray] at hcon
        refine hcon.mono ?_
        rintro e w' ⟨rfl,n,os,rfl⟩
        have e1:(zeh xs).length=xs.length:=by simp [zeh]
        have:=ownsRow_sortedI (n:=n) (os:=os) (ss:=xs) (ts:=zeh xs) e1 hg hh hle hm hs
        refine ⟨rfl,?_,?_⟩
        · show World.ownsRow _ _ _ _ _ _ _
          rw [e1];exact this
        · exact grownBy_sortedI (n:=n) (os:=os) (zeh xs).toArray
theorem zp4 (w:World) :
  Calls Tryz.prog 205 #[] w fun e w'=>e = .returned (.agg #[.func (.func 216) #[] #[]])∧Below w.heap.size w w':=by
 go_enter Tryz.func205,Tryz.ntmps205
 go_wp2
 refine bodyPost_ret (v:= .agg #[.func (.func 216) #[] #[]]) (by simp [results,Tryz.results205,go_sem]) rfl ⟨rfl,?_⟩
 exact (Below.refl _ _).alloc (Nat.le_refl _) _
def zmK (xs:List Int):Int:=el (zeh xs) (xs.length / 2)
theorem zru (a:Option Addr) (c:Nat) (w:World):Calls Tryz.prog 165 #[.slice a 0 c] w fun e w'=>e = .returned (.tuple #[.int .i64 0,.int .i64 1])∧w=w':=by
 go_enter Tryz.func165,Tryz.ntmps165
 go_wp2
 go_ret2
 exact ⟨rfl,rfl⟩
theorem zsC {xs:List Int} (h:∀ x∈xs,-9223372036854775808≤x∧x≤9223372036854775807):∀ x∈zeh xs,-9223372036854775808≤x∧x≤9223372036854775807:=
 fun x hx=>h x ((List.mergeSort_perm xs _).mem_iff.1 hx)
theorem zrv (a:Option Addr) (n c:Nat) (xs:List Int) (w:World) (ha:IntSl w a n xs) (hn:n≤1099511627776) (hp:0<n) :
  Calls Tryz.prog 165 #[.slice a n c] w fun e w'=>e = .returned (.tuple #[.int .i64 (zmK xs),.int .i64 0])∧Below w.heap.size w w':=by
 have hm:=ha.mx
 have hbd:=Lib.hid ha.bd
 have hlen:=Lib.hid ha.len
 have hdl:=Lib.hid (show (zeh xs).length=n by simp [zeh,ha.len])
 have t1:((n:Int)==0)=false:=by simp;omega
 have hsu:=Lib.hid (show el (zeh xs) (n / 2)=zmK xs by unfold zmK;rw [ha.len])
 go_enter Tryz.func165,Tryz.ntmps165
 go_wp2_with fail
 refine (zn4 _ _ _ xs _ ha hn).mono ?_
 rintro e w1 ⟨v1,rfl,ho1,B1⟩
 obtain ⟨a1,c1,rfl,hs1⟩:=ho1.sl hbd.out
 rw [hlen.out] at ho1
 have HO1:=Lib.hid ho1
 have z1:=B1.size
 clear ho1 hs1
 have hl2:xs.length=n:=hlen.out
 clear hl2
 rw [hlen.out]
 go_wp2_with fail
 have hfld:∀ w,(Instr.field 209 (.agg #[.func (.func 216) #[] #[]]) 0).run Tryz.prog w = .ok (.func (.func 216) #[] #[]) w:=fun _=>by kernel_rfl
 refine (zp4 _).mono ?_
 rintro e w2 ⟨rfl,B2'⟩
 have B2:=B1.trans (B2'.mono B1.size)
 have HO2:=Lib.hid (HO1.out.below B2' (Nat.le_refl _))
 go_wp2_with fail
 refine (zi9 w.heap.size _ _ _ xs _ HO2.out (by omega)).mono ?_
 rintro e w3 ⟨rfl,ho3,hg3⟩
 have B3:=HO2.out.bel B2 hg3 B2.size
 obtain ⟨a3,c3,ev,hs3⟩:=ho3.sl (zsC hbd.out)
 rw [hdl.out] at ev hs3
 obtain ⟨rfl,rfl⟩:a1=a3∧c1=c3:=by simpa using ev
 clear ev ho3 hg3
 obtain ⟨ba,oa,rfl,hba,hca⟩:=hs3.row hp
 have hcell:w3.cell? ⟨ba,oa+n / 2,none⟩=some (.int .i64 (zmK xs)):=by rw [← hsu.out];exact hca (n / 2) (by omega)
 clear hca
 go_wp2_with fail
 refine (zto _ _ (by omega) (by omega)).mono ?_
 rintro e w4 ⟨rfl,rfl⟩
 have q1:(0:Int)≤(n:Int) / 2:=by omega
 have q2:(n:Int) / 2<(n:Int):=by omega
 go_wp2_with fail
 go_ret2
 exact ⟨rfl,B3⟩
end Go.Proofs.YteabcgkjbnecaaaGreat
namespace Go.Proofs.YteabcgkjbnecaaaGreat
open Go.RowKit Go.ChangeShapes Go.WideShapes Go.Deep
theorem IntSl.ofSl {w:World} {S:Nat→Prop} {a:Option Addr} {n c:Nat} {xs:List Int} (h:SlI w S a n c xs):IntSl w a n xs:=by
 have hl:=h.len
 rw [zat] at hl
 have hb:=h.bd
 have hx:=SlI.i64 h
 have hi:∀ i,I64 (el xs i):=fun i=>by
  by_cases hi:i<xs.length
  ·have e:el xs i=xs[i]:=by simp [el,hi]
   rw [e];exact hx _ (List.getElem_mem hi)
  ·have e:el xs i=0:=by simp [el,List.getElem?_eq_none (Nat.not_lt.1 hi)]
   rw [e];exact ⟨by decide,by decide⟩
 refine ⟨hl,by omega,fun hp=>?_,fun i=>(hi i).1,fun i=>(hi i).2⟩
 obtain ⟨b,off,rfl⟩:=h.addr hp
 obtain ⟨hlt,_⟩:=SlI.cell h hp
 exact ⟨b,off,rfl,hlt,fun i hi=>(SlI.cell h hi).2.1⟩
theorem zkq {w:World} {S:Nat→Prop} {a:Option Addr} {n c:Nat} {xs:List Int} (h:SlI w S a n c xs):a=none→c=0:=fun e=>(h.bd.2.2.2 e).2
theorem OwnI.toR {base:Nat} {w:World} {v:Value} {xs:List Int} (h:OwnI base w v xs) (hx:∀ x∈xs,I64 x) (S:Nat→Prop):OwnR base w 3 S [.int .i64] v (ints xs):=by
 refine ⟨xs.map (Value.int .i64),by rw [zat];exact h,fun i hi=>?_⟩
 rw [zat] at hi
 have e1:(((xs.map (Value.int .i64)).drop (i*1)).take 1)=[.int .i64 (xs[i])]:=by
  rw [Nat.mul_one,List.drop_eq_getElem_cons (by simpa using hi)];simp
 have e2:(ints xs).getD i []=[.int xs[i]]:=by simp [ints,List.getD,hi]
 show RdL _ _ [.int .i64] (((xs.map (Value.int .i64)).drop (i*1)).take 1) _
 rw [e1,e2]
 exact ⟨.ofI64 (hx _ (List.getElem_mem hi)),trivial⟩
theorem zlN {w w':World} {v:Value} {l:List Int} (ho:OwnI w.heap.size w' v l) (hx:∀ x∈l,I64 x) (hl:l.length≤17592186044416) {E':Env} (hs:∀ b,w.heap.size≤b→b<w'.heap.size→E'.σ 1 b):DenV E' w' (.sl [1] (.rInts l)) v:=by
 have ho2:=ho.toR hx (fun _=>False)
 obtain ⟨a,c,e,hr⟩:=ho2.slO (E'.set [1]) (fun b h=>h.elim) (fun b h1 h2=>⟨1,by simp,hs b h1 (ho2.lt b h2).2⟩) (by rw [zat];exact hl)
 rw [e];exact hr
theorem FnC.of_ownS {P:Program} {f:FuncId} {ins:List SV} {l:List Int} (hB:FnB P f) (h:∀ (w:World) (E:Env) (vals:List Value),DenL E w ins vals→((∀ x∈l,I64 x)∧l.length≤17592186044416)∧Calls P f vals.toArray w (zdH w l)):FnC P f ins (.sl [1] (.rInts l)) D2:=
 FnC.of_below hB fun w E vals hd=>(h w E vals hd).2.mono (by
  rintro e w' ⟨v,rfl,ho,hb⟩
  exact ⟨v,rfl,hb,fun E' _ hs=>zlN ho (h w E vals hd).1.1 (h w E vals hd).1.2 hs⟩)
theorem FnC.of_setS {P:Program} {f:FuncId} {ins:List SV} {l:List Int} {n:Int} (hB:FnB P f) (hn:(Lit.int .i64 n).wf=true) (h:∀ (w:World) (E:Env) (vals:List Value),DenL E w ins vals→((∀ x∈l,I64 x)∧l.length≤17592186044416)∧Calls P f vals.toArray w (zbF w n l)):FnC P f ins (.tup [.sl [1] (.rInts l),.int .i64 n]) D2:=
 FnC.of_below hB fun w E vals hd=>(h w E vals hd).2.mono (by
  rintro e w' ⟨v,rfl,ho,hb⟩
  exact ⟨_,rfl,hb,fun E' _ hs=>⟨[v,.int .i64 n],rfl,zlN ho (h w E vals hd).1.1 (h w E vals hd).1.2 hs,⟨rfl,hn⟩,trivial⟩⟩)
abbrev D3i (l:List Int):List BE:=[.dead,.dead,.row 3 [] (.rInts l)]
theorem zoO {E:Env} {w w':World} {v:Value} {l:List Int} (hm:MemOk w.heap.size (cxIn E D2 1) w E (mOf D2) w) (hb:Below w.heap.size w w') (ho:OwnI w.heap.size w' v l) (hx:∀ x∈l,I64 x) :
  ∃ E',E'.β 2=some v∧v.oneCell'=true∧MemOk w.heap.size (cxIn E D2 1) w E' (mOf (D3i l)) w':=by
 have ho2:=ho.toR hx (fun _=>False)
 obtain ⟨a,c,ef⟩:=ho2.form
 have hl:∀ t,(mOf D2 t).live=false:=by intro t;rw [mD2];split<;>rfl
 have hlab:∀ i b,E.σ i b→b<w.heap.size:=fun i b h=>(hm.lab i b h).1
 have h1:MemOk w.heap.size (cxIn E D2 1) w E (mOf D2) w':=by
  refine ⟨hm.empty,fun t T vs ht=>?_,fun t T ls r ht=>?_,fun i b hb'=>⟨Nat.lt_of_lt_of_le (hlab i b hb') hb.size,(hm.lab i b hb').2⟩,hm.dis,hm.low,fun t b hh=>absurd hh zeE,hm.old,fun t u b h1=>absurd h1 zeE,hm.keep,⟨hb.os,hb.tape,hb.output,hb.size,fun b h1 _=>hb.block b h1⟩,hb.size,fun t o ht=>(by have:=hl t;rw [ht] at this;cases this)⟩
  ·have:=hl t;rw [ht] at this;cases this
  ·have:=hl t;rw [ht] at this;cases this
 have hE2:mOf D2 2 = .empty:=by rw [mD2];rfl
 have h2:=h1.take (w':=w') hE2 v (.row 3 [] (.rInts l)) (by simp) (Nat.le_refl _) (fun _ _=>rfl) (BelowX.refl _ _ _) (fun b hv=>?_) ?_
 ·refine ⟨E.setβ 2 v,(by show (if 2=2 then some v else E.β 2)=some v;rw [if_pos rfl]),by rw [ef];rfl,?_⟩
  have e:upd (mOf D2) 2 (.row 3 [] (.rInts l))=mOf (D3i l):=by
   funext t
   match t with
   | 0=>rfl
   | 1=>rfl
   | 2=>rfl
   | t+3=>rw [zbm _ _ (by omega),mD2,if_neg (by omega),zd9];simp [List.getD]
  rw [← e];exact h2
 ·have hb2:=ho2.lt b (by rw [za9 ⟨a,_,c,ef⟩];exact hv)
  exact ⟨fun ⟨i,hi⟩=>by have:=hlab i b hi;omega,fun t=>zeE,.inl hb2.1⟩
 ·exact ho2.mono (Nat.zero_le _) (fun b h=>h.elim)
theorem FnC.of_ownR {P:Program} {f:FuncId} {ins:List SV} {l:List Int} (hB:FnB P f) (h:∀ (w:World) (E:Env) (vals:List Value),DenL E w ins vals→(∀ x∈l,I64 x)∧Calls P f vals.toArray w (zdH w l)):FnC P f ins (.own 2) (D3i l):=by
 refine ⟨hB,fun w E vals hm hd=>(h w E vals hd).2.mono ?_⟩
 rintro e w' ⟨v,rfl,ho,hb⟩
 obtain ⟨E',h1,h2,h3⟩:=zoO hm hb ho (h w E vals hd).1
 exact ⟨v,E',rfl,⟨h1,h2⟩,h3⟩
theorem FnC.of_setR {P:Program} {f:FuncId} {ins:List SV} {l:List Int} {n:Int} (hB:FnB P f) (hn:(Lit.int .i64 n).wf=true) (h:∀ (w:World) (E:Env) (vals:List Value),DenL E w ins vals→(∀ x∈l,I64 x)∧Calls P f vals.toArray w (zbF w n l)):FnC P f ins (.tup [.own 2,.int .i64 n]) (D3i l):=by
 refine ⟨hB,fun w E vals hm hd=>(h w E vals hd).2.mono ?_⟩
 rintro e w' ⟨v,rfl,ho,hb⟩
 obtain ⟨E',h1,h2,h3⟩:=zoO hm hb ho (h w E vals hd).1
 exact ⟨_,E',rfl,⟨[v,.int .i64 n],rfl,⟨h1,h2⟩,⟨rfl,hn⟩,trivial⟩,h3⟩
theorem zaZ {E:Env} {w:World} {l:List Int} {v:Value} (h:DenV E w (dInts.can l) v):∃ a c,v = .slice a l.length c∧SlI w (E.set [0]) a l.length c l:=by
 have h:Rd w (E.set [0]) (.sl [.int .i64]) v (.sl (ints l)):=h
 obtain ⟨a,c,rfl,hs⟩:=h.sl'
 rw [zat] at hs
 exact ⟨a,c,by rw [zat],hs⟩
theorem zpi {E:Env} {w:World} {n:Int} {v:Value} (h:DenV E w (dInt.can n) v):v = .int .i64 n∧I64 n:=⟨h.1,zoX h.2⟩
def isC (l:List Int):Bool:=decide (l.Pairwise (· < ·))&&decide (l.length≤16)
theorem zdb (l:List Int):isB l=isC l:=by
 rw [Bool.eq_iff_iff,isB_asc,isC,Bool.and_eq_true,decide_eq_true_eq,decide_eq_true_eq];rfl
theorem isC_iff {l:List Int}:isC l=true↔Asc l∧l.length≤16:=by rw [← zdb,isB_asc]
def zcq (xs ys:List Int):Bool:=isC xs&&decide ((0:Int)<(xs.length:Int))&&decide ((xs.length:Int)-(zcD xs ys xs.length:Int)<(zcD xs ys xs.length:Int))
theorem zlI (xs ys:List Int):zcT xs ys=zcq xs ys:=by rw [zcT,zcq,zdb]
def zcm (xs:List Int) (v:Int):List Int:=if isC xs then (if (putL xs v).length≤16 then putL xs v else []) else []
theorem ztQ (xs:List Int) (v:Int):(zi0 xs v).2=zcm xs v:=by
 rw [zi0,zcm,zdb]
 split
 ·rw [cutR];split<;>rfl
 ·rfl
def zbg (xs:List Int) (v:Int):List Int:=if isC xs then zay xs v else []
theorem zmH (xs:List Int) (v:Int):(zbX xs v).2=zbg xs v:=by
 rw [zbX,zbg,zdb];split<;>rfl
def zcL (xs ys:List Int):Int×List Int:=if isC xs&&isC ys then (if (zaM xs ys).length≤16 then (0,zaM xs ys) else (2,[])) else (1,[])
theorem zqH (xs ys:List Int):zjP xs ys=zcL xs ys:=by
 rw [zjP,zcL,zdb,zdb]
 by_cases h:isC xs=true∧isC ys=true
 ·have e:=zhA (ys:=ys) (isC_iff.1 h.1).1
  rw [if_pos h,cutR,e,h.1,h.2];rfl
 ·rw [if_neg h,if_neg (by simpa using h)]
def insD (x:Int):List Int→List Int
 | []=>[x]
 | y::l=>if y≤x then x::y::l else y::insD x l
def zjZ:List Int→List Int
 | []=>[]
 | x::l=>insD x (zjZ l)
theorem zfB (x:Int):∀ (l:List Int),(insD x l).Perm (x::l)
 | []=>List.Perm.refl _
 | y::l=>by
  rw [insD];split
  ·exact List.Perm.refl _
  ·exact ((zfB x l).cons y).trans (List.Perm.swap x y l)
theorem zes:∀ (l:List Int),(zjZ l).Perm l
 | []=>List.Perm.refl _
 | x::l=>(zfB x (zjZ l)).trans ((zes l).cons x)
theorem zjn (x:Int):∀ {l:List Int},l.Pairwise (fun a b=>b≤a)→(insD x l).Pairwise (fun a b=>b≤a)
 | [],_=>by simp [insD]
 | y::l,h=>by
  obtain ⟨h1,h2⟩:=List.pairwise_cons.1 h
  rw [insD];split
  ·rename_i hy
   exact List.pairwise_cons.2 ⟨fun z hz=>(List.mem_cons.1 hz).elim (fun e=>e▸hy) (fun e=>Int.le_trans (h1 z e) hy),h⟩
  ·rename_i hy
   refine List.pairwise_cons.2 ⟨fun z hz=>?_,zjn x h2⟩
   rcases List.mem_cons.1 ((zfB x l).mem_iff.1 hz) with rfl | hz
   ·omega
   ·exact h1 z hz
theorem zgr:∀ (l:List Int),(zjZ l).Pairwise (fun a b=>b≤a)
 | []=>List.Pairwise.nil
 | x::l=>zjn x (zgr l)
theorem zkR (xs:List Int):zeh xs=zjZ xs:=by
 have h1:(zeh xs).Pairwise (fun a b=>b≤a):=by
  have:=List.pairwise_mergeSort (le:=fun x y=>!(ltOf cmpD) y x) (fun a b c=>by simp only [ltD,Bool.not_eq_true',decide_eq_false_iff_not];omega) (fun a b=>by simp only [ltD,Bool.or_eq_true,Bool.not_eq_true',decide_eq_false_iff_not];omega) xs
  exact this.imp fun {a b} h=>by simpa [ltD] using h
 have h2:=zgr xs
 have hp:(zeh xs).Perm (zjZ xs):=(List.mergeSort_perm xs _).trans (zes xs).symm
 exact hp.eq_of_pairwise (fun a b _ _ h k=>by omega) h1 h2
def zd2 (xs:List Int):Int:=el (zjZ xs) (xs.length / 2)
theorem ztX (xs:List Int):zmK xs=zd2 xs:=by rw [zmK,zd2,zkR]
def zrw (xs:List Int):Int:=if xs=[] then 1 else 0
theorem ztv (l:List Int) (n:Int):FnC Tryz.prog 189 [dInts.can l,dInt.can n] (.bool (hasB l n)) D2:=FnC.of_bool (fnB Tryz.func189 (by decide) rfl) fun w E vals hd=>by
 obtain ⟨v,u,rfl,h1,h3⟩:=zb7 hd
 obtain ⟨a,c,rfl,h2⟩:=zaZ h1
 obtain ⟨rfl,_⟩:=h3
 exact (zpv a _ c l n w (IntSl.ofSl h2)).mono (by rintro e w' ⟨rfl,rfl⟩;exact ⟨rfl,Below.refl _ _⟩)
theorem zop (l:List Int) (n:Int):FnC Tryz.prog 172 [dInts.can l,dInt.can n] (.bool (hasB l n)) D2:=FnC.of_bool (fnB Tryz.func172 (by decide) rfl) fun w E vals hd=>by
 obtain ⟨v,u,rfl,h1,h3⟩:=zb7 hd
 obtain ⟨a,c,rfl,h2⟩:=zaZ h1
 obtain ⟨rfl,_⟩:=h3
 exact (zh4 a _ c l n w (IntSl.ofSl h2)).mono (by rintro e w' ⟨rfl,rfl⟩;exact ⟨rfl,Below.refl _ _⟩)
theorem zwi (l:List Int):FnC Tryz.prog 58 [dInts.can l] (.bool (isC l)) D2:=FnC.of_bool (fnB Tryz.func58 (by decide) rfl) fun w E vals hd=>by
 obtain ⟨v,rfl,h1⟩:=zc5 hd
 obtain ⟨a,c,rfl,h2⟩:=zaZ h1
 exact (zcu a _ c l w (IntSl.ofSl h2)).mono (by rintro e w' ⟨rfl,q,rfl⟩;exact ⟨by rw [zdb],zb1 (Below.refl _ _) _⟩)
theorem ztg (l:List Int):FnC Tryz.prog 65 [dInts.can l] (.bool (isC l)) D2:=FnC.of_bool (fnB Tryz.func65 (by decide) rfl) fun w E vals hd=>by
 obtain ⟨v,rfl,h1⟩:=zc5 hd
 obtain ⟨a,c,rfl,h2⟩:=zaZ h1
 exact (zh3 a _ c l w (IntSl.ofSl h2)).mono (by rintro e w' ⟨rfl,q,rfl⟩;exact ⟨by rw [zdb],zb1 (Below.refl _ _) _⟩)
theorem zg0 (l k:List Int):FnC Tryz.prog 208 [dInts.can l,dInts.can k] (.bool (zcq l k)) D2:=FnC.of_bool (fnB Tryz.func208 (by decide) rfl) fun w E vals hd=>by
 obtain ⟨v,u,rfl,h1,h3⟩:=zb7 hd
 obtain ⟨a,c,rfl,h2⟩:=zaZ h1
 obtain ⟨b,d,rfl,h4⟩:=zaZ h3
 exact (zki a _ c l b _ d k w (IntSl.ofSl h2) (IntSl.ofSl h4)).mono (by rintro e w' ⟨rfl,hb⟩;exact ⟨by rw [zlI],hb⟩)
theorem zfx (l k:List Int):FnC Tryz.prog 209 [dInts.can l,dInts.can k] (.bool (zcq l k)) D2:=FnC.of_bool (fnB Tryz.func209 (by decide) rfl) fun w E vals hd=>by
 obtain ⟨v,u,rfl,h1,h3⟩:=zb7 hd
 obtain ⟨a,c,rfl,h2⟩:=zaZ h1
 obtain ⟨b,d,rfl,h4⟩:=zaZ h3
 exact (ziF a _ c l b _ d k w (IntSl.ofSl h2) (IntSl.ofSl h4)).mono (by rintro e w' ⟨rfl,hb⟩;exact ⟨by rw [zlI],by first | exact hb | (obtain ⟨q,rfl⟩:=hb;exact zb1 (Below.refl _ _) _)⟩)
theorem zqw (l:List Int) (n:Int) (hl:l.length≤1000000):FnC Tryz.prog 173 [dInts.can l,dInt.can n] (.sl [1] (.rInts (zay l n))) D2:=FnC.of_ownS (fnB Tryz.func173 (by decide) rfl) fun w E vals hd=>by
 obtain ⟨v,u,rfl,h1,h3⟩:=zb7 hd
 obtain ⟨a,c,rfl,h2⟩:=zaZ h1
 obtain ⟨rfl,_⟩:=h3
 have hle:(zay l n).length≤l.length:=List.length_filter_le _ _
 exact ⟨⟨fun x hx=>h2.i64 x ((List.mem_filter.1 hx).1),by omega⟩,zsB a _ c l n w (IntSl.ofSl h2) (by omega)⟩
theorem zow (l:List Int) (n:Int) (hl:l.length≤1000000):FnC Tryz.prog 174 [dInts.can l,dInt.can n] (.own 2) (D3i (putL l n)):=FnC.of_ownR (fnB Tryz.func174 (by decide) rfl) fun w E vals hd=>by
 obtain ⟨v,u,rfl,h1,h3⟩:=zb7 hd
 obtain ⟨a,c,rfl,h2⟩:=zaZ h1
 obtain ⟨rfl,h4⟩:=zpi h3
 have hle:=zeY l n
 exact ⟨fun x hx=>(putL_mem.1 hx).elim (fun e=>e▸h4) (h2.i64 x),zuf a _ c l n w (IntSl.ofSl h2) (by omega)⟩
theorem zgj (l:List Int) (n:Int) (hl:l.length≤1000000):FnC Tryz.prog 133 [dInts.can l,dInt.can n] (.tup [.sl [1] (.rInts (zbg l n)),.int .i64 (zbX l n).1]) D2:=FnC.of_setS (fnB Tryz.func133 (by decide) rfl) (by unfold zbX;split<;>rfl) fun w E vals hd=>by
 obtain ⟨v,u,rfl,h1,h3⟩:=zb7 hd
 obtain ⟨a,c,rfl,h2⟩:=zaZ h1
 obtain ⟨rfl,_⟩:=h3
 have hle:(zay l n).length≤l.length:=List.length_filter_le _ _
 refine ⟨⟨fun x hx=>?_,?_⟩,by rw [← zmH];exact znC a _ c l n w (IntSl.ofSl h2) (by omega)⟩
 ·unfold zbg at hx;split at hx
  ·exact h2.i64 x ((List.mem_filter.1 hx).1)
  ·cases hx
 ·unfold zbg;split
  ·omega
  ·simp
theorem znD (l:List Int) (n:Int) (hl:l.length≤1000000):FnC Tryz.prog 169 [dInts.can l,dInt.can n] (.tup [.own 2,.int .i64 (zi0 l n).1]) (D3i (zcm l n)):=FnC.of_setR (fnB Tryz.func169 (by decide) rfl) (by
  unfold zi0;split
  ·rcases zfS (putL l n) with ⟨_,e,_⟩ | ⟨_,e,_⟩<;>rw [e]<;>decide
  ·decide) fun w E vals hd=>by
 obtain ⟨v,u,rfl,h1,h3⟩:=zb7 hd
 obtain ⟨a,c,rfl,h2⟩:=zaZ h1
 obtain ⟨rfl,h4⟩:=zpi h3
 have hle:=zeY l n
 refine ⟨fun x hx=>?_,by rw [← ztQ];exact zv8 a _ c l n w (IntSl.ofSl h2) (zkq h2) (by omega) h4⟩
 unfold zcm at hx;split at hx
 ·split at hx
  ·exact (putL_mem.1 hx).elim (fun e=>e▸h4) (h2.i64 x)
  ·cases hx
 ·cases hx
theorem zqG (l k:List Int) (hl:l.length≤1000000∧k.length≤1000000):FnC Tryz.prog 181 [dInts.can l,dInts.can k] (.tup [.sl [1] (.rInts (zcL l k).2),.int .i64 (zcL l k).1]) D2:=by
 rw [← zqH]
 refine FnC.of_setS (fnB Tryz.func181 (by decide) rfl) (by
  unfold zjP;split
  ·rcases zfS (zaR (l++k)) with ⟨_,e,_⟩ | ⟨_,e,_⟩<;>rw [e]<;>decide
  ·decide) fun w E vals hd=>?_
 obtain ⟨v,u,rfl,h1,h3⟩:=zb7 hd
 obtain ⟨a,c,rfl,h2⟩:=zaZ h1
 obtain ⟨b,d,rfl,h4⟩:=zaZ h3
 refine ⟨⟨zta h2.i64 h4.i64,?_⟩,zwI a _ c l b _ d k w (IntSl.ofSl h2) (IntSl.ofSl h4) (zkq h2) (zkq h4) (by omega) (by omega)⟩
 rw [zqH,zcL]
 have:=zey l k
 split
 ·split
  ·show (zaM l k).length≤_;omega
  ·simp
 ·simp
theorem zwr {l:List Int} (h:∀ x∈l,I64 x) (i:Nat):I64 (el l i):=by
 by_cases hi:i<l.length
 ·have e:el l i=l[i]:=by simp [el,hi]
  rw [e];exact h _ (List.getElem_mem hi)
 ·have e:el l i=0:=by simp [el,List.getElem?_eq_none (Nat.not_lt.1 hi)]
  rw [e];exact ⟨by decide,by decide⟩
theorem znW (l:List Int) (hl:l.length≤1000000):FnC Tryz.prog 165 [dInts.can l] (.tup [.int .i64 (zd2 l),.int .i64 (zrw l)]) D2:=FnC.of_i2 (fnB Tryz.func165 (by decide) rfl) fun w E vals hd=>by
 obtain ⟨v,rfl,h1⟩:=zc5 hd
 obtain ⟨a,c,rfl,h2⟩:=zaZ h1
 have hi:I64 (zd2 l):=zwr (fun x hx=>h2.i64 x ((zes l).mem_iff.1 hx)) _
 refine ⟨⟨hi,by unfold zrw;split<;>decide⟩,?_⟩
 by_cases h0:l=[]
 ·subst h0;exact (zru a c w).mono (by rintro e w' ⟨rfl,rfl⟩;exact ⟨rfl,Below.refl _ _⟩)
 ·rw [← ztX,zrw,if_neg h0]
  exact (zrv a _ c l w (IntSl.ofSl h2) (by omega) (List.length_pos_iff.2 h0)).mono (by rintro e w' ⟨rfl,hb⟩;exact ⟨rfl,hb⟩)
def eHas:Ent:=ent2 189 dInts dInt fun l n=>([],.bool (hasB l n),D2)
theorem zqn:zaf Tryz.prog eHas:=zav (ztv [] 0).1 fun l n _=>ztv l n
def zsy:Ent:=ent2 172 dInts dInt fun l n=>([],.bool (hasB l n),D2)
theorem zid:zaf Tryz.prog zsy:=zav (zop [] 0).1 fun l n _=>zop l n
def eIs:Ent:=ent1 58 dInts fun l=>([],.bool (isC l),D2)
theorem zw6:zaf Tryz.prog eIs:=zan (zwi []).1 fun l _=>zwi l
def eRIs:Ent:=ent1 65 dInts fun l=>([],.bool (isC l),D2)
theorem zic:zaf Tryz.prog eRIs:=zan (ztg []).1 fun l _=>ztg l
def zt3:Ent:=ent2 208 dInts dInts fun l k=>([],.bool (zcq l k),D2)
theorem zpO:zaf Tryz.prog zt3:=zav (zg0 [] []).1 fun l k _=>zg0 l k
def zkA:Ent:=ent2 209 dInts dInts fun l k=>([],.bool (zcq l k),D2)
theorem zgQ:zaf Tryz.prog zkA:=zav (zfx [] []).1 fun l k _=>zfx l k
def zuV:Ent:=ent2 173 dInts dInt fun l n=>([l.length≤1000000],.sl [1] (.rInts (zay l n)),D2)
theorem zmt:zaf Tryz.prog zuV:=zav (zqw [] 0 (by decide)).1 fun l n h=>zqw l n (h _ (by simp))
def zs1:Ent:=ent2 174 dInts dInt fun l n=>([l.length≤1000000],.own 2,D3i (putL l n))
theorem zie:zaf Tryz.prog zs1:=zav (zow [] 0 (by decide)).1 fun l n h=>zow l n (h _ (by simp))
noncomputable def zfd:Ent:=ent2 133 dInts dInt fun l n=>([l.length≤1000000],.tup [.sl [1] (.rInts (zbg l n)),.int .i64 (zbX l n).1],D2)
theorem zdD:zaf Tryz.prog zfd:=zav (zgj [] 0 (by decide)).1 fun l n h=>zgj l n (h _ (by simp))
noncomputable def zuI:Ent:=ent2 169 dInts dInt fun l n=>([l.length≤1000000],.tup [.own 2,.int .i64 (zi0 l n).1],D3i (zcm l n))
theorem zhW:zaf Tryz.prog zuI:=zav (znD [] 0 (by decide)).1 fun l n h=>znD l n (h _ (by simp))
def zuW:Ent:=ent2 181 dInts dInts fun l k=>([l.length≤1000000∧k.length≤1000000],.tup [.sl [1] (.rInts (zcL l k).2),.int .i64 (zcL l k).1],D2)
theorem zmw:zaf Tryz.prog zuW:=zav (zqG [] [] (by decide)).1 fun l k h=>zqG l k (h _ (by simp))
def zwu:Ent:=ent1 165 dInts fun l=>([l.length≤1000000],.tup [.int .i64 (zd2 l),.int .i64 (zrw l)],D2)
theorem zst:zaf Tryz.prog zwu:=zan (znW [] (by decide)).1 fun l h=>znW l (h _ (by simp))
end Go.Proofs.YteabcgkjbnecaaaGreat
namespace Go.Proofs.YteabcgkjbnecaaaGreat
open Go.RowKit Go.ChangeShapes Go.WideShapes Go.Deep
set_option maxRecDepth 100000
def dFn (f:Nat):Dec Unit where
 dec:=fun s=>match s with | .fn g=>if g=f then some () else none | _=>none
 can:=fun _=> .fn f
 Okp:=fun _=>True
 okp:=fun _ _ _ _ _=>trivial
 ok:=by
  intro s x h E w v _ hd
  split at h
  ·split at h
   ·rename_i e;subst e;exact hd
   ·cases h
  ·cases h
def inN (x:Int):Bool:=decide (1≤x)&&decide (x≤5)
def outN (x:Int):Bool:=decide (x<1)||decide (5<x)
theorem zeZ (x:Int):outN x=!inN x:=by
 unfold outN inN
 by_cases h1:1≤x<;>by_cases h2:x≤5<;>simp [h1,h2]<;>omega
def zaH (p:Int→Bool):List Int→Int
 | []=> -1
 | x::l=>if p x then 0 else (if zaH p l = -1 then -1 else zaH p l+1)
theorem zdm {p:Int→Bool}:∀ {l:List Int} {j:Nat},j<l.length→(∀ i,i<j→p (l.getD i 0)=false)→p (l.getD j 0)=true→zaH p l=j
 | x::l,0,_,_,h=>by simp only [List.getD_cons_zero] at h;simp [zaH,h]
 | x::l,j+1,hj,h0,h=>by
  have hx:=h0 0 (by omega)
  simp only [List.getD_cons_zero] at hx
  have:=zdm (l:=l) (j:=j) (by simpa using hj) (fun i hi=>by simpa using h0 (i+1) (by omega)) (by simpa using h)
  simp only [zaH,hx,this]
  split
  ·simp at *
  ·split<;>omega
theorem zc9 {p:Int→Bool}:∀ {l:List Int},(∀ i,i<l.length→p (l.getD i 0)=false)→zaH p l = -1
 | [],_=>rfl
 | x::l,h=>by
  have hx:=h 0 (by simp)
  simp only [List.getD_cons_zero] at hx
  have:=zc9 (l:=l) (fun i hi=>by simpa using h (i+1) (by simpa using hi))
  simp [zaH,hx,this]
theorem zgH {p:Int→Bool}:∀ (l:List Int),(0≤zaH p l↔l.any p=true) ∧ -1≤zaH p l
 | []=>by simp [zaH]
 | x::l=>by
  obtain ⟨h1,h2⟩:=zgH (p:=p) l
  simp only [zaH,List.any_cons,Bool.or_eq_true,← h1]
  split
  ·rename_i hx;simp [hx]
  ·rename_i hx
   split
   ·rename_i h;simp [h,hx]
   ·rename_i h;simp only [hx,false_or];omega
theorem zj0 {p:Int→Bool} (l:List Int):decide (zaH p l≥0)=l.any p:=by rw [Bool.eq_iff_iff,decide_eq_true_eq];exact (zgH l).1
theorem zoT (x:Int):FnC Tryz.prog 183 [dInt.can x] (.bool (outN x)) D2:=by
 refine FnG.of_vc (zaj zad fun _=>none) Tryz.func183 rfl (by decide) rfl 300 (p:=fun (V:List PE→Prop)=>let v0:=decide (x<1);True∧(((!v0)=true→(!v0)=true)∧(v0=false→(!v0)=true)∧True)∧zac v0 true (decide (x>5))=outN x∧True) (by kernel_rfl) ?_
 simp only [imp_self,implies_true,true_and,and_true,zae,zag,outN,GT.gt]
 rcases Bool.eq_false_or_eq_true (decide (x<1)) with h | h<;>rw [h]<;>simp [zac]
def eMay1:Ent:=ent1 183 dInt fun x=>([],.bool (outN x),D2)
theorem zmo:zaf Tryz.prog eMay1:=zan (zoT 0).1 fun x _=>zoT x
theorem zjp (l:List Int):FnC Tryz.prog 212 [dInts.can l,(dFn 183).can ()] (.int .i64 (zaH outN l)) D2:=by
 refine FnC.g2 dInts (dFn 183) l () (fnB Tryz.func212 (by decide) rfl) fun hl _=>?_
 refine FnG.of_vc (zaj (zaa zmo zad) fun _=>none) Tryz.func212 rfl (by decide) rfl 300 (p:=fun (V:List PE→Prop)=>True∧True∧V []) (by kernel_rfl) ?_
 simp only [true_and,and_true]
 refine LoopG.head (zaj (zaa zmo zad) fun _=>none) 0 (A:=Nat) (fun j=>j≤l.length∧∀ i,i<j→outN (l.getD i 0)=false) (fun j=>[(8,.int .i64 j)]) (fun _=>[]) (fun j=>l.length-j) 0 ⟨Nat.zero_le _,fun i h=>absurd h (by omega)⟩ (p0:=let v0:=(↑(l.length):Int);(0:Int)=(↑(0:Nat):Int)∧v0=v0∧l=l∧True) (by kernel_rfl) ?_ 300 (p:=fun (x:Nat) (V:List PE→Prop)=>let v0:=(↑x:Int);let v1:=(↑(l.length):Int);let v2:=outN (List.getD l x (0:Int));let v3:=decide (v0<v1);True∧True∧(v3=true→True∧((0:Int)≤v0∧v0<v1∧True)∧True∧(v2=true→True∧v0=zaH outN l∧True)∧(v2=false→True∧V [PE.a,PE.b]))∧(v3=false→True∧(-1:Int)=zaH outN l∧True)) (by intro x;kernel_rfl) ?_
 ·simp
 ·rintro j ⟨hj,h0⟩
  have hl44:=hl.1
  simp only [true_and,and_true,decide_eq_true_eq,decide_eq_false_iff_not]
  refine ⟨fun h1=>⟨by omega,fun h2=>?_,fun h2=>?_⟩,fun h1=>?_⟩
  ·exact (zdm (by omega) h0 h2).symm
  ·refine Back.mk (j+1) ⟨by omega,fun i hi=>?_⟩ (by omega) (p0:=let v0:=(↑(l.length):Int);IntKind.wrap IntKind.i64 ((↑j:Int)+(1:Int))=(↑(j+(1:Nat)):Int)∧v0=v0∧l=l∧True) (by kernel_rfl) ?_
   ·by_cases h:i=j
    ·subst h;exact h2
    ·exact h0 i (by omega)
   ·simp [zbj (i:=j) (by omega)]
  ·exact (zc9 fun i hi=>h0 i (by omega)).symm
def zuR:Ent:=ent2 212 dInts (dFn 183) fun l _=>([],.int .i64 (zaH outN l),D2)
theorem zns:zaf Tryz.prog zuR:=zav (zjp []).1 fun l _ _=>zjp l
theorem zeM (l:List Int):FnC Tryz.prog 182 [dInts.can l,(dFn 183).can ()] (.bool (l.any outN)) D2:=by
 refine FnG.of_vc (zaj (zaa zns zad) fun _=>none) Tryz.func182 rfl (by decide) rfl 300 (p:=fun (V:List PE→Prop)=>True∧True∧decide (zaH outN l≥0)=List.any l outN∧True) (by kernel_rfl) ?_
 simp only [true_and,and_true]
 exact zj0 l
def zgV:Ent:=ent2 182 dInts (dFn 183) fun l _=>([],.bool (l.any outN),D2)
theorem zii:zaf Tryz.prog zgV:=zav (zeM []).1 fun l _ _=>zeM l
def mayC (c:Config):Bool:=(isC c.voters&&c.voters.all inN)&&(isC c.learners&&c.learners.all inN)&&decide (c.voters≠[])&&c.voters.all (fun x=>!hasB c.learners x)
theorem zcl:∀ (l:List Int) (a b:Int),Asc l→(∀ x∈l,a≤x∧x≤b)→a≤b+1→(l.length:Int)≤b-a+1
 | [],a,b,_,_,h=>by simp;omega
 | x::l,a,b,hs,hb,h=>by
  obtain ⟨hx,hl⟩:=List.pairwise_cons.1 hs
  have h1:=hb x (List.mem_cons_self ..)
  have:=zcl l (x+1) b hl (fun y hy=>⟨by have:=hx y hy;omega,(hb y (List.mem_cons_of_mem _ hy)).2⟩) (by omega)
  rw [List.length_cons];omega
theorem zf1:∀ (ys acc:List Int),ys.Pairwise (· ≠ ·)→((zaM acc ys).length=acc.length+ys.length↔∀ y∈ys,y∉acc)
 | [],acc,_=>by simp [zaM]
 | y::ys,acc,h=>by
  obtain ⟨hy,hys⟩:=List.pairwise_cons.1 h
  have e:zaM acc (y::ys)=zaM (putL acc y) ys:=rfl
  rw [e]
  have hle:=zey (putL acc y) ys
  cases hb:hasB acc y
  ·have h1:=zeX hb
   have h2:(putL acc y).length=acc.length+1:=by rw [h1,zpj]
   have hn:y∉acc:=hasB_not.1 hb
   have ih:=zf1 ys (putL acc y) hys
   rw [List.length_cons]
   constructor
   ·intro hh
    have h3:=ih.1 (by omega)
    intro z hz
    rcases List.mem_cons.1 hz with rfl | hz
    ·exact hn
    ·exact fun hm=>h3 z hz (putL_mem.2 (.inr hm))
   ·intro hh
    have h3:=ih.2 (fun z hz hm=>by
     rcases putL_mem.1 hm with rfl | hm
     ·exact hy z hz rfl
     ·exact hh z (List.mem_cons_of_mem _ hz) hm)
    omega
  ·have h1:=zh5 hb
   have hm:y∈acc:=hasB_iff.1 hb
   rw [h1] at hle ⊢
   rw [List.length_cons]
   constructor
   ·intro hh;omega
   ·intro hh;exact absurd hm (hh y (List.mem_cons_self ..))
theorem zwK {l:List Int} (h:Asc l):l.Pairwise (· ≠ ·):=List.Pairwise.imp (fun {a b} (hab:a<b)=>by omega) h
theorem zlU (c:Config):mayC c=(((zcL c.voters c.learners).1==0)&&!((zcL c.voters c.learners).2.any outN)&&decide ((0:Int)<(c.voters.length:Int))&&(((zcL c.voters c.learners).2.length:Int)==(c.voters.length:Int)+(c.learners.length:Int))):=by
 rw [Bool.eq_iff_iff]
 by_cases hi:isC c.voters=true∧isC c.learners=true
 ·obtain ⟨h1,h2⟩:=hi
  have a2:=(isC_iff.1 h2).1
  have a1:=(isC_iff.1 h1).1
  have hmem:∀ x,x∈zaM c.voters c.learners↔x∈c.voters∨x∈c.learners:=fun x=>zg5
  have hfull:=zf1 c.learners c.voters (zwK a2)
  have hany:((zaM c.voters c.learners).any outN=false)↔(c.voters.all inN=true∧c.learners.all inN=true):=by
   rw [List.any_eq_false,List.all_eq_true,List.all_eq_true]
   constructor
   ·intro h
    exact ⟨fun x hx=>by have:=h x ((hmem x).2 (.inl hx));rw [zeZ] at this;simpa using this,fun x hx=>by have:=h x ((hmem x).2 (.inr hx));rw [zeZ] at this;simpa using this⟩
   ·rintro ⟨k1,k2⟩ x hx
    rw [zeZ]
    rcases (hmem x).1 hx with h | h
    ·simp [k1 x h]
    ·simp [k2 x h]
  have hdis:(c.voters.all (fun x=>!hasB c.learners x)=true)↔∀ y∈c.learners,y∉c.voters:=by
   rw [List.all_eq_true]
   constructor
   ·intro h y hy hv
    have:=h y hv
    simp [hasB_iff.2 hy] at this
   ·intro h x hx
    cases hb:hasB c.learners x
    ·rfl
    ·exact absurd hx (h x (hasB_iff.1 hb))
  have hne:(c.voters≠[])↔(0:Int)<(c.voters.length:Int):=by
   cases c.voters<;>simp<;>omega
  unfold mayC zcL
  rw [h1,h2]
  simp only [Bool.and_eq_true,decide_eq_true_eq,true_and,hdis,Bool.and_self,if_true]
  by_cases hlen:(zaM c.voters c.learners).length≤16
  ·rw [if_pos hlen]
   constructor
   ·rintro ⟨⟨⟨v1,l1⟩,ne⟩,d⟩
    refine ⟨⟨⟨by simp,?_⟩,hne.1 ne⟩,?_⟩
    ·rw [hany.2 ⟨v1,l1⟩];rfl
    ·rw [beq_iff_eq];have:=hfull.2 d;simp only;omega
   ·rintro ⟨⟨⟨_,an⟩,ne⟩,d⟩
    rw [beq_iff_eq] at d
    have h3:=hany.1 (by simpa using an)
    exact ⟨⟨⟨h3.1,h3.2⟩,hne.2 ne⟩,hfull.1 (by simp only at d;omega)⟩
  ·rw [if_neg hlen]
   constructor
   ·rintro ⟨⟨⟨v1,l1⟩,ne⟩,d⟩
    exfalso
    have hl:=zcl _ 1 5 (zez (ys:=c.learners) a1) (fun x hx=>by
     have:inN x=true:=by
      rcases (hmem x).1 hx with h | h
      ·exact List.all_eq_true.1 v1 x h
      ·exact List.all_eq_true.1 l1 x h
     simpa [inN] using this) (by omega)
    omega
   ·rintro ⟨⟨⟨h,_⟩,_⟩,_⟩
    simp at h
 ·have ebr:zcL c.voters c.learners=(1,[]):=by rw [zcL,if_neg (by simpa using hi)]
  rw [ebr]
  constructor
  ·intro h
   unfold mayC at h
   simp only [Bool.and_eq_true] at h
   exact absurd ⟨h.1.1.1.1,h.1.1.2.1⟩ hi
  ·intro h
   simp at h
theorem zuu {c:Config} (h:mayC c=true):c.voters.length≤16∧c.learners.length≤16:=by
 unfold mayC at h
 simp only [Bool.and_eq_true] at h
 exact ⟨(isC_iff.1 h.1.1.1.1).2,(isC_iff.1 h.1.1.2.1).2⟩
def zvJ:List Ent:=[zuW,zgV]
theorem znS:∀ e∈zvJ,zaf Tryz.prog e:=zaa zmw (zaa zii zad)
theorem zoR (c:Config) (hc:zaq c):FnC Tryz.prog 132 [dConfig.can c] (.bool (mayC c)) D2:=by
 refine FnG.of_vc (zaj znS fun _=>none) Tryz.func132 rfl (by decide) rfl 300 (p:=fun (V:List PE→Prop)=>let v0:=c.learners;let v1:=c.voters.length;let v3:=zcL c.voters v0;let v4:=(↑v1:Int);let v6:=Prod.fst v3==0;let v7:=zac v6 (!List.any (Prod.snd v3) outN) false;let v8:=zac v7 (decide (v4>0)) false;True∧((v1≤1000000∧v0.length≤1000000)∧True)∧((v6=true→v6=true)∧(v6=true→v6=true)∧(v6=true→v6=true)∧True)∧((v7=true→v7=true)∧(v7=true→v7=true)∧(v7=true→v7=true)∧(v7=true→v7=true)∧(v8=true→v8=true)∧(v8=true→v8=true)∧(v8=true→v8=true)∧(v8=true→v8=true)∧(v8=true→v8=true)∧(v8=true→v8=true)∧(v8=true→v8=true)∧(v8=true→v8=true)∧(v8=true→v8=true)∧(v8=true→v8=true)∧True)∧zac v8 ((↑(List.length (Prod.snd v3)):Int)==IntKind.wrap IntKind.i64 (v4+(↑(v0.length):Int))) false=mayC c∧True) (by kernel_rfl) ?_
 simp only [imp_self,implies_true,true_and,and_true,zae,zag]
 refine ⟨hc,?_⟩
 rw [zlU,zbu (by unfold zaq at hc;constructor<;>omega)]
def eMay:Ent:=ent1 132 dConfig fun c=>([zaq c],.bool (mayC c),D2)
theorem zqd:zaf Tryz.prog eMay:=zan (zoR default (by unfold zaq;decide)).1 fun c h=>zoR c (h _ (by simp))
theorem ztK (c:Config):FnC Tryz.prog 131 [dConfig.can c] (.agg (c.svs [0])) D2:=by
 refine FnG.of_vc (zaj zad fun _=>none) Tryz.func131 rfl (by decide) rfl 300 (p:=fun (V:List PE→Prop)=>True∧True∧c.voters=c.voters∧c.learners=c.learners∧True) (by kernel_rfl) ?_
 simp
def eAsk:Ent:=ent1 131 dConfig fun c=>([],.agg (c.svs [0]),D2)
theorem zqu:zaf Tryz.prog eAsk:=zan (ztK default).1 fun c h=>ztK c
theorem zoN (c:Config) (n:Int):FnC Tryz.prog 138 [dConfig.can c,dInt.can n] (.tup [.bool (hasB c.voters n),.bool (hasB c.learners n)]) D2:=by
 refine FnG.of_vc (zaj (zaa zqn zad) fun _=>none) Tryz.func138 rfl (by decide) rfl 300 (p:=fun (V:List PE→Prop)=>let v0:=hasB c.learners n;let v1:=hasB c.voters n;True∧True∧v1=v1∧v0=v0∧True) (by kernel_rfl) ?_
 simp
def zuQ:Ent:=ent2 138 dConfig dInt fun c n=>([],.tup [.bool (hasB c.voters n),.bool (hasB c.learners n)],D2)
theorem zmp:zaf Tryz.prog zuQ:=zav (zoN default 0).1 fun c n h=>zoN c n
noncomputable def zvI:List Ent:=[eMay,eAsk,zuQ,zuW,zt3,zuI,zfd]
theorem zdK:∀ e∈zvI,zaf Tryz.prog e:=zaa zqd (zaa zqu (zaa zmp (zaa zmw (zaa zpO (zaa zhW (zaa zdD zad))))))
def errM (b:Bool):Int:=if b then 0 else 160
theorem zjb (c:Config) (hc:zaq c):FnC Tryz.prog 59 [dConfig.can c] (.int .i64 (errM (mayC c))) D2:=by
 refine FnG.of_vc (zaj zdK fun _=>none) Tryz.func59 rfl (by decide) rfl 300 (p:=fun (V:List PE→Prop)=>True∧(zaq c∧True)∧True∧((!mayC c)=true→True∧(160:Int)=errM (mayC c)∧True)∧((!mayC c)=false→True∧(0:Int)=errM (mayC c)∧True)) (by kernel_rfl) ?_
 simp only [imp_self,implies_true,true_and,and_true,zae,zag]
 refine ⟨hc,fun h=>?_,fun h=>?_⟩
 ·have:mayC c=false:=by simpa using h
  rw [this];rfl
 ·have:mayC c=true:=by simpa using h
  rw [this];rfl
def allC (c:Config):List Int:=if mayC c then zaM c.voters c.learners else []
theorem zlV {c:Config} (h:mayC c=true):zcL c.voters c.learners=(0,zaM c.voters c.learners):=by
 rw [zlU] at h
 simp only [Bool.and_eq_true] at h
 unfold zcL at h ⊢
 split at h
 ·rename_i hi
  rw [if_pos hi]
  split at h
  ·rename_i hl;rw [if_pos hl]
  ·simp at h
 ·simp at h
theorem zoW (c:Config) (hc:zaq c):FnC Tryz.prog 134 [dConfig.can c] (.sl [1] (.rInts (allC c))) D2:=by
 refine FnG.of_vc (zaj zdK fun _=>none) Tryz.func134 rfl (by decide) rfl 300 (p:=fun (V:List PE→Prop)=>True∧(zaq c∧True)∧True∧((!mayC c)=true→True∧allC c=[]∧True)∧((!mayC c)=false→((c.voters.length≤1000000∧c.learners.length≤1000000)∧True)∧True∧Prod.snd (zcL c.voters c.learners)=allC c∧True)) (by kernel_rfl) ?_
 simp only [imp_self,implies_true,true_and,and_true,zae,zag]
 refine ⟨hc,fun h=>?_,fun h=>⟨hc,?_⟩⟩
 ·simp at h;simp [allC,h]
 ·simp at h;rw [zlV h];simp [allC,h]
theorem ziZ (c:Config) (n:Int) (hc:zaq c):FnC Tryz.prog 76 [dConfig.can c,dInt.can n] (.bool (hasB c.voters n&&mayC c)) D2:=by
 refine FnG.of_vc (zaj zdK fun _=>none) Tryz.func76 rfl (by decide) rfl 300 (p:=fun (V:List PE→Prop)=>let v0:=hasB c.voters n;True∧True∧((v0=true→v0=true)∧(v0=true→v0=true)∧(v0=true→v0=true)∧(v0=true→zaq c)∧(v0=true→v0=true)∧True)∧zac v0 (mayC c) false=(v0&&mayC c)∧True) (by kernel_rfl) ?_
 simp only [imp_self,implies_true,true_and,and_true,zae,zag]
 exact fun _=>hc
theorem zf9 (c:Config) (l:List Int) (hc:zaq c):FnC Tryz.prog 167 [dConfig.can c,dInts.can l] (.bool (mayC c&&zcq c.voters l)) D2:=by
 refine FnG.of_vc (zaj zdK fun _=>none) Tryz.func167 rfl (by decide) rfl 300 (p:=fun (V:List PE→Prop)=>let v0:=zcq c.voters l;True∧(zaq c∧(mayC c=true→mayC c=true)∧(mayC c=true→mayC c=true)∧(mayC c=true→mayC c=true)∧(mayC c=true→mayC c=true)∧True)∧zac (mayC c) v0 false=(mayC c&&v0)∧True) (by kernel_rfl) ?_
 simp only [imp_self,implies_true,true_and,and_true,zae,zag]
 exact hc
def zkG:Ent:=ent1 59 dConfig fun c=>([zaq c],.int .i64 (errM (mayC c)),D2)
theorem zgT:zaf Tryz.prog zkG:=zan (zjb default (by unfold zaq;decide)).1 fun c h=>zjb c (h _ (by simp))
def eAll:Ent:=ent1 134 dConfig fun c=>([zaq c],.sl [1] (.rInts (allC c)),D2)
theorem zuZ:zaf Tryz.prog eAll:=zan (zoW default (by unfold zaq;decide)).1 fun c h=>zoW c (h _ (by simp))
def ztz:Ent:=ent2 76 dConfig dInt fun c n=>([zaq c],.bool (hasB c.voters n&&mayC c),D2)
theorem zpD:zaf Tryz.prog ztz:=zav (ziZ default 0 (by unfold zaq;decide)).1 fun c n h=>ziZ c n (h _ (by simp))
def zhZ:Ent:=ent2 167 dConfig dInts fun c l=>([zaq c],.bool (mayC c&&zcq c.voters l),D2)
theorem zfM:zaf Tryz.prog zhZ:=zav (zf9 default [] (by unfold zaq;decide)).1 fun c l h=>zf9 c l (h _ (by simp))
def zbD (l:List Int):Bool:=isC l&&l.all inN
theorem zlS (l:List Int):FnC Tryz.prog 186 [dInts.can l] (.bool (zbD l)) D2:=by
 refine FnC.g1 dInts l (fnB Tryz.func186 (by decide) rfl) fun hl=>?_
 refine FnG.of_vc (zaj (zaa zic zad) fun _=>none) Tryz.func186 rfl (by decide) rfl 300 (p:=fun (V:List PE→Prop)=>True∧True∧True∧((!isC l)=true→True∧false=zbD l∧True)∧((!isC l)=false→True∧V [PE.b])) (by kernel_rfl) ?_
 simp only [imp_self,implies_true,true_and,and_true,zae,zag]
 refine ⟨fun h=>by simp at h;simp [zbD,h],fun h=>?_⟩
 have hi:isC l=true:=by simpa using h
 refine LoopG.head (zaj (zaa zic zad) fun _=>none) 0 (A:=Nat) (fun j=>j≤l.length∧∀ i,i<j→inN (l.getD i 0)=true) (fun j=>[(3,.int .i64 j)]) (fun _=>[]) (fun j=>l.length-j) 0 ⟨Nat.zero_le _,fun i h=>absurd h (by omega)⟩ (p0:=(0:Int)=(↑(0:Nat):Int)∧l=l∧True) (by kernel_rfl) ?_ 300 (p:=fun (x:Nat) (V:List PE→Prop)=>let v0:=(↑x:Int);let v1:=(↑(l.length):Int);let v2:=List.getD l x (0:Int);let v3:=decide (v0<v1);let v4:=decide (v2<1);let v5:=zac v4 true (decide (v2>5));True∧True∧(v3=true→((0:Int)≤v0∧v0<v1∧((!v4)=true→(!v4)=true)∧((!v4)=true→(!v4)=true)∧((!v4)=true→(0:Int)≤v0)∧((!v4)=true→v0<v1)∧((!v4)=true→(!v4)=true)∧((!v4)=true→(!v4)=true)∧(v4=false→(!v4)=true)∧True)∧True∧(v5=true→True∧false=zbD l∧True)∧(v5=false→True∧V [PE.a,PE.b]))∧(v3=false→True∧true=zbD l∧True)) (by intro x;kernel_rfl) ?_
 ·simp
 ·rintro j ⟨hj,h0⟩
  have hl44:=hl.1
  simp only [imp_self,implies_true,true_and,and_true,decide_eq_true_eq,decide_eq_false_iff_not]
  have key:zac (decide (l.getD j 0<1)) true (decide (l.getD j 0>5))=!inN (l.getD j 0):=by
   generalize l.getD j 0=x
   rw [← zeZ];unfold zac outN
   by_cases h1:x<1<;>simp [h1]
  rw [key]
  refine ⟨fun h6=>⟨⟨by omega,h6,by intros;omega,by intros;omega,by simp⟩,fun h7=>?_,fun h7=>?_⟩,fun h6=>?_⟩
  ·have hj2:j<l.length:=by omega
   have:l.all inN=false:=by
    rw [List.all_eq_false]
    exact ⟨l.getD j 0,za8 hj2,by simpa using h7⟩
   simp [zbD,this]
  ·refine Back.mk (j+1) ⟨by omega,fun i hi2=>?_⟩ (by omega) (p0:=IntKind.wrap IntKind.i64 ((↑j:Int)+(1:Int))=(↑(j+(1:Nat)):Int)∧l=l∧True) (by kernel_rfl) ?_
   ·by_cases h:i=j
    ·subst h;simpa using h7
    ·exact h0 i (by omega)
   ·simp [zbj (i:=j) (by omega)]
  ·have:l.all inN=true:=by
    rw [List.all_eq_true]
    intro x hx
    obtain ⟨i,hi2,rfl⟩:=List.mem_iff_getElem.1 hx
    have:=h0 i (by omega)
    rwa [zba hi2] at this
   simp [zbD,this,hi]
def zt9:Ent:=ent1 186 dInts fun l=>([],.bool (zbD l),D2)
theorem zqb:zaf Tryz.prog zt9:=zan (zlS []).1 fun l _=>zlS l
def zvH:List Ent:=[zt9,zsy,zs1,zkA]
theorem zi5:∀ e∈zvH,zaf Tryz.prog e:=zaa zqb (zaa zid (zaa zie (zaa zgQ zad)))
theorem zom (c:Config):FnC Tryz.prog 135 [dConfig.can c] (.bool (mayC c)) D2:=by
 refine FnC.g1 dConfig c (fnB Tryz.func135 (by decide) rfl) fun hk=>?_
 refine FnG.of_vc (zaj zi5 fun _=>none) Tryz.func135 rfl (by decide) rfl 300 (p:=fun (V:List PE→Prop)=>let v0:=!zbD c.voters;let v1:=zac v0 true !zbD c.learners;let v2:=zac v1 true ((↑(c.voters.length):Int)==0);True∧(((!v0)=true→(!v0)=true)∧((!v0)=true→(!v0)=true)∧((!v0)=true→(!v0)=true)∧(v0=false→(!v0)=true)∧((!v1)=true→(!v1)=true)∧((!v1)=true→(!v1)=true)∧((!v1)=true→(!v1)=true)∧(v1=false→(!v1)=true)∧True)∧True∧(v2=true→True∧false=mayC c∧True)∧(v2=false→True∧V [PE.b])) (by kernel_rfl) ?_
 simp only [imp_self,implies_true,true_and,and_true,zae,zag]
 have hd:mayC c=((zbD c.voters&&zbD c.learners&&!((c.voters.length:Int)==0))&&c.voters.all (fun x=>!hasB c.learners x)):=by
  unfold mayC zbD
  have:decide (c.voters≠[])=!((c.voters.length:Int)==0):=by cases c.voters<;>simp<;>omega
  rw [this]
 refine ⟨⟨fun h=>by simpa using h,fun h=>by rw [h];rfl⟩,fun h=>?_,fun h=>?_⟩
 ·rw [hd]
  revert h;cases zbD c.voters<;>cases zbD c.learners<;>cases ((c.voters.length:Int)==0)<;>simp
 ·have hd2:mayC c=c.voters.all (fun x=>!hasB c.learners x):=by
   rw [hd]
   revert h;cases zbD c.voters<;>cases zbD c.learners<;>cases ((c.voters.length:Int)==0)<;>simp
  rw [hd2]
  refine LoopG.head (zaj zi5 fun _=>none) 0 (A:=Nat) (fun j=>j≤c.voters.length∧∀ i,i<j→hasB c.learners (c.voters.getD i 0)=false) (fun j=>[(3,.int .i64 j)]) (fun _=>[]) (fun j=>c.voters.length-j) 0 ⟨Nat.zero_le _,fun i h=>absurd h (by omega)⟩ (p0:=(0:Int)=(↑(0:Nat):Int)∧c.voters=c.voters∧c.learners=c.learners∧True) (by kernel_rfl) ?_ 300 (p:=fun (x:Nat) (V:List PE→Prop)=>let v1:=c.voters;let v2:=(↑x:Int);let v3:=(↑(v1.length):Int);let v4:=List.all v1 fun (x:Int)=>!hasB c.learners x;let v5:=hasB c.learners (List.getD v1 x (0:Int));let v6:=decide (v2<v3);True∧True∧(v6=true→((0:Int)≤v2∧v2<v3∧True)∧True∧(v5=true→True∧false=v4∧True)∧(v5=false→True∧V [PE.a,PE.b]))∧(v6=false→True∧true=v4∧True)) (by intro x;kernel_rfl) ?_
  ·simp
  ·rintro j ⟨hj,h0⟩
   have hl44:=hk.voters.1
   simp only [imp_self,implies_true,true_and,and_true,decide_eq_true_eq,decide_eq_false_iff_not]
   refine ⟨fun h6=>⟨by omega,fun h7=>?_,fun h7=>?_⟩,fun h6=>?_⟩
   ·have:c.voters.all (fun x=>!hasB c.learners x)=false:=by
     rw [List.all_eq_false]
     exact ⟨c.voters.getD j 0,za8 (by omega),by rw [h7];simp⟩
    exact this.symm
   ·refine Back.mk (j+1) ⟨by omega,fun i hi2=>?_⟩ (by omega) (p0:=IntKind.wrap IntKind.i64 ((↑j:Int)+(1:Int))=(↑(j+(1:Nat)):Int)∧c.voters=c.voters∧c.learners=c.learners∧True) (by kernel_rfl) ?_
    ·by_cases h:i=j
     ·subst h;exact h7
     ·exact h0 i (by omega)
    ·simp [zbj (i:=j) (by omega)]
   ·have:c.voters.all (fun x=>!hasB c.learners x)=true:=by
     rw [List.all_eq_true]
     intro x hx
     obtain ⟨i,hi2,rfl⟩:=List.mem_iff_getElem.1 hx
     have:=h0 i (by omega)
     rw [zba hi2] at this
     simp [this]
    exact this.symm
def zsx:Ent:=ent1 135 dConfig fun c=>([],.bool (mayC c),D2)
theorem zib:zaf Tryz.prog zsx:=zan (zom default).1 fun c _=>zom c
def zvG:List Ent:=[zsx,zsy,zs1,zkA]
theorem zi4:∀ e∈zvG,zaf Tryz.prog e:=zaa zib (zaa zid (zaa zie (zaa zgQ zad)))
theorem zov (c:Config) (hc:zaq c):FnC Tryz.prog 175 [dConfig.can c] (.sl [1] (.rInts (allC c))) D2:=by
 refine FnC.g1 dConfig c (fnB Tryz.func175 (by decide) rfl) fun hk=>?_
 refine FnG.of_vc (zaj zi4 fun _=>none) Tryz.func175 rfl (by decide) rfl 300 (p:=fun (V:List PE→Prop)=>True∧True∧True∧((!mayC c)=true→True∧allC c=[]∧True)∧((!mayC c)=false→True∧(((0:Nat)+c.voters.length)*(1024:Nat)≤140737488355328∧True)∧True∧V [PE.b])) (by kernel_rfl) ?_
 simp only [imp_self,implies_true,true_and,and_true,zae,zag]
 refine ⟨fun h=>by simp at h;simp [allC,h],fun h=>?_⟩
 have hm:mayC c=true:=by simpa using h
 have hsn:∀ j,j<c.learners.length→zaM c.voters (c.learners.take (j+1))=putL (zaM c.voters (c.learners.take j)) (c.learners.getD j 0):=by
  intro j hj
  rw [za3 (d:=0) hj];simp [zaM]
 refine ⟨by have:=hc.1;simp;omega,?_⟩
 refine LoopG.head (zaj zi4 fun _=>none) 0 (A:=Nat) (fun j=>j≤c.learners.length) (fun j=>[(4,.int .i64 j),(3,.sl [13] (.rInts (zaM c.voters (c.learners.take j))))]) (fun _=>[]) (fun j=>c.learners.length-j) 0 (Nat.zero_le _) (p0:=let v0:=c.voters;let v1:=c.learners;(0:Int)=(↑(0:Nat):Int)∧v0=zaM v0 (List.take (0:Nat) v1)∧v0.length≤17592186044416∧v0=v0∧v1=v1∧True) (by kernel_rfl) ?_ 300 (p:=fun (x:Nat) (V:List PE→Prop)=>let v1:=(↑x:Int);let v2:=(↑(c.learners.length):Int);let v3:=zaM c.voters (List.take x c.learners);let v4:=decide (v1<v2);True∧True∧(v4=true→((0:Int)≤v1∧v1<v2∧v3.length≤1000000∧True)∧True∧V [PE.a])∧(v4=false→True∧v3=allC c∧True)) (by intro x;kernel_rfl) ?_
 ·simp [zaM];have:=hc.1;omega
 ·rintro j hj
  have hl44:=hk.voters.1
  have hl45:=hk.learners.1
  have hpl:=zey c.voters (c.learners.take j)
  simp only [imp_self,implies_true,true_and,and_true,decide_eq_true_eq,decide_eq_false_iff_not]
  have hlen:=zuu hm
  have htl:(c.learners.take j).length≤c.learners.length:=by simp;omega
  refine ⟨fun h6=>⟨⟨by omega,h6,by omega⟩,?_⟩,fun h6=>?_⟩
  ·refine Back.mk (j+1) (by omega) (by omega) (p0:=let v0:=c.learners;let v1:=c.voters;let v2:=putL (zaM v1 (List.take j v0)) (List.getD v0 j (0:Int));IntKind.wrap IntKind.i64 ((↑j:Int)+(1:Int))=(↑(j+(1:Nat)):Int)∧v2=zaM v1 (List.take (j+(1:Nat)) v0)∧v2.length≤17592186044416∧v1=v1∧v0=v0∧True) (by kernel_rfl) ?_
   simp only [true_and,and_true,zbj (i:=j) (by omega)]
   have hpl2:=zeY (zaM c.voters (c.learners.take j)) (c.learners.getD j 0)
   exact ⟨by omega,(hsn j (by omega)).symm,by omega⟩
  ·obtain rfl:j=c.learners.length:=by omega
   simp [allC,hm]
def zwy:Ent:=ent1 175 dConfig fun c=>([zaq c],.sl [1] (.rInts (allC c)),D2)
theorem zs0:zaf Tryz.prog zwy:=zan (zov default (by unfold zaq;decide)).1 fun c h=>zov c (h _ (by simp))
def seqC:Int→List Entry→Bool
 | _,[]=>true
 | s,e::l=>(e.index==s+1)&&seqC (s+1) l
theorem seqC_iff:∀ {l:List Entry} {s:Int},seqC s l=true↔∀ i,i<l.length→(l.getD i default).index=s+1+i
 | [],s=>by simp [seqC]
 | e::l,s=>by
  simp only [seqC,Bool.and_eq_true,beq_iff_eq,seqC_iff (l:=l)]
  constructor
  ·rintro ⟨h1,h2⟩ i hi
   cases i with
   | zero=>simp only [List.getD_cons_zero];omega
   | succ i=>
    have:=h2 i (by simpa using hi)
    simp only [List.getD_cons_succ];omega
  ·intro h
   refine ⟨by have:=h 0 (by simp);simp only [List.getD_cons_zero] at this;omega,fun i hi=>?_⟩
   have:=h (i+1) (by simpa using hi)
   simp only [List.getD_cons_succ] at this;omega
def onC (k:Kept):Bool:=decide (0≤k.snap.index)&&decide (k.entries.length≤10000)&&seqC k.snap.index k.entries
theorem onC_iff {k:Kept}:onC k=true↔onP k:=by
 unfold onC onP okAt Kept.en
 simp only [Bool.and_eq_true,decide_eq_true_eq,seqC_iff,and_assoc]
 constructor
 ·rintro ⟨h1,h2,h3⟩
  exact ⟨h1,h2,fun i hi=>by have:=h3 i hi;omega⟩
 ·rintro ⟨h1,h2,h3⟩
  exact ⟨h1,h2,fun i hi=>by have:=h3 i hi;omega⟩
theorem zko (k:Kept):onB k=onC k:=by rw [Bool.eq_iff_iff,onB_iff,onC_iff]
theorem zkn {k:Kept} (h:onC k=true) {i:Nat} (hi:i<k.entries.length):(k.entries.getD i default).index=k.snap.index+1+i:=by
 unfold onC at h
 simp only [Bool.and_eq_true] at h
 exact seqC_iff.1 h.2 i hi
theorem zcY {k:Kept} (h:onC k=true):0≤k.snap.index∧k.entries.length≤10000:=by
 unfold onC at h
 simp only [Bool.and_eq_true,decide_eq_true_eq] at h
 exact h.1
def zal (k:Kept):Int×Int:=if onC k then zjm k else (0,0)
theorem zkx (k:Kept):zaS k=zal k:=by rw [zhF,zal,zko]
theorem zau {k:Kept} (h:onC k=true):(zal k).1=k.snap.index+k.entries.length:=by
 rw [zal,if_pos h,zjm]
 split
 ·rename_i h0;rw [h0];simp [zhz]
 ·rename_i h0
  show (k.entries.getD _ default).index=_
  rw [zkn h (by omega)];omega
def zaz (k:Kept) (i:Int):Int×Int:=
 if onC k then (if i=k.snap.index then (k.snap.term,0) else if k.snap.index<i∧i≤k.snap.index+k.entries.length then ((k.entries.getD (i-k.snap.index-1).toNat default).term,0) else (0,150)) else (0,1)
theorem zfq (k:Kept) (i:Int):zaE k i=zaz k i:=by
 unfold zaz
 by_cases h:onC k=true
 ·have hb:onB k=true:=by rw [zko];exact h
  rw [if_pos h]
  split
  ·rename_i e;subst e;exact zgn hb
  ·rename_i h0
   split
   ·rename_i h1
    have hj:(i-k.snap.index-1).toNat<k.entries.length:=by omega
    have:=zhq hb hj
    have e:(k.en (i-k.snap.index-1).toNat).index=i:=by
     show (k.entries.getD _ default).index=i
     rw [zkn h hj];omega
    rw [e] at this;exact this
   ·rename_i h1
    refine zeq hb h0 fun j hj e=>h1 ?_
    have:(k.en j).index=_:=zkn h hj
    omega
 ·have h2:onC k=false:=by simpa using h
  rw [if_neg h];exact zi3 (by rw [zko];exact h2) i
def zeJ (k:Kept) (i t:Int):Bool:=zoG (onC k) (zal k) i t
theorem zrQ (k:Kept) (i t:Int):ziX k i t=zeJ k i t:=by rw [ziX,zeJ,zko,zkx]
def zlB (k:Kept) (a m:Int):List Entry:=(k.entries.drop (a-1-k.snap.index).toNat).take m.toNat
def zd4 (k:Kept) (a:Int):Bool:=onC k&&(decide (k.snap.index<a)&&decide (a-1≤k.snap.index+k.entries.length))
def zb5 (k:Kept) (a m:Int):List Entry×Int:=if onC k then (if zd4 k a then (zlB k a m,0) else ([],150)) else ([],1)
def cfgB (i:Int) (e:Entry):Bool:=decide (e.index≤i)&&e.kind==2
def cfgR (k:Kept) (i:Int):Config×Int:=match k.entries.reverse.find? (cfgB i) with
 | some e=>(e.config,e.index)
 | none=>(k.snap.config,k.snap.index)
def zap (k:Kept) (i:Int):Config×Int×Int:=if (zaz k i).2=0 then ((cfgR k i).1,(cfgR k i).2,0) else (default,0,(zaz k i).2)
def zkM:Ent:=ent1 57 dKept fun k=>([],.int .i64 (err (onC k)),D2)
theorem zgX:zaf Tryz.prog zkM:=zan (zfi default).1 fun k _=>by rw [← zko];exact zfi k
def eOnC:Ent:=ent1 63 dKept fun k=>([],.bool (onC k),D2)
theorem zkE:zaf Tryz.prog eOnC:=zan (zrO default).1 fun k _=>by rw [← zko];exact zrO k
def zjH:Ent:=ent1 55 dKept fun k=>([],.tup [.int .i64 (zal k).1,.int .i64 (zal k).2],D2)
theorem zed:zaf Tryz.prog zjH:=zan (zhE default).1 fun k _=>by rw [← zkx];exact zhE k
def ze8:Ent:=ent1 64 dKept fun k=>([],.tup [.int .i64 (zal k).1,.int .i64 (zal k).2],D2)
theorem zcy:zaf Tryz.prog ze8:=zan (zeW default).1 fun k _=>by rw [← zkx];exact zeW k
def zfL:Ent:=ent2 98 dKept dInt fun k i=>([],.tup [.int .i64 (zaz k i).1,.int .i64 (zaz k i).2],D2)
theorem zcx:zaf Tryz.prog zfL:=zav (zho default 0).1 fun k i _=>by rw [← zfq];exact zho k i
def zk8:Ent:=ent2 101 dKept dInt fun k i=>([],.tup [.int .i64 (zaz k i).1,.int .i64 (zaz k i).2],D2)
theorem zgO:zaf Tryz.prog zk8:=zav (zeV default 0).1 fun k i _=>by rw [← zfq];exact zeV k i
theorem znL {E:Env} {w:World} {s t u:SV} {vals:List Value} (h:DenL E w [s,t,u] vals):∃ v x y,vals=[v,x,y]∧DenV E w s v∧DenV E w t x∧DenV E w u y:=by
 match vals,h with
 | [v,x,y],h=>exact ⟨v,x,y,rfl,h.1,h.2.1,h.2.2.1⟩
theorem zlT (k:Kept) (i t:Int):FnC Tryz.prog 149 [dKept.can k,dInt.can i,dInt.can t] (.bool (zeJ k i t)) D2:=FnC.of_bool (fnB Tryz.func149 (by decide) rfl) fun w E vals hd=>by
 obtain ⟨v,u,y,rfl,⟨xs,rfl,hl⟩,⟨rfl,_⟩,⟨rfl,_⟩⟩:=znL hd
 rw [← zrQ];exact zoF xs k i t w _ (Kept.svs_rd hl)
def zw3:Ent:=ent3 149 dKept dInt dInt fun k i t=>([],.bool (zeJ k i t),D2)
theorem zjE:zaf Tryz.prog zw3:=zk6 (zlT default 0 0).1 fun k i t _=>zlT k i t
def tabK:List Ent:=[zkM,eOnC,zjH,ze8,zfL,zk8,zuO,zpT,zt5]
theorem zhx:∀ e∈tabK,zaf Tryz.prog e:=zaa zgX (zaa zkE (zaa zed (zaa zcy (zaa zcx (zaa zgO (zaa zmm (zaa znn (zaa zpQ zad))))))))
theorem zmN {k:Kept} {a:Int} (ho:onC k=true) (ha:I64 a):(decide (a≤k.snap.index)||decide (IntKind.i64.wrap (a-1)>(zal k).1))=!zd4 k a:=by
 have hb:=zcY ho
 rw [zau ho,zd4,ho]
 by_cases h:a≤k.snap.index
 ·simp [h,Int.not_lt.2 h]
 ·rw [zbu ⟨by omega,by have:=ha.2;omega⟩]
  by_cases h2:a-1≤k.snap.index+k.entries.length
  ·have:¬ a-1>k.snap.index+k.entries.length:=by omega
   simp [h,h2,this];omega
  ·have:a-1>k.snap.index+k.entries.length:=by omega
   simp [h,h2,this]
theorem zr5 {k:Kept} {a:Int} (h:zd4 k a=true):k.snap.index<a∧a-1≤k.snap.index+k.entries.length:=by
 unfold zd4 at h
 simp only [Bool.and_eq_true,decide_eq_true_eq] at h
 exact h.2
theorem zsm {b:Bool}:(err b != (0:Int))=!b:=by cases b<;>rfl
theorem zlA (k:Kept) (a m:Int) (hs:zb2 k) (hm0:0≤m):FnC Tryz.prog 188 [dKept.can k,dInt.can a,dInt.can m] (.tup [.sl [1] (.rEntry (zb5 k a m).1),.int .i64 (zb5 k a m).2]) D2:=by
 refine FnC.g3 dKept dInt dInt k a m (fnB Tryz.func188 (by decide) rfl) fun hk ha hm=>?_
 refine FnG.of_vc (zaj zhx fun _=>none) Tryz.func188 rfl (by decide) rfl 300 (p:=fun (V:List PE→Prop)=>let v0:=k.snap.index;let v2:=(↑(k.entries.length):Int);let v3:=Prod.snd (zb5 k a m);let v4:=err (onC k) != 0;let v5:=decide (a≤v0);let v6:=IntKind.wrap IntKind.i64 (a-(1:Int));let v7:=IntKind.wrap IntKind.i64 (v6-v0);let v8:=zac v5 true (decide (v6>(Prod.fst (zal k))));True∧True∧True∧True∧(v4=true→True∧Prod.fst (zb5 k a m)=[]∧err (onC k)=v3∧True)∧(v4=false→True∧(((!v5)=true→(!v5)=true)∧((!v5)=true→(!v5)=true)∧((!v5)=true→(!v5)=true)∧(v5=false→(!v5)=true)∧True)∧True∧(v8=true→True∧Prod.fst (zb5 k a m)=[]∧(150:Int)=v3∧True)∧(v8=false→True∧((0:Int)≤v7∧v7≤v2∧v2≤v2∧True)∧V [PE.b,PE.b]))) (by kernel_rfl) ?_
 simp only [imp_self,implies_true,true_and,and_true,zae,zag,zsm,List.take_length]
 have hkl:=hk.entries.1
 refine ⟨fun h=>?_,fun h=>?_⟩
 ·have h:onC k=false:=by simpa using h
  simp [zb5,h,err]
 have h:onC k=true:=by simpa using h
 rw [zmN h ha]
 have hb:=zcY h
 refine ⟨fun h2=>by rw [h2];rfl,fun h2=>?_,fun h2=>?_⟩
 ·have h2:zd4 k a=false:=by simpa using h2
  simp [zb5,h,h2]
 have h2:zd4 k a=true:=by simpa using h2
 obtain ⟨h3,h4⟩:=zr5 h2
 have hw:IntKind.i64.wrap (IntKind.i64.wrap (a-1)-k.snap.index)=a-1-k.snap.index:=by
  have ha2:a≤9223372036854775807:=ha.2
  rw [zbu (n:=a-1) ⟨by omega,by omega⟩,zbu ⟨by omega,by omega⟩]
 refine ⟨by rw [hw];omega,?_⟩
 have he:zb5 k a m=(zlB k a m,0):=by rw [zb5,if_pos h,if_pos h2]
 generalize hX:k.entries.drop (a-1-k.snap.index).toNat=X at *
 have hXl:X.length≤k.entries.length:=by rw [← hX,List.length_drop];omega
 have hXs:∀ j,j<X.length→zcH (X.getD j default):=fun j hj=>hs.1.2 _ (by rw [← hX] at hj ⊢;exact List.mem_of_mem_drop (za8 hj))
 refine LoopG.head (zaj zhx fun _=>none) 0 (A:=Nat) (fun j=>j≤X.length∧j≤m.toNat) (fun j=>[(45,.int .i64 j),(44,.int .i64 (X.length:Int)),(43,.sl [0] (.rEntry X)),(11,.own 11)]) (fun j=>[(11,.row 89 [12] (.rEntry (X.take j))),(12,.dead)]) (fun j=>X.length-j) 0 ⟨Nat.zero_le _,Nat.zero_le _⟩ (p0:=let v0:=List.drop (Int.toNat (IntKind.wrap IntKind.i64 (IntKind.wrap IntKind.i64 (a-(1:Int))-k.snap.index))) (List.take k.entries.length k.entries);(0:Int)=(↑(0:Nat):Int)∧(↑(v0.length):Int)=(↑(List.length X):Int)∧v0=X∧(0:Int)=0∧m=m∧List.take (0:Nat) X=[]∧True) (by kernel_rfl) ?_ 300 (p:=fun (x:Nat) (V:List PE→Prop)=>let v0:=(↑x:Int);let v1:=(↑(List.length X):Int);let v2:=List.length (List.take x X);let v3:=List.getD X x default;let v6:=decide (v0<v1);let v7:=decide ((↑v2:Int)≥m);True∧True∧(v6=true→((0:Int)≤v0∧v0<v1∧True)∧True∧True∧(v7=true→True∧List.take x X=Prod.fst (zb5 k a m)∧v2≤17592186044416∧(0:Int)=Prod.snd (zb5 k a m)∧True)∧(v7=false→(v3.config.voters.length≤1000000∧v3.config.learners.length≤1000000∧(v2+List.length [v3])*(1024:Nat)≤140737488355328∧True)∧True∧V [PE.a,PE.b]))∧(v6=false→True∧List.take x X=Prod.fst (zb5 k a m)∧v2≤17592186044416∧(0:Int)=Prod.snd (zb5 k a m)∧True)) (by intro x;kernel_rfl) ?_
 ·simp only [List.take_length];rw [hw,hX];simp
 ·rintro j ⟨hj,hjm⟩
  simp only [imp_self,implies_true,true_and,and_true,decide_eq_true_eq,decide_eq_false_iff_not,List.length_take,Nat.min_eq_left hj]
  refine ⟨fun h6=>⟨by omega,fun h7=>?_,fun h7=>⟨?_,?_⟩⟩,fun h6=>?_⟩
  ·have:j=m.toNat:=by omega
   subst this
   rw [he,zlB,hX];simp;omega
  ·have:=hXs j (by omega)
   exact ⟨this.1,this.2,by simp only [List.length_cons,List.length_nil];omega⟩
  ·refine Back.mk (j+1) ⟨by omega,by omega⟩ (by omega) (p0:=let v0:=(↑(List.length X):Int);IntKind.wrap IntKind.i64 ((↑j:Int)+(1:Int))=(↑(j+(1:Nat)):Int)∧v0=v0∧X=X∧(0:Int)=0∧m=m∧List.take j X++[List.getD X j default]=List.take (j+(1:Nat)) X∧True) (by kernel_rfl) ?_
   simp only [true_and,and_true,zbj (i:=j) (by omega)]
   exact ⟨by omega,by rw [za3 (d:=default) (by omega)]⟩
  ·have:j=X.length:=by omega
   subst this
   rw [he,zlB,hX,List.take_of_length_le hjm];simp;omega
theorem zeG (k:Kept) (i:Int) (hs:zb2 k):FnC Tryz.prog 102 [dKept.can k,dInt.can i] (.tup [.agg ((zap k i).1.svs [1]),.int .i64 (zap k i).2.1,.int .i64 (zap k i).2.2]) D2:=by
 refine FnC.g2 dKept dInt k i (fnB Tryz.func102 (by decide) rfl) fun hk ha=>?_
 refine FnG.of_vc (zaj zhx fun _=>none) Tryz.func102 rfl (by decide) rfl 300 (p:=fun (V:List PE→Prop)=>let v0:=k.snap.config;let v3:=Prod.snd (zap k i);let v4:=Prod.fst (zap k i);let v6:=decide (i<k.snap.index);let v7:=zac v6 true (decide (i>(Prod.fst (zal k))));True∧True∧True∧((!onC k)=true→True∧v4.voters=[]∧v4.learners=[]∧(0:Int)=Prod.fst v3∧(1:Int)=(Prod.snd v3)∧True)∧((!onC k)=false→True∧(((!v6)=true→(!v6)=true)∧((!v6)=true→(!v6)=true)∧(v6=false→(!v6)=true)∧True)∧True∧(v7=true→True∧v4.voters=[]∧v4.learners=[]∧(0:Int)=Prod.fst v3∧(150:Int)=(Prod.snd v3)∧True)∧(v7=false→(v0.voters.length≤1000000∧v0.learners.length≤1000000∧True)∧True∧True∧V [PE.b,PE.b]))) (by kernel_rfl) ?_
 simp only [imp_self,implies_true,true_and,and_true,zae,zag]
 have hkl:=hk.entries.1
 refine ⟨fun h=>?_,fun h=>?_⟩
 ·have h:onC k=false:=by simpa using h
  simp [zap,zaz,h];decide
 have h:onC k=true:=by simpa using h
 have hb:=zcY h
 rw [zau h]
 have hcond:(decide (i<k.snap.index)||decide (i>k.snap.index+k.entries.length))=!((zaz k i).2==0):=by
  unfold zaz
  rw [if_pos h]
  by_cases h1:i=k.snap.index
  ·subst h1;simp;omega
  ·rw [if_neg h1]
   by_cases h2:k.snap.index<i∧i≤k.snap.index+k.entries.length
   ·rw [if_pos h2];simp;omega
   ·rw [if_neg h2];simp;omega
 rw [hcond]
 refine ⟨fun h2=>by rw [h2];rfl,fun h2=>?_,fun h2=>⟨hs.2,?_⟩⟩
 ·have h2:¬ (zaz k i).2=0:=by simpa using h2
  have h3:(zaz k i).2=150:=by
   revert h2;unfold zaz;rw [if_pos h]
   split
   ·simp
   ·split<;>simp
  rw [zap,if_neg h2,h3];exact ⟨rfl,rfl,rfl,rfl⟩
 have h2:(zaz k i).2=0:=by simpa using h2
 have he:zap k i=((cfgR k i).1,(cfgR k i).2,0):=by rw [zap,if_pos h2]
 rw [he]
 refine LoopG.head (zaj zhx fun _=>none) 0 (A:=Nat) (fun j=>j≤k.entries.length) (fun j=>[(11,.int .i64 j),(10,.int .i64 (cfgR ⟨k.term,k.vote,k.snap,k.entries.take j⟩ i).2)]) (fun j=>[(99,.cells 25 ((cfgR ⟨k.term,k.vote,k.snap,k.entries.take j⟩ i).1.svs [82]))]) (fun j=>k.entries.length-j) 0 (Nat.zero_le _) (p0:=let v1:=k.entries;let v2:=k.snap;let v7:=v2.index;let v8:=v2.config.voters;let v9:=v2.config.learners;let v10:=cfgR (Kept.mk k.term k.vote v2 (List.take (0:Nat) v1)) i;(0:Int)=(↑(0:Nat):Int)∧v7=Prod.snd v10∧(0:Int)=0∧(0:Int)=0∧i=i∧v8=Config.voters (Prod.fst v10)∧v9=Config.learners (Prod.fst v10)∧k.term=k.term∧k.vote=k.vote∧v7=v7∧v2.term=v2.term∧v8=v8∧v9=v9∧v2.data=v2.data∧v1=v1∧True) (by kernel_rfl) ?_ 300 (p:=fun (x:Nat) (V:List PE→Prop)=>let v0:=k.entries;let v1:=(↑x:Int);let v2:=Prod.fst (cfgR k i);let v3:=(↑(v0.length):Int);let v4:=List.getD v0 x default;let v7:=cfgR (Kept.mk k.term k.vote k.snap (List.take x v0)) i;let v9:=v4.kind==2;let v10:=decide (v1<v3);True∧True∧(v10=true→((0:Int)≤v1∧v1<v3∧True)∧((v9=true→v9=true)∧(v9=true→v9=true)∧(v9=true→v9=true)∧(v9=true→v9=true)∧True)∧((zac v9 (decide (v4.index≤i)) false=true→v4.config.voters.length≤1000000)∧(zac v9 (decide (v4.index≤i)) false=true→v4.config.learners.length≤1000000)∧True)∧True∧V [PE.a])∧(v10=false→True∧Config.voters (Prod.fst v7)=v2.voters∧Config.learners (Prod.fst v7)=v2.learners∧Prod.snd v7=Prod.snd (cfgR k i)∧(0:Int)=0∧True)) (by intro x;kernel_rfl) ?_
 ·simp [cfgR]
 ·rintro j hj
  simp only [imp_self,implies_true,true_and,and_true,decide_eq_true_eq,decide_eq_false_iff_not]
  have hsn:j<k.entries.length→cfgR ⟨k.term,k.vote,k.snap,k.entries.take (j+1)⟩ i=if cfgB i (k.entries.getD j default) then ((k.entries.getD j default).config,(k.entries.getD j default).index) else cfgR ⟨k.term,k.vote,k.snap,k.entries.take j⟩ i:=by
   intro hj
   unfold cfgR
   simp only
   rw [za3 (d:=default) hj,List.reverse_append]
   simp only [List.reverse_cons,List.reverse_nil,List.nil_append,List.singleton_append,List.find?_cons]
   cases cfgB i (k.entries.getD j default)<;>rfl
  have hkb:zac ((k.entries.getD j default).kind==2) (decide ((k.entries.getD j default).index≤i)) false=cfgB i (k.entries.getD j default):=by
   unfold cfgB zac;cases ((k.entries.getD j default).kind==2)<;>simp
  rw [hkb]
  refine ⟨fun h6=>?_,fun h6=>?_⟩
  ·have hse:=hs.1.2 _ (za8 (d:=(default:Entry)) (show j<k.entries.length by omega))
   refine ⟨by omega,⟨fun _=>hse.1,fun _=>hse.2⟩,?_⟩
   refine Back.mk (j+1) (by omega) (by omega) (p0:=let v0:=k.vote;let v1:=k.snap;let v2:=k.entries;let v3:=k.term;let v5:=v1.config;let v10:=List.getD v2 j default;let v13:=cfgR (Kept.mk v3 v0 v1 (List.take j v2)) i;let v15:=cfgR (Kept.mk v3 v0 v1 (List.take (j+(1:Nat)) v2)) i;let v17:=zac (v10.kind==2) (decide (v10.index≤i)) false;IntKind.wrap IntKind.i64 ((↑j:Int)+(1:Int))=(↑(j+(1:Nat)):Int)∧zas v17 v10.index (Prod.snd v13)=Prod.snd v15∧(0:Int)=0∧(0:Int)=0∧i=i∧(if v17=true then v10.config.voters else Config.voters (Prod.fst v13))=Config.voters (Prod.fst v15)∧(if v17=true then v10.config.learners else Config.learners (Prod.fst v13))=Config.learners (Prod.fst v15)∧v3=v3∧v0=v0∧v1.index=v1.index∧v1.term=v1.term∧v5.voters=v5.voters∧v5.learners=v5.learners∧v1.data=v1.data∧v2=v2∧True) (by kernel_rfl) ?_
   simp only [true_and,and_true,zbj (i:=j) (by omega),hkb]
   rw [hsn (by omega)]
   cases cfgB i (k.entries.getD j default)
   ·exact ⟨by omega,rfl,rfl,rfl⟩
   ·exact ⟨by omega,rfl,rfl,rfl⟩
  ·have:j=k.entries.length:=by omega
   subst this
   rw [List.take_length];exact ⟨rfl,rfl,rfl⟩
def zt2:Ent:=ent3 188 dKept dInt dInt fun k a m=>([zb2 k,0≤m],.tup [.sl [1] (.rEntry (zb5 k a m).1),.int .i64 (zb5 k a m).2],D2)
theorem zh0:zb2 default:=⟨⟨by decide,fun x h=>by cases h⟩,by unfold zaq;decide⟩
theorem zpK:zaf Tryz.prog zt2:=zk6 (zlA default 0 0 zh0 (by decide)).1 fun k a m h=>zlA k a m (h _ (by simp)) (h _ (by simp))
def zt7:Ent:=ent2 102 dKept dInt fun k i=>([zb2 k],.tup [.agg ((zap k i).1.svs [1]),.int .i64 (zap k i).2.1,.int .i64 (zap k i).2.2],D2)
theorem zpV:zaf Tryz.prog zt7:=zav (zeG default 0 zh0).1 fun k i h=>zeG k i (h _ (by simp))
end Go.Proofs.YteabcgkjbnecaaaGreat
namespace Go.Proofs.YteabcgkjbnecaaaGreat
open Go.RowKit Go.ChangeShapes Go.WideShapes Go.Deep
def E0 (S:Nat→Prop):Env:=⟨fun _=>none,fun i b=>i=0∧S b,fun _ _=>False⟩
theorem mem0 {w:World} {S:Nat→Prop} (hS:∀ b,S b→b<w.heap.size):MemOk w.heap.size (cxIn (E0 S) D2 1) w (E0 S) (mOf D2) w:=by
 have hl:∀ t,(mOf D2 t).live=false:=by intro t;rw [mD2];split<;>rfl
 refine ⟨fun t ht=>⟨rfl,fun b hb=>?_⟩,fun t T vs ht=>?_,fun t T ls r ht=>?_,fun i b hb=>⟨hS b hb.2,fun h=>?_⟩,fun i j b hi hj=>hi.1.trans hj.1.symm,fun i hi he=>?_,fun t b hh=>absurd hh zeE,fun i b _ hb=>hb,fun t u b h1=>absurd h1 zeE,fun t v h=>?_,BelowX.refl _ _ _,Nat.le_refl _,fun t o ht=>by have:=hl t;rw [ht] at this;cases this⟩
 ·have:=hb.1;subst this;rw [mD2] at ht;simp at ht
 ·have:=hl t;rw [ht] at this;cases this
 ·have:=hl t;rw [ht] at this;cases this
 ·have:=hb.1;simp [cxIn] at h;omega
 ·rw [mD2] at he
  simp [cxIn] at hi;subst hi;simp at he
 ·simp only [cxIn] at h
  split at h
  ·exact h
  ·cases h
theorem zpd {f:FuncId} {ins:List SV} (h:FnC Tryz.prog f ins (.bool true) D2) (w:World) (S:Nat→Prop) (hS:∀ b,S b→b<w.heap.size) (vals:List Value) (hd:DenL (E0 S) w ins vals):Calls Tryz.prog f vals.toArray w fun e w'=>e = .returned (.bool true)∧Below w.heap.size w w' :=
 (h.2 w (E0 S) vals (mem0 hS) hd).mono (by
  rintro e w' ⟨v,E',rfl,hv,hm⟩
  refine ⟨by rw [show v = .bool true from hv],hm.below.os,hm.below.tape,hm.below.output,hm.below.size,fun b hb=>hm.below.block b hb (fun ⟨t,ht⟩=>zeE ht)⟩)
theorem zhj {S:Nat→Prop} {b:Nat} (h:S b):(E0 S).set [0] b:=⟨0,by simp,rfl,h⟩
theorem ztM {w w':World} {S:Nat→Prop} {E':Env} (hm:MemOk w.heap.size (cxIn (E0 S) D2 1) w E' (mOf D2) w') {i b:Nat} (hi:1≤i) (h:E'.σ i b):w.heap.size≤b:=
 ((hm.lab i b h).2 hi).resolve_right (fun ⟨t,ht⟩=>zeE ht)
theorem zmF {w w':World} {S:Nat→Prop} {E':Env} (hm:MemOk w.heap.size (cxIn (E0 S) D2 1) w E' (mOf D2) w'):Below w.heap.size w w' :=
 ⟨hm.below.os,hm.below.tape,hm.below.output,hm.below.size,fun b hb=>hm.below.block b hb (fun ⟨t,ht⟩=>zeE ht)⟩
end Go.Proofs.YteabcgkjbnecaaaGreat
namespace Go.Proofs.YteabcgkjbnecaaaGreat
open Go.RowKit Go.Shelf
attribute [local go_sem] Oper.semAt_some
def zwN (w:World) (c:Config) (at_ er:Int) (e:Ending) (w':World):Prop:=∃ vs:List Value,e = .returned (.tuple #[.agg vs.toArray,.int .i64 at_,.int .i64 er])∧RdL w' (fun b=>w.heap.size≤b) Config.ty vs c.enc∧Below w.heap.size w w'
theorem zlO (vs:List Value) (c:Config) (w:World) (S:Nat→Prop) (h:RdL w S Config.ty vs c.enc) (hc:c.voters.length≤1000000∧c.learners.length≤1000000) :
  Calls Tryz.prog 163 #[.agg vs.toArray] w (fun e w'=>∃ us:List Value,e = .returned (.agg us.toArray)∧RdL w' (fun b=>w.heap.size≤b) Config.ty us c.enc∧Below w.heap.size w w'):=
 ((zcW c hc).2 w (E0 fun b=>b<w.heap.size) [.agg vs.toArray] (mem0 fun _ hb=>hb) ⟨⟨vs,rfl,Config.svs_of (h.mono fun b hb _=>zhj hb)⟩,trivial⟩).mono (by
  rintro e w' ⟨v,E',rfl,⟨us,rfl,hl⟩,hm⟩
  exact ⟨us,rfl,RdL.mono (fun b _ ⟨i,hi,hs⟩=>ztM hm (by simp at hi;omega) hs) (Config.svs_rd hl),zmF hm⟩)
theorem Rd.ints_own {w w':World} {S:Nat→Prop} {v:Value} {d:D} (h:Rd w S (.sl [.int .i64]) v d) (hz:w.heap.size≤w'.heap.size)
  (hs:∀ b o,S b→w.heap[b]? = some o→o.isCells=true→w'.heap[b]? = w.heap[b]?):Rd w' S (.sl [.int .i64]) v d:=by
 cases h with
 | emp h h'=>exact .emp h h'
 | @row _ b off n c rows vals h1 h2 h3 h4 h5 h6 h7 h8 h9 h10 h11=>
  have hb:w'.heap[b]? = w.heap[b]? := by
   have h0:=h8 0 0 h1 (by decide)
   cases ho:w.heap[b]? with
   | none=>rw [Array.getElem?_eq_none_iff] at ho;omega
   | some o=>
    rw [← ho]
    refine hs b o h6 ho ?_
    unfold World.cell? at h0
    cases o<;>simp_all [Obj.isCells]
  have hS:Same (fun x=>x=b) w w':=⟨hz,fun x hx _=>by rw [hx];exact hb⟩
  refine .row vals h1 h2 h3 h4 h5 h6 (by omega) (fun i j hi hj=>by rw [hS.cell rfl h7];exact h8 i j hi hj) h9 (fun i j hi hj=>?_) (fun i j hi hj=>by rw [hS.frozen rfl h7];exact h11 i j hi hj)
  have:=h10 i j hi hj
  have e:([Ty.int .i64]:List Ty).getD j default = .int .i64:=by
   have:j=0:=by simp at hj;omega
   subst this;rfl
  rw [e] at this ⊢
  generalize vals i j=u at this
  generalize (rows.getD i []).getD j default=dd at this
  cases this with
  | int h=>exact .int h
theorem zd7 {β:Type} {B n:Nat} {vs:List Value} {c:Config}:OwnFrom B (fun (_:β) W=>RdL W (fun b=>n≤b) Config.ty vs c.enc):=fun s A C row hs hg hr=>by
 match vs,hs with
 | [v0,v1],hs=>
  have hb:∀ b o,n≤b→A.heap[b]? = some o→o.isCells=true→C.heap[b]? = A.heap[b]? := fun b o _ ho hc=>by
   refine hg.block b (Array.getElem?_eq_some_iff.1 ho).1 fun e=>?_
   obtain ⟨_,o',ho',hc'⟩:=hr b e.symm
   rw [ho] at ho';cases ho';rw [hc] at hc';cases hc'
  exact ⟨hs.1.ints_own hg.size hb,hs.2.1.ints_own hg.size hb,trivial⟩
def cfB (i:Int) (e:Entry):Bool:=decide (e.index≤i)&&e.kind==2
def cfF (k:Kept) (i:Int):Config×Int:=match k.entries.reverse.find? (cfB i) with
 | some e=>(e.config,e.index)
 | none=>(k.snap.config,k.snap.index)
theorem zoV (k:Kept):∀ n,n≤k.entries.length→(dn k.entries.length n).map k.en=k.entries.reverse.take n
 | 0,_=>by simp [dn]
 | n+1,h=>by
  rw [zkP,List.map_append,zoV k n (by omega),List.take_add_one]
  congr 1
  rw [List.getElem?_reverse (by omega)]
  simp [Kept.en,List.getD,show k.entries.length-1-n<k.entries.length by omega]
theorem zvi {k:Kept} {i:Int} {ini:List Nat} {x n:Nat} (hn:n≤k.entries.length) (h:ini++[x]=dn k.entries.length n) (h0:∀ y∈ini,cfB i (k.en y)=false) (h1:cfB i (k.en x)=true):cfF k i=((k.en x).config,(k.en x).index):=by
 have e:k.entries.reverse=(ini++[x]).map k.en++k.entries.reverse.drop n:=by rw [h,zoV k n hn,List.take_append_drop]
 have:k.entries.reverse.find? (cfB i)=some (k.en x):=by
  rw [e,List.map_append,List.append_assoc,List.find?_append]
  have:(ini.map k.en).find? (cfB i)=none:=by
   rw [List.find?_eq_none];intro p hp
   obtain ⟨y,hy,rfl⟩:=List.mem_map.1 hp
   simp [h0 y hy]
  simp [this,h1]
 rw [cfF,this]
theorem zsI {k:Kept} {i:Int} (h0:∀ y∈dn k.entries.length k.entries.length,cfB i (k.en y)=false):cfF k i=(k.snap.config,k.snap.index):=by
 have:k.entries.reverse.find? (cfB i)=none:=by
  rw [← List.take_of_length_le (l:=k.entries.reverse) (i:=k.entries.length) (by simp),← zoV k _ (Nat.le_refl _),List.find?_eq_none]
  intro p hp
  obtain ⟨y,hy,rfl⟩:=List.mem_map.1 hp
  simp [h0 y hy]
 rw [cfF,this]
def zev:Nat→Value
 | 0=> .int .i64 0
 | 1=> .int .i64 0
 | 2=> .int .i64 0
 | 3=> .slice none 0 0
 | 4=> .slice none 0 0
 | _=> .string (default:Entry).data
theorem zp9 {k:Kept} {x:Nat} (h:¬ x<k.entries.length):k.en x=default:=by
 unfold Kept.en;rw [List.getD_eq_getElem?_getD,List.getElem?_eq_none (by omega)];rfl
theorem zp8 {w:World} {S:Nat→Prop} {a:Option Addr} {c:Nat} {k:Kept} (h:Sl w S Entry.ty a k.entries.length c (k.entries.map Entry.enc)) :
  ∃ ev:Nat→Nat→Value,(∀ x,EvOk (k.en x) (ev x))∧(∀ x,RdL w S Config.ty [ev x 3,ev x 4] (k.en x).config.enc) ∧
   (0<k.entries.length→∃ b off,a=some ⟨b,off,none⟩∧b<w.heap.size∧∀ i j,i<k.entries.length→j<6→w.cell? ⟨b,off+i*6+j,none⟩=some (ev i j)):=by
 have z1:∀ x,¬ x<k.entries.length→EvOk (k.en x) zev:=fun x hx=>by rw [zp9 hx];exact ⟨none,0,none,0,rfl,rfl,rfl,rfl,rfl,rfl⟩
 have z2:∀ x,¬ x<k.entries.length→RdL w S Config.ty [zev 3,zev 4] (k.en x).config.enc:=fun x hx=>by
  rw [zp9 hx];exact ⟨.emp (fun _=>rfl) (Nat.zero_le _),.emp (fun _=>rfl) (Nat.zero_le _),trivial⟩
 by_cases hp:0<k.entries.length
 ·obtain ⟨b,off,e,_,hb,vals,hc,hr⟩:=h.rowAt hp
  refine ⟨fun i=>if i<k.entries.length then vals i else zev,fun x=>?_,fun x=>?_,fun _=>⟨b,off,e,hb,fun i j hi hj=>?_⟩⟩
  ·by_cases hx:x<k.entries.length
   ·obtain ⟨h1,h2⟩:=hr x hx
    have he:(k.entries.map Entry.enc).getD x []=(k.en x).enc:=by simp [Kept.en,List.getD,hx]
    rw [he] at h2
    simp only [if_pos hx]
    obtain ⟨a3,c3,q3,_⟩:=Rd.sl' (h2 3 (by decide))
    obtain ⟨a4,c4,q4,_⟩:=Rd.sl' (h2 4 (by decide))
    rw [zat] at q3 q4
    exact ⟨a3,c3,a4,c4,(Rd.i64 (h2 0 (by decide))).1,(Rd.i64 (h2 1 (by decide))).1,(Rd.i64 (h2 2 (by decide))).1,q3,q4,(Rd.str' (h2 5 (by decide))).1⟩
   ·simp only [if_neg hx]
    exact z1 x hx
  ·by_cases hx:x<k.entries.length
   ·obtain ⟨h1,h2⟩:=hr x hx
    have he:(k.entries.map Entry.enc).getD x []=(k.en x).enc:=by simp [Kept.en,List.getD,hx]
    rw [he] at h2
    simp only [if_pos hx]
    exact ⟨h2 3 (by decide),h2 4 (by decide),trivial⟩
   ·simp only [if_neg hx]
    exact z2 x hx
  ·show _=some ((if i<k.entries.length then vals i else _) j)
   rw [if_pos hi]
   exact hc i j hi hj
 ·exact ⟨fun _=>zev,fun x=>z1 x (by omega),fun x=>z2 x (by omega),fun h=>absurd h hp⟩
theorem zq8 {w Wi W':World} {c:Config} {N g2 g3 g4:Nat} {t2 t3 t4:TypeId} {p0 p1:Option Addr} {n0 d0 n1 d1:Nat} {idx:Int} (hR:RdL W' (fun b=>Wi.heap.size≤b) Config.ty [.slice p0 n0 d0,.slice p1 n1 d1] c.enc) (hB:Below w.heap.size w Wi) (hBW:Below Wi.heap.size Wi.drew W')
  (k2:Blk Wi g2 t2 #[.slice none 0 0,.slice none 0 0]) (k3:Blk Wi g3 t3 #[.int .i64 0]) (k4:Blk Wi g4 t4 #[.int .i64 0]) (h2:w.heap.size≤g2) (h23:g2<g3) (h34:g3<g4) (hN:g4<N) :
  ∀ W'',W''=(((W'.setCell ⟨g2,0,none⟩ (.slice p0 n0 d0)).setCell ⟨g2,1,none⟩ (.slice p1 n1 d1)).setCell ⟨g3,0,none⟩ (.int .i64 idx)).setCell ⟨g4,0,none⟩ (.int .i64 0) →
   KeepsFrom N Wi W''∧RdL W'' (fun b=>w.heap.size≤b) Config.ty [.slice p0 n0 d0,.slice p1 n1 d1] c.enc∧Blk W'' g2 t2 #[.slice p0 n0 d0,.slice p1 n1 d1]∧Blk W'' g3 t3 #[.int .i64 idx]∧Blk W'' g4 t4 #[.int .i64 0]∧Below w.heap.size w W'':=by
 rintro W'' rfl
 have l2:=k2.lt
 have l3:=k3.lt
 have l4:=k4.lt
 have m2:=k2.drew.below hBW l2
 have m3:=k3.drew.below hBW l3
 have m4:=k4.drew.below hBW l4
 have hBx:Below w.heap.size w W':=Below.trans (b:=Wi.drew) ⟨hB.os,hB.tape,hB.output,hB.size,hB.block⟩ (hBW.mono hB.size)
 have sm:∀ M,g4<M→Same (fun b=>M≤b) W' ((((W'.setCell ⟨g2,0,none⟩ (.slice p0 n0 d0)).setCell ⟨g2,1,none⟩ (.slice p1 n1 d1)).setCell ⟨g3,0,none⟩ (.int .i64 idx)).setCell ⟨g4,0,none⟩ (.int .i64 0)):=fun M hM=>
  (((Same.setCell (by show ¬ M≤g2;omega) _).trans (Same.setCell (by show ¬ M≤g2;omega) _)).trans (Same.setCell (by show ¬ M≤g3;omega) _)).trans (Same.setCell (by show ¬ M≤g4;omega) _)
 have s0:Same (fun b=>N≤b) Wi W':=⟨hBW.size,fun b _ hl=>hBW.block b hl⟩
 refine ⟨(s0.trans (sm N hN)).keeps,RdL.mono (fun b _ hb=>Nat.le_trans hB.size hb) (RdL.same (sm Wi.heap.size l4) hR),?_,?_,?_,?_⟩
 ·exact (((m2.set 0 _).set 1 _).far (by show g2≠g3;omega) _).far (by show g2≠g4;omega) _
 ·exact (((m3.far (by show g3≠g2;omega) _).far (by show g3≠g2;omega) _).set 0 _).far (by show g3≠g4;omega) _
 ·exact (((m4.far (by show g4≠g2;omega) _).far (by show g4≠g2;omega) _).far (by show g4≠g3;omega) _).set 0 _
 ·exact (((hBx.setCell h2 _).setCell h2 _).setCell (by show w.heap.size≤g3;omega) _).setCell (by show w.heap.size≤g4;omega) _
def znY (Q:Exit→Act→World→Prop):Exit→Act→World→Prop
 | .normal,a,w=>Q .normal a w
 | _,_,_=>False
theorem zjW {F:Fence} {n:Nat} {P:Program} {c:Code} {Q:Exit→Act→World→Prop} {a:Act} {w:World} (h:c.wpIn F n P (znY Q) a w):c.wpIn F n P Q a w:=
 Code.wpIn_mono (fun e a w h=>by cases e<;>first | exact h | exact h.elim) h
theorem znX {Q:Exit→Act→World→Prop} {a:Act} {w:World} (h:Q .normal a w):znY Q .normal a w:=h
set_option maxRecDepth 100000 in
set_option maxHeartbeats 4000000 in
theorem zn1 (vs:List Value) (k:Kept) (index:Int) (w:World) (S:Nat→Prop) (h:RdL w S Kept.ty vs k.enc)
  (hk:(k.snap.config.voters.length≤1000000∧k.snap.config.learners.length≤1000000)∧∀ x,(k.en x).config.voters.length≤1000000∧(k.en x).config.learners.length≤1000000) (ht:(zaE k index).2=0) :
  Calls Tryz.prog 99 #[.agg vs.toArray,.int .i64 index] w (zwN w (cfF k index).1 (cfF k index).2 0):=by
 have hcall:=fun w' (hb:Below w.heap.size w w')=>zhp vs k index w' S (RdL.same (Same.below hb) h)
 obtain ⟨a4,c4,a5,c5,a7,c7,rfl,b0,b1,b2,b3,s4,s5,b6,s7⟩:=Kept.opens h
 have HC:=Lib.hid hcall
 have H7:=Lib.hid s7
 have H4:=Lib.hid s4
 have H5:=Lib.hid s5
 have HT:=Lib.hid ht
 have HK:=Lib.hid hk
 clear h s4 s5 s7 hcall ht hk
 refine callsIn_wide.1 (callsIn_of_wp_marks (n:=20) Tryz.func99 rfl trivial ?_ rfl)
 simp only [Tryz.ntmps99,List.size_toArray,List.length_cons,List.length_nil,Nat.reduceAdd,Nat.reduceSub,Array.replicate_succ,Array.replicate_zero,List.push_toArray,List.append_toArray,List.nil_append,List.cons_append]
 gi_wp2_with fail
 refine ⟨trivial,?_⟩
 refine (callsIn_wide.2 (HC.out _ ((((((Below.refl _ _).alloc (Nat.le_refl _) _).alloc (by simp) _).alloc (by simp<;>omega) _).alloc (by simp<;>omega) _).alloc (by simp<;>omega) _))).mono ?_
 obtain ⟨W0,hW0⟩:∃ W0,((((w.alloc (.cells #[.int .i64 k.term,.int .i64 k.vote,.int .i64 k.snap.index,.int .i64 k.snap.term,.slice a4 (k.snap.config.voters).length c4,.slice a5 (k.snap.config.learners).length c5,.string k.snap.data,.slice a7 (k.entries).length c7] 30)).alloc (.cells #[.int .i64 index] 3)).alloc (.cells #[.slice none 0 0,.slice none 0 0] 25)).alloc (.cells #[.int .i64 0] 3)).alloc (.cells #[.int .i64 0] 41)=W0:=⟨_,rfl⟩
 rintro e w1 ⟨rfl,B1⟩
 have hz0:W0.heap.size=w.heap.size+5:=by rw [← hW0];simp
 have hB0:Below w.heap.size w W0:=by rw [← hW0];exact ((((((Below.refl _ _).alloc (Nat.le_refl _) _).alloc (by simp) _).alloc (by simp<;>omega) _).alloc (by simp<;>omega) _).alloc (by simp<;>omega) _)
 rw [HT.out]
 rw [hW0] at B1
 have kb:=(show Blk W0 w.heap.size 30 #[.int .i64 k.term,.int .i64 k.vote,.int .i64 k.snap.index,.int .i64 k.snap.term,.slice a4 (k.snap.config.voters).length c4,.slice a5 (k.snap.config.learners).length c5,.string k.snap.data,.slice a7 (k.entries).length c7] by rw [← hW0];exact ((((Blk.newAt w w.heap.size 30 #[.int .i64 k.term,.int .i64 k.vote,.int .i64 k.snap.index,.int .i64 k.snap.term,.slice a4 (k.snap.config.voters).length c4,.slice a5 (k.snap.config.learners).length c5,.string k.snap.data,.slice a7 (k.entries).length c7] rfl).alloc _).alloc _).alloc _).alloc _).below B1 (by omega)
 have k1:=(show Blk W0 (w.heap.size+1) 3 #[.int .i64 index] by rw [← hW0];exact (((Blk.newAt _ (w.heap.size+1) 3 #[.int .i64 index] (by simp)).alloc _).alloc _).alloc _).below B1 (by omega)
 have k2:=(show Blk W0 (w.heap.size+1+1) 25 #[.slice none 0 0,.slice none 0 0] by rw [← hW0];exact ((Blk.newAt _ (w.heap.size+1+1) 25 #[.slice none 0 0,.slice none 0 0] (by simp)).alloc _).alloc _).below B1 (by omega)
 have k3:=(show Blk W0 (w.heap.size+1+1+1) 3 #[.int .i64 0] by rw [← hW0];exact (Blk.newAt _ (w.heap.size+1+1+1) 3 #[.int .i64 0] (by simp)).alloc _).below B1 (by omega)
 have k4:=(show Blk W0 (w.heap.size+1+1+1+1) 41 #[.int .i64 0] by rw [← hW0];exact Blk.newAt _ (w.heap.size+1+1+1+1) 41 #[.int .i64 0] (by simp)).below B1 (by omega)
 have B2:Below w.heap.size w w1:=hB0.trans (B1.mono (by omega))
 have hz:=B1.size
 clear hW0 B1 hB0
 obtain ⟨q0,q1,q2,q3,q4,q5,q6,q7⟩:=box8 kb
 gi_wp2_with fail
 refine ⟨trivial,?_⟩
 refine (zqN _ _ _ _ _).mono ?_
 rintro e w2 ⟨rfl,hw2⟩
 have B3:Below w1.heap.size w1 w2:=by rw [← hw2];exact (Below.refl _ _).alloc (Nat.le_refl _) _
 have z2:w2.heap.size=w1.heap.size+1:=by rw [← hw2];simp
 have hsb:w2.cell? ⟨w1.heap.size,0,none⟩=some (.slice a7 k.entries.length c7):=by
  rw [← hw2,World.cell?_alloc_at _ _ _ _ (by simp)];rfl
 have kb':=kb.below B3 kb.lt
 have k1':=k1.below B3 k1.lt
 have k2':=k2.below B3 k2.lt
 have k3':=k3.below B3 k3.lt
 have k4':=k4.below B3 k4.lt
 have s7:Sl w2 S Entry.ty a7 k.entries.length c7 (k.entries.map Entry.enc):=(H7.out.same (Same.below B2)).same (Same.below B3)
 have s4:SlI w2 S a4 k.snap.config.voters.length c4 k.snap.config.voters:=(H4.out.same (Same.below B2)).same (Same.below B3)
 have s5:SlI w2 S a5 k.snap.config.learners.length c5 k.snap.config.learners:=(H5.out.same (Same.below B2)).same (Same.below B3)
 have B4:Below w.heap.size w w2:=B2.trans (B3.mono (by omega))
 have hlen:=s7.bd.2.2.1
 obtain ⟨ev,hev,hcf,hcells⟩:=zp8 H7.out
 have hzw:w.heap.size+5≤w1.heap.size:=by omega
 have HEV:=Lib.hid hev
 have HCF:=Lib.hid hcf
 have HCE:=Lib.hid hcells
 have HS4:=Lib.hid s4
 have HS5:=Lib.hid s5
 have HLE:=Lib.hid hlen
 have HSB:=Lib.hid hsb
 clear hw2 q0 q1 q2 q3 q4 q5 q6 q7 kb k1 k2 k3 k4 B3 s7 s4 s5 hev hcf hcells hlen hsb
 gi_wp2_with fail
 refine wpIn_rangeFunc_ownH rfl (by omega) (gf:=200) (lb:= #[.pointer (some ⟨w1.heap.size,0,none⟩)]) rfl trivial (enters_of Tryz.func200 (by kernel_rfl) rfl)
  (zhh (20-1) w1.heap.size w.heap.size a7 k.entries.length c7 ev HLE.out w2 (by omega) (by omega) (by omega) HSB.out ?hcc) KpB.t (KpB.b (by omega)) (Below.refl _ _) (fun _=>rfl)
  (fun pre Wi=>(∀ y∈pre,cfB index (k.en y)=false)∧Blk Wi w.heap.size 30 #[.int .i64 k.term,.int .i64 k.vote,.int .i64 k.snap.index,.int .i64 k.snap.term,.slice a4 (k.snap.config.voters).length c4,.slice a5 (k.snap.config.learners).length c5,.string k.snap.data,.slice a7 (k.entries).length c7]∧Blk Wi (w.heap.size+1) 3 #[.int .i64 index]∧Blk Wi (w.heap.size+1+1) 25 #[.slice none 0 0,.slice none 0 0]∧Blk Wi (w.heap.size+1+1+1) 3 #[.int .i64 0]∧Blk Wi (w.heap.size+1+1+1+1) 41 #[.int .i64 0]∧Below w.heap.size w Wi)
  (fun c pre Wi=>(c = .ret∧∃ ini x,pre=ini++[x]∧(∀ y∈ini,cfB index (k.en y)=false)∧cfB index (k.en x)=true∧∃ u0 u1,RdL Wi (fun b=>w.heap.size≤b) Config.ty [u0,u1] (k.en x).config.enc∧Blk Wi (w.heap.size+1+1) 25 #[u0,u1]∧Blk Wi (w.heap.size+1+1+1) 3 #[.int .i64 (k.en x).index]∧Blk Wi (w.heap.size+1+1+1+1) 41 #[.int .i64 0])∧Below w.heap.size w Wi)
  ?own ?ownx ⟨fun p hp=>absurd hp (by simp),kb',k1',k2',k3',k4',B4⟩
  (fun x a' Wi=>∃ Bx,w.heap.size+5≤Bx∧Blk Wi Bx 89 #[ev x 0,ev x 1,ev x 2,ev x 3,ev x 4,ev x 5]∧a'={tmps:= #[.agg #[.int .i64 k.term,.int .i64 k.vote,.int .i64 k.snap.index,.int .i64 k.snap.term,.slice a4 (k.snap.config.voters).length c4,.slice a5 (k.snap.config.learners).length c5,.string k.snap.data,.slice a7 (k.entries).length c7],.int .i64 index,.pointer (some ⟨w.heap.size,0,none⟩),.pointer (some ⟨w.heap.size+1,0,none⟩),.pointer (some ⟨w.heap.size+1+1,0,none⟩),.pointer (some ⟨w.heap.size+1+1+1,0,none⟩),.pointer (some ⟨w.heap.size+1+1+1+1,0,none⟩),.int .i64 (zaE k index).1,.int .i64 0,undef,.pointer (some ⟨Bx,0,none⟩),.tuple #[.int .i64 (zaE k index).1,.int .i64 0],.agg #[.int .i64 k.term,.int .i64 k.vote,.int .i64 k.snap.index,.int .i64 k.snap.term,.slice a4 (k.snap.config.voters).length c4,.slice a5 (k.snap.config.learners).length c5,.string k.snap.data,.slice a7 (k.entries).length c7],.int .i64 index,.tuple #[.int .i64 (zaE k index).1,.int .i64 0],.int .i64 (zaE k index).1,.int .i64 0,.int .i64 0,.bool false,undef,undef,.pointer (some ⟨w.heap.size,7,none⟩),.slice a7 k.entries.length c7,.func (.func 200) #[] #[.pointer (some ⟨w1.heap.size,0,none⟩)],.int .i64 (x:Int),.agg #[ev x 0,ev x 1,ev x 2,ev x 3,ev x 4,ev x 5],undef,undef,undef,undef,undef,undef,undef,undef,undef,undef,undef,undef,undef,undef,undef,undef,undef,undef,undef,undef,undef],defers:=[]})
  (fun x a' s A C row hs hg hr=>by obtain ⟨Bx,h0,h2,h3⟩:=hs;exact ⟨Bx,h0,zaw (β:=Unit) () A C row h2 hg hr,h3⟩)
  ?assign ?body ?done ?stop
 case hcc=>
  intro hp
  obtain ⟨b,off,e,hb,hc⟩:=HCE.out hp
  exact ⟨b,off,e,hb,fun i j hi hj=>(B4.cell (p:=⟨b,off+i*6+j,none⟩) hb).trans (hc i j hi hj)⟩
 case own=>exact OwnFrom.and (ownFrom_pure _ _) (OwnFrom.and zaw (OwnFrom.and zaw (OwnFrom.and zaw (OwnFrom.and zaw (OwnFrom.and zaw (ownFrom_below (Nat.le_refl _) (by omega)))))))
 case ownx=>
  rintro c pre A C row ⟨⟨rfl,ini,x,rfl,h0,h1,u0,u1,h2,h3,h4,h5⟩,h6⟩ hg hr
  exact ⟨⟨rfl,ini,x,rfl,h0,h1,u0,u1,zd7 (β:=Unit) () A C row h2 hg hr,zaw (β:=Unit) () A C row h3 hg hr,zaw (β:=Unit) () A C row h4 hg hr,zaw (β:=Unit) () A C row h5 hg hr⟩,ownFrom_below (β:=Unit) (Nat.le_refl _) (by omega) () A C row h6 hg hr⟩
 case assign=>
  rintro l2 pre x Wi K ⟨h0,hy,h1,h2,h3,h4,hB⟩ hK
  obtain ⟨a3,c3,a4,c4,e0,e1,e2,e3,e4,e5⟩:=HEV.out x
  unfold zj8
  rw [e0,e1,e2,e3,e4,e5] at hK ⊢
  gi_wp2
  exact hK _ _ ((KeepsOthers.alloc _ _).from _) ⟨(Below.refl _ Wi).alloc hB.size _,fun hc=>(World.cell?_alloc_lt Wi _ _ (World.block_lt_of_cell? _ _ hc)).trans hc⟩ ⟨h0,hy.alloc _,h1.alloc _,h2.alloc _,h3.alloc _,h4.alloc _,hB.alloc hB.size _⟩ ⟨Wi.heap.size,by have:=h4.lt;omega,Blk.new Wi _ _,rfl⟩
 case body=>
  rintro l2 pre x a' Wi hl2 ⟨r,hr⟩ ⟨h0,hy,h1,h2,h3,h4,hB⟩ ⟨Bx,hbz,hbx,rfl⟩ hlt
  obtain ⟨a3,c3,a4,c4,e0,e1,e2,e3,e4,e5⟩:=HEV.out x
  have HBX:=Lib.hid hbx
  have z2:Bx≠w.heap.size+1+1:=by omega
  have z3:Bx≠w.heap.size+1+1+1:=by omega
  have z4:Bx≠w.heap.size+1+1+1+1:=by omega
  rw [e0,e1,e2,e3,e4,e5] at hbx ⊢
  have q0:Wi.cell? ⟨Bx,0,none⟩=some (.int .i64 (k.en x).index):=hbx.cell 0
  have q2:Wi.cell? ⟨Bx,2,none⟩=some (.int .i64 (k.en x).kind):=hbx.cell 2
  have q1:Wi.cell? ⟨w.heap.size+1,0,none⟩=some (.int .i64 index):=h1.cell 0
  have q3:Wi.cell? ⟨Bx,3,none⟩=some (.slice a3 (k.en x).config.voters.length c3):=hbx.cell 3
  have q4:Wi.cell? ⟨Bx,4,none⟩=some (.slice a4 (k.en x).config.learners.length c4):=hbx.cell 4
  have H0:=Lib.hid h0
  clear h0
  have HOC:=Lib.hid (show CallsIn (Fence.wide.inRound l2) 17 Tryz.prog 163 #[.agg #[.slice a3 (k.en x).config.voters.length c3,.slice a4 (k.en x).config.learners.length c4]] Wi.drew (fun e W'=>∃ (p0 p1:Option Addr) (n0 d0 n1 d1:Nat),e = .returned (.agg #[.slice p0 n0 d0,.slice p1 n1 d1])∧RdL W' (fun b=>Wi.heap.size≤b) Config.ty [.slice p0 n0 d0,.slice p1 n1 d1] (k.en x).config.enc∧Below Wi.heap.size Wi.drew W') from ?ownc)
  ·gi_wp2_with fail
   ·gi_region_with (refine ⟨trivial,?_⟩;refine HOC.out.mono ?_;rintro e W' ⟨p0,p1,n0,d0,n1,d1,rfl,hR,hBW⟩;have HR:=Lib.hid hR;have m0:W'.cell? ⟨Bx,0,none⟩=some (.int .i64 (k.en x).index):=(hBW.cell (p:=⟨Bx,0,none⟩) hbx.lt).trans q0;have n2:Blk W' (w.heap.size+1+1) 25 #[.slice none 0 0,.slice none 0 0]:=h2.drew.below hBW h2.lt;have n3:Blk W' (w.heap.size+1+1+1) 3 #[.int .i64 0]:=h3.drew.below hBW h3.lt;have n4:Blk W' (w.heap.size+1+1+1+1) 41 #[.int .i64 0]:=h4.drew.below hBW h4.lt;have f2:W'.frozen? ⟨w.heap.size+1+1,0,none⟩=false:=n2.frozen 0;have f21:W'.frozen? ⟨w.heap.size+1+1,1,none⟩=false:=n2.frozen 1;have f3:W'.frozen? ⟨w.heap.size+1+1+1,0,none⟩=false:=n3.frozen 0;have f4:W'.frozen? ⟨w.heap.size+1+1+1+1,0,none⟩=false:=n4.frozen 0;have r2:W'.cell? ⟨w.heap.size+1+1,0,none⟩=some (.slice none 0 0):=n2.cell 0;have r21:W'.cell? ⟨w.heap.size+1+1,1,none⟩=some (.slice none 0 0):=n2.cell 1;have r3:W'.cell? ⟨w.heap.size+1+1+1,0,none⟩=some (.int .i64 0):=n3.cell 0;have r4:W'.cell? ⟨w.heap.size+1+1+1+1,0,none⟩=some (.int .i64 0):=n4.cell 0;clear hR)
    all_goals gi_wp2
    all_goals
     obtain ⟨f1,f2,f3,f4,f5,f6⟩:=zq8 (N:=w2.heap.size) (idx:=(k.en x).index) HR.out hB hBW h2 h3 h4 (by omega) (by omega) (by omega) (by omega) _ rfl
     exact ⟨f1,⟨rfl,pre,x,rfl,H0.out,by simp_all [cfB],_,_,f2,f3,f4,f5⟩,f6⟩
   ·rename_i g1 g2
    exact ⟨(Same.refl _ _).keeps,⟨Below.refl _ _,fun h=>h⟩,(fun y hy=>by
     rcases List.mem_append.1 hy with h | h
     ·exact H0.out y h
     ·simp only [List.mem_singleton] at h;rw [h];unfold cfB;rw [g2,Bool.and_false]),hy,h1,h2,h3,h4,hB⟩
   ·rename_i g1 g2
    exact ⟨(Same.refl _ _).keeps,⟨Below.refl _ _,fun h=>h⟩,(fun y hy=>by
     rcases List.mem_append.1 hy with h | h
     ·exact H0.out y h
     ·simp only [List.mem_singleton] at h;rw [h];unfold cfB;rw [decide_eq_false (by omega)];rfl),hy,h1,h2,h3,h4,hB⟩
  case ownc=>
   refine CallsIn.inRound l2 (callsIn_wide.2 ((zlO [.slice a3 (k.en x).config.voters.length c3,.slice a4 (k.en x).config.learners.length c4] (k.en x).config Wi.drew S ?_ ?_).mono ?_))
   ·have:=HCF.out x
    rw [e3,e4] at this
    exact RdL.same (w:=w) (w':=Wi.drew) ⟨hB.size,fun b _ hl=>hB.block b hl⟩ this
   ·exact HK.out.2 x
   ·rintro e W' ⟨us,rfl,hR,hBW⟩
    match us,hR with
    | [u0,u1],hR=>
     obtain ⟨p0,d0,rfl,_⟩:=Rd.sl' hR.1
     obtain ⟨p1,d1,rfl,_⟩:=Rd.sl' hR.2.1
     exact ⟨p0,p1,_,d0,_,d1,rfl,hR,hBW⟩
 case done=>
  rintro D ys Wi hD rfl ⟨h0,hy,h1,h2,h3,h4,hB⟩ hK
  have HX:=Lib.hid (zsI h0)
  have q2:Wi.cell? ⟨w.heap.size,2,none⟩=some (.int .i64 k.snap.index):=hy.cell 2
  have q4:Wi.cell? ⟨w.heap.size,4,none⟩=some (.slice a4 k.snap.config.voters.length c4):=hy.cell 4
  have q5:Wi.cell? ⟨w.heap.size,5,none⟩=some (.slice a5 k.snap.config.learners.length c5):=hy.cell 5
  have HOC:=Lib.hid (show ∀ n,CallsIn Fence.wide n Tryz.prog 163 #[.agg #[.slice a4 k.snap.config.voters.length c4,.slice a5 k.snap.config.learners.length c5]] Wi.drew (fun e W'=>∃ (p0 p1:Option Addr) (n0 d0 n1 d1:Nat),e = .returned (.agg #[.slice p0 n0 d0,.slice p1 n1 d1])∧RdL W' (fun b=>Wi.heap.size≤b) Config.ty [.slice p0 n0 d0,.slice p1 n1 d1] k.snap.config.enc∧Below Wi.heap.size Wi.drew W') from ?ownc)
  ·clear h0
   gi_wp2_with fail
   ·refine zjW ?_
    gi_region_with (refine ⟨trivial,?_⟩;refine (HOC.out _).mono ?_;rintro e W' ⟨p0,p1,n0,d0,n1,d1,rfl,hR,hBW⟩;have HR:=Lib.hid hR;have m0:W'.cell? ⟨w.heap.size,2,none⟩=some (.int .i64 k.snap.index):=(hBW.cell (p:=⟨w.heap.size,2,none⟩) hy.lt).trans q2;have n2:Blk W' (w.heap.size+1+1) 25 #[.slice none 0 0,.slice none 0 0]:=h2.drew.below hBW h2.lt;have n3:Blk W' (w.heap.size+1+1+1) 3 #[.int .i64 0]:=h3.drew.below hBW h3.lt;have n4:Blk W' (w.heap.size+1+1+1+1) 41 #[.int .i64 0]:=h4.drew.below hBW h4.lt;have f2:W'.frozen? ⟨w.heap.size+1+1,0,none⟩=false:=n2.frozen 0;have f21:W'.frozen? ⟨w.heap.size+1+1,1,none⟩=false:=n2.frozen 1;have f3:W'.frozen? ⟨w.heap.size+1+1+1,0,none⟩=false:=n3.frozen 0;have f4:W'.frozen? ⟨w.heap.size+1+1+1+1,0,none⟩=false:=n4.frozen 0;have r2:W'.cell? ⟨w.heap.size+1+1,0,none⟩=some (.slice none 0 0):=n2.cell 0;have r21:W'.cell? ⟨w.heap.size+1+1,1,none⟩=some (.slice none 0 0):=n2.cell 1;have r3:W'.cell? ⟨w.heap.size+1+1+1,0,none⟩=some (.int .i64 0):=n3.cell 0;have r4:W'.cell? ⟨w.heap.size+1+1+1+1,0,none⟩=some (.int .i64 0):=n4.cell 0;clear hR)
    all_goals
     refine znX ?_
     obtain ⟨f1,f2,f3,f4,f5,f6⟩:=zq8 (N:=w2.heap.size) (idx:=k.snap.index) HR.out hB hBW h2 h3 h4 (by omega) (by omega) (by omega) (by omega) _ rfl
     gi_wp2
     refine ⟨by simp,.inl ⟨_,_,rfl,run_takeDeferred (f1.same D _ hD hK rfl),?_⟩⟩
     have g2:=(f3.grown (grownBy_putObj' _ D (.deferred none)) (fun e=>by cases e;omega))
     have g3:=(f4.grown (grownBy_putObj' _ D (.deferred none)) (fun e=>by cases e;omega))
     have g4:=(f5.grown (grownBy_putObj' _ D (.deferred none)) (fun e=>by cases e;omega))
     have e2:(((((W'.setCell ⟨w.heap.size+1+1,0,none⟩ (.slice p0 n0 d0)).setCell ⟨w.heap.size+1+1,1,none⟩ (.slice p1 n1 d1)).setCell ⟨w.heap.size+1+1+1,0,none⟩ (.int .i64 k.snap.index)).setCell ⟨w.heap.size+1+1+1+1,0,none⟩ (.int .i64 0)).putObj D (.deferred none)).cell? ⟨w.heap.size+1+1,0,none⟩=some (.slice p0 n0 d0):=g2.cell 0
     have e21:(((((W'.setCell ⟨w.heap.size+1+1,0,none⟩ (.slice p0 n0 d0)).setCell ⟨w.heap.size+1+1,1,none⟩ (.slice p1 n1 d1)).setCell ⟨w.heap.size+1+1+1,0,none⟩ (.int .i64 k.snap.index)).setCell ⟨w.heap.size+1+1+1+1,0,none⟩ (.int .i64 0)).putObj D (.deferred none)).cell? ⟨w.heap.size+1+1,1,none⟩=some (.slice p1 n1 d1):=g2.cell 1
     have e3:(((((W'.setCell ⟨w.heap.size+1+1,0,none⟩ (.slice p0 n0 d0)).setCell ⟨w.heap.size+1+1,1,none⟩ (.slice p1 n1 d1)).setCell ⟨w.heap.size+1+1+1,0,none⟩ (.int .i64 k.snap.index)).setCell ⟨w.heap.size+1+1+1+1,0,none⟩ (.int .i64 0)).putObj D (.deferred none)).cell? ⟨w.heap.size+1+1+1,0,none⟩=some (.int .i64 k.snap.index):=g3.cell 0
     have e4:(((((W'.setCell ⟨w.heap.size+1+1,0,none⟩ (.slice p0 n0 d0)).setCell ⟨w.heap.size+1+1,1,none⟩ (.slice p1 n1 d1)).setCell ⟨w.heap.size+1+1+1,0,none⟩ (.int .i64 k.snap.index)).setCell ⟨w.heap.size+1+1+1+1,0,none⟩ (.int .i64 0)).putObj D (.deferred none)).cell? ⟨w.heap.size+1+1+1+1,0,none⟩=some (.int .i64 0):=g4.cell 0
     refine ⟨.tuple #[.agg #[.slice p0 n0 d0,.slice p1 n1 d1],.int .i64 k.snap.index,.int .i64 0],by simp [results,Tryz.results99,go_sem,e2,e21,e3,e4],[.slice p0 n0 d0,.slice p1 n1 d1],by rw [HX.out],?_,?_⟩
     ·rw [HX.out];exact zd7 (β:=Unit) (B:=0) () _ _ (some D) f2 (grownBy_putObj' _ D (.deferred none)) (fun r e=>by cases e;exact ⟨Nat.zero_le _,_,f1.same D _ hD hK rfl,rfl⟩)
     ·exact f6.grown (grownBy_putObj' _ D (.deferred none)) f6.size (fun e he=>by cases he;omega)
  case ownc=>
   refine fun n=>callsIn_wide.2 ((zlO [.slice a4 k.snap.config.voters.length c4,.slice a5 k.snap.config.learners.length c5] k.snap.config Wi.drew S ?_ HK.out.1).mono ?_)
   ·exact RdL.same (w:=w) (w':=Wi.drew) ⟨hB.size,fun b _ hl=>hB.block b hl⟩ ⟨H4.out,H5.out,trivial⟩
   ·rintro e W' ⟨us,rfl,hR,hBW⟩
    match us,hR with
    | [u0,u1],hR=>
     obtain ⟨p0,d0,rfl,_⟩:=Rd.sl' hR.1
     obtain ⟨p1,d1,rfl,_⟩:=Rd.sl' hR.2.1
     exact ⟨p0,p1,_,d0,_,d1,rfl,hR,hBW⟩
 case stop=>
  rintro D c pre Wi hD ⟨j,hj,hp⟩ ⟨⟨rfl,ini,x,rfl,h0,hx,u0,u1,hR,h2,h3,h4⟩,hB⟩ hK
  have HX:=Lib.hid (zvi hj hp h0 hx)
  clear h0 hx hp
  gi_wp2
  refine ⟨by simp,.inl ⟨_,_,rfl,run_takeDeferred hK,?_⟩⟩
  have g2:=(h2.grown (grownBy_putObj' _ D (.deferred none)) (fun e=>by cases e;omega))
  have g3:=(h3.grown (grownBy_putObj' _ D (.deferred none)) (fun e=>by cases e;omega))
  have g4:=(h4.grown (grownBy_putObj' _ D (.deferred none)) (fun e=>by cases e;omega))
  have e2:(Wi.putObj D (.deferred none)).cell? ⟨w.heap.size+1+1,0,none⟩=some (u0):=g2.cell 0
  have e21:(Wi.putObj D (.deferred none)).cell? ⟨w.heap.size+1+1,1,none⟩=some (u1):=g2.cell 1
  have e3:(Wi.putObj D (.deferred none)).cell? ⟨w.heap.size+1+1+1,0,none⟩=some (.int .i64 (k.en x).index):=g3.cell 0
  have e4:(Wi.putObj D (.deferred none)).cell? ⟨w.heap.size+1+1+1+1,0,none⟩=some (.int .i64 0):=g4.cell 0
  refine ⟨.tuple #[.agg #[u0,u1],.int .i64 (k.en x).index,.int .i64 0],by simp [results,Tryz.results99,go_sem,e2,e21,e3,e4],[u0,u1],by rw [HX.out],?_,?_⟩
  ·rw [HX.out];exact zd7 (β:=Unit) (B:=0) () _ _ (some D) hR (grownBy_putObj' _ D (.deferred none)) (fun r e=>by cases e;exact ⟨Nat.zero_le _,_,hK,rfl⟩)
  ·exact hB.grown (grownBy_putObj' _ D (.deferred none)) hB.size (fun e he=>by cases he;omega)
set_option maxRecDepth 100000 in
set_option maxHeartbeats 4000000 in
theorem zq1 (vs:List Value) (k:Kept) (index:Int) (w:World) (S:Nat→Prop) (h:RdL w S Kept.ty vs k.enc) (ht:(zaE k index).2≠0) :
  Calls Tryz.prog 99 #[.agg vs.toArray,.int .i64 index] w (zwN w ⟨[],[]⟩ 0 (zaE k index).2):=by
 have hcall:=fun w' (hb:Below w.heap.size w w')=>zhp vs k index w' S (RdL.same (Same.below hb) h)
 obtain ⟨a4,c4,a5,c5,a7,c7,rfl,b0,b1,b2,b3,s4,s5,b6,s7⟩:=Kept.opens h
 have HC:=Lib.hid hcall
 have hne:((zaE k index).2 != 0)=true:=by simpa using ht
 clear h s4 s5 s7 hcall ht
 obtain ⟨z,hz⟩:∃ z,(zaE k index).2=z:=⟨_,rfl⟩
 rw [hz] at hne ⊢
 go_enter Tryz.func99,Tryz.ntmps99
 go_wp2_with fail
 refine (HC.out _ ((((((Below.refl _ _).alloc (Nat.le_refl _) _).alloc (by simp) _).alloc (by simp<;>omega) _).alloc (by simp<;>omega) _).alloc (by simp<;>omega) _)).mono ?_
 obtain ⟨W0,hW0⟩:∃ W0,((((w.alloc (.cells #[.int .i64 k.term,.int .i64 k.vote,.int .i64 k.snap.index,.int .i64 k.snap.term,.slice a4 (k.snap.config.voters).length c4,.slice a5 (k.snap.config.learners).length c5,.string k.snap.data,.slice a7 (k.entries).length c7] 30)).alloc (.cells #[.int .i64 index] 3)).alloc (.cells #[.slice none 0 0,.slice none 0 0] 25)).alloc (.cells #[.int .i64 0] 3)).alloc (.cells #[.int .i64 0] 41)=W0:=⟨_,rfl⟩
 rw [hz]
 rintro e w1 ⟨rfl,B1⟩
 have hz0:W0.heap.size=w.heap.size+5:=by rw [← hW0];simp
 have hB0:Below w.heap.size w W0:=by rw [← hW0];exact ((((((Below.refl _ _).alloc (Nat.le_refl _) _).alloc (by simp) _).alloc (by simp<;>omega) _).alloc (by simp<;>omega) _).alloc (by simp<;>omega) _)
 rw [hW0] at B1
 have k2:=(show Blk W0 (w.heap.size+1+1) 25 #[.slice none 0 0,.slice none 0 0] by rw [← hW0];exact ((Blk.newAt _ (w.heap.size+1+1) 25 #[.slice none 0 0,.slice none 0 0] (by simp)).alloc _).alloc _).below B1 (by omega)
 have k3:=(show Blk W0 (w.heap.size+1+1+1) 3 #[.int .i64 0] by rw [← hW0];exact (Blk.newAt _ (w.heap.size+1+1+1) 3 #[.int .i64 0] (by simp)).alloc _).below B1 (by omega)
 have k4:=(show Blk W0 (w.heap.size+1+1+1+1) 41 #[.int .i64 0] by rw [← hW0];exact Blk.newAt _ (w.heap.size+1+1+1+1) 41 #[.int .i64 0] (by simp)).below B1 (by omega)
 have B2:=Lib.hid (hB0.trans (B1.mono (by omega)))
 clear hW0 B1 hB0
 have f2:w1.frozen? ⟨w.heap.size+1+1,0,none⟩=false:=k2.frozen 0
 have f21:w1.frozen? ⟨w.heap.size+1+1,1,none⟩=false:=k2.frozen 1
 have f3:w1.frozen? ⟨w.heap.size+1+1+1,0,none⟩=false:=k3.frozen 0
 have f4:w1.frozen? ⟨w.heap.size+1+1+1+1,0,none⟩=false:=k4.frozen 0
 have r2:w1.cell? ⟨w.heap.size+1+1,0,none⟩=some (.slice none 0 0):=k2.cell 0
 have r21:w1.cell? ⟨w.heap.size+1+1,1,none⟩=some (.slice none 0 0):=k2.cell 1
 have r3:w1.cell? ⟨w.heap.size+1+1+1,0,none⟩=some (.int .i64 0):=k3.cell 0
 have r4:w1.cell? ⟨w.heap.size+1+1+1+1,0,none⟩=some (.int .i64 0):=k4.cell 0
 clear k2 k3 k4
 go_wp2_with fail
 refine bodyPost_ret (v:= .tuple #[.agg #[.slice none 0 0,.slice none 0 0],.int .i64 0,.int .i64 z]) (by simp [results,Tryz.results99,go_sem,r2,r21,r3,r4]) rfl ⟨[.slice none 0 0,.slice none 0 0],rfl,⟨.emp (fun _=>rfl) (Nat.zero_le _),.emp (fun _=>rfl) (Nat.zero_le _),trivial⟩,?_⟩
 exact (((B2.out.setCell (by simp<;>omega) _).setCell (by simp<;>omega) _).setCell (by simp<;>omega) _).setCell (by simp<;>omega) _
end Go.Proofs.YteabcgkjbnecaaaGreat
namespace Go.Proofs.YteabcgkjbnecaaaGreat
open Go.RowKit Go.ChangeShapes Go.WideShapes Go.Deep
theorem zsH {k:Kept} (h:dKept.Okp k) (i:Int):I64 (cfgR k i).2:=by
 unfold cfgR
 split
 ·rename_i e he
  have hm:e∈k.entries:=by have:=List.mem_of_find?_eq_some he;simpa using this
  exact (h.entries.2 e hm).index
 ·exact h.snap_index
theorem zsb:I64 0:=⟨by decide,by decide⟩
theorem i64_1:I64 1:=⟨by decide,by decide⟩
theorem zu8:I64 150:=⟨by decide,by decide⟩
theorem znM (k:Kept) (i:Int):I64 (zaz k i).2:=by
 unfold zaz
 split
 ·split
  ·exact zsb
  ·split
   ·exact zsb
   ·exact zu8
 ·exact i64_1
theorem zfT (k:Kept) (i:Int) (hs:zb2 k):FnC Tryz.prog 99 [dKept.can k,dInt.can i] (.tup [.agg ((zap k i).1.svs [1]),.int .i64 (zap k i).2.1,.int .i64 (zap k i).2.2]) D2:=by
 refine FnC.g2 dKept dInt k i (fnB Tryz.func99 (by decide) rfl) fun hk hi=>?_
 refine FnC.of_below (fnB Tryz.func99 (by decide) rfl) fun w E vals hd=>?_
 obtain ⟨v,u,rfl,⟨xs,rfl,hl⟩,⟨rfl,_⟩⟩:=zb7 hd
 by_cases ht:(zaz k i).2=0
 ·refine (zn1 xs k i w _ (Kept.svs_rd hl) ⟨hs.2,fun x=>?_⟩ (by rw [zfq];exact ht)).mono ?_
  ·by_cases hx:x<k.entries.length
   ·exact hs.1.2 _ (za8 hx)
   ·rw [zp9 hx];exact ⟨by decide,by decide⟩
  ·rintro e w' ⟨us,rfl,hr,hb⟩
   refine ⟨_,rfl,hb,fun E' _ h1=>⟨[_,_,_],rfl,⟨us,rfl,?_⟩,⟨?_,?_⟩,⟨?_,?_⟩,trivial⟩⟩
   ·rw [zap,if_pos ht]
    exact Config.svs_of (hr.mono fun b hb' hge=>⟨1,by simp,h1 b hge hb'⟩)
   ·rw [zap,if_pos ht];rfl
   ·rw [zap,if_pos ht];exact zcG (zsH hk i)
   ·rw [zap,if_pos ht]
   ·rw [zap,if_pos ht];exact zcG zsb
 ·refine (zq1 xs k i w _ (Kept.svs_rd hl) (by rw [zfq];exact ht)).mono ?_
  rintro e w' ⟨us,rfl,hr,hb⟩
  refine ⟨_,rfl,hb,fun E' _ h1=>⟨[_,_,_],rfl,⟨us,rfl,?_⟩,⟨?_,?_⟩,⟨?_,?_⟩,trivial⟩⟩
  ·rw [zap,if_neg ht]
   exact Config.svs_of (x:=⟨[],[]⟩) (hr.mono fun b hb' hge=>⟨1,by simp,h1 b hge hb'⟩)
  ·rw [zap,if_neg ht]
  ·rw [zap,if_neg ht];exact zcG zsb
  ·rw [zap,if_neg ht,zfq]
  ·rw [zap,if_neg ht];exact zcG (znM k i)
def zs9:Ent:=ent2 99 dKept dInt fun k i=>([zb2 k],.tup [.agg ((zap k i).1.svs [1]),.int .i64 (zap k i).2.1,.int .i64 (zap k i).2.2],D2)
theorem zij:zaf Tryz.prog zs9:=zav (zfT default 0 zh0).1 fun k i h=>zfT k i (h _ (by simp))
end Go.Proofs.YteabcgkjbnecaaaGreat
namespace Go.Proofs.YteabcgkjbnecaaaGreat
open Go.RowKit Go.ChangeShapes Go.WideShapes Go.Deep
set_option maxRecDepth 100000
theorem zfW (l:List Int) (hl:l.length≤1000000):FnC Tryz.prog 125 [dInts.can l] (.own 2) (D3i l):=by
 refine FnG.of_vc (zaj zad fun _=>none) Tryz.func125 rfl (by decide) rfl 300 (p:=fun (V:List PE→Prop)=>True∧True∧True∧(l=[]→True∧l=[]∧True)∧(True→(((0:Nat)+l.length)*(1024:Nat)≤140737488355328∧True)∧l=l∧True)) (by kernel_rfl) ?_
 simp;omega
def ztF:Ent:=ent1 125 dInts fun l=>([l.length≤1000000],.own 2,D3i l)
theorem zjJ:zaf Tryz.prog ztF:=zan (zfW [] (by decide)).1 fun l h=>zfW l (h _ (by simp))
theorem zeO (l:List Peer) (hl:l.length≤1000000):FnC Tryz.prog 126 [dPeers.can l] (.own 2) [.dead,.dead,.row 94 [] (.rPeer l)]:=by
 refine FnG.of_vc (zaj zad fun _=>none) Tryz.func126 rfl (by decide) rfl 300 (p:=fun (V:List PE→Prop)=>True∧True∧True∧(l=[]→True∧l=[]∧True)∧(True→(((0:Nat)+l.length)*(1024:Nat)≤140737488355328∧True)∧l=l∧True)) (by kernel_rfl) ?_
 simp;omega
def zqr:Ent:=ent1 126 dPeers fun l=>([l.length≤1000000],.own 2,[.dead,.dead,.row 94 [] (.rPeer l)])
theorem znw:zaf Tryz.prog zqr:=zan (zeO [] (by decide)).1 fun l h=>zeO l (h _ (by simp))
theorem zeN (l:List Read) (hl:l.length≤1000000):FnC Tryz.prog 127 [dReads.can l] (.own 2) [.dead,.dead,.row 96 [] (.rRead l)]:=by
 refine FnG.of_vc (zaj zad fun _=>none) Tryz.func127 rfl (by decide) rfl 300 (p:=fun (V:List PE→Prop)=>True∧True∧True∧(l=[]→True∧l=[]∧True)∧(True→(((0:Nat)+l.length)*(1024:Nat)≤140737488355328∧True)∧l=l∧True)) (by kernel_rfl) ?_
 simp;omega
def zqq:Ent:=ent1 127 dReads fun l=>([l.length≤1000000],.own 2,[.dead,.dead,.row 96 [] (.rRead l)])
theorem znv:zaf Tryz.prog zqq:=zan (zeN [] (by decide)).1 fun l h=>zeN l (h _ (by simp))
theorem zc4 (c:Config) (hc:zaq c):FnC Tryz.prog 177 [dConfig.can c] (.agg (c.svs [1])) D2:=by
 refine FnG.of_vc (zaj (zaa zjJ zad) fun _=>none) Tryz.func177 rfl (by decide) rfl 300 (p:=fun (V:List PE→Prop)=>let v0:=c.voters;let v1:=c.learners;True∧(v0.length≤1000000∧v1.length≤1000000∧True)∧v0=v0∧v0.length≤17592186044416∧v1=v1∧v1.length≤17592186044416∧True) (by kernel_rfl) ?_
 simp [hc.1,hc.2]
 exact ⟨Nat.le_trans hc.1 (by decide),Nat.le_trans hc.2 (by decide)⟩
def zw1:Ent:=ent1 177 dConfig fun c=>([zaq c],.agg (c.svs [1]),D2)
theorem zqa:zaf Tryz.prog zw1:=zan (zc4 default (by unfold zaq;decide)).1 fun c h=>zc4 c (h _ (by simp))
theorem zf5 (x:Snap) (hc:zaq x.config):FnC Tryz.prog 123 [dSnap.can x] (.agg (x.svs [1])) D2:=by
 refine FnG.of_vc (zaj (zaa zqa zad) fun _=>none) Tryz.func123 rfl (by decide) rfl 300 (p:=fun (V:List PE→Prop)=>let v0:=x.config;True∧(zaq v0∧True)∧True∧x.index=x.index∧x.term=x.term∧v0.voters=v0.voters∧v0.learners=v0.learners∧x.data=x.data∧True) (by kernel_rfl) ?_
 simp [hc]
def zgS:Ent:=ent1 123 dSnap fun c=>([zaq c.config],.agg (c.svs [1]),D2)
theorem zdf:zaf Tryz.prog zgS:=zan (zf5 default (by unfold zaq;decide)).1 fun c h=>zf5 c (h _ (by simp))
theorem zkY (l:List Entry) (hl:l.length≤1000000):FnC Tryz.prog 178 [dEntrys.can l] (.own 2) [.dead,.dead,.row 89 [0] (.rEntry l)]:=by
 refine FnG.of_vc (zaj zad fun _=>none) Tryz.func178 rfl (by decide) rfl 300 (p:=fun (V:List PE→Prop)=>True∧True∧True∧(l=[]→True∧l=[]∧True)∧(True→(((0:Nat)+l.length)*(1024:Nat)≤140737488355328∧True)∧l=l∧True)) (by kernel_rfl) ?_
 simp;omega
abbrev En:=89
theorem zjO (v:Value) (l:List Entry) (w:World) (S:Nat→Prop) (hS:∀ b,S b→b<w.heap.size) (h:Rd w S (.sl Entry.ty) v (.sl (l.map Entry.enc))) (hl:l.length≤1000000) :
  Calls Tryz.prog 178 #[v] w (fun e w'=>∃ u,e = .returned u∧OwnR w.heap.size w' En S Entry.ty u (l.map Entry.enc)∧Below w.heap.size w w'):=
 ((zkY l hl).2 w (E0 S) [v] (mem0 hS) ⟨h.mono (fun b _ hb=>zhj hb),trivial⟩).mono (by
  rintro e w' ⟨u,E',rfl,hv,hm⟩
  obtain ⟨v',h1,h2⟩:=hm.row 2 _ _ _ rfl
  have hu:E'.β 2=some u:=hv.1
  rw [hu] at h1;cases h1
  have hX:∀ b,¬ (cxIn (E0 S) D2 1).X b:=fun b ⟨t,ht⟩=>zeE ht
  refine ⟨u,rfl,?_,hm.below.os,hm.below.tape,hm.below.output,hm.below.size,fun b hb=>hm.below.block b hb (hX b)⟩
  obtain ⟨cells,ho,hr⟩:=h2
  have hlt:∀ b,u.ownBlock=some b→w.heap.size≤b:=fun b hb=>by
   refine (hm.sep 2 b (Has.row rfl hu ?_)).2.resolve_right (hX b)
   obtain ⟨a,c,e⟩:=OwnR.form (h:=⟨cells,ho,hr⟩)
   rw [← za9 ⟨a,_,c,e⟩];exact hb
  refine ⟨cells,⟨ho.1,?_⟩,fun i hi=>(hr i hi).mono fun b _ hb=>⟨?_,hb.2⟩⟩
  ·rcases ho.2 with h3 | ⟨g,cap,cur,e1,_,r⟩
   ·exact .inl h3
   ·exact .inr ⟨g,cap,cur,e1,hlt g (by rw [e1];rfl),r⟩
  ·obtain ⟨i,hi,hs⟩:=hb.1
   simp only [List.mem_singleton] at hi;subst hi
   exact (hm.old 0 b (by show 0<1;decide) hs).2)
theorem zo6 (vs:List Value) (c:Config) (w:World) (S:Nat→Prop) (hS:∀ b,S b→b<w.heap.size) (h:RdL w S Config.ty vs c.enc) (hc:zaq c) :
  Calls Tryz.prog 177 #[.agg vs.toArray] w (fun e w'=>∃ us:List Value,e = .returned (.agg us.toArray)∧RdL w' (fun b=>w.heap.size≤b) Config.ty us c.enc∧Below w.heap.size w w'):=
 ((zc4 c hc).2 w (E0 S) [.agg vs.toArray] (mem0 hS) ⟨⟨vs,rfl,Config.svs_of (h.mono fun b _ hb=>zhj hb)⟩,trivial⟩).mono (by
  rintro e w' ⟨v,E',rfl,⟨us,rfl,hl⟩,hm⟩
  exact ⟨us,rfl,RdL.mono (fun b _ ⟨i,hi,hs⟩=>ztM hm (by simp at hi;omega) hs) (Config.svs_rd hl),zmF hm⟩)
def Mid (wr:World) (base:Nat) (S:Nat→Prop) (g cap j:Nat) (l:List Entry):Prop:=
 ∃ cur:Array Value,Blk wr g En cur∧cur.size=cap*6∧∀ i,i<l.length→RdL wr (fun b=>(if i<j then base≤b else S b)∧b≠g) Entry.ty ((cur.toList.drop (i*6)).take 6) (l.getD i default).enc
theorem Mid.next {wr wr':World} {base:Nat} {S:Nat→Prop} {g cap j:Nat} {l:List Entry} (h:Mid wr base S g cap j l) (hb:Below wr.heap.size wr wr'):Mid wr' base S g cap j l:=by
 obtain ⟨cur,h1,h2,h3⟩:=h
 exact ⟨cur,h1.next hb,h2,fun i hi=>RdL.same (Same.below hb) (h3 i hi)⟩
theorem Mid.at {wr:World} {base:Nat} {S:Nat→Prop} {g cap j:Nat} {l:List Entry} (h:Mid wr base S g cap j l) (hj:j<l.length) (hc:l.length≤cap) :
  ∃ a3 c3 a4 c4,wr.cell? ⟨g,j*6+3,none⟩=some (.slice a3 (l.getD j default).config.voters.length c3)∧wr.cell? ⟨g,j*6+4,none⟩=some (.slice a4 (l.getD j default).config.learners.length c4) ∧
   wr.frozen? ⟨g,j*6+3,none⟩=false∧wr.frozen? ⟨g,j*6+4,none⟩=false∧RdL wr (fun b=>S b∧b≠g) Config.ty [.slice a3 (l.getD j default).config.voters.length c3,.slice a4 (l.getD j default).config.learners.length c4] (l.getD j default).config.enc:=by
 obtain ⟨cur,h1,h2,h3⟩:=h
 have h4:=h3 j hj
 simp only [Nat.lt_irrefl,if_false] at h4
 generalize hx:(cur.toList.drop (j*6)).take 6=xs at h4
 have hget:∀ m,m<6→cur[j*6+m]? = xs[m]? := fun m hm=>by
  rw [← hx,List.getElem?_take,if_pos hm,List.getElem?_drop,Array.getElem?_toList]
 match xs,h4 with
 | [v0,v1,v2,v3,v4,v5],h4=>
  obtain ⟨r0,r1,r2,r3,r4,r5,_⟩:=h4
  obtain ⟨a3,c3,e3,_⟩:=Rd.sl' r3
  obtain ⟨a4,c4,e4,_⟩:=Rd.sl' r4
  rw [zat] at e3 e4
  have q3:=hget 3 (by decide)
  have q4:=hget 4 (by decide)
  simp only [List.getElem?_cons_succ,List.getElem?_cons_zero] at q3 q4
  subst e3;subst e4
  exact ⟨a3,c3,a4,c4,(h1.cell _).trans q3,(h1.cell _).trans q4,h1.frozen _,h1.frozen _,r3,r4,trivial⟩
theorem Mid.step {wr:World} {base:Nat} {S:Nat→Prop} {g cap j:Nat} {l:List Entry} (h:Mid wr base S g cap j l) (hj:j<l.length) (hc:l.length≤cap) {u u':Value} (hu:RdL wr (fun b=>base≤b∧b≠g) Config.ty [u,u'] (l.getD j default).config.enc) :
  Mid ((wr.setCell ⟨g,j*6+3,none⟩ u).setCell ⟨g,j*6+4,none⟩ u') base S g cap (j+1) l:=by
 obtain ⟨cur,h1,h2,h3⟩:=h
 have hS:Same (fun b=>b≠g) wr ((wr.setCell ⟨g,j*6+3,none⟩ u).setCell ⟨g,j*6+4,none⟩ u'):=(Same.setCell (by simp) _).trans (Same.setCell (by simp) _)
 have hsz:j*6+5<cur.size:=by rw [h2];omega
 have hat:∀ i m,i<l.length→m<6→((((cur.setIfInBounds (j*6+3) u).setIfInBounds (j*6+4) u').toList.drop (i*6)).take 6)[m]? = if i=j∧m=3 then some u else if i=j∧m=4 then some u' else ((cur.toList.drop (i*6)).take 6)[m]? := fun i m hi hm=>by
  simp only [Array.toList_setIfInBounds,List.getElem?_take,if_pos hm,List.getElem?_drop,List.getElem?_set,List.length_set,Array.length_toList]
  by_cases hij:i=j
  ·subst hij
   by_cases h5:m=3
   ·subst h5
    rw [if_neg (by omega),if_pos rfl,if_pos (by omega),if_pos ⟨rfl,rfl⟩]
   ·by_cases h6:m=4
    ·subst h6
     rw [if_pos rfl,if_pos (by omega),if_neg (by omega),if_pos ⟨rfl,rfl⟩]
    ·rw [if_neg (by omega),if_neg (by omega),if_neg (by omega),if_neg (by omega)]
  ·rw [if_neg (by omega),if_neg (by omega),if_neg (by omega),if_neg (by omega)]
 have hout:∀ (c:Array Value) i m,¬ m<6→((c.toList.drop (i*6)).take 6)[m]? = none:=fun c i m hm=>by rw [List.getElem?_take,if_neg hm]
 refine ⟨(cur.setIfInBounds (j*6+3) u).setIfInBounds (j*6+4) u',(h1.set _ _).set _ _,by simp [h2],fun i hi=>?_⟩
 by_cases hij:i=j
 ·subst hij
  have h4:=h3 i hi
  simp only [Nat.lt_irrefl,if_false] at h4
  simp only [Nat.lt_add_one,if_true]
  have hat2:=hat i
  generalize hx:(cur.toList.drop (i*6)).take 6=xs at h4
  rw [hx] at hat2
  match xs,h4,hat2 with
  | [v0,v1,v2,v3,v4,v5],h4,hat2=>
   obtain ⟨r0,r1,r2,r3,r4,r5,_⟩:=h4
   have e:(((cur.setIfInBounds (i*6+3) u).setIfInBounds (i*6+4) u').toList.drop (i*6)).take 6=[v0,v1,v2,u,u',v5]:=by
    apply List.ext_getElem?
    intro m
    by_cases hm:m<6
    ·rw [hat2 m hi hm]
     match m,hm with
     | 0,_=>simp
     | 1,_=>simp
     | 2,_=>simp
     | 3,_=>simp
     | 4,_=>simp
     | 5,_=>simp
    ·rw [hout _ _ _ hm,List.getElem?_eq_none (by simp;omega)]
   rw [e]
   have f0:∀ {T:Ty} {v:Value} {d:D},T.flat=true→Rd wr (fun b=>S b∧b≠g) T v d→Rd ((wr.setCell ⟨g,i*6+3,none⟩ u).setCell ⟨g,i*6+4,none⟩ u') (fun b=>base≤b∧b≠g) T v d:=by
    intro T v d hT hr
    cases hr with
    | int h=>exact .int h
    | bool=>exact .bool
    | str h=>exact .str h
    | emp h h'=>exact .emp h h'
    | row=>cases hT
   exact ⟨f0 rfl r0,f0 rfl r1,f0 rfl r2,Rd.same hu.1 (hS.mono fun b hb=>hb.2),Rd.same hu.2.1 (hS.mono fun b hb=>hb.2),f0 rfl r5,trivial⟩
 ·have e:(((cur.setIfInBounds (j*6+3) u).setIfInBounds (j*6+4) u').toList.drop (i*6)).take 6=(cur.toList.drop (i*6)).take 6:=by
   apply List.ext_getElem?
   intro m
   by_cases hm:m<6
   ·rw [hat i m hi hm,if_neg (by omega),if_neg (by omega)]
   ·rw [hout _ _ _ hm,hout _ _ _ hm]
  rw [e]
  have h4:=h3 i hi
  have e2:(i<j+1)=(i<j):=by rw [eq_iff_iff];omega
  simp only [e2]
  exact RdL.same (hS.mono fun b hb=>hb.2) h4
theorem Mid.of {w:World} {base:Nat} {S:Nat→Prop} {g n c:Nat} {l:List Entry} (h:OwnR base w En S Entry.ty (.slice (some ⟨g,0,none⟩) n c) (l.map Entry.enc)):Mid w base S g c 0 l∧base≤g∧l.length≤c∧c≤maxLen∧n=l.length:=by
 obtain ⟨cells,ho,hr⟩:=h
 rcases ho.2 with ⟨e,_⟩ | ⟨g2,cap,cur,e,hg,hh,hnc,hcm,hcs,htake⟩
 ·simp at e
 simp only [Value.slice.injEq,Option.some.injEq,Addr.mk.injEq,and_true] at e
 obtain ⟨rfl,rfl,rfl⟩:=e
 rw [List.length_map] at hnc htake
 refine ⟨⟨cur,hh,hcs,fun i hi=>?_⟩,hg,hnc,hcm,by rw [List.length_map]⟩
 have h1:=hr i (by rw [List.length_map];exact hi)
 have e1:(l.map Entry.enc).getD i []=(l.getD i default).enc:=by simp [List.getD,hi]
 rw [e1] at h1
 have e2:(cells.drop (i*Entry.ty.length)).take Entry.ty.length=(cur.toList.drop (i*6)).take 6:=by
  rw [← htake]
  apply List.ext_getElem?
  intro m
  show ((List.drop (i*6) (List.take (l.length*6) cur.toList)).take 6)[m]? = _
  simp only [List.getElem?_take,List.getElem?_drop]
  by_cases hm:m<6
  ·rw [if_pos hm,if_pos hm,if_pos (by omega)]
  ·rw [if_neg hm,if_neg hm]
 rw [e2] at h1
 refine h1.mono fun b _ hb=>⟨?_,fun e=>hb.2 (by rw [e];rfl)⟩
 rw [if_neg (by omega)];exact hb.1
theorem Mid.to {w:World} {base:Nat} {S:Nat→Prop} {g c:Nat} {l:List Entry} (h:Mid w base S g c l.length l) (hg:base≤g) (hc:l.length≤c) (hm:c≤maxLen):OwnR base w En (fun b=>base≤b) Entry.ty (.slice (some ⟨g,0,none⟩) l.length c) (l.map Entry.enc):=by
 obtain ⟨cur,h1,h2,h3⟩:=h
 refine ⟨cur.toList.take (l.length*6),⟨?_,.inr ⟨g,c,cur,by rw [List.length_map],hg,h1,by rw [List.length_map];exact hc,hm,h2,by rw [List.length_map];rfl⟩⟩,fun i hi=>?_⟩
 ·have e0:cur.toList.length=c*6:=by rw [Array.length_toList];exact h2
  have e1:(cur.toList.take (l.length*6)).length=l.length*6:=by rw [List.length_take,e0];omega
  rw [e1,List.length_map];rfl
 ·rw [List.length_map] at hi
  have e1:(l.map Entry.enc).getD i []=(l.getD i default).enc:=by simp [List.getD,hi]
  rw [e1]
  have e2:((cur.toList.take (l.length*6)).drop (i*Entry.ty.length)).take Entry.ty.length=(cur.toList.drop (i*6)).take 6:=by
   apply List.ext_getElem?
   intro m
   show ((List.drop (i*6) (List.take (l.length*6) cur.toList)).take 6)[m]? = _
   simp only [List.getElem?_take,List.getElem?_drop]
   by_cases hm:m<6
   ·rw [if_pos hm,if_pos hm,if_pos (by omega)]
   ·rw [if_neg hm,if_neg hm]
  rw [e2]
  refine (h3 i hi).mono fun b _ hb=>⟨?_,fun e=>hb.2 (by simp only [Value.ownBlock,Option.some.injEq] at e;exact e.symm)⟩
  have:=hb.1
  rw [if_pos hi] at this;exact this
theorem zuj (v:Value) (l:List Entry) (w:World) (S:Nat→Prop) (hS:∀ b,S b→b<w.heap.size) (h:Rd w S (.sl Entry.ty) v (.sl (l.map Entry.enc))) (hl:zch l) :
  Calls Tryz.prog 124 #[v] w (fun e w'=>∃ u,e = .returned u∧OwnR w.heap.size w' En (fun b=>w.heap.size≤b) Entry.ty u (l.map Entry.enc)∧Below w.heap.size w w'):=by
 have HC:=Lib.hid (zjO v l w S hS h hl.1)
 go_enter Tryz.func124,Tryz.ntmps124
 go_wp2_with fail
 refine HC.out.mono ?_
 rintro e w1 ⟨u,rfl,hO,hB⟩
 have hN:l.length≤1000000:=hl.1
 have hOR:=Lib.hid hO
 rcases (show (∃ cells:List Value,_) from hO) with ⟨cells,ho,hr⟩
 rcases ho.2 with ⟨e,he⟩ | ⟨g,cap,cur,e,hg,hh,hnc,hcm,hcs,htake⟩
 ·subst e
  rw [List.length_map] at he
  obtain rfl:l=[]:=List.length_eq_zero_iff.1 he
  have HB:=Lib.hid hB
  clear hB ho hO hr
  go_wp2_with fail
  go_loopw [8] (fun i wr=>i = .int .i64 0∧Below w.heap.size w wr) (fun i _=>0)
  case atStart=>exact ⟨rfl,HB.out⟩
  case round=>
   obtain ⟨rfl,hb⟩:=hrel
   have HBB:=Lib.hid hb
   have k1:¬ (0:Int)<(([]:List Entry).length:Int):=by simp
   clear hb
   go_wp2_with fail
   go_ret
   exact ⟨_,rfl,OwnR.nil _ _ _ _ _,HBB.out⟩
 subst e
 clear hr
 obtain ⟨hM,hg2,hc2,hcm2,hn2⟩:=Mid.of hOR.out
 rw [List.length_map] at *
 have HM:=Lib.hid hM
 have HB:=Lib.hid hB
 clear hM hB ho hO hh htake
 go_wp2_with fail
 go_loopw [8] (fun i wr=>∃ j:Nat,j≤l.length∧i = .int .i64 j∧Mid wr w.heap.size S g cap j l∧Below w.heap.size w wr) (fun i _=>l.length-(intOf i).toNat)
 case atStart=>exact ⟨0,Nat.zero_le _,rfl,HM.out,HB.out⟩
 case round=>
  obtain ⟨j,hj,rfl,hm,hb⟩:=hrel
  by_cases hlt:j<l.length
  ·have k0:(0:Int)≤(j:Int):=by omega
   have k1:(j:Int)<(l.length:Int):=by omega
   obtain ⟨x,hx⟩:∃ x,l.getD j default=x:=⟨_,rfl⟩
   have hsx:zaq x.config:=(hl.2 x (by rw [← hx];exact za8 hlt))
   obtain ⟨a3,c3,a4,c4,q3,q4,f3,f4,hcfg⟩:=hm.at hlt hc2
   rw [hx] at q3 q4 hcfg
   have hC:=zo6 _ x.config wr (fun b=>S b∧b≠g) (fun b hb'=>Nat.lt_of_lt_of_le (hS b hb'.1) hb.size) hcfg hsx
   have HCF:=Lib.hid hC
   have HMM:=Lib.hid hm
   have HBB:=Lib.hid hb
   have HX:=Lib.hid hx
   have hgl:g<wr.heap.size:=by obtain ⟨cur,k1,_⟩:=hm;exact k1.lt
   clear hcfg hm hb hC hx
   go_wp2_with fail
   refine HCF.out.mono ?_
   rintro e w2 ⟨us,rfl,hu,hB2⟩
   match us,hu with
   | [u,u'],hu=>
   obtain ⟨a5,c5,e5,_⟩:=Rd.sl' hu.1
   obtain ⟨a6,c6,e6,_⟩:=Rd.sl' hu.2.1
   subst e5;subst e6
   obtain ⟨b3,d3,b4,d4,r3,r4,g3,g4,_⟩:=(HMM.out.next hB2).at hlt hc2
   have HU:=Lib.hid hu
   have HB2:=Lib.hid hB2
   clear hu hB2 q3 q4 f3 f4
   go_wp2_with fail
   go_roundw
   case rel=>exact ⟨j+1,by omega,by go_num,((HMM.out.next HB2.out).step hlt hc2 (by rw [HX.out];exact RdL.mono (fun b _ hb=>⟨Nat.le_trans HBB.out.size hb,by show b≠g;omega⟩) HU.out)),((HBB.out.trans (HB2.out.mono HBB.out.size)).setCell hg2 _).setCell hg2 _⟩
   case measure=>simp [intOf];omega
  ·have k1:¬ (j:Int)<(l.length:Int):=by omega
   obtain rfl:j=l.length:=by omega
   have HMM:=Lib.hid hm
   have HBB:=Lib.hid hb
   clear hm hb
   go_wp2_with fail
   go_ret
   exact ⟨_,rfl,HMM.out.to hg2 hc2 hcm2,HBB.out⟩
theorem zrU {E:Env} {w w':World} {v:Value} {l:List Entry} (hm:MemOk w.heap.size (cxIn E D2 1) w E (mOf D2) w) (hb:Below w.heap.size w w') (ho:OwnR w.heap.size w' En (fun b=>w.heap.size≤b) Entry.ty v (l.map Entry.enc)) :
  ∃ E',E'.β 2=some v∧v.oneCell'=true∧MemOk w.heap.size (cxIn E D2 1) w E' (mOf [.dead,.dead,.row En [1] (.rEntry l)]) w':=by
 obtain ⟨a,c,ef⟩:=ho.form
 have hl:∀ t,(mOf D2 t).live=false:=by intro t;rw [mD2];split<;>rfl
 have hno:∀ {E:Env} {t b:Nat},¬ Has E (mOf D2) t b:=zeE
 obtain ⟨E1,hE1⟩:∃ E1:Env,E1=⟨E.β,fun i b=>E.σ i b∨(i=1∧w.heap.size≤b∧b<w'.heap.size∧v.ownBlock≠some b),E.φ⟩:=⟨_,rfl⟩
 have h1:MemOk w.heap.size (cxIn E D2 1) w E1 (mOf D2) w':=by
  subst hE1
  refine ⟨fun t ht=>⟨(hm.empty t ht).1,fun b hb'=>?_⟩,fun t T vs ht=>?_,fun t T ls r ht=>?_,fun i b hb'=>?_,fun i j b hi hj=>?_,hm.low,fun t b hh=>absurd hh hno,fun i b hi hb'=>?_,fun t u b h1=>absurd h1 hno,hm.keep,⟨hb.os,hb.tape,hb.output,hb.size,fun b h1 _=>hb.block b h1⟩,hb.size,fun t o ht=>(by have:=hl t;rw [ht] at this;cases this)⟩
  ·rcases hb' with h | ⟨rfl,_⟩
   ·exact (hm.empty t ht).2 b h
   ·rw [mD2] at ht;simp at ht
  ·have:=hl t;rw [ht] at this;cases this
  ·have:=hl t;rw [ht] at this;cases this
  ·rcases hb' with h | ⟨rfl,h1,h2,_⟩
   ·exact ⟨Nat.lt_of_lt_of_le (hm.lab i b h).1 hb.size,(hm.lab i b h).2⟩
   ·exact ⟨h2,fun _=> .inl h1⟩
  ·rcases hi with hi | ⟨rfl,h1,h2,_⟩<;>rcases hj with hj | ⟨rfl,h3,h4,_⟩
   ·exact hm.dis i j b hi hj
   ·have:=(hm.lab i b hi).1;omega
   ·have:=(hm.lab j b hj).1;omega
   ·rfl
  ·rcases hb' with h | ⟨rfl,_⟩
   ·exact h
   ·simp [cxIn] at hi
 have hE2:mOf D2 2 = .empty:=by rw [mD2];rfl
 have h2:=h1.take (w':=w') hE2 v (.row En [1] (.rEntry l)) (by simp) (Nat.le_refl _) (fun _ _=>rfl) (BelowX.refl _ _ _) (fun b hv=>?_) ?_
 ·refine ⟨E1.setβ 2 v,(by show (if 2=2 then some v else E1.β 2)=some v;rw [if_pos rfl]),by rw [ef];rfl,?_⟩
  have e:upd (mOf D2) 2 (.row En [1] (.rEntry l))=mOf [.dead,.dead,.row En [1] (.rEntry l)]:=by
   funext t
   match t with
   | 0=>rfl
   | 1=>rfl
   | 2=>rfl
   | t+3=>rw [zbm _ _ (by omega),mD2,if_neg (by omega),zd9];simp [List.getD]
  rw [← e];exact h2
 ·have hv2:v.ownBlock=some b:=by rw [za9 ⟨a,_,c,ef⟩];exact hv
  have hb2:=ho.lt b hv2
  refine ⟨fun ⟨i,hi⟩=>?_,fun t=>zeE,.inl hb2.1⟩
  subst hE1
  rcases hi with hi | ⟨_,_,_,h3⟩
  ·have:=(hm.lab i b hi).1;omega
  ·exact h3 hv2
 ·obtain ⟨cells,hc,hr⟩:=ho.mono (Nat.zero_le _) (fun b hb=>hb)
  refine ⟨cells,hc,fun i hi=>(hr i hi).mono fun b hb' hs=>⟨⟨1,by simp,?_⟩,hs.2⟩⟩
  show E1.σ 1 b
  rw [hE1]
  exact .inr ⟨rfl,hs.1,hb',hs.2⟩
theorem znj {E:Env} {w:World} {l:List Entry} {v:Value} (h:DenV E w (dEntrys.can l) v):Rd w (E.set [0]) (.sl Entry.ty) v (.sl (l.map Entry.enc)):=h
theorem zdQ (l:List Entry) (hl:zch l):FnC Tryz.prog 124 [dEntrys.can l] (.own 2) [.dead,.dead,.row 89 [1] (.rEntry l)]:=by
 refine ⟨fnB Tryz.func124 (by decide) rfl,fun w E vals hm hd=>?_⟩
 obtain ⟨v,rfl,hv⟩:=zc5 hd
 refine (zuj v l w (E.set [0]) (fun b ⟨i,_,hs⟩=>(hm.lab i b hs).1) (znj hv) hl).mono ?_
 rintro e w' ⟨u,rfl,ho,hb⟩
 obtain ⟨E',h1,h2,h3⟩:=zrU hm hb ho
 exact ⟨u,E',rfl,⟨h1,h2⟩,h3⟩
def zpZ:Ent:=ent1 124 dEntrys fun l=>([zch l],.own 2,[.dead,.dead,.row 89 [1] (.rEntry l)])
theorem zub:zch []:=⟨by decide,fun x h=>by cases h⟩
theorem zjD:zaf Tryz.prog zpZ:=zan (zdQ [] zub).1 fun l h=>zdQ l (h _ (by simp))
structure SmallN (n:Node):Prop where
 k:zb2 n.kept
 yes:n.yes.length≤1000000
 peers:n.peers.length≤1000000
 reads:n.reads.length≤1000000
def Node.osvs (n:Node) (ls:List Nat) (e y p r:Nat):List SV:=
 [.int .i64 n.id,.int .i64 n.role,.int .i64 n.kept.term,.int .i64 n.kept.vote,.int .i64 n.kept.snap.index,.int .i64 n.kept.snap.term,.sl ls (.rInts n.kept.snap.config.voters),.sl ls (.rInts n.kept.snap.config.learners),.str n.kept.snap.data,.own e,.int .i64 n.commit,.int .i64 n.lead,.int .i64 n.elapsed,.own y,.own p,.int .i64 n.round,.own r]
def zvW (n:Node):List BE:=[.dead,.dead,.row 89 [1] (.rEntry n.kept.entries),.row 3 [] (.rInts n.yes),.row 94 [] (.rPeer n.peers),.row 96 [] (.rRead n.reads)]
def tabN1:List Ent:=[ztF,zqr,zqq,zgS,zpZ]
theorem zri:∀ e∈tabN1,zaf Tryz.prog e:=zaa zjJ (zaa znw (zaa znv (zaa zdf (zaa zjD zad))))
theorem ztj (n:Node) (hn:SmallN n):FnC Tryz.prog 53 [dNode.can n] (.agg (n.osvs [1] 2 3 4 5)) (zvW n):=by
 refine FnG.of_vc (zaj zri fun _=>none) Tryz.func53 rfl (by decide) rfl 300 (p:=fun (V:List PE→Prop)=>True∧(zaq n.kept.snap.config∧True)∧(zch n.kept.entries∧True)∧(n.yes.length≤1000000∧n.peers.length≤1000000∧n.reads.length≤1000000∧True)∧True∧qN0 n n (qN1 n n (n.reads=n.reads∧True))) (by kernel_rfl) ?_
 simp only [qN0,qN1,imp_self,implies_true,true_and,and_true,zae,zag]
 exact ⟨hn.k.2,hn.k.1,hn.yes,hn.peers,hn.reads⟩
def zuN:Ent:=ent1 53 dNode fun n=>([SmallN n],.agg (n.osvs [1] 2 3 4 5),zvW n)
theorem zbE:SmallN default:=⟨zh0,by decide,by decide,by decide⟩
theorem zml:zaf Tryz.prog zuN:=zan (ztj default zbE).1 fun l h=>ztj l (h _ (by simp))
def dRpInt:Dec Int where
 dec:=fun s=>match s with | .rp _ 3 [.int .i64 n] 0=>some n | _=>none
 can:=fun x=> .rp [0] 3 [.int .i64 x] 0
 Okp:=fun x=>True
 okp:=fun x E w v _=>trivial
 ok:=by
  intro s x h E w v hz hd
  split at h
  case h_2=>simp at h
  rename_i ls n
  simp only [Option.some.injEq] at h
  subst h
  obtain ⟨b,xs,hv,hb,hh,hl⟩:=hd
  exact ⟨b,xs,hv,hz.set hb,hh,hl⟩
def dCloW:Dec Int where
 dec:=fun s=>match s with | .clo 130 [t]=>dRpInt.dec t | _=>none
 can:=fun x=> .clo 130 [dRpInt.can x]
 Okp:=fun x=>True
 okp:=fun x E w v h=>trivial
 ok:=by
  intro s x h E w v hz hd
  split at h
  case h_2=>simp at h
  obtain ⟨xs,hv,hd⟩:=hd
  match xs,hd with
  | [u],hd=>exact ⟨[u],hv,dRpInt.ok _ _ h E w u hz hd.1,trivial⟩
def offB (most x:Int):Bool:=decide (x<0)||decide (x>most)
theorem zgk (x most:Int):FnC Tryz.prog 130 [dInt.can x,dRpInt.can most] (.bool (offB most x)) D2:=by
 refine FnG.of_vc (zaj zad fun _=>none) Tryz.func130 rfl (by decide) rfl 300 (p:=fun (V:List PE→Prop)=>let v0:=decide (x<0);True∧(((!v0)=true→(!v0)=true)∧((!v0)=true→(!v0)=true)∧(v0=false→(!v0)=true)∧True)∧zac v0 true (decide (x>most))=offB most x∧True) (by kernel_rfl) ?_
 simp only [offB]
 cases h:decide (x<0)<;>simp [zac]
def eWi1:Ent:=ent2 130 dInt dRpInt fun x m=>([],.bool (offB m x),D2)
theorem zpB:zaf Tryz.prog eWi1:=zav (zgk 0 0).1 fun x m _=>zgk x m
theorem zjo (l:List Int) (m:Int):FnC Tryz.prog 180 [dInts.can l,dCloW.can m] (.int .i64 (zaH (offB m) l)) D2:=by
 refine FnC.g2 dInts dCloW l m (fnB Tryz.func180 (by decide) rfl) fun hl _=>?_
 refine FnG.of_vc (zaj (zaa zpB zad) fun _=>none) Tryz.func180 rfl (by decide) rfl 300 (p:=fun (V:List PE→Prop)=>True∧True∧V []) (by kernel_rfl) ?_
 simp only [true_and,and_true]
 refine LoopG.head (zaj (zaa zpB zad) fun _=>none) 0 (A:=Nat) (fun j=>j≤l.length∧∀ i,i<j→offB m (l.getD i 0)=false) (fun j=>[(8,.int .i64 j)]) (fun _=>[]) (fun j=>l.length-j) 0 ⟨Nat.zero_le _,fun i h=>absurd h (by omega)⟩ (p0:=let v0:=(↑(l.length):Int);(0:Int)=(↑(0:Nat):Int)∧v0=v0∧l=l∧m=m∧True) (by kernel_rfl) ?_ 300 (p:=fun (x:Nat) (V:List PE→Prop)=>let v0:=zaH (offB m) l;let v1:=(↑x:Int);let v2:=(↑(l.length):Int);let v3:=offB m (List.getD l x (0:Int));let v4:=decide (v1<v2);True∧True∧(v4=true→True∧((0:Int)≤v1∧v1<v2∧True)∧True∧(v3=true→True∧v1=v0∧True)∧(v3=false→True∧V [PE.a,PE.b]))∧(v4=false→True∧(-1:Int)=v0∧True)) (by intro x;kernel_rfl) ?_
 ·simp
 ·rintro j ⟨hj,h0⟩
  have hl44:=hl.1
  simp only [true_and,and_true,decide_eq_true_eq,decide_eq_false_iff_not]
  refine ⟨fun h1=>⟨by omega,fun h2=>?_,fun h2=>?_⟩,fun h1=>?_⟩
  ·exact (zdm (by omega) h0 h2).symm
  ·refine Back.mk (j+1) ⟨by omega,fun i hi=>?_⟩ (by omega) (p0:=let v0:=(↑(l.length):Int);IntKind.wrap IntKind.i64 ((↑j:Int)+(1:Int))=(↑(j+(1:Nat)):Int)∧v0=v0∧l=l∧m=m∧True) (by kernel_rfl) ?_
   ·by_cases h:i=j
    ·subst h;exact h2
    ·exact h0 i (by omega)
   ·simp [zbj (i:=j) (by omega)]
  ·exact (zc9 fun i hi=>h0 i (by omega)).symm
def eIdxW:Ent:=ent2 180 dInts dCloW fun l m=>([],.int .i64 (zaH (offB m) l),D2)
theorem zs7:zaf Tryz.prog eIdxW:=zav (zjo [] 0).1 fun l m _=>zjo l m
theorem zm2 (l:List Int) (m:Int):FnC Tryz.prog 129 [dInts.can l,dCloW.can m] (.bool (l.any (offB m))) D2:=by
 refine FnG.of_vc (zaj (zaa zs7 zad) fun _=>none) Tryz.func129 rfl (by decide) rfl 300 (p:=fun (V:List PE→Prop)=>True∧True∧decide ((zaH (offB m) l)≥0)=List.any l (offB m)∧True) (by kernel_rfl) ?_
 simp only [true_and,and_true]
 exact zj0 l
def zw7:Ent:=ent2 129 dInts dCloW fun l m=>([],.bool (l.any (offB m)),D2)
theorem zqp:zaf Tryz.prog zw7:=zav (zm2 [] 0).1 fun l m _=>zm2 l m
theorem ziz (m:Int) (l:List Int):FnC Tryz.prog 56 [dInt.can m,dInts.can l] (.bool (!l.any (offB m))) D2:=by
 refine FnG.of_vc (zaj (zaa zqp zad) fun _=>none) Tryz.func56 rfl (by decide) rfl 300 (p:=fun (V:List PE→Prop)=>let v0:=!List.any l (offB m);True∧True∧v0=v0∧True) (by kernel_rfl) ?_
 simp
def zk7:Ent:=ent2 56 dInt dInts fun m l=>([],.bool (!l.any (offB m)),D2)
theorem zgM:zaf Tryz.prog zk7:=zav (ziz 0 []).1 fun m l _=>ziz m l
def za0 (n:Node):Config:=(zap n.kept (zal n.kept).1).1
theorem zn8 {k:Kept} (h:zb2 k) (i:Int):zaq (cfgR k i).1:=by
 unfold cfgR
 split
 ·rename_i e he
  exact h.1.2 e (by have:=List.mem_of_find?_eq_some he;simpa using this)
 ·exact h.2
theorem ziq {k:Kept} (h:zb2 k) (i:Int):zaq (zap k i).1:=by
 unfold zap
 split
 ·exact zn8 h i
 ·exact ⟨Nat.zero_le _,Nat.zero_le _⟩
theorem zbU {n:Node} (h:SmallN n):zaq (za0 n):=ziq h.k _
def tabN2:List Ent:=[zjH,zs9,ze8,zt7]
theorem zl1:∀ e∈tabN2,zaf Tryz.prog e:=zaa zed (zaa zij (zaa zcy (zaa zpV zad)))
theorem zjM (n:Node) (hn:SmallN n):FnC Tryz.prog 77 [dNode.can n] (.agg ((za0 n).svs [1])) D2:=by
 refine FnG.of_vc (zaj zl1 fun _=>none) Tryz.func77 rfl (by decide) rfl 300 (p:=fun (V:List PE→Prop)=>let v1:=Prod.fst (zap n.kept (Prod.fst (zal n.kept)));True∧True∧(zb2 n.kept∧True)∧True∧v1.voters=Config.voters (za0 n)∧v1.learners=Config.learners (za0 n)∧True) (by kernel_rfl) ?_
 simp only [imp_self,implies_true,true_and,and_true,zae,zag]
 exact ⟨hn.k,rfl,rfl⟩
theorem zfz (n:Node) (hn:SmallN n):FnC Tryz.prog 143 [dNode.can n] (.agg ((za0 n).svs [1])) D2:=by
 refine FnG.of_vc (zaj zl1 fun _=>none) Tryz.func143 rfl (by decide) rfl 300 (p:=fun (V:List PE→Prop)=>let v1:=Prod.fst (zap n.kept (Prod.fst (zal n.kept)));True∧True∧(zb2 n.kept∧True)∧True∧v1.voters=Config.voters (za0 n)∧v1.learners=Config.learners (za0 n)∧True) (by kernel_rfl) ?_
 simp only [imp_self,implies_true,true_and,and_true,zae,zag]
 exact ⟨hn.k,rfl,rfl⟩
def zgW:Ent:=ent1 77 dNode fun n=>([SmallN n],.agg ((za0 n).svs [1]),D2)
theorem zdg:zaf Tryz.prog zgW:=zan (zjM default zbE).1 fun l h=>zjM l (h _ (by simp))
def zpW:Ent:=ent1 143 dNode fun n=>([SmallN n],.agg ((za0 n).svs [1]),D2)
theorem znp:zaf Tryz.prog zpW:=zan (zfz default zbE).1 fun l h=>zfz l (h _ (by simp))
def zam (n:Node):List Int:=zay (allC (za0 n)) n.id
theorem zcE (c:Config):Asc (allC c)∧(allC c).length≤16:=by
 unfold allC
 split
 ·rename_i h
  have h2:=h
  unfold mayC at h2
  simp only [Bool.and_eq_true] at h2
  refine ⟨zez (isC_iff.1 h2.1.1.1.1).1,?_⟩
  have:=zlV h
  unfold zcL at this
  split at this
  ·split at this
   ·assumption
   ·simp at this
  ·simp at this
 ·exact ⟨List.Pairwise.nil,by simp⟩
theorem zrZ (c:Config):isC (allC c)=true:=isC_iff.2 (zcE c)
noncomputable def tabN3:List Ent:=[zgW,zpW,eAll,zwy,zfd,zuV]
theorem zl0:∀ e∈tabN3,zaf Tryz.prog e:=zaa zdg (zaa znp (zaa zuZ (zaa zs0 (zaa zdD (zaa zmt zad)))))
theorem ziV (n:Node) (hn:SmallN n):FnC Tryz.prog 61 [dNode.can n] (.sl [1] (.rInts (zam n))) D2:=by
 refine FnG.of_vc (zaj zl0 fun _=>none) Tryz.func61 rfl (by decide) rfl 300 (p:=fun (V:List PE→Prop)=>True∧(SmallN n∧zaq (za0 n)∧List.length (allC (za0 n))≤1000000∧True)∧True∧zbg (allC (za0 n)) n.id=zam n∧True) (by kernel_rfl) ?_
 simp only [imp_self,implies_true,true_and,and_true,zae,zag]
 have:=(zcE (za0 n)).2
 refine ⟨⟨hn,zbU hn,by omega⟩,?_⟩
 rw [zbg,zrZ];rfl
theorem zgw (n:Node) (hn:SmallN n):FnC Tryz.prog 119 [dNode.can n] (.sl [1] (.rInts (zam n))) D2:=by
 refine FnG.of_vc (zaj zl0 fun _=>none) Tryz.func119 rfl (by decide) rfl 300 (p:=fun (V:List PE→Prop)=>True∧(SmallN n∧zaq (za0 n)∧List.length (allC (za0 n))≤1000000∧True)∧zay (allC (za0 n)) n.id=zam n∧True) (by kernel_rfl) ?_
 simp only [imp_self,implies_true,true_and,and_true,zae,zag]
 have:=(zcE (za0 n)).2
 exact ⟨⟨hn,zbU hn,by omega⟩,rfl⟩
def eOth:Ent:=ent1 61 dNode fun n=>([SmallN n],.sl [1] (.rInts (zam n)),D2)
theorem zkD:zaf Tryz.prog eOth:=zan (ziV default zbE).1 fun l h=>ziV l (h _ (by simp))
def zwx:Ent:=ent1 119 dNode fun n=>([SmallN n],.sl [1] (.rInts (zam n)),D2)
theorem zsw:zaf Tryz.prog zwx:=zan (zgw default zbE).1 fun l h=>zgw l (h _ (by simp))
theorem zj5 (a b:List Int):FnC Tryz.prog 60 [dInts.can a,dInts.can b] (.bool (decide (a=b))) D2:=by
 refine FnC.g2 dInts dInts a b (fnB Tryz.func60 (by decide) rfl) fun ha hb=>?_
 refine FnG.of_vc (zaj zad fun _=>none) Tryz.func60 rfl (by decide) rfl 300 (p:=fun (V:List PE→Prop)=>let v0:=(↑(a.length):Int) != (↑(b.length):Int);True∧True∧True∧(v0=true→True∧false=decide (a=b)∧True)∧(v0=false→True∧V [PE.b])) (by kernel_rfl) ?_
 simp only [true_and,and_true,imp_self]
 refine ⟨fun h=>?_,fun h=>?_⟩
 ·have:a≠b:=fun e=>by subst e;simp at h
  simp [this]
 have hab:a.length=b.length:=by simp at h;omega
 refine LoopG.head (zaj zad fun _=>none) 0 (A:=Nat) (fun j=>j≤a.length∧∀ i,i<j→a.getD i 0=b.getD i 0) (fun j=>[(13,.int .i64 j)]) (fun j=>[]) (fun j=>a.length-j) 0 ⟨Nat.zero_le _,fun i h=>absurd h (by omega)⟩ (p0:=let v0:=(↑(a.length):Int);(0:Int)=(↑(0:Nat):Int)∧v0=v0∧a=a∧b=b∧True) (by kernel_rfl) ?_ 300 (p:=fun (x:Nat) (V:List PE→Prop)=>let v0:=(↑x:Int);let v1:=(↑(a.length):Int);let v2:=List.getD a x (0:Int) != List.getD b x (0:Int);let v3:=decide (v0<v1);True∧True∧(v3=true→True∧((0:Int)≤v0∧v0<v1∧(0:Int)≤v0∧v0<(↑(b.length):Int)∧True)∧True∧(v2=true→True∧false=decide (a=b)∧True)∧(v2=false→True∧V [PE.a,PE.b]))∧(v3=false→True∧true=decide (a=b)∧True)) (by intro x;kernel_rfl) ?_
 ·simp
 ·rintro j ⟨hj,h0⟩
  have hkl:=ha.1
  simp only [imp_self,implies_true,true_and,and_true,decide_eq_true_eq,decide_eq_false_iff_not]
  refine ⟨fun h6=>⟨by omega,fun h7=>?_,fun h7=>?_⟩,fun h6=>?_⟩
  ·have:a≠b:=fun e=>by subst e;simp at h7
   simp [this]
  ·refine Back.mk (j+1) ⟨by omega,fun i hi=>?_⟩ (by omega) (p0:=let v0:=(↑(a.length):Int);IntKind.wrap IntKind.i64 ((↑j:Int)+(1:Int))=(↑(j+(1:Nat)):Int)∧v0=v0∧a=a∧b=b∧True) (by kernel_rfl) ?_
   ·by_cases hij:i=j
    ·subst hij;simpa using h7
    ·exact h0 i (by omega)
   ·simp [zbj (i:=j) (by omega)]
  ·have:a=b:=zmg hab fun i hi=>h0 i (by omega)
   simp [this]
def eEqS:Ent:=ent2 60 dInts dInts fun a b=>([],.bool (decide (a=b)),D2)
theorem zuS:zaf Tryz.prog eEqS:=zav (zj5 [] []).1 fun a b _=>zj5 a b
def wi (m x:Int):Bool:=decide (0≤x)&&decide (x≤m)
theorem zd8 (m x:Int):offB m x=!wi m x:=by
 unfold offB wi
 by_cases h1:0≤x<;>by_cases h2:x≤m<;>simp [h1,h2]<;>omega
def zbK (last round:Int) (p:Peer):Bool:=wi last p.match_&&decide (p.next>p.match_)&&decide (IntKind.i64.wrap (p.next-1)≤last)&&wi round p.round
def zbp (n:Node):Bool:=decide (n.peers.map (·.node)=zam n)&&decide (n.reads.length≤100)&&n.peers.all (zbK (zal n.kept).1 n.round)
def zb0 (k:Kept):Bool:=k.entries.all (fun e=>!(e.kind==2)||mayC e.config)&&mayC k.snap.config
def zup (n:Node):Bool:=
 wi 4 (IntKind.i64.wrap (n.id-1))&&decide (1≤n.role)&&decide (n.role≤4)&&decide (n.kept.entries.length≤9000)&&onC n.kept &&
 wi 900000000 n.kept.term&&wi 900000000 n.kept.vote&&wi 900000000 n.round&&wi 900000000 n.lead&&wi 900000000 (zal n.kept).1&&wi 1000 n.elapsed &&
 decide (n.kept.snap.index≤n.commit)&&decide (n.commit≤(zal n.kept).1)&&isC n.yes&&n.yes.all (fun y=>wi 4 (IntKind.i64.wrap (y-1)))
def zak (n:Node):Bool:=zup n&&zb0 n.kept&&(if n.role=4 then zbp n else decide (n.peers=[])&&decide (n.reads=[]))
def cfE (e:Entry):Bool:=!(e.kind==2)||mayC e.config
def okA0 (n:Node):Bool:=
 wi 4 (IntKind.i64.wrap (n.id-1))&&decide (1≤n.role)&&decide (n.role≤4)&&decide (n.kept.entries.length≤9000)&&onC n.kept &&
 wi 900000000 n.kept.term&&wi 900000000 n.kept.vote&&wi 900000000 n.round&&wi 900000000 n.lead&&wi 900000000 (zal n.kept).1&&wi 1000 n.elapsed &&
 decide (n.kept.snap.index≤n.commit)&&decide (n.commit≤(zal n.kept).1)&&isC n.yes&&mayC n.kept.snap.config
theorem zel {α:Type} {d:α} {l:List α} {j:Nat} (f:α→Bool) (h:j<l.length):(l.take (j+1)).all f=((l.take j).all f&&f (l.getD j d)):=by
 rw [za3 (d:=d) h,List.all_append];simp
theorem zr9 (n:Node) (hl:n.peers.length+n.reads.length≤9000000000):zak n=((okA0 n&&n.kept.entries.all cfE&&n.yes.all (fun y=>wi 4 (IntKind.i64.wrap (y-1)))&&n.peers.all (zbK (zal n.kept).1 n.round)) &&
  ((!(n.role==4)||decide (n.peers.map (fun x=>x.node)=zam n))&&((n.role==4)||!decide (IntKind.i64.wrap ((n.peers.length:Int)+(n.reads.length:Int))>0))&&!decide ((n.reads.length:Int)>100))):=by
 have hc:zb0 n.kept=(n.kept.entries.all cfE&&mayC n.kept.snap.config):=rfl
 rw [zak,hc,zup,okA0,zbu (n:=(n.peers.length:Int)+(n.reads.length:Int)) ⟨by omega,by omega⟩]
 have h100:(!decide ((n.reads.length:Int)>100))=decide (n.reads.length≤100):=by rw [Bool.eq_iff_iff];simp;omega
 rw [h100]
 have ew:(!decide ((n.peers.length:Int)+(n.reads.length:Int)>0))=(decide (n.peers=[])&&decide (n.reads=[])):=by
  rw [Bool.eq_iff_iff]
  simp only [Bool.not_eq_true',decide_eq_false_iff_not,Bool.and_eq_true,decide_eq_true_eq,← List.length_eq_zero_iff]
  omega
 rw [ew]
 by_cases hr:n.role=4
 ·have hr2:(n.role==4)=true:=by simpa using hr
  rw [if_pos hr,hr2,zbp]
  simp only [Bool.not_true,Bool.false_or,Bool.true_or,Bool.and_true]
  generalize mayC n.kept.snap.config=x1
  generalize n.kept.entries.all cfE=x2
  generalize n.peers.all (zbK (zal n.kept).1 n.round)=x3
  generalize n.yes.all (fun y=>wi 4 (IntKind.i64.wrap (y-1)))=x4
  generalize decide (n.reads.length≤100)=x5
  simp only [Bool.and_assoc]
  cases x1<;>cases x2<;>cases x3<;>cases x4<;>cases x5<;>simp [Bool.and_assoc]
 ·have hr2:(n.role==4)=false:=by simpa using hr
  rw [if_neg hr,hr2]
  by_cases hp:n.peers=[]
  ·by_cases hq:n.reads=[]
   ·rw [hp,hq]
    generalize mayC n.kept.snap.config=x1
    generalize n.kept.entries.all cfE=x2
    generalize n.yes.all (fun y=>wi 4 (IntKind.i64.wrap (y-1)))=x4
    cases x1<;>cases x2<;>cases x4<;>simp [Bool.and_assoc]
   ·simp [hq]
  ·simp [hp]
def errC (n:Node):Int:=if zak n then 0 else 1
noncomputable def tabP:List Ent:=[zjH,zk7,zkM,eIs,zkG,eOth,eEqS]
theorem zhw:∀ e∈tabP,zaf Tryz.prog e:=zaa zed (zaa zgM (zaa zgX (zaa zw6 (zaa zgT (zaa zkD (zaa zuS zad))))))
theorem zhe (n:Node) (hn:SmallN n):FnC Tryz.prog 18 [dNode.can n] (.int .i64 (errC n)) D2:=by
 refine FnC.g1 dNode n (fnB Tryz.func18 (by decide) rfl) fun hk=>?_
 refine FnG.of_vc (zaj zhw fun _=>none) Tryz.func18 rfl (by decide) rfl 300 (p:=fun (V:List PE→Prop)=>let v1:=n.kept;let v5:=Prod.fst (zal v1);let v7:=[IntKind.wrap IntKind.i64 (n.id-(1:Int))];let v8:=!List.any v7 (offB (4:Int));let v9:=zac v8 (decide (n.role≥1)) false;let v10:=zac v9 (decide (n.role≤4)) false;let v11:=[v1.term]++[v1.vote]++[n.round]++[n.lead]++[v5];let v12:=zac v10 (decide ((↑(v1.entries.length):Int)≤9000)) false;let v13:=zac v12 (err (onC v1)==0) false;let v14:=zac v13 (!List.any v11 (offB (900000000:Int))) false;let v15:=zac v14 (!List.any [n.elapsed] (offB (1000:Int))) false;let v16:=zac v15 (decide (n.commit≥v1.snap.index)) false;let v17:=zac v16 (decide (n.commit≤v5)) false;True∧True∧(v7.length≤17592186044416∧(v8=true→v8=true)∧(v8=true→v8=true)∧(v8=true→v8=true)∧(v9=true→v9=true)∧(v9=true→v9=true)∧(v9=true→v9=true)∧(v10=true→v10=true)∧(v10=true→v10=true)∧(v10=true→v10=true)∧(v10=true→v10=true)∧(v10=true→v10=true)∧True)∧((v12=true→v12=true)∧(v12=true→v12=true)∧(v12=true→v12=true)∧(v12=true→v12=true)∧(v13=true→v13=true)∧(v13=true→v13=true)∧(v13=true→v13=true)∧(v13=true→v13=true)∧(v13=true→v13=true)∧(v13=true→v13=true)∧(v13=true→v11.length≤17592186044416)∧(v13=true→v13=true)∧(v13=true→v13=true)∧(v13=true→v13=true)∧(v13=true→v13=true)∧(v13=true→v13=true)∧(v13=true→v13=true)∧(v13=true→v13=true)∧(v14=true→v14=true)∧(v14=true→List.length [n.elapsed]≤17592186044416)∧(v14=true→v14=true)∧(v14=true→v14=true)∧(v14=true→v14=true)∧True)∧((v15=true→v15=true)∧(v15=true→v15=true)∧(v15=true→v15=true)∧(v15=true→v15=true)∧(v15=true→v15=true)∧(v15=true→v15=true)∧(v15=true→v15=true)∧(v16=true→v16=true)∧(v16=true→v16=true)∧(v16=true→v16=true)∧(v16=true→v16=true)∧(v17=true→v17=true)∧(v17=true→v17=true)∧(v17=true→v17=true)∧(zac v17 (isC n.yes) false=true→zac v17 (isC n.yes) false=true)∧(zac v17 (isC n.yes) false=true→zac v17 (isC n.yes) false=true)∧(zac v17 (isC n.yes) false=true→zac v17 (isC n.yes) false=true)∧(zac v17 (isC n.yes) false=true→zac v17 (isC n.yes) false=true)∧(zac v17 (isC n.yes) false=true→zaq v1.snap.config)∧(zac v17 (isC n.yes) false=true→zac v17 (isC n.yes) false=true)∧(zac v17 (isC n.yes) false=true→zac v17 (isC n.yes) false=true)∧True)∧True∧V []) (by kernel_rfl) ?_
 simp only [qN0,qN2,imp_self,implies_true,true_and,and_true,zae,zag]
 refine ⟨by simp,⟨fun _=>by simp,fun _=>by simp⟩,fun _=>hn.k.2,?_⟩
 obtain ⟨okA,hA⟩:∃ b,b=okA0 n:=⟨_,rfl⟩
 refine LoopG.head (zaj zhw fun _=>none) 0 (A:=Nat) (fun j=>j≤n.kept.entries.length) (fun j=>[(102,.int .i64 j),(5,.bool (okA&&(n.kept.entries.take j).all cfE))]) (fun _=>[]) (fun j=>n.kept.entries.length-j) 0 (Nat.zero_le _) (p0:=let v6:=n.kept;let v7:=v6.entries;let v17:=(0:Int);let v18:=Prod.fst (zal v6);let v19:=(↑(v7.length):Int);v17=(↑(0:Nat):Int)∧zac (zac (zac (zac (zac (zac (zac (zac (zac (zac (!List.any [IntKind.wrap IntKind.i64 (n.id-(1:Int))] (offB (4:Int))) (decide (n.role≥1)) false) (decide (n.role≤4)) false) (decide (v19≤9000)) false) (err (onC v6)==v17) false) (!List.any ([v6.term]++[v6.vote]++[n.round]++[n.lead]++[v18]) (offB (900000000:Int))) false) (!List.any [n.elapsed] (offB (1000:Int))) false) (decide (n.commit≥v6.snap.index)) false) (decide (n.commit≤v18)) false) (isC n.yes) false) (errM (mayC v6.snap.config)==v17) false=(okA&&List.all (List.take (0:Nat) v7) cfE)∧v19=v19∧v7=v7∧v18=v18∧v17=v17∧qN0 n n (qN2 n n (n.reads=n.reads∧True))) (by kernel_rfl) ?_ 300 (p:=fun (x:Nat) (V:List PE→Prop)=>let v0:=n.kept.entries;let v1:=(↑x:Int);let v2:=(↑(v0.length):Int);let v3:=List.getD v0 x default;let v4:=okA&&List.all (List.take x v0) cfE;let v5:=v3.kind != 2;let v6:=decide (v1<v2);True∧True∧(v6=true→((0:Int)≤v1∧v1<v2∧True)∧((v4=true→v4=true)∧(v4=true→v4=true)∧(v4=true→v4=true)∧((v4&&!v5)=true→(v4&&!v5)=true)∧((v4&&!v5)=true→(v4&&!v5)=true)∧((v4&&!v5)=true→zaq v3.config)∧((v4&&!v5)=true→(v4&&!v5)=true)∧(v4=true→v4=true)∧(v4=true→v5=false→(v4&&!v5)=true)∧(v4=true→v4=true)∧True)∧True∧V [PE.a])∧(v6=false→True∧V [PE.b])) (by intro x;kernel_rfl) ?_
 ·have hb:∀ (b:Bool),(errM b==(0:Int))=b:=fun b=>by cases b<;>rfl
  have hb2:∀ (b:Bool),(err b==(0:Int))=b:=fun b=>by cases b<;>rfl
  have e1:(!List.any [IntKind.i64.wrap (n.id-1)] (offB 4))=wi 4 (IntKind.i64.wrap (n.id-1)):=by simp [zd8]
  have e2:(!List.any ([n.kept.term]++[n.kept.vote]++[n.round]++[n.lead]++[(zal n.kept).1]) (offB 900000000))=(wi 900000000 n.kept.term&&wi 900000000 n.kept.vote&&wi 900000000 n.round&&wi 900000000 n.lead&&wi 900000000 (zal n.kept).1):=by simp [zd8,Bool.and_assoc]
  have e3:(!List.any [n.elapsed] (offB 1000))=wi 1000 n.elapsed:=by simp [zd8]
  have e4:decide ((n.kept.entries.length:Int)≤9000)=decide (n.kept.entries.length≤9000):=by rw [Bool.eq_iff_iff,decide_eq_true_eq,decide_eq_true_eq];omega
  simp only [qN0,qN2,hb,hb2,e1,e2,e3,e4,hA,okA0,GE.ge,List.take_zero,List.all_nil,Bool.and_true,and_true,true_and,zae]
  refine ⟨rfl,?_⟩
  have pb:∀ a b:Bool,zac a b false=(a&&b):=fun a b=>by cases a<;>rfl
  simp only [pb,Bool.and_assoc]
 rintro j hj
 have hkl:=hk.kept_entries.1
 simp only [qN0,qN2,imp_self,implies_true,true_and,and_true,decide_eq_true_eq,decide_eq_false_iff_not]
 have hb:∀ (b:Bool),(errM b==(0:Int))=b:=fun b=>by cases b<;>rfl
 have pb:∀ a b:Bool,zac a b false=(a&&b):=fun a b=>by cases a<;>rfl
 have pt:∀ a b:Bool,zac a true b=(a||b):=fun a b=>by cases a<;>rfl
 refine ⟨fun h6=>?_,fun h6=>?_⟩
 ·have hse:=hn.k.1.2 _ (za8 (d:=(default:Entry)) (show j<n.kept.entries.length by omega))
  refine ⟨by omega,⟨fun _=>hse,fun g1 g2=>by rw [g1,g2];rfl⟩,?_⟩
  refine Back.mk (j+1) (by omega) (by omega) (p0:=let v1:=n.kept.entries;let v11:=Prod.fst (zal n.kept);let v12:=(↑(v1.length):Int);let v13:=List.getD v1 j default;IntKind.wrap IntKind.i64 ((↑j:Int)+(1:Int))=(↑(j+(1:Nat)):Int)∧zac (okA&&List.all (List.take j v1) cfE) (zac (v13.kind != 2) true (errM (mayC v13.config)==0)) false=(okA&&List.all (List.take (j+(1:Nat)) v1) cfE)∧v12=v12∧v1=v1∧v11=v11∧(0:Int)=0∧qN0 n n (qN2 n n (n.reads=n.reads∧True))) (by kernel_rfl) ?_
  simp only [qN0,qN2,true_and,and_true,zbj (i:=j) (by omega),hb,pb,pt]
  refine ⟨by omega,?_⟩
  rw [zel (d:=default) _ (by omega),cfE]
  simp only [bne,Bool.and_assoc]
 obtain rfl:j=n.kept.entries.length:=by omega
 rw [List.take_length]
 obtain ⟨okB,hB⟩:∃ b,n.kept.entries.all cfE=b:=⟨_,rfl⟩
 rw [hB]
 refine LoopG.head (zaj zhw fun _=>none) 1 (A:=Nat) (fun j=>j≤n.yes.length) (fun j=>[(122,.int .i64 j),(5,.bool (okA&&okB&&(n.yes.take j).all (fun y=>wi 4 (IntKind.i64.wrap (y-1)))))]) (fun _=>[]) (fun j=>n.yes.length-j) 0 (Nat.zero_le _) (p0:=let v12:=Prod.fst (zal n.kept);let v13:=(↑(n.yes.length):Int);(0:Int)=(↑(0:Nat):Int)∧(okA&&okB)=(okA&&okB&&List.all (List.take (0:Nat) n.yes) fun (y:Int)=>wi (4:Int) (IntKind.wrap IntKind.i64 (y-(1:Int))))∧v13=v13∧n.yes=n.yes∧v12=v12∧(0:Int)=0∧qN0 n n (qN2 n n (n.reads=n.reads∧True))) (by kernel_rfl) ?_ 300 (p:=fun (x:Nat) (V:List PE→Prop)=>let v0:=n.yes;let v1:=(↑x:Int);let v2:=(↑(v0.length):Int);let v3:=decide (v1<v2);True∧True∧(v3=true→((0:Int)≤v1∧v1<v2∧True)∧(((okA&&okB&&List.all (List.take x v0) fun (y:Int)=>wi (4:Int) (IntKind.wrap IntKind.i64 (y-(1:Int))))=true→(okA&&okB&&List.all (List.take x v0) fun (y:Int)=>wi (4:Int) (IntKind.wrap IntKind.i64 (y-(1:Int))))=true)∧((okA&&okB&&List.all (List.take x v0) fun (y:Int)=>wi (4:Int) (IntKind.wrap IntKind.i64 (y-(1:Int))))=true→List.length [IntKind.wrap IntKind.i64 (List.getD v0 x (0:Int)-(1:Int))]≤17592186044416)∧((okA&&okB&&List.all (List.take x v0) fun (y:Int)=>wi (4:Int) (IntKind.wrap IntKind.i64 (y-(1:Int))))=true→(okA&&okB&&List.all (List.take x v0) fun (y:Int)=>wi (4:Int) (IntKind.wrap IntKind.i64 (y-(1:Int))))=true)∧((okA&&okB&&List.all (List.take x v0) fun (y:Int)=>wi (4:Int) (IntKind.wrap IntKind.i64 (y-(1:Int))))=true→(okA&&okB&&List.all (List.take x v0) fun (y:Int)=>wi (4:Int) (IntKind.wrap IntKind.i64 (y-(1:Int))))=true)∧((okA&&okB&&List.all (List.take x v0) fun (y:Int)=>wi (4:Int) (IntKind.wrap IntKind.i64 (y-(1:Int))))=true→(okA&&okB&&List.all (List.take x v0) fun (y:Int)=>wi (4:Int) (IntKind.wrap IntKind.i64 (y-(1:Int))))=true)∧True)∧True∧V [PE.a])∧(v3=false→True∧True∧V [PE.b])) (by intro x;kernel_rfl) ?_
 ·simp
 rintro j hj
 have hkl:=hk.yes.1
 simp only [qN0,qN2,imp_self,implies_true,true_and,and_true,decide_eq_true_eq,decide_eq_false_iff_not]
 refine ⟨fun h6=>?_,fun h6=>?_⟩
 ·refine ⟨by omega,fun _=>by simp,?_⟩
  refine Back.mk (j+1) (by omega) (by omega) (p0:=let v1:=n.yes;let v10:=(1:Int);let v13:=Prod.fst (zal n.kept);let v14:=(↑(v1.length):Int);IntKind.wrap IntKind.i64 ((↑j:Int)+v10)=(↑(j+(1:Nat)):Int)∧zac (okA&&okB&&List.all (List.take j v1) fun (y:Int)=>wi (4:Int) (IntKind.wrap IntKind.i64 (y-v10))) (!List.any [IntKind.wrap IntKind.i64 (List.getD v1 j (0:Int)-v10)] (offB (4:Int))) false=(okA&&okB&&List.all (List.take (j+(1:Nat)) v1) fun (y:Int)=>wi (4:Int) (IntKind.wrap IntKind.i64 (y-v10)))∧v14=v14∧v1=v1∧v13=v13∧(0:Int)=0∧qN0 n n (qN2 n n (n.reads=n.reads∧True))) (by kernel_rfl) ?_
  simp only [qN0,qN2,true_and,and_true,zbj (i:=j) (by omega),pb]
  refine ⟨by omega,?_⟩
  rw [zel (d:=(0:Int)) _ (by omega)]
  simp only [List.any_cons,List.any_nil,Bool.or_false,zd8,Bool.not_not,Bool.and_assoc]
 obtain rfl:j=n.yes.length:=by omega
 rw [List.take_length]
 obtain ⟨okC,hC⟩:∃ b,n.yes.all (fun y=>wi 4 (IntKind.i64.wrap (y-1)))=b:=⟨_,rfl⟩
 rw [hC]
 refine LoopG.head (zaj zhw fun _=>none) 2 (A:=Nat) (fun j=>j≤n.peers.length) (fun j=>[(137,.int .i64 j),(10,.own 11),(5,.bool (okA&&okB&&okC&&(n.peers.take j).all (zbK (zal n.kept).1 n.round)))]) (fun j=>[(11,.row 3 [] (.rInts ((n.peers.take j).map (·.node))))]) (fun j=>n.peers.length-j) 0 (Nat.zero_le _) (p0:=let v1:=n.peers;let v11:=okA&&okB&&okC;let v14:=Prod.fst (zal n.kept);let v15:=(↑(v1.length):Int);let v16:=List.take (0:Nat) v1;(0:Int)=(↑(0:Nat):Int)∧v11=(v11&&List.all v16 (zbK v14 n.round))∧v15=v15∧v1=v1∧v14=v14∧(0:Int)=0∧List.map (fun (x:Peer)=>x.node) v16=[]∧qN0 n n (qN2 n n (n.reads=n.reads∧True))) (by kernel_rfl) ?_ 300 (p:=fun (x:Nat) (V:List PE→Prop)=>let v1:=(↑x:Int);let v2:=List.take x n.peers;let v3:=(0:Int);let v4:=Prod.fst (zal n.kept);let v5:=(↑(n.reads.length):Int);let v6:=(↑(n.peers.length):Int);let v7:=List.getD n.peers x default;let v8:=v7.match_;let v10:=List.map (fun (x:Peer)=>x.node) v2;let v11:=n.role != 4;let v12:=n.role==4;let v15:=okA&&okB&&okC&&List.all v2 (zbK v4 n.round);let v16:=IntKind.wrap IntKind.i64 (v7.next-(1:Int));let v19:=!(!v15);let v20:=decide (v1<v6);let v21:=zac v15 (!List.any ([v8]) (offB v4)) false;let v22:=zac (!v15) true (zac v12 (!decide (v10=zam n)) false);let v23:=!v22;let v24:=zac v21 (decide (v7.next>v8)) false;let v25:=zac v22 true (zac v11 (decide ((IntKind.wrap IntKind.i64 (v6+v5))>v3)) false);let v26:=zac v25 true (decide (v5>100));True∧True∧(v20=true→(v3≤v1∧v1<v6∧True)∧((v10.length+List.length [v7.node])*(1024:Nat)≤140737488355328∧True)∧((v15=true→v15=true)∧(v15=true→List.length ([v8])≤17592186044416)∧(v15=true→v15=true)∧(v15=true→v15=true)∧(v15=true→v15=true)∧(v15=true→v15=true)∧(v21=true→v21=true)∧(v21=true→v21=true)∧(v21=true→v21=true)∧(v21=true→v21=true)∧(v21=true→v21=true)∧(v24=true→v24=true)∧(v24=true→v24=true)∧(v24=true→v24=true)∧(v24=true→v24=true)∧(v24=true→v24=true)∧(zac v24 (decide (v16≤v4)) false=true→zac v24 (decide (v16≤v4)) false=true)∧(zac v24 (decide (v16≤v4)) false=true→zac v24 (decide (v16≤v4)) false=true)∧(zac v24 (decide (v16≤v4)) false=true→List.length [v7.round]≤17592186044416)∧(zac v24 (decide (v16≤v4)) false=true→zac v24 (decide (v16≤v4)) false=true)∧(zac v24 (decide (v16≤v4)) false=true→zac v24 (decide (v16≤v4)) false=true)∧(zac v24 (decide (v16≤v4)) false=true→zac v24 (decide (v16≤v4)) false=true)∧(zac v24 (decide (v16≤v4)) false=true→zac v24 (decide (v16≤v4)) false=true)∧True)∧True∧V [PE.a])∧(v20=false→((v19=true→v19=true)∧(v19=true→v19=true)∧(v19=true→v19=true)∧((v19&&v12)=true→(v19&&v12)=true)∧((v19&&v12)=true→SmallN n)∧((v19&&v12)=true→(v19&&v12)=true)∧((v19&&v12)=true→(v19&&v12)=true)∧((v19&&v12)=true→v10.length≤17592186044416)∧((v19&&v12)=true→(v19&&v12)=true)∧(v19=true→v19=true)∧(v19=true→v12=true→(v19&&v12)=true)∧((!v15)=false→v19=true)∧(v23=true→v23=true)∧(v23=true→v23=true)∧(v23=true→v23=true)∧((v23&&v11)=true→(v23&&v11)=true)∧((v23&&v11)=true→(v23&&v11)=true)∧((v23&&v11)=true→(v23&&v11)=true)∧((v23&&v11)=true→(v23&&v11)=true)∧((v23&&v11)=true→(v23&&v11)=true)∧((v23&&v11)=true→(v23&&v11)=true)∧((v23&&v11)=true→(v23&&v11)=true)∧(v23=true→v23=true)∧(v23=true→v11=true→(v23&&v11)=true)∧(v22=false→v23=true)∧((!v25)=true→(!v25)=true)∧((!v25)=true→(!v25)=true)∧((!v25)=true→(!v25)=true)∧(v25=false→(!v25)=true)∧True)∧True∧(v26=true→True∧(1:Int)=errC n∧True)∧(v26=false→True∧v3=errC n∧True))) (by intro x;kernel_rfl) ?_
 ·simp
 rintro j hj
 have hkl:=hk.peers.1
 simp only [qN0,qN2,imp_self,implies_true,true_and,and_true,decide_eq_true_eq,decide_eq_false_iff_not]
 refine ⟨fun h6=>?_,fun h6=>?_⟩
 ·refine ⟨by omega,by simp only [List.length_map,List.length_take,List.length_cons,List.length_nil];have:=hn.peers;omega,⟨fun _=>by simp,fun _=>by simp⟩,?_⟩
  refine Back.mk (j+1) (by omega) (by omega) (p0:=let v1:=n.peers;let v13:=okA&&okB&&okC;let v15:=Prod.fst (zal n.kept);let v16:=(↑(v1.length):Int);let v17:=List.getD v1 j default;let v20:=List.take (j+(1:Nat)) v1;IntKind.wrap IntKind.i64 ((↑j:Int)+(1:Int))=(↑(j+(1:Nat)):Int)∧zac (zac (zac (zac (v13&&List.all (List.take j v1) (zbK v15 n.round)) (!List.any [v17.match_] (offB v15)) false) (decide (v17.next>v17.match_)) false) (decide ((IntKind.wrap IntKind.i64 (v17.next-(1:Int)))≤v15)) false) (!List.any [v17.round] (offB n.round)) false=(v13&&List.all v20 (zbK v15 n.round))∧v16=v16∧v1=v1∧v15=v15∧(0:Int)=0∧List.map (fun (x:Peer)=>x.node) (List.take j v1)++[v17.node]=List.map (fun (x:Peer)=>x.node) v20∧qN0 n n (qN2 n n (n.reads=n.reads∧True))) (by kernel_rfl) ?_
  simp only [qN0,qN2,true_and,and_true,zbj (i:=j) (by omega),pb]
  refine ⟨by omega,?_,?_⟩
  ·rw [zel (d:=(default:Peer)) _ (by omega),zbK]
   simp only [List.any_cons,List.any_nil,Bool.or_false,zd8,Bool.not_not,Bool.and_assoc]
  ·rw [za3 (d:=(default:Peer)) (by omega),List.map_append];rfl
 obtain rfl:j=n.peers.length:=by omega
 rw [List.take_length]
 obtain ⟨okD,hD⟩:∃ b,n.peers.all (zbK (zal n.kept).1 n.round)=b:=⟨_,rfl⟩
 rw [hD]
 have hr:=zr9 n (by have:=hn.peers;have:=hn.reads;omega)
 rw [← hA,hB,hC,hD] at hr
 rw [errC,hr]
 simp only [pb,pt]
 obtain ⟨r,hr1⟩:∃ b,(n.role==4)=b:=⟨_,rfl⟩
 obtain ⟨A,hA1⟩:∃ b,(okA&&okB&&okC&&okD)=b:=⟨_,rfl⟩
 obtain ⟨q,hq⟩:∃ b,decide (n.peers.map (fun x=>x.node)=zam n)=b:=⟨_,rfl⟩
 obtain ⟨w,hw⟩:∃ b,decide (IntKind.i64.wrap ((n.peers.length:Int)+(n.reads.length:Int))>0)=b:=⟨_,rfl⟩
 obtain ⟨v,hv⟩:∃ b,decide ((n.reads.length:Int)>100)=b:=⟨_,rfl⟩
 have hpl:=hn.peers
 simp only [bne,hr1,hA1,hq,hw,hv,List.length_map]
 refine ⟨⟨fun _=>hn,fun _=>by omega,?_⟩,?_⟩
 ·cases r<;>cases A<;>cases q<;>cases w<;>cases v<;>simp
 ·cases r<;>cases A<;>cases q<;>cases w<;>cases v<;>simp
theorem zgs (n m:Int):FnC Tryz.prog 62 [dInt.can n,dInt.can m] (.bool (wi m n)) D2:=by
 refine FnG.of_vc (zaj zad fun _=>none) Tryz.func62 rfl (by decide) rfl 300 (p:=fun (V:List PE→Prop)=>let v0:=decide (n≥0);True∧((v0=true→v0=true)∧(v0=true→v0=true)∧(v0=true→v0=true)∧True)∧zac v0 (decide (n≤m)) false=wi m n∧True) (by kernel_rfl) ?_
 simp only [imp_self,implies_true,true_and,and_true,zae,zag,wi,GE.ge]
def zdn:Ent:=ent1 18 dNode fun n=>([SmallN n],.int .i64 (errC n),D2)
theorem zbT:zaf Tryz.prog zdn:=zan (zhe default zbE).1 fun l h=>zhe l (h _ (by simp))
def zia:Ent:=ent2 62 dInt dInt fun n m=>([],.bool (wi m n),D2)
theorem zfN:zaf Tryz.prog zia:=zav (zgs 0 0).1 fun n m _=>zgs n m
end Go.Proofs.YteabcgkjbnecaaaGreat
