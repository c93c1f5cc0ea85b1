/- Parts of the proof, joined: the symbolic walk and what it is told of each function. Condition: as each theorem says. -/
import Derived.Test.YtjfphnegcelbpaaRows
import Derived.WalkKit
import Derived.ProofKit
import Derived.OpenShut
import Derived.Lib.Hide
import Derived.Deep.QuietTactic
import Derived.BigQuiet
import Derived.BigRegion
import Derived.SizedLaws
import Derived.Test.YtjfphnegcelbpaaLz3
set_option linter.unusedVariables false
set_option linter.unusedSimpArgs false
set_option linter.unusedSectionVars false
namespace Go.Proofs.Ytjfphnegcelbpaa
open Go.RowKit
def cmpI (a t:Int):Int:=if a<t then -1 else if t<a then 1 else 0
theorem zhn {a t:Int} (h:a<t):cmpI a t = -1:=by simp [cmpI,h]
theorem zey {a t:Int} (h:t<a):cmpI a t=1:=by unfold cmpI;rw [if_neg (by omega),if_pos h]
theorem zez {a t:Int} (h:a=t):cmpI a t=0:=by unfold cmpI;rw [if_neg (by omega),if_neg (by omega)]
theorem zb1 (x:Sent) (t:Int) (w:World):Calls Try.prog 32 #[.agg #[.int .i64 x.ask,.int .i64 x.at_],.int .i64 t] w (IPost w (cmpI x.ask t)):=by
 by_cases h1:x.ask<t
 ·have HE:=Lib.hid (zhn h1)
  go_enter Try.func32,Try.ntmps32
  go_wp2_with fail
  go_ret
  exact ⟨by rw [HE.out];rfl,(Below.refl _ _).alloc (Nat.le_refl _) _⟩
 ·by_cases h2:t<x.ask
  ·have HE:=Lib.hid (zey h2)
   go_enter Try.func32,Try.ntmps32
   go_wp2_with fail
   go_ret
   exact ⟨by rw [HE.out];rfl,(Below.refl _ _).alloc (Nat.le_refl _) _⟩
  ·have HE:=Lib.hid (zez (show x.ask=t by omega))
   go_enter Try.func32,Try.ntmps32
   go_wp2_with fail
   go_ret
   exact ⟨by rw [HE.out];rfl,(Below.refl _ _).alloc (Nat.le_refl _) _⟩
def ziH (w:World) (l:List Sent) (t:Int) (e:Ending) (w':World):Prop:=∃ (p:Nat) (b:Bool),e = .returned (.tuple #[.int .i64 p,.bool b])∧p≤l.length∧(∀ k,k<p→(l.getD k default).ask<t)∧(∀ k,p≤k→k<l.length→t≤(l.getD k default).ask)∧(b=true↔(p<l.length∧(l.getD p default).ask=t))∧Below w.heap.size w w'
set_option maxRecDepth 100000 in
set_option maxHeartbeats 4000000 in
theorem zhu (a:Option Addr) (n c:Nat) (l:List Sent) (t:Int) (w:World) (S:Nat→Prop) (h:Sl w S Sent.ty a n c (l.map Sent.enc)) (hsort:∀ i j,i<j→j<l.length→(l.getD i default).ask<(l.getD j default).ask) :
  Calls Try.prog 31 #[.slice a n c,.int .i64 t,.func (.func 32) #[] #[]] w (ziH w l t):=by
 have hl:=h.len
 rw [List.length_map] at hl
 subst hl
 have H7:=Lib.hid h
 have n7:=h.bd.2.2.1
 have HS:=Lib.hid hsort
 clear h hsort
 go_enter Try.func31,Try.ntmps31
 go_wp2_with fail
 go_loopw [9,10] (fun s9 s10 wr=>∃ i j:Nat,i≤j∧j≤l.length∧s9 = .int .i64 i∧s10 = .int .i64 j∧(∀ k,k<i→(l.getD k default).ask<t)∧(∀ k,j≤k→k<l.length→t≤(l.getD k default).ask)∧Below w.heap.size w wr) (fun s9 s10 _=>(intOf s10-intOf s9).toNat)
 case atStart=>exact ⟨0,l.length,Nat.zero_le _,Nat.le_refl _,rfl,rfl,fun k hk=>by omega,fun k hk hk2=>by omega,Below.refl _ _⟩
 case round=>
  obtain ⟨i,j,hij,hj,rfl,rfl,hlo,hhi,hb⟩:=hrel
  have HLO:=Lib.hid hlo
  have HHI:=Lib.hid hhi
  have HB:=Lib.hid hb
  clear hlo hhi hb
  by_cases hlt:i<j
  ·obtain ⟨b,off,rfl⟩:=H7.out.addr (by omega)
   have hm:(i+j) / 2<l.length:=by omega
   obtain ⟨_,hb1,e0,e1,f0,f1⟩:=Sent.row (H7.out.same (Same.below HB.out)) hm
   have hm1:i≤(i+j) / 2:=by omega
   have hm2:(i+j) / 2<j:=by omega
   have k0:(0:Int)≤(((i+j) / 2:Nat):Int):=by omega
   have k1:(((i+j) / 2:Nat):Int)<(l.length:Int):=by omega
   generalize hE:l.getD ((i+j) / 2) default=e at *
   have HE:=Lib.hid hE
   clear hE
   by_cases hc:e.ask<t
   ·have HC:=Lib.hid (zhn hc)
    have HK:=Lib.hid (fun k (hk:k<(i+j) / 2+1)=>show (l.getD k default).ask<t by
     rcases Nat.lt_or_ge k ((i+j) / 2) with h1 | h1
     ·have:=HS.out k ((i+j) / 2) h1 hm;rw [HE.out] at this;omega
     ·obtain rfl:k=(i+j) / 2:=by omega
      rw [HE.out];exact hc)
    go_wp2_with fail
    refine (zb1 e t _).mono ?_
    rw [HC.out]
    rintro e2 w2 ⟨rfl,P2⟩
    have HB2:=Lib.hid (HB.out.trans (P2.mono HB.out.size))
    clear P2
    go_wp2_with fail
    go_roundw
    case rel=>exact ⟨(i+j) / 2+1,j,by omega,hj,by go_num,rfl,HK.out,HHI.out,HB2.out⟩
    case measure=>simp [intOf];omega
   ·have hcd:cmpI e.ask t=0∨cmpI e.ask t=1:=by
     by_cases h2:t<e.ask
     ·exact .inr (zey h2)
     ·exact .inl (zez (by omega))
    have HK:=Lib.hid (fun k (hk:(i+j) / 2≤k) (hk2:k<l.length)=>show t≤(l.getD k default).ask by
     rcases Nat.lt_or_ge ((i+j) / 2) k with h1 | h1
     ·have:=HS.out ((i+j) / 2) k h1 hk2;rw [HE.out] at this;omega
     ·obtain rfl:k=(i+j) / 2:=by omega
      rw [HE.out];omega)
    rcases hcd with hcd | hcd
    all_goals
     have HC:=Lib.hid hcd
     clear hcd
     go_wp2_with fail
     refine (zb1 e t _).mono ?_
     rw [HC.out]
     rintro e2 w2 ⟨rfl,P2⟩
     have HB2:=Lib.hid (HB.out.trans (P2.mono HB.out.size))
     clear P2
     go_wp2_with fail
     go_roundw
     case rel=>exact ⟨i,(i+j) / 2,by omega,by omega,rfl,by go_num,HLO.out,HK.out,HB2.out⟩
     case measure=>simp [intOf];omega
  ·obtain rfl:i=j:=by omega
   by_cases hin:i<l.length
   ·obtain ⟨b,off,rfl⟩:=H7.out.addr (by omega)
    obtain ⟨_,hb1,e0,e1,f0,f1⟩:=Sent.row (H7.out.same (Same.below HB.out)) hin
    have k0:(0:Int)≤(i:Int):=by omega
    have k1:(i:Int)<(l.length:Int):=by omega
    have hge:=HHI.out i (Nat.le_refl _) hin
    generalize hE:l.getD i default=e at *
    have HE:=Lib.hid hE
    clear hE
    by_cases hc:e.ask=t
    ·have HC:=Lib.hid (zez hc)
     have HT:=Lib.hid hc
     clear hc
     go_wp2_with fail
     refine (zb1 e t _).mono ?_
     rw [HC.out]
     rintro e2 w2 ⟨rfl,P2⟩
     have HB2:=Lib.hid (HB.out.trans (P2.mono HB.out.size))
     clear P2
     go_wp2_with fail
     go_ret2
     exact ⟨i,true,rfl,hj,HLO.out,HHI.out,⟨fun _=>⟨hin,by rw [HE.out];exact HT.out⟩,fun _=>rfl⟩,HB2.out⟩
    ·have HC:=Lib.hid (zey (show t<e.ask by omega))
     have HT:=Lib.hid hc
     clear hc
     go_wp2_with fail
     refine (zb1 e t _).mono ?_
     rw [HC.out]
     rintro e2 w2 ⟨rfl,P2⟩
     have HB2:=Lib.hid (HB.out.trans (P2.mono HB.out.size))
     clear P2
     go_wp2_with fail
     go_ret2
     exact ⟨i,false,rfl,hj,HLO.out,HHI.out,⟨fun h=>(by cases h),fun h=>absurd (by rw [← HE.out];exact h.2) HT.out⟩,HB2.out⟩
   ·have k1:¬ (i:Int)<(l.length:Int):=by omega
    go_wp2_with fail
    go_ret2
    exact ⟨i,false,rfl,hj,HLO.out,HHI.out,⟨fun h=>(by cases h),fun h=>absurd h.1 hin⟩,HB.out⟩
def el (xs:List Int) (i:Nat):Int:=xs.getD i 0
structure IntSl (w:World) (a:Option Addr) (n:Nat) (xs:List Int):Prop where
 len:xs.length=n
 mx:n≤9223372036854775807
 row:0<n→∃ b off,a=some ⟨b,off,none⟩∧b<w.heap.size∧∀ i,i<n→w.cell? ⟨b,off+i,none⟩=some (.int .i64 (el xs i))
 lo:∀ i,-9223372036854775808≤el xs i
 hi:∀ i,el xs i≤9223372036854775807
theorem IntSl.below {w w':World} {a:Option Addr} {n:Nat} {xs:List Int} (h:IntSl w a n xs) (hb:Below w.heap.size w w'):IntSl w' a n xs:=
 ⟨h.len,h.mx,fun hp=>by
  obtain ⟨b,off,e,hlt,hc⟩:=h.row hp
  exact ⟨b,off,e,Nat.lt_of_lt_of_le hlt hb.size,fun i hi=>by rw [hb.cell (p:=⟨b,off+i,none⟩) hlt];exact hc i hi⟩,h.lo,h.hi⟩
theorem IntSl.nil (w:World):IntSl w none 0 []:=
 ⟨rfl,by omega,fun h=>absurd h (by omega),fun i=>by simp [el],fun i=>by simp [el]⟩
def Dr (w w':World):Prop:=∃ q,w'=w.drewN q
theorem Dr.refl (w:World):Dr w w:=⟨0,rfl⟩
theorem Dr.drewN {w w':World} (h:Dr w w') (n:Nat):Dr w (w'.drewN n):=by
 obtain ⟨q,rfl⟩:=h;exact ⟨q+n,by simp [World.drewN,Nat.add_assoc]⟩
theorem Dr.nn (w:World) (a b:Nat):Dr w ((w.drewN a).drewN b):=Dr.drewN ⟨a,rfl⟩ b
theorem Dr.below {w w':World} (h:Dr w w') (B:Nat):Below B w w':=by
 obtain ⟨q,rfl⟩:=h;exact ⟨rfl,rfl,rfl,Nat.le_refl _,fun _ _=>rfl⟩
def IsRow (k:IntKind) (w:World) (a:Option Addr) (len cap:Nat) (zs:List Int):Prop:=
 (a=none∧len=0∧cap=0∧zs=[]) ∨
 ∃ x,a=some x∧len≤cap∧cap≤maxLen∧zs.length=cap∧(∀ i,i<zs.length→w.cell? (x.add i)=some (.int k (zs.getD i 0)))∧∀ n∈zs,(Lit.int k n).wf=true
theorem zjM {zs:List Int} {n i:Nat} (h:i<n):el (zs.take n) i=el zs i:=by
 simp [el,h]
theorem zgX (zs:List Int) (i:Nat):el zs i∈zs∨el zs i=0:=by
 by_cases h:i<zs.length
 ·left;simp [el,h]
 ·right;simp [el,List.getElem?_eq_none (Nat.not_lt.1 h)]
theorem IsRow.sl {w:World} {a:Option Addr} {n c:Nat} {zs:List Int} (h:IsRow .i64 w a n c zs):IntSl w a n (zs.take n):=by
 rcases h with ⟨rfl,rfl,rfl,rfl⟩ | ⟨x,rfl,h1,h2,h3,h4,h5⟩
 ·exact ⟨rfl,by omega,fun h=>absurd h (by omega),fun i=>by simp [el],fun i=>by simp [el]⟩
 ·have hw:∀ i,-9223372036854775808≤el (zs.take n) i∧el (zs.take n) i≤9223372036854775807:=by
   intro i
   rcases zgX (zs.take n) i with hm | h0
   ·have:=h5 _ (List.mem_of_mem_take hm)
    simp only [Lit.wf,Bool.and_eq_true,decide_eq_true_eq] at this
    exact this
   ·rw [h0];omega
  unfold maxLen at h2
  refine ⟨by simp;omega,by omega,fun hp=>?_,fun i=>(hw i).1,fun i=>(hw i).2⟩
  have hc0:=h4 0 (by omega)
  obtain ⟨b,off,spot⟩:=x
  have hspot:spot=none:=by simpa [Addr.add] using World.cell?_spot hc0
  subst hspot
  refine ⟨b,off,rfl,?_,fun i hi=>?_⟩
  ·have:=World.block_lt_of_cell? _ _ hc0
   simpa [Addr.add] using this
  ·have h6:=h4 i (by omega)
   rw [zjM hi,← WideShapes.add_plain]
   exact h6
def zf5 (xs:List Int) (k:Nat):Prop:=∀ i,i+1<k→el xs i<el xs (i+1)
noncomputable def isB (xs:List Int):Bool:=by classical exact decide (zf5 xs xs.length∧xs.length≤16)
theorem isB_iff {xs:List Int}:isB xs=true↔zf5 xs xs.length∧xs.length≤16:=by simp [isB]
theorem zkO {xs:List Int} {k:Nat} (hk:k+1<xs.length) (h:el xs (k+1)≤el xs k):isB xs=false:=by
 rw [← Bool.not_eq_true,isB_iff];intro h';have:=h'.1 k hk;omega
theorem zgD {xs:List Int} {n k:Nat} (hn:xs.length=n) (h:zf5 xs k) (hk:n≤k):isB xs=decide ((n:Int)≤16):=by
 rw [Bool.eq_iff_iff,isB_iff,decide_eq_true_eq]
 constructor
 ·intro h';omega
 ·intro h';exact ⟨fun i hi=>h i (by omega),by omega⟩
theorem zf4 {xs:List Int} {k:Nat} (h:zf5 xs (k+1)) (hv:el xs k<el xs (k+1)):zf5 xs (k+2):=by
 intro i hi
 by_cases e:i=k
 ·subst e;exact hv
 ·exact h i (by omega)
theorem ziQ (a:Option Addr) (n c:Nat) (xs:List Int) (w:World) (ha:IntSl w a n xs) :
  Calls Try.prog 33 #[.slice a n c] w fun e w'=>e = .returned (.bool (isB xs))∧Dr w w':=by
 have hm:=ha.mx
 by_cases h0:n≤1
 ·have hr:=zgD ha.len (k:=n) (fun i hi=>by omega) (Nat.le_refl _)
  have ht:decide ((n:Int)≤16)=true:=by simp;omega
  have HR:=Lib.hid (hr.trans ht)
  clear hr ht
  rcases (show n=0∨n=1 by omega) with rfl | rfl
  all_goals
   go_enter Try.func33,Try.ntmps33
   go_wp2
   refine wp_loop_rounds 1 ?_
   rw [rounds_succ]
   go_wp2
   go_ret
   exact ⟨by rw [HR.out];rfl,Dr.refl _⟩
 ·have h1:(2:Int)≤(n:Int):=by omega
  go_enter Try.func33,Try.ntmps33
  go_wp2
  go_loopw [8] (fun i wr=>∃ k:Nat,k≤n-1∧i = .int .i64 k∧zf5 xs (k+1)∧Dr w wr) (fun i _=>n-1-(intOf i).toNat)
  case atStart=>exact ⟨0,Nat.zero_le _,rfl,fun i h=>absurd h (by omega),Dr.refl _⟩
  case round=>
   obtain ⟨k,hk,rfl,hq,q,rfl⟩:=hrel
   by_cases hlt:k<n-1
   ·obtain ⟨ba,oa,rfl,_,hca⟩:=ha.row (by omega)
    have ca:=hca k (by omega)
    have cb:=hca (k+1) (by omega)
    have k0:(0:Int)≤(k:Int):=by omega
    have k1:(k:Int)<(n:Int)-1:=by omega
    have k2:(k:Int)+1<(n:Int):=by omega
    have l1:=ha.lo k
    have l2:=ha.hi k
    clear hca
    by_cases hv:el xs k<el xs (k+1)
    ·have hv':=Lib.hid hv
     have t:¬ el xs (k+1)≤el xs k:=by omega
     go_wp2
     go_quiet (fail)
     go_wp2
     go_roundw
     case rel=>exact ⟨k+1,by omega,by go_num,zf4 hq hv'.out,⟨_,rfl⟩⟩
     case measure=>simp [intOf];omega
    ·have hr:=Lib.hid (zkO (xs:=xs) (k:=k) (by rw [ha.len];omega) (by omega))
     have t:el xs (k+1)≤el xs k:=by omega
     go_wp2
     go_quiet (fail)
     go_wp2
     go_ret
     exact ⟨by rw [hr.out];rfl,by first | exact ⟨_,rfl⟩ | exact Dr.nn _ _ _⟩
   ·have hr:=Lib.hid (zgD ha.len hq (by omega))
    have k1:¬ (k:Int)<(n:Int)-1:=by omega
    go_wp2
    all_goals
     go_ret
     refine ⟨?_,by first | exact ⟨_,rfl⟩ | exact Dr.nn _ _ _⟩
     rw [hr.out]
     rfl
structure Ga where
 n:Int
 d:Bool
 lo:Int
 mo:Int
 t:Int
 w:Int
def Ga.cells (g:Ga):Array Value:= #[.int .i64 g.n,.bool g.d,.int .i64 g.lo,.int .i64 g.mo,.int .i64 g.t,.int .i64 g.w]
def GaAt (W:World) (b:Nat) (g:Ga):Prop:=W.heap[b]? = some (.cells g.cells 60 (0,0))
theorem GaAt.cell {W:World} {b:Nat} {g:Ga} (h:GaAt W b g) (i:Nat):W.cell? ⟨b,i,none⟩=g.cells[i]? := by
 unfold GaAt at h;simp [World.cell?,h]
theorem GaAt.frozen {W:World} {b:Nat} {g:Ga} (h:GaAt W b g) (i:Nat):W.frozen? ⟨b,i,none⟩=false:=by
 unfold GaAt at h;simp [World.frozen?,h]
def Ga.tell (g:Ga) (x:Int):Ga×Bool:=
 if x = -g.n then ({n:=g.n,d:=!g.d,lo:=0,mo:=0,t:=0,w:=0},true)
 else if g.d=true∨(x≠0∧x≠g.n) then (g,true)
 else
  let t:=if x=0 then g.t else g.t+1
  let w:=if x=0 then g.w+1 else g.w
  ({g with lo:=min g.lo (t-2*w),mo:=min g.mo (w-2*t),t:=t,w:=w},decide (t-2*w-g.lo≤2)&&decide (w-2*t-g.mo≤2))
def za8 (W:World) (b:Nat) (r:Ga×Bool) (e:Ending) (W':World):Prop:=e = .returned (.bool r.2)∧GaAt W' b r.1∧W.grownBy W' (some b)
theorem zaV {W:World} {b:Nat} {c:Array Value} {T:TypeId} (h:W.heap[b]? = some (.cells c T (0,0))) (i:Nat) (v:Value):(W.setCell ⟨b,i,none⟩ v).heap[b]? = some (.cells (c.setIfInBounds i v) T (0,0)):=by
 simp [World.setCell,Array.getElem?_modify,h]
theorem zig {w w':World} {r:Option Nat} (h:w.grownBy w' r):w.grownBy w'.drew r:=⟨h.os,h.tape,h.output,h.size,h.block⟩
theorem za9 {w w':World} {g:Nat} (h:w.grownBy w' (some g)) (i:Nat) (v:Value):w.grownBy (w'.setCell ⟨g,i,none⟩ v) (some g):=
 ⟨h.os,h.tape,h.output,by have:=h.size;simpa [World.setCell] using this,fun k hk hne=>by
  rw [Below.heap_setCell _ _ _ _ (fun e=>hne (by rw [e]))];exact h.block k hk hne⟩
theorem zdQ {w w':World} {r:Option Nat} (h:w.grownBy w' r) (k:Nat):w.grownBy (w'.drewN k) r:=⟨h.os,h.tape,h.output,h.size,h.block⟩
theorem GaAt.drew {W:World} {b:Nat} {g:Ga} (h:GaAt W b g):GaAt W.drew b g:=h
theorem zgQ {W:World} {b:Nat} {c:Array Value} {g:Ga} (h:W.heap[b]? = some (.cells c 60 (0,0))) (e:c=g.cells):GaAt W b g:=by rw [e] at h;exact h
theorem zgf (b:Nat) (g:Ga) (x:Int) (W:World) (h:GaAt W b g) (hn:1≤g.n) (hn2:g.n≤9223372036854775807) (h1:x ≠ -g.n) (h2:g.d=true∨(x≠0∧x≠g.n)) :
  Calls Try.prog 34 #[.pointer (some ⟨b,0,none⟩),.int .i64 x] W (za8 W b (g,true)):=by
 have HG:=Lib.hid h
 have c0:=h.cell 0
 have c1:=h.cell 1
 obtain ⟨n,d,lo,mo,t,wd⟩:=g
 simp only [Ga.cells] at c0 c1
 simp at c0 c1
 clear h
 simp only at hn hn2 h1 h2
 have e1:(x == -n)=false:=by simp [h1]
 cases d with
 | true=>
  go_enter Try.func34,Try.ntmps34
  go_wp2_with fail
  go_ret
  exact ⟨rfl,HG.out,World.grownBy.refl _ _⟩
 | false=>
  obtain ⟨h3,h4⟩:=h2.resolve_left (by simp)
  have e2:(x != 0)=true:=by simp [h3]
  have e3:(x != n)=true:=by simp [h4]
  have e4:(x==0)=false:=by simp [h3]
  have e5:(x==n)=false:=by simp [h4]
  clear h2 h3 h4 h1
  go_enter Try.func34,Try.ntmps34
  go_wp2_with fail
  go_ret
  exact ⟨rfl,HG.out,World.grownBy.refl _ _⟩
set_option maxHeartbeats 1000000 in
theorem zgc (b:Nat) (g:Ga) (x:Int) (W:World) (h:GaAt W b g) (hn:1≤g.n) (hn2:g.n≤9223372036854775807) (h1:x = -g.n) :
  Calls Try.prog 34 #[.pointer (some ⟨b,0,none⟩),.int .i64 x] W (za8 W b ({n:=g.n,d:=!g.d,lo:=0,mo:=0,t:=0,w:=0},true)):=by
 have HG:=Lib.hid h
 have c0:=h.cell 0
 have c1:=h.cell 1
 have c2:=h.cell 2
 have c3:=h.cell 3
 have c4:=h.cell 4
 have c5:=h.cell 5
 have f0:=h.frozen 0
 have f1:=h.frozen 1
 have f2:=h.frozen 2
 have f3:=h.frozen 3
 have f4:=h.frozen 4
 have f5:=h.frozen 5
 obtain ⟨n,d,lo,mo,t,wd⟩:=g
 simp only [Ga.cells] at c0 c1 c2 c3 c4 c5
 simp at c0 c1 c2 c3 c4 c5
 clear h
 simp only at hn hn2 h1
 subst h1
 have e1:((-n:Int) == -n)=true:=by simp
 go_enter Try.func34,Try.ntmps34
 go_wp2_with fail
 go_region
 go_wp2
 go_ret
 refine ⟨rfl,?_,?_⟩
 ·have h0:=HG.out
  have h1:=zaV h0 0 (.int .i64 n)
  have h2:=zaV h1 1 (.bool !d)
  have h3:=zaV h2 2 (.int .i64 0)
  have h4:=zaV h3 3 (.int .i64 0)
  have h5:=zaV h4 4 (.int .i64 0)
  have h6:=zaV h5 5 (.int .i64 0)
  exact GaAt.drew (zgQ h6 (by simp [Ga.cells]))
 ·exact zig (za9 (za9 (za9 (za9 (za9 (za9 (World.grownBy.refl _ _) _ _) _ _) _ _) _ _) _ _) _ _)
set_option maxHeartbeats 2000000 in
theorem zgd (b:Nat) (g:Ga) (x:Int) (W:World) (h:GaAt W b g) (hn:1≤g.n) (hn2:g.n≤9223372036854775807) (hd:g.d=false) (h0:x=0∨x=g.n)
  (ht:0≤g.t∧g.t≤1000) (hw:0≤g.w∧g.w≤1000) (hl : -3000≤g.lo∧g.lo≤0) (hm : -3000≤g.mo∧g.mo≤0) :
  Calls Try.prog 34 #[.pointer (some ⟨b,0,none⟩),.int .i64 x] W (za8 W b (g.tell x)):=by
 have HG:=Lib.hid h
 have c0:=h.cell 0
 have c1:=h.cell 1
 have c2:=h.cell 2
 have c3:=h.cell 3
 have c4:=h.cell 4
 have c5:=h.cell 5
 have f0:=h.frozen 0
 have f1:=h.frozen 1
 have f2:=h.frozen 2
 have f3:=h.frozen 3
 have f4:=h.frozen 4
 have f5:=h.frozen 5
 obtain ⟨n,d,lo,mo,t,wd⟩:=g
 simp only [Ga.cells] at c0 c1 c2 c3 c4 c5
 simp at c0 c1 c2 c3 c4 c5
 clear h
 simp only at hn hn2 h0 ht hw hl hm hd
 subst hd
 obtain ⟨ht1,ht2⟩:=ht
 obtain ⟨hw1,hw2⟩:=hw
 obtain ⟨hl1,hl2⟩:=hl
 obtain ⟨hm1,hm2⟩:=hm
 rcases h0 with h0 | h0
 ·replace h0:=h0.symm
  subst h0
  have hr:(Ga.tell {n:=n,d:=false,lo:=lo,mo:=mo,t:=t,w:=wd} 0)=({n:=n,d:=false,lo:=min lo (t-2*(wd+1)),mo:=min mo (wd+1-2*t),t:=t,w:=wd+1},decide (t-2*(wd+1)-lo≤2)&&decide (wd+1-2*t-mo≤2)):=by
   have hne:¬ (0:Int) = -n:=by omega
   have hn0:¬ (n:Int)=0:=by omega
   unfold Ga.tell
   simp [hne]
  have e1:((0:Int) == -n)=false:=by simp;omega
  rw [hr]
  clear hr
  have key:∀ lo' mo' k ok,lo'=min lo (t-2*(wd+1))→mo'=min mo (wd+1-2*t)→ok=(decide (t-2*(wd+1)-lo≤2)&&decide (wd+1-2*t-mo≤2))→za8 W b ({n:=n,d:=false,lo:=min lo (t-2*(wd+1)),mo:=min mo (wd+1-2*t),t:=t,w:=wd+1},decide (t-2*(wd+1)-lo≤2)&&decide (wd+1-2*t-mo≤2)) (.returned (.bool ok)) ((((W.setCell ⟨b,5,none⟩ (.int .i64 (wd+1))).drewN k).setCell ⟨b,2,none⟩ (.int .i64 lo')).setCell ⟨b,3,none⟩ (.int .i64 mo')):=by
   intro lo' mo' k ok el em eo
   subst el em eo
   have h1:=zaV HG.out 5 (.int .i64 (wd+1))
   have h2:=zaV (W:=(W.setCell ⟨b,5,none⟩ (.int .i64 (wd+1))).drewN k) h1 2 (.int .i64 (min lo (t-2*(wd+1))))
   have h3:=zaV h2 3 (.int .i64 (min mo (wd+1-2*t)))
   exact ⟨rfl,zgQ h3 (by simp [Ga.cells]),za9 (za9 (zdQ (za9 (World.grownBy.refl _ _) _ _) _) _ _) _ _⟩
  have KEY:=Lib.hid key
  clear key
  generalize hP:za8 W b ({n:=n,d:=false,lo:=min lo (t-2*(wd+1)),mo:=min mo (wd+1-2*t),t:=t,w:=wd+1},decide (t-2*(wd+1)-lo≤2)&&decide (wd+1-2*t-mo≤2))=P at KEY ⊢
  clear hP
  by_cases q1:t-2*(wd+1)-lo≤2
  ·by_cases q2:t-2*(wd+1)<lo
   ·go_enter Try.func34,Try.ntmps34
    go_wp2_with fail
    go_quiet (fail)
    go_wp2_with fail
    go_region
    all_goals go_wp2_with fail
    all_goals
     refine KEY.out _ _ _ _ ?_ ?_ ?_
     ·omega
     ·omega
     ·first | (simp [q1];done) | (simp;intro;omega)
   ·go_enter Try.func34,Try.ntmps34
    go_wp2_with fail
    go_quiet (fail)
    go_wp2_with fail
    go_region
    all_goals go_wp2_with fail
    all_goals
     refine KEY.out _ _ _ _ ?_ ?_ ?_
     ·omega
     ·omega
     ·first | (simp [q1];done) | (simp;intro;omega)
  ·by_cases q2:t-2*(wd+1)<lo
   ·exact absurd q2 (by omega)
   ·go_enter Try.func34,Try.ntmps34
    go_wp2_with fail
    go_quiet (fail)
    go_wp2_with fail
    go_region
    all_goals go_wp2_with fail
    all_goals
     refine KEY.out _ _ _ _ ?_ ?_ ?_
     ·omega
     ·omega
     ·first | (simp [q1];done) | (simp;intro;omega)
 ·replace h0:=h0.symm
  subst h0
  have hr:(Ga.tell {n:=n,d:=false,lo:=lo,mo:=mo,t:=t,w:=wd} n)=({n:=n,d:=false,lo:=min lo (t+1-2*wd),mo:=min mo (wd-2*(t+1)),t:=t+1,w:=wd},decide (t+1-2*wd-lo≤2)&&decide (wd-2*(t+1)-mo≤2)):=by
   have hne:¬ (n:Int) = -n:=by omega
   have hn0:¬ (n:Int)=0:=by omega
   unfold Ga.tell
   simp [hne,hn0]
  have e1:((n:Int) == -n)=false:=by simp;omega
  have e2:((n:Int) != 0)=true:=by simp;omega
  have e3:((n:Int)==0)=false:=by simp;omega
  have e4:((n:Int) != n)=false:=by simp
  have e5:((n:Int)==n)=true:=by simp
  rw [hr]
  clear hr
  have key:∀ lo' mo' k ok,lo'=min lo (t+1-2*wd)→mo'=min mo (wd-2*(t+1))→ok=(decide (t+1-2*wd-lo≤2)&&decide (wd-2*(t+1)-mo≤2))→za8 W b ({n:=n,d:=false,lo:=min lo (t+1-2*wd),mo:=min mo (wd-2*(t+1)),t:=t+1,w:=wd},decide (t+1-2*wd-lo≤2)&&decide (wd-2*(t+1)-mo≤2)) (.returned (.bool ok)) ((((W.setCell ⟨b,4,none⟩ (.int .i64 (t+1))).drewN k).setCell ⟨b,2,none⟩ (.int .i64 lo')).setCell ⟨b,3,none⟩ (.int .i64 mo')):=by
   intro lo' mo' k ok el em eo
   subst el em eo
   have h1:=zaV HG.out 4 (.int .i64 (t+1))
   have h2:=zaV (W:=(W.setCell ⟨b,4,none⟩ (.int .i64 (t+1))).drewN k) h1 2 (.int .i64 (min lo (t+1-2*wd)))
   have h3:=zaV h2 3 (.int .i64 (min mo (wd-2*(t+1))))
   exact ⟨rfl,zgQ h3 (by simp [Ga.cells]),za9 (za9 (zdQ (za9 (World.grownBy.refl _ _) _ _) _) _ _) _ _⟩
  have KEY:=Lib.hid key
  clear key
  generalize hP:za8 W b ({n:=n,d:=false,lo:=min lo (t+1-2*wd),mo:=min mo (wd-2*(t+1)),t:=t+1,w:=wd},decide (t+1-2*wd-lo≤2)&&decide (wd-2*(t+1)-mo≤2))=P at KEY ⊢
  clear hP
  by_cases q1:t+1-2*wd-lo≤2
  ·by_cases q2:t+1-2*wd<lo
   ·go_enter Try.func34,Try.ntmps34
    go_wp2_with fail
    go_quiet (fail)
    go_wp2_with fail
    go_region
    all_goals go_wp2_with fail
    all_goals
     refine KEY.out _ _ _ _ ?_ ?_ ?_
     ·omega
     ·omega
     ·first | (simp [q1];done) | (simp;intro;omega)
   ·go_enter Try.func34,Try.ntmps34
    go_wp2_with fail
    go_quiet (fail)
    go_wp2_with fail
    go_region
    all_goals go_wp2_with fail
    all_goals
     refine KEY.out _ _ _ _ ?_ ?_ ?_
     ·omega
     ·omega
     ·first | (simp [q1];done) | (simp;intro;omega)
  ·by_cases q2:t+1-2*wd<lo
   ·exact absurd q2 (by omega)
   ·go_enter Try.func34,Try.ntmps34
    go_wp2_with fail
    go_quiet (fail)
    go_wp2_with fail
    go_region
    all_goals go_wp2_with fail
    all_goals
     refine KEY.out _ _ _ _ ?_ ?_ ?_
     ·omega
     ·omega
     ·first | (simp [q1];done) | (simp;intro;omega)
def Ga.ok (g:Ga) (k:Nat):Prop:=1≤g.n∧g.n≤9223372036854775807∧0≤g.t∧0≤g.w∧g.t+g.w≤k∧(-2*(k:Int)≤g.lo∧g.lo≤0)∧(-2*(k:Int)≤g.mo∧g.mo≤0)
theorem Ga.ok_tell {g:Ga} {k:Nat} (h:g.ok k) (x:Int):(g.tell x).1.ok (k+1):=by
 obtain ⟨h1,h2,h3,h4,h5,⟨h6,h7⟩,h8,h9⟩:=h
 obtain ⟨n,d,lo,mo,t,w⟩:=g
 simp only at *
 unfold Ga.tell
 simp only
 split
 ·refine ⟨h1,h2,by simp,by simp,by simp;omega,⟨by simp;omega,by simp⟩,by simp;omega,by simp⟩
 split
 ·refine ⟨h1,h2,h3,h4,by simp;omega,⟨by simp;omega,h7⟩,by simp;omega,h9⟩
 ·unfold Ga.ok
  simp only
  split<;>refine ⟨h1,h2,by omega,by omega,by simp;omega,⟨by simp;omega,by omega⟩,by simp;omega,by omega⟩
theorem zge (b:Nat) (g:Ga) (x:Int) (W:World) (h:GaAt W b g) (k:Nat) (hk:k≤1000) (ho:g.ok k) :
  Calls Try.prog 34 #[.pointer (some ⟨b,0,none⟩),.int .i64 x] W (za8 W b (g.tell x)):=by
 obtain ⟨h1,h2,h3,h4,h5,⟨h6,h7⟩,h8,h9⟩:=ho
 by_cases q1:x = -g.n
 ·have:=zgc b g x W h h1 h2 q1
  have e:g.tell x=({n:=g.n,d:=!g.d,lo:=0,mo:=0,t:=0,w:=0},true):=by unfold Ga.tell;simp [q1]
  rw [e];exact this
 by_cases q2:g.d=true∨(x≠0∧x≠g.n)
 ·have:=zgf b g x W h h1 h2 q1 q2
  have e:g.tell x=(g,true):=by unfold Ga.tell;rw [if_neg q1,if_pos q2]
  rw [e];exact this
 ·have hd:g.d=false:=by cases hg:g.d<;>simp_all
  have h0:x=0∨x=g.n:=by
   by_cases a:x=0
   ·exact .inl a
   ·by_cases c:x=g.n
    ·exact .inr c
    ·exact absurd (.inr ⟨a,c⟩) q2
  exact zgd b g x W h h1 h2 hd h0 (by omega) (by omega) (by omega) (by omega)
def zbM (s:Ga×Bool) (x:Int):Ga×Bool:=((s.1.tell x).1,s.2&&(s.1.tell x).2)
def ga0 (n:Int):Ga:={n:=n,d:=false,lo:=0,mo:=0,t:=0,w:=0}
def zaH (n:Int) (l:List Int):Ga×Bool:=l.foldl zbM (ga0 n,true)
def zav (n:Int) (l:List Int):Bool:=(zaH n l).2
theorem zbY (n:Int) (l:List Int) (x:Int):zaH n (l++[x])=zbM (zaH n l) x:=by simp [zaH]
theorem zc8:∀ (l:List Int) (s:Ga×Bool),(l.foldl zbM s).2=true→s.2=true
 | [],_,h=>h
 | x::l,s,h=>by
  have:=zc8 l _ h
  simp [zbM] at this
  exact this.1
theorem zf0 {n:Int} {l:List Int} {k:Nat} (h:(zaH n (l.take k)).2=false):zav n l=false:=by
 cases hs:zav n l with
 | false=>rfl
 | true=>
  rw [← List.take_append_drop k l] at hs
  unfold zav zaH at hs
  rw [List.foldl_append] at hs
  have:=zc8 _ _ hs
  unfold zaH at h
  rw [h] at this
  exact absurd this (by simp)
theorem zdR:∀ (l:List Int) (s:Ga×Bool) (k:Nat),s.1.ok k→(l.foldl zbM s).1.ok (k+l.length)
 | [],_,_,h=>h
 | x::l,s,k,h=>by
  have:=zdR l (zbM s x) (k+1) (Ga.ok_tell h x)
  rw [List.foldl_cons,List.length_cons,show k+(l.length+1)=k+1+l.length by omega]
  exact this
theorem zif {n:Int} (h1:1≤n) (h2:n≤9223372036854775807) (l:List Int):(zaH n l).1.ok l.length:=by
 have:=zdR l (ga0 n,true) 0 ⟨h1,h2,by simp [ga0],by simp [ga0],by simp [ga0],by simp [ga0],by simp [ga0]⟩
 rw [Nat.zero_add] at this
 exact this
theorem zcx {xs:List Int} {i:Nat} (h:i<xs.length):xs.take (i+1)=xs.take i++[el xs i]:=by
 rw [List.take_add_one,List.getElem?_eq_getElem h]
 simp [el,List.getD,List.getElem?_eq_getElem h]
def zaa (l:List Int) (v:Int) (j:Nat):Int:=((l.take j).count v:Nat)
def upAt (l:List Int) (n:Int) (j:Nat):Bool:=decide ((l.take j).count (-n) % 2=0)
theorem zau {l:List Int} {j:Nat} (hj:j<l.length) (v:Int):zaa l v (j+1)=zaa l v j+(if el l j=v then 1 else 0):=by
 unfold zaa
 rw [zcx hj,List.count_append,List.count_singleton]
 by_cases h:el l j=v<;>simp [h]
theorem zfZ {l:List Int} {j:Nat} (hj:j<l.length) (n:Int):upAt l n (j+1)=if el l j = -n then !upAt l n j else upAt l n j:=by
 unfold upAt
 rw [zcx hj,List.count_append,List.count_singleton]
 by_cases h:el l j = -n
 ·simp only [h,beq_self_eq_true,if_true]
  by_cases e:(l.take j).count (-n) % 2=0
  ·have:((l.take j).count (-n)+1) % 2≠0:=by omega
   simp [e,this]
  ·have:((l.take j).count (-n)+1) % 2=0:=by omega
   simp [e,this]
 ·simp [h]
def zfM (l:List Int) (n:Int) (i k:Nat):Prop:=
 zaa l n (k+1)-zaa l n i≤2*(zaa l 0 (k+1)-zaa l 0 i)+2∧zaa l 0 (k+1)-zaa l 0 i≤2*(zaa l n (k+1)-zaa l n i)+2
def okTo (l:List Int) (n:Int) (j:Nat):Prop:=
 ∀ i k,i≤k→k<j→upAt l n i=true→(∀ p,i≤p→p≤k→el l p ≠ -n)→zfM l n i k
structure GInv (l:List Int) (n:Int) (j:Nat) (g:Ga) (s:Nat):Prop where
 hn:g.n=n
 hs:s≤j
 hp:∀ p,s≤p→p<j→el l p ≠ -n
 st:s=0∨el l (s-1) = -n
 hu:∀ i,s≤i→i≤j→upAt l n i=!g.d
 ht:g.d=false→g.t=zaa l n j-zaa l n s∧g.w=zaa l 0 j-zaa l 0 s
 lo:g.d=false→∀ i,s≤i→i≤j→g.lo≤(zaa l n i-zaa l n s)-2*(zaa l 0 i-zaa l 0 s)
 lx:g.d=false→∃ i,s≤i∧i≤j∧g.lo=(zaa l n i-zaa l n s)-2*(zaa l 0 i-zaa l 0 s)
 mo:g.d=false→∀ i,s≤i→i≤j→g.mo≤(zaa l 0 i-zaa l 0 s)-2*(zaa l n i-zaa l n s)
 mx:g.d=false→∃ i,s≤i∧i≤j∧g.mo=(zaa l 0 i-zaa l 0 s)-2*(zaa l n i-zaa l n s)
theorem GInv.step {l:List Int} {n:Int} (hn1:1≤n) {j:Nat} {g:Ga} {s:Nat} (h:GInv l n j g s) (hj:j<l.length) :
  (∃ s',GInv l n (j+1) (g.tell (el l j)).1 s')∧(okTo l n j→((g.tell (el l j)).2=true↔okTo l n (j+1))):=by
 have c1:=zau hj n
 have c0:=zau hj 0
 have cu:=zfZ hj n
 obtain ⟨gn,gd,lo,mo,t,w⟩:=g
 obtain ⟨hn,hs,hp,st,hu,ht,hlo,hlx,hmo,hmx⟩:=h
 simp only at *
 subst hn
 by_cases q1:el l j = -gn
 ·have e:(Ga.tell {n:=gn,d:=gd,lo:=lo,mo:=mo,t:=t,w:=w} (el l j))=({n:=gn,d:=!gd,lo:=0,mo:=0,t:=0,w:=0},true):=by unfold Ga.tell;simp [q1]
  rw [e]
  refine ⟨⟨j+1,⟨rfl,Nat.le_refl _,fun p h1 h2=>by omega,.inr (by simpa using q1),?_,?_,?_,?_,?_,?_⟩⟩,fun hok=>⟨fun _=>?_,fun _=>rfl⟩⟩
  ·intro i h1 h2
   have:i=j+1:=by omega
   subst this
   rw [cu,if_pos q1,hu j hs (Nat.le_refl _)]
  ·intro _;simp
  ·intro _ i h1 h2;have:i=j+1:=by omega
   subst this;simp
  ·intro _;exact ⟨j+1,by omega,by omega,by simp⟩
  ·intro _ i h1 h2;have:i=j+1:=by omega
   subst this;simp
  ·intro _;exact ⟨j+1,by omega,by omega,by simp⟩
  ·intro i k h1 h2 h3 h4
   by_cases hk:k<j
   ·exact hok i k h1 hk h3 h4
   ·have:k=j:=by omega
    subst this
    exact absurd q1 (h4 k h1 (Nat.le_refl _))
 ·have cu':upAt l gn (j+1)=upAt l gn j:=by rw [cu,if_neg q1]
  have hp':∀ p,s≤p→p<j+1→el l p ≠ -gn:=fun p h1 h2=>by
   by_cases e:p=j
   ·subst e;exact q1
   ·exact hp p h1 (by omega)
  have hu':∀ i,s≤i→i≤j+1→upAt l gn i=!gd:=fun i h1 h2=>by
   by_cases e:i=j+1
   ·subst e;rw [cu',hu j hs (Nat.le_refl _)]
   ·exact hu i h1 (by omega)
  have far:∀ i,i≤j→(∀ p,i≤p→p≤j→el l p ≠ -gn)→s≤i:=fun i h1 h2=>by
   rcases st with st | st
   ·omega
   ·by_cases e:s≤i
    ·exact e
    ·exact absurd st (h2 (s-1) (by omega) (by omega))
  by_cases q2:gd=true∨(el l j≠0∧el l j≠gn)
  ·have e:(Ga.tell {n:=gn,d:=gd,lo:=lo,mo:=mo,t:=t,w:=w} (el l j))=({n:=gn,d:=gd,lo:=lo,mo:=mo,t:=t,w:=w},true):=by unfold Ga.tell;rw [if_neg q1,if_pos q2]
   rw [e]
   by_cases hd:gd=true
   ·subst hd
    refine ⟨⟨s,⟨rfl,by omega,hp',st,hu',fun h=>absurd h (by simp),fun h=>absurd h (by simp),fun h=>absurd h (by simp),fun h=>absurd h (by simp),fun h=>absurd h (by simp)⟩⟩,fun hok=>⟨fun _=>?_,fun _=>rfl⟩⟩
    intro i k h1 h2 h3 h4
    by_cases hk:k<j
    ·exact hok i k h1 hk h3 h4
    ·have:k=j:=by omega
     subst this
     have:=hu' i (far i h1 h4) (by omega)
     rw [h3] at this
     exact absurd this (by simp)
   ·have q3:=q2.resolve_left hd
    have hd':gd=false:=by simpa using hd
    subst hd'
    rw [if_neg q3.2] at c1
    rw [if_neg q3.1] at c0
    obtain ⟨t1,t2⟩:=ht rfl
    refine ⟨⟨s,⟨rfl,by omega,hp',st,hu',fun _=>⟨by simp only;omega,by simp only;omega⟩,fun _ i h1 h2=>?_,fun _=>?_,fun _ i h1 h2=>?_,fun _=>?_⟩⟩,fun hok=>⟨fun _=>?_,fun _=>rfl⟩⟩
    ·by_cases e:i=j+1
     ·subst e;have:=hlo rfl j hs (Nat.le_refl _);simp only;omega
     ·exact hlo rfl i h1 (by omega)
    ·obtain ⟨i,h1,h2,h3⟩:=hlx rfl
     exact ⟨i,h1,by omega,h3⟩
    ·by_cases e:i=j+1
     ·subst e;have:=hmo rfl j hs (Nat.le_refl _);simp only;omega
     ·exact hmo rfl i h1 (by omega)
    ·obtain ⟨i,h1,h2,h3⟩:=hmx rfl
     exact ⟨i,h1,by omega,h3⟩
    ·intro i k h1 h2 h3 h4
     by_cases hk:k<j
     ·exact hok i k h1 hk h3 h4
     ·have:k=j:=by omega
      subst this
      unfold zfM
      by_cases e:i=k
      ·subst e;omega
      ·obtain ⟨x,hx⟩:∃ x,k=x+1:=⟨k-1,by omega⟩
       have:=hok i x (by omega) (by omega) h3 (fun p a b=>h4 p a (by omega))
       unfold zfM at this
       rw [← hx] at this
       omega
  ·have hd:gd=false:=by
    cases gd with
    | false=>rfl
    | true=>exact absurd (.inl rfl) q2
   subst hd
   have e:(Ga.tell {n:=gn,d:=false,lo:=lo,mo:=mo,t:=t,w:=w} (el l j))=({n:=gn,d:=false,lo:=min lo (zaa l gn (j+1)-zaa l gn s-2*(zaa l 0 (j+1)-zaa l 0 s)),mo:=min mo (zaa l 0 (j+1)-zaa l 0 s-2*(zaa l gn (j+1)-zaa l gn s)),t:=zaa l gn (j+1)-zaa l gn s,w:=zaa l 0 (j+1)-zaa l 0 s},decide (zaa l gn (j+1)-zaa l gn s-2*(zaa l 0 (j+1)-zaa l 0 s)-lo≤2)&&decide (zaa l 0 (j+1)-zaa l 0 s-2*(zaa l gn (j+1)-zaa l gn s)-mo≤2)):=by
    obtain ⟨t1,t2⟩:=ht rfl
    unfold Ga.tell
    rw [if_neg q1,if_neg q2]
    simp only
    by_cases z:el l j=0
    ·have zn:¬ el l j=gn:=by omega
     rw [if_neg zn] at c1
     rw [if_pos z] at c0
     have a1:zaa l gn (j+1)-zaa l gn s=t:=by omega
     have a2:zaa l 0 (j+1)-zaa l 0 s=w+1:=by omega
     rw [a1,a2,if_pos z,if_pos z]
    ·have zn:el l j=gn:=by
      by_cases c:el l j=gn
      ·exact c
      ·exact absurd (.inr ⟨z,c⟩) q2
     rw [if_pos zn] at c1
     rw [if_neg z] at c0
     have a1:zaa l gn (j+1)-zaa l gn s=t+1:=by omega
     have a2:zaa l 0 (j+1)-zaa l 0 s=w:=by omega
     rw [a1,a2,if_neg z,if_neg z]
   rw [e]
   refine ⟨⟨s,⟨rfl,by omega,hp',st,hu',fun _=>⟨rfl,rfl⟩,fun _ i h1 h2=>?_,fun _=>?_,fun _ i h1 h2=>?_,fun _=>?_⟩⟩,fun hok=>?_⟩
   ·by_cases e:i=j+1
    ·subst e;exact Int.min_le_right _ _
    ·exact Int.le_trans (Int.min_le_left _ _) (hlo rfl i h1 (by omega))
   ·obtain ⟨i,h1,h2,h3⟩:=hlx rfl
    simp only
    by_cases q:lo≤zaa l gn (j+1)-zaa l gn s-2*(zaa l 0 (j+1)-zaa l 0 s)
    ·exact ⟨i,h1,by omega,by rw [Int.min_eq_left q,h3]⟩
    ·exact ⟨j+1,by omega,by omega,by rw [Int.min_eq_right (by omega)]⟩
   ·by_cases e:i=j+1
    ·subst e;exact Int.min_le_right _ _
    ·exact Int.le_trans (Int.min_le_left _ _) (hmo rfl i h1 (by omega))
   ·obtain ⟨i,h1,h2,h3⟩:=hmx rfl
    simp only
    by_cases q:mo≤zaa l 0 (j+1)-zaa l 0 s-2*(zaa l gn (j+1)-zaa l gn s)
    ·exact ⟨i,h1,by omega,by rw [Int.min_eq_left q,h3]⟩
    ·exact ⟨j+1,by omega,by omega,by rw [Int.min_eq_right (by omega)]⟩
   ·simp only [Bool.and_eq_true,decide_eq_true_eq]
    constructor
    ·rintro ⟨b1,b2⟩ i k h1 h2 h3 h4
     by_cases hk:k<j
     ·exact hok i k h1 hk h3 h4
     ·have:k=j:=by omega
      subst this
      have hsi:=far i h1 h4
      have:=hlo rfl i hsi h1
      have:=hmo rfl i hsi h1
      unfold zfM
      omega
    ·intro hk
     obtain ⟨i,h1,h2,h3⟩:=hlx rfl
     obtain ⟨i2,h4,h5,h6⟩:=hmx rfl
     have k1:=hk i j h2 (by omega) (by rw [hu i h1 h2];rfl) (fun p a b=>hp' p (by omega) (by omega))
     have k2:=hk i2 j h5 (by omega) (by rw [hu i2 h4 h5];rfl) (fun p a b=>hp' p (by omega) (by omega))
     unfold zfM at k1 k2
     omega
theorem zdP {l:List Int} {n:Int} (hn:1≤n):∀ j,j≤l.length→(∃ s,GInv l n j (zaH n (l.take j)).1 s)∧((zaH n (l.take j)).2=true↔okTo l n j)
 | 0,_=>⟨⟨0,⟨rfl,Nat.le_refl _,fun p h1 h2=>by omega,.inl rfl,fun i h1 h2=>by
   have:i=0:=by omega
   subst this;simp [upAt,zaH,ga0],fun _=>by simp [zaH,ga0],fun _ i h1 h2=>by
   have:i=0:=by omega
   subst this;simp [zaH,ga0],fun _=>⟨0,by omega,by omega,by simp [zaH,ga0]⟩,fun _ i h1 h2=>by
   have:i=0:=by omega
   subst this;simp [zaH,ga0],fun _=>⟨0,by omega,by omega,by simp [zaH,ga0]⟩⟩⟩,
   ⟨fun _ i k h1 h2=>by omega,fun _=>rfl⟩⟩
 | j+1,hj=>by
  obtain ⟨⟨s,h1⟩,h2⟩:=zdP (l:=l) hn j (by omega)
  obtain ⟨h3,h4⟩:=h1.step hn (by omega)
  rw [zcx (by omega),zbY]
  refine ⟨h3,?_⟩
  unfold zbM
  simp only [Bool.and_eq_true]
  constructor
  ·rintro ⟨a,b⟩
   exact (h4 (h2.1 a)).1 b
  ·intro h
   have a:okTo l n j:=fun i k e1 e2=>h i k e1 (by omega)
   exact ⟨h2.2 a,(h4 a).2 h⟩
theorem zcz {l:List Int} {n:Int} (hn:1≤n):zav n l=true↔okTo l n l.length:=by
 have:=(zdP (l:=l) hn l.length (Nat.le_refl _)).2
 rw [List.take_length] at this
 exact this
def BPost (w:World) (b:Bool) (e:Ending) (w':World):Prop:=e = .returned (.bool b)∧Below w.heap.size w w'
noncomputable def zai (xs ys:List Int):Bool:=isB xs&&xs.all (fun n=>decide (1≤n)&&zav n ys)
theorem zf1 {xs ys:List Int} (h:isB xs=false):zai xs ys=false:=by simp [zai,h]
theorem zkX {xs:List Int} {k:Nat} (h:k<xs.length):el xs k∈xs:=by
 simp [el,List.getD,List.getElem?_eq_getElem h]
theorem zcR {xs ys:List Int} {k:Nat} (hk:k<xs.length) (h:el xs k<1∨zav (el xs k) ys=false):zai xs ys=false:=by
 unfold zai
 rw [Bool.and_eq_false_iff]
 right
 rw [List.all_eq_false]
 refine ⟨el xs k,zkX hk,?_⟩
 rcases h with h | h
 ·have:¬ 1≤el xs k:=by omega
  simp [this]
 ·simp [h]
theorem zef {xs ys:List Int} {n:Nat} (hn:xs.length=n) (hi:isB xs=true) (h:∀ i,i<n→1≤el xs i∧zav (el xs i) ys=true):zai xs ys=true:=by
 unfold zai
 rw [hi,Bool.true_and,List.all_eq_true]
 intro x hx
 obtain ⟨i,h1,h2⟩:=List.mem_iff_getElem.1 hx
 have:=h i (by omega)
 have e:el xs i=x:=by simp [el,List.getD,List.getElem?_eq_getElem h1,h2]
 rw [e] at this
 simp [this.1,this.2]
def InPost (w wr:World) (g:Nat) (v:Int) (ys:List Int) (j:Nat):Prop:=
 GaAt wr g (zaH v (ys.take j)).1∧(zaH v (ys.take j)).2=true∧Below w.heap.size w wr
theorem InPost.next {w wr w':World} {g:Nat} {v:Int} {ys:List Int} {j:Nat} {b:Bool} (h:InPost w wr g v ys j) (hj:j<ys.length) (hg:w.heap.size≤g) (hb:b=true) (h2:za8 wr g ((zaH v (ys.take j)).1.tell (el ys j)) (.returned (.bool b)) w'):InPost w w' g v ys (j+1):=by
 obtain ⟨h3,h4,h5⟩:=h
 obtain ⟨h6,h7,h8⟩:=h2
 unfold InPost
 rw [zcx hj,zbY]
 unfold zbM
 refine ⟨h7,?_,h5.grown h8 h5.size (fun k e=>by cases e;exact hg)⟩
 have h6:b=((zaH v (ys.take j)).1.tell (el ys j)).2:=by simpa using h6
 show (_&&_)=true
 rw [h4,← h6,hb]
 rfl
theorem InPost.no {w wr w':World} {g:Nat} {v:Int} {ys:List Int} {j:Nat} (h:InPost w wr g v ys j) (hj:j<ys.length) (hg:w.heap.size≤g) (h2:za8 wr g ((zaH v (ys.take j)).1.tell (el ys j)) (.returned (.bool false)) w'):zav v ys=false∧Below w.heap.size w w':=by
 obtain ⟨h3,h4,h5⟩:=h
 obtain ⟨h6,h7,h8⟩:=h2
 refine ⟨zf0 (k:=j+1) ?_,h5.grown h8 h5.size (fun k e=>by cases e;exact hg)⟩
 rw [zcx hj,zbY]
 unfold zbM
 have h6:false=((zaH v (ys.take j)).1.tell (el ys j)).2:=by simpa using h6
 show (_&&_)=false
 rw [h4,← h6]
 rfl
theorem InPost.tells {w wr:World} {g:Nat} {v:Int} {ys:List Int} {j m:Nat} (h:InPost w wr g v ys j) (hm:ys.length=m) (hm2:m≤1000) (hj:j<m) (hv:1≤v) (hv2:v≤9223372036854775807) (x:Int) :
  Calls Try.prog 34 #[.pointer (some ⟨g,0,none⟩),.int .i64 x] wr (za8 wr g ((zaH v (ys.take j)).1.tell x)):=by
 have:=zif hv hv2 (ys.take j)
 exact zge g _ x wr h.1 _ (by rw [List.length_take];omega) this
theorem InPost.done {w wr:World} {g:Nat} {v:Int} {ys:List Int} {m:Nat} (h:InPost w wr g v ys m) (hm:ys.length=m):zav v ys=true∧Below w.heap.size w wr:=by
 obtain ⟨h3,h4,h5⟩:=h
 subst hm
 rw [List.take_length] at h4
 exact ⟨h4,h5⟩
set_option maxHeartbeats 1000000 in
theorem zfz (a:Option Addr) (n ca:Nat) (xs:List Int) (b:Option Addr) (m cb:Nat) (ys:List Int) (w:World) (ha:IntSl w a n xs) (hb:IntSl w b m ys) (hm2:m≤1000) :
  Calls Try.prog 22 #[.slice a n ca,.slice b m cb] w (BPost w (zai xs ys)):=by
 have hm:=ha.mx
 cases hi:isB xs with
 | false=>
  have HN:=Lib.hid (zf1 (ys:=ys) hi)
  have HI:=Lib.hid hi
  clear hi
  go_enter Try.func22,Try.ntmps22
  go_wp2_with fail
  refine (ziQ _ _ _ xs _ ha).mono ?_
  rw [HI.out]
  rintro e w1 ⟨rfl,q,rfl⟩
  go_wp2_with fail
  go_ret
  exact ⟨by rw [HN.out];rfl,zjd (Below.refl _ _) _⟩
 | true=>
  have HI:=Lib.hid hi
  have hlen:=Lib.hid ha.len
  have hlen2:=Lib.hid hb.len
  clear hi
  go_enter Try.func22,Try.ntmps22
  go_wp2_with fail
  refine (ziQ _ _ _ xs _ ha).mono ?_
  rw [HI.out]
  rintro e w1 ⟨rfl,q,rfl⟩
  go_wp2_with fail
  go_loopw [15] (fun i wr=>∃ k:Nat,k≤n∧i = .int .i64 k∧(∀ i,i<k→1≤el xs i∧zav (el xs i) ys=true)∧Below w.heap.size w wr) (fun i _=>n-(intOf i).toNat)
  case atStart=>exact ⟨0,Nat.zero_le _,rfl,fun i h=>absurd h (by omega),zjd (Below.refl _ _) _⟩
  case round=>
   obtain ⟨k,hk,rfl,hq,B1⟩:=hrel
   have HQ:=Lib.hid hq
   have BB1:=Lib.hid B1
   have hra:=Lib.hid (ha.below B1)
   have hrb:=Lib.hid (hb.below B1)
   have z1:=B1.size
   clear hq B1
   by_cases hlt:k<n
   ·obtain ⟨ba,oa,rfl,_,hca⟩:=hra.out.row (by omega)
    have ck:=hca k (by omega)
    have k0:(0:Int)≤(k:Int):=by omega
    have k1:(k:Int)<(n:Int):=by omega
    clear hca
    have l2:=ha.hi k
    by_cases hv:el xs k<1
    ·have HN:=Lib.hid (zcR (ys:=ys) (k:=k) (by rw [hlen.out];omega) (.inl hv))
     go_wp2_with fail
     go_ret
     exact ⟨by rw [HN.out];rfl,(BB1.out.alloc z1 _)⟩
    ·go_wp2_with fail
     have hg:w.heap.size≤wr.heap.size:=z1
     have hvv:=Lib.hid hv
     have hin:InPost w (wr.alloc (.cells #[.int .i64 (el xs k),.bool false,.int .i64 0,.int .i64 0,.int .i64 0,.int .i64 0] 60 (0,0))) wr.heap.size (el xs k) ys 0:=by
      refine ⟨?_,rfl,BB1.out.alloc z1 _⟩
      show _=_
      simp only [World.alloc,Array.getElem?_push_size]
      rfl
     have HIN:=Lib.hid hin
     clear hin
     go_loopw [27] (fun i wr2=>∃ j:Nat,j≤m∧i = .int .i64 j∧InPost w wr2 wr.heap.size (el xs k) ys j) (fun i _=>m-(intOf i).toNat)
     case atStart=>exact ⟨0,Nat.zero_le _,rfl,HIN.out⟩
     case round=>
      obtain ⟨j,hj,rfl,hin⟩:=hrel
      have HIN2:=Lib.hid hin
      clear hin
      by_cases hjl:j<m
      ·have BB2:=Lib.hid HIN2.out.2.2
       obtain ⟨bb,ob,rfl,_,hcb⟩:=(hb.below BB2.out).row (by omega)
       have cj:=hcb j (by omega)
       have j0:(0:Int)≤(j:Int):=by omega
       have j1:(j:Int)<(m:Int):=by omega
       clear hcb
       go_wp2_with fail
       refine (HIN2.out.tells hlen2.out hm2 hjl (by omega) l2 _).mono ?_
       rintro e w2 hp
       obtain ⟨r,rfl⟩:∃ r,e = .returned (.bool r):=⟨_,hp.1⟩
       have HP:=Lib.hid hp
       clear hp
       cases r with
       | false=>
        go_wp2_with fail
        go_ret
        obtain ⟨e1,e2⟩:=HIN2.out.no (by rw [hlen2.out];omega) hg HP.out
        exact ⟨by rw [zcR (by rw [hlen.out];omega) (.inr e1)];rfl,e2⟩
       | true=>
        go_wp2_with fail
        go_roundw
        case rel=>exact ⟨j+1,by omega,by go_num,HIN2.out.next (by rw [hlen2.out];omega) hg rfl HP.out⟩
        case measure=>simp [intOf];omega
      ·have hjm:j=m:=by omega
       have j1:¬ (j:Int)<(m:Int):=by omega
       subst hjm
       have HD:=Lib.hid (HIN2.out.done hlen2.out)
       go_wp2_with fail
       go_roundw
       case rel=>
        refine ⟨k+1,by omega,by go_num,fun i hi=>?_,HD.out.2⟩
        by_cases e:i=k
        ·subst e;exact ⟨by omega,HD.out.1⟩
        ·exact HQ.out i (by omega)
       case measure=>simp [intOf];omega
   ·have hkn:k=n:=by omega
    have hr:=Lib.hid (zef hlen.out HI.out (fun i hi=>HQ.out i (by omega)))
    have k1:¬ (k:Int)<(n:Int):=by omega
    go_wp2_with fail
    go_ret
    exact ⟨by rw [hr.out];rfl,BB1.out⟩
theorem zbP {l:List Int} {v:Int}:∀ {j k:Nat},j≤k→zaa l v j≤zaa l v k:=by
 intro j k h
 unfold zaa
 have:(l.take j).count v≤(l.take k).count v:=by
  have e:l.take j=(l.take k).take j:=by rw [List.take_take,Nat.min_eq_left h]
  rw [e]
  exact (List.take_sublist _ _).count_le _
 omega
theorem zcg {l:List Int} {v:Int} (j:Nat):0≤zaa l v j∧zaa l v j≤j:=by
 unfold zaa
 have:(l.take j).count v≤(l.take j).length:=List.count_le_length
 rw [List.length_take] at this
 omega
theorem zfW {l:List Int} {n:Int} {j:Nat} (hj:j≤l.length) (h:∀ p,p<j→el l p ≠ -n):upAt l n j=true:=by
 have e:(l.take j).count (-n)=0:=by
  refine List.count_eq_zero.2 fun hm=>?_
  obtain ⟨p,hp,e⟩:=List.mem_iff_getElem.1 hm
  rw [List.length_take] at hp
  refine h p (by omega) ?_
  unfold el
  rw [List.getElem_take] at e
  rw [List.getD_eq_getElem?_getD,List.getElem?_eq_getElem (by omega),← e]
  rfl
 unfold upAt
 rw [e]
 rfl
theorem zhO {l:List Int} (h2:zav 2 l=true) (h11:zav 11 l=true) {a v i:Nat} (ha:a≤v) (hv:v≤i) (hi:i≤l.length) (hn:∀ p,p<i→el l p ≠ -2∧el l p ≠ -11)
  (h36:zaa l 2 v+36≤zaa l 2 i):zaa l 11 a+8≤zaa l 11 i:=by
 have hlt:v<i:=by
  rcases Nat.lt_or_ge v i with h | h
  ·exact h
  ·have:v=i:=by omega
   subst this
   omega
 have c2:=(zcz (by decide)).1 h2 v (i-1) (by omega) (by omega) (zfW (by omega) fun p hp=>(hn p (by omega)).1) (fun p _ hp=>(hn p (by omega)).1)
 have c11:=(zcz (by decide)).1 h11 a (i-1) (by omega) (by omega) (zfW (by omega) fun p hp=>(hn p (by omega)).2) (fun p _ hp=>(hn p (by omega)).2)
 have e:i-1+1=i:=by omega
 unfold zfM at c2 c11
 rw [e] at c2 c11
 have m:=zbP (l:=l) (v:=0) ha
 omega
theorem zeg {l:List Int} (h:zai [2,11] l=true):zav 2 l=true∧zav 11 l=true:=by
 unfold zai at h
 simp only [List.all_cons,List.all_nil,Bool.and_eq_true,Bool.and_true] at h
 exact ⟨h.2.1.2,h.2.2.2⟩
end Go.Proofs.Ytjfphnegcelbpaa
namespace Go.Proofs.Ytjfphnegcelbpaa
open Go.RowKit Go.ChangeShapes Go.WideShapes Go.Deep Hp
set_option maxRecDepth 100000
noncomputable def tabLi:List Ent:=[zgY,ziZ]
theorem zh9:∀ e∈tabLi,zak Try.prog e:=zae zdU (zae zhc zap)
theorem wt3 {n:Int} (h:10≤n):Wt 3 (watW 3 [] 10) n:=by
 refine ⟨by decide,fun x hx=>?_,fun x hx=>?_⟩
 all_goals
  have hx:x∈[(⟨3,10⟩:Wait)]:=hx
  rw [List.mem_singleton] at hx
  subst hx
 ·rfl
 ·exact ⟨by show (0:Int)≤10;decide,h⟩
theorem wt0 (s n:Int):Wt s [] n:=⟨Nat.zero_le _,(by simp),(by simp)⟩
theorem watches_fn:FnC Try.prog 24 [] (.bool true) D2:=by
 refine FnG.of_vc (zaz zh9 fun _=>none) Try.func24 rfl (by decide) rfl 300 (p:=fun (V:List PE→Prop)=>let v0:=(3:Int);let v1:=(46:Int);let v2:=(1000000:Int);let v3:=(45:Int);let v4:=(10:Int);let v5:=(0:Int);let v6:=[v0];let v7:=watW v0 [] v4;let v8:=v5==v5;let v9:=watW v0 v7 v1;let v10:=watD v0 v7 v1;let v11:=(↑(v9.length):Int);let v12:=zab v8 ((↑(List.length (watD v0 [] v4)):Int)==v5) false;let v13:=zab v12 v8 false;let v14:=zab v13 ((↑(List.length (watD v0 v7 v3)):Int)==v5) false;let v15:=zab v14 v8 false;let v16:=zab v15 (decide (v10=v6)) false;let v17:=zab v16 (v11==1) false;True∧True∧(List.length [Lease.mk v0 v5 v5 v5]≤17592186044416∧v5<v0∧Wt v0 [] v4∧v4≤v2∧True)∧(List.length [Lease.mk v0 v5 v5 v5]≤17592186044416∧v5<v0∧Wt v0 v7 v3∧v3≤v2∧True)∧(List.length [Lease.mk v0 v5 v5 v5]≤17592186044416∧v5<v0∧Wt v0 v7 v1∧v1≤v2∧True)∧((v8=true→v8=true)∧(v8=true→v8=true)∧(v8=true→v8=true)∧(v12=true→v12=true)∧(v12=true→v12=true)∧(v13=true→v13=true)∧(v13=true→v13=true)∧(v13=true→v13=true)∧(v14=true→v14=true)∧(v14=true→v14=true)∧(v15=true→v6.length≤17592186044416)∧(v15=true→v15=true)∧(v15=true→v15=true)∧(v15=true→v10.length≤1000000)∧(v15=true→v15=true)∧(v16=true→v16=true)∧(v16=true→v16=true)∧(v16=true→v16=true)∧(v17=true→v17=true)∧(v17=true→v5≤v5)∧(v17=true→v5<v11)∧(v17=true→v17=true)∧(v17=true→v17=true)∧(v17=true→v17=true)∧(v17=true→v17=true)∧True)∧zab v17 (Wait.at_ (List.getD v9 (Int.toNat v5) default)==v1) false=true∧True) (by kernel_rfl) ?_
 have w0:=wt0 3 10
 have w1:=wt3 (n:=45) (by decide)
 have w2:=wt3 (n:=46) (by decide)
 intros
 repeat' apply And.intro
 all_goals first | trivial | exact fun h=>h | exact w0 | exact w1 | exact w2 | decide | (intro _;decide)
def dFn (f:Nat):Dec Unit where
 dec:=fun s=>match s with | .fn g=>if g=f then some () else none | _=>none
 can:=fun _=> .fn f
 Okp:=fun _=>True
 okp:=fun _ _ _ _ _=>trivial
 ok:=by
  intro s x h E w v _ hd
  split at h
  ·split at h
   ·rename_i e;subst e;exact hd
   ·cases h
  ·cases h
theorem ziE (s:Sent):FnC Try.prog 31 [dSents.can [s],dInt.can s.ask,(dFn 32).can ()] (.tup [.int .i64 0,.bool true]) D2:=by
 refine FnC.of_below (fnB Try.func31 (by decide) rfl) fun w E vals hd=>?_
 match vals,hd with
 | [v,t,g],⟨d1,⟨d2,_⟩,d3,_⟩=>
  have d3:g = .func (.func 32) #[] #[]:=d3
  subst d2;subst d3
  obtain ⟨a,c,rfl,hs⟩:=Rd.sl' d1
  refine (zhu a 1 c [s] s.ask w _ hs (fun i j h1 h2=>by simp at h2;omega)).mono ?_
  rintro e w' ⟨p,b,rfl,hp,hlo,hhi,hrest⟩
  have hp0:p=0:=by
   rcases Nat.eq_zero_or_pos p with h | h
   ·exact h
   ·exact absurd (hlo 0 h) (Int.lt_irrefl _)
  subst hp0
  have hb:b=true:=hrest.1.2 ⟨Nat.one_pos,rfl⟩
  subst hb
  exact ⟨_,rfl,hrest.2,fun _ _ _=>⟨[.int .i64 0,.bool true],rfl,⟨rfl,by decide⟩,rfl,trivial⟩⟩
noncomputable def zkY:Ent:=ent3 31 dSents dInt (dFn 32) fun l t _=>match l with
 | [s]=>([s.ask=t],.tup [.int .i64 0,.bool true],D2)
 | _=>([False],.any,D2)
theorem zil:zak Try.prog zkY:=zew (fnB Try.func31 (by decide) rfl) fun l t _ h=>by
 match l,h with
 | [s],h=>
  have e:s.ask=t:=h _ (by simp)
  subst e
  exact ziE s
 | [],h=>exact (h False (by simp)).elim
 | _::_::_,h=>exact (h False (by simp)).elim
noncomputable def tabLj:List Ent:=[eCk,zjS,zkY]
theorem zh8:∀ e∈tabLj,zak Try.prog e:=zae zfi (zae zfh (zae zil zap))
theorem zjl (h:Holder) (s:Sent) (seq:Int) (hc:ckH h=true) (hs:h.sent=[s]) (h0:h.seq<seq) (h1:seq≤1000000000) :
  FnC Try.prog 18 [dHolder.can h,dInt.can s.ask,dInt.can seq] (.tup [.agg (({h with seq:=seq,at_:=s.at_,sent:=[]}:Holder).svs [1]),.bool true,.int .i64 0]) D2:=by
 obtain ⟨node,now,ask,sent,seq0,at0⟩:=h
 have hs:sent=[s]:=hs
 subst hs
 refine FnG.of_vc (zaz zh8 fun _=>none) Try.func18 rfl (by decide) rfl 300 (p:=fun (V:List PE→Prop)=>let v0:=Sent.at_ s;let v1:=(1000000000:Int);let v2:=(0:Int);let v3:=List.length [s];let v4:=(↑v3:Int);let v5:=ckH (Holder.mk node now ask [s] seq0 at0);let v6:=zab (!true) true (decide (seq≤seq0));let v7:=IntKind.wrap IntKind.i64 (v2+(1:Int));let v8:=zab v6 true (decide (seq>v1));let v9:=(if v5=true then v2 else (1:Int)) != v2;True∧True∧True∧(v9=true→True∧v2=node∧v2=now∧v2=ask∧zjK Sent∧v2=seq∧v2=v0∧false=true∧(1:Int)=v2∧True)∧(v9=false→(v3≤1000000∧True)∧(Sent.ask s=Sent.ask s∧True)∧(((!!true)=true→(!!true)=true)∧((!!true)=true→(!!true)=true)∧((!!true)=true→(!!true)=true)∧((!true)=false→(!!true)=true)∧((!v6)=true→(!v6)=true)∧(v6=false→(!v6)=true)∧True)∧True∧(v8=true→True∧node=node∧now=now∧ask=ask∧[s]=[]∧seq0=seq∧at0=v0∧false=true∧v2=v2∧True)∧(v8=false→(v2≤v2∧v2<v4∧v2≤v7∧v7≤v4∧v4≤v4∧True)∧True∧node=node∧now=now∧ask=ask∧List.drop (Int.toNat v7) (List.take v3 [s])=[]∧seq=seq∧Sent.at_ (List.getD [s] (Int.toNat v2) default)=v0∧true=true∧v2=v2∧True))) (by kernel_rfl) ?_
 have e6:zab (!true) true (decide (seq≤seq0))=false:=by
  have:¬ seq≤seq0:=by have:seq0<seq:=h0;omega
  simp [zab,this]
 have e8:decide (seq>1000000000)=false:=decide_eq_false (by omega)
 simp only [hc,e6,e8,imp_self,implies_true,true_and,and_true,zaM,zaG]
 exact ⟨fun k=>absurd k (by decide),fun _=>⟨by simp,⟨fun _=>rfl,fun _=>rfl⟩,fun k=>absurd k (by decide),fun _=>⟨⟨Int.le_refl _,by simp,by decide,by show IntKind.i64.wrap (0+1)≤1;decide,Int.le_refl _⟩,rfl,rfl⟩⟩⟩
def za2 (h:Holder) (seq:Int):Holder:={h with seq:=seq,at_:=(h.sent.getD 0 default).at_,sent:=[]}
noncomputable def zjO:Ent:=ent3 18 dHolder dInt dInt fun h ask seq=>
 ([ckH h=true,h.sent.length=1,(h.sent.getD 0 default).ask=ask,h.seq<seq,seq≤1000000000],.tup [.agg ((za2 h seq).svs [1]),.bool true,.int .i64 0],D2)
theorem zfg:zak Try.prog zjO:=zew (fnB Try.func18 (by decide) rfl) fun h ask seq k=>by
 have k1:h.sent.length=1:=k _ (by simp)
 have k2:(h.sent.getD 0 default).ask=ask:=k _ (by simp)
 have k0:ckH h=true:=k _ (by simp)
 have k3:h.seq<seq:=k (h.seq<seq) (by simp)
 have k4:seq≤1000000000:=k (seq≤1000000000) (by simp)
 obtain ⟨s,hs⟩:∃ s,h.sent=[s]:=List.length_eq_one_iff.1 k1
 subst k2
 have:=zjl h s seq k0 hs k3 k4
 unfold za2
 rw [hs]
 exact this
theorem one_fn:FnC Try.prog 25 [] (.agg ((⟨11,0,0,[],0,0⟩:Holder).svs [1])) D2:=by
 refine FnG.of_vc (zaz zap fun _=>none) Try.func25 rfl (by decide) rfl 300 (p:=fun (V:List PE→Prop)=>True∧True∧(11:Int)=11∧(0:Int)=0∧(0:Int)=0∧zjK Sent∧(0:Int)=0∧(0:Int)=0∧True) (by kernel_rfl) ?_
 intros
 repeat' apply And.intro
 all_goals first | trivial | rfl
noncomputable def eOne:Ent:=ent0 25 ([],.agg ((⟨11,0,0,[],0,0⟩:Holder).svs [1]),D2)
theorem zhb:zak Try.prog eOne:=zcE one_fn.1 fun _=>one_fn
noncomputable def tabLk:List Ent:=[eOne,eAsk,zjO,zhd,eCk,zjN]
theorem zeF:∀ e∈tabLk,zak Try.prog e:=zae zhb (zae zhh (zae zfg (zae zdX (zae zfi (zae zff zap)))))
def tkN (j:Nat):Holder:=⟨11,j,1,[],5,0⟩
theorem zk7:∀ j,j≤7→ckH (tkN j)=true:=by decide
theorem good20_fn:FnC Try.prog 11 [] (.bool true) D2:=by
 refine FnG.of_vc (zaz zeF fun _=>none) Try.func11 rfl (by decide) rfl 300 (p:=fun (V:List PE→Prop)=>let v0:=(0:Int);let v1:=(1000000000:Int);let v2:=v0 != v0;let v3:=v0+(1:Int);let v4:=Holder.mk (11:Int) v0 v0 [] v0 v0;let v5:=askL v4;let v6:=Holder.sent v5;let v7:=zab v2 true v2;let v8:=za2 v5 (5:Int);let v9:=ckH v8;let v10:=zab v7 true (v3 != 1);let v11:=zab v10 true !true;let v12:=zab v11 true !zaR v8;let v13:=zab v12 true ((if v9=true then v0 else (1:Int)) != v0);True∧(ckH v4=true∧v0<v1∧(0:Nat)≤15∧True)∧(ckH v5=true∧v6.length=1∧Sent.ask (List.getD v6 (0:Nat) default)=v3∧Holder.seq v5<5∧(5:Int)≤v1∧True)∧(((!v2)=true→(!v2)=true)∧(v2=false→(!v2)=true)∧((!v7)=true→(!v7)=true)∧(v7=false→(!v7)=true)∧((!v10)=true→(!v10)=true)∧(v10=false→(!v10)=true)∧((!v11)=true→(!v11)=true)∧((!v11)=true→(!v11)=true)∧(v11=false→(!v11)=true)∧((!v12)=true→(!v12)=true)∧((!v12)=true→(!v12)=true)∧(v12=false→(!v12)=true)∧True)∧True∧(v13=true→True∧false=true∧True)∧(v13=false→True∧V [PE.b])) (by kernel_rfl) ?_
 intro v0 v1 v2 v3 v4 v5 v6 v7 v8 v9 v10 v11 v12 v13
 refine ⟨trivial,⟨by decide,by decide,by decide,trivial⟩,⟨by decide,by decide,by decide,by decide,by decide,trivial⟩,?_,trivial,fun h=>absurd h (by decide),fun _=>⟨trivial,?_⟩⟩
 ·repeat' apply And.intro
  all_goals first | trivial | exact fun h=>h | decide
 refine LoopG.head (zaz zeF fun _=>none) 0 (A:=Nat) (fun j=>j≤7) (fun j=>[(6,.int .i64 j),(3,.int .i64 0)]) (fun j=>[(55,.cells 24 ((tkN j).svs [69]))]) (fun j=>7-j) 0 (Nat.zero_le _) (p0:=let v0:=(0:Int);let v1:=tkN (0:Nat);let v2:=za2 (askL (Holder.mk (11:Int) v0 v0 [] v0 v0)) (5:Int);v0=(↑(0:Nat):Int)∧v0=v0∧false=false∧Holder.node v2=Holder.node v1∧Holder.now v2=Holder.now v1∧Holder.ask v2=Holder.ask v1∧Holder.sent v2=Holder.sent v1∧Holder.seq v2=Holder.seq v1∧Holder.at_ v2=Holder.at_ v1∧True) (by kernel_rfl) ?_ 300 (p:=fun (y:Nat) (V:List PE→Prop)=>let v0:=(0:Int)==0;let v1:=decide ((↑y:Int)<7);let v2:=zab v0 v0 false;let v3:=zab v2 (zaR (tkN y)) false;True∧True∧(v1=true→(ckH (tkN y)=true∧Holder.now (tkN y)<1000000000∧True)∧True∧V [PE.a])∧(v1=false→(ckH (tkN y)=true∧Holder.now (tkN y)<1000000000∧True)∧((v0=true→v0=true)∧(v0=true→v0=true)∧(v2=true→v2=true)∧(v2=true→v2=true)∧(v3=true→v3=true)∧(v3=true→v3=true)∧(v3=true→v3=true)∧True)∧zab v3 (!zaR (tkH (tkN y))) false=true∧True)) (by intro y;kernel_rfl) ?_
 ·intros
  exact ⟨rfl,rfl,rfl,rfl,rfl,rfl,rfl,rfl,rfl,trivial⟩
 rintro j hj
 have hc:ckH (tkN j)=true:=zk7 j hj
 have hn:(tkN j).now<1000000000:=by show (j:Int)<1000000000;omega
 intro v0 v1 v2 v3
 refine ⟨trivial,trivial,fun h=>⟨⟨hc,hn,trivial⟩,trivial,?_⟩,fun h=>⟨⟨hc,hn,trivial⟩,?_,?_,trivial⟩⟩
 ·have hj':j<7:=by
   have:(j:Int)<7:=of_decide_eq_true h
   omega
  have e:IntKind.i64.wrap ((j:Int)+1)=((j+1:Nat):Int):=zby (by omega)
  refine Back.mk (j+1) (by omega) (by omega) (p0:=let v0:=tkH (tkN j);let v1:=tkN (j+(1:Nat));IntKind.wrap IntKind.i64 ((↑j:Int)+(1:Int))=(↑(j+(1:Nat)):Int)∧(0:Int)=0∧false=false∧Holder.node v0=Holder.node v1∧Holder.now v0=Holder.now v1∧Holder.ask v0=Holder.ask v1∧Holder.sent v0=Holder.sent v1∧Holder.seq v0=Holder.seq v1∧Holder.at_ v0=Holder.at_ v1∧True) (by kernel_rfl) ?_
  have e2:(j:Int)+1=((j+1:Nat):Int):=(Int.natCast_succ j).symm
  intros
  exact ⟨e,rfl,rfl,rfl,e2,rfl,rfl,rfl,rfl,trivial⟩
 ·exact ⟨id,id,id,id,id,id,id,trivial⟩
 ·have hj':j=7:=by
   have:¬ (j:Int)<7:=of_decide_eq_false h
   omega
  subst hj'
  show zab v3 (!zaR (tkH (tkN 7))) false=true
  have e3:v3=true:=by
   show zab (zab ((0:Int)==0) ((0:Int)==0) false) (zaR (tkN 7)) false=true
   decide
  have e4:zaR (tkH (tkN 7))=false:=by decide
  rw [e3,e4]
  rfl
noncomputable def zhe:Ent:=ent0 11 ([],.bool true,D2)
theorem zfJ:zak Try.prog zhe:=zcE good20_fn.1 fun _=>good20_fn
noncomputable def zfe:Ent:=ent0 24 ([],.bool true,D2)
theorem zex:zak Try.prog zfe:=zcE watches_fn.1 fun _=>watches_fn
def hAt (l:List Int) (A T j:Nat):Holder:=
 if j≤A then ⟨11,zaa l 11 j,0,[],0,0⟩
 else if j≤T then ⟨11,zaa l 11 j,1,[⟨1,zaa l 11 A⟩],0,0⟩
 else ⟨11,zaa l 11 j,1,[],7,zaa l 11 A⟩
structure OvI (l:List Int) (A W:Nat) (s:Nat×List Wait×Bool):Prop where
 le:s.1≤l.length
 no:∀ p,p<s.1→el l p ≠ -2∧el l p ≠ -11
 len:s.2.1.length≤1
 ws:∀ x∈s.2.1,x.seq=7∧∃ v,A≤v∧v≤s.1∧x.at_=zaa l 2 v
 ov:s.2.2=true→∃ v i,A≤v∧v≤i∧i≤s.1∧zaa l 2 v+36≤zaa l 2 i
def hB (l:List Int) (A T j:Nat):Holder:={hAt l A T (j+1) with now:=zaa l 11 j}
theorem zjG {l:List Int} {A T:Nat} (hAT:A≤T):askL (hAt l A T A)=⟨11,zaa l 11 A,1,[⟨1,zaa l 11 A⟩],0,0⟩:=by
 unfold askL hAt
 rw [if_pos (Nat.le_refl A)]
 rfl
theorem zkT {l:List Int} {A T:Nat} (hAT:A≤T) (h:A≠T):askL (hAt l A T A)=hB l A T A:=by
 rw [zjG hAT]
 unfold hB hAt
 rw [if_neg (by omega),if_pos (by omega)]
theorem zkS {l:List Int} {A T:Nat} (h:A=T):za2 (askL (hAt l A T A)) 7=hB l A T A:=by
 subst h
 rw [zjG (Nat.le_refl _)]
 unfold hB hAt za2
 rw [if_neg (by omega),if_neg (by omega)]
 rfl
theorem zkQ {l:List Int} {A T:Nat} (h:A<T):za2 (hAt l A T T) 7=hB l A T T:=by
 unfold hB hAt za2
 rw [if_neg (show ¬ T≤A by omega),if_pos (Nat.le_refl T),if_neg (by omega),if_neg (by omega)]
 rfl
theorem zkR {l:List Int} {A T j:Nat} (hAT:A≤T) (h1:j≠A) (h2:j≠T):hAt l A T j=hB l A T j:=by
 have e1:j+1≤A↔j≤A:=by omega
 have e2:j+1≤T↔j≤T:=by omega
 unfold hB hAt
 simp only [e1,e2]
 split
 ·rfl
 ·split<;>rfl
theorem zcd {l:List Int} {A T j:Nat} (hj:j<l.length):(el l j=11→tkH (hB l A T j)=hAt l A T (j+1))∧(el l j≠11→hB l A T j=hAt l A T (j+1)):=by
 have h:=zau hj 11
 refine ⟨fun e=>?_,fun e=>?_⟩
 ·rw [if_pos e] at h
  unfold tkH hB hAt
  split
  ·rw [h]
  ·split<;>rw [h]
 ·rw [if_neg e] at h
  unfold hB hAt
  split
  ·rw [h];simp
  ·split<;>(rw [h];simp)
theorem zfO {n a:Int} (h0:0≤a) (h1:a≤n) (h2:n≤1000):ckH ⟨11,n,0,[],0,0⟩=true∧ckH ⟨11,n,1,[⟨1,a⟩],0,0⟩=true∧ckH ⟨11,n,1,[],7,a⟩=true:=by
 have w1:wiS (IntKind.i64.wrap (11-11)) 2=true:=by decide
 have w0:wiS (IntKind.i64.wrap 0) 2=true:=by decide
 have w2:wiS n 1000000000=true:=wiS_iff.2 ⟨by omega,by omega⟩
 have w3:wiS 0 1000000000=true:=by decide
 have w4:wiS 1 1000000000=true:=by decide
 have w5:wiS 0 n=true:=wiS_iff.2 ⟨by omega,by omega⟩
 have w6:wiS a n=true:=wiS_iff.2 ⟨h0,h1⟩
 have w7:wiS 7 1000000000=true:=by decide
 refine ⟨?_,?_,?_⟩
 ·simp [ckH,hdH,zb5,w0,w1,w2,w3,w5]
 ·simp [ckH,hdH,zb5,w0,w1,w2,w3,w4,w5,w6,zel,Holder.sq]
 ·simp [ckH,hdH,zb5,w0,w1,w2,w4,w6,w7]
theorem zfn {l:List Int} {A T j n:Nat} (hA:j≤A∨A≤n) (hn:n≤1000):ckH {hAt l A T j with now:=zaa l 11 n}=true:=by
 have c:=zcg (l:=l) (v:=11) n
 unfold hAt
 by_cases c1:j≤A
 ·rw [if_pos c1]
  exact (zfO (a:=0) (Int.le_refl _) c.1 (by omega)).1
 ·rw [if_neg c1]
  have hA:A≤n:=by omega
  have m:=zbP (l:=l) (v:=11) hA
  have c0:=zcg (l:=l) (v:=11) A
  split
  ·exact (zfO c0.1 m (by omega)).2.1
  ·exact (zfO c0.1 m (by omega)).2.2
theorem OvI.next {l:List Int} {A W j:Nat} {w:List Wait} {ov:Bool} (h:OvI l A W (j,w,ov)) (hj:j<l.length) (hn:el l j ≠ -2∧el l j ≠ -11):OvI l A W (j+1,w,ov) where
 le:=hj
 no:=fun p hp=>by
  by_cases e:p=j
  ·subst e;exact hn
  ·have hp:p<j+1:=hp
   exact h.no p (by show p<j;omega)
 len:=h.len
 ws:=fun x hx=>by
  obtain ⟨h1,v,h2,h3,h4⟩:=h.ws x hx
  have h3:v≤j:=h3
  exact ⟨h1,v,h2,by show v≤j+1;omega,h4⟩
 ov:=fun e=>by
  obtain ⟨v,i,h1,h2,h3,h4⟩:=h.ov e
  have h3:i≤j:=h3
  exact ⟨v,i,h1,h2,by show i≤j+1;omega,h4⟩
theorem OvI.wt {l:List Int} {A W j:Nat} {w:List Wait} {ov:Bool} (h:OvI l A W (j,w,ov)):Wt 7 w (zaa l 2 j) where
 len:=h.len
 seq:=fun x hx=>(h.ws x hx).1
 at_:=fun x hx=>by
  obtain ⟨_,v,_,h3,h4⟩:=h.ws x hx
  rw [h4]
  exact ⟨(zcg v).1,zbP h3⟩
theorem OvI.watch {l:List Int} {A W j:Nat} {w:List Wait} {ov:Bool} (h:OvI l A W (j,w,ov)) (hj:A≤j):OvI l A W (j,watW 7 w (zaa l 2 j),zab ov true (decide (((watD 7 w (zaa l 2 j)).length:Int)>0))) where
 le:=h.le
 no:=h.no
 len:=by
  show (watW 7 w (zaa l 2 j)).length≤1
  unfold watW
  split
  ·exact Nat.le_refl _
  ·split<;>exact Nat.le_refl _
 ws:=fun x hx=>by
  have hx:x∈watW 7 w (zaa l 2 j):=hx
  cases w with
  | nil=>
   have hx:x∈[(⟨7,zaa l 2 j⟩:Wait)]:=hx
   rw [List.mem_singleton] at hx
   subst hx
   exact ⟨rfl,j,hj,Nat.le_refl _,rfl⟩
  | cons y t=>
   have:=h.ws y (List.mem_cons_self ..)
   have hx:x∈(if zaa l 2 j-y.at_≥36 then [(⟨7,zaa l 2 j⟩:Wait)] else [⟨7,y.at_⟩]):=hx
   split at hx
   ·rw [List.mem_singleton] at hx
    subst hx
    exact ⟨rfl,j,hj,Nat.le_refl _,rfl⟩
   ·rw [List.mem_singleton] at hx
    subst hx
    exact ⟨rfl,this.2⟩
 ov:=fun e=>by
  have e:zab ov true (decide (((watD 7 w (zaa l 2 j)).length:Int)>0))=true:=e
  cases ho:ov with
  | true=>exact h.ov ho
  | false=>
   rw [ho] at e
   have e:decide (((watD 7 w (zaa l 2 j)).length:Int)>0)=true:=e
   have e:=of_decide_eq_true e
   cases w with
   | nil=>exact absurd e (by show ¬ ((0:Nat):Int)>0;decide)
   | cons y t=>
    have e:(((if zaa l 2 j-y.at_≥36 then [(7:Int)] else []).length:Nat):Int)>0:=e
    split at e
    ·rename_i h36
     obtain ⟨_,v,g1,g2,g3⟩:=h.ws y (List.mem_cons_self ..)
     exact ⟨v,j,g1,g2,Nat.le_refl _,by rw [g3] at h36;omega⟩
    ·exact absurd e (by decide)
theorem OvI.good {l:List Int} {A T W j:Nat} {w:List Wait} {ov:Bool} (h:OvI l A W (j,w,ov)) (hs:j≤1000) (hst:zav 2 l=true∧zav 11 l=true) (ho:ov=true):zaR (hB l A T j)=false:=by
 obtain ⟨v,i,h1,h2,h3,h4⟩:=h.ov ho
 have h3:i≤j:=h3
 have hj:j≤l.length:=h.le
 have hb:=zhO hst.1 hst.2 h1 h2 (by omega) (fun p hp=>h.no p (by show p<j;omega)) h4
 have m:=zbP (l:=l) (v:=11) h3
 have c:=zcg (l:=l) (v:=11) j
 have c0:=zcg (l:=l) (v:=11) A
 have e:zaR (hB l A T j)=(ckH (hB l A T j)&&((hB l A T j).seq != 0&&decide (IntKind.i64.wrap ((hB l A T j).now-(hB l A T j).at_)<8))):=rfl
 rw [e]
 by_cases c1:j+1≤A
 ·have:(hB l A T j).seq=0:=by unfold hB hAt;rw [if_pos c1]
  rw [this];simp
 ·by_cases c2:j+1≤T
  ·have:(hB l A T j).seq=0:=by unfold hB hAt;rw [if_neg c1,if_pos c2]
   rw [this];simp
  ·have e1:(hB l A T j).at_=zaa l 11 A:=by unfold hB hAt;rw [if_neg c1,if_neg c2]
   have e2:(hB l A T j).now=zaa l 11 j:=rfl
   rw [e1,e2,zbt ⟨by omega,by omega⟩,decide_eq_false (by omega)]
   simp
theorem IntSl.ofSl {w:World} {S:Nat→Prop} {a:Option Addr} {n c:Nat} {xs:List Int} (h:SlI w S a n c xs):IntSl w a n xs:=by
 have hl:=h.len
 rw [zay] at hl
 have hb:=h.bd
 have hx:=SlI.i64 h
 have hi:∀ i,I64 (el xs i):=fun i=>by
  by_cases hi:i<xs.length
  ·have e:el xs i=xs[i]:=by simp [el,hi]
   rw [e];exact hx _ (List.getElem_mem hi)
  ·have e:el xs i=0:=by simp [el,List.getElem?_eq_none (Nat.not_lt.1 hi)]
   rw [e];exact ⟨by decide,by decide⟩
 refine ⟨hl,by omega,fun hp=>?_,fun i=>(hi i).1,fun i=>(hi i).2⟩
 obtain ⟨b,off,rfl⟩:=h.addr hp
 obtain ⟨hlt,_⟩:=SlI.cell h hp
 exact ⟨b,off,rfl,hlt,fun i hi=>(SlI.cell h hi).2.1⟩
theorem zdC {E:Env} {w:World} {v:Value} {l:List Int} (h:DenV E w (dInts.can l) v):∃ a c,v = .slice a l.length c∧SlI w (E.set [0]) a l.length c l:=by
 have h:Rd w (E.set [0]) (.sl [.int .i64]) v (.sl (ints l)):=h
 obtain ⟨a,c,rfl,hs⟩:=h.sl'
 rw [zay] at hs
 exact ⟨a,c,by rw [zay],hs⟩
theorem zfC (xs ys:List Int) (hm:ys.length≤1000):FnC Try.prog 22 [dInts.can xs,dInts.can ys] (.bool (zai xs ys)) D2:=FnC.of_bool (fnB Try.func22 (by decide) rfl) fun w E vals hd=>by
 obtain ⟨v,u,rfl,h1,h3⟩:=zga hd
 obtain ⟨a,c,rfl,h2⟩:=zdC h1
 obtain ⟨b,d,rfl,h4⟩:=zdC h3
 exact (zfz a _ c xs b _ d ys w (IntSl.ofSl h2) (IntSl.ofSl h4) hm).mono (by rintro e w' ⟨rfl,hb⟩;exact ⟨rfl,hb⟩)
noncomputable def zdy:Ent:=ent2 22 dInts dInts fun xs ys=>([ys.length≤1000],.bool (zai xs ys),D2)
theorem zcF:zak Try.prog zdy:=zcD (fnB Try.func22 (by decide) rfl) fun xs ys h=>zfC xs ys (h _ (by simp))
noncomputable def tabLl:List Ent:=[zdy]
theorem zh7:∀ e∈tabLl,zak Try.prog e:=zae zcF zap
theorem zjC:isB [1]=true:=isB_iff.2 ⟨fun i h=>by simp at h,by simp⟩
theorem stA (ys:List Int):zai [1] ys=zav 1 ys:=by simp [zai,zjC]
theorem steady20_fn:FnC Try.prog 23 [] (.bool true) D2:=by
 refine FnG.of_vc (zaz zh7 fun _=>none) Try.func23 rfl (by decide) rfl 300 (p:=fun (V:List PE→Prop)=>let v0:=[(0:Int)];let v1:=[(1:Int)];let v2:=v0++v0;let v3:=v1++v1;let v4:=v2.length;let v5:=v3.length;let v6:=zai v1 v3;let v7:=v2++v0;let v8:=v3++v1;let v9:=v7.length;let v10:=v8.length;let v11:=zab v6 (!zai v1 v8) false;let v12:=zab v11 (zai v1 v2) false;let v13:=v3++[(-1:Int)]++v0++v0++v0++v0++[(-1:Int)]++v1;let v14:=v13.length;let v15:=zab v12 (!zai v1 v7) false;True∧True∧(v1.length≤17592186044416∧v5≤17592186044416∧v5≤1000∧(v6=true→v10≤17592186044416)∧(v6=true→v6=true)∧(v6=true→v6=true)∧(v6=true→v1.length≤17592186044416)∧(v6=true→v10≤1000)∧(v6=true→v6=true)∧(v6=true→v6=true)∧(v11=true→v4≤17592186044416)∧(v11=true→v11=true)∧(v11=true→v11=true)∧(v11=true→v1.length≤17592186044416)∧(v11=true→v4≤1000)∧(v11=true→v11=true)∧(v12=true→v9≤17592186044416)∧(v12=true→v12=true)∧(v12=true→v12=true)∧(v12=true→v1.length≤17592186044416)∧(v12=true→v9≤1000)∧(v12=true→v12=true)∧(v12=true→v12=true)∧(v15=true→v14≤17592186044416)∧(v15=true→v15=true)∧(v15=true→v15=true)∧(v15=true→v1.length≤17592186044416)∧(v15=true→v14≤1000)∧(v15=true→v15=true)∧True)∧zab v15 (zai v1 v13) false=true∧True) (by kernel_rfl) ?_
 have S1:zai [1] [1,1]=true:=by rw [stA];decide
 have S2:zai [1] [1,1,1]=false:=by rw [stA];decide
 have S3:zai [1] [0,0]=true:=by rw [stA];decide
 have S4:zai [1] [0,0,0]=false:=by rw [stA];decide
 have S5:zai [1] [1,1,-1,0,0,0,0,-1,1]=true:=by rw [stA];decide
 intros
 refine ⟨trivial,trivial,?_,?_,trivial⟩
 ·repeat' apply And.intro
  all_goals first | trivial | exact id | (intro _;decide) | decide
 ·show zab (zab (zab (zab (zai [1] [1,1]) (!zai [1] [1,1,1]) false) (zai [1] [0,0]) false) (!zai [1] [0,0,0]) false) (zai [1] [1,1,-1,0,0,0,0,-1,1]) false=true
  rw [S1,S2,S3,S4,S5]
  rfl
noncomputable def zdW:Ent:=ent0 23 ([],.bool true,D2)
theorem zdV:zak Try.prog zdW:=zcE steady20_fn.1 fun _=>steady20_fn
noncomputable def tabLm:List Ent:=[zdy,zdW,zhe,zfe,eOne,eAsk,zjO,zhd,zjN,zgY]
theorem zeE:∀ e∈tabLm,zak Try.prog e:=zae zcF (zae zdV (zae zfJ (zae zex (zae zhb (zae zhh (zae zfg (zae zdX (zae zff (zae zdU zap)))))))))
theorem zjz (l:List Int) (asked taken watched:Int):FnC Try.prog 6 [dInts.can l,dInt.can asked,dInt.can taken,dInt.can watched] (.bool true) D2:=by
 refine FnG.of_vc (zaz zeE fun _=>none) Try.func6 rfl (by decide) rfl 300 (p:=fun (V:List PE→Prop)=>let v0:=zab true true false;let v1:=(↑(l.length):Int);let v2:=decide (v1>300);let v3:=[(2:Int)]++[(11:Int)];let v4:=zab v2 true (decide (asked<0));let v5:=zab v4 true (decide (taken<asked));let v6:=zab v5 true (decide (watched<asked));let v7:=zab v6 true (decide (taken>v1));let v8:=zab v7 true (decide (watched>v1));let v9:=zab v8 true !zai v3 l;True∧(((!v2)=true→(!v2)=true)∧(v2=false→(!v2)=true)∧((!v4)=true→(!v4)=true)∧((!v4)=true→(!v4)=true)∧(v4=false→(!v4)=true)∧((!v5)=true→(!v5)=true)∧((!v5)=true→(!v5)=true)∧(v5=false→(!v5)=true)∧((!v6)=true→(!v6)=true)∧((!v6)=true→(!v6)=true)∧((!v6)=true→(!v6)=true)∧(v6=false→(!v6)=true)∧((!v7)=true→(!v7)=true)∧((!v7)=true→(!v7)=true)∧((!v7)=true→(!v7)=true)∧(v7=false→(!v7)=true)∧((!v8)=true→v3.length≤17592186044416)∧((!v8)=true→(!v8)=true)∧((!v8)=true→(!v8)=true)∧((!v8)=true→l.length≤1000)∧((!v8)=true→(!v8)=true)∧(v8=false→(!v8)=true)∧True)∧True∧(v9=true→((true=true→true=true)∧(v0=true→v0=true)∧True)∧zab v0 true false=true∧True)∧(v9=false→True∧True∧True∧True∧True∧V [PE.b])) (by kernel_rfl) ?_
 intro v0 v1 v2 v3 v4 v5 v6 v7 v8 v9
 have hbig:(!v8)=true→l.length≤300:=fun h=>by
  have h8:v8=false:=by simpa using h
  have pf:∀ a b:Bool,zab a true b=false→a=false:=fun a b e=>by cases a<;>simp_all [zab]
  have h2:v2=false:=pf _ _ (pf _ _ (pf _ _ (pf _ _ (pf _ _ h8))))
  have:¬ (v1>300):=of_decide_eq_false h2
  show l.length≤300
  have e1:v1=(l.length:Int):=rfl
  omega
 refine ⟨trivial,⟨id,fun _=>by simp [*],id,id,fun _=>by simp [*],id,id,fun _=>by simp [*],id,id,id,fun _=>by simp [*],id,id,id,fun _=>by simp [*],fun _=>by decide,id,id,fun h=>by have:=hbig h;omega,id,fun _=>by simp [*],trivial⟩,trivial,fun h=>⟨⟨fun _=>rfl,id,trivial⟩,rfl,trivial⟩,fun h=>⟨trivial,trivial,trivial,trivial,trivial,?_⟩⟩
 have pf:∀ a b:Bool,zab a true b=false→a=false∧b=false:=fun a b e=>by cases a<;>simp_all [zab]
 obtain ⟨g8,gs⟩:=pf _ _ h
 obtain ⟨g7,gw⟩:=pf _ _ g8
 obtain ⟨g6,gt⟩:=pf _ _ g7
 obtain ⟨g5,gwa⟩:=pf _ _ g6
 obtain ⟨g4,gta⟩:=pf _ _ g5
 obtain ⟨g2,ga⟩:=pf _ _ g4
 replace ga:=of_decide_eq_false ga
 replace gta:=of_decide_eq_false gta
 replace gwa:=of_decide_eq_false gwa
 replace gt:¬ taken>(l.length:Int):=of_decide_eq_false gt
 replace gw:¬ watched>(l.length:Int):=of_decide_eq_false gw
 have gl:l.length≤300:=hbig (by rw [g8];rfl)
 have hst:zav 2 l=true∧zav 11 l=true:=zeg (by
  have:(!zai [2,11] l)=false:=gs
  simpa using this)
 clear h gs g8 g7 g6 g5 g4 g2 hbig v9 v8 v7 v6 v5 v4 v3 v2 v1 v0 pf
 obtain ⟨A,rfl⟩:∃ k:Nat,asked=(k:Int):=⟨asked.toNat,by omega⟩
 obtain ⟨T,rfl⟩:∃ k:Nat,taken=(k:Int):=⟨taken.toNat,by omega⟩
 obtain ⟨W,rfl⟩:∃ k:Nat,watched=(k:Int):=⟨watched.toNat,by omega⟩
 have hAT:A≤T:=by omega
 have hAW:A≤W:=by omega
 clear ga gta gwa
 refine LoopG.head (zaz zeE fun _=>none) 0 (A:=Nat×List Wait×Bool) (OvI l A W) (fun s=>[(13,.int .i64 s.1),(12,.bool s.2.2),(11,.int .i64 (zaa l 2 s.1)),(10,.sl [69] (.rWait s.2.1)),(8,.bool false)]) (fun s=>[(85,.cells 24 ((hAt l A T s.1).svs [69]))]) (fun s=>l.length+1-s.1) (0,[],false) ⟨Nat.zero_le _,fun p h=>absurd h (by omega),Nat.zero_le _,fun x h=>(by cases h),fun h=>(by cases h)⟩ (p0:=let v0:=(0:Int);let v1:=hAt l A T (0:Nat);v0=(↑(0:Nat):Int)∧false=false∧v0=zaa l (2:Int) (0:Nat)∧zjK Wait∧false=false∧l=l∧(↑A:Int)=(↑A:Int)∧(↑T:Int)=(↑T:Int)∧(↑W:Int)=(↑W:Int)∧(11:Int)=Holder.node v1∧v0=Holder.now v1∧v0=Holder.ask v1∧[]=Holder.sent v1∧v0=Holder.seq v1∧v0=Holder.at_ v1∧True) (by kernel_rfl) ?_ 300 (p:=fun (y:Nat×List Wait×Bool) (V:List PE→Prop)=>let v0:=zab true true false;let v1:=(1:Int);let v2:=(7:Int);let v3:=(0:Int);let v4:=(11:Int);let v5:=(1000000000:Int);let v6:=(↑(l.length):Int);let v7:=Prod.fst y;let v8:=(↑v7:Int);let v9:=Prod.fst (Prod.snd y);let v10:=hAt l A T v7;let v11:=Prod.snd (Prod.snd y);let v12:=zaR v10;let v13:=Holder.ask v10;let v14:=askL v10;let v15:=Holder.sent v10;let v16:=zaR v14;let v17:=Holder.sent v14;let v18:=zaa l (2:Int) v7;let v19:=v15.length;let v20:=List.getD l v7 v3;let v21:=v3 != v3;let v22:=za2 v10 v2;let v23:=zaR v22;let v24:=za2 v14 v2;let v25:=v8==(↑A:Int);let v26:=zab v21 true !true;let v27:=zaR v24;let v28:=v8==(↑T:Int);let v29:=v8==v6;let v30:=v20==v4;let v31:=v20==2;let v32:=zab v11 v12 false;let v33:=zab v11 v16 false;let v34:=v20==(-2:Int);let v35:=zab v11 v23 false;let v36:=zab v11 v27 false;let v37:=decide (v8≥(↑W:Int));let v38:=(↑(List.length (watD v2 v9 v18)):Int);let v39:=decide (v8≤v6);let v40:=zab v21 true (v13+v1 != v1);let v41:=zab v34 v34 (v20 == -v4);let v42:=zab v11 true (decide (v38>v3));let v43:=zab v42 v12 false;let v44:=zab v42 v16 false;let v45:=zab v42 v23 false;let v46:=zab v42 v27 false;True∧True∧(v39=true→True∧True∧(v25=true→(ckH v10=true∧v13<v5∧v19≤15∧True)∧(((!v21)=true→(!v21)=true)∧(v21=false→(!v21)=true)∧True)∧True∧(v40=true→True∧false=true∧True)∧(v40=false→True∧True∧True∧(v28=true→(ckH v14=true∧v17.length=1∧Sent.ask (List.getD v17 (0:Nat) default)=v1∧Holder.seq v14<v2∧v2≤v5∧True)∧(((!v21)=true→(!v21)=true)∧(v21=false→(!v21)=true)∧True)∧True∧(v26=true→True∧false=true∧True)∧(v26=false→True∧True∧True∧(v37=true→(List.length [Lease.mk v2 v4 v1 v3]≤17592186044416∧v3<v2∧Wt v2 v9 v18∧v18≤1000000∧True)∧True∧True∧(v21=true→True∧false=true∧True)∧(v21=false→True∧(((!v11)=true→(!v11)=true)∧((!v11)=true→(!v11)=true)∧(v11=false→(!v11)=true)∧True)∧((v42=true→v42=true)∧(v42=true→v42=true)∧True)∧True∧(v46=true→True∧false=true∧True)∧(v46=false→True∧True∧(v29=true→((true=true→true=true)∧(v0=true→v0=true)∧True)∧zab v0 true false=true∧True)∧(v29=false→(v3≤v8∧v8<v6∧True)∧True∧True∧(v30=true→(ckH v24=true∧Holder.now v24<v5∧True)∧True∧True∧(v21=true→True∧false=true∧True)∧(v21=false→True∧True∧V [PE.a,PE.a,PE.b,PE.a,PE.b,PE.a,PE.b,PE.b,PE.b,PE.a,PE.b]))∧(v30=false→True∧True∧(v31=true→True∧True∧V [PE.a,PE.a,PE.b,PE.a,PE.b,PE.a,PE.b,PE.b,PE.b,PE.b,PE.a])∧(v31=false→True∧True∧True∧(v41=true→((true=true→true=true)∧(v0=true→v0=true)∧True)∧zab v0 true false=true∧True)∧(v41=false→True∧V [PE.a,PE.a,PE.b,PE.a,PE.b,PE.a,PE.b,PE.b,PE.b,PE.b,PE.b,PE.b])))))))∧(v37=false→((v11=true→v11=true)∧(v11=true→v11=true)∧True)∧True∧(v36=true→True∧false=true∧True)∧(v36=false→True∧True∧(v29=true→((true=true→true=true)∧(v0=true→v0=true)∧True)∧zab v0 true false=true∧True)∧(v29=false→(v3≤v8∧v8<v6∧True)∧True∧True∧(v30=true→(ckH v24=true∧Holder.now v24<v5∧True)∧True∧True∧(v21=true→True∧false=true∧True)∧(v21=false→True∧True∧V [PE.a,PE.a,PE.b,PE.a,PE.b,PE.b,PE.b,PE.b,PE.a,PE.b]))∧(v30=false→True∧True∧(v31=true→True∧True∧V [PE.a,PE.a,PE.b,PE.a,PE.b,PE.b,PE.b,PE.b,PE.b,PE.a])∧(v31=false→True∧True∧True∧(v41=true→((true=true→true=true)∧(v0=true→v0=true)∧True)∧zab v0 true false=true∧True)∧(v41=false→True∧V [PE.a,PE.a,PE.b,PE.a,PE.b,PE.b,PE.b,PE.b,PE.b,PE.b,PE.b]))))))))∧(v28=false→True∧True∧(v37=true→(List.length [Lease.mk v2 v4 v1 v3]≤17592186044416∧v3<v2∧Wt v2 v9 v18∧v18≤1000000∧True)∧True∧True∧(v21=true→True∧false=true∧True)∧(v21=false→True∧(((!v11)=true→(!v11)=true)∧((!v11)=true→(!v11)=true)∧(v11=false→(!v11)=true)∧True)∧((v42=true→v42=true)∧(v42=true→v42=true)∧True)∧True∧(v44=true→True∧false=true∧True)∧(v44=false→True∧True∧(v29=true→((true=true→true=true)∧(v0=true→v0=true)∧True)∧zab v0 true false=true∧True)∧(v29=false→(v3≤v8∧v8<v6∧True)∧True∧True∧(v30=true→(ckH v14=true∧Holder.now v14<v5∧True)∧True∧True∧(v21=true→True∧false=true∧True)∧(v21=false→True∧True∧V [PE.a,PE.a,PE.b,PE.b,PE.a,PE.b,PE.b,PE.b,PE.a,PE.b]))∧(v30=false→True∧True∧(v31=true→True∧True∧V [PE.a,PE.a,PE.b,PE.b,PE.a,PE.b,PE.b,PE.b,PE.b,PE.a])∧(v31=false→True∧True∧True∧(v41=true→((true=true→true=true)∧(v0=true→v0=true)∧True)∧zab v0 true false=true∧True)∧(v41=false→True∧V [PE.a,PE.a,PE.b,PE.b,PE.a,PE.b,PE.b,PE.b,PE.b,PE.b,PE.b])))))))∧(v37=false→((v11=true→v11=true)∧(v11=true→v11=true)∧True)∧True∧(v33=true→True∧false=true∧True)∧(v33=false→True∧True∧(v29=true→((true=true→true=true)∧(v0=true→v0=true)∧True)∧zab v0 true false=true∧True)∧(v29=false→(v3≤v8∧v8<v6∧True)∧True∧True∧(v30=true→(ckH v14=true∧Holder.now v14<v5∧True)∧True∧True∧(v21=true→True∧false=true∧True)∧(v21=false→True∧True∧V [PE.a,PE.a,PE.b,PE.b,PE.b,PE.b,PE.b,PE.a,PE.b]))∧(v30=false→True∧True∧(v31=true→True∧True∧V [PE.a,PE.a,PE.b,PE.b,PE.b,PE.b,PE.b,PE.b,PE.a])∧(v31=false→True∧True∧True∧(v41=true→((true=true→true=true)∧(v0=true→v0=true)∧True)∧zab v0 true false=true∧True)∧(v41=false→True∧V [PE.a,PE.a,PE.b,PE.b,PE.b,PE.b,PE.b,PE.b,PE.b,PE.b])))))))))∧(v25=false→True∧True∧(v28=true→(ckH v10=true∧v19=1∧Sent.ask (List.getD v15 (0:Nat) default)=v1∧Holder.seq v10<v2∧v2≤v5∧True)∧(((!v21)=true→(!v21)=true)∧(v21=false→(!v21)=true)∧True)∧True∧(v26=true→True∧false=true∧True)∧(v26=false→True∧True∧True∧(v37=true→(List.length [Lease.mk v2 v4 v1 v3]≤17592186044416∧v3<v2∧Wt v2 v9 v18∧v18≤1000000∧True)∧True∧True∧(v21=true→True∧false=true∧True)∧(v21=false→True∧(((!v11)=true→(!v11)=true)∧((!v11)=true→(!v11)=true)∧(v11=false→(!v11)=true)∧True)∧((v42=true→v42=true)∧(v42=true→v42=true)∧True)∧True∧(v45=true→True∧false=true∧True)∧(v45=false→True∧True∧(v29=true→((true=true→true=true)∧(v0=true→v0=true)∧True)∧zab v0 true false=true∧True)∧(v29=false→(v3≤v8∧v8<v6∧True)∧True∧True∧(v30=true→(ckH v22=true∧Holder.now v22<v5∧True)∧True∧True∧(v21=true→True∧false=true∧True)∧(v21=false→True∧True∧V [PE.a,PE.b,PE.a,PE.b,PE.a,PE.b,PE.b,PE.b,PE.a,PE.b]))∧(v30=false→True∧True∧(v31=true→True∧True∧V [PE.a,PE.b,PE.a,PE.b,PE.a,PE.b,PE.b,PE.b,PE.b,PE.a])∧(v31=false→True∧True∧True∧(v41=true→((true=true→true=true)∧(v0=true→v0=true)∧True)∧zab v0 true false=true∧True)∧(v41=false→True∧V [PE.a,PE.b,PE.a,PE.b,PE.a,PE.b,PE.b,PE.b,PE.b,PE.b,PE.b])))))))∧(v37=false→((v11=true→v11=true)∧(v11=true→v11=true)∧True)∧True∧(v35=true→True∧false=true∧True)∧(v35=false→True∧True∧(v29=true→((true=true→true=true)∧(v0=true→v0=true)∧True)∧zab v0 true false=true∧True)∧(v29=false→(v3≤v8∧v8<v6∧True)∧True∧True∧(v30=true→(ckH v22=true∧Holder.now v22<v5∧True)∧True∧True∧(v21=true→True∧false=true∧True)∧(v21=false→True∧True∧V [PE.a,PE.b,PE.a,PE.b,PE.b,PE.b,PE.b,PE.a,PE.b]))∧(v30=false→True∧True∧(v31=true→True∧True∧V [PE.a,PE.b,PE.a,PE.b,PE.b,PE.b,PE.b,PE.b,PE.a])∧(v31=false→True∧True∧True∧(v41=true→((true=true→true=true)∧(v0=true→v0=true)∧True)∧zab v0 true false=true∧True)∧(v41=false→True∧V [PE.a,PE.b,PE.a,PE.b,PE.b,PE.b,PE.b,PE.b,PE.b,PE.b]))))))))∧(v28=false→True∧True∧(v37=true→(List.length [Lease.mk v2 v4 v1 v3]≤17592186044416∧v3<v2∧Wt v2 v9 v18∧v18≤1000000∧True)∧True∧True∧(v21=true→True∧false=true∧True)∧(v21=false→True∧(((!v11)=true→(!v11)=true)∧((!v11)=true→(!v11)=true)∧(v11=false→(!v11)=true)∧True)∧((v42=true→v42=true)∧(v42=true→v42=true)∧True)∧True∧(v43=true→True∧false=true∧True)∧(v43=false→True∧True∧(v29=true→((true=true→true=true)∧(v0=true→v0=true)∧True)∧zab v0 true false=true∧True)∧(v29=false→(v3≤v8∧v8<v6∧True)∧True∧True∧(v30=true→(ckH v10=true∧Holder.now v10<v5∧True)∧True∧True∧(v21=true→True∧false=true∧True)∧(v21=false→True∧True∧V [PE.a,PE.b,PE.b,PE.a,PE.b,PE.b,PE.b,PE.a,PE.b]))∧(v30=false→True∧True∧(v31=true→True∧True∧V [PE.a,PE.b,PE.b,PE.a,PE.b,PE.b,PE.b,PE.b,PE.a])∧(v31=false→True∧True∧True∧(v41=true→((true=true→true=true)∧(v0=true→v0=true)∧True)∧zab v0 true false=true∧True)∧(v41=false→True∧V [PE.a,PE.b,PE.b,PE.a,PE.b,PE.b,PE.b,PE.b,PE.b,PE.b])))))))∧(v37=false→((v11=true→v11=true)∧(v11=true→v11=true)∧True)∧True∧(v32=true→True∧false=true∧True)∧(v32=false→True∧True∧(v29=true→((true=true→true=true)∧(v0=true→v0=true)∧True)∧zab v0 true false=true∧True)∧(v29=false→(v3≤v8∧v8<v6∧True)∧True∧True∧(v30=true→(ckH v10=true∧Holder.now v10<v5∧True)∧True∧True∧(v21=true→True∧false=true∧True)∧(v21=false→True∧True∧V [PE.a,PE.b,PE.b,PE.b,PE.b,PE.b,PE.a,PE.b]))∧(v30=false→True∧True∧(v31=true→True∧True∧V [PE.a,PE.b,PE.b,PE.b,PE.b,PE.b,PE.b,PE.a])∧(v31=false→True∧True∧True∧(v41=true→((true=true→true=true)∧(v0=true→v0=true)∧True)∧zab v0 true false=true∧True)∧(v41=false→True∧V [PE.a,PE.b,PE.b,PE.b,PE.b,PE.b,PE.b,PE.b,PE.b])))))))))∧(v39=false→((true=true→true=true)∧(v0=true→v0=true)∧True)∧zab v0 true false=true∧True)) (by intro y;kernel_rfl) ?_
 ·intro v0 v1
  exact ⟨rfl,rfl,rfl,rfl,rfl,rfl,rfl,rfl,rfl,rfl,rfl,rfl,rfl,rfl,rfl,trivial⟩
 rintro ⟨j,w,ov⟩ hI
 have hj:j≤l.length:=hI.le
 have n2:=zcg (l:=l) (v:=2) j
 have n11:=zcg (l:=l) (v:=11) j
 intro v0 v1 v2 v3 v4 v5 v6 v7 v8 v9 v10 v11 v12 v13 v14 v15 v16 v17 v18 v19 v20 v21 v22 v23 v24 v25 v26 v27 v28 v29 v30 v31 v32 v33 v34 v35 v36 v37 v38 v39 v40 v41 v42 v43 v44 v45 v46
 refine ⟨trivial,trivial,fun h39=>⟨trivial,trivial,fun hA=>?_,fun hA=>?_⟩,fun h39=>⟨⟨id,id,trivial⟩,rfl,trivial⟩⟩
 ·have eA:j=A:=by
   have:(j:Int)=(A:Int):=eq_of_beq hA
   omega
  subst eA
  have eM:=zjG (l:=l) hAT
  have cks:=zfO (a:=0) (n:=zaa l 11 j) (Int.le_refl _) n11.1 (by omega)
  have ckm:=(zfO (a:=zaa l 11 j) (n:=zaa l 11 j) n11.1 (Int.le_refl _) (by omega)).2.1
  have e9:hAt l j T j=⟨11,zaa l 11 j,0,[],0,0⟩:=by unfold hAt;rw [if_pos (Nat.le_refl j)]
  refine ⟨⟨by show ckH (hAt l j T j)=true;rw [e9];exact cks.1,by show (hAt l j T j).ask<1000000000;rw [e9];exact (by decide:(0:Int)<1000000000),by show (hAt l j T j).sent.length≤15;rw [e9];exact (by decide:(0:Nat)≤15),trivial⟩,⟨id,fun _=>rfl,trivial⟩,trivial,fun h40=>?_,fun _=>⟨trivial,trivial,trivial,fun hT=>?_,fun hT=>?_⟩⟩
  ·have h40:zab ((0:Int) != 0) true ((hAt l j T j).ask+1 != 1)=true:=h40
   rw [e9] at h40
   have h41:zab ((0:Int) != 0) true ((0:Int)+1 != 1)=true:=h40
   exact absurd h41 (by decide)
  ·have hT2:j=T:=by
    have:(j:Int)=(T:Int):=eq_of_beq hT
    omega
   have eH:za2 (askL (hAt l j T j)) 7=hB l j T j:=zkS hT2
   refine ⟨⟨by show ckH (askL (hAt l j T j))=true;rw [eM];exact ckm,by show (askL (hAt l j T j)).sent.length=1;rw [eM];rfl,by show ((askL (hAt l j T j)).sent.getD 0 default).ask=1;rw [eM];rfl,by show (askL (hAt l j T j)).seq<7;rw [eM];exact (by decide:(0:Int)<7),by decide,trivial⟩,⟨id,fun _=>rfl,trivial⟩,trivial,fun h=>absurd h (by decide),fun _=>⟨trivial,trivial,trivial,?_⟩⟩
   clear hT
   have hck:ckH (za2 (askL (hAt l j T j)) 7)=true:=by rw [eH];exact zfn (by omega) (by omega)
   have hnw:(za2 (askL (hAt l j T j)) 7).now<1000000000:=by rw [eH];show zaa l 11 j<_;omega
   have hgd:∀ (o:Bool) (x:List Wait),OvI l j W (j,x,o)→zab o (zaR (za2 (askL (hAt l j T j)) 7)) false=true→False:=fun o x h e=>by
    cases ho:o with
    | false=>rw [ho] at e;cases e
    | true=>
     rw [eH,h.good (by omega) hst ho,ho] at e
     cases e
   have eT:j<l.length→el l j=11→tkH (za2 (askL (hAt l j T j)) 7)=hAt l j T (j+1):=fun h e=>by rw [eH];exact (zcd h).1 e
   have eN:j<l.length→el l j≠11→za2 (askL (hAt l j T j)) 7=hAt l j T (j+1):=fun h e=>by rw [eH];exact (zcd h).2 e
   refine ⟨fun h37=>?_,fun h37=>?_⟩
   ·have hW:j≤j:=by
     have:(j:Int)≥(W:Int):=of_decide_eq_true h37
     omega
    have Iw:=hI.watch hW
    refine ⟨⟨by decide,by decide,hI.wt,by show zaa l 2 j≤_;omega,trivial⟩,trivial,trivial,fun h=>absurd h (by decide),fun _=>⟨trivial,⟨id,id,fun h=>by rw [h];rfl,trivial⟩,⟨id,id,trivial⟩,trivial,fun h=>(hgd _ _ Iw h).elim,fun _=>⟨trivial,trivial,?_⟩⟩⟩
    refine ⟨fun h29=>⟨⟨id,id,trivial⟩,rfl,trivial⟩,fun h29=>?_⟩
    have hj':j<l.length:=by
     have:((j:Int)==(l.length:Int))=false:=h29
     have:(j:Int)≠(l.length:Int):=by simpa using this
     omega
    have ew:IntKind.i64.wrap ((j:Int)+1)=((j+1:Nat):Int):=zby (by omega)
    have ecc:=zau hj' 2
    refine ⟨⟨Int.natCast_nonneg _,by show (j:Int)<(l.length:Int);omega,trivial⟩,trivial,trivial,fun h11=>⟨⟨hck,hnw,trivial⟩,trivial,trivial,fun h=>absurd h (by decide),fun _=>⟨trivial,trivial,?_⟩⟩,fun h11=>⟨trivial,trivial,fun h2=>⟨trivial,trivial,?_⟩,fun h2=>⟨trivial,trivial,trivial,fun h41=>⟨⟨id,id,trivial⟩,rfl,trivial⟩,fun h41=>⟨trivial,?_⟩⟩⟩⟩
    ·have e11:el l j=11:=eq_of_beq h11
     have eE:=eT hj' e11
     have ec:zaa l 2 j=zaa l 2 (j+1):=by rw [ecc,if_neg (by omega)];omega
     refine Back.mk (j+1,watW 7 w (zaa l 2 j),zab ov true (decide (((watD 7 w (zaa l 2 j)).length:Int)>0))) (Iw.next hj' ⟨by omega,by omega⟩) (by show l.length+1-(j+1)<l.length+1-j;omega) (p0:=let v0:=(↑j:Int);let v1:=zaa l (2:Int) j;let v2:=tkH (za2 (askL (hAt l j T j)) (7:Int));let v3:=j+(1:Nat);let v4:=watW (7:Int) w v1;let v5:=hAt l j T v3;let v6:=(↑(List.length (watD (7:Int) w v1)):Int);let v7:=zab ov true (decide (v6>0));IntKind.wrap IntKind.i64 (v0+(1:Int))=(↑v3:Int)∧v7=v7∧v1=zaa l (2:Int) v3∧v4=v4∧false=false∧l=l∧v0=v0∧(↑T:Int)=(↑T:Int)∧(↑W:Int)=(↑W:Int)∧Holder.node v2=Holder.node v5∧Holder.now v2=Holder.now v5∧Holder.ask v2=Holder.ask v5∧Holder.sent v2=Holder.sent v5∧Holder.seq v2=Holder.seq v5∧Holder.at_ v2=Holder.at_ v5∧True) (by kernel_rfl) ?_
     intros
     repeat' apply And.intro
     all_goals first | exact trivial | exact ew | exact ec | exact congrArg Holder.node eE | exact congrArg Holder.now eE | exact congrArg Holder.ask eE | exact congrArg Holder.sent eE | exact congrArg Holder.seq eE | exact congrArg Holder.at_ eE | rfl
    ·have e11:el l j≠11:=fun e=>by
      have h11:(el l j==11)=false:=h11
      rw [e] at h11;cases h11
     have e2:el l j=2:=eq_of_beq h2
     have eE:=eN hj' e11
     have ec:IntKind.i64.wrap (zaa l 2 j+1)=zaa l 2 (j+1):=by rw [ecc,if_pos e2];exact zbt ⟨by omega,by omega⟩
     refine Back.mk (j+1,watW 7 w (zaa l 2 j),zab ov true (decide (((watD 7 w (zaa l 2 j)).length:Int)>0))) (Iw.next hj' ⟨by omega,by omega⟩) (by show l.length+1-(j+1)<l.length+1-j;omega) (p0:=let v0:=(↑j:Int);let v1:=zaa l (2:Int) j;let v2:=za2 (askL (hAt l j T j)) (7:Int);let v3:=j+(1:Nat);let v4:=watW (7:Int) w v1;let v5:=hAt l j T v3;let v6:=(↑(List.length (watD (7:Int) w v1)):Int);let v7:=zab ov true (decide (v6>0));IntKind.wrap IntKind.i64 (v0+(1:Int))=(↑v3:Int)∧v7=v7∧IntKind.wrap IntKind.i64 (v1+(1:Int))=zaa l (2:Int) v3∧v4=v4∧false=false∧l=l∧v0=v0∧(↑T:Int)=(↑T:Int)∧(↑W:Int)=(↑W:Int)∧Holder.node v2=Holder.node v5∧Holder.now v2=Holder.now v5∧Holder.ask v2=Holder.ask v5∧Holder.sent v2=Holder.sent v5∧Holder.seq v2=Holder.seq v5∧Holder.at_ v2=Holder.at_ v5∧True) (by kernel_rfl) ?_
     intros
     repeat' apply And.intro
     all_goals first | exact trivial | exact ew | exact ec | exact congrArg Holder.node eE | exact congrArg Holder.now eE | exact congrArg Holder.ask eE | exact congrArg Holder.sent eE | exact congrArg Holder.seq eE | exact congrArg Holder.at_ eE | rfl
    ·have e11:el l j≠11:=fun e=>by
      have h11:(el l j==11)=false:=h11
      rw [e] at h11;cases h11
     have e2:el l j≠2:=fun e=>by
      have h2:(el l j==2)=false:=h2
      rw [e] at h2;cases h2
     have e41:el l j ≠ -2∧el l j ≠ -11:=by
      have h41:zab (el l j == -2) (el l j == -2) (el l j == -11)=false:=h41
      refine ⟨fun e=>?_,fun e=>?_⟩<;>(rw [e] at h41;revert h41;decide)
     have eE:=eN hj' e11
     have ec:zaa l 2 j=zaa l 2 (j+1):=by rw [ecc,if_neg (by omega)];omega
     refine Back.mk (j+1,watW 7 w (zaa l 2 j),zab ov true (decide (((watD 7 w (zaa l 2 j)).length:Int)>0))) (Iw.next hj' e41) (by show l.length+1-(j+1)<l.length+1-j;omega) (p0:=let v0:=(↑j:Int);let v1:=zaa l (2:Int) j;let v2:=za2 (askL (hAt l j T j)) (7:Int);let v3:=j+(1:Nat);let v4:=watW (7:Int) w v1;let v5:=hAt l j T v3;let v6:=(↑(List.length (watD (7:Int) w v1)):Int);let v7:=zab ov true (decide (v6>0));IntKind.wrap IntKind.i64 (v0+(1:Int))=(↑v3:Int)∧v7=v7∧v1=zaa l (2:Int) v3∧v4=v4∧false=false∧l=l∧v0=v0∧(↑T:Int)=(↑T:Int)∧(↑W:Int)=(↑W:Int)∧Holder.node v2=Holder.node v5∧Holder.now v2=Holder.now v5∧Holder.ask v2=Holder.ask v5∧Holder.sent v2=Holder.sent v5∧Holder.seq v2=Holder.seq v5∧Holder.at_ v2=Holder.at_ v5∧True) (by kernel_rfl) ?_
     intros
     repeat' apply And.intro
     all_goals first | exact trivial | exact ew | exact ec | exact congrArg Holder.node eE | exact congrArg Holder.now eE | exact congrArg Holder.ask eE | exact congrArg Holder.sent eE | exact congrArg Holder.seq eE | exact congrArg Holder.at_ eE | rfl
   ·have In:=hI
    refine ⟨⟨id,id,trivial⟩,trivial,fun h=>(hgd _ _ In h).elim,fun _=>⟨trivial,trivial,?_⟩⟩
    refine ⟨fun h29=>⟨⟨id,id,trivial⟩,rfl,trivial⟩,fun h29=>?_⟩
    have hj':j<l.length:=by
     have:((j:Int)==(l.length:Int))=false:=h29
     have:(j:Int)≠(l.length:Int):=by simpa using this
     omega
    have ew:IntKind.i64.wrap ((j:Int)+1)=((j+1:Nat):Int):=zby (by omega)
    have ecc:=zau hj' 2
    refine ⟨⟨Int.natCast_nonneg _,by show (j:Int)<(l.length:Int);omega,trivial⟩,trivial,trivial,fun h11=>⟨⟨hck,hnw,trivial⟩,trivial,trivial,fun h=>absurd h (by decide),fun _=>⟨trivial,trivial,?_⟩⟩,fun h11=>⟨trivial,trivial,fun h2=>⟨trivial,trivial,?_⟩,fun h2=>⟨trivial,trivial,trivial,fun h41=>⟨⟨id,id,trivial⟩,rfl,trivial⟩,fun h41=>⟨trivial,?_⟩⟩⟩⟩
    ·have e11:el l j=11:=eq_of_beq h11
     have eE:=eT hj' e11
     have ec:zaa l 2 j=zaa l 2 (j+1):=by rw [ecc,if_neg (by omega)];omega
     refine Back.mk (j+1,w,ov) (In.next hj' ⟨by omega,by omega⟩) (by show l.length+1-(j+1)<l.length+1-j;omega) (p0:=let v0:=(↑j:Int);let v1:=tkH (za2 (askL (hAt l j T j)) (7:Int));let v2:=j+(1:Nat);let v3:=hAt l j T v2;IntKind.wrap IntKind.i64 (v0+(1:Int))=(↑v2:Int)∧ov=ov∧zaa l (2:Int) j=zaa l (2:Int) v2∧w=w∧false=false∧l=l∧v0=v0∧(↑T:Int)=(↑T:Int)∧(↑W:Int)=(↑W:Int)∧Holder.node v1=Holder.node v3∧Holder.now v1=Holder.now v3∧Holder.ask v1=Holder.ask v3∧Holder.sent v1=Holder.sent v3∧Holder.seq v1=Holder.seq v3∧Holder.at_ v1=Holder.at_ v3∧True) (by kernel_rfl) ?_
     intros
     repeat' apply And.intro
     all_goals first | exact trivial | exact ew | exact ec | exact congrArg Holder.node eE | exact congrArg Holder.now eE | exact congrArg Holder.ask eE | exact congrArg Holder.sent eE | exact congrArg Holder.seq eE | exact congrArg Holder.at_ eE | rfl
    ·have e11:el l j≠11:=fun e=>by
      have h11:(el l j==11)=false:=h11
      rw [e] at h11;cases h11
     have e2:el l j=2:=eq_of_beq h2
     have eE:=eN hj' e11
     have ec:IntKind.i64.wrap (zaa l 2 j+1)=zaa l 2 (j+1):=by rw [ecc,if_pos e2];exact zbt ⟨by omega,by omega⟩
     refine Back.mk (j+1,w,ov) (In.next hj' ⟨by omega,by omega⟩) (by show l.length+1-(j+1)<l.length+1-j;omega) (p0:=let v0:=(↑j:Int);let v1:=za2 (askL (hAt l j T j)) (7:Int);let v2:=j+(1:Nat);let v3:=hAt l j T v2;IntKind.wrap IntKind.i64 (v0+(1:Int))=(↑v2:Int)∧ov=ov∧IntKind.wrap IntKind.i64 (zaa l (2:Int) j+(1:Int))=zaa l (2:Int) v2∧w=w∧false=false∧l=l∧v0=v0∧(↑T:Int)=(↑T:Int)∧(↑W:Int)=(↑W:Int)∧Holder.node v1=Holder.node v3∧Holder.now v1=Holder.now v3∧Holder.ask v1=Holder.ask v3∧Holder.sent v1=Holder.sent v3∧Holder.seq v1=Holder.seq v3∧Holder.at_ v1=Holder.at_ v3∧True) (by kernel_rfl) ?_
     intros
     repeat' apply And.intro
     all_goals first | exact trivial | exact ew | exact ec | exact congrArg Holder.node eE | exact congrArg Holder.now eE | exact congrArg Holder.ask eE | exact congrArg Holder.sent eE | exact congrArg Holder.seq eE | exact congrArg Holder.at_ eE | rfl
    ·have e11:el l j≠11:=fun e=>by
      have h11:(el l j==11)=false:=h11
      rw [e] at h11;cases h11
     have e2:el l j≠2:=fun e=>by
      have h2:(el l j==2)=false:=h2
      rw [e] at h2;cases h2
     have e41:el l j ≠ -2∧el l j ≠ -11:=by
      have h41:zab (el l j == -2) (el l j == -2) (el l j == -11)=false:=h41
      refine ⟨fun e=>?_,fun e=>?_⟩<;>(rw [e] at h41;revert h41;decide)
     have eE:=eN hj' e11
     have ec:zaa l 2 j=zaa l 2 (j+1):=by rw [ecc,if_neg (by omega)];omega
     refine Back.mk (j+1,w,ov) (In.next hj' e41) (by show l.length+1-(j+1)<l.length+1-j;omega) (p0:=let v0:=(↑j:Int);let v1:=za2 (askL (hAt l j T j)) (7:Int);let v2:=j+(1:Nat);let v3:=hAt l j T v2;IntKind.wrap IntKind.i64 (v0+(1:Int))=(↑v2:Int)∧ov=ov∧zaa l (2:Int) j=zaa l (2:Int) v2∧w=w∧false=false∧l=l∧v0=v0∧(↑T:Int)=(↑T:Int)∧(↑W:Int)=(↑W:Int)∧Holder.node v1=Holder.node v3∧Holder.now v1=Holder.now v3∧Holder.ask v1=Holder.ask v3∧Holder.sent v1=Holder.sent v3∧Holder.seq v1=Holder.seq v3∧Holder.at_ v1=Holder.at_ v3∧True) (by kernel_rfl) ?_
     intros
     repeat' apply And.intro
     all_goals first | exact trivial | exact ew | exact ec | exact congrArg Holder.node eE | exact congrArg Holder.now eE | exact congrArg Holder.ask eE | exact congrArg Holder.sent eE | exact congrArg Holder.seq eE | exact congrArg Holder.at_ eE | rfl
  ·have hT2:j≠T:=fun e=>by
    have h:((j:Int)==(T:Int))=false:=hT
    rw [e] at h;simp at h
   have eH:askL (hAt l j T j)=hB l j T j:=zkT hAT hT2
   clear hT
   refine ⟨trivial,trivial,?_⟩
   have hck:ckH (askL (hAt l j T j))=true:=by rw [eH];exact zfn (by omega) (by omega)
   have hnw:(askL (hAt l j T j)).now<1000000000:=by rw [eH];show zaa l 11 j<_;omega
   have hgd:∀ (o:Bool) (x:List Wait),OvI l j W (j,x,o)→zab o (zaR (askL (hAt l j T j))) false=true→False:=fun o x h e=>by
    cases ho:o with
    | false=>rw [ho] at e;cases e
    | true=>
     rw [eH,h.good (by omega) hst ho,ho] at e
     cases e
   have eT:j<l.length→el l j=11→tkH (askL (hAt l j T j))=hAt l j T (j+1):=fun h e=>by rw [eH];exact (zcd h).1 e
   have eN:j<l.length→el l j≠11→askL (hAt l j T j)=hAt l j T (j+1):=fun h e=>by rw [eH];exact (zcd h).2 e
   refine ⟨fun h37=>?_,fun h37=>?_⟩
   ·have hW:j≤j:=by
     have:(j:Int)≥(W:Int):=of_decide_eq_true h37
     omega
    have Iw:=hI.watch hW
    refine ⟨⟨by decide,by decide,hI.wt,by show zaa l 2 j≤_;omega,trivial⟩,trivial,trivial,fun h=>absurd h (by decide),fun _=>⟨trivial,⟨id,id,fun h=>by rw [h];rfl,trivial⟩,⟨id,id,trivial⟩,trivial,fun h=>(hgd _ _ Iw h).elim,fun _=>⟨trivial,trivial,?_⟩⟩⟩
    refine ⟨fun h29=>⟨⟨id,id,trivial⟩,rfl,trivial⟩,fun h29=>?_⟩
    have hj':j<l.length:=by
     have:((j:Int)==(l.length:Int))=false:=h29
     have:(j:Int)≠(l.length:Int):=by simpa using this
     omega
    have ew:IntKind.i64.wrap ((j:Int)+1)=((j+1:Nat):Int):=zby (by omega)
    have ecc:=zau hj' 2
    refine ⟨⟨Int.natCast_nonneg _,by show (j:Int)<(l.length:Int);omega,trivial⟩,trivial,trivial,fun h11=>⟨⟨hck,hnw,trivial⟩,trivial,trivial,fun h=>absurd h (by decide),fun _=>⟨trivial,trivial,?_⟩⟩,fun h11=>⟨trivial,trivial,fun h2=>⟨trivial,trivial,?_⟩,fun h2=>⟨trivial,trivial,trivial,fun h41=>⟨⟨id,id,trivial⟩,rfl,trivial⟩,fun h41=>⟨trivial,?_⟩⟩⟩⟩
    ·have e11:el l j=11:=eq_of_beq h11
     have eE:=eT hj' e11
     have ec:zaa l 2 j=zaa l 2 (j+1):=by rw [ecc,if_neg (by omega)];omega
     refine Back.mk (j+1,watW 7 w (zaa l 2 j),zab ov true (decide (((watD 7 w (zaa l 2 j)).length:Int)>0))) (Iw.next hj' ⟨by omega,by omega⟩) (by show l.length+1-(j+1)<l.length+1-j;omega) (p0:=let v0:=(↑j:Int);let v1:=tkH (askL (hAt l j T j));let v2:=zaa l (2:Int) j;let v3:=j+(1:Nat);let v4:=watW (7:Int) w v2;let v5:=hAt l j T v3;let v6:=(↑(List.length (watD (7:Int) w v2)):Int);let v7:=zab ov true (decide (v6>0));IntKind.wrap IntKind.i64 (v0+(1:Int))=(↑v3:Int)∧v7=v7∧v2=zaa l (2:Int) v3∧v4=v4∧false=false∧l=l∧v0=v0∧(↑T:Int)=(↑T:Int)∧(↑W:Int)=(↑W:Int)∧Holder.node v1=Holder.node v5∧Holder.now v1=Holder.now v5∧Holder.ask v1=Holder.ask v5∧Holder.sent v1=Holder.sent v5∧Holder.seq v1=Holder.seq v5∧Holder.at_ v1=Holder.at_ v5∧True) (by kernel_rfl) ?_
     intros
     repeat' apply And.intro
     all_goals first | exact trivial | exact ew | exact ec | exact congrArg Holder.node eE | exact congrArg Holder.now eE | exact congrArg Holder.ask eE | exact congrArg Holder.sent eE | exact congrArg Holder.seq eE | exact congrArg Holder.at_ eE | rfl
    ·have e11:el l j≠11:=fun e=>by
      have h11:(el l j==11)=false:=h11
      rw [e] at h11;cases h11
     have e2:el l j=2:=eq_of_beq h2
     have eE:=eN hj' e11
     have ec:IntKind.i64.wrap (zaa l 2 j+1)=zaa l 2 (j+1):=by rw [ecc,if_pos e2];exact zbt ⟨by omega,by omega⟩
     refine Back.mk (j+1,watW 7 w (zaa l 2 j),zab ov true (decide (((watD 7 w (zaa l 2 j)).length:Int)>0))) (Iw.next hj' ⟨by omega,by omega⟩) (by show l.length+1-(j+1)<l.length+1-j;omega) (p0:=let v0:=(↑j:Int);let v1:=askL (hAt l j T j);let v2:=zaa l (2:Int) j;let v3:=j+(1:Nat);let v4:=watW (7:Int) w v2;let v5:=hAt l j T v3;let v6:=(↑(List.length (watD (7:Int) w v2)):Int);let v7:=zab ov true (decide (v6>0));IntKind.wrap IntKind.i64 (v0+(1:Int))=(↑v3:Int)∧v7=v7∧IntKind.wrap IntKind.i64 (v2+(1:Int))=zaa l (2:Int) v3∧v4=v4∧false=false∧l=l∧v0=v0∧(↑T:Int)=(↑T:Int)∧(↑W:Int)=(↑W:Int)∧Holder.node v1=Holder.node v5∧Holder.now v1=Holder.now v5∧Holder.ask v1=Holder.ask v5∧Holder.sent v1=Holder.sent v5∧Holder.seq v1=Holder.seq v5∧Holder.at_ v1=Holder.at_ v5∧True) (by kernel_rfl) ?_
     intros
     repeat' apply And.intro
     all_goals first | exact trivial | exact ew | exact ec | exact congrArg Holder.node eE | exact congrArg Holder.now eE | exact congrArg Holder.ask eE | exact congrArg Holder.sent eE | exact congrArg Holder.seq eE | exact congrArg Holder.at_ eE | rfl
    ·have e11:el l j≠11:=fun e=>by
      have h11:(el l j==11)=false:=h11
      rw [e] at h11;cases h11
     have e2:el l j≠2:=fun e=>by
      have h2:(el l j==2)=false:=h2
      rw [e] at h2;cases h2
     have e41:el l j ≠ -2∧el l j ≠ -11:=by
      have h41:zab (el l j == -2) (el l j == -2) (el l j == -11)=false:=h41
      refine ⟨fun e=>?_,fun e=>?_⟩<;>(rw [e] at h41;revert h41;decide)
     have eE:=eN hj' e11
     have ec:zaa l 2 j=zaa l 2 (j+1):=by rw [ecc,if_neg (by omega)];omega
     refine Back.mk (j+1,watW 7 w (zaa l 2 j),zab ov true (decide (((watD 7 w (zaa l 2 j)).length:Int)>0))) (Iw.next hj' e41) (by show l.length+1-(j+1)<l.length+1-j;omega) (p0:=let v0:=(↑j:Int);let v1:=askL (hAt l j T j);let v2:=zaa l (2:Int) j;let v3:=j+(1:Nat);let v4:=watW (7:Int) w v2;let v5:=hAt l j T v3;let v6:=(↑(List.length (watD (7:Int) w v2)):Int);let v7:=zab ov true (decide (v6>0));IntKind.wrap IntKind.i64 (v0+(1:Int))=(↑v3:Int)∧v7=v7∧v2=zaa l (2:Int) v3∧v4=v4∧false=false∧l=l∧v0=v0∧(↑T:Int)=(↑T:Int)∧(↑W:Int)=(↑W:Int)∧Holder.node v1=Holder.node v5∧Holder.now v1=Holder.now v5∧Holder.ask v1=Holder.ask v5∧Holder.sent v1=Holder.sent v5∧Holder.seq v1=Holder.seq v5∧Holder.at_ v1=Holder.at_ v5∧True) (by kernel_rfl) ?_
     intros
     repeat' apply And.intro
     all_goals first | exact trivial | exact ew | exact ec | exact congrArg Holder.node eE | exact congrArg Holder.now eE | exact congrArg Holder.ask eE | exact congrArg Holder.sent eE | exact congrArg Holder.seq eE | exact congrArg Holder.at_ eE | rfl
   ·have In:=hI
    refine ⟨⟨id,id,trivial⟩,trivial,fun h=>(hgd _ _ In h).elim,fun _=>⟨trivial,trivial,?_⟩⟩
    refine ⟨fun h29=>⟨⟨id,id,trivial⟩,rfl,trivial⟩,fun h29=>?_⟩
    have hj':j<l.length:=by
     have:((j:Int)==(l.length:Int))=false:=h29
     have:(j:Int)≠(l.length:Int):=by simpa using this
     omega
    have ew:IntKind.i64.wrap ((j:Int)+1)=((j+1:Nat):Int):=zby (by omega)
    have ecc:=zau hj' 2
    refine ⟨⟨Int.natCast_nonneg _,by show (j:Int)<(l.length:Int);omega,trivial⟩,trivial,trivial,fun h11=>⟨⟨hck,hnw,trivial⟩,trivial,trivial,fun h=>absurd h (by decide),fun _=>⟨trivial,trivial,?_⟩⟩,fun h11=>⟨trivial,trivial,fun h2=>⟨trivial,trivial,?_⟩,fun h2=>⟨trivial,trivial,trivial,fun h41=>⟨⟨id,id,trivial⟩,rfl,trivial⟩,fun h41=>⟨trivial,?_⟩⟩⟩⟩
    ·have e11:el l j=11:=eq_of_beq h11
     have eE:=eT hj' e11
     have ec:zaa l 2 j=zaa l 2 (j+1):=by rw [ecc,if_neg (by omega)];omega
     refine Back.mk (j+1,w,ov) (In.next hj' ⟨by omega,by omega⟩) (by show l.length+1-(j+1)<l.length+1-j;omega) (p0:=let v0:=(↑j:Int);let v1:=tkH (askL (hAt l j T j));let v2:=j+(1:Nat);let v3:=hAt l j T v2;IntKind.wrap IntKind.i64 (v0+(1:Int))=(↑v2:Int)∧ov=ov∧zaa l (2:Int) j=zaa l (2:Int) v2∧w=w∧false=false∧l=l∧v0=v0∧(↑T:Int)=(↑T:Int)∧(↑W:Int)=(↑W:Int)∧Holder.node v1=Holder.node v3∧Holder.now v1=Holder.now v3∧Holder.ask v1=Holder.ask v3∧Holder.sent v1=Holder.sent v3∧Holder.seq v1=Holder.seq v3∧Holder.at_ v1=Holder.at_ v3∧True) (by kernel_rfl) ?_
     intros
     repeat' apply And.intro
     all_goals first | exact trivial | exact ew | exact ec | exact congrArg Holder.node eE | exact congrArg Holder.now eE | exact congrArg Holder.ask eE | exact congrArg Holder.sent eE | exact congrArg Holder.seq eE | exact congrArg Holder.at_ eE | rfl
    ·have e11:el l j≠11:=fun e=>by
      have h11:(el l j==11)=false:=h11
      rw [e] at h11;cases h11
     have e2:el l j=2:=eq_of_beq h2
     have eE:=eN hj' e11
     have ec:IntKind.i64.wrap (zaa l 2 j+1)=zaa l 2 (j+1):=by rw [ecc,if_pos e2];exact zbt ⟨by omega,by omega⟩
     refine Back.mk (j+1,w,ov) (In.next hj' ⟨by omega,by omega⟩) (by show l.length+1-(j+1)<l.length+1-j;omega) (p0:=let v0:=(↑j:Int);let v1:=askL (hAt l j T j);let v2:=j+(1:Nat);let v3:=hAt l j T v2;IntKind.wrap IntKind.i64 (v0+(1:Int))=(↑v2:Int)∧ov=ov∧IntKind.wrap IntKind.i64 (zaa l (2:Int) j+(1:Int))=zaa l (2:Int) v2∧w=w∧false=false∧l=l∧v0=v0∧(↑T:Int)=(↑T:Int)∧(↑W:Int)=(↑W:Int)∧Holder.node v1=Holder.node v3∧Holder.now v1=Holder.now v3∧Holder.ask v1=Holder.ask v3∧Holder.sent v1=Holder.sent v3∧Holder.seq v1=Holder.seq v3∧Holder.at_ v1=Holder.at_ v3∧True) (by kernel_rfl) ?_
     intros
     repeat' apply And.intro
     all_goals first | exact trivial | exact ew | exact ec | exact congrArg Holder.node eE | exact congrArg Holder.now eE | exact congrArg Holder.ask eE | exact congrArg Holder.sent eE | exact congrArg Holder.seq eE | exact congrArg Holder.at_ eE | rfl
    ·have e11:el l j≠11:=fun e=>by
      have h11:(el l j==11)=false:=h11
      rw [e] at h11;cases h11
     have e2:el l j≠2:=fun e=>by
      have h2:(el l j==2)=false:=h2
      rw [e] at h2;cases h2
     have e41:el l j ≠ -2∧el l j ≠ -11:=by
      have h41:zab (el l j == -2) (el l j == -2) (el l j == -11)=false:=h41
      refine ⟨fun e=>?_,fun e=>?_⟩<;>(rw [e] at h41;revert h41;decide)
     have eE:=eN hj' e11
     have ec:zaa l 2 j=zaa l 2 (j+1):=by rw [ecc,if_neg (by omega)];omega
     refine Back.mk (j+1,w,ov) (In.next hj' e41) (by show l.length+1-(j+1)<l.length+1-j;omega) (p0:=let v0:=(↑j:Int);let v1:=askL (hAt l j T j);let v2:=j+(1:Nat);let v3:=hAt l j T v2;IntKind.wrap IntKind.i64 (v0+(1:Int))=(↑v2:Int)∧ov=ov∧zaa l (2:Int) j=zaa l (2:Int) v2∧w=w∧false=false∧l=l∧v0=v0∧(↑T:Int)=(↑T:Int)∧(↑W:Int)=(↑W:Int)∧Holder.node v1=Holder.node v3∧Holder.now v1=Holder.now v3∧Holder.ask v1=Holder.ask v3∧Holder.sent v1=Holder.sent v3∧Holder.seq v1=Holder.seq v3∧Holder.at_ v1=Holder.at_ v3∧True) (by kernel_rfl) ?_
     intros
     repeat' apply And.intro
     all_goals first | exact trivial | exact ew | exact ec | exact congrArg Holder.node eE | exact congrArg Holder.now eE | exact congrArg Holder.ask eE | exact congrArg Holder.sent eE | exact congrArg Holder.seq eE | exact congrArg Holder.at_ eE | rfl
 ·have hA2:j≠A:=fun e=>by
   have h:((j:Int)==(A:Int))=false:=hA
   rw [e] at h;simp at h
  clear hA
  refine ⟨trivial,trivial,fun hT=>?_,fun hT=>?_⟩
  ·have hT2:j=T:=by
    have:(j:Int)=(T:Int):=eq_of_beq hT
    omega
   subst hT2
   have hlt:A<j:=by omega
   have eH:za2 (hAt l A j j) 7=hB l A j j:=zkQ hlt
   have e9:hAt l A j j=⟨11,zaa l 11 j,1,[⟨1,zaa l 11 A⟩],0,0⟩:=by unfold hAt;rw [if_neg (by omega),if_pos (Nat.le_refl j)]
   have ckm:=(zfO (a:=zaa l 11 A) (n:=zaa l 11 j) (zcg A).1 (zbP (by omega)) (by omega)).2.1
   refine ⟨⟨by show ckH (hAt l A j j)=true;rw [e9];exact ckm,by show (hAt l A j j).sent.length=1;rw [e9];rfl,by show ((hAt l A j j).sent.getD 0 default).ask=1;rw [e9];rfl,by show (hAt l A j j).seq<7;rw [e9];exact (by decide:(0:Int)<7),by decide,trivial⟩,⟨id,fun _=>rfl,trivial⟩,trivial,fun h=>absurd h (by decide),fun _=>⟨trivial,trivial,trivial,?_⟩⟩
   clear hT
   have hck:ckH (za2 (hAt l A j j) 7)=true:=by rw [eH];exact zfn (by omega) (by omega)
   have hnw:(za2 (hAt l A j j) 7).now<1000000000:=by rw [eH];show zaa l 11 j<_;omega
   have hgd:∀ (o:Bool) (x:List Wait),OvI l A W (j,x,o)→zab o (zaR (za2 (hAt l A j j) 7)) false=true→False:=fun o x h e=>by
    cases ho:o with
    | false=>rw [ho] at e;cases e
    | true=>
     rw [eH,h.good (by omega) hst ho,ho] at e
     cases e
   have eT:j<l.length→el l j=11→tkH (za2 (hAt l A j j) 7)=hAt l A j (j+1):=fun h e=>by rw [eH];exact (zcd h).1 e
   have eN:j<l.length→el l j≠11→za2 (hAt l A j j) 7=hAt l A j (j+1):=fun h e=>by rw [eH];exact (zcd h).2 e
   refine ⟨fun h37=>?_,fun h37=>?_⟩
   ·have hW:A≤j:=by
     have:(j:Int)≥(W:Int):=of_decide_eq_true h37
     omega
    have Iw:=hI.watch hW
    refine ⟨⟨by decide,by decide,hI.wt,by show zaa l 2 j≤_;omega,trivial⟩,trivial,trivial,fun h=>absurd h (by decide),fun _=>⟨trivial,⟨id,id,fun h=>by rw [h];rfl,trivial⟩,⟨id,id,trivial⟩,trivial,fun h=>(hgd _ _ Iw h).elim,fun _=>⟨trivial,trivial,?_⟩⟩⟩
    refine ⟨fun h29=>⟨⟨id,id,trivial⟩,rfl,trivial⟩,fun h29=>?_⟩
    have hj':j<l.length:=by
     have:((j:Int)==(l.length:Int))=false:=h29
     have:(j:Int)≠(l.length:Int):=by simpa using this
     omega
    have ew:IntKind.i64.wrap ((j:Int)+1)=((j+1:Nat):Int):=zby (by omega)
    have ecc:=zau hj' 2
    refine ⟨⟨Int.natCast_nonneg _,by show (j:Int)<(l.length:Int);omega,trivial⟩,trivial,trivial,fun h11=>⟨⟨hck,hnw,trivial⟩,trivial,trivial,fun h=>absurd h (by decide),fun _=>⟨trivial,trivial,?_⟩⟩,fun h11=>⟨trivial,trivial,fun h2=>⟨trivial,trivial,?_⟩,fun h2=>⟨trivial,trivial,trivial,fun h41=>⟨⟨id,id,trivial⟩,rfl,trivial⟩,fun h41=>⟨trivial,?_⟩⟩⟩⟩
    ·have e11:el l j=11:=eq_of_beq h11
     have eE:=eT hj' e11
     have ec:zaa l 2 j=zaa l 2 (j+1):=by rw [ecc,if_neg (by omega)];omega
     refine Back.mk (j+1,watW 7 w (zaa l 2 j),zab ov true (decide (((watD 7 w (zaa l 2 j)).length:Int)>0))) (Iw.next hj' ⟨by omega,by omega⟩) (by show l.length+1-(j+1)<l.length+1-j;omega) (p0:=let v0:=(↑j:Int);let v1:=zaa l (2:Int) j;let v2:=tkH (za2 (hAt l A j j) (7:Int));let v3:=j+(1:Nat);let v4:=watW (7:Int) w v1;let v5:=hAt l A j v3;let v6:=(↑(List.length (watD (7:Int) w v1)):Int);let v7:=zab ov true (decide (v6>0));IntKind.wrap IntKind.i64 (v0+(1:Int))=(↑v3:Int)∧v7=v7∧v1=zaa l (2:Int) v3∧v4=v4∧false=false∧l=l∧(↑A:Int)=(↑A:Int)∧v0=v0∧(↑W:Int)=(↑W:Int)∧Holder.node v2=Holder.node v5∧Holder.now v2=Holder.now v5∧Holder.ask v2=Holder.ask v5∧Holder.sent v2=Holder.sent v5∧Holder.seq v2=Holder.seq v5∧Holder.at_ v2=Holder.at_ v5∧True) (by kernel_rfl) ?_
     intros
     repeat' apply And.intro
     all_goals first | exact trivial | exact ew | exact ec | exact congrArg Holder.node eE | exact congrArg Holder.now eE | exact congrArg Holder.ask eE | exact congrArg Holder.sent eE | exact congrArg Holder.seq eE | exact congrArg Holder.at_ eE | rfl
    ·have e11:el l j≠11:=fun e=>by
      have h11:(el l j==11)=false:=h11
      rw [e] at h11;cases h11
     have e2:el l j=2:=eq_of_beq h2
     have eE:=eN hj' e11
     have ec:IntKind.i64.wrap (zaa l 2 j+1)=zaa l 2 (j+1):=by rw [ecc,if_pos e2];exact zbt ⟨by omega,by omega⟩
     refine Back.mk (j+1,watW 7 w (zaa l 2 j),zab ov true (decide (((watD 7 w (zaa l 2 j)).length:Int)>0))) (Iw.next hj' ⟨by omega,by omega⟩) (by show l.length+1-(j+1)<l.length+1-j;omega) (p0:=let v0:=(↑j:Int);let v1:=zaa l (2:Int) j;let v2:=za2 (hAt l A j j) (7:Int);let v3:=j+(1:Nat);let v4:=watW (7:Int) w v1;let v5:=hAt l A j v3;let v6:=(↑(List.length (watD (7:Int) w v1)):Int);let v7:=zab ov true (decide (v6>0));IntKind.wrap IntKind.i64 (v0+(1:Int))=(↑v3:Int)∧v7=v7∧IntKind.wrap IntKind.i64 (v1+(1:Int))=zaa l (2:Int) v3∧v4=v4∧false=false∧l=l∧(↑A:Int)=(↑A:Int)∧v0=v0∧(↑W:Int)=(↑W:Int)∧Holder.node v2=Holder.node v5∧Holder.now v2=Holder.now v5∧Holder.ask v2=Holder.ask v5∧Holder.sent v2=Holder.sent v5∧Holder.seq v2=Holder.seq v5∧Holder.at_ v2=Holder.at_ v5∧True) (by kernel_rfl) ?_
     intros
     repeat' apply And.intro
     all_goals first | exact trivial | exact ew | exact ec | exact congrArg Holder.node eE | exact congrArg Holder.now eE | exact congrArg Holder.ask eE | exact congrArg Holder.sent eE | exact congrArg Holder.seq eE | exact congrArg Holder.at_ eE | rfl
    ·have e11:el l j≠11:=fun e=>by
      have h11:(el l j==11)=false:=h11
      rw [e] at h11;cases h11
     have e2:el l j≠2:=fun e=>by
      have h2:(el l j==2)=false:=h2
      rw [e] at h2;cases h2
     have e41:el l j ≠ -2∧el l j ≠ -11:=by
      have h41:zab (el l j == -2) (el l j == -2) (el l j == -11)=false:=h41
      refine ⟨fun e=>?_,fun e=>?_⟩<;>(rw [e] at h41;revert h41;decide)
     have eE:=eN hj' e11
     have ec:zaa l 2 j=zaa l 2 (j+1):=by rw [ecc,if_neg (by omega)];omega
     refine Back.mk (j+1,watW 7 w (zaa l 2 j),zab ov true (decide (((watD 7 w (zaa l 2 j)).length:Int)>0))) (Iw.next hj' e41) (by show l.length+1-(j+1)<l.length+1-j;omega) (p0:=let v0:=(↑j:Int);let v1:=zaa l (2:Int) j;let v2:=za2 (hAt l A j j) (7:Int);let v3:=j+(1:Nat);let v4:=watW (7:Int) w v1;let v5:=hAt l A j v3;let v6:=(↑(List.length (watD (7:Int) w v1)):Int);let v7:=zab ov true (decide (v6>0));IntKind.wrap IntKind.i64 (v0+(1:Int))=(↑v3:Int)∧v7=v7∧v1=zaa l (2:Int) v3∧v4=v4∧false=false∧l=l∧(↑A:Int)=(↑A:Int)∧v0=v0∧(↑W:Int)=(↑W:Int)∧Holder.node v2=Holder.node v5∧Holder.now v2=Holder.now v5∧Holder.ask v2=Holder.ask v5∧Holder.sent v2=Holder.sent v5∧Holder.seq v2=Holder.seq v5∧Holder.at_ v2=Holder.at_ v5∧True) (by kernel_rfl) ?_
     intros
     repeat' apply And.intro
     all_goals first | exact trivial | exact ew | exact ec | exact congrArg Holder.node eE | exact congrArg Holder.now eE | exact congrArg Holder.ask eE | exact congrArg Holder.sent eE | exact congrArg Holder.seq eE | exact congrArg Holder.at_ eE | rfl
   ·have In:=hI
    refine ⟨⟨id,id,trivial⟩,trivial,fun h=>(hgd _ _ In h).elim,fun _=>⟨trivial,trivial,?_⟩⟩
    refine ⟨fun h29=>⟨⟨id,id,trivial⟩,rfl,trivial⟩,fun h29=>?_⟩
    have hj':j<l.length:=by
     have:((j:Int)==(l.length:Int))=false:=h29
     have:(j:Int)≠(l.length:Int):=by simpa using this
     omega
    have ew:IntKind.i64.wrap ((j:Int)+1)=((j+1:Nat):Int):=zby (by omega)
    have ecc:=zau hj' 2
    refine ⟨⟨Int.natCast_nonneg _,by show (j:Int)<(l.length:Int);omega,trivial⟩,trivial,trivial,fun h11=>⟨⟨hck,hnw,trivial⟩,trivial,trivial,fun h=>absurd h (by decide),fun _=>⟨trivial,trivial,?_⟩⟩,fun h11=>⟨trivial,trivial,fun h2=>⟨trivial,trivial,?_⟩,fun h2=>⟨trivial,trivial,trivial,fun h41=>⟨⟨id,id,trivial⟩,rfl,trivial⟩,fun h41=>⟨trivial,?_⟩⟩⟩⟩
    ·have e11:el l j=11:=eq_of_beq h11
     have eE:=eT hj' e11
     have ec:zaa l 2 j=zaa l 2 (j+1):=by rw [ecc,if_neg (by omega)];omega
     refine Back.mk (j+1,w,ov) (In.next hj' ⟨by omega,by omega⟩) (by show l.length+1-(j+1)<l.length+1-j;omega) (p0:=let v0:=(↑j:Int);let v1:=tkH (za2 (hAt l A j j) (7:Int));let v2:=j+(1:Nat);let v3:=hAt l A j v2;IntKind.wrap IntKind.i64 (v0+(1:Int))=(↑v2:Int)∧ov=ov∧zaa l (2:Int) j=zaa l (2:Int) v2∧w=w∧false=false∧l=l∧(↑A:Int)=(↑A:Int)∧v0=v0∧(↑W:Int)=(↑W:Int)∧Holder.node v1=Holder.node v3∧Holder.now v1=Holder.now v3∧Holder.ask v1=Holder.ask v3∧Holder.sent v1=Holder.sent v3∧Holder.seq v1=Holder.seq v3∧Holder.at_ v1=Holder.at_ v3∧True) (by kernel_rfl) ?_
     intros
     repeat' apply And.intro
     all_goals first | exact trivial | exact ew | exact ec | exact congrArg Holder.node eE | exact congrArg Holder.now eE | exact congrArg Holder.ask eE | exact congrArg Holder.sent eE | exact congrArg Holder.seq eE | exact congrArg Holder.at_ eE | rfl
    ·have e11:el l j≠11:=fun e=>by
      have h11:(el l j==11)=false:=h11
      rw [e] at h11;cases h11
     have e2:el l j=2:=eq_of_beq h2
     have eE:=eN hj' e11
     have ec:IntKind.i64.wrap (zaa l 2 j+1)=zaa l 2 (j+1):=by rw [ecc,if_pos e2];exact zbt ⟨by omega,by omega⟩
     refine Back.mk (j+1,w,ov) (In.next hj' ⟨by omega,by omega⟩) (by show l.length+1-(j+1)<l.length+1-j;omega) (p0:=let v0:=(↑j:Int);let v1:=za2 (hAt l A j j) (7:Int);let v2:=j+(1:Nat);let v3:=hAt l A j v2;IntKind.wrap IntKind.i64 (v0+(1:Int))=(↑v2:Int)∧ov=ov∧IntKind.wrap IntKind.i64 (zaa l (2:Int) j+(1:Int))=zaa l (2:Int) v2∧w=w∧false=false∧l=l∧(↑A:Int)=(↑A:Int)∧v0=v0∧(↑W:Int)=(↑W:Int)∧Holder.node v1=Holder.node v3∧Holder.now v1=Holder.now v3∧Holder.ask v1=Holder.ask v3∧Holder.sent v1=Holder.sent v3∧Holder.seq v1=Holder.seq v3∧Holder.at_ v1=Holder.at_ v3∧True) (by kernel_rfl) ?_
     intros
     repeat' apply And.intro
     all_goals first | exact trivial | exact ew | exact ec | exact congrArg Holder.node eE | exact congrArg Holder.now eE | exact congrArg Holder.ask eE | exact congrArg Holder.sent eE | exact congrArg Holder.seq eE | exact congrArg Holder.at_ eE | rfl
    ·have e11:el l j≠11:=fun e=>by
      have h11:(el l j==11)=false:=h11
      rw [e] at h11;cases h11
     have e2:el l j≠2:=fun e=>by
      have h2:(el l j==2)=false:=h2
      rw [e] at h2;cases h2
     have e41:el l j ≠ -2∧el l j ≠ -11:=by
      have h41:zab (el l j == -2) (el l j == -2) (el l j == -11)=false:=h41
      refine ⟨fun e=>?_,fun e=>?_⟩<;>(rw [e] at h41;revert h41;decide)
     have eE:=eN hj' e11
     have ec:zaa l 2 j=zaa l 2 (j+1):=by rw [ecc,if_neg (by omega)];omega
     refine Back.mk (j+1,w,ov) (In.next hj' e41) (by show l.length+1-(j+1)<l.length+1-j;omega) (p0:=let v0:=(↑j:Int);let v1:=za2 (hAt l A j j) (7:Int);let v2:=j+(1:Nat);let v3:=hAt l A j v2;IntKind.wrap IntKind.i64 (v0+(1:Int))=(↑v2:Int)∧ov=ov∧zaa l (2:Int) j=zaa l (2:Int) v2∧w=w∧false=false∧l=l∧(↑A:Int)=(↑A:Int)∧v0=v0∧(↑W:Int)=(↑W:Int)∧Holder.node v1=Holder.node v3∧Holder.now v1=Holder.now v3∧Holder.ask v1=Holder.ask v3∧Holder.sent v1=Holder.sent v3∧Holder.seq v1=Holder.seq v3∧Holder.at_ v1=Holder.at_ v3∧True) (by kernel_rfl) ?_
     intros
     repeat' apply And.intro
     all_goals first | exact trivial | exact ew | exact ec | exact congrArg Holder.node eE | exact congrArg Holder.now eE | exact congrArg Holder.ask eE | exact congrArg Holder.sent eE | exact congrArg Holder.seq eE | exact congrArg Holder.at_ eE | rfl
  ·have hT2:j≠T:=fun e=>by
    have h:((j:Int)==(T:Int))=false:=hT
    rw [e] at h;simp at h
   have eH:hAt l A T j=hB l A T j:=zkR hAT hA2 hT2
   clear hT
   refine ⟨trivial,trivial,?_⟩
   have hck:ckH (hAt l A T j)=true:=by rw [eH];exact zfn (by omega) (by omega)
   have hnw:(hAt l A T j).now<1000000000:=by rw [eH];show zaa l 11 j<_;omega
   have hgd:∀ (o:Bool) (x:List Wait),OvI l A W (j,x,o)→zab o (zaR (hAt l A T j)) false=true→False:=fun o x h e=>by
    cases ho:o with
    | false=>rw [ho] at e;cases e
    | true=>
     rw [eH,h.good (by omega) hst ho,ho] at e
     cases e
   have eT:j<l.length→el l j=11→tkH (hAt l A T j)=hAt l A T (j+1):=fun h e=>by rw [eH];exact (zcd h).1 e
   have eN:j<l.length→el l j≠11→hAt l A T j=hAt l A T (j+1):=fun h e=>by rw [eH];exact (zcd h).2 e
   refine ⟨fun h37=>?_,fun h37=>?_⟩
   ·have hW:A≤j:=by
     have:(j:Int)≥(W:Int):=of_decide_eq_true h37
     omega
    have Iw:=hI.watch hW
    refine ⟨⟨by decide,by decide,hI.wt,by show zaa l 2 j≤_;omega,trivial⟩,trivial,trivial,fun h=>absurd h (by decide),fun _=>⟨trivial,⟨id,id,fun h=>by rw [h];rfl,trivial⟩,⟨id,id,trivial⟩,trivial,fun h=>(hgd _ _ Iw h).elim,fun _=>⟨trivial,trivial,?_⟩⟩⟩
    refine ⟨fun h29=>⟨⟨id,id,trivial⟩,rfl,trivial⟩,fun h29=>?_⟩
    have hj':j<l.length:=by
     have:((j:Int)==(l.length:Int))=false:=h29
     have:(j:Int)≠(l.length:Int):=by simpa using this
     omega
    have ew:IntKind.i64.wrap ((j:Int)+1)=((j+1:Nat):Int):=zby (by omega)
    have ecc:=zau hj' 2
    refine ⟨⟨Int.natCast_nonneg _,by show (j:Int)<(l.length:Int);omega,trivial⟩,trivial,trivial,fun h11=>⟨⟨hck,hnw,trivial⟩,trivial,trivial,fun h=>absurd h (by decide),fun _=>⟨trivial,trivial,?_⟩⟩,fun h11=>⟨trivial,trivial,fun h2=>⟨trivial,trivial,?_⟩,fun h2=>⟨trivial,trivial,trivial,fun h41=>⟨⟨id,id,trivial⟩,rfl,trivial⟩,fun h41=>⟨trivial,?_⟩⟩⟩⟩
    ·have e11:el l j=11:=eq_of_beq h11
     have eE:=eT hj' e11
     have ec:zaa l 2 j=zaa l 2 (j+1):=by rw [ecc,if_neg (by omega)];omega
     refine Back.mk (j+1,watW 7 w (zaa l 2 j),zab ov true (decide (((watD 7 w (zaa l 2 j)).length:Int)>0))) (Iw.next hj' ⟨by omega,by omega⟩) (by show l.length+1-(j+1)<l.length+1-j;omega) (p0:=let v0:=tkH (hAt l A T j);let v1:=zaa l (2:Int) j;let v2:=j+(1:Nat);let v3:=watW (7:Int) w v1;let v4:=hAt l A T v2;let v5:=(↑(List.length (watD (7:Int) w v1)):Int);let v6:=zab ov true (decide (v5>0));IntKind.wrap IntKind.i64 ((↑j:Int)+(1:Int))=(↑v2:Int)∧v6=v6∧v1=zaa l (2:Int) v2∧v3=v3∧false=false∧l=l∧(↑A:Int)=(↑A:Int)∧(↑T:Int)=(↑T:Int)∧(↑W:Int)=(↑W:Int)∧Holder.node v0=Holder.node v4∧Holder.now v0=Holder.now v4∧Holder.ask v0=Holder.ask v4∧Holder.sent v0=Holder.sent v4∧Holder.seq v0=Holder.seq v4∧Holder.at_ v0=Holder.at_ v4∧True) (by kernel_rfl) ?_
     intros
     repeat' apply And.intro
     all_goals first | exact trivial | exact ew | exact ec | exact congrArg Holder.node eE | exact congrArg Holder.now eE | exact congrArg Holder.ask eE | exact congrArg Holder.sent eE | exact congrArg Holder.seq eE | exact congrArg Holder.at_ eE | rfl
    ·have e11:el l j≠11:=fun e=>by
      have h11:(el l j==11)=false:=h11
      rw [e] at h11;cases h11
     have e2:el l j=2:=eq_of_beq h2
     have eE:=eN hj' e11
     have ec:IntKind.i64.wrap (zaa l 2 j+1)=zaa l 2 (j+1):=by rw [ecc,if_pos e2];exact zbt ⟨by omega,by omega⟩
     refine Back.mk (j+1,watW 7 w (zaa l 2 j),zab ov true (decide (((watD 7 w (zaa l 2 j)).length:Int)>0))) (Iw.next hj' ⟨by omega,by omega⟩) (by show l.length+1-(j+1)<l.length+1-j;omega) (p0:=let v0:=hAt l A T j;let v1:=zaa l (2:Int) j;let v2:=j+(1:Nat);let v3:=watW (7:Int) w v1;let v4:=hAt l A T v2;let v5:=(↑(List.length (watD (7:Int) w v1)):Int);let v6:=zab ov true (decide (v5>0));IntKind.wrap IntKind.i64 ((↑j:Int)+(1:Int))=(↑v2:Int)∧v6=v6∧IntKind.wrap IntKind.i64 (v1+(1:Int))=zaa l (2:Int) v2∧v3=v3∧false=false∧l=l∧(↑A:Int)=(↑A:Int)∧(↑T:Int)=(↑T:Int)∧(↑W:Int)=(↑W:Int)∧Holder.node v0=Holder.node v4∧Holder.now v0=Holder.now v4∧Holder.ask v0=Holder.ask v4∧Holder.sent v0=Holder.sent v4∧Holder.seq v0=Holder.seq v4∧Holder.at_ v0=Holder.at_ v4∧True) (by kernel_rfl) ?_
     intros
     repeat' apply And.intro
     all_goals first | exact trivial | exact ew | exact ec | exact congrArg Holder.node eE | exact congrArg Holder.now eE | exact congrArg Holder.ask eE | exact congrArg Holder.sent eE | exact congrArg Holder.seq eE | exact congrArg Holder.at_ eE | rfl
    ·have e11:el l j≠11:=fun e=>by
      have h11:(el l j==11)=false:=h11
      rw [e] at h11;cases h11
     have e2:el l j≠2:=fun e=>by
      have h2:(el l j==2)=false:=h2
      rw [e] at h2;cases h2
     have e41:el l j ≠ -2∧el l j ≠ -11:=by
      have h41:zab (el l j == -2) (el l j == -2) (el l j == -11)=false:=h41
      refine ⟨fun e=>?_,fun e=>?_⟩<;>(rw [e] at h41;revert h41;decide)
     have eE:=eN hj' e11
     have ec:zaa l 2 j=zaa l 2 (j+1):=by rw [ecc,if_neg (by omega)];omega
     refine Back.mk (j+1,watW 7 w (zaa l 2 j),zab ov true (decide (((watD 7 w (zaa l 2 j)).length:Int)>0))) (Iw.next hj' e41) (by show l.length+1-(j+1)<l.length+1-j;omega) (p0:=let v0:=hAt l A T j;let v1:=zaa l (2:Int) j;let v2:=j+(1:Nat);let v3:=watW (7:Int) w v1;let v4:=hAt l A T v2;let v5:=(↑(List.length (watD (7:Int) w v1)):Int);let v6:=zab ov true (decide (v5>0));IntKind.wrap IntKind.i64 ((↑j:Int)+(1:Int))=(↑v2:Int)∧v6=v6∧v1=zaa l (2:Int) v2∧v3=v3∧false=false∧l=l∧(↑A:Int)=(↑A:Int)∧(↑T:Int)=(↑T:Int)∧(↑W:Int)=(↑W:Int)∧Holder.node v0=Holder.node v4∧Holder.now v0=Holder.now v4∧Holder.ask v0=Holder.ask v4∧Holder.sent v0=Holder.sent v4∧Holder.seq v0=Holder.seq v4∧Holder.at_ v0=Holder.at_ v4∧True) (by kernel_rfl) ?_
     intros
     repeat' apply And.intro
     all_goals first | exact trivial | exact ew | exact ec | exact congrArg Holder.node eE | exact congrArg Holder.now eE | exact congrArg Holder.ask eE | exact congrArg Holder.sent eE | exact congrArg Holder.seq eE | exact congrArg Holder.at_ eE | rfl
   ·have In:=hI
    refine ⟨⟨id,id,trivial⟩,trivial,fun h=>(hgd _ _ In h).elim,fun _=>⟨trivial,trivial,?_⟩⟩
    refine ⟨fun h29=>⟨⟨id,id,trivial⟩,rfl,trivial⟩,fun h29=>?_⟩
    have hj':j<l.length:=by
     have:((j:Int)==(l.length:Int))=false:=h29
     have:(j:Int)≠(l.length:Int):=by simpa using this
     omega
    have ew:IntKind.i64.wrap ((j:Int)+1)=((j+1:Nat):Int):=zby (by omega)
    have ecc:=zau hj' 2
    refine ⟨⟨Int.natCast_nonneg _,by show (j:Int)<(l.length:Int);omega,trivial⟩,trivial,trivial,fun h11=>⟨⟨hck,hnw,trivial⟩,trivial,trivial,fun h=>absurd h (by decide),fun _=>⟨trivial,trivial,?_⟩⟩,fun h11=>⟨trivial,trivial,fun h2=>⟨trivial,trivial,?_⟩,fun h2=>⟨trivial,trivial,trivial,fun h41=>⟨⟨id,id,trivial⟩,rfl,trivial⟩,fun h41=>⟨trivial,?_⟩⟩⟩⟩
    ·have e11:el l j=11:=eq_of_beq h11
     have eE:=eT hj' e11
     have ec:zaa l 2 j=zaa l 2 (j+1):=by rw [ecc,if_neg (by omega)];omega
     refine Back.mk (j+1,w,ov) (In.next hj' ⟨by omega,by omega⟩) (by show l.length+1-(j+1)<l.length+1-j;omega) (p0:=let v0:=tkH (hAt l A T j);let v1:=j+(1:Nat);let v2:=hAt l A T v1;IntKind.wrap IntKind.i64 ((↑j:Int)+(1:Int))=(↑v1:Int)∧ov=ov∧zaa l (2:Int) j=zaa l (2:Int) v1∧w=w∧false=false∧l=l∧(↑A:Int)=(↑A:Int)∧(↑T:Int)=(↑T:Int)∧(↑W:Int)=(↑W:Int)∧Holder.node v0=Holder.node v2∧Holder.now v0=Holder.now v2∧Holder.ask v0=Holder.ask v2∧Holder.sent v0=Holder.sent v2∧Holder.seq v0=Holder.seq v2∧Holder.at_ v0=Holder.at_ v2∧True) (by kernel_rfl) ?_
     intros
     repeat' apply And.intro
     all_goals first | exact trivial | exact ew | exact ec | exact congrArg Holder.node eE | exact congrArg Holder.now eE | exact congrArg Holder.ask eE | exact congrArg Holder.sent eE | exact congrArg Holder.seq eE | exact congrArg Holder.at_ eE | rfl
    ·have e11:el l j≠11:=fun e=>by
      have h11:(el l j==11)=false:=h11
      rw [e] at h11;cases h11
     have e2:el l j=2:=eq_of_beq h2
     have eE:=eN hj' e11
     have ec:IntKind.i64.wrap (zaa l 2 j+1)=zaa l 2 (j+1):=by rw [ecc,if_pos e2];exact zbt ⟨by omega,by omega⟩
     refine Back.mk (j+1,w,ov) (In.next hj' ⟨by omega,by omega⟩) (by show l.length+1-(j+1)<l.length+1-j;omega) (p0:=let v0:=hAt l A T j;let v1:=j+(1:Nat);let v2:=hAt l A T v1;IntKind.wrap IntKind.i64 ((↑j:Int)+(1:Int))=(↑v1:Int)∧ov=ov∧IntKind.wrap IntKind.i64 (zaa l (2:Int) j+(1:Int))=zaa l (2:Int) v1∧w=w∧false=false∧l=l∧(↑A:Int)=(↑A:Int)∧(↑T:Int)=(↑T:Int)∧(↑W:Int)=(↑W:Int)∧Holder.node v0=Holder.node v2∧Holder.now v0=Holder.now v2∧Holder.ask v0=Holder.ask v2∧Holder.sent v0=Holder.sent v2∧Holder.seq v0=Holder.seq v2∧Holder.at_ v0=Holder.at_ v2∧True) (by kernel_rfl) ?_
     intros
     repeat' apply And.intro
     all_goals first | exact trivial | exact ew | exact ec | exact congrArg Holder.node eE | exact congrArg Holder.now eE | exact congrArg Holder.ask eE | exact congrArg Holder.sent eE | exact congrArg Holder.seq eE | exact congrArg Holder.at_ eE | rfl
    ·have e11:el l j≠11:=fun e=>by
      have h11:(el l j==11)=false:=h11
      rw [e] at h11;cases h11
     have e2:el l j≠2:=fun e=>by
      have h2:(el l j==2)=false:=h2
      rw [e] at h2;cases h2
     have e41:el l j ≠ -2∧el l j ≠ -11:=by
      have h41:zab (el l j == -2) (el l j == -2) (el l j == -11)=false:=h41
      refine ⟨fun e=>?_,fun e=>?_⟩<;>(rw [e] at h41;revert h41;decide)
     have eE:=eN hj' e11
     have ec:zaa l 2 j=zaa l 2 (j+1):=by rw [ecc,if_neg (by omega)];omega
     refine Back.mk (j+1,w,ov) (In.next hj' e41) (by show l.length+1-(j+1)<l.length+1-j;omega) (p0:=let v0:=hAt l A T j;let v1:=j+(1:Nat);let v2:=hAt l A T v1;IntKind.wrap IntKind.i64 ((↑j:Int)+(1:Int))=(↑v1:Int)∧ov=ov∧zaa l (2:Int) j=zaa l (2:Int) v1∧w=w∧false=false∧l=l∧(↑A:Int)=(↑A:Int)∧(↑T:Int)=(↑T:Int)∧(↑W:Int)=(↑W:Int)∧Holder.node v0=Holder.node v2∧Holder.now v0=Holder.now v2∧Holder.ask v0=Holder.ask v2∧Holder.sent v0=Holder.sent v2∧Holder.seq v0=Holder.seq v2∧Holder.at_ v0=Holder.at_ v2∧True) (by kernel_rfl) ?_
     intros
     repeat' apply And.intro
     all_goals first | exact trivial | exact ew | exact ec | exact congrArg Holder.node eE | exact congrArg Holder.now eE | exact congrArg Holder.ask eE | exact congrArg Holder.sent eE | exact congrArg Holder.seq eE | exact congrArg Holder.at_ eE | rfl
end Go.Proofs.Ytjfphnegcelbpaa
namespace Go.Proofs.Ytjfphnegcelbpaa
open Go.RowKit Go.ChangeShapes Go.WideShapes Go.Deep
def E0 (S:Nat→Prop):Env:=⟨fun _=>none,fun i b=>i=0∧S b,fun _ _=>False⟩
theorem mem0 {w:World} {S:Nat→Prop} (hS:∀ b,S b→b<w.heap.size):MemOk w.heap.size (cxIn (E0 S) D2 1) w (E0 S) (mOf D2) w:=by
 have hl:∀ t,(mOf D2 t).live=false:=by intro t;rw [mD2];split<;>rfl
 refine ⟨fun t ht=>⟨rfl,fun b hb=>?_⟩,fun t T vs ht=>?_,fun t T ls r ht=>?_,fun i b hb=>⟨hS b hb.2,fun h=>?_⟩,fun i j b hi hj=>hi.1.trans hj.1.symm,fun i hi he=>?_,fun t b hh=>absurd hh zfS,fun i b _ hb=>hb,fun t u b h1=>absurd h1 zfS,fun t v h=>?_,BelowX.refl _ _ _,Nat.le_refl _,fun t o ht=>by have:=hl t;rw [ht] at this;cases this⟩
 ·have:=hb.1;subst this;rw [mD2] at ht;simp at ht
 ·have:=hl t;rw [ht] at this;cases this
 ·have:=hl t;rw [ht] at this;cases this
 ·have:=hb.1;simp [cxIn] at h;omega
 ·rw [mD2] at he
  simp [cxIn] at hi;subst hi;simp at he
 ·simp only [cxIn] at h
  split at h
  ·exact h
  ·cases h
theorem zg9 {f:FuncId} {ins:List SV} (h:FnC Try.prog f ins (.bool true) D2) (w:World) (S:Nat→Prop) (hS:∀ b,S b→b<w.heap.size) (vals:List Value) (hd:DenL (E0 S) w ins vals):Calls Try.prog f vals.toArray w fun e w'=>e = .returned (.bool true)∧Below w.heap.size w w' :=
 (h.2 w (E0 S) vals (mem0 hS) hd).mono (by
  rintro e w' ⟨v,E',rfl,hv,hm⟩
  refine ⟨by rw [show v = .bool true from hv],hm.below.os,hm.below.tape,hm.below.output,hm.below.size,fun b hb=>hm.below.block b hb (fun ⟨t,ht⟩=>zfS ht)⟩)
theorem zlo {S:Nat→Prop} {b:Nat} (h:S b):(E0 S).set [0] b:=⟨0,by simp,rfl,h⟩
end Go.Proofs.Ytjfphnegcelbpaa
namespace Go.Proofs.Ytjfphnegcelbpaa
open Go.RowKit Go.ChangeShapes Go.WideShapes Go.Deep
def zgb (P:Program) (ts:List Ty) (ok:TypeId→List Ty→Bool):Nat→List Field→Bool
 | o,[]=>o==ts.length
 | o,f::fs=>f.offset==o&&ok f.type ((ts.drop o).take (P.cellsOf f.type))&&decide (o+P.cellsOf f.type≤ts.length)&&zgb P ts ok (o+P.cellsOf f.type) fs
def okTy (P:Program):Nat→TypeId→List Ty→Bool
 | 0,_,_=>false
 | n+1,t,ts=>match P.underlying t with
  | some (.int k)=>match ts with | [.int k']=>decide (k=k') | _=>false
  | some .bool=>match ts with | [.bool]=>true | _=>false
  | some .string=>match ts with | [.str]=>true | _=>false
  | some (.slice e)=>match ts with | [.sl fs]=>okTy P n e fs&&P.cellsOf e==fs.length&&decide (8≤P.bytesOf e)&&decide (0<fs.length) | _=>false
  | some (.struct fs)=>P.cellsOf t==ts.length&&zgb P ts (okTy P n) 0 fs.toList
  | _=>false
theorem RdL.append {w:World} {S:Nat→Prop}:∀ {ts us:List Ty} {vs xs:List Value} {ds es:List D},RdL w S ts vs ds→RdL w S us xs es→RdL w S (ts++us) (vs++xs) (ds++es)
 | [],_,[],_,[],_,_,h=>h
 | _::ts,_,_::vs,_,_::ds,_,h,k=>⟨h.1,RdL.append (ts:=ts) (vs:=vs) (ds:=ds) h.2 k⟩
 | _::_,_,[],_,_,_,h,_=>h.elim
 | _::_,_,_::_,_,[],_,h,_=>h.elim
 | [],_,_::_,_,_,_,h,_=>h.elim
 | [],_,[],_,_::_,_,h,_=>h.elim
section
variable {H : Type} {enc : TypeId × Value → H} {P : Program} {w : World} {base : Nat} {spare : Nat → Bool} {held : Bool}
def zk3 (P:Program) (t:TypeId) (d:DataW H):Prop:=∀ n∈d.weights P t,n≤reachBytes
theorem zeD (ok:TypeId→List Ty→Bool) (ts:List Ty) (cs:List Value) (hcl:cs.length=ts.length):∀ (fs:List Field) (o:Nat),o≤ts.length→zgb P ts ok o fs=true →
  (∀ f∈fs,∀ us,ok f.type us=true→∃ ds,RdL w (fun b=>b<w.heap.size) us ((cs.drop f.offset).take (P.cellsOf f.type)) ds) →
  ∃ ds,RdL w (fun b=>b<w.heap.size) (ts.drop o) (cs.drop o) ds
 | [],o,ho,h,_=>by
  simp only [zgb,beq_iff_eq] at h
  subst h
  rw [List.drop_length,List.drop_eq_nil_of_le (by omega)]
  exact ⟨[],trivial⟩
 | f::fs,o,ho,h,hf=>by
  simp only [zgb,Bool.and_eq_true,beq_iff_eq,decide_eq_true_eq] at h
  obtain ⟨⟨⟨rfl,h2⟩,h3⟩,h4⟩:=h
  obtain ⟨d1,k1⟩:=hf f (List.mem_cons_self ..) _ h2
  obtain ⟨d2,k2⟩:=zeD ok ts cs hcl fs _ h3 h4 (fun g hg=>hf g (List.mem_cons_of_mem _ hg))
  refine ⟨d1++d2,?_⟩
  have e1:ts.drop f.offset=(ts.drop f.offset).take (P.cellsOf f.type)++ts.drop (f.offset+P.cellsOf f.type):=by
   rw [← List.drop_drop,List.take_append_drop]
  have e2:cs.drop f.offset=(cs.drop f.offset).take (P.cellsOf f.type)++cs.drop (f.offset+P.cellsOf f.type):=by
   rw [← List.drop_drop,List.take_append_drop]
  rw [e1,e2]
  exact RdL.append k1 k2
theorem zcu {e:TypeId}:∀ {l:List (DataW H)} {d:DataW H},d∈l→∀ n∈d.weights P e,n∈DataW.weightsAll P e l
 | x::l,d,hd,n,hn=>by
  simp only [DataW.weightsAll,List.mem_append]
  rcases List.mem_cons.1 hd with h | h
  ·subst h;exact .inl hn
  ·exact .inr (zcu h n hn)
theorem zbV:∀ (n:Nat) (t:TypeId) (ts:List Ty) (fuel:Nat) (cs:List Value) (x:DataW H×List MemPlace),okTy P n t ts=true→DataW.trod enc P w base spare held fuel t cs=some x→zk3 P t x.1→w.noneFrozen x.2 →
  ∃ ds,RdL w (fun b=>b<w.heap.size) ts cs ds
 | 0,_,_,_,_,_,h,_,_,_=>by simp [okTy] at h
 | n+1,t,ts,fuel,cs,x,h,ht,hw,hz=>by
  unfold okTy at h
  split at h
  ·rename_i k hu
   split at h
   ·rename_i k'
    have hk:k=k':=of_decide_eq_true h
    subst hk
    obtain ⟨m,rfl,_,hm⟩:=DataW.trod_int hu ht
    exact ⟨[.int m],.int hm,trivial⟩
   ·cases h
  ·rename_i hu
   split at h
   ·obtain ⟨b,rfl,_⟩:=DataW.trod_bool hu ht
    exact ⟨[.bool b],.bool,trivial⟩
   ·cases h
  ·rename_i hu
   split at h
   ·obtain ⟨s,rfl,rfl,_⟩:=DataW.trod_string hu ht
    have:=hw s.data.toList.length (by simp [DataW.weights])
    refine ⟨[.str s],.str ?_,trivial⟩
    have e:s.data.toList.length=s.size:=by rw [Array.length_toList];rfl
    rw [e] at this
    unfold reachBytes at this
    omega
   ·cases h
  ·rename_i e hu
   split at h
   ·rename_i fs
    simp only [Bool.and_eq_true,beq_iff_eq,decide_eq_true_eq] at h
    obtain ⟨⟨⟨h1,h2⟩,h3⟩,h4⟩:=h
    rcases open_slice hu ht with ⟨rfl,_⟩ | ⟨a,len,cap,m,n',Dd,Pl,rfl,hb,hl,hm,hmm,hx,hi⟩
    ·exact ⟨[.sl []],.emp (fun _=>rfl) (by simp [maxLen]),trivial⟩
    ·have hlm:len≤m:=by rw [hmm];split<;>omega
     have hx1:x.1 = .slice ((List.range len).map Dd) ((List.range (m-len)).map fun j=>Dd (len+j)):=by rw [hx]
     have hbd:len*8≤reachBytes:=by
      have:=hw ((((List.range len).map Dd).length+((List.range (m-len)).map fun j=>Dd (len+j)).length)*P.bytesOf e) (by rw [hx1];simp [DataW.weights,hu])
      simp only [List.length_map,List.length_range] at this
      exact Nat.le_trans (Nat.mul_le_mul (by omega) h3) this
     have each:∀ i,i<len→∃ cs' ds,w.cells? base (a.add (i*P.cellsOf e)) (P.cellsOf e)=some cs'∧RdL w (fun b=>b<w.heap.size) fs cs' ds:=by
      intro i hi'
      obtain ⟨cs',hc,htt⟩:=hi i (by omega)
      obtain ⟨ds,hd⟩:=zbV n e fs n' cs' _ h1 htt (fun q hq=>hw q (by
       rw [hx1]
       simp only [DataW.weights,hu,List.mem_cons,List.mem_append]
       exact .inr (.inl (zcu (List.mem_map.2 ⟨i,List.mem_range.2 hi',rfl⟩) q hq)))) (fun b off hp=>hz b off (by
       rw [hx]
       exact List.mem_append.2 (.inr (List.mem_flatMap.2 ⟨i,List.mem_range.2 (by omega),hp⟩))))
      exact ⟨cs',ds,hc,hd⟩
     by_cases hp:0<len
     ·let C:Nat→List Value:=fun i=>if hh:i<len then Classical.choose (each i hh) else []
      let DD:Nat→List D:=fun i=>if hh:i<len then Classical.choose (Classical.choose_spec (each i hh)) else []
      have hC:∀ i,i<len→w.cells? base (a.add (i*P.cellsOf e)) (P.cellsOf e)=some (C i)∧RdL w (fun b=>b<w.heap.size) fs (C i) (DD i):=by
       intro i hh
       simp only [C,DD,hh,dif_pos]
       exact Classical.choose_spec (Classical.choose_spec (each i hh))
      have hcell:∀ i j,i<len→j<fs.length→w.cell? ((a.add (i*fs.length)).add j)=some ((C i).getD j undef):=by
       intro i j hi' hj
       obtain ⟨c1,c2⟩:=hC i hi'
       rw [h2] at c1
       obtain ⟨_,hcl,hat⟩:=World.cells?_some c1
       rw [hat j hj]
       simp [List.getD,List.getElem?_eq_getElem (show j<(C i).length by omega)]
      have h00:=hcell 0 0 hp h4
      obtain ⟨b,off,spot⟩:=a
      have hspot:spot=none:=by simpa [Addr.add] using World.cell?_spot h00
      subst hspot
      have hblk:b<w.heap.size:=by
       have:=World.block_lt_of_cell? _ _ h00
       simpa [Addr.add] using this
      refine ⟨[.sl ((List.range len).map DD)],.row (fun i j=>(C i).getD j undef) hp (by simp) hl hm (by unfold reachBytes at hbd;omega) hblk hblk (fun i j hi' hj=>?_) (fun i hi'=>?_) (fun i j hi' hj=>?_) (fun i j hi' hj=>?_),trivial⟩
      ·have:=hcell i j hi' hj
       rwa [WideShapes.add_plain,WideShapes.add_plain] at this
      ·have:=(hC i hi').2.lens.2
       simpa [List.getD,hi'] using this
      ·have:=(hC i hi').2.at j hj
       simpa [List.getD,hi'] using this
      ·refine hz b _ ?_
       rw [hx]
       refine List.mem_append.2 (.inl ?_)
       unfold MemPlace.row
       refine List.mem_map.2 ⟨i*fs.length+j,List.mem_range.2 ?_,by rw [Nat.add_assoc]⟩
       rw [h2]
       have h5:(i+1)*fs.length≤m*fs.length:=Nat.mul_le_mul_right _ (by omega)
       rw [Nat.add_mul] at h5;omega
     ·have h0:len=0:=by omega
      subst h0
      exact ⟨[.sl []],.emp (fun hh=>by cases hh) hm,trivial⟩
   ·cases h
  ·rename_i fs hu
   simp only [Bool.and_eq_true,beq_iff_eq] at h
   obtain ⟨h1,h2⟩:=h
   obtain ⟨xs,n',_,hx,hcl,hxl,hall⟩:=DataW.trod_struct hu ht
   have:=zeD (P:=P) (w:=w) (okTy P n) ts cs (by omega) fs.toList 0 (Nat.zero_le _) h2 (fun f hf us hus=>by
    obtain ⟨i,hi⟩:=List.getElem?_of_mem hf
    rw [Array.getElem?_toList] at hi
    have hilt:i<fs.size:=(Array.getElem?_eq_some_iff.1 hi).1
    have h3:=hall i f hi
    rw [List.getElem?_eq_getElem (show i<xs.length by omega)] at h3
    refine zbV n f.type us n' _ _ hus h3 (fun q hq=>hw q ?_) (fun b off hp=>hz b off (by
     rw [hx]
     exact List.mem_flatMap.2 ⟨_,List.getElem_mem (show i<xs.length by omega),hp⟩))
    rw [hx]
    simp only [DataW.weights,hu]
    refine DataW.weights_mem_each (j:=i) (t:=f.type) (d:=xs[i].1) ?_ ?_ q hq
    ·rw [List.getElem?_map,Array.getElem?_toList,hi];rfl
    ·rw [List.getElem?_map,List.getElem?_eq_getElem (show i<xs.length by omega)];rfl)
   simpa using this
  ·cases h
theorem rd_arg {t:TypeId} {ts:List Ty} {v:Value} {d:DataW H} {p:List MemPlace} (n:Nat) (hok:okTy P n t ts=true) (h:DataW.Trod enc P w base spare held t v d p) (hw:zk3 P t d) (hz:w.noneFrozen p):∃ ds,RdL w (fun b=>b<w.heap.size) ts v.cells.toList ds:=by
 obtain ⟨fuel,hf⟩:=h
 exact zbV n t ts fuel _ _ hok hf hw hz
theorem light_of {tys:List TypeId} {ds:List (DataW H)} (h:(DataW.weightsEach P tys ds).all (· ≤ reachBytes)=true) {j:Nat} {t:TypeId} {d:DataW H} (ht:tys[j]? = some t) (hd:ds[j]? = some d):zk3 P t d:=fun n hn=>by
 simpa using List.all_eq_true.1 h n (DataW.weights_mem_each ht hd n hn)
end
end Go.Proofs.Ytjfphnegcelbpaa
namespace Go.Proofs.Ytjfphnegcelbpaa
open Go.RowKit Go.ChangeShapes Go.WideShapes Go.Deep
theorem zir {w:World} {a:Option Addr} {n m:Nat} {l:List Int} (h:Sl w (fun b=>b<w.heap.size) [.int .i64] a n m (ints l)):DenV (E0 fun b=>b<w.heap.size) w (.sl [0] (.rInts l)) (.slice a n m):=
 Rd.mono h fun b _ hb=>zlo hb
theorem law_leaseOver (a:Option Addr) (n m:Nat) (l:List Int) (x y z:Int) (w:World) (h:Sl w (fun b=>b<w.heap.size) [.int .i64] a n m (ints l)) (h1:I64 x) (h2:I64 y) (h3:I64 z) :
  Calls Try.prog 6 #[.slice a n m,.int .i64 x,.int .i64 y,.int .i64 z] w fun e w'=>e = .returned (.bool true)∧Below w.heap.size w w' :=
 zg9 (zjz l x y z) w (fun b=>b<w.heap.size) (fun _ hb=>hb) [.slice a n m,.int .i64 x,.int .i64 y,.int .i64 z] ⟨zir h,⟨rfl,zaJ h1⟩,⟨rfl,zaJ h2⟩,⟨rfl,zaJ h3⟩,trivial⟩
end Go.Proofs.Ytjfphnegcelbpaa
