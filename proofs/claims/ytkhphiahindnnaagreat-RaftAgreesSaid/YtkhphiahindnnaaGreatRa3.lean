/- Parts of the proof, joined: the symbolic walk and what it is told of each function. Condition: as each theorem says. -/
import Derived.Lib.SliceRun
import Derived.Laws.OwnMore
import Derived.Laws.CopyOwn
import Derived.Lib.AppendStr
import Derived.Laws.StructEq
import Derived.ChangeKeysEq
import Derived.Laws.BytesString
import Derived.Lib.ConvBytes
import Derived.RangeFuncNested
import Derived.RangeFuncBound
import Derived.RangeFuncCalls
import Derived.RangeFuncLeaves
import Derived.Shelf.Abstract
import Derived.Shelf.RegionOpen
import Derived.OwnWalkIn
import Derived.TacticsInMore
import Derived.LoopNIn
import Derived.LoopIn
import Derived.Test.YtkhphiahindnnaaGreatRa2
set_option linter.unusedVariables false
set_option linter.unusedSimpArgs false
set_option linter.unusedSectionVars false
namespace Go.Proofs.YtkhphiahindnnaaGreat
open Go.RowKit Go.ChangeShapes Go.WideShapes Go.Deep
theorem zir {f:Nat->Nat->BE} {m:Nat->BE} {rest:List (Nat×BE)}:∀ (L:List Nat) (k:Nat),zcl L=true->(∀ i t,L[i]? = some t->putF (asg f k L++rest) m t=f (k+i) t)/\(∀ t,t∉L->putF (asg f k L++rest) m t=putF rest m t)
 | [],k,_=>⟨fun i t h=>by simp at h,fun t _=>rfl⟩
 | a::r,k,hn=>by
  simp only [zcl,Bool.and_eq_true,Bool.not_eq_true'] at hn
  obtain ⟨h1,h2⟩:=zir (f:=f) (m:=m) (rest:=rest) r (k+1) hn.2
  have har:a∉r:=by have:=hn.1;simpa using this
  have e:∀ t,putF (asg f k (a::r)++rest) m t=if t=a then f k a else putF (asg f (k+1) r++rest) m t:=fun t=>rfl
  refine ⟨fun i t h=>?_,fun t h=>?_⟩
  ·cases i with
   | zero=>
    simp only [List.getElem?_cons_zero,Option.some.injEq] at h
    subst h
    rw [e,if_pos rfl,Nat.add_zero]
   | succ i=>
    have h:=h
    simp only [List.getElem?_cons_succ] at h
    have hne:t≠a:=fun e2=>har (e2▸List.mem_of_getElem? h)
    rw [e,if_neg hne,h1 i t h,show k+1+i=k+(i+1) by omega]
  ·simp only [List.mem_cons,not_or] at h
   rw [e,if_neg h.1,h2 t h.2]
theorem zr2:∀ (n c j:Nat),j<n->(blkN c n)[j]? = some (c+j)
 | n+1,c,0,_=>rfl
 | n+1,c,j+1,h=>by rw [blkN,List.getElem?_cons_succ,zr2 n (c+1) j (by omega),show c+1+j=c+(j+1) by omega]
 | 0,_,_,h=>by omega
theorem zhX:∀ (n c:Nat),zcl (blkN c n)=true
 | 0,_=>rfl
 | n+1,c=>by
  rw [blkN,zcl,Bool.and_eq_true]
  refine ⟨?_,zhX n (c+1)⟩
  cases h:(blkN (c+1) n).contains c
  ·rfl
  ·have:=(zdr n (c+1) c).1 (by simpa using h)
   omega
theorem zs7 (a b:List (Nat×BE)) (m:Nat->BE):putF (a++b) m=putF a (putF b m):=by
 induction a with
 | nil=>rfl
 | cons x a ih=>obtain ⟨t,e⟩:=x;funext u;show (if u=t then e else putF (a++b) m u)=(if u=t then e else putF a (putF b m) u);rw [ih]
section
variable {P : Program} {base : Nat} {X : Cx} {w0 : World}
theorem Cl.mi_at (q:Cl) {k u:Nat} (h:q.V.T[k]? = some u):mOf q.mi (k+2)=(vwB q.V (q.gl.getD k 0) (q.V.m u)).1:=by
 rw [zeu]
 show ((q.bV.map (·.1))).getD k .empty=_
 have:=zdO (f:=fun l t=>vwB q.V l (q.V.m t)) (ls:=q.gl) h
 have e:q.bV[k]? = some (vwB q.V (q.gl.getD k 0) (q.V.m u)):=this
 simp [List.getD,e]
theorem Cl.mi_out (q:Cl) {k:Nat} (h:q.V.T[k]? = none):mOf q.mi (k+2) = .empty:=by
 rw [zeu]
 show ((q.bV.map (·.1))).getD k .empty=_
 have:q.V.T.length<=k:=by simpa using h
 have hl:q.bV.length=q.V.T.length:=zfH _ _
 simp [List.getD,List.getElem?_eq_none (show q.bV.length<=k by omega)]
theorem zua {V:Vw} {l:Nat} (e:BE):(vwB V l e).1 ≠ .empty:=by cases e<;>simp [vwB]
theorem Cl.mi_len (q:Cl):q.mi.length=2+q.V.T.length:=by
 have:q.bV.length=q.V.T.length:=zfH _ _
 simp [Cl.mi,this];omega
structure Cl.Good (q:Cl):Prop where
 nd:zcl q.V.T=true
 fl:∀ i i' j,(i,j)∈q.LP->(i',j)∈q.LP->i=i'
 fo:∀ i i' j,(i,j)∈q.OP->(i',j)∈q.OP->i=i'
 bl:∀ i j,(i,j)∈q.LP->i<q.nl
 bo:∀ i j,(i,j)∈q.OP->i<q.nl/\j∉q.V.T
 nl:q.nl<=2+q.V.T.length
 lv:∀ u,u∈q.V.T->(q.V.m u).live=true
 ft:∀ e,e∈q.bV->∀ T vs,e.1 = .cells T vs->vs.all SV.flat=true
theorem zuv {l:List (Nat×Nat)} (h:fnP l=true) {i i' j:Nat} (h1:(i,j)∈l) (h2:(i',j)∈l):i=i':=by
 have:=List.all_eq_true.1 (List.all_eq_true.1 h _ h1) _ h2
 simp only [Bool.or_eq_true,Bool.not_eq_true'] at this
 rcases this with h3 | h3
 ·simp at h3
 ·exact Nat.eq_of_beq_eq_true h3
theorem Cl.good {q:Cl} (h:q.ok=true):q.Good:=by
 simp only [Cl.ok,Bool.and_eq_true] at h
 obtain ⟨⟨⟨⟨⟨⟨⟨h1,h2⟩,h3⟩,h4⟩,h5⟩,h6⟩,h7⟩,h8⟩:=h
 refine ⟨h1,fun i i' j=>zuv h2,fun i i' j=>zuv h3,fun i j hp=>?_,fun i j hp=>?_,Nat.le_of_ble_eq_true h6,fun u hu=>List.all_eq_true.1 h7 u hu,fun e he T vs e2=>?_⟩
 ·have:=List.all_eq_true.1 h4 _ hp
  simp [Nat.blt] at this;omega
 ·have:=List.all_eq_true.1 h5 _ hp
  simp only [Bool.and_eq_true,Bool.not_eq_true'] at this
  exact ⟨by have:=this.1;simp [Nat.blt] at this;omega,by simpa using this.2⟩
 ·have:=List.all_eq_true.1 h8 _ he
  rw [e2] at this;exact this
theorem zuQ (V:Vw) (l:Nat) (e:BE):(vwB V l e).1.isO=e.isO:=by cases e<;>rfl
section one
variable {q : Cl} {E : Env} {w : World} (hm : MemOk base X w0 E q.V.m w)
include hm
theorem Cl.hasT (hg:q.Good) {t b:Nat} (h:Has (q.env E) (mOf q.mi) t b):∃ k u,t=k+2/\q.V.T[k]? = some u/\Has E q.V.m u b:=by
 obtain ⟨hl,v,hv,hvb⟩:=h
 match t,hl,hv with
 | 0,hl,_=>cases hl
 | 1,hl,_=>cases hl
 | k+2,hl,hv=>
  have hvb:Fo (q.env E) (k+2) v (mOf q.mi (k+2)) b:=hvb
  have hv:(match q.V.T[k]? with | some u=>E.β u | none=>none)=some v:=hv
  cases hk:q.V.T[k]? with
  | none=>rw [hk] at hv;cases hv
  | some u=>
   rw [hk] at hv
   refine ⟨k,u,rfl,hk,hg.lv u (List.mem_of_getElem? hk),v,hv,?_⟩
   rw [q.mi_at hk] at hvb
   have hvb:=Fo.iff (e:=q.V.m u) (zuQ _ _ _) hvb
   cases hmu:q.V.m u with
   | obj o=>
    rw [hmu] at hvb
    have h5:(match q.V.T[k]? with | some u=>E.φ u b | none=>False):=hvb
    rw [hk] at h5;exact h5
   | _=>rw [hmu] at hvb;exact hvb
theorem Cl.memIn (hg:q.Good) (hn:∀ p∈q.needs,p):MemOk w.heap.size (cxIn (q.env E) q.mi q.nl) w (q.env E) (mOf q.mi) w:=by
  have hbV:∀ k u,q.V.T[k]? = some u->vwB q.V (q.gl.getD k 0) (q.V.m u)∈q.bV:=fun k u h=>List.mem_of_getElem? (zdO (f:=fun l t=>vwB q.V l (q.V.m t)) (ls:=q.gl) h)
  have hbn:∀ k u,q.V.T[k]? = some u->∀ p∈(vwB q.V (q.gl.getD k 0) (q.V.m u)).2,p:=fun k u h p hp=>hn p (List.mem_append_right _ (List.mem_flatMap.2 ⟨_,hbV k u h,hp⟩))
  have hbl:∀ k u,q.V.T[k]? = some u->∀ p∈lpB q.V (q.gl.getD k 0) (q.V.m u),p∈q.LP:=fun k u h p hp=>List.mem_append_right _ (List.mem_flatMap.2 ⟨_,List.mem_of_getElem? (zdO (f:=fun l t=>lpB q.V l (q.V.m t)) (ls:=q.gl) h),hp⟩)
  have hbo:∀ k u,q.V.T[k]? = some u->∀ p∈opB q.V (q.gl.getD k 0) (q.V.m u),p∈q.OP:=fun k u h p hp=>List.mem_append_right _ (List.mem_flatMap.2 ⟨_,List.mem_of_getElem? (zdO (f:=fun l t=>opB q.V l (q.V.m t)) (ls:=q.gl) h),hp⟩)
  have hT:∀ t e,mOf q.mi t=e->e ≠ .dead->e ≠ .empty->∃ k u,t=k+2/\q.V.T[k]? = some u/\(vwB q.V (q.gl.getD k 0) (q.V.m u)).1=e:=by
    intro t e he h1 h2
    match t,he with
    | 0,he=>exact absurd he.symm h1
    | 1,he=>exact absurd he.symm h1
    | k+2,he=>
      cases hk:q.V.T[k]? with
      | none=>rw [q.mi_out hk] at he;exact absurd he.symm h2
      | some u=>rw [q.mi_at hk] at he;exact ⟨k,u,rfl,hk,he⟩
  have hβ:∀ k u,q.V.T[k]? = some u->(q.env E).β (k+2)=E.β u:=fun k u hk=>by
    show (match q.V.T[k]? with | some u=>E.β u | none=>none)=_
    rw [hk]
  refine ⟨fun t ht=>?_,fun t T vs ht=>?_,fun t T ls r ht=>?_,fun i b hb=>?_,fun i j b h1 h2=>?_,fun i hi he=>?_,fun t b hb=>?_,fun i b hi hb=>hb,fun t u b h1 h2=>?_,fun t v hv=>?_,BelowX.refl _ _ _,Nat.le_refl _,fun t o ht=>?_⟩
  · match t,ht with
    | 0,ht=>cases ht
    | 1,ht=>cases ht
    | k+2,ht=>
      cases hk:q.V.T[k]? with
      | some u=>rw [q.mi_at hk] at ht;exact absurd ht (zua _)
      | none=>
        have hlen:q.V.T.length<=k:=by simpa using hk
        refine ⟨?_,fun b hb=>?_⟩
        · show (match q.V.T[k]? with | some u=>E.β u | none=>none)=none
          rw [hk]
        · have:=hg.nl
          rcases hb with ⟨j,hj,_⟩ | ⟨j,hj,_⟩
          · have:=hg.bl _ _ hj;omega
          · have:=(hg.bo _ _ hj).1;omega
  · obtain ⟨k,u,rfl,hk,he⟩:=hT t _ ht (by simp) (by simp)
    cases hmu:q.V.m u with
    | cells T' us=>
      rw [hmu] at he
      simp only [vwB,BE.cells.injEq] at he
      obtain ⟨rfl,rfl⟩:=he
      obtain ⟨b,xs,c1,c2,c3,c4⟩:=hm.cells u _ _ hmu
      have n1:=hbn k u hk;have n2:=hbl k u hk;have n3:=hbo k u hk
      rw [hmu] at n1 n2 n3
      refine ⟨b,xs,(hβ k u hk).trans c1,c2,zhm us xs (fun s hs v hv hp=>Cl.den0 hm (fun p hp=>n2 p (List.mem_flatMap.2 ⟨s,hs,hp⟩)) (fun p hp=>n3 p (List.mem_flatMap.2 ⟨s,hs,hp⟩)) hv hp) c3 n1,?_⟩
      exact hg.ft _ (hbV k u hk) T' _ (by rw [hmu];rfl)
    | row T' ls r=>rw [hmu] at he;simp [vwB] at he
    | obj o=>rw [hmu] at he;simp [vwB] at he
    | dead=>rw [hmu] at he;simp [vwB] at he
    | empty=>rw [hmu] at he;simp [vwB] at he
  · obtain ⟨k,u,rfl,hk,he⟩:=hT t _ ht (by simp) (by simp)
    cases hmu:q.V.m u with
    | row T' ls' r' =>
      rw [hmu] at he
      simp only [vwB,BE.row.injEq] at he
      obtain ⟨rfl,rfl,rfl⟩:=he
      obtain ⟨v,c1,c2⟩:=hm.row u _ _ _ hmu
      have n2:=hbl k u hk
      rw [hmu] at n2
      exact ⟨v,(hβ k u hk).trans c1,c2.mono (Nat.le_refl _) (fun b hb=>Cl.set0 hm (fun i hi=>n2 _ (List.mem_map.2 ⟨i,hi,rfl⟩)) hb)⟩
    | cells T' us=>rw [hmu] at he;simp [vwB] at he
    | obj o=>rw [hmu] at he;simp [vwB] at he
    | dead=>rw [hmu] at he;simp [vwB] at he
    | empty=>rw [hmu] at he;simp [vwB] at he
  · rcases hb with ⟨j,hj,hs⟩ | ⟨t,ht,hh⟩
    · refine ⟨(hm.lab j b hs).1,fun hi=>?_⟩
      have:=hg.bl _ _ hj
      have hi:q.nl<=i:=hi
      omega
    · refine ⟨hm.lt hh,fun hi=>?_⟩
      have:=(hg.bo _ _ ht).1
      have hi:q.nl<=i:=hi
      omega
  · rcases h1 with ⟨j1,hj1,hs1⟩ | ⟨t1,ht1,hh1⟩
    · rcases h2 with ⟨j2,hj2,hs2⟩ | ⟨t2,ht2,hh2⟩
      · have:=hm.dis j1 j2 b hs1 hs2
        subst this
        exact hg.fl _ _ _ hj1 hj2
      · exact absurd ⟨j1,hs1⟩ (hm.sep t2 b hh2).1
    · rcases h2 with ⟨j2,hj2,hs2⟩ | ⟨t2,ht2,hh2⟩
      · exact absurd ⟨j2,hs2⟩ (hm.sep t1 b hh1).1
      · have:=hm.inj t1 t2 b hh1 hh2
        subst this
        exact hg.fo _ _ _ ht1 ht2
  · have hi:i<q.nl:=hi
    have:=hg.nl
    match i,hi,he with
    | 0,_,he=>cases he
    | 1,_,he=>cases he
    | k+2,hi,he=>
      cases hk:q.V.T[k]? with
      | none => have : q.V.T.length <= k := by simpa using hk
                omega
      | some u=>rw [q.mi_at hk] at he;exact zua _ he
  · refine ⟨fun ⟨i,hi⟩=>?_,.inr ⟨t,hb⟩⟩
    obtain ⟨k,u,rfl,hk,hh⟩:=Cl.hasT hm hg hb
    rcases hi with ⟨j,hj,hs⟩ | ⟨t2,ht2,hh2⟩
    · exact (hm.sep u b hh).1 ⟨j,hs⟩
    · have:=hm.inj u t2 b hh hh2
      subst this
      exact (hg.bo _ _ ht2).2 (List.mem_of_getElem? hk)
  · obtain ⟨k1,u1,rfl,hk1,hh1⟩:=Cl.hasT hm hg h1
    obtain ⟨k2,u2,rfl,hk2,hh2⟩:=Cl.hasT hm hg h2
    have:=hm.inj u1 u2 b hh1 hh2
    subst this
    rw [ziw hg.nd hk1 hk2]
  · have hv:(if t<q.mi.length then (q.env E).β t else none)=some v:=hv
    split at hv
    · exact hv
    · cases hv
  · obtain ⟨k,u,rfl,hk,he⟩:=hT t _ ht (by simp) (by simp)
    cases hmu:q.V.m u with
    | obj o' =>
      rw [hmu] at he
      have he:BE.obj o'=BE.obj o:=he
      injection he with he
      subst he
      obtain ⟨b,c1,c2⟩:=hm.obj u _ hmu
      have e:(q.env E).φ (k+2)=E.φ u:=by
        funext x
        show (match q.V.T[k]? with | some u=>E.φ u x | none=>False)=_
        rw [hk]
      exact ⟨b,(hβ k u hk).trans c1,by rw [e];exact c2⟩
    | row T' ls r=>rw [hmu] at he;simp [vwB] at he
    | cells T' us=>rw [hmu] at he;simp [vwB] at he
    | dead=>rw [hmu] at he;simp [vwB] at he
    | empty=>rw [hmu] at he;simp [vwB] at he
end one
end
end Go.Proofs.YtkhphiahindnnaaGreat
namespace Go.Proofs.YtkhphiahindnnaaGreat
open Go.RowKit Go.ChangeShapes Go.WideShapes Go.Deep
def Cl.back (q:Cl) (E E':Env) (c n:Nat):Env where
 β:=fun t=>if c<=t/\t<c+16 then (if t-c<n-(2+q.V.T.length) then E'.β (2+q.V.T.length+(t-c)) else none) else E.β t
 σ:=fun i b=>if c<=i/\i<c+16 then E'.σ (q.nl+(i-c)) b else E.σ i b
 φ:=fun t=>if c<=t/\t<c+16 then E'.φ (2+q.V.T.length+(t-c)) else (match idxO q.V.T t with
  | some k=>E'.φ (2+k)
  | none=>E.φ t)
theorem zjT {E E':Env} {w:World} {f:SV->SV}:∀ (ss:List SV) (vs:List Value),(∀ s,s∈ss->∀ v,DenV E w s v->DenV E' w (f s) v)->DenL E w ss vs->DenL E' w (ss.map f) vs
 | [],[],_,_=>trivial
 | s::ss,v::vs,hf,h=>⟨hf s (List.mem_cons_self ..) v h.1,zjT ss vs (fun s hs=>hf s (List.mem_cons_of_mem _ hs)) h.2⟩
 | [],_::_,_,h=>h.elim
 | _::_,[],_,h=>h.elim
theorem zs2 {q:Cl} {c:Nat} {vs:List SV} (h:vs.all SV.flat=true):(vs.map (rel0 q c)).all SV.flat=true:=by
 simp only [List.all_eq_true,List.mem_map] at *
 rintro x ⟨s,hs,rfl⟩
 have:=h s hs
 cases s<;>first | exact this | rfl
theorem zoZ {q:Cl} {c:Nat} (e:BE):relB q c e ≠ .empty:=by cases e<;>simp [relB]
section
variable {P : Program} {base : Nat} {X : Cx} {w0 : World}
theorem Cl.call {q:Cl} {E:Env} {w:World} (hm:MemOk base X w0 E q.V.m w) (hg:q.Good) (hn:∀ p∈q.needs,p) {c:Nat} (hfree:∀ t,c<=t->t<c+16->q.V.m t = .empty) {f:FuncId} {out:SV} {mo:List BE} (hF:FnG P f q.nl q.mi q.ins out mo) (hO:q.okO out mo=true)
    {vals:List Value} (hd:DenL E w q.svs vals):Calls P f vals.toArray w (fun e w'=>∃ v E',e = .returned v/\E.Le E'/\Same E.lab w w'/\DenV E' w' (relV q c out) v/\MemOk base X w0 E' (putF (q.upds c mo) q.V.m) w'):=by
  simp only [Cl.okO,Bool.and_eq_true] at hO
  obtain ⟨⟨⟨hO1,hO2⟩,hO3⟩,hO4⟩:=hO
  have hO3:=Nat.le_of_ble_eq_true hO3
  have hO4:=Nat.le_of_ble_eq_true hO4
  have hin:=Cl.memIn hm hg hn
  have hda:DenL (q.env E) w q.ins vals:=Cl.denA hm q.svs q.al vals (fun p hp=>List.mem_append_left _ hp) (fun p hp=>List.mem_append_left _ hp) hd (fun p hp=>hn p (List.mem_append_left _ hp))
  refine Calls.mono (hF.2 w (q.env E) vals hin hda) ?_
  rintro e' w' ⟨v,E',rfl,hv,hm'⟩
  -- tags of the caller's
  have hlive:∀ u,u∈q.V.T->¬ (c<=u/\u<c+16):=fun u hu ⟨h1,h2⟩=>by
    have:=hg.lv u hu
    rw [hfree u h1 h2] at this;cases this
  have hβE:∀ t,c<=t/\t<c+16->E.β t=none:=fun t h=>(hm.empty t (hfree t h.1 h.2)).1
  have hσE:∀ t b,c<=t/\t<c+16->¬ E.σ t b:=fun t b h=>(hm.empty t (hfree t h.1 h.2)).2 b
  have hbβ:∀ t,¬ (c<=t/\t<c+16)->(q.back E E' c mo.length).β t=E.β t:=fun t h=>by
    show (if _ then _ else E.β t)=_
    rw [if_neg h]
  have hbβn:∀ j,2+q.V.T.length+j<mo.length->(q.back E E' c mo.length).β (c+j)=E'.β (2+q.V.T.length+j):=fun j h=>by
    show (if c<=c+j/\c+j<c+16 then (if c+j-c<mo.length-(2+q.V.T.length) then E'.β (2+q.V.T.length+(c+j-c)) else none) else E.β (c+j))=_
    rw [if_pos ⟨by omega,by omega⟩,if_pos (by omega),show c+j-c=j by omega]
  have hbσ:∀ i b,¬ (c<=i/\i<c+16)->((q.back E E' c mo.length).σ i b↔E.σ i b):=fun i b h=>by
    show (if _ then _ else E.σ i b)↔_
    rw [if_neg h]
  have hbσn:∀ j b,j<16->((q.back E E' c mo.length).σ (c+j) b↔E'.σ (q.nl+j) b):=fun j b h=>by
    show (if c<=c+j/\c+j<c+16 then E'.σ (q.nl+(c+j-c)) b else E.σ (c+j) b)↔_
    rw [if_pos ⟨by omega,by omega⟩,show c+j-c=j by omega]
  have hkeep:∀ k u,q.V.T[k]? = some u->∃ x,E.β u=some x/\E'.β (2+k)=some x:=fun k u hk=>by
    obtain ⟨x,hx,_⟩:=hm.holds (hg.lv u (List.mem_of_getElem? hk))
    refine ⟨x,hx,hm'.keep (2+k) x ?_⟩
    show (if 2+k<q.mi.length then (q.env E).β (2+k) else none)=some x
    have hlt:k<q.V.T.length:=(List.getElem?_eq_some_iff.1 hk).1
    rw [if_pos (by rw [q.mi_len];omega),Nat.add_comm 2 k]
    show (match q.V.T[k]? with | some u=>E.β u | none=>none)=_
    rw [hk];exact hx
  -- a tag of the callee's, as the caller has it
  have htag:∀ t,1<t->t<mo.length->∀ x,E'.β t=some x->(q.back E E' c mo.length).β (relT q c t)=some x:=by
    intro t h1 h2 x hx
    unfold relT
    rw [zfD]
    split
    · rename_i hlt
      obtain ⟨k,rfl⟩:∃ k,t=2+k:=⟨t-2,by omega⟩
      have hk:q.V.T[k]? = some (q.V.T[k]'(by omega)):=List.getElem?_eq_getElem (by omega)
      obtain ⟨y,h3,h4⟩:=hkeep k _ hk
      rw [h4] at hx
      have e:q.V.T.getD (2+k-2) 0=q.V.T[k]'(by omega):=by rw [show 2+k-2=k by omega];simp [List.getD,hk]
      rw [e,hbβ _ (hlive _ (List.mem_of_getElem? hk)),h3];exact hx
    · rename_i hge
      have:=hbβn (t-(2+q.V.T.length)) (by omega)
      rw [show 2+q.V.T.length+(t-(2+q.V.T.length))=t by omega] at this
      rw [this];exact hx
  have hset:∀ ls,okLs q ls=true->∀ b,E'.set ls b->(q.back E E' c mo.length).set (relL q c ls) b:=by
    intro ls hls b ⟨i,hi,hs⟩
    have h1:=List.all_eq_true.1 hls i hi
    rw [zfD] at h1
    split at h1
    · rename_i hlt
      rcases hm'.old i b hlt hs with ⟨j,hj,hjs⟩ | ⟨t,ht,_⟩
      · refine ⟨j,List.mem_flatMap.2 ⟨i,hi,?_⟩,?_⟩
        · rw [zfD,if_pos hlt]
          exact List.mem_map.2 ⟨(i,j),List.mem_filter.2 ⟨hj,by simp⟩,rfl⟩
        · rw [hbσ j b (fun h=>hσE j b h hjs)];exact hjs
      · exfalso
        have h2:(q.OP.any fun p=>Nat.beq p.1 i)=true:=List.any_eq_true.2 ⟨(i,t),ht,by simp⟩
        rw [h2] at h1;cases h1
    · rename_i hge
      have h2:i-q.nl<16:=by simp [Nat.blt] at h1;omega
      refine ⟨c+(i-q.nl),List.mem_flatMap.2 ⟨i,hi,?_⟩,?_⟩
      · rw [zfD,if_neg hge];simp
      · rw [hbσn _ b h2,show q.nl+(i-q.nl)=i by omega];exact hs
  have hden0:∀ s,ok0 q mo.length s=true->∀ v,DenV E' w' s v->DenV (q.back E E' c mo.length) w' (rel0 q c s) v:=by
    intro s hs v hv
    cases s
    case sl ls r=>exact Rd.mono hv (fun b _ hb=>hset ls hs b hb)
    case own t=>
      simp only [ok0,Bool.and_eq_true] at hs
      have h1:1<t:=by have:=hs.1;simp [Nat.blt] at this;omega
      have h2:t<mo.length:=by have:=hs.2;simp [Nat.blt] at this;omega
      exact ⟨htag t h1 h2 v hv.1,hv.2⟩
    case ptr t o=>
      simp only [ok0,Bool.and_eq_true] at hs
      have h1:1<t:=by have:=hs.1;simp [Nat.blt] at this;omega
      have h2:t<mo.length:=by have:=hs.2;simp [Nat.blt] at this;omega
      obtain ⟨b,h3,h4⟩:=hv
      exact ⟨b,htag t h1 h2 _ h3,h4⟩
    all_goals first | exact hv | trivial
  have hden1:∀ s,ok1 q mo.length s=true->∀ v,DenV E' w' s v->DenV (q.back E E' c mo.length) w' (rel1 q c s) v:=by
    intro s hs v hv
    cases s
    case agg vs=>
      obtain ⟨xs,h1,h2⟩:=hv
      exact ⟨xs,h1,zjT vs xs (fun s h v hv=>hden0 s (List.all_eq_true.1 hs s h) v hv) h2⟩
    case clo f vs=>
      obtain ⟨xs,h1,h2⟩:=hv
      exact ⟨xs,h1,zjT vs xs (fun s h v hv=>hden0 s (List.all_eq_true.1 hs s h) v hv) h2⟩
    all_goals
      have h2:=fun h=>hden0 _ h v hv
      exact h2 hs
  have hdenV:DenV (q.back E E' c mo.length) w' (relV q c out) v:=by
    cases out
    case tup vs=>
      obtain ⟨xs,h1,h2⟩:=hv
      exact ⟨xs,h1,zjT vs xs (fun s h v hv=>hden1 s (List.all_eq_true.1 hO1 s h) v hv) h2⟩
    all_goals
      have h2:=fun h=>hden1 _ h v hv
      exact h2 hO1
  have hle:E.Le (q.back E E' c mo.length):=⟨fun t x hx=>by
      rw [hbβ t (fun h=>by rw [hβE t h] at hx;cases hx)];exact hx,fun i b hs=>(hbσ i b (fun h=>hσE i b h hs)).2 hs⟩
  have hbx:=hm'.below
  -- blocks that may have been written
  have hX:∀ b,(cxIn (q.env E) q.mi q.nl).X b->∃ u,u∈q.V.T/\Has E q.V.m u b:=by
    rintro b ⟨t,ht⟩
    obtain ⟨k,u,_,hk,hh⟩:=Cl.hasT hm hg ht
    exact ⟨u,List.mem_of_getElem? hk,hh⟩
  have hSame:Same E.lab w w':=⟨hbx.size,fun b hl hlt=>hbx.block b hlt (fun hx=>by
    obtain ⟨u,_,hh⟩:=hX b hx
    exact (hm.sep u b hh).1 hl)⟩
  refine ⟨v,_,rfl,hle,hSame,hdenV,?_⟩
  -- the memory
  have hp1:=zir (f:=fun k _=>relB q c (mo.getD (2+k) .dead)) (m:=q.V.m) (rest:=asg (fun j _=>relB q c (mo.getD (2+q.V.T.length+j) .dead)) 0 (blkN c 16)) q.V.T 0 hg.nd
  have hp2:=zir (f:=fun j _=>relB q c (mo.getD (2+q.V.T.length+j) .dead)) (m:=q.V.m) (rest:=[]) (blkN c 16) 0 (zhX 16 c)
  rw [List.append_nil] at hp2
  have hmT:∀ k u,q.V.T[k]? = some u->putF (q.upds c mo) q.V.m u=relB q c (mo.getD (2+k) .dead):=fun k u hk=>by
    have:=hp1.1 k u hk
    rw [Nat.zero_add] at this;exact this
  have hmN:∀ j,j<16->putF (q.upds c mo) q.V.m (c+j)=relB q c (mo.getD (2+q.V.T.length+j) .dead):=fun j hj=>by
    have h1:=hp1.2 (c+j) (fun h=>hlive _ h ⟨by omega,by omega⟩)
    have h2:=hp2.1 j (c+j) (zr2 16 c j hj)
    rw [Nat.zero_add] at h2
    exact h1.trans h2
  have hmO:∀ t,t∉q.V.T->¬ (c<=t/\t<c+16)->putF (q.upds c mo) q.V.m t=q.V.m t:=fun t h1 h2=>
    (hp1.2 t h1).trans (hp2.2 t (fun h=>h2 ((zdr 16 c t).1 h)))
  have hrT:∀ k u,q.V.T[k]? = some u->relT q c (2+k)=u:=fun k u hk=>by
    have hlt:k<q.V.T.length:=(List.getElem?_eq_some_iff.1 hk).1
    unfold relT
    rw [zfD,if_pos (by omega),show 2+k-2=k by omega]
    simp [List.getD,hk]
  have hrN:∀ j,relT q c (2+q.V.T.length+j)=c+j:=fun j=>by
    unfold relT
    rw [zfD,if_neg (by omega),show 2+q.V.T.length+j-(2+q.V.T.length)=j by omega]
  have hφ:∀ t,1<t->t<mo.length->(q.back E E' c mo.length).φ (relT q c t)=E'.φ t:=fun t h1 h2=>by
    by_cases hlt:t<2+q.V.T.length
    · obtain ⟨k,rfl⟩:∃ k,t=2+k:=⟨t-2,by omega⟩
      have hk:q.V.T[k]? = some (q.V.T[k]'(by omega)):=List.getElem?_eq_getElem (by omega)
      generalize q.V.T[k]'(by omega)=u at hk
      rw [hrT k u hk]
      show (if c<=u/\u<c+16 then _ else (match idxO q.V.T u with | some k=>E'.φ (2+k) | none=>E.φ u))=_
      rw [if_neg (hlive u (List.mem_of_getElem? hk))]
      cases hi:idxO q.V.T u with
      | none=>exact absurd (List.mem_of_getElem? hk) (zkf hi)
      | some k'=>rw [ziw hg.nd (zi6 hi) hk]
    · obtain ⟨j,rfl⟩:∃ j,t=2+q.V.T.length+j:=⟨t-(2+q.V.T.length),by omega⟩
      rw [hrN j]
      show (if c<=c+j/\c+j<c+16 then E'.φ (2+q.V.T.length+(c+j-c)) else _)=_
      rw [if_pos ⟨by omega,by omega⟩,show c+j-c=j by omega]
  have hφo:∀ t,t∉q.V.T->¬ (c<=t/\t<c+16)->(q.back E E' c mo.length).φ t=E.φ t:=fun t h1 h2=>by
    show (if c<=t/\t<c+16 then _ else (match idxO q.V.T t with | some k=>E'.φ (2+k) | none=>E.φ t))=_
    rw [if_neg h2]
    cases hi:idxO q.V.T t with
    | none=>rfl
    | some k=>exact absurd (List.mem_of_getElem? (zi6 hi)) h1
  have hmo:∀ t,t<mo.length->mOf mo t=mo.getD t .dead:=fun t h2=>by
    have hat:mo[t]? = some (mo[t]'h2):=List.getElem?_eq_getElem h2
    rw [zeu];simp [List.getD,hat]
  have hFo:∀ t,1<t->t<mo.length->∀ x b,Fo (q.back E E' c mo.length) (relT q c t) x (relB q c (mo.getD t .dead)) b->(relB q c (mo.getD t .dead)).live=true->Fo E' t x (mOf mo t) b:=by
    intro t h1 h2 x b hf hl
    rw [hmo t h2]
    generalize mo.getD t .dead=e at *
    cases e with
    | empty=>cases hl
    | dead=>cases hl
    | cells T vs=>exact hf
    | row T ls r=>exact hf
    | obj o => have hf : (q.back E E' c mo.length).φ (relT q c t) b := hf
               rw [hφ t h1 h2] at hf;exact hf
  -- what a callee's entry says, in the caller's names
  have hHold:∀ t,1<t->t<mo.length->(relB q c (mo.getD t .dead)).live=true->∃ x,E'.β t=some x/\Holds (q.back E E' c mo.length) w' (relT q c t) x (relB q c (mo.getD t .dead))/\(mOf mo t).live=true:=by
    intro t h1 h2 hl
    have hat:mo[t]? = some (mo[t]'h2):=List.getElem?_eq_getElem h2
    have e1:mo.getD t .dead=mo[t]'h2:=by simp [List.getD,hat]
    have e2:mOf mo t=mo[t]'h2:=by rw [zeu];simp [List.getD,hat]
    rw [e1] at hl ⊢
    rw [e2]
    have hok:okB q mo.length (mo[t]'h2)=true:=List.all_eq_true.1 hO2 _ (List.mem_of_getElem? hat)
    generalize mo[t]'h2=e at *
    cases e with
    | empty=>cases hl
    | dead=>cases hl
    | cells T vs=>
      obtain ⟨b,xs,c1,c2,c3,c4⟩:=hm'.cells t T vs e2
      exact ⟨_,c1,⟨b,xs,rfl,c2,zjT vs xs (fun s hs v hv=>hden0 s (List.all_eq_true.1 hok s hs) v hv) c3,zs2 c4⟩,rfl⟩
    | row T ls r=>
      obtain ⟨x,c1,c2⟩:=hm'.row t T ls r e2
      exact ⟨x,c1,c2.mono (Nat.le_refl _) (fun b hb=>hset ls hok b hb),rfl⟩
    | obj o=>
      obtain ⟨b,c1,c2⟩:=hm'.obj t o e2
      exact ⟨_,c1,⟨b,rfl,by rw [hφ t h1 h2];exact c2⟩,rfl⟩
  -- whose block it is
  have hcase:∀ t b,Has (q.back E E' c mo.length) (putF (q.upds c mo) q.V.m) t b->(∃ t',1<t'/\t'<mo.length/\Has E' (mOf mo) t' b/\t=relT q c t')\/(t∉q.V.T/\¬ (c<=t/\t<c+16)/\Has E q.V.m t b):=by
    intro t b ⟨hl,x,hx,hxb⟩
    by_cases ht:t∈q.V.T
    · obtain ⟨k,hk,e⟩:=List.getElem_of_mem ht
      have hk2:q.V.T[k]? = some t:=by rw [<- e];exact List.getElem?_eq_getElem hk
      rw [hmT k t hk2] at hl hxb
      obtain ⟨y,h1,_,h3⟩:=hHold (2+k) (by omega) (by omega) hl
      obtain ⟨z,h4,h5⟩:=hkeep k t hk2
      rw [hbβ t (hlive t ht),h4] at hx
      simp only [Option.some.injEq] at hx
      subst hx
      exact .inl ⟨2+k,by omega,by omega,⟨h3,_,h5,hFo (2+k) (by omega) (by omega) _ b (by rw [hrT k t hk2];exact hxb) hl⟩,(hrT k t hk2).symm⟩
    · by_cases hc:c<=t/\t<c+16
      · obtain ⟨j,rfl⟩:∃ j,t=c+j:=⟨t-c,by omega⟩
        rw [hmN j (by omega)] at hl hxb
        have hlt:2+q.V.T.length+j<mo.length:=by
          rcases Nat.lt_or_ge (2+q.V.T.length+j) mo.length with h | h
          · exact h
          · simp [List.getD,List.getElem?_eq_none h,relB,BE.live] at hl
        obtain ⟨y,h1,_,h3⟩:=hHold _ (by omega) hlt hl
        rw [hbβn j hlt,h1] at hx
        simp only [Option.some.injEq] at hx
        subst hx
        exact .inl ⟨_,by omega,hlt,⟨h3,_,h1,hFo _ (by omega) hlt _ b (by rw [hrN j];exact hxb) hl⟩,(hrN j).symm⟩
      · rw [hmO t ht hc] at hl hxb
        rw [hbβ t hc] at hx
        refine .inr ⟨ht,hc,hl,x,hx,?_⟩
        cases hmt:q.V.m t with
        | obj o=>
          rw [hmt] at hxb
          have hxb:(q.back E E' c mo.length).φ t b:=hxb
          rw [hφo t ht hc] at hxb;exact hxb
        | _=>rw [hmt] at hxb;exact hxb
  have hbl:∀ i b,(q.back E E' c mo.length).σ i b->(c<=i/\i<c+16/\E'.σ (q.nl+(i-c)) b)\/(¬ (c<=i/\i<c+16)/\E.σ i b):=fun i b hs=>by
    by_cases hc:c<=i/\i<c+16
    · obtain ⟨j,rfl⟩:∃ j,i=c+j:=⟨i-c,by omega⟩
      rw [hbσn j b (by omega)] at hs
      exact .inl ⟨hc.1,hc.2,by rw [show c+j-c=j by omega];exact hs⟩
    · exact .inr ⟨hc,(hbσ i b hc).1 hs⟩
  -- a block that the callee names is new or handed in
  have hnewL:∀ j b,q.nl<=j->E'.σ j b->w.heap.size<=b\/∃ u,u∈q.V.T/\Has E q.V.m u b:=fun j b hj hs=>((hm'.lab j b hs).2 hj).imp id (hX b)
  have hnewT:∀ t b,Has E' (mOf mo) t b->w.heap.size<=b\/∃ u,u∈q.V.T/\Has E q.V.m u b:=fun t b hh=>((hm'.sep t b hh).2).imp id (hX b)
  refine hm.go hle hSame (fun t=>t∈q.V.T\/(c<=t/\t<c+16)) (fun t ht=>?_) (fun t ht hmt b hs=>?_) (fun t b ht hh=>hbx.block b (hm.lt hh) (fun hx=>?_)) (fun t ht=>?_) (fun i b hs=>?_) (fun i j b h1 h2=>?_) (fun t b hh=>?_) (fun i b hi hs=>?_) (fun t u b h1 h2=>?_)
    ⟨hbx.os,hbx.tape,hbx.output,hbx.size,fun b hlt hnx=>hbx.block b (Nat.lt_of_lt_of_le hlt hm.base) (fun hx=>?_)⟩
  · simp only [not_or] at ht
    exact ⟨hmO t ht.1 ht.2,hbβ t ht.2,hφo t ht.1 ht.2⟩
  · simp only [not_or] at ht
    exact (hm.empty t hmt).2 b ((hbσ t b ht.2).1 hs)
  · simp only [not_or] at ht
    obtain ⟨u,hu,hh2⟩:=hX b hx
    exact ht.1 (hm.inj t u b hh hh2▸hu)
  · by_cases hT:t∈q.V.T
    · obtain ⟨k,hk,e⟩:=List.getElem_of_mem hT
      have hk2:q.V.T[k]? = some t:=by rw [<- e];exact List.getElem?_eq_getElem hk
      rw [hmT k t hk2]
      refine ⟨zoZ _,fun hl=>?_⟩
      obtain ⟨y,h1,h2,_⟩:=hHold (2+k) (by omega) (by omega) hl
      obtain ⟨z,h4,h5⟩:=hkeep k t hk2
      rw [h5] at h1
      simp only [Option.some.injEq] at h1
      subst h1
      exact ⟨z,by rw [hbβ t (hlive t hT)];exact h4,by rw [hrT k t hk2] at h2;exact h2⟩
    · have hc:=ht.resolve_left hT
      obtain ⟨j,rfl⟩:∃ j,t=c+j:=⟨t-c,by omega⟩
      rw [hmN j (by omega)]
      refine ⟨zoZ _,fun hl=>?_⟩
      have hlt:2+q.V.T.length+j<mo.length:=by
        rcases Nat.lt_or_ge (2+q.V.T.length+j) mo.length with h | h
        · exact h
        · simp [List.getD,List.getElem?_eq_none h,relB,BE.live] at hl
      obtain ⟨y,h1,h2,_⟩:=hHold _ (by omega) hlt hl
      exact ⟨y,by rw [hbβn j hlt];exact h1,by rw [hrN j] at h2;exact h2⟩
  · rcases hbl i b hs with ⟨h1,h2,h3⟩ | ⟨h1,h3⟩
    · refine ⟨(hm'.lab _ b h3).1,fun _=>?_⟩
      rcases hnewL _ b (by omega) h3 with h4 | ⟨u,hu,hh⟩
      · exact .inl (Nat.le_trans hm.base h4)
      · exact (hm.sep u b hh).2
    · exact ⟨Nat.lt_of_lt_of_le (hm.lab i b h3).1 hbx.size,(hm.lab i b h3).2⟩
  · have cross:∀ j b,∀ i',E'.σ (q.nl+j) b->E.σ i' b->False:=fun j b i' h3 h4=>by
      rcases hnewL _ b (by omega) h3 with h5 | ⟨u,hu,hh⟩
      · have:=(hm.lab i' b h4).1;omega
      · exact (hm.sep u b hh).1 ⟨i',h4⟩
    rcases hbl i b h1 with ⟨h3,h4,h5⟩ | ⟨h3,h5⟩
    · rcases hbl j b h2 with ⟨h6,h7,h8⟩ | ⟨h6,h8⟩
      · have:=hm'.dis _ _ b h5 h8;omega
      · exact (cross _ b j h5 h8).elim
    · rcases hbl j b h2 with ⟨h6,h7,h8⟩ | ⟨h6,h8⟩
      · exact (cross _ b i h8 h5).elim
      · exact hm.dis i j b h5 h8
  · rcases hcase t b hh with ⟨t',h1,h2,h3,h4⟩ | ⟨h1,h2,h3⟩
    · refine ⟨fun ⟨i,hi⟩=>?_,?_⟩
      · rcases hbl i b hi with ⟨_,_,h5⟩ | ⟨_,h5⟩
        · exact (hm'.sep t' b h3).1 ⟨_,h5⟩
        · rcases hnewT t' b h3 with h6 | ⟨u,hu,hh2⟩
          · have:=(hm.lab i b h5).1;omega
          · exact (hm.sep u b hh2).1 ⟨i,h5⟩
      · rcases hnewT t' b h3 with h6 | ⟨u,hu,hh2⟩
        · exact .inl (Nat.le_trans hm.base h6)
        · exact (hm.sep u b hh2).2
    · refine ⟨fun ⟨i,hi⟩=>?_,(hm.sep t b h3).2⟩
      rcases hbl i b hi with ⟨_,_,h5⟩ | ⟨_,h5⟩
      · rcases hnewL _ b (by omega) h5 with h6 | ⟨u,hu,hh2⟩
        · have:=hm.lt h3;omega
        · exact h1 (hm.inj t u b h3 hh2▸hu)
      · exact (hm.sep t b h3).1 ⟨i,h5⟩
  · rcases hbl i b hs with ⟨h1,h2,_⟩ | ⟨_,h3⟩
    · exact absurd (hfree i h1 h2) (hm.low i hi)
    · exact hm.old i b hi h3
  · rcases hcase t b h1 with ⟨t',a1,a2,a3,a4⟩ | ⟨a1,a2,a3⟩
    · rcases hcase u b h2 with ⟨u',b1,b2,b3,b4⟩ | ⟨b1,b2,b3⟩
      · rw [a4,b4,hm'.inj t' u' b a3 b3]
      · exfalso
        rcases hnewT t' b a3 with h6 | ⟨z,hz,hh2⟩
        · have:=hm.lt b3;omega
        · exact b1 (hm.inj u z b b3 hh2▸hz)
    · rcases hcase u b h2 with ⟨u',b1,b2,b3,b4⟩ | ⟨b1,b2,b3⟩
      · exfalso
        rcases hnewT u' b b3 with h6 | ⟨z,hz,hh2⟩
        · have:=hm.lt a3;omega
        · exact a1 (hm.inj t z b a3 hh2▸hz)
      · exact hm.inj t u b a3 b3
  · obtain ⟨u,_,hh⟩:=hX b hx
    rcases (hm.sep u b hh).2 with h1 | h1
    · omega
    · exact hnx h1
end
end Go.Proofs.YtkhphiahindnnaaGreat
namespace Go.Proofs.YtkhphiahindnnaaGreat
open Go.RowKit Go.ChangeShapes Go.WideShapes Go.Deep
def zsT:BE->Bool
 | .row .. => true
 | _=>false
def zb6:BE->List Nat
 | .cells _ vs=>vs.flatMap zao
 | _=>[]
def zhq (m:Nat->BE) (svs:List SV):List Nat:=
 dedN [] (svs.flatMap zaZ++((svs.flatMap zaZ).flatMap fun t=>zb6 (m t)).filter fun t=>zsT (m t))
def nrmS:Nat->List (Nat×TypeId×RL)->List SV->List SV×List (Nat×BE)
 | _,[],vs=>(vs,[])
 | c,(i,T,r)::q,vs=>match vs[i]? with
  | some .nil=>((nrmS (c+1) q (vs.set i (.own c))).1,(c,.row T [] r.emp)::(nrmS (c+1) q (vs.set i (.own c))).2)
  | _=>nrmS (c+1) q vs
def zdU:List SV->Option Nat
 | []=>none
 | .ptr t _::_=>some t
 | _::r=>zdU r
def nrm (vr:List (Nat×TypeId×RL)) (c:Nat) (m:Nat->BE) (svs:List SV):List (Nat×BE):=
 match zdU svs with
 | some t=>match m t with
  | .cells T vs=>match (nrmS c vr vs).2 with
   | []=>[]
   | U=>(t,.cells T (nrmS c vr vs).1)::U
  | _=>[]
 | none=>[]
def clOf (e:Ent) (m1:Nat->BE) (svs:List SV):Cl:=⟨⟨m1,match e.wr with | true=>zhq m1 svs | false=>[]⟩,e.al,e.gl,e.nl,svs⟩
def orcE (e:Ent) (c:Nat) (st:St) (svs:List SV) (U:List (Nat×BE)) (q:Cl):Option Upd:=
 if q.ok&&(blkN c 24).all st.free&&Nat.ble e.vr.length 8 then (match e.go q.ins q.mi with
  | some (n,out,mo)=>if q.okO out mo then some ⟨q.needs++n,relV q (c+8) out,q.upds (c+8) mo++U⟩ else none
  | none=>none) else none
def orcT (tab:List Ent) (c:Nat) (f:FuncId) (st:St) (svs:List SV):Option Upd:=
 match znS tab f with
 | none=>none
 | some e=>orcE e c st svs (nrm e.vr c st.m svs) (clOf e (putF (nrm e.vr c st.m svs) st.m) svs)
section
variable {P : Program} {base : Nat} {X : Cx} {w0 : World}
theorem zdB:∀ (vr:List (Nat×TypeId×RL)) (c:Nat) (vs:List SV),∀ t e,(t,e)∈(nrmS c vr vs).2->c<=t/\t<c+vr.length/\zsT e=true
 | [],c,vs,t,e,h=>by simp [nrmS] at h
 | (i,T,r)::q,c,vs,t,e,h=>by
  simp only [nrmS] at h
  split at h
  ·rcases List.mem_cons.1 h with h1 | h1
   ·cases h1;exact ⟨Nat.le_refl _,by simp,rfl⟩
   ·have:=zdB q (c+1) _ t e h1
    exact ⟨by omega,by simp;omega,this.2.2⟩
  ·have:=zdB q (c+1) _ t e h
   exact ⟨by omega,by simp;omega,this.2.2⟩
theorem zeI {l:List (Nat×BE)} {m:Nat->BE} {t:Nat} (h:∀ e,(t,e)∉l):putF l m t=m t:=by
 induction l with
 | nil=>rfl
 | cons x l ih=>
  obtain ⟨k,e⟩:=x
  show (if t=k then e else putF l m t)=_
  have hk:t≠k:=fun e2=>h e (by rw [e2];exact List.mem_cons_self ..)
  rw [if_neg hk,ih (fun e he=>h e (List.mem_cons_of_mem _ he))]
theorem zmy {l:List (Nat×BE)} {m:Nat->BE} {t:Nat}:putF l m t=m t\/(t,putF l m t)∈l:=by
 induction l with
 | nil=>exact .inl rfl
 | cons x l ih=>
  obtain ⟨k,e⟩:=x
  show (if t=k then e else putF l m t)=_\/(t,if t=k then e else putF l m t)∈_
  by_cases hk:t=k
  ·rw [if_pos hk];subst hk;exact .inr (List.mem_cons_self ..)
  ·rw [if_neg hk];exact ih.imp id (fun h=>List.mem_cons_of_mem _ h)
theorem ztf {vs:List SV} {i:Nat} {s:SV} (h:vs.all SV.flat=true) (hs:s.flat=true):(vs.set i s).all SV.flat=true:=by
 simp only [List.all_eq_true] at *
 intro x hx
 rcases List.mem_or_eq_of_mem_set hx with h1 | h1
 ·exact h x h1
 ·rw [h1];exact hs
theorem DenL.setN {E:Env} {w:World}:∀ {vs:List SV} {xs:List Value} {i c:Nat},DenL E w vs xs->vs[i]? = some .nil->E.β c=some (.slice none 0 0)->DenL E w (vs.set i (.own c)) xs
 | s::vs,x::xs,0,c,h,hi,hc=>by
  simp only [List.getElem?_cons_zero,Option.some.injEq] at hi
  subst hi
  have:x = .slice none 0 0:=h.1
  subst this
  exact ⟨⟨hc,rfl⟩,h.2⟩
 | s::vs,x::xs,i+1,c,h,hi,hc=>⟨h.1,DenL.setN (vs:=vs) (xs:=xs) h.2 (by simpa using hi) hc⟩
 | [],_,_,_,_,hi,_=>by simp at hi
 | _::_,[],_,_,h,_,_=>h.elim
theorem zle {T0:TypeId} {t0:Nat} {w:World}:∀ (vr:List (Nat×TypeId×RL)) (c:Nat) (vs:List SV) (E:Env) (m:Nat->BE),MemOk base X w0 E m w->m t0 = .cells T0 vs->(∀ t,c<=t->t<c+vr.length->m t = .empty) ->
  ∃ E',E.Le E'/\(∀ i b,E'.σ i b->E.σ i b)/\MemOk base X w0 E' (putF ((t0,.cells T0 (nrmS c vr vs).1)::(nrmS c vr vs).2) m) w
 | [],c,vs,E,m,hm,ht,hf=>by
  refine ⟨E,Env.Le.refl E,fun _ _ h=>h,?_⟩
  have:putF ((t0,.cells T0 (nrmS c [] vs).1)::(nrmS c [] vs).2) m=m:=by
   funext u
   show (if u=t0 then _ else m u)=m u
   by_cases h:u=t0
   ·subst h;rw [if_pos rfl,ht];rfl
   ·rw [if_neg h]
  rw [this];exact hm
 | (i,T,r)::q,c,vs,E,m,hm,ht,hf=>by
  simp only [nrmS]
  split
  ·rename_i hi
   have hce:m c = .empty:=hf c (Nat.le_refl _) (by simp)
   have hct:t0≠c:=fun e=>by rw [e,hce] at ht;cases ht
   have hβc:=(hm.empty c hce).1
   have hm1:=hm.take (w':=w) hce (.slice none 0 0) (.row T [] r.emp) (by simp) (Nat.le_refl _) (fun _ _=>rfl) (BelowX.refl _ _ _) (fun b hb=>by simp [zaV] at hb) (by show OwnR _ _ _ _ _ _ _;rw [r.emp_ok.1];exact OwnR.nil _ _ _ _ _)
   have hm2:MemOk base X w0 (E.setβ c (.slice none 0 0)) (upd (upd m c (.row T [] r.emp)) t0 (.cells T0 (vs.set i (.own c)))) w:=by
    refine hm1.weak fun t=>?_
    by_cases h:t=t0
    ·subst h
     rw [zbi,zbg _ _ hct,ht]
     refine .inr (.inr ⟨rfl,rfl,rfl,fun v hv=>?_⟩)
     obtain ⟨b,xs,h1,h2,h3,h4⟩:=hv
     exact ⟨b,xs,h1,h2,DenL.setN h3 hi (if_pos rfl),ztf h4 rfl⟩
    ·rw [zbg _ _ h];exact .inl rfl
   obtain ⟨E',h1,h2,h3⟩:=zle q (c+1) (vs.set i (.own c)) _ _ hm2 (zbi _ _ _) (fun t h1 h2=>by
    have hne:t≠t0:=fun e=>by
     have:=hf t (by omega) (by simp;omega)
     rw [e,ht] at this;cases this
    rw [zbg _ _ hne,zbg _ _ (by omega)]
    exact hf t (by omega) (by simp;omega))
   refine ⟨E',(Env.setβ_le hβc _).trans h1,h2,?_⟩
   have e:putF ((t0,.cells T0 (nrmS (c+1) q (vs.set i (.own c))).1)::(nrmS (c+1) q (vs.set i (.own c))).2) (upd (upd m c (.row T [] r.emp)) t0 (.cells T0 (vs.set i (.own c))))=putF ((t0,.cells T0 (nrmS (c+1) q (vs.set i (.own c))).1)::(c,.row T [] r.emp)::(nrmS (c+1) q (vs.set i (.own c))).2) m:=by
    funext u
    show (if u=t0 then _ else _)=(if u=t0 then _ else if u=c then _ else _)
    by_cases hu:u=t0
    ·rw [if_pos hu,if_pos hu]
    ·rw [if_neg hu,if_neg hu]
     by_cases hc:u=c
     ·subst hc
      rw [if_pos rfl,zeI (fun e he=>by have:=(zdB q (u+1) _ u e he).1;omega),zbg _ _ hu,zbi]
     ·rw [if_neg hc]
      rcases zmy (l:=(nrmS (c+1) q (vs.set i (.own c))).2) (m:=m) (t:=u) with h5 | h5
      ·by_cases hk:∃ e,(u,e)∈(nrmS (c+1) q (vs.set i (.own c))).2
       ·have key:∀ (l:List (Nat×BE)) (m m2:Nat->BE),(∃ e,(u,e)∈l)->putF l m u=putF l m2 u:=by
         intro l m m2 ⟨e,he⟩
         exact zgo l m m2 u (List.mem_map.2 ⟨_,he,rfl⟩)
        exact key _ _ _ hk
       ·rw [h5,zeI (fun e he=>hk ⟨e,he⟩),zbg _ _ hu,zbg _ _ hc]
      ·exact zgo _ _ _ u (List.mem_map.2 ⟨_,h5,rfl⟩)
   rw [<- e];exact h3
  ·obtain ⟨E',h1,h2,h3⟩:=zle q (c+1) vs E m hm ht (fun t h1 h2=>hf t (by omega) (by simp;omega))
   exact ⟨E',h1,h2,h3⟩
theorem zxb {vr:List (Nat×TypeId×RL)} {c:Nat} {svs:List SV} {w:World} {E:Env} {m:Nat->BE} (hm:MemOk base X w0 E m w) (hf:∀ t,c<=t->t<c+vr.length->m t = .empty) :
  ∃ E',E.Le E'/\(∀ i b,E'.σ i b->E.σ i b)/\MemOk base X w0 E' (putF (nrm vr c m svs) m) w:=by
 unfold nrm
 have h0:∃ E',E.Le E'/\(∀ i b,E'.σ i b->E.σ i b)/\MemOk base X w0 E' (putF [] m) w:=⟨E,Env.Le.refl E,fun _ _ h=>h,hm⟩
 split
 ·split
  ·rename_i T vs ht
   split
   ·exact h0
   ·exact zle vr c vs E m hm ht hf
  ·exact h0
 ·exact h0
theorem zvk {tab:List Ent} (ht:∀ e∈tab,zaf P e) (kd:TypeId->Option RL) (ow:FuncId->St->List SV->Option (List Prop×List Nat×SV)):zgZ P ⟨kd,orcT tab,ow⟩:=by
 intro c f st svs u hu
 have hu2:orcT tab c f st svs=some u:=hu
 clear hu
 have hu:=hu2
 clear hu2
 unfold orcT at hu
 split at hu
 case h_1=>simp at hu
 rename_i e he
 obtain ⟨hin,rfl⟩:=zkp he
 obtain ⟨hB,hE⟩:=ht e hin
 refine ⟨hB,fun base X w0 E w vals hm hd hn=>?_⟩
 unfold orcE at hu
 split at hu
 case isFalse=>simp at hu
 rename_i hck
 simp only [Bool.and_eq_true] at hck
 obtain ⟨⟨hok,hfr⟩,hvr⟩:=hck
 split at hu
 case h_2=>simp at hu
 rename_i n out mo hgo
 split at hu
 case isFalse=>simp at hu
 rename_i hO
 simp only [Option.some.injEq] at hu
 subst hu
 have hfree:∀ t,c<=t->t<c+24->st.m t = .empty:=fun t h1 h2=>St.of_free (List.all_eq_true.1 hfr t ((zdr 24 c t).2 ⟨h1,h2⟩))
 have hvl:=Nat.le_of_ble_eq_true hvr
 obtain ⟨E1,hE1,hσ1,hm1⟩:=zxb (vr:=e.vr) (svs:=svs) hm (fun t h1 h2=>hfree t h1 (by omega))
 have hS1:Same E.lab w w:=Same.rfl'
 have hnk:∀ t,c+8<=t->t<c+24->putF (nrm e.vr c st.m svs) st.m t = .empty:=by
  intro t h1 h2
  rw [zeI]
  ·exact hfree t (by omega) h2
  ·intro e' he'
   unfold nrm at he'
   split at he'
   ·split at he'
    ·rename_i t0 _ T vs hmt
     split at he'
     ·cases he'
     ·rcases List.mem_cons.1 he' with h3 | h3
      ·cases h3
       have:=hfree t (by omega) h2
       rw [hmt] at this;cases this
      ·have:=zdB e.vr c vs t e' h3;omega
    ·cases he'
   ·cases he'
 have hcall:=Cl.call (q:=clOf e (putF (nrm e.vr c st.m svs) st.m) svs) hm1 (Cl.good hok) (fun p hp=>hn p (List.mem_append_left _ hp)) (c:=c+8) (fun t h1 h2=>hnk t h1 (by omega)) (hE _ _ n out mo hgo (fun p hp=>hn p (List.mem_append_right _ hp))) hO (DenL.mono hE1 hS1 _ _ hd)
 refine Calls.mono hcall ?_
 rintro e' w' ⟨v,E',h1,h2,h3,h4,h5⟩
 refine ⟨v,E',h1,hE1.trans h2,⟨h3.size,fun b hl=>h3.block b (by obtain ⟨i,hi⟩:=hl;exact ⟨i,hE1.σ i b hi⟩)⟩,h4,?_⟩
 rw [zs7];exact h5
theorem zlU {m m':Nat->BE} {T:List Nat} {l:Nat} {s:SV} (h:∀ t,t∈zao s->m t=m' t):vw0 ⟨m,T⟩ l s=vw0 ⟨m',T⟩ l s/\lp0 ⟨m,T⟩ l s=lp0 ⟨m',T⟩ l s/\op0 ⟨m,T⟩ l s=op0 ⟨m',T⟩ l s:=by
 cases s
 case own t=>simp only [vw0,lp0,op0,h t (by simp [zao])];refine ⟨?_,?_,?_⟩<;>first | rfl | trivial
 all_goals exact ⟨rfl,rfl,rfl⟩
theorem zoy {f g:SV->SV×List Prop}:∀ (ss:List SV),(∀ s,s∈ss->f s=g s)->vwL f ss=vwL g ss
 | [],_=>rfl
 | s::ss,h=>by rw [vwL,vwL,h s (List.mem_cons_self ..),zoy ss (fun s hs=>h s (List.mem_cons_of_mem _ hs))]
theorem zct {α β:Type} {f g:α->List β}:∀ (ss:List α),(∀ s,s∈ss->f s=g s)->ss.flatMap f=ss.flatMap g
 | [],_=>rfl
 | s::ss,h=>by rw [List.flatMap_cons,List.flatMap_cons,h s (List.mem_cons_self ..),zct ss (fun s hs=>h s (List.mem_cons_of_mem _ hs))]
theorem zlT {m m':Nat->BE} {T:List Nat} {l:Nat} (vs:List SV) (h:∀ t,t∈vs.flatMap zao->m t=m' t):vwL (vw0 ⟨m,T⟩ l) vs=vwL (vw0 ⟨m',T⟩ l) vs/\vs.flatMap (lp0 ⟨m,T⟩ l)=vs.flatMap (lp0 ⟨m',T⟩ l)/\vs.flatMap (op0 ⟨m,T⟩ l)=vs.flatMap (op0 ⟨m',T⟩ l):=by
 have key:∀ s,s∈vs->∀ t,t∈zao s->m t=m' t:=fun s hs t ht=>h t (List.mem_flatMap.2 ⟨s,hs,ht⟩)
 exact ⟨zoy vs (fun s hs=>(zlU (key s hs)).1),zct vs (fun s hs=>(zlU (key s hs)).2.1),zct vs (fun s hs=>(zlU (key s hs)).2.2)⟩
def Deep (m m':Nat->BE) (ts:List Nat):Prop:=∀ t,t∈ts->m t=m' t/\∀ u,u∈zb6 (m t)->m u=m' u
theorem zlS {m m':Nat->BE} {T:List Nat} {l:Nat} {s:SV} (h:Deep m m' (svR s)):vwR ⟨m,T⟩ l s=vwR ⟨m',T⟩ l s/\lpR ⟨m,T⟩ l s=lpR ⟨m',T⟩ l s/\opR ⟨m,T⟩ l s=opR ⟨m',T⟩ l s:=by
 have k0:∀ s,(∀ V l,vwR V l s=vw0 V l s/\lpR V l s=lp0 V l s/\opR V l s=op0 V l s)->svR s=zao s->Deep m m' (svR s)->vwR ⟨m,T⟩ l s=vwR ⟨m',T⟩ l s/\lpR ⟨m,T⟩ l s=lpR ⟨m',T⟩ l s/\opR ⟨m,T⟩ l s=opR ⟨m',T⟩ l s:=by
  intro s h1 h2 h3
  obtain ⟨a1,a2,a3⟩:=h1 ⟨m,T⟩ l
  obtain ⟨b1,b2,b3⟩:=h1 ⟨m',T⟩ l
  rw [a1,a2,a3,b1,b2,b3]
  exact zlU (fun t ht=>(h3 t (h2▸ht)).1)
 cases s
 case ptr t o=>
  obtain ⟨h1,h2⟩:=h t (by simp [svR,zao])
  simp only [vwR,lpR,opR,<- h1]
  cases idxO T t with
  | some k=>exact ⟨rfl,rfl,rfl⟩
  | none=>
   cases hm:m t with
   | cells Tb vs=>
    rw [hm] at h2
    obtain ⟨e1,e2,e3⟩:=zlT (T:=T) (l:=l) vs h2
    simp only [e1,e2,e3];exact ⟨trivial,trivial,trivial⟩
   | _=>exact ⟨rfl,rfl,rfl⟩
 case rp ls Tb vs o=>
  obtain ⟨e1,e2,e3⟩:=zlT (m:=m) (m':=m') (T:=T) (l:=l) vs (fun t ht=>(h t ht).1)
  simp only [vwR,lpR,opR,e1,e2,e3];exact ⟨trivial,trivial,trivial⟩
 case ro ls ob=>exact ⟨rfl,rfl,rfl⟩
 all_goals exact k0 _ (fun V l=>⟨rfl,rfl,rfl⟩) rfl h
theorem zo0 {m m':Nat->BE} {T:List Nat} {l:Nat} {s:SV} (h:Deep m m' (zaZ s)):vw1 ⟨m,T⟩ l s=vw1 ⟨m',T⟩ l s/\lp1 ⟨m,T⟩ l s=lp1 ⟨m',T⟩ l s/\op1 ⟨m,T⟩ l s=op1 ⟨m',T⟩ l s:=by
 have k0:∀ s,(∀ V l,vw1 V l s=vwR V l s/\lp1 V l s=lpR V l s/\op1 V l s=opR V l s)->zaZ s=svR s->Deep m m' (zaZ s)->vw1 ⟨m,T⟩ l s=vw1 ⟨m',T⟩ l s/\lp1 ⟨m,T⟩ l s=lp1 ⟨m',T⟩ l s/\op1 ⟨m,T⟩ l s=op1 ⟨m',T⟩ l s:=by
  intro s h1 h2 h3
  obtain ⟨a1,a2,a3⟩:=h1 ⟨m,T⟩ l
  obtain ⟨b1,b2,b3⟩:=h1 ⟨m',T⟩ l
  rw [a1,a2,a3,b1,b2,b3]
  exact zlS (h2▸h3)
 cases s
 case agg vs=>
  obtain ⟨e1,e2,e3⟩:=zlT (m:=m) (m':=m') (T:=T) (l:=l) vs (fun t ht=>(h t ht).1)
  simp only [vw1,lp1,op1,e1,e2,e3];exact ⟨trivial,trivial,trivial⟩
 case clo f vs=>
  have key:∀ s,s∈vs->Deep m m' (svR s):=fun s hs t ht=>h t (List.mem_flatMap.2 ⟨s,hs,ht⟩)
  have e1:=zoy vs (fun s hs=>(zlS (T:=T) (l:=l) (key s hs)).1)
  have e2:=zct vs (fun s hs=>(zlS (T:=T) (l:=l) (key s hs)).2.1)
  have e3:=zct vs (fun s hs=>(zlS (T:=T) (l:=l) (key s hs)).2.2)
  simp only [vw1,lp1,op1,e1,e2,e3];exact ⟨trivial,trivial,trivial⟩
 case gd g s=>exact ⟨rfl,rfl,rfl⟩
 all_goals exact k0 _ (fun V l=>⟨rfl,rfl,rfl⟩) rfl h
theorem zoz {m m':Nat->BE} {T:List Nat} {l t:Nat} (h:m t=m' t) (h2:∀ u,u∈zb6 (m t)->m u=m' u):vwB ⟨m,T⟩ l (m t)=vwB ⟨m',T⟩ l (m' t)/\lpB ⟨m,T⟩ l (m t)=lpB ⟨m',T⟩ l (m' t)/\opB ⟨m,T⟩ l (m t)=opB ⟨m',T⟩ l (m' t):=by
 rw [<- h]
 cases hm:m t with
 | cells Tb vs=>
  rw [hm] at h2
  obtain ⟨e1,e2,e3⟩:=zlT (T:=T) (l:=l) vs h2
  simp only [vwB,lpB,opB,e1,e2,e3];exact ⟨trivial,trivial,trivial⟩
 | _=>exact ⟨rfl,rfl,rfl⟩
theorem zdx {α β:Type} {f g:Nat->α->β}:∀ (xs:List α) (ls:List Nat),(∀ l x,x∈xs->f l x=g l x)->zipL f xs ls=zipL g xs ls
 | [],_,_=>rfl
 | x::r,[],h=>by rw [zipL,zipL,h 0 x (List.mem_cons_self ..),zdx r [] (fun l y hy=>h l y (List.mem_cons_of_mem _ hy))]
 | x::r,l::ls,h=>by rw [zipL,zipL,h l x (List.mem_cons_self ..),zdx r ls (fun l y hy=>h l y (List.mem_cons_of_mem _ hy))]
theorem ziY:∀ (l seen:List Nat) (t:Nat),t∈dedN seen l->t∈l
 | [],_,_,h=>by simp [dedN] at h
 | a::r,seen,t,h=>by
  rw [dedN] at h
  cases hc:seen.contains a
  ·rw [hc] at h
   simp only [cond_false] at h
   rcases List.mem_cons.1 h with h1 | h1
   ·rw [h1];exact List.mem_cons_self ..
   ·exact List.mem_cons_of_mem _ (ziY r _ t h1)
  ·rw [hc] at h
   exact List.mem_cons_of_mem _ (ziY r _ t h)
theorem zwl {e:Ent} {m m':Nat->BE} {svs:List SV} (h:Deep m m' (svs.flatMap zaZ)):(clOf e m svs).V.T=(clOf e m' svs).V.T/\(clOf e m svs).aV=(clOf e m' svs).aV/\(clOf e m svs).bV=(clOf e m' svs).bV/\(clOf e m svs).LP=(clOf e m' svs).LP/\(clOf e m svs).OP=(clOf e m' svs).OP/\(∀ u,u∈(clOf e m svs).V.T->m u=m' u):=by
 have hT2:((svs.flatMap zaZ).flatMap fun t=>zb6 (m t))=((svs.flatMap zaZ).flatMap fun t=>zb6 (m' t)):=zct _ (fun t ht=>by rw [(h t ht).1])
 have hin:∀ u,u∈((svs.flatMap zaZ).flatMap fun t=>zb6 (m t))->m u=m' u:=fun u hu=>by
  obtain ⟨t,ht,h2⟩:=List.mem_flatMap.1 hu
  exact (h t ht).2 u h2
 have hfil:(((svs.flatMap zaZ).flatMap fun t=>zb6 (m t)).filter fun t=>zsT (m t))=(((svs.flatMap zaZ).flatMap fun t=>zb6 (m' t)).filter fun t=>zsT (m' t)):=by
  rw [<- hT2]
  refine List.filter_congr fun u hu=>?_
  rw [hin u hu]
 have hT:zhq m svs=zhq m' svs:=by unfold zhq;rw [hfil]
 -- a tag of T
 have hmT:∀ u,u∈zhq m svs->m u=m' u/\∀ x,x∈zb6 (m u)->m x=m' x:=by
  intro u hu
  rcases List.mem_append.1 (ziY _ _ u hu) with h1 | h1
  ·exact h u h1
  ·obtain ⟨h2,h3⟩:=List.mem_filter.1 h1
   refine ⟨hin u h2,fun x hx=>?_⟩
   cases hm:m u with
   | row=>rw [hm] at hx;cases hx
   | _=>rw [hm] at h3;cases h3
 have hV:(clOf e m svs).V.T=(clOf e m' svs).V.T:=by
  unfold clOf
  cases e.wr with
  | false=>rfl
  | true=>exact hT
 have hmV:∀ u,u∈(clOf e m svs).V.T->m u=m' u/\∀ x,x∈zb6 (m u)->m x=m' x:=by
  intro u hu
  have hu:u∈(match e.wr with | true=>zhq m svs | false=>[]):=hu
  cases hw:e.wr with
  | false=>rw [hw] at hu;cases hu
  | true=>rw [hw] at hu;exact hmT u hu
 have e1:(clOf e m' svs).V=⟨m',(clOf e m svs).V.T⟩:=by rw [hV];rfl
 have e0:(clOf e m svs).V=⟨m,(clOf e m svs).V.T⟩:=rfl
 have hd:∀ s,s∈svs->Deep m m' (zaZ s):=fun s hs t ht=>h t (List.mem_flatMap.2 ⟨s,hs,ht⟩)
 have a1:∀ l s,s∈svs->vw1 (clOf e m svs).V l s=vw1 (clOf e m' svs).V l s:=fun l s hs=>by rw [e1,e0];exact (zo0 (hd s hs)).1
 have a2:∀ l s,s∈svs->lp1 (clOf e m svs).V l s=lp1 (clOf e m' svs).V l s:=fun l s hs=>by rw [e1,e0];exact (zo0 (hd s hs)).2.1
 have a3:∀ l s,s∈svs->op1 (clOf e m svs).V l s=op1 (clOf e m' svs).V l s:=fun l s hs=>by rw [e1,e0];exact (zo0 (hd s hs)).2.2
 have b1:∀ l t,t∈(clOf e m svs).V.T->vwB (clOf e m svs).V l (m t)=vwB (clOf e m' svs).V l (m' t):=fun l t ht=>by rw [e1,e0];exact (zoz (hmV t ht).1 (hmV t ht).2).1
 have b2:∀ l t,t∈(clOf e m svs).V.T->lpB (clOf e m svs).V l (m t)=lpB (clOf e m' svs).V l (m' t):=fun l t ht=>by rw [e1,e0];exact (zoz (hmV t ht).1 (hmV t ht).2).2.1
 have b3:∀ l t,t∈(clOf e m svs).V.T->opB (clOf e m svs).V l (m t)=opB (clOf e m' svs).V l (m' t):=fun l t ht=>by rw [e1,e0];exact (zoz (hmV t ht).1 (hmV t ht).2).2.2
 refine ⟨hV,zdx _ _ a1,?_,?_,?_,fun u hu=>(hmV u hu).1⟩
 ·show zipL (fun l t=>vwB (clOf e m svs).V l (m t)) (clOf e m svs).V.T e.gl=zipL (fun l t=>vwB (clOf e m' svs).V l (m' t)) (clOf e m' svs).V.T e.gl
  rw [<- hV];exact zdx _ _ b1
 ·show (zipL (fun l s=>lp1 (clOf e m svs).V l s) svs e.al).flatMap id++(zipL (fun l t=>lpB (clOf e m svs).V l (m t)) (clOf e m svs).V.T e.gl).flatMap id=(zipL (fun l s=>lp1 (clOf e m' svs).V l s) svs e.al).flatMap id++(zipL (fun l t=>lpB (clOf e m' svs).V l (m' t)) (clOf e m' svs).V.T e.gl).flatMap id
  rw [<- hV,zdx _ _ a2,zdx _ _ b2]
 ·show (zipL (fun l s=>op1 (clOf e m svs).V l s) svs e.al).flatMap id++(zipL (fun l t=>opB (clOf e m svs).V l (m t)) (clOf e m svs).V.T e.gl).flatMap id=(zipL (fun l s=>op1 (clOf e m' svs).V l s) svs e.al).flatMap id++(zipL (fun l t=>opB (clOf e m' svs).V l (m' t)) (clOf e m' svs).V.T e.gl).flatMap id
  rw [<- hV,zdx _ _ a3,zdx _ _ b3]
theorem zvl {e:Ent} {c:Nat} {a b:St} {svs:List SV} {U:List (Nat×BE)} {q q':Cl} (hf:(blkN c 24).all a.free=(blkN c 24).all b.free) (h1:q.V.T=q'.V.T) (h2:q.aV=q'.aV) (h3:q.bV=q'.bV) (h4:q.LP=q'.LP) (h5:q.OP=q'.OP) (h6:∀ u,u∈q.V.T->q.V.m u=q'.V.m u) (h7:q.nl=q'.nl) :
  orcE e c a svs U q=orcE e c b svs U q':=by
 have k1:q.ok=q'.ok:=by
  unfold Cl.ok
  rw [h1,h3,h4,h5,h7]
  have:(q'.V.T.all fun u=>(q.V.m u).live)=(q'.V.T.all fun u=>(q'.V.m u).live):=by
   rw [Bool.eq_iff_iff,List.all_eq_true,List.all_eq_true]
   exact ⟨fun h u hu=>by rw [<- h6 u (h1▸hu)];exact h u hu,fun h u hu=>by rw [h6 u (h1▸hu)];exact h u hu⟩
  rw [this]
 have k2:q.ins=q'.ins:=by unfold Cl.ins;rw [h2]
 have k3:q.mi=q'.mi:=by unfold Cl.mi;rw [h3]
 have k4:q.needs=q'.needs:=by unfold Cl.needs;rw [h2,h3]
 have r1:∀ c ls,relL q c ls=relL q' c ls:=fun c ls=>by unfold relL;rw [h4,h7]
 have r2:∀ c t,relT q c t=relT q' c t:=fun c t=>by unfold relT;rw [h1]
 have r3:∀ c,rel0 q c=rel0 q' c:=fun c=>by funext s;cases s<;>simp only [rel0,r1,r2]
 have r4:∀ c,rel1 q c=rel1 q' c:=fun c=>by
  funext s
  unfold rel1
  rw [r3]
 have r5:∀ c,relV q c=relV q' c:=fun c=>by
  funext s
  unfold relV
  rw [r4]
 have r6:∀ c,relB q c=relB q' c:=fun c=>by
  funext s
  cases s<;>simp only [relB,r3,r1]
 have o1:okLs q=okLs q':=by funext ls;unfold okLs;rw [h5,h7]
 have o2:ok0 q=ok0 q':=by funext n s;cases s<;>simp only [ok0,o1]
 have o3:ok1 q=ok1 q':=by funext n s;unfold ok1;rw [o2]
 have o4:okV q=okV q':=by funext n s;unfold okV;rw [o3]
 have o5:okB q=okB q':=by funext n s;cases s<;>simp only [okB,o1,o2]
 have o6:∀ out mo,q.okO out mo=q'.okO out mo:=fun out mo=>by unfold Cl.okO;rw [o4,o5,h1]
 have u1:∀ c mo,q.upds c mo=q'.upds c mo:=fun c mo=>by unfold Cl.upds;rw [h1,r6]
 unfold orcE
 rw [k1,hf,k2,k3]
 simp only [o6,k4,r5,u1]
theorem zf8:∀ {svs:List SV} {t:Nat},zdU svs=some t->t∈svs.flatMap zaZ
 | [],_,h=>by simp [zdU] at h
 | s::r,t,h=>by
  unfold zdU at h
  split at h
  ·cases h
  ·rename_i t2 o r2 e
   simp only [Option.some.injEq] at h
   subst h
   cases e
   exact List.mem_flatMap.2 ⟨_,List.mem_cons_self ..,by simp [zaZ,svR,zao]⟩
  ·rename_i x r2 hx e
   cases e
   obtain ⟨s2,h1,h2⟩:=List.mem_flatMap.1 (zf8 h)
   exact List.mem_flatMap.2 ⟨s2,List.mem_cons_of_mem _ h1,h2⟩
theorem zgx:∀ (vr:List (Nat×TypeId×RL)) (c:Nat) (vs:List SV) (u:Nat),u∈(nrmS c vr vs).1.flatMap zao->u∈vs.flatMap zao\/(c<=u/\u<c+vr.length)
 | [],c,vs,u,h=> .inl h
 | (i,T,r)::q,c,vs,u,h=>by
  simp only [nrmS] at h
  split at h
  ·rcases zgx q (c+1) _ u h with h1 | h1
   ·obtain ⟨s,h2,h3⟩:=List.mem_flatMap.1 h1
    rcases List.mem_or_eq_of_mem_set h2 with h4 | h4
    ·exact .inl (List.mem_flatMap.2 ⟨s,h4,h3⟩)
    ·subst h4
     simp only [zao,List.mem_singleton] at h3
     subst h3
     exact .inr ⟨Nat.le_refl _,by simp⟩
   ·exact .inr ⟨by omega,by simp;omega⟩
  ·rcases zgx q (c+1) _ u h with h1 | h1
   ·exact .inl h1
   ·exact .inr ⟨by omega,by simp;omega⟩
theorem zsC (tab:List Ent) (kd:TypeId->Option RL) (ow:FuncId->St->List SV->Option (List Prop×List Nat×SV)):zfF ⟨kd,orcT tab,ow⟩:=by
 intro c f a b svs hl h
 show orcT tab c f a svs=orcT tab c f b svs
 unfold orcT
 cases znS tab f with
 | none=>rfl
 | some e=>
  simp only
  have hfree:(blkN c 24).all a.free=(blkN c 24).all b.free:=by
   have:∀ t,t∈blkN c 24->a.free t=b.free t:=fun t ht=>by simp only [St.free,h t (.inl ht)]
   rw [Bool.eq_iff_iff,List.all_eq_true,List.all_eq_true]
   exact ⟨fun h2 t ht=>by rw [<- this t ht];exact h2 t ht,fun h2 t ht=>by rw [this t ht];exact h2 t ht⟩
  by_cases hv:Nat.ble e.vr.length 8=true
  ·have hvl:=Nat.le_of_ble_eq_true hv
   have h1:∀ t,t∈svs.flatMap zaZ->a.m t=b.m t:=fun t ht=>h t (.inr (List.mem_append_left _ ht))
   have h2:∀ t,t∈svs.flatMap zaZ->∀ u,u∈zb6 (a.m t)->a.m u=b.m u:=fun t ht u hu=>h u (.inr (List.mem_append_right _ (List.mem_flatMap.2 ⟨t,ht,by
    unfold zb6 at hu
    split at hu
    ·rename_i e2;rw [e2];exact hu
    ·cases hu⟩)))
   have hU:nrm e.vr c a.m svs=nrm e.vr c b.m svs:=by
    unfold nrm
    cases hp:zdU svs with
    | none=>rfl
    | some t=>simp only;rw [h1 t (zf8 hp)]
   rw [<- hU]
   have hag:∀ t,(a.m t=b.m t)->putF (nrm e.vr c a.m svs) a.m t=putF (nrm e.vr c a.m svs) b.m t:=by
    intro t ht
    by_cases hk:∃ e',(t,e')∈nrm e.vr c a.m svs
    ·obtain ⟨e',he'⟩:=hk
     exact zgo _ _ _ t (List.mem_map.2 ⟨_,he',rfl⟩)
    ·rw [zeI (fun e' he'=>hk ⟨e',he'⟩),zeI (fun e' he'=>hk ⟨e',he'⟩)];exact ht
   have hblk:∀ t,c<=t->t<c+24->a.m t=b.m t:=fun t h3 h4=>h t (.inl ((zdr 24 c t).2 ⟨h3,h4⟩))
   have hdeep:Deep (putF (nrm e.vr c a.m svs) a.m) (putF (nrm e.vr c a.m svs) b.m) (svs.flatMap zaZ):=by
    intro t ht
    refine ⟨hag t (h1 t ht),fun u hu=>hag u ?_⟩
    rcases zmy (l:=nrm e.vr c a.m svs) (m:=a.m) (t:=t) with h3 | h3
    ·rw [h3] at hu;exact h2 t ht u hu
    ·generalize putF (nrm e.vr c a.m svs) a.m t=y at h3 hu
     unfold nrm at h3
     split at h3
     ·rename_i t0 hp
      split at h3
      ·rename_i T vs hmt
       split at h3
       ·cases h3
       ·rcases List.mem_cons.1 h3 with h4 | h4
        ·cases h4
         rcases zgx e.vr c vs u hu with h5 | h5
         ·exact h2 t ht u (by rw [hmt];exact h5)
         ·exact hblk u h5.1 (by omega)
        ·have:=(zdB e.vr c vs t y h4).2.2
         cases y with
         | row=>cases hu
         | _=>cases this
      ·cases h3
     ·cases h3
   obtain ⟨k1,k2,k3,k4,k5,k6⟩:=zwl (e:=e) hdeep
   exact zvl hfree k1 k2 k3 k4 k5 k6 rfl
  ·unfold orcE
   have:Nat.ble e.vr.length 8=false:=by cases hb:Nat.ble e.vr.length 8<;>simp_all
   rw [this];simp
end
end Go.Proofs.YtkhphiahindnnaaGreat
namespace Go.Proofs.YtkhphiahindnnaaGreat
open Go.RowKit Go.ChangeShapes Go.WideShapes Go.Deep
section ops
variable {P : Program} {base : Nat} {X : Cx} {w0 : World} {st : St}
theorem OwnR.put {w:World} {T:TypeId} {S S2:Nat->Prop} {fs:List Ty} {g o n c:Nat} {rows:List (List D)} (h:OwnR 0 w T S fs (.slice (some ⟨g,o,none⟩) n c) rows) {i off:Nat} (hi:i<rows.length) {xs zs:List Value} {ds:List D} {cur:Array Value} (hg:w.heap[g]? = some (.cells cur T (0,0)))
  (hx:xs=(cur.toList.drop (o+i*fs.length)).take fs.length) (ho:off+zs.length<=fs.length) (hd:RdL w (fun b=>S2 b/\b≠g) fs (xs.take off++zs++xs.drop (off+zs.length)) ds) :
  OwnR 0 (w.setRow g (cur.toList.take (o+i*fs.length+off)++zs++cur.toList.drop (o+i*fs.length+off+zs.length)).toArray) T (fun b=>S b\/S2 b) fs (.slice (some ⟨g,o,none⟩) n c) (rows.set i ds):=by
 obtain ⟨cells,ho2,hr⟩:=h
 rcases ho2.2 with ⟨e,_⟩ | ⟨g2,o2,cap,cur2,e,ho0,_,hg2,hnc,hcm,hcs,htake⟩
 ·simp at e
 simp only [Value.slice.injEq,Option.some.injEq,Addr.mk.injEq,and_true] at e
 obtain ⟨⟨rfl,rfl⟩,rfl,rfl⟩:=e
 rw [hg] at hg2
 simp only [Option.some.injEq,Obj.cells.injEq,and_true,true_and] at hg2
 subst hg2
 have hkey:∀ j,j<rows.length->j*fs.length+fs.length<=rows.length*fs.length:=fun j hj=>by
  have:(j+1)*fs.length<=rows.length*fs.length:=Nat.mul_le_mul_right _ hj
  rwa [Nat.add_mul,Nat.one_mul] at this
 have hcl:cells.length=rows.length*fs.length:=ho2.1
 have hcurl:o+rows.length*fs.length<=cur.toList.length:=by
  have h0:cur.toList.length=cur.size:=Array.length_toList
  rw [h0];exact Nat.le_trans (Nat.add_le_add_left (Nat.mul_le_mul_right _ hnc) _) hcs
 generalize hN:(cur.toList.take (o+i*fs.length+off)++zs++cur.toList.drop (o+i*fs.length+off+zs.length))=N
 have hk:=hkey i hi
 have hNl:N.length=cur.toList.length:=by rw [<- hN];simp;simp at hcurl;omega
 -- the cells anew
 have hat:∀ m,N[m]? = if m<o+i*fs.length+off then cur.toList[m]? else if m<o+i*fs.length+off+zs.length then zs[m-(o+i*fs.length+off)]? else cur.toList[m]? := by
  intro m
  have hll:(cur.toList.take (o+i*fs.length+off)).length=o+i*fs.length+off:=by simp;simp at hcurl;omega
  rw [<- hN,List.append_assoc]
  by_cases h1:m<o+i*fs.length+off
  ·rw [if_pos h1,List.getElem?_append_left (by omega),List.getElem?_take,if_pos h1]
  ·rw [if_neg h1,List.getElem?_append_right (by omega),hll]
   by_cases h2:m<o+i*fs.length+off+zs.length
   ·rw [if_pos h2,List.getElem?_append_left (by omega)]
   ·rw [if_neg h2,List.getElem?_append_right (by omega),List.getElem?_drop]
    congr 1;omega
 have hS:Same (fun b=>b≠g) w (w.setRow g N.toArray):=⟨by simp,fun b hb _=>setRow_other w g b _ hb⟩
 refine ⟨(N.drop o).take (rows.length*fs.length),⟨?_,.inr ⟨g,o,c,N.toArray,by simp,fun hs2=>⟨(ho0 hs2).1,by simp [hNl,(ho0 hs2).2]⟩,Nat.zero_le _,setRow_heap w g cur _ T _ hg,by simpa using hnc,hcm,by simp [hNl,hcs],by simp⟩⟩,fun j hj=>?_⟩
 ·simp [hNl];simp at hcurl;omega
 ·rw [List.length_set] at hj
  have hkj:=hkey j hj
  have e1:(((N.drop o).take (rows.length*fs.length)).drop (j*fs.length)).take fs.length=(N.drop (o+j*fs.length)).take fs.length:=by
   apply List.ext_getElem?
   intro m
   simp only [List.getElem?_take,List.getElem?_drop]
   by_cases hm:m<fs.length
   ·rw [if_pos hm,if_pos hm,if_pos (by omega),Nat.add_assoc]
   ·rw [if_neg hm,if_neg hm]
  rw [e1]
  by_cases hji:j=i
  ·subst hji
   have e2:(rows.set j ds).getD j []=ds:=by simp [List.getD,hj]
   have e3:(N.drop (o+j*fs.length)).take fs.length=xs.take off++zs++xs.drop (off+zs.length):=by
    apply List.ext_getElem?
    intro m
    have hxl:xs.length=fs.length:=by rw [hx];simp;simp at hcurl;omega
    rw [List.getElem?_take,List.getElem?_drop,hat,List.append_assoc]
    have hxa:∀ m,m<fs.length->xs[m]? = cur.toList[o+j*fs.length+m]? := fun m hm=>by rw [hx,List.getElem?_take,if_pos hm,List.getElem?_drop]
    by_cases hm:m<fs.length
    ·rw [if_pos hm]
     by_cases h1:m<off
     ·rw [if_pos (by omega),List.getElem?_append_left (by simp;omega),List.getElem?_take,if_pos h1,hxa m hm]
     ·rw [if_neg (by omega),List.getElem?_append_right (by simp;omega)]
      have hll:(xs.take off).length=off:=by simp;omega
      rw [hll]
      by_cases h2:m<off+zs.length
      ·rw [if_pos (by omega),List.getElem?_append_left (by omega)];congr 1;omega
      ·rw [if_neg (by omega),List.getElem?_append_right (by omega),List.getElem?_drop,show off+zs.length+(m-off-zs.length)=m by omega,hxa m hm]
    ·rw [if_neg hm,List.getElem?_eq_none]
     simp;omega
   rw [e2,e3]
   exact (hd.mono (fun b _ hb=>(⟨.inr hb.1,fun e=>hb.2 (by simpa [Value.ownBlock] using e.symm)⟩:(S b\/S2 b)/\Value.ownBlock (.slice (some ⟨g,o,none⟩) rows.length c)≠some b))).same (hS.mono fun b hb e=>hb.2 (by subst e;rfl))
  ·have hne:¬ i=j:=fun e=>hji e.symm
   have e2:(rows.set i ds).getD j []=rows.getD j []:=by simp [List.getD,List.getElem?_set,hne]
   have e3:(N.drop (o+j*fs.length)).take fs.length=(cells.drop (j*fs.length)).take fs.length:=by
    apply List.ext_getElem?
    intro m
    simp only [List.getElem?_take,List.getElem?_drop]
    by_cases hm:m<fs.length
    ·rw [if_pos hm,if_pos hm,<- htake,List.getElem?_take,if_pos (show j*fs.length+m<rows.length*fs.length by omega),List.getElem?_drop,<- Nat.add_assoc,hat]
     rcases Nat.lt_or_gt_of_ne hji with h1 | h1
     ·have:(j+1)*fs.length<=i*fs.length:=Nat.mul_le_mul_right _ h1
      rw [Nat.add_mul,Nat.one_mul] at this
      rw [if_pos (by omega)]
     ·have:(i+1)*fs.length<=j*fs.length:=Nat.mul_le_mul_right _ h1
      rw [Nat.add_mul,Nat.one_mul] at this
      rw [if_neg (by omega),if_neg (by omega)]
    ·rw [if_neg hm,if_neg hm]
   rw [e2,e3]
   exact ((hr j hj).mono (fun b _ hb=>(⟨.inl hb.1,hb.2⟩:(S b\/S2 b)/\Value.ownBlock (.slice (some ⟨g,o,none⟩) rows.length c)≠some b))).same (hS.mono fun b hb e=>hb.2 (by subst e;rfl))
def cPut (P:Program) (st:St) (T:TypeId) (x y:Operand):Option Upd:=
 match zal (st.ev x),zal (st.ev y),zc7 P T with
 | (.oel t sz i off,n1),(s,n2),some k=>match st.m t with
  | .row Tb ls r=>if sz=r.tys.length then (if s.cells.all SV.flat then (if s.cells.length=k then (if off+k<=sz then (match r.put i (zgg (r.elem ls i) s.cells off) with
   | some (r2,m)=>some ⟨n1++n2++[i<r.len],.any,[(t,.row Tb (ls++m) r2)]⟩
   | none=>none) else none) else none) else none) else none
  | _=>none
 | _,_,_=>none
theorem zwp (o:Oper) (T:TypeId) (x y:Operand) (ho:o.op = .store T x y) {u:Upd} (hu:cPut P st T x y=some u):Does P base X w0 st o u:=by
 unfold cPut at hu
 split at hu
 case h_2=>simp at hu
 rename_i t sz i off n1 s n2 k e1 e2 e3
 split at hu
 case h_2=>simp at hu
 rename_i Tb ls r hm
 split at hu
 case isFalse=>simp at hu
 split at hu
 case isFalse=>simp at hu
 split at hu
 case isFalse=>simp at hu
 split at hu
 case isFalse=>simp at hu
 split at hu
 case h_2=>simp at hu
 rename_i hsz hf hk hl _ r2 m hput
 simp only [Option.some.injEq] at hu
 subst hu
 subst hsz
 intro E a w K Q h hn hK
 have h1:=zae (h.ev x) (fun p hp=>hn p (by rw [e1] at hp;simp [hp]))
 have h2:=zae (h.ev y) (fun p hp=>hn p (by rw [e2] at hp;simp [hp]))
 have hi:i<r.len:=hn (i<r.len) (by simp)
 rw [e1] at h1
 rw [e2] at h2
 obtain ⟨zs,hz,hzd⟩:=zfV hf h2
 obtain ⟨b,oo,q,c,hb,hx⟩:=h1
 obtain ⟨v',c1,c2⟩:=h.mem.row t _ _ _ hm
 rw [c1] at hb
 simp only [Option.some.injEq] at hb
 subst hb
 have hzl:zs.length=k:=by rw [hzd.len];exact hk
 have hrl:r.rows.length=r.len:=r.rows_len
 obtain ⟨cells,hoR,hrow⟩:=c2
 rcases hoR.2 with ⟨e,_⟩ | ⟨g,o2,cap,cur,e,_,_,hg,hnc,hcm,hcs,htake⟩
 ·simp at e
 simp only [Value.slice.injEq,Option.some.injEq,Addr.mk.injEq,and_true] at e
 obtain ⟨⟨rfl,rfl⟩,rfl,rfl⟩:=e
 have hki:oo+i*r.tys.length+r.tys.length<=cur.size:=by
  refine Nat.le_trans ?_ hcs
  have h3:(i+1)*r.tys.length<=r.rows.length*r.tys.length:=Nat.mul_le_mul_right _ (by omega)
  have h4:r.rows.length*r.tys.length<=c*r.tys.length:=Nat.mul_le_mul_right _ hnc
  rw [Nat.add_mul,Nat.one_mul] at h3
  omega
 have hrun:=zeD (P:=P) e3 hz hzl (xs:=cur.toList) (b:=b) (off:=oo+i*r.tys.length+off) (Tb:=Tb) (by simpa using hg) (by have h0:cur.toList.length=cur.size:=Array.length_toList;omega) (DenL.ones hf hzd)
 have hHas:Has E st.m t b:=Has.row hm c1 rfl
 have hsep:=(h.mem.sep t b hHas).1
 have hne:∀ g,zaV (.slice (some ⟨b,oo,none⟩) r.rows.length c)≠some g->g≠b:=by intro g hg e;exact hg (by simp [zaV,e])
 generalize hw':w.setRow b (cur.toList.take (oo+i*r.tys.length+off)++zs++cur.toList.drop (oo+i*r.tys.length+off+zs.length)).toArray=w' at hrun
 have hS:Same E.lab w w':=by
  rw [<- hw']
  exact ⟨by simp,fun g hg _=>setRow_other w b g _ (fun e=>hsep (e▸hg))⟩
 -- the element's cells
 have hL:RdL w (E.set ls) r.tys ((cells.drop (i*r.tys.length)).take r.tys.length) (r.rows.getD i []):=(hrow i (by omega)).mono fun b _ hb=>hb.1
 have hcx:(cells.drop (i*r.tys.length)).take r.tys.length=(cur.toList.drop (oo+i*r.tys.length)).take r.tys.length:=by
  rw [<- htake]
  apply List.ext_getElem?
  intro m
  simp only [List.getElem?_take,List.getElem?_drop]
  have h3:(i+1)*r.tys.length<=r.rows.length*r.tys.length:=Nat.mul_le_mul_right _ (by omega)
  rw [Nat.add_mul,Nat.one_mul] at h3
  by_cases hm2:m<r.tys.length
  ·rw [if_pos hm2,if_pos hm2,if_pos (by omega),Nat.add_assoc]
  ·rw [if_neg hm2,if_neg hm2]
 have hel:=RL.elem_ok hi hL
 have hsp:=zgf hel hzd off
 obtain ⟨ht2,hl2,ds,hrows,hds⟩:=RL.put_ok i hput
 have hD:=hds E w _ hsp
 have hput2:=OwnR.put (S:=E.set ls) (S2:=E.set m) ⟨cells,hoR,hrow⟩ (i:=i) (off:=off) (by omega) hg hcx (by omega) (hD.mono fun b2 _ hb2=>⟨hb2,fun e=>hsep (e▸Env.set_lab hb2)⟩)
 rw [hw'] at hput2
 refine zlP (w':=w') ?_ (hK E _ _ (Env.Le.refl E) hS trivial ?_)
 ·simp only [execOp,ho,Instr.storeAt,hx,Instr.sureAddr,Sem.run_bind,Sem.run_pure,Result.andThen,hrun]
 ·rw [zcp]
  refine h.mem.poke (by show (st.m t).live=true;rw [hm];rfl) c1 _ rfl (by rw [<- hw'];simp) (fun g hg' _=>by rw [<- hw'];exact setRow_other w b g _ (hne g hg')) (by rw [<- hw'];exact ⟨rfl,rfl,rfl⟩) ?_
  show OwnR 0 w' Tb (E.set (ls++m)) r2.tys _ r2.rows
  rw [ht2,hrows]
  exact hput2.mono (Nat.le_refl _) (fun b2 hb2=>hb2.elim (Env.set_mono (fun i hi=>List.mem_append_left _ hi) b2) (Env.set_mono (fun i hi=>List.mem_append_right _ hi) b2))
def cMin (st:St) (x y:Operand):Option Upd:=
 match zal (st.ev x),zal (st.ev y) with
 | (.int k a,n),(.int k' b,m)=>if k=k' then some ⟨n++m,.int k (if b<a then b else a),[]⟩ else none
 | _,_=>none
def cMax (st:St) (x y:Operand):Option Upd:=
 match zal (st.ev x),zal (st.ev y) with
 | (.int k a,n),(.int k' b,m)=>if k=k' then some ⟨n++m,.int k (if b>a then b else a),[]⟩ else none
 | _,_=>none
theorem zws (o:Oper) (x y:Operand) (ts:Array TypeId) (ho:o.op = .call {callee:= .builtin .min,args:= #[x,y],argTypes:=ts}) {u:Upd} (hu:cMin st x y=some u):Does P base X w0 st o u:=by
 unfold cMin at hu
 split at hu
 case h_2=>simp at hu
 rename_i k a n k' b m e1 e2
 split at hu
 case isFalse=>simp at hu
 rename_i hk
 subst hk
 simp only [Option.some.injEq] at hu
 subst hu
 refine Does.pure fun E ac w h hn=>?_
 have hx:=zae (h.ev x) (fun p hp=>hn p (by rw [e1] at hp;simp [hp]))
 have hy:=zae (h.ev y) (fun p hp=>hn p (by rw [e2] at hp;simp [hp]))
 rw [e1] at hx
 rw [e2] at hy
 obtain ⟨hx,wx⟩:=hx
 obtain ⟨hy,wy⟩:=hy
 refine ⟨.int k (if b<a then b else a),?_,rfl,by split<;>assumption⟩
 simp [execOp,ho,resolve,invoke,builtin,Builtin.min_,hx,hy,Builtin.min2]
theorem zwt (o:Oper) (x y:Operand) (ts:Array TypeId) (ho:o.op = .call {callee:= .builtin .max,args:= #[x,y],argTypes:=ts}) {u:Upd} (hu:cMax st x y=some u):Does P base X w0 st o u:=by
 unfold cMax at hu
 split at hu
 case h_2=>simp at hu
 rename_i k a n k' b m e1 e2
 split at hu
 case isFalse=>simp at hu
 rename_i hk
 subst hk
 simp only [Option.some.injEq] at hu
 subst hu
 refine Does.pure fun E ac w h hn=>?_
 have hx:=zae (h.ev x) (fun p hp=>hn p (by rw [e1] at hp;simp [hp]))
 have hy:=zae (h.ev y) (fun p hp=>hn p (by rw [e2] at hp;simp [hp]))
 rw [e1] at hx
 rw [e2] at hy
 obtain ⟨hx,wx⟩:=hx
 obtain ⟨hy,wy⟩:=hy
 refine ⟨.int k (if b>a then b else a),?_,rfl,by split<;>assumption⟩
 simp [execOp,ho,resolve,invoke,builtin,Builtin.max_,hx,hy,Builtin.max2]
end ops
end Go.Proofs.YtkhphiahindnnaaGreat
namespace Go.Proofs.YtkhphiahindnnaaGreat
open Go.RowKit Go.ChangeShapes Go.WideShapes Go.Deep
section ops
variable {P : Program} {base : Nat} {X : Cx} {w0 : World} {st : St}
def znO (P:Program) (E:TypeId) (k:Nat):Bool:=
 match P.info? E with
 | some i=>match i.zero with
  | some z=>i.size==k&&Nat.ble i.bytes 1024&&z.cells.size==k
  | none=>false
 | none=>false
theorem zi4 {E:TypeId} {k:Nat} (h:znO P E k=true):∃ bytes,bytes<=1024/\Info P E k bytes:=by
 unfold znO at h
 split at h
 case h_2=>simp at h
 rename_i i hi
 split at h
 case h_2=>simp at h
 rename_i z hz
 simp only [Bool.and_eq_true,beq_iff_eq,Nat.ble_eq] at h
 exact ⟨i.bytes,h.1.2,i,z,hi,hz,h.1.1,rfl,h.2⟩
theorem zmr {w:World} {t ty E:TypeId} {S:Nat->Prop} {fs:List Ty} (hk0:0<fs.length) (hkb:fs.length<=64) (ht:P.underlying t=some (.slice E)) (hi:znO P E fs.length=true)
  {v xv:Value} {rows ds:List (List D)} {T2:TypeId} {S2:Nat->Prop} (hown:OwnR 0 w E S fs v rows) (hx:OwnR 0 w T2 S2 fs xv ds) (hS:∀ b,S2 b->S b/\v.ownBlock≠some b) (hb:(rows.length+ds.length)*1024<=140737488355328) :
  ∃ v' w',(Builtin.append_ #[t,t] ty #[v,xv]).run P w = .ok v' w'/\OwnR 0 w' E S fs v' (rows++ds)/\w.grownBy w' v.ownBlock/\(v'.ownBlock=v.ownBlock\/v'.ownBlock=some w.heap.size):=by
 obtain ⟨bytes,hbb,hI⟩:=zi4 hi
 obtain ⟨cells,⟨hl,⟨rfl,hn⟩ | ⟨g,o,cap,cur,rfl,ho0,hg,hh,hc,hm,hs,htk⟩⟩,hr⟩:=hx
 ·have hnil:ds=[]:=List.eq_nil_of_length_eq_zero hn
  subst hnil
  obtain ⟨i,z,e1,e2,e3,e4,e5⟩:=hI
  obtain ⟨cells,hoc,hr⟩:=hown
  refine ⟨v,w,?_,by rw [List.append_nil];exact ⟨cells,hoc,hr⟩,World.grownBy.refl _ _,.inl rfl⟩
  rcases hoc.2 with ⟨rfl,h2⟩ | ⟨g,o,cap,cur,rfl,_,_,_,hnc,_⟩
  ·simp [Builtin.append_,run_underlying ht,sizeOf,typeInfo,e1,Builtin.lenOf,Builtin.firstCells]
  ·simp [Builtin.append_,run_underlying ht,sizeOf,typeInfo,e1,Builtin.lenOf,Builtin.firstCells,hnc,storeCells]
 refine zkS rfl hk0 hkb hbb ht hI hown (Below.refl _ _) ⟨g,o,none⟩ ds.length cap cells ds rfl hl (fun j u hu=>?_) (fun u hu=>?_) (fun i hi=>(hr i hi).mono fun b _ hb=>hS b hb.1) hb (Nat.zero_le _)
 ·rw [<- htk] at hu
  have hlt:j<ds.length*fs.length:=by
   rw [htk] at hu
   have:=(List.getElem?_eq_some_iff.1 hu).1
   omega
  rw [List.getElem?_take,if_pos hlt,List.getElem?_drop] at hu
  rw [WideShapes.add_plain]
  simp only [World.cell?,hh]
  rw [<- Array.getElem?_toList];exact hu
 ·obtain ⟨j,hj,e⟩:=List.getElem_of_mem hu
  have hjd:j / fs.length<ds.length:=Nat.div_lt_of_lt_mul (by rw [Nat.mul_comm];omega)
  have hm1:=Nat.mod_lt j hk0
  have hm2:=Nat.div_add_mod j fs.length
  rw [Nat.mul_comm] at hm2
  refine RdL.ones (hr (j / fs.length) hjd) u ?_
  refine List.mem_of_getElem? (i:=j % fs.length) ?_
  rw [List.getElem?_take,if_pos hm1,List.getElem?_drop,hm2,List.getElem?_eq_getElem hj,e]
theorem zmq {w:World} {t ty E:TypeId} {S:Nat->Prop} {fs:List Ty} (hk0:0<fs.length) (hkb:fs.length<=64) (ht:P.underlying t=some (.slice E)) (hi:znO P E fs.length=true)
  {v:Value} {rows ds:List (List D)} {T:Nat->Prop} {ax:Option Addr} {m c:Nat} (hown:OwnR 0 w E S fs v rows) (hd:Sl w T fs ax m c ds) (hS:∀ b,T b->S b/\v.ownBlock≠some b) (hb:(rows.length+ds.length)*1024<=140737488355328) :
  ∃ v' w',(Builtin.append_ #[t,t] ty #[v,.slice ax m c]).run P w = .ok v' w'/\OwnR 0 w' E S fs v' (rows++ds)/\w.grownBy w' v.ownBlock/\(v'.ownBlock=v.ownBlock\/v'.ownBlock=some w.heap.size):=by
 obtain ⟨bytes,hbb,hI⟩:=zi4 hi
 have hlen:=hd.len
 rw [hlen] at hb
 rcases ax with _ | ad
 ·obtain ⟨h0,h0'⟩:=hd.bd.2.2.2 rfl
  subst h0;subst h0'
  have hnil:ds=[]:=List.eq_nil_of_length_eq_zero hlen
  subst hnil
  obtain ⟨i,z,e1,e2,e3,e4,e5⟩:=hI
  obtain ⟨cells,hoc,hr⟩:=hown
  refine ⟨v,w,?_,by rw [List.append_nil];exact ⟨cells,hoc,hr⟩,World.grownBy.refl _ _,.inl rfl⟩
  rcases hoc.2 with ⟨rfl,h2⟩ | ⟨g,o,cap,cur,rfl,_,_,_,hnc,_⟩
  ·simp [Builtin.append_,run_underlying ht,sizeOf,typeInfo,e1,Builtin.lenOf,Builtin.firstCells]
  ·simp [Builtin.append_,run_underlying ht,sizeOf,typeInfo,e1,Builtin.lenOf,Builtin.firstCells,hnc,storeCells]
 ·by_cases hp:0<m
  ·obtain ⟨b,off,e,hS',hbl,vals,hc,hr⟩:=hd.rowAt hp
   cases e
   exact zkS (P:=P) rfl hk0 hkb hbb ht hI hown (Below.refl _ _) ⟨b,off,none⟩ m c ((List.range m).flatMap fun i=>(List.range fs.length).map (vals i)) ds hlen (zfw _ _ _)
    (fun j u hj=>by
     obtain ⟨i,jj,h1,h2,rfl,rfl⟩:=zmC _ _ _ _ _ hj
     rw [WideShapes.add_plain,<- Nat.add_assoc]
     exact hc i jj h1 h2)
    (fun u hu=>by
     obtain ⟨j,hj⟩:=List.getElem?_of_mem hu
     obtain ⟨i,jj,h1,h2,_,rfl⟩:=zmC _ _ _ _ _ hj
     exact ((hr i h1).2 jj (by omega)).one)
    (fun i hi=>by
     rw [zqs _ _ _ i (by omega)]
     exact RdL.of_at _ (hr i (by omega)).1 (fun j hj=>Rd.mono ((hr i (by omega)).2 j hj) (fun b _ hb=>hS b hb))) hb (Nat.zero_le _)
  ·have h0:m=0:=by omega
   subst h0
   have hnil:ds=[]:=List.eq_nil_of_length_eq_zero hlen
   subst hnil
   exact zkS (P:=P) rfl hk0 hkb hbb ht hI hown (Below.refl _ _) ad 0 c [] [] rfl (by simp) (fun j u hj=>by simp at hj) (fun u hu=>by simp at hu) (fun i hi=>by simp at hi) hb (Nat.zero_le _)
def zgO (st:St) (e:TypeId):SV->Option (Option Nat×List Nat×RL)
 | .own t=>match st.m t with
  | .row Tb ls r=>if Tb=e then some (some t,ls,r) else none
  | _=>none
 | .nil=>match RL.ofT e with
  | some r=>some (none,[],r)
  | none=>none
 | _=>none
def zcH (st:St) (r:RL):SV->Option (Option Nat×List Nat×RL)
 | .own u=>match st.m u with
  | .row _ ms q=>some (some u,ms,q)
  | _=>none
 | .ov u n=>match st.m u with
  | .row _ ms q=>if 18<=q.tys.length then some (some u,ms,q.take n) else none
  | _=>none
 | .sl ms q=>some (none,ms,q)
 | .nil=>some (none,[],r.emp)
 | _=>none
def zuH:Option Nat->Option Nat->Bool
 | some t,some u=>!(Nat.beq t u)
 | _,_=>true
def zpQ:Option Nat->List (Nat×BE)
 | some t=>[(t,.dead)]
 | none=>[]
theorem RdL.flat {w:World} {S T:Nat->Prop}:∀ {fs:List Ty} {vs:List Value} {ds:List D},fs.all Ty.flat=true->RdL w S fs vs ds->RdL w T fs vs ds
 | [],[],[],_,_=>trivial
 | t::ts,v::vs,d::ds,hf,h=>by
  simp only [List.all_cons,Bool.and_eq_true] at hf
  exact ⟨h.1.any hf.1,RdL.flat hf.2 h.2⟩
 | _::_,[],_,_,h=>h.elim
 | _::_,_::_,[],_,h=>h.elim
 | [],_::_,_,_,h=>h.elim
 | [],[],_::_,_,h=>h.elim
theorem OwnR.flat {b:Nat} {w:World} {T:TypeId} {S S2:Nat->Prop} {fs:List Ty} {v:Value} {rows:List (List D)} (h:OwnR b w T S fs v rows) (hf:fs.all Ty.flat=true):OwnR b w T S2 fs v rows:=by
 obtain ⟨cells,ho,hr⟩:=h
 exact ⟨cells,ho,fun i hi=>RdL.flat hf (hr i hi)⟩
def labA (r:RL) (ls ms:List Nat):List Nat:=if r.tys.all Ty.flat=true then [] else ls++ms
def cApp (P:Program) (st:St) (c:Nat) (T:TypeId) (x y:Operand):Option Upd:=
 match zch P T with
 | none=>none
 | some e=>match zgO st e (zal (st.ev x)).1 with
  | none=>none
  | some (dt,ls,r)=>match zcH st r (zal (st.ev y)).1 with
   | none=>none
   | some (su,ms,q)=>if zuH dt su=true then (if st.free c=true then (if znO P e r.tys.length=true then (match r.app q with
    | some r2=>some ⟨(zal (st.ev x)).2++(zal (st.ev y)).2++[(r.len+q.len)*1024<=140737488355328],.own c,zpQ dt++[(c,.row e (labA r ls ms) r2)]⟩
    | none=>none) else none) else none) else none
theorem zmT {E:Env} {w:World} (hm:MemOk base X w0 E st.m w) {e:TypeId} {s:SV} {dt:Option Nat} {ls:List Nat} {r:RL} (h:zgO st e s=some (dt,ls,r)) {v:Value} (hv:DenV E w s v) :
  OwnR 0 w e (E.set ls) r.tys v r.rows/\(∀ b,v.ownBlock=some b->∃ t,dt=some t/\Has E st.m t b)/\(∀ t,dt=some t->(st.m t).live=true/\E.β t=some v):=by
 cases s
 case own t=>
  simp only [zgO] at h
  split at h
  case h_2=>simp at h
  rename_i Tb ls2 r2 hmt
  split at h
  case isFalse=>simp at h
  rename_i hT
  subst hT
  simp only [Option.some.injEq,Prod.mk.injEq] at h
  obtain ⟨rfl,rfl,rfl⟩:=h
  obtain ⟨v',hβ,ho⟩:=hm.row t _ _ _ hmt
  have hv1:=hv.1
  rw [hβ] at hv1
  simp only [Option.some.injEq] at hv1
  subst hv1
  obtain ⟨a,cc,ef⟩:=ho.form
  refine ⟨ho,fun b hb=>⟨t,rfl,Has.row hmt hβ (by rw [<- zaN ⟨a,_,cc,ef⟩];exact hb)⟩,fun t2 ht2=>?_⟩
  cases ht2
  exact ⟨by rw [hmt];rfl,hβ⟩
 case nil=>
  simp only [zgO] at h
  split at h
  case h_2=>simp at h
  rename_i r2 hr
  simp only [Option.some.injEq,Prod.mk.injEq] at h
  obtain ⟨rfl,rfl,rfl⟩:=h
  have:v = .slice none 0 0:=hv
  subst this
  refine ⟨by rw [RL.ofT_ok hr];exact OwnR.nil _ _ _ _ _,fun b hb=>?_,fun t ht=>?_⟩
  ·cases hb
  ·cases ht
 all_goals simp [zgO] at h
theorem zr8 {E:Env} {w w':World} (hm:MemOk base X w0 E st.m w) {c:Nat} (hcE:st.m c = .empty) {dt:Option Nat} {v v':Value} (hHas:∀ b,v.ownBlock=some b->∃ t,dt=some t/\Has E st.m t b) (hlive:∀ t,dt=some t->(st.m t).live=true/\E.β t=some v)
  {e:TypeId} {lb:List Nat} {r2:RL} (hO:OwnR 0 w' e (E.set lb) r2.tys v' r2.rows) (hgr:w.grownBy w' v.ownBlock) (hat:v'.ownBlock=v.ownBlock\/v'.ownBlock=some w.heap.size) :
  Same E.lab w w'/\E.Le (E.setβ c v')/\v'.oneCell'=true/\MemOk base X w0 (E.setβ c v') (putF (zpQ dt++[(c,.row e lb r2)]) st.m) w':=by
 have hnl:∀ b,E.lab b->v.ownBlock≠some b:=fun b hb e=>by
  obtain ⟨t,_,hh⟩:=hHas b e
  exact (hm.sep t b hh).1 hb
 have hnv:∀ b,E.lab b->some b≠v.ownBlock:=fun b hb e=>hnl b hb e.symm
 have hS:Same E.lab w w':=Same.of_grown hgr hnv
 have hE:=Env.setβ_le (hm.empty c hcE).1 v'
 have hv'f:∃ a n c,v' = .slice a n c:=by obtain ⟨a,c,e⟩:=hO.form;exact ⟨a,_,c,e⟩
 obtain ⟨m1,hm1,hk,hm1c,hm1h⟩:∃ m1,m1=putF (zpQ dt) st.m/\MemOk base X w0 E m1 w/\m1 c = .empty/\(∀ s b,Has E m1 s b->Has E st.m s b/\v.ownBlock≠some b):=by
  cases dt with
  | none=>
   refine ⟨st.m,rfl,hm,hcE,fun s b hh=>⟨hh,fun e=>?_⟩⟩
   obtain ⟨t,ht,_⟩:=hHas b e
   cases ht
  | some t=>
   have hct:c≠t:=fun e=>by
    have:=(hlive t rfl).1
    rw [<- e,hcE] at this;cases this
   refine ⟨upd st.m t .dead,rfl,hm.kill t,by rw [zbg _ _ hct];exact hcE,fun s b hh=>?_⟩
   have hst:s≠t:=fun e2=>by subst e2;have:=hh.1;rw [zbi] at this;cases this
   have hs2:Has E st.m s b:=⟨by have:=hh.1;rwa [zbg _ _ hst] at this,by have:=hh.2;rwa [zbg _ _ hst] at this⟩
   refine ⟨hs2,fun e=>?_⟩
   obtain ⟨t2,ht2,hh2⟩:=hHas b e
   cases ht2
   exact hst (hm.inj s t b hs2 hh2)
 have hm':MemOk base X w0 (E.setβ c v') (upd m1 c (.row e lb r2)) w':=by
  refine hk.take hm1c v' _ (by simp) hgr.size (fun b hb=>?_) ⟨hgr.os,hgr.tape,hgr.output,hgr.size,fun b hb hX=>?_⟩ (fun b hb=>?_) hO
  ·have hlt:b<w.heap.size:=by
    rcases hb with ⟨i,hi⟩ | ⟨s,hs⟩
    ·exact (hk.lab i b hi).1
    ·exact hk.lt hs
   refine hgr.block b hlt ?_
   rcases hb with hb | ⟨s,hs⟩
   ·exact hnv b hb
   ·exact fun e=>(hm1h s b hs).2 e.symm
  ·refine hgr.block b (Nat.lt_of_lt_of_le hb hm.base) (fun e=>?_)
   obtain ⟨t,_,hh⟩:=hHas b e.symm
   rcases (hm.sep t b hh).2 with h3 | h3
   ·omega
   ·exact hX h3
  ·have hb:v'.ownBlock=some b:=by rw [zaN hv'f];exact hb
   rcases hat with e | e
   ·rw [e] at hb
    obtain ⟨t,_,hh⟩:=hHas b hb
    exact ⟨(hm.sep t b hh).1,fun s hs=>(hm1h s b hs).2 hb,(hm.sep t b hh).2⟩
   ·rw [e] at hb
    simp only [Option.some.injEq] at hb
    subst hb
    exact ⟨fun ⟨i,hi⟩=>Nat.lt_irrefl _ (hm.lab i _ hi).1,fun s hs=>Nat.lt_irrefl _ (hk.lt hs),.inl hm.base⟩
 refine ⟨hS,hE,by obtain ⟨a,n,c,e⟩:=hv'f;rw [e];rfl,?_⟩
 have e4:putF (zpQ dt++[(c,.row e lb r2)]) st.m=upd m1 c (.row e lb r2):=by
  rw [hm1]
  cases dt with
  | none=>rfl
  | some t=>
   have hct:t≠c:=fun e=>by
    have:=(hlive t rfl).1
    rw [e,hcE] at this;cases this
   show upd (upd st.m c _) t .dead=upd (upd st.m t .dead) c _
   exact (zic _ _ _ hct).symm
 rw [e4];exact hm'
theorem zw4 (o:Oper) (c:Nat) (T:TypeId) (x y:Operand) (ho:o.op = .call {callee:= .builtin .append,args:= #[x,y],argTypes:= #[T,T]}) {u:Upd} (hu:cApp P st c T x y=some u):Does P base X w0 st o u:=by
 unfold cApp at hu
 split at hu
 case h_1=>simp at hu
 rename_i e he
 split at hu
 case h_1=>simp at hu
 rename_i dt ls r hdst
 split at hu
 case h_1=>simp at hu
 rename_i su ms q hsrc
 split at hu
 case isFalse=>simp at hu
 rename_i hap
 split at hu
 case isFalse=>simp at hu
 rename_i hfree
 split at hu
 case isFalse=>simp at hu
 rename_i hinfo
 split at hu
 case h_2=>simp at hu
 rename_i r2 hr2
 simp only [Option.some.injEq] at hu
 subst hu
 intro E a w K Q h hn hK
 have hx:=zae (h.ev x) (fun p hp=>hn p (by simp [hp]))
 have hy:=zae (h.ev y) (fun p hp=>hn p (by simp [hp]))
 have hbd:(r.len+q.len)*1024<=140737488355328:=hn _ (by simp)
 obtain ⟨o1,hHas,hlive⟩:=zmT h.mem hdst hx
 obtain ⟨b1,b2,b3,b4⟩:=RL.app_ok hr2
 have hrl:r.rows.length=r.len:=r.rows_len
 have hql:q.rows.length=q.len:=q.rows_len
 have hcE:=St.of_free hfree
 obtain ⟨v,hav⟩:∃ v,a.eval x=v:=⟨_,rfl⟩
 rw [hav] at hx o1 hHas hlive
 have hform:∃ a n c,v = .slice a n c:=by obtain ⟨a,c,e⟩:=o1.form;exact ⟨a,_,c,e⟩
 have hvo:v.ownBlock=zaV v:=zaN hform
 have hnl:∀ b,E.lab b->v.ownBlock≠some b:=fun b hb e=>by
  obtain ⟨t,_,hh⟩:=hHas b e
  exact (h.mem.sep t b hh).1 hb
 have hrun:∃ v' w',(Builtin.append_ #[T,T] o.type #[v,a.eval y]).run P w = .ok v' w'/\OwnR 0 w' e (E.set (ls++ms)) r.tys v' (r.rows++q.rows)/\w.grownBy w' v.ownBlock/\(v'.ownBlock=v.ownBlock\/v'.ownBlock=some w.heap.size):=by
  have o1':=o1.mono (T:=E.set (ls++ms)) (Nat.le_refl _) (fun b hb=>Env.set_mono (fun i hi=>List.mem_append_left _ hi) b hb)
  have hS:∀ b,E.set ms b->E.set (ls++ms) b/\v.ownBlock≠some b:=fun b hb=>⟨Env.set_mono (fun i hi=>List.mem_append_right _ hi) b hb,hnl b (Env.set_lab hb)⟩
  cases hs:(zal (st.ev y)).1 with
  | own u=>
   rw [hs] at hsrc hy
   simp only [zcH] at hsrc
   split at hsrc
   case h_2=>simp at hsrc
   rename_i Tu ms2 q2 hmu
   simp only [Option.some.injEq,Prod.mk.injEq] at hsrc
   obtain ⟨rfl,rfl,rfl⟩:=hsrc
   obtain ⟨xv,hβ,ho2⟩:=h.mem.row u _ _ _ hmu
   have hv1:=hy.1
   rw [hβ] at hv1
   simp only [Option.some.injEq] at hv1
   rw [b3] at ho2
   rw [<- hv1]
   exact zmr (RL.tys_pos r).1 (RL.tys_pos r).2 (za5 he) hinfo o1' ho2 hS (by rw [hrl,hql];exact hbd)
  | ov u n=>
   rw [hs] at hsrc hy
   simp only [zcH] at hsrc
   split at hsrc
   case h_2=>simp at hsrc
   rename_i Tu ms2 q2 hmu
   split at hsrc
   case isFalse=>simp at hsrc
   simp only [Option.some.injEq,Prod.mk.injEq] at hsrc
   obtain ⟨rfl,rfl,rfl⟩:=hsrc
   obtain ⟨xv,hβ,ho2⟩:=h.mem.row u _ _ _ hmu
   obtain ⟨ad,m2,c2,g1,g2,g3⟩:=hy
   rw [hβ] at g1
   simp only [Option.some.injEq] at g1
   subst g1
   obtain ⟨a9,c9,e9⟩:=ho2.form
   simp only [Value.slice.injEq] at e9
   have ho3:=ho2.takeV (k:=n) (by rw [<- e9.2.1];exact g2)
   rw [<- (RL.take_ok q2 n).2.1,<- (RL.take_ok q2 n).1,b3] at ho3
   rw [g3]
   exact zmr (RL.tys_pos r).1 (RL.tys_pos r).2 (za5 he) hinfo o1' ho3 hS (by rw [hrl,hql];exact hbd)
  | sl ms2 q2=>
   rw [hs] at hsrc hy
   simp only [zcH,Option.some.injEq,Prod.mk.injEq] at hsrc
   obtain ⟨rfl,rfl,rfl⟩:=hsrc
   have hy:Rd w (E.set ms2) (.sl q2.tys) (a.eval y) (.sl q2.rows):=hy
   obtain ⟨ad,cc,e1,e2⟩:=hy.sl'
   rw [b3] at e2
   rw [e1]
   exact zmq (RL.tys_pos r).1 (RL.tys_pos r).2 (za5 he) hinfo o1' e2 hS (by rw [hrl,hql];exact hbd)
  | nil=>
   rw [hs] at hsrc hy
   simp only [zcH,Option.some.injEq,Prod.mk.injEq] at hsrc
   obtain ⟨rfl,rfl,rfl⟩:=hsrc
   have hy:DenV E w (.sl [] r.emp) (a.eval y):=zvq hy
   have hy:Rd w (E.set []) (.sl r.emp.tys) (a.eval y) (.sl r.emp.rows):=hy
   obtain ⟨ad,cc,e1,e2⟩:=hy.sl'
   rw [b3] at e2
   rw [e1]
   exact zmq (RL.tys_pos r).1 (RL.tys_pos r).2 (za5 he) hinfo o1' e2 hS (by rw [hrl,hql];exact hbd)
  | _=>rw [hs] at hsrc;simp [zcH] at hsrc
 obtain ⟨v',w',hrun,hO,hgr,hat⟩:=hrun
 have hO2:OwnR 0 w' e (E.set (labA r ls ms)) r2.tys v' r2.rows:=by
  rw [b1,b2]
  unfold labA
  by_cases hf:r.tys.all Ty.flat=true
  ·rw [if_pos hf];exact hO.flat hf
  ·rw [if_neg hf];exact hO
 obtain ⟨hS,hE,hone,hm'⟩:=zr8 h.mem hcE hHas hlive hO2 hgr hat
 refine zbo (v:=v') (w':=w') ?_ (hK (E.setβ c v') w' v' hE hS ⟨if_pos rfl,hone⟩ hm')
 simp only [execOp,ho,resolve,invoke,builtin,Sem.run_bind,Sem.run_pure,Result.andThen_ok,List.map_toArray,List.map_cons,List.map_nil]
 rw [hav,hrun];rfl
end ops
end Go.Proofs.YtkhphiahindnnaaGreat
namespace Go.Proofs.YtkhphiahindnnaaGreat
open Go.RowKit Go.ChangeShapes Go.WideShapes Go.Deep
section ops
variable {P : Program} {base : Nat} {X : Cx} {w0 : World} {st : St}
def zj5 (k:Nat):Nat->List SV->RL->List Nat->Option (RL×List Nat)
 | 0,_,r,ms=>some (r,ms)
 | n+1,out,r,ms=>match r.snoc (out.take k) with
  | some (r2,m)=>zj5 k n (out.drop k) r2 (ms++m)
  | none=>none
theorem zj4 {E:Env} {w:World} {k:Nat}:∀ (n:Nat) (out:List SV) (zs:List Value) (r:RL) (ms:List Nat) (r2:RL) (ls:List Nat),zj5 k n out r ms=some (r2,ls)->DenL E w out zs ->
  r2.tys=r.tys/\(∀ i,i∈ms->i∈ls)/\∃ ds,ds.length=n/\r2.rows=r.rows++ds/\∀ i,i<n->RdL w (E.set ls) r.tys ((zs.drop (i*k)).take k) (ds.getD i [])
 | 0,out,zs,r,ms,r2,ls,h,hd=>by
  simp only [zj5,Option.some.injEq,Prod.mk.injEq] at h
  obtain ⟨rfl,rfl⟩:=h
  exact ⟨rfl,fun i hi=>hi,[],rfl,by simp,fun i hi=>absurd hi (by omega)⟩
 | n+1,out,zs,r,ms,r2,ls,h,hd=>by
  simp only [zj5] at h
  split at h
  case h_2=>simp at h
  rename_i r1 m e
  obtain ⟨g1,g2,d,g3,g4⟩:=RL.snoc_ok e
  obtain ⟨q1,q2,ds,q3,q4,q5⟩:=zj4 n _ (zs.drop k) r1 _ r2 ls h (hd.drop k)
  refine ⟨q1.trans g1,fun i hi=>q2 i (List.mem_append_left _ hi),d::ds,by simp [q3],by rw [q4,g3];simp,fun i hi=>?_⟩
  cases i with
  | zero=>
   have:=g4 E w _ (hd.take k)
   simp only [Nat.zero_mul,List.drop_zero,List.getD_cons_zero]
   exact this.mono fun b _ hb=>Env.set_mono (fun i hi=>q2 i (List.mem_append_right _ hi)) b hb
  | succ i=>
   have:=q5 i (by omega)
   rw [List.drop_drop,g1] at this
   rw [List.getD_cons_succ,show (i+1)*k=k+i*k by rw [Nat.add_mul];omega]
   exact this
theorem zih {E:Env} {w:World} (h:MemOk base X w0 E st.m w) {c:Nat} (hc:st.m c = .empty) (T:TypeId) {xs:List Value} {ls:List Nat} {r:RL} {n:Nat}
  (hO:OwnR 0 (w.alloc (.cells xs.toArray T)) T (E.set ls) r.tys (.slice (some ⟨w.heap.size,0,none⟩) n n) r.rows) :
  MemOk base X w0 (E.setβ c (.slice (some ⟨w.heap.size,0,none⟩) n n)) (putF [(c,.row T ls r)] st.m) (w.alloc (.cells xs.toArray T))/\E.Le (E.setβ c (.slice (some ⟨w.heap.size,0,none⟩) n n))/\Same E.lab w (w.alloc (.cells xs.toArray T)):=by
 have hE:=Env.setβ_le (h.empty c hc).1 (.slice (some ⟨w.heap.size,0,none⟩) n n)
 have hS:Same E.lab w (w.alloc (.cells xs.toArray T)):=Same.alloc _ _ _
 refine ⟨?_,hE,hS⟩
 rw [zcp]
 refine h.take hc _ _ (by simp) (by simp) (fun b hb=>?_) ⟨rfl,rfl,rfl,by simp,fun b hb _=>Below.heap_alloc _ _ _ (Nat.lt_of_lt_of_le hb h.base)⟩ (fun b hb=>?_) hO
 ·have:b<w.heap.size:=by
   rcases hb with ⟨i,hi⟩ | ⟨t,ht⟩
   ·exact (h.lab i b hi).1
   ·exact h.lt ht
  exact Below.heap_alloc _ _ _ this
 ·simp [zaV] at hb
  subst hb
  exact ⟨fun ⟨i,hi⟩=>Nat.lt_irrefl _ (h.lab i _ hi).1,fun t ht=>Nat.lt_irrefl _ (h.lt ht),.inl h.base⟩
def zwE (z:Value) (n:Nat):List SV:=(List.range n).map fun j=>ofC (z.cells[j % z.cells.size]!)
def cLit (P:Program) (st:St) (c:Nat) (T:TypeId) (len:Nat) (parts:Array (Nat×Operand)):Option Upd:=
 match zch P T with
 | some e=>match (P.info? e).bind (·.zero),zc7 P e,RL.ofT e with
  | some z,some k,some r0=>if 0<len*k/\len*k<=16777216/\len<=1000000 then (match znT (fun i=>some (i*k,k)) (zwE z (len*k)) (zck st parts.toList).1 with
   | some out=>match zj5 k len out r0 [] with
    | some (r,ls)=>if k=r0.tys.length/\st.free c=true/\out.length=len*k then some ⟨(zck st parts.toList).2,.own c,[(c,.row e ls r)]⟩ else none
    | none=>none
   | none=>none) else none
  | _,_,_=>none
 | none=>none
theorem zwu (o:Oper) (c:Nat) (T:TypeId) (len:Nat) (parts:Array (Nat×Operand)) (ho:o.op = .buildSlice T len parts) {u:Upd} (hu:cLit P st c T len parts=some u):Does P base X w0 st o u:=by
 unfold cLit at hu
 split at hu
 case h_2=>simp at hu
 rename_i e he
 split at hu
 case h_2=>simp at hu
 rename_i z k r0 hz hk hr0
 split at hu
 case isFalse=>simp at hu
 rename_i hb
 obtain ⟨hb0,hb1,hb2⟩:=hb
 split at hu
 case h_2=>simp at hu
 rename_i out hout
 split at hu
 case h_2=>simp at hu
 rename_i r ls hrow
 split at hu
 case isFalse=>simp at hu
 rename_i hc
 obtain ⟨hkr,hfree,hol⟩:=hc
 simp only [Option.some.injEq] at hu
 subst hu
 have hcE:=St.of_free hfree
 intro E a w K Q h hn hK
 have hp:=zgt h parts.toList hn
 obtain ⟨zr,hr,hd⟩:=ziE (E:=E) (w:=w) (zs:=(Array.range (len*k)).map (fun j=>z.cells[j % z.cells.size]!)) (vals:=zgd a parts.toList) hout (by
  have:=ziv E w ((List.range (len*k)).map fun j=>z.cells[j % z.cells.size]!)
  simpa [zwE,Function.comp_def] using this) (by rw [hp.1];simp [zgd]) (fun i hi=>hp.2 i (by rw [hp.1] at hi;exact hi))
 obtain ⟨q1,_,ds,q3,q4,q5⟩:=zj4 (E:=E) (w:=w) len out zr.toList r0 [] r ls hrow hd
 rw [RL.ofT_ok hr0,List.nil_append] at q4
 have hzl:zr.toList.length=len*k:=by rw [hd.len,hol]
 have hO:OwnR 0 (w.alloc (.cells zr.toList.toArray e)) e (E.set ls) r.tys (.slice (some ⟨w.heap.size,0,none⟩) len len) r.rows:=by
  refine ⟨zr.toList,Win.of ⟨by rw [q4,q3,q1,<- hkr];exact hzl,.inr ⟨w.heap.size,len,zr.toList.toArray,by rw [q4,q3],Nat.zero_le _,heap_alloc_new _ _,by rw [q4,q3];exact Nat.le_refl _,by unfold maxLen;omega,by rw [q1,<- hkr];simpa using hzl,?_⟩⟩,fun i hi=>?_⟩
  ·rw [q4,q3,q1,<- hkr];rw [List.take_of_length_le];rw [<- hzl];exact Nat.le_refl _
  ·rw [q4,q3] at hi
   rw [q4,q1,<- hkr]
   have:=q5 i hi
   have h2:RdL w (fun b=>(E.set ls b/\Value.ownBlock (.slice (some ⟨w.heap.size,0,none⟩) len len)≠some b)) r0.tys ((zr.toList.drop (i*k)).take k) (ds.getD i []):=this.mono fun b hb hs=>⟨hs,fun e2=>by
    simp only [Value.ownBlock,Option.some.injEq] at e2;omega⟩
   exact h2.same (Same.alloc _ _ _)
 obtain ⟨m1,m2,m3⟩:=zih (st:=st) h.mem hcE e hO
 refine zbo (v:= .slice (some ⟨w.heap.size,0,none⟩) len len) (w':=w.alloc (.cells zr.toList.toArray e)) ?_ (hK _ _ _ m2 m3 ⟨if_pos rfl,rfl⟩ m1)
 cases hi:P.info? e with
 | none=>simp [hi] at hz
 | some inf=>
  simp [hi] at hz
  have hrr:Instr.fill (fun i=>some (i*k,k)) ((Array.range (len*k)).map (fun j=>z.cells[j % z.cells.size]!)) (parts.map fun (i,x)=>(i,a.eval x)).toList=some zr:=by
   have e2:(parts.map fun (i,x)=>(i,a.eval x)).toList=zgd a parts.toList:=by simp [zgd]
   rw [e2];exact hr
  have hnz:¬ (len*k=0):=by omega
  have hng:¬ (len*k>2 ^ 24):=by omega
  simp only [execOp,ho,Instr.buildSlice,zeroValue,typeInfo,Sem.run_bind,run_program,hi,hz,Result.andThen,Sem.run_pure,run_underlying (za5 he),zaO hk,hng,hnz,if_false,hrr,newRow]
  rfl
end ops
end Go.Proofs.YtkhphiahindnnaaGreat
namespace Go.Proofs.YtkhphiahindnnaaGreat
open Go.RowKit Go.ChangeShapes Go.WideShapes Go.Deep
theorem Sl.cutX {w:World} {S:Nat->Prop} {fs:List Ty} {b off n c d:Nat} {rows:List (List D)} (h:Sl w S fs (some ⟨b,off,none⟩) n c rows) (hd:d<n):Sl w S fs (some ⟨b,off+d*fs.length,none⟩) (n-d) (c-d) (rows.drop d):=by
 cases h with
 | emp _ _=>omega
 | row vals h1 h2 h3 h4 h5 h6 h7 h8 h9 h10 h11=>
  have e:∀ i,(rows.drop d).getD i []=rows.getD (d+i) []:=fun i=>by simp [List.getD]
  refine .row (fun i j=>vals (d+i) j) (by omega) (by simp;omega) (by omega) (by unfold maxLen at *;omega) (by omega) h6 h7 (fun i j hi hj=>?_) (fun i hi=>?_) (fun i j hi hj=>?_) (fun i j hi hj=>?_)
  ·have:=h8 (d+i) j (by omega) hj
   rw [Nat.add_mul] at this
   rw [<- this];congr 2;omega
  ·rw [e];exact h9 _ (by omega)
  ·rw [e];exact h10 _ _ (by omega) hj
  ·have:=h11 (d+i) j (by omega) hj
   rw [Nat.add_mul] at this
   rw [<- this];congr 2;omega
theorem Sl.cutMX {w:World} {S:Nat->Prop} {fs:List Ty} {a:Option Addr} {n c d:Nat} {rows:List (List D)} (h:Sl w S fs a n c rows) (hd:d<=n) (hc:d<c):Sl w S fs (a.map fun x=>x.add (d*fs.length)) (n-d) (c-d) (rows.drop d):=by
 have hb:=h.bd
 have hl:=h.len
 rcases Nat.lt_or_ge d n with h1 | h1
 ·obtain ⟨b,off,rfl⟩:=h.addr (by omega)
  have:=h.cutX h1
  simpa [Go.WideShapes.add_plain] using this
 ·have e:n-d=0:=by omega
  have e2:rows.drop d=[]:=List.drop_eq_nil_of_le (by omega)
  rw [e,e2]
  refine .emp (fun h0=>?_) (by obtain ⟨g1,g2,g3,g4⟩:=hb;unfold maxLen at *;omega)
  rcases a with _ | a
  ·have:=hb.2.2.2 rfl;omega
  ·simp at h0
section ops
variable {P : Program} {base : Nat} {X : Cx} {w0 : World} {st : St}
end ops
end Go.Proofs.YtkhphiahindnnaaGreat
namespace Go.Proofs.YtkhphiahindnnaaGreat
open Go.RowKit Go.ChangeShapes Go.WideShapes Go.Deep
section ops
variable {P : Program} {base : Nat} {X : Cx} {w0 : World} {st : St}
def zwr (st:St) (f:FuncId) (xs:List Operand):Upd:=
 match xs with
 | []=>⟨[],.fn f,[]⟩
 | x::r=>⟨(evL st (x::r)).2,.clo f (evL st (x::r)).1,[]⟩
theorem ztC (o:Oper) (f:FuncId) (xs:Array Operand) (ho:o.op = .makeFunc (.func f) #[] xs):Does P base X w0 st o (zwr st f xs.toList):=by
 obtain ⟨xs⟩:=xs
 cases xs with
 | nil=>exact Does.pure fun E a w h hn=>⟨_,by simp [execOp,ho,Instr.makeFunc],rfl⟩
 | cons x r=>
  refine Does.pure fun E a w h hn=>?_
  have:=zmF h (x::r) hn
  exact ⟨.func (.func f) #[] ((x::r).map a.eval).toArray,by simp [execOp,ho,Instr.makeFunc],_,rfl,this⟩
def ztE (P:Program) (st:St) (c:Nat) (T:TypeId) (x y:Operand):Option Upd:=
 match zch P T,zal (st.ev x),zal (st.ev y) with
 | some e,(.int k n,n1),(.int k' m,n2)=>match RL.ofT e,(P.info? e).bind (·.zero) with
  | some (.rInts _),some (.int .i64 (.ofNat 0))=>if znO P e 1=true/\st.free c=true then some ⟨n1++n2++[n=m,0<=n,n<=274877906944],.own c,[(c,.row e [] (.rInts (List.replicate n.toNat 0)))]⟩ else none
  | _,_=>none
 | _,_,_=>none
theorem ztD (o:Oper) (c:Nat) (T:TypeId) (x y:Operand) (ho:o.op = .makeSlice T x y) {u:Upd} (hu:ztE P st c T x y=some u):Does P base X w0 st o u:=by
 unfold ztE at hu
 split at hu
 case h_2=>simp at hu
 rename_i e k n n1 k' m n2 e0 e1 e2
 split at hu
 case h_2=>simp at hu
 rename_i l0 hr0 hz
 split at hu
 case isFalse=>simp at hu
 rename_i hc
 obtain ⟨hinfo,hfree⟩:=hc
 simp only [Option.some.injEq] at hu
 subst hu
 have hcE:=St.of_free hfree
 intro E a w K Q h hn hK
 have hx:=zae (h.ev x) (fun p hp=>hn p (by rw [e1] at hp;simp [hp]))
 have hy:=zae (h.ev y) (fun p hp=>hn p (by rw [e2] at hp;simp [hp]))
 rw [e1] at hx
 rw [e2] at hy
 obtain ⟨hx,_⟩:=hx
 obtain ⟨hy,_⟩:=hy
 have h1:n=m:=hn _ (by simp)
 have h2:0<=n:=hn _ (by simp)
 have h3:n<=274877906944:=hn _ (by simp)
 subst h1
 obtain ⟨N,rfl⟩:∃ N:Nat,n=(N:Int):=⟨n.toNat,by omega⟩
 obtain ⟨bytes,hb,i,z,i1,i2,i3,i4,i5⟩:=zi4 hinfo
 have hz':z = .int .i64 0:=by
  rw [i1] at hz
  simp only [Option.bind_some,i2,Option.some.injEq] at hz
  exact hz
 subst hz'
 have hNN:N<=274877906944:=by omega
 have hbb:(i.bytes:Int)*(N:Int)<=281474976710656:=by
  have:i.bytes*N<=1024*274877906944:=Nat.mul_le_mul (by omega) hNN
  have h':((i.bytes*N:Nat):Int)<=281474976710656:=by omega
  rwa [Int.natCast_mul] at h'
 have hrun:=run_make (P:=P) w T e i (.int .i64 0) (za5 e0) i1 i2 k k' N N (by omega) (Int.le_refl _) hbb (by omega)
 have hcells:madeCells (Value.int .i64 0).cells ((N:Int).toNat*i.size)=((List.replicate N (0:Int)).map (Value.int .i64)).toArray:=by
  rw [i3]
  apply Array.ext
  ·simp [madeCells,Value.cells]
  ·intro j hj1 hj2
   simp [madeCells,Value.cells,Nat.mod_one]
 rw [hcells] at hrun
 simp only [Int.toNat_natCast] at hrun
 have hO:OwnR 0 (w.alloc (.cells ((List.replicate N (0:Int)).map (Value.int .i64)).toArray e)) e (E.set []) (RL.rInts (List.replicate N (0:Int))).tys (.slice (some ⟨w.heap.size,0,none⟩) N N) (RL.rInts (List.replicate N (0:Int))).rows:=by
  refine ⟨(List.replicate N (0:Int)).map (Value.int .i64),Win.of ⟨by simp [RL.rows,RL.tys,ints],.inr ⟨w.heap.size,N,((List.replicate N (0:Int)).map (Value.int .i64)).toArray,by simp [RL.rows,ints],Nat.zero_le _,heap_alloc_new _ _,by simp [RL.rows,ints],by unfold maxLen;omega,by simp [RL.tys],by simp [RL.rows,RL.tys,ints]⟩⟩,fun j hj=>?_⟩
  have hj:j<N:=by simpa [RL.rows,ints] using hj
  have e3:(((List.replicate N (0:Int)).map (Value.int .i64)).drop (j*1)).take 1=[.int .i64 0]:=by
   rw [Nat.mul_one,List.drop_eq_getElem_cons (by simpa using hj)];simp
  have e4:(RL.rInts (List.replicate N (0:Int))).rows.getD j []=[.int 0]:=by simp [RL.rows,ints,List.getD,hj]
  rw [e4]
  show RdL _ _ [.int .i64] ((((List.replicate N (0:Int)).map (Value.int .i64)).drop (j*1)).take 1) _
  rw [e3]
  exact ⟨.int (by decide),trivial⟩
 obtain ⟨m1,m2,m3⟩:=zih (st:=st) h.mem hcE e hO
 refine zbo (v:= .slice (some ⟨w.heap.size,0,none⟩) N N) (w':=w.alloc (.cells ((List.replicate N (0:Int)).map (Value.int .i64)).toArray e)) ?_ (hK _ _ _ m2 m3 ⟨if_pos rfl,rfl⟩ m1)
 simp only [execOp,ho,hx,hy,Sem.run_bind,hrun,Result.andThen,Sem.run_pure]
def nilU (st:St):SV->Option SV
 | .nil=>some (.bool true)
 | .sl _ r=>some (.ub r.nilP True)
 | .own t=>match st.m t with
  | .row _ _ r=>some (.ub r.nilP True)
  | _=>none
 | _=>none
def notU:SV->SV
 | .bool b=> .bool !b
 | .ub p q=> .ub q p
 | _=> .any
def cEqN (P:Program) (st:St) (op:BinOp) (T:TypeId) (x y:Operand):Option Upd:=
 match zch P T,zal (st.ev y),op with
 | some _,(.nil,n2),.eql=>match nilU st (zal (st.ev x)).1 with
  | some s=>some ⟨(zal (st.ev x)).2++n2,s,[]⟩
  | none=>none
 | some _,(.nil,n2),.neq=>match nilU st (zal (st.ev x)).1 with
  | some s=>some ⟨(zal (st.ev x)).2++n2,notU s,[]⟩
  | none=>none
 | _,_,_=>none
theorem RL.nilP_of {r:RL} (h:r.rows=[]):r.nilP:=by
 cases r<;>simpa [RL.rows,RL.nilP,ints,strs,zfd] using h
theorem zpq {E:Env} {a:Act} {w:World} (h:st.Ok base X w0 E a w) {s t:SV} (hs:nilU st s=some t) {v:Value} (hv:DenV E w s v):∃ ad n c,v = .slice ad n c/\DenV E w t (.bool ad.isNone)/\DenV E w (notU t) (.bool (!ad.isNone)):=by
 cases s
 case nil=>
  simp only [nilU,Option.some.injEq] at hs
  subst hs
  have:v = .slice none 0 0:=hv
  exact ⟨none,0,0,this,rfl,rfl⟩
 case sl ls r=>
  simp only [nilU,Option.some.injEq] at hs
  subst hs
  have hv:Rd w (E.set ls) (.sl r.tys) v (.sl r.rows):=hv
  obtain ⟨ad,c,rfl,hsl⟩:=hv.sl'
  have hk:ad.isNone=true->r.nilP:=fun e=>RL.nilP_of (by
   have:ad=none:=by simpa using e
   exact List.eq_nil_of_length_eq_zero (hsl.bd.2.2.2 this).1)
  exact ⟨ad,_,c,rfl,⟨_,rfl,hk,fun _=>trivial⟩,_,rfl,fun _=>trivial,fun e=>hk (by simpa using e)⟩
 case own t2=>
  simp only [nilU] at hs
  split at hs
  case h_2=>simp at hs
  rename_i Tb ls r hm
  simp only [Option.some.injEq] at hs
  subst hs
  obtain ⟨v',h1,ho⟩:=h.mem.row t2 _ _ _ hm
  have h2:=hv.1
  rw [h1] at h2
  simp only [Option.some.injEq] at h2
  subst h2
  obtain ⟨cells,hoR,_⟩:=ho
  rcases hoR.2 with ⟨rfl,hn⟩ | ⟨g,o,cap,cur,rfl,_⟩
  ·have hk:r.nilP:=RL.nilP_of (List.eq_nil_of_length_eq_zero hn)
   exact ⟨none,0,0,rfl,⟨_,rfl,fun _=>hk,fun _=>trivial⟩,_,rfl,fun _=>trivial,fun _=>hk⟩
  ·exact ⟨_,_,_,rfl,⟨_,rfl,fun e=>(by simp at e),fun _=>trivial⟩,_,rfl,fun _=>trivial,fun e=>(by simp at e)⟩
 all_goals simp [nilU] at hs
theorem zwy (o:Oper) (op:BinOp) (T T2:TypeId) (x y:Operand) (ho:o.op = .binOp op T x y T2) {u:Upd} (hu:cEqN P st op T x y=some u):Does P base X w0 st o u:=by
 unfold cEqN at hu
 split at hu
 ·rename_i e n2 he e2
  split at hu
  case h_2=>simp at hu
  rename_i s hs
  simp only [Option.some.injEq] at hu
  subst hu
  refine Does.pure fun E a w h hn=>?_
  have hx:=zae (h.ev x) (fun p hp=>hn p (by simp [hp]))
  have hy:=zae (h.ev y) (fun p hp=>hn p (by rw [e2] at hp;simp [hp]))
  rw [e2] at hy
  have hy:a.eval y = .slice none 0 0:=hy
  obtain ⟨ad,n,c,hv,h1,h2⟩:=zpq h hs hx
  refine ⟨_,?_,h1⟩
  have hr:=Lib.run_eql_slice_nil (P:=P) w T e ad n c 0 0 (za5 he)
  simp only [execOp,ho,hv,hy,eqGuard,Sem.run_bind,Sem.run_pure,Result.andThen]
  simp [Sem.run_bind,Result.andThen]
  rw [hr]
 ·rename_i e n2 he e2
  split at hu
  case h_2=>simp at hu
  rename_i s hs
  simp only [Option.some.injEq] at hu
  subst hu
  refine Does.pure fun E a w h hn=>?_
  have hx:=zae (h.ev x) (fun p hp=>hn p (by simp [hp]))
  have hy:=zae (h.ev y) (fun p hp=>hn p (by rw [e2] at hp;simp [hp]))
  rw [e2] at hy
  have hy:a.eval y = .slice none 0 0:=hy
  obtain ⟨ad,n,c,hv,h1,h2⟩:=zpq h hs hx
  refine ⟨_,?_,h2⟩
  have hr:(Op.equalIn 10000 T (.slice ad n c) (.slice none 0 0)).run P w = .ok ad.isNone w:=Lib.run_equalIn_slice_nil (P:=P) w 9999 T e ad n c 0 0 (za5 he)
  simp only [execOp,ho,hv,hy,eqGuard,Sem.run_bind,Sem.run_pure,Result.andThen,binOp,Op.equal,Op.maxDepth]
  simp [Sem.run_bind,Result.andThen]
  rw [hr]
  cases ad<;>rfl
 ·simp at hu
def ztI (P:Program) (st:St) (c:Nat) (T:TypeId) (len:Nat) (parts:Array (Nat×Operand)):Option Upd:=
 match zch P T with
 | some e=>match RL.ofT e,zc7 P e with
  | some r0,some _=>if len=0/\parts.size=0/\st.free c=true then some ⟨[],.own c,[(c,.row e [] r0)]⟩ else none
  | _,_=>none
 | none=>none
theorem ztH (o:Oper) (c:Nat) (T:TypeId) (len:Nat) (parts:Array (Nat×Operand)) (ho:o.op = .buildSlice T len parts) {u:Upd} (hu:ztI P st c T len parts=some u):Does P base X w0 st o u:=by
 unfold ztI at hu
 split at hu
 case h_2=>simp at hu
 rename_i e he
 split at hu
 case h_2=>simp at hu
 rename_i r0 k hr0 hk
 split at hu
 case isFalse=>simp at hu
 rename_i hc
 obtain ⟨rfl,hps,hfree⟩:=hc
 have hps:parts = #[]:=by simpa using hps
 subst hps
 simp only [Option.some.injEq] at hu
 subst hu
 have hcE:=St.of_free hfree
 intro E a w K Q h hn hK
 have hrows:=RL.ofT_ok hr0
 have hO:OwnR 0 (w.alloc (.cells ([]:List Value).toArray e)) e (E.set []) r0.tys (.slice (some ⟨w.heap.size,0,none⟩) 0 0) r0.rows:=by
  rw [hrows]
  refine ⟨[],Win.of ⟨by simp,.inr ⟨w.heap.size,0,([]:List Value).toArray,rfl,Nat.zero_le _,heap_alloc_new _ _,Nat.le_refl _,by unfold maxLen;omega,by simp,by simp⟩⟩,fun i hi=>absurd hi (by simp)⟩
 obtain ⟨m1,m2,m3⟩:=zih (st:=st) h.mem hcE e hO
 refine zbo (v:= .slice (some ⟨w.heap.size,0,none⟩) 0 0) (w':=w.alloc (.cells ([]:List Value).toArray e)) ?_ (hK _ _ _ m2 m3 ⟨if_pos rfl,rfl⟩ m1)
 simp [execOp,ho,Instr.buildSlice,Sem.run_bind,Result.andThen,Sem.run_pure,run_underlying (za5 he),zaO hk,newRow,Instr.fill,Array.range_zero']
end ops
def ptrT (P:Program) (T:TypeId):Bool:=match P.underlying T with
 | some (.pointer _)=>true
 | _=>false
theorem zve {P:Program} {T:TypeId} (h:ptrT P T=true):∃ e,P.underlying T=some (.pointer e):=by
 unfold ptrT at h
 split at h
 ·exact ⟨_,by assumption⟩
 ·cases h
def ptrB:SV->Option Bool
 | .np=>some true
 | .ptr _ _=>some false
 | .rp _ _ _ _=>some false
 | .ro _ _=>some false
 | _=>none
def cEqP (P:Program) (st:St) (op:BinOp) (T:TypeId) (x y:Operand):Option Upd:=
 match ptrT P T,zal (st.ev y),op with
 | true,(.np,n2),.eql=>match ptrB (zal (st.ev x)).1 with
  | some b=>some ⟨(zal (st.ev x)).2++n2,.bool b,[]⟩
  | none=>none
 | true,(.np,n2),.neq=>match ptrB (zal (st.ev x)).1 with
  | some b=>some ⟨(zal (st.ev x)).2++n2,.bool (!b),[]⟩
  | none=>none
 | _,_,_=>none
theorem zvf {E:Env} {w:World} {s:SV} {b:Bool} (hs:ptrB s=some b) {v:Value} (hv:DenV E w s v):∃ a,v = .pointer a/\a.isNone=b:=by
 cases s<;>simp only [ptrB,Option.some.injEq,reduceCtorEq] at hs
 case np=>subst hs;exact ⟨none,hv,rfl⟩
 case ptr=>obtain ⟨b',_,e⟩:=hv;subst hs;exact ⟨_,e,rfl⟩
 case rp=>obtain ⟨b',xs,e,_⟩:=hv;subst hs;exact ⟨_,e,rfl⟩
 case ro=>obtain ⟨b',F,e,_⟩:=hv;subst hs;exact ⟨_,e,rfl⟩
theorem zuZ {P:Program} {T e:TypeId} (h:P.underlying T=some (.pointer e)) (a:Option Addr) (w:World):(Op.equal T (.pointer a) (.pointer none)).run P w = .ok a.isNone w:=by
 obtain ⟨d,hd⟩:∃ d,Op.maxDepth=d+1:=⟨_,rfl⟩
 unfold Op.equal
 rw [hd]
 cases a<;>simp only [Op.equalIn,Sem.run_bind,run_underlying h,Result.andThen]<;>rfl
section
variable {P : Program} {base : Nat} {X : Cx} {w0 : World} {st : St}
theorem zwx (o:Oper) (op:BinOp) (T T2:TypeId) (x y:Operand) (ho:o.op = .binOp op T x y T2) {u:Upd} (hu:cEqP P st op T x y=some u):Does P base X w0 st o u:=by
 unfold cEqP at hu
 split at hu
 case h_3=>simp at hu
 all_goals
  rename_i n2 hT e2
  split at hu
  case h_2=>simp at hu
  rename_i bb hb
  simp only [Option.some.injEq] at hu
  subst hu
  obtain ⟨el,hT⟩:=zve hT
  refine Does.pure fun E a w h hn=>?_
  have hx:=zae (h.ev x) (fun p hp=>hn p (by simp [hp]))
  have hy:=zae (h.ev y) (fun p hp=>hn p (by rw [e2] at hp;simp [hp]))
  rw [e2] at hy
  have hy:a.eval y = .pointer none:=hy
  obtain ⟨ad,hv,rfl⟩:=zvf hb hx
  refine ⟨_,?_,rfl⟩
  have hr:=zuZ hT ad w
  simp only [execOp,ho,hv,hy,eqGuard,Sem.run_bind,Sem.run_pure,Result.andThen]
  simp [Sem.run_bind,Result.andThen,binOp,hr]
end
end Go.Proofs.YtkhphiahindnnaaGreat
namespace Go.Proofs.YtkhphiahindnnaaGreat
open Go.RowKit Go.ChangeShapes Go.WideShapes Go.Deep
theorem OwnR.intsC {w:World} {T:TypeId} {S:Nat->Prop} {v:Value} {l:List Int} (h:OwnR 0 w T S [.int .i64] v (ints l)):w.ownsRow 0 T 1 v l.length (l.map (Value.int .i64))/\∀ x∈l,I64 x:=by
 obtain ⟨cells,ho,hr⟩:=h
 have ho:=ho.one (by show (1:Nat)<18;decide)
 rw [zap] at ho hr
 have hl:cells.length=l.length:=by have:=ho.1;simpa using this
 have hat:∀ i,(hi:i<l.length)->cells[i]? = some (.int .i64 l[i])/\I64 l[i]:=by
  intro i hi
  have:=hr i hi
  have e2:(ints l).getD i []=[.int l[i]]:=by simp [ints,List.getD,hi]
  rw [e2] at this
  have e3:(cells.drop (i*[Ty.int .i64].length)).take [Ty.int .i64].length=[cells[i]'(by omega)]:=by
   show (cells.drop (i*1)).take 1=_
   rw [Nat.mul_one,List.drop_eq_getElem_cons (by omega),List.take_succ_cons,List.take_zero]
  rw [e3] at this
  obtain ⟨e4,h5⟩:=this.1.i64
  exact ⟨by rw [List.getElem?_eq_getElem (by omega),e4],h5⟩
 have e:cells=l.map (Value.int .i64):=by
  apply List.ext_getElem?
  intro i
  by_cases hi:i<l.length
  ·rw [(hat i hi).1];simp [hi]
  ·rw [List.getElem?_eq_none (by omega),List.getElem?_eq_none (by simp;omega)]
 refine ⟨by rw [<- e];exact ho,fun x hx=>?_⟩
 obtain ⟨i,hi,rfl⟩:=List.mem_iff_getElem.1 hx
 exact (hat i hi).2
theorem OwnR.ofC {w:World} {T:TypeId} {S:Nat->Prop} {v:Value} {l:List Int} (h:w.ownsRow 0 T 1 v l.length (l.map (Value.int .i64))) (hx:∀ x∈l,I64 x):OwnR 0 w T S [.int .i64] v (ints l):=by
 refine ⟨l.map (Value.int .i64),by rw [zap];exact Win.of h,fun i hi=>?_⟩
 rw [zap] at hi
 have e1:(((l.map (Value.int .i64)).drop (i*1)).take 1)=[.int .i64 (l[i])]:=by
  rw [Nat.mul_one,List.drop_eq_getElem_cons (by simpa using hi)];simp
 have e2:(ints l).getD i []=[.int l[i]]:=by simp [ints,List.getD,hi]
 show RdL _ _ [.int .i64] (((l.map (Value.int .i64)).drop (i*1)).take 1) _
 rw [e1,e2]
 exact ⟨.ofI64 (hx _ (List.getElem_mem hi)),trivial⟩
theorem Sl.takeX {w:World} {S:Nat->Prop} {fs:List Ty} {a:Option Addr} {n c k:Nat} {rows:List (List D)} (h:Sl w S fs a n c rows) (hk:k<=n):Sl w S fs a k c (rows.take k):=by
 have hb:=h.bd
 by_cases h0:k=0
 ·subst h0
  rw [List.take_zero]
  refine .emp (fun e=>(hb.2.2.2 e).2) (by unfold maxLen;omega)
 ·cases h with
  | emp _ _=>omega
  | row vals h1 h2 h3 h4 h5 h6 h7 h8 h9 h10 h11=>
   have e:∀ i,i<k->(rows.take k).getD i []=rows.getD i []:=fun i hi=>by simp [List.getD,List.getElem?_take,hi]
   exact .row vals (by omega) (by simp;omega) (by omega) h4 (by omega) h6 h7 (fun i j hi hj=>h8 i j (by omega) hj) (fun i hi=>by rw [e i hi];exact h9 i (by omega)) (fun i j hi hj=>by rw [e i hi];exact h10 i j (by omega) hj) (fun i j hi hj=>h11 i j (by omega) hj)
section ops
variable {P : Program} {base : Nat} {X : Cx} {w0 : World} {st : St}
def RL.over:RL->RL->Option RL
 | .rInts l,.rInts m=>some (.rInts (m.take l.length++l.drop m.length))
 | _,_=>none
theorem zpk {l m:List Int} (h:Nat.min m.length l.length=0):m.take l.length++l.drop m.length=l:=by
 have:m.length=0\/l.length=0:=by have h:min m.length l.length=0:=h;omega
 rcases this with h | h
 ·rw [List.eq_nil_of_length_eq_zero h];simp
 ·rw [List.eq_nil_of_length_eq_zero h];simp
def ztP (P:Program) (st:St) (T:TypeId) (x y:Operand):Option Upd:=
 match zch P T,zal (st.ev x) with
 | some e,(.own t,n1)=>match st.m t with
  | .row Tb ls r=>match zcH st r (zal (st.ev y)).1 with
   | some (su,ms,q)=>if zuH (some t) su=true/\zc7 P e=some 1 then (match r.over q with
    | some r2=>some ⟨n1++(zal (st.ev y)).2++[q.len<=17592186044416],.int .i64 (Nat.min q.len r.len:Nat),[(t,.row Tb ls r2)]⟩
    | none=>none) else none
   | none=>none
  | _=>none
 | _,_=>none
theorem zss {E:Env} {w:World} (hm:MemOk base X w0 E st.m w) {l m:List Int} {s:SV} {su:Option Nat} {ms:List Nat} (h:zcH st (.rInts l) s=some (su,ms,.rInts m)) (hq:m.length<=17592186044416) {v:Value} (hv:DenV E w s v):∃ ad c,v = .slice ad m.length c/\∃ S,SlI w S ad m.length c m:=by
 cases s
 case own t=>
  simp only [zcH] at h
  split at h
  case h_2=>simp at h
  rename_i Tb ls2 r2 hmt
  simp only [Option.some.injEq,Prod.mk.injEq] at h
  obtain ⟨rfl,rfl,rfl⟩:=h
  obtain ⟨v',hβ,ho⟩:=hm.row t _ _ _ hmt
  have hv1:=hv.1
  rw [hβ] at hv1
  simp only [Option.some.injEq] at hv1
  subst hv1
  have hll:(RL.rInts m).rows.length=m.length:=by simp [RL.rows,ints]
  obtain ⟨a,c,e,hs⟩:=ho.slO (fun _=>True) (fun _ _=>trivial) (fun _ _ _=>trivial) (by rw [hll];exact hq)
  rw [hll] at e hs
  exact ⟨a,c,e,_,hs⟩
 case sl ls r=>
  simp only [zcH,Option.some.injEq,Prod.mk.injEq] at h
  obtain ⟨rfl,rfl,rfl⟩:=h
  have hv:Rd w (E.set ls) (.sl [.int .i64]) v (.sl (ints m)):=hv
  obtain ⟨ad,c,rfl,hsl⟩:=hv.sl'
  rw [zap] at hsl ⊢
  exact ⟨ad,c,rfl,_,hsl⟩
 case nil=>
  simp only [zcH,RL.emp,Option.some.injEq,Prod.mk.injEq] at h
  obtain ⟨rfl,rfl,e⟩:=h
  have e:m=[]:=by simpa using e.symm
  subst e
  have:v = .slice none 0 0:=hv
  exact ⟨none,0,this,fun _=>True,.emp (fun _=>rfl) (by decide)⟩
 case ov t n=>
  simp only [zcH] at h
  split at h
  case h_2=>simp at h
  rename_i Tb ls2 r2 hmt
  split at h
  case isFalse=>simp at h
  rename_i hw
  simp only [Option.some.injEq,Prod.mk.injEq] at h
  have:=(RL.take_ok r2 n).2.1
  rw [h.2.2] at this
  rw [<- this] at hw
  exact absurd hw (by show ¬ 18<=1;decide)
 all_goals simp [zcH] at h
theorem ztO (o:Oper) (T T2:TypeId) (x y:Operand) (ho:o.op = .call {callee:= .builtin .copy,args:= #[x,y],argTypes:= #[T,T2]}) {u:Upd} (hu:ztP P st T x y=some u):Does P base X w0 st o u:=by
 unfold ztP at hu
 split at hu
 case h_2=>simp at hu
 rename_i e t n1 he e1
 split at hu
 case h_2=>simp at hu
 rename_i Tb ls r hm
 split at hu
 case h_2=>simp at hu
 rename_i su ms q hsrc
 split at hu
 case isFalse=>simp at hu
 rename_i hc
 obtain ⟨hap,hsz⟩:=hc
 split at hu
 case h_2=>simp at hu
 rename_i r2 hov
 simp only [Option.some.injEq] at hu
 subst hu
 have hr:∃ l,r = .rInts l:=by cases r<;>simp [RL.over] at hov;exact ⟨_,rfl⟩
 obtain ⟨l,rfl⟩:=hr
 have hq:∃ m,q = .rInts m:=by cases q<;>simp [RL.over] at hov;exact ⟨_,rfl⟩
 obtain ⟨m,rfl⟩:=hq
 simp only [RL.over,Option.some.injEq] at hov
 subst hov
 intro E a w K Q h hn hK
 have hx:=zae (h.ev x) (fun p hp=>hn p (by rw [e1] at hp;simp [hp]))
 have hy:=zae (h.ev y) (fun p hp=>hn p (by simp [hp]))
 have hml:m.length<=17592186044416:=hn _ (by simp [RL.len])
 rw [e1] at hx
 obtain ⟨sa,sc,hsv,S,hS⟩:=zss h.mem hsrc hml hy
 obtain ⟨v,hβ,hO⟩:=h.mem.row t _ _ _ hm
 have hx1:=hx.1
 rw [hβ] at hx1
 simp only [Option.some.injEq] at hx1
 subst hx1
 have hO:OwnR 0 w Tb (E.set ls) [.int .i64] (a.eval x) (ints l):=hO
 obtain ⟨hc,hi⟩:=hO.intsC
 obtain ⟨va,hva⟩:∃ va,a.eval x=va:=⟨_,rfl⟩
 rw [hva] at hO hc hβ
 have hlive:(st.m t).live=true:=by rw [hm];rfl
 have hsz1:(P.info? e).map (·.size)=some 1:=hsz
 have hdform:∃ da dc,va = .slice da l.length dc:=by
  obtain ⟨a2,c2,e2⟩:=hO.form
  rw [zap] at e2
  exact ⟨a2,c2,e2⟩
 obtain ⟨da,dc,rfl⟩:=hdform
 have hlb:l.length<=9223372036854775807:=by
  rcases hc.2 with ⟨e5,e6⟩ | ⟨g,cap,cur,e5,_,_,h6,h7,_⟩
  ·omega
  ·unfold maxLen at h7;omega
 have hwf:(Lit.int .i64 (Nat.min m.length l.length:Nat)).wf=true:=by
  apply zcF
  have:Nat.min m.length l.length<=l.length:=Nat.min_le_right _ _
  omega
 by_cases h0:Nat.min m.length l.length=0
 ·have hrun:=run_copy_none (P:=P) w T T2 o.type e da sa l.length dc m.length sc (za5 he) hsz1 h0
  refine zbo (v:=goInt 0) (w':=w) ?_ (hK E w _ (Env.Le.refl E) Same.rfl' ⟨by show goInt 0=_;simp only [RL.len,h0];rfl,by simpa [RL.len] using hwf⟩ ?_)
  ·simp [execOp,ho,resolve,invoke,builtin,hva,hsv,hrun,Result.andThen]
  ·rw [zcp,zpk h0]
   have:upd st.m t (.row Tb ls (.rInts l))=st.m:=by
    funext u
    by_cases hu:u=t
    ·subst hu;rw [zbi,hm]
    ·rw [zbg _ _ hu]
   rw [this];exact h.mem
 ·have hml0:0<m.length/\0<l.length:=by have h0:¬ min m.length l.length=0:=h0;omega
  rcases hc.2 with ⟨e5,e6⟩ | ⟨g,cap,cur,e5,_,hg,hnc,hcm,hcs,htake⟩
  ·omega
  simp only [Value.slice.injEq] at e5
  obtain ⟨rfl,_,rfl⟩:=e5
  obtain ⟨b,off,rfl⟩:=hS.addr hml0.1
  have hlen:((m.take l.length).map (Value.int .i64)).length=Nat.min m.length l.length:=by
   simp only [List.length_map,List.length_take];exact Nat.min_comm _ _
  have hrun:=run_copy_row (P:=P) w T T2 o.type e g 0 l.length dc ⟨b,off,none⟩ m.length sc cur Tb ((m.take l.length).map (Value.int .i64)) (za5 he) hsz1 hg hlen (fun j u hj=>by
   have hj2:j<m.length:=by
    have:=(List.getElem?_eq_some_iff.1 hj).1
    simp at this;omega
   have:=(SlI.cell hS hj2).2.1
   rw [Go.WideShapes.add_plain,this]
   rw [List.getElem?_map,List.getElem?_take] at hj
   split at hj
   ·rw [List.getElem?_eq_getElem hj2] at hj
    simp only [Option.map_some,Option.some.injEq] at hj
    rw [<- hj];simp [nu,List.getD,hj2]
   ·simp at hj) (by
    have:Nat.min m.length l.length<=l.length:=Nat.min_le_right _ _
    rw [hlen];omega) (fun u hu=>by obtain ⟨i,_,rfl⟩:=List.mem_map.1 hu;rfl)
  have hHas:Has E st.m t g:=Has.row hm hβ rfl
  have hsep:=(h.mem.sep t g hHas).1
  rw [hlen] at hrun
  generalize hw':w.setRow g (cur.toList.take 0++(m.take l.length).map (Value.int .i64)++cur.toList.drop (0+Nat.min m.length l.length)).toArray=w' at hrun
  have hSm:Same E.lab w w':=by
   rw [<- hw']
   exact ⟨by simp,fun g2 hg2 _=>setRow_other w g g2 _ (fun e=>hsep (e▸hg2))⟩
  refine zbo (v:=goInt (Nat.min m.length l.length)) (w':=w') ?_ (hK E w' _ (Env.Le.refl E) hSm ⟨rfl,hwf⟩ ?_)
  ·simp [execOp,ho,resolve,invoke,builtin,hva,hsv,hrun,Result.andThen]
  ·rw [zcp]
   refine h.mem.poke hlive hβ _ rfl (by rw [<- hw'];simp) (fun g2 hg' _=>by rw [<- hw'];exact setRow_other w g g2 _ (fun e=>hg' (by simp [zaV,e]))) (by rw [<- hw'];exact ⟨rfl,rfl,rfl⟩) ?_
   show OwnR 0 w' Tb (E.set ls) [.int .i64] _ (ints _)
   have hll:(m.take l.length++l.drop m.length).length=l.length:=by simp;omega
   have hcur:cur.toList.length=cur.size:=Array.length_toList
   have hmin:Nat.min m.length l.length<=l.length:=Nat.min_le_right _ _
   refine OwnR.ofC ?_ (fun z hz=>?_)
   ·rw [hll]
    refine ⟨by simp;omega,.inr ⟨g,dc,(cur.toList.take 0++(m.take l.length).map (Value.int .i64)++cur.toList.drop (0+Nat.min m.length l.length)).toArray,rfl,Nat.zero_le _,by rw [<- hw'];exact setRow_heap w g _ _ Tb _ hg,hnc,hcm,?_,?_⟩⟩
    ·simp only [List.take_zero,List.nil_append,Nat.zero_add,List.size_toArray,List.length_append,hlen,List.length_drop]
     omega
    ·simp only [List.take_zero,List.nil_append,Nat.zero_add,Nat.mul_one]
     apply List.ext_getElem?
     intro i
     rw [List.getElem?_take]
     have hc2:∀ i,i<l.length->cur.toList[i]? = some (.int .i64 (l.getD i 0)):=by
      intro i hi2
      have:(cur.toList.take (l.length*1))[i]? = (l.map (Value.int .i64))[i]? := by rw [htake]
      rw [List.getElem?_take,if_pos (by omega)] at this
      rw [this];simp [List.getD,hi2]
     by_cases hi2:i<l.length
     ·rw [if_pos hi2]
      by_cases hi3:i<Nat.min m.length l.length
      ·rw [List.getElem?_append_left (by rw [hlen];exact hi3),List.map_append,List.getElem?_append_left (by rw [hlen];exact hi3)]
      ·have hml2:m.length<=i:=by have hi3:¬ i<min m.length l.length:=hi3;omega
       have hmm:Nat.min m.length l.length=m.length:=by show min m.length l.length=m.length;omega
       rw [List.getElem?_append_right (by rw [hlen];omega),List.map_append,List.getElem?_append_right (by rw [hlen];omega),hlen,hmm,List.getElem?_drop,List.getElem?_map,List.getElem?_drop,show m.length+(i-m.length)=i by omega,hc2 i hi2]
       simp [List.getD,hi2]
     ·rw [if_neg hi2,List.getElem?_eq_none]
      simp;omega
   ·rcases List.mem_append.1 hz with hz | hz
    ·exact SlI.i64 hS z (List.mem_of_mem_take hz)
    ·exact hi z (List.mem_of_mem_drop hz)
def optI (st:St):Option Operand->Option (Option Int×List Prop)
 | none=>some (none,[])
 | some x=>match zal (st.ev x) with
  | (.int _ n,ns)=>some (some n,ns)
  | _=>none
def hiOf (len:Nat):Option Int->Int
 | none=>len
 | some n=>n
def loOf:Option Int->Int
 | none=>0
 | some n=>n
def BdIs (a:Act):Option Operand->Option Int->Prop
 | none,none=>True
 | some x,some n=>∃ k,a.eval x = .int k n
 | _,_=>False
theorem zcb {E:Env} {a:Act} {w:World} (h:st.Ok base X w0 E a w) {x:Option Operand} {l:Option Int} {n:List Prop} (hx:optI st x=some (l,n)) (hn:∀ p∈n,p):BdIs a x l:=by
 cases x with
 | none=>
  simp only [optI,Option.some.injEq,Prod.mk.injEq] at hx
  obtain ⟨rfl,_⟩:=hx
  trivial
 | some x=>
  simp only [optI] at hx
  split at hx
  case h_2=>simp at hx
  rename_i k m ns e
  simp only [Option.some.injEq,Prod.mk.injEq] at hx
  obtain ⟨rfl,rfl⟩:=hx
  have:=zae (h.ev x) (fun p hp=>hn p (by rw [e] at hp;exact hp))
  rw [e] at this
  exact ⟨k,this.1⟩
theorem zdQ {T e:TypeId} (he:P.underlying T=some (.slice e)) {sz:Nat} (hsz:zc7 P e=some sz) (w:World) {a:Act} {lo hi:Option Operand} {l h:Option Int} (hl:BdIs a lo l) (hh:BdIs a hi h) (ad:Option Addr) (len cap:Nat) (hlc:len<=cap) (h0:0<=loOf l) (h1:loOf l<=hiOf len h) (h2:hiOf len h<=(len:Int)) :
  (Instr.sliceAt T (.slice ad len cap) (lo.map a.eval) (hi.map a.eval) none).run P w = .ok (.slice (if cap=(loOf l).toNat then ad else ad.map (·.add ((loOf l).toNat*sz))) ((hiOf len h).toNat-(loOf l).toNat) (cap-(loOf l).toNat)) w:=by
 have hb:∀ (k:IntKind) (n:Int) (y:Nat) code,0<=n->n<=(y:Int)->(Instr.sliceBound (.int k n) y code).run P w = .ok n.toNat w:=fun k n y code g0 g1=>run_sliceBound _ _ _ _ _ g0 g1
 cases lo with
 | none=>
  cases l with
  | some _=>exact hl.elim
  | none=>
   cases hi with
   | none=>
    cases h with
    | some _=>exact hh.elim
    | none=>simp [Instr.sliceAt,Instr.slice,Instr.sliceBounds,Sem.run_bind,run_underlying he,zaO hsz,Result.andThen,Sem.run_pure,loOf,hiOf]
   | some y=>
    cases h with
    | none=>exact hh.elim
    | some n=>
     obtain ⟨k,hk⟩:=hh
     have:=hb k n cap .sliceAcap (by simp only [loOf,hiOf] at h0 h1;omega) (by simp only [hiOf] at h2;omega)
     simp [Instr.sliceAt,Instr.slice,Instr.sliceBounds,Sem.run_bind,run_underlying he,zaO hsz,Result.andThen,Sem.run_pure,loOf,hiOf,hk,this]
 | some x=>
  cases l with
  | none=>exact hl.elim
  | some m=>
   obtain ⟨k2,hk2⟩:=hl
   cases hi with
   | none=>
    cases h with
    | some _=>exact hh.elim
    | none=>
     have:=hb k2 m len .sliceB h0 h1
     simp [Instr.sliceAt,Instr.slice,Instr.sliceBounds,Sem.run_bind,run_underlying he,zaO hsz,Result.andThen,Sem.run_pure,loOf,hiOf,hk2,this]
     rfl
   | some y=>
    cases h with
    | none=>exact hh.elim
    | some n=>
     obtain ⟨k,hk⟩:=hh
     have g1:=hb k n cap .sliceAcap (by simp only [loOf,hiOf] at h0 h1;omega) (by simp only [hiOf] at h2;omega)
     have g2:=hb k2 m n.toNat .sliceB h0 (by simp only [loOf,hiOf] at h1;omega)
     simp [Instr.sliceAt,Instr.slice,Instr.sliceBounds,Sem.run_bind,run_underlying he,zaO hsz,Result.andThen,Sem.run_pure,loOf,hiOf,hk,hk2,g1,g2]
     rfl
def zxH (ls:List Nat) (r:RL) (l h:Option Int):SV:= .sl ls ((r.take (hiOf r.len h).toNat).drop (loOf l).toNat)
def zrv (c t:Nat) (Tb:TypeId) (ls:List Nat) (r:RL) (l h:Option Int) (n:List Prop):Option Upd:=
 match l,h with
 | none,some h=>some ⟨n++[0<=h,h<=(r.len:Int)],.ov t h.toNat,[]⟩
 | some l,none=>some ⟨n++[0<=l,l<=(r.len:Int)],.own c,[(t,.dead),(c,.row Tb ls (r.drop l.toNat))]⟩
 | _,_=>none
def ztN (P:Program) (st:St) (c:Nat) (T:TypeId) (x:Operand) (lo hi:Option Operand):Option Upd:=
 match zch P T,optI st lo,optI st hi with
 | some e,some (l,n2),some (h,n3)=>match zal (st.ev x) with
  | (.sl ls r,n1)=>if zc7 P e=some r.tys.length then some ⟨n1++n2++n3++[0<=loOf l,loOf l<=hiOf r.len h,hiOf r.len h<=(r.len:Int)],zxH ls r l h,[]⟩ else none
  | (.nil,n1)=>if (zc7 P e).isSome=true then some ⟨n1++n2++n3++[loOf l=0,hiOf 0 h=0],.nil,[]⟩ else none
  | (.own t,n1)=>match st.m t with
   | .row Tb ls r=>if zc7 P e=some r.tys.length/\st.free c=true then (if 18<=r.tys.length then zrv c t Tb ls r l h (n1++n2++n3) else match l with
    | none=>some ⟨n1++n2++n3++[0<=hiOf r.len h,hiOf r.len h<=(r.len:Int)],.own c,[(t,.dead),(c,.row Tb ls (r.take (hiOf r.len h).toNat))]⟩
    | some l=>some ⟨n1++n2++n3++[0<=l,l<=hiOf r.len h,hiOf r.len h<=(r.len:Int),r.len<=17592186044416],zxH (c::ls) r (some l) h,[(t,.dead),(c,.dead)]⟩) else none
   | _=>none
  | _=>none
 | _,_,_=>none
theorem zxI {w:World} {S:Nat->Prop} {r:RL} {ad:Option Addr} {c:Nat} {l h:Option Int} (hs:Sl w S r.tys ad r.len c r.rows) (h0:0<=loOf l) (h1:loOf l<=hiOf r.len h) (h2:hiOf r.len h<=(r.len:Int)) :
  Rd w S (.sl ((r.take (hiOf r.len h).toNat).drop (loOf l).toNat).tys) (.slice (if c=(loOf l).toNat then ad else ad.map (·.add ((loOf l).toNat*r.tys.length))) ((hiOf r.len h).toNat-(loOf l).toNat) (c-(loOf l).toNat)) (.sl ((r.take (hiOf r.len h).toNat).drop (loOf l).toNat).rows):=by
 have hb:=hs.bd
 rw [(RL.drop_ok _ _).1,(RL.drop_ok _ _).2.1,(RL.take_ok _ _).1,(RL.take_ok _ _).2.1]
 have ht:=hs.takeX (k:=(hiOf r.len h).toNat) (by omega)
 have hbt:=ht.bd
 by_cases hc:c=(loOf l).toNat
 ·rw [if_pos hc]
  have e:(hiOf r.len h).toNat-(loOf l).toNat=0:=by omega
  rw [e,List.drop_eq_nil_of_le (by have:=ht.len;omega)]
  exact .emp (fun e2=>by have:=(hb.2.2.2 e2).2;omega) (by unfold maxLen;omega)
 ·rw [if_neg hc]
  exact ht.cutMX (by omega) (by omega)
theorem MemOk.freeze {E:Env} {w:World} {m:Nat->BE} (h:MemOk base X w0 E m w) {t c:Nat} (hl:(m t).live=true) (hc:m c = .empty) :
  ∃ E',E.Le E'/\(∀ b,Has E m t b->E'.σ c b)/\MemOk base X w0 E' (putF [(t,.dead),(c,.dead)] m) w:=by
 have htc:t≠c:=by intro e;subst e;rw [hc] at hl;cases hl
 have hcnl:X.nl<=c:=by
  rcases Nat.lt_or_ge c X.nl with hlt | hge
  ·exact absurd hc (h.low c hlt)
  ·exact hge
 have hnc:∀ b,¬ E.σ c b:=(h.empty c hc).2
 have hm:∀ u,putF [(t,.dead),(c,.dead)] m u=if u=t then .dead else if u=c then .dead else m u:=fun u=>rfl
 refine ⟨⟨E.β,fun i b=>E.σ i b\/(i=c/\Has E m t b),E.φ⟩,⟨fun _ _ x=>x,fun _ _ x=> .inl x⟩,fun b hb=> .inr ⟨rfl,hb⟩,?_⟩
 have hhas:∀ u b,Has (⟨E.β,fun i b=>E.σ i b\/(i=c/\Has E m t b),E.φ⟩:Env) (putF [(t,.dead),(c,.dead)] m) u b->Has E m u b/\u≠t:=by
  intro u b ⟨g1,g2⟩
  rw [hm] at g1 g2
  by_cases hu:u=t
  ·rw [if_pos hu] at g1;cases g1
  ·rw [if_neg hu] at g1 g2
   by_cases hu2:u=c
   ·rw [if_pos hu2] at g1;cases g1
   ·rw [if_neg hu2] at g1 g2;exact ⟨⟨g1,g2⟩,hu⟩
 refine h.go ⟨fun _ _ x=>x,fun _ _ x=> .inl x⟩ Same.rfl' (fun u=>u=t\/u=c) (fun u hu=>⟨by rw [hm,if_neg (fun e=>hu (.inl e)),if_neg (fun e=>hu (.inr e))],rfl,rfl⟩)
  (fun u hu he b hb=>hb.elim ((h.empty u he).2 b) (fun g=>hu (.inr g.1))) (fun _ _ _ _=>rfl) (fun u hu=>?_) (fun i b hb=>?_) (fun i j b hi hj=>?_) (fun u b hb=>?_) (fun i b hi hb=>?_) (fun u v b h1 h2=>?_) (BelowX.refl _ _ _)
 ·have:putF [(t,.dead),(c,.dead)] m u = .dead:=by
   rw [hm]
   rcases hu with rfl | rfl
   ·rw [if_pos rfl]
   ·split<;>simp
  rw [this]
  exact ⟨by simp,fun g=>by cases g⟩
 ·rcases hb with hb | ⟨rfl,hb⟩
  ·exact h.lab i b hb
  ·exact ⟨h.lt hb,fun _=>(h.sep t b hb).2⟩
 ·rcases hi with hi | ⟨rfl,hi⟩<;>rcases hj with hj | ⟨rfl,hj⟩
  ·exact h.dis i j b hi hj
  ·exact absurd ⟨i,hi⟩ (h.sep t b hj).1
  ·exact absurd ⟨j,hj⟩ (h.sep t b hi).1
  ·rfl
 ·obtain ⟨g1,g2⟩:=hhas u b hb
  refine ⟨fun ⟨i,hi⟩=>?_,(h.sep u b g1).2⟩
  rcases hi with hi | ⟨_,hi⟩
  ·exact (h.sep u b g1).1 ⟨i,hi⟩
  ·exact g2 (h.inj u t b g1 hi)
 ·rcases hb with hb | ⟨rfl,_⟩
  ·exact h.old i b hi hb
  ·omega
 ·exact h.inj u v b (hhas u b h1).1 (hhas v b h2).1
theorem ztM (o:Oper) (c:Nat) (T:TypeId) (x:Operand) (lo hi:Option Operand) (ho:o.op = .slice T x lo hi none) {u:Upd} (hu:ztN P st c T x lo hi=some u):Does P base X w0 st o u:=by
 unfold ztN at hu
 split at hu
 case h_2=>simp at hu
 rename_i e l n2 h n3 he e2 e3
 split at hu
 case h_4=>simp at hu
 ·rename_i ls r n1 e1
  split at hu
  case isFalse=>simp at hu
  rename_i hsz
  simp only [Option.some.injEq] at hu
  subst hu
  refine Does.pure fun E a w hk hn=>?_
  have hx:=zae (hk.ev x) (fun p hp=>hn p (by rw [e1] at hp;simp [hp]))
  rw [e1] at hx
  have hl:=zcb hk e2 (fun p hp=>hn p (by simp [hp]))
  have hh:=zcb hk e3 (fun p hp=>hn p (by simp [hp]))
  have g0:0<=loOf l:=hn _ (by simp)
  have g1:loOf l<=hiOf r.len h:=hn _ (by simp)
  have g2:hiOf r.len h<=(r.len:Int):=hn _ (by simp)
  have hx:Rd w (E.set ls) (.sl r.tys) (a.eval x) (.sl r.rows):=hx
  obtain ⟨ad,cc,hv,hsl⟩:=hx.sl'
  rw [r.rows_len] at hv hsl
  refine ⟨_,?_,zxI hsl g0 g1 g2⟩
  have hr:=zdQ (P:=P) (za5 he) hsz w hl hh ad r.len cc hsl.bd.1 g0 g1 g2
  simp only [execOp,ho,hv,Option.map_none,Sem.run_bind,hr,Result.andThen,Sem.run_pure]
 ·rename_i n1 e1
  split at hu
  case isFalse=>simp at hu
  rename_i hsz
  simp only [Option.some.injEq] at hu
  subst hu
  refine Does.pure fun E a w hk hn=>?_
  have hx:=zae (hk.ev x) (fun p hp=>hn p (by rw [e1] at hp;simp [hp]))
  rw [e1] at hx
  have hl:=zcb hk e2 (fun p hp=>hn p (by simp [hp]))
  have hh:=zcb hk e3 (fun p hp=>hn p (by simp [hp]))
  have g0:loOf l=0:=hn _ (by simp)
  have g1:hiOf 0 h=0:=hn _ (by simp)
  have hv:a.eval x = .slice none 0 0:=hx
  obtain ⟨sz,hsz⟩:=Option.isSome_iff_exists.1 hsz
  refine ⟨_,?_,(rfl:Value.slice none 0 0=_)⟩
  have hr:=zdQ (P:=P) (za5 he) hsz w hl hh none 0 0 (Nat.le_refl _) (by omega) (by rw [g0,g1];decide) (by rw [g1];decide)
  simp only [execOp,ho,hv,Option.map_none,Sem.run_bind,hr,Result.andThen,Sem.run_pure,g0,g1]
  rfl
 ·rename_i t n1 e1
  split at hu
  case h_2=>simp at hu
  rename_i Tb ls r hm
  split at hu
  case isFalse=>simp at hu
  rename_i hc
  obtain ⟨hsz,hfree⟩:=hc
  have hcE:=St.of_free hfree
  have hlive:(st.m t).live=true:=by rw [hm];rfl
  split at hu
  ·rename_i hw
   rcases l with _ | l9<;>rcases h with _ | h9
   ·simp [zrv] at hu
   ·simp only [zrv,Option.some.injEq] at hu
    subst hu
    refine Does.pure fun E a w hk hn=>?_
    have hx:=zae (hk.ev x) (fun p hp=>hn p (by rw [e1] at hp;simp [hp]))
    rw [e1] at hx
    have hl:=zcb hk e2 (fun p hp=>hn p (by simp [hp]))
    have hh:=zcb hk e3 (fun p hp=>hn p (by simp [hp]))
    have g1:0<=h9:=hn _ (by simp)
    have g2:h9<=(r.len:Int):=hn _ (by simp)
    obtain ⟨v,hβ,hO⟩:=hk.mem.row t _ _ _ hm
    have hx1:=hx.1
    rw [hβ] at hx1
    simp only [Option.some.injEq] at hx1
    obtain ⟨ad,cc,hv⟩:=hO.form
    rw [r.rows_len] at hv
    have hcl:r.len<=cc:=by
     obtain ⟨cells,hoR,_⟩:=hO
     rcases hoR.2 with ⟨e5,e6⟩ | ⟨g,o,cap,cur,e5,_,_,_,h6,_⟩
     ·rw [e5] at hv;simp at hv;omega
     ·rw [e5] at hv;simp only [Value.slice.injEq] at hv;rw [r.rows_len] at h6;omega
    have hr:=zdQ (P:=P) (za5 he) hsz w hl hh ad r.len cc hcl (Int.le_refl _) g1 g2
    have hr2:(Instr.sliceAt T (a.eval x) (lo.map a.eval) (hi.map a.eval) none).run P w = .ok (.slice ad h9.toNat cc) w:=by
     rw [<- hx1,hv,hr]
     have:(if cc=(loOf none).toNat then ad else ad.map (·.add ((loOf none).toNat*r.tys.length)))=ad:=by
      have e9:(loOf none).toNat*r.tys.length=0:=by simp [loOf]
      rw [e9]
      cases ad with
      | none=>simp
      | some ad=>simp [Addr.add]
     rw [this];simp [loOf,hiOf]
    refine ⟨.slice ad h9.toNat cc,?_,ad,r.len,cc,by rw [hβ,hv],by omega,rfl⟩
    simp only [execOp,ho,Option.map_none,Sem.run_bind,hr2,Result.andThen,Sem.run_pure]
   ·simp only [zrv,Option.some.injEq] at hu
    subst hu
    intro E a w K Q hk hn hK
    have hx:=zae (hk.ev x) (fun p hp=>hn p (by rw [e1] at hp;simp [hp]))
    rw [e1] at hx
    have hl:=zcb hk e2 (fun p hp=>hn p (by simp [hp]))
    have hh:=zcb hk e3 (fun p hp=>hn p (by simp [hp]))
    have g1:0<=l9:=hn _ (by simp)
    have g2:l9<=(r.len:Int):=hn _ (by simp)
    obtain ⟨v,hβ,hO⟩:=hk.mem.row t _ _ _ hm
    have hx1:=hx.1
    rw [hβ] at hx1
    simp only [Option.some.injEq] at hx1
    obtain ⟨ad,cc,hv⟩:=hO.form
    have hv0:=hv
    rw [r.rows_len] at hv
    have hcl:r.len<=cc:=by
     obtain ⟨cells,hoR,_⟩:=hO
     rcases hoR.2 with ⟨e5,e6⟩ | ⟨g,o,cap,cur,e5,_,_,_,h6,_⟩
     ·rw [e5] at hv;simp at hv;omega
     ·rw [e5] at hv;simp only [Value.slice.injEq] at hv;rw [r.rows_len] at h6;omega
    have hr:=zdQ (P:=P) (za5 he) hsz w hl hh ad r.len cc hcl g1 g2 (Int.le_refl _)
    have hr2:(Instr.sliceAt T (a.eval x) (lo.map a.eval) (hi.map a.eval) none).run P w = .ok (.slice (if cc=l9.toNat then ad else ad.map (·.add (l9.toNat*r.tys.length))) (r.len-l9.toNat) (cc-l9.toNat)) w:=by
     rw [<- hx1,hv,hr]
     have e7:(loOf (some l9)).toNat=l9.toNat:=rfl
     have e8:(hiOf r.len none).toNat=r.len:=Int.toNat_natCast _
     rw [e7,e8]
    have hO2:=hO
    rw [hv0] at hO2
    have hcut:=hO2.dropV (l:=l9.toNat) (by omega) (by rw [r.rows_len];omega)
    rw [r.rows_len,<- (RL.drop_ok r l9.toNat).2.1,<- (RL.drop_ok r l9.toNat).1] at hcut
    have hts:(r.drop l9.toNat).tys.length=r.tys.length:=by rw [(RL.drop_ok r l9.toNat).2.1]
    rw [hts] at hcut
    obtain ⟨v2,hv2⟩:∃ v2,(Value.slice (if cc=l9.toNat then ad else ad.map (·.add (l9.toNat*r.tys.length))) (r.len-l9.toNat) (cc-l9.toNat))=v2:=⟨_,rfl⟩
    have hblk:zaV v2=zaV v:=by
     rw [<- hv2,hv]
     cases ad with
     | none=>split<;>rfl
     | some ad=>
      split
      ·rfl
      ·show some (ad.add _).block=some ad.block
       unfold Addr.add
       split<;>rfl
    have hone:v2.oneCell'=true:=by rw [<- hv2];rfl
    rw [hv2] at hcut hr2
    have hE:=Env.setβ_le (hk.mem.empty c hcE).1 v2
    refine zbo (w':=w) ?_ (hK (E.setβ c v2) w v2 hE Same.rfl' ⟨if_pos rfl,hone⟩ ?_)
    ·simp only [execOp,ho,Option.map_none,Sem.run_bind,hr2,Result.andThen,Sem.run_pure]
    ·have htc:t≠c:=by intro e5;subst e5;rw [hcE] at hm;cases hm
     have hk2:=hk.mem.kill t
     have:=hk2.take (c:=c) (w':=w) (by rw [zbg _ _ (Ne.symm htc)];exact hcE) v2 (.row Tb ls (r.drop l9.toNat)) (by simp) (Nat.le_refl _) (fun _ _=>rfl) (BelowX.refl _ _ _) (fun b hb=>?_) hcut
     ·have e9:putF [(t,.dead),(c,.row Tb ls (r.drop l9.toNat))] st.m=upd (upd st.m t .dead) c (.row Tb ls (r.drop l9.toNat)):=by
       rw [zd6,zcp];exact (zic _ _ _ htc).symm
      rw [e9];exact this
     ·have hb2:zaV v=some b:=by rw [<- hblk];exact hb
      have hH:Has E st.m t b:=Has.row hm hβ hb2
      refine ⟨(hk.mem.sep t b hH).1,fun u hu=>?_,(hk.mem.sep t b hH).2⟩
      by_cases hut:u=t
      ·subst hut;have:=hu.1;rw [zbi] at this;cases this
      ·exact hut (hk.mem.inj u t b ⟨by have:=hu.1;rwa [zbg _ _ hut] at this,by have:=hu.2;rwa [zbg _ _ hut] at this⟩ hH)
   ·simp [zrv] at hu
  split at hu
  ·simp only [Option.some.injEq] at hu
   subst hu
   intro E a w K Q hk hn hK
   have hx:=zae (hk.ev x) (fun p hp=>hn p (by rw [e1] at hp;simp [hp]))
   rw [e1] at hx
   have hl:=zcb hk e2 (fun p hp=>hn p (by simp [hp]))
   have hh:=zcb hk e3 (fun p hp=>hn p (by simp [hp]))
   have g1:0<=hiOf r.len h:=hn _ (by simp)
   have g2:hiOf r.len h<=(r.len:Int):=hn _ (by simp)
   obtain ⟨v,hβ,hO⟩:=hk.mem.row t _ _ _ hm
   have hx1:=hx.1
   rw [hβ] at hx1
   simp only [Option.some.injEq] at hx1
   obtain ⟨ad,cc,hv⟩:=hO.form
   rw [r.rows_len] at hv
   have hcl:r.len<=cc:=by
    obtain ⟨cells,hoR,_⟩:=hO
    rcases hoR.2 with ⟨e5,e6⟩ | ⟨g,o,cap,cur,e5,_,_,_,h6,_⟩
    ·rw [e5] at hv;simp at hv;omega
    ·rw [e5] at hv;simp only [Value.slice.injEq] at hv;rw [r.rows_len] at h6;omega
   have hr:=zdQ (P:=P) (za5 he) hsz w hl hh ad r.len cc hcl (Int.le_refl _) g1 g2
   have hr2:(Instr.sliceAt T (a.eval x) (lo.map a.eval) (hi.map a.eval) none).run P w = .ok (.slice ad (hiOf r.len h).toNat cc) w:=by
    rw [<- hx1,hv,hr]
    have:(if cc=(loOf none).toNat then ad else ad.map (·.add ((loOf none).toNat*r.tys.length)))=ad:=by
     have e9:(loOf none).toNat*r.tys.length=0:=by simp [loOf]
     rw [e9]
     cases ad with
     | none=>simp
     | some ad=>simp [Addr.add]
    rw [this];simp [loOf]
   have hcut:OwnR 0 w Tb (E.set ls) (r.take (hiOf r.len h).toNat).tys (.slice ad (hiOf r.len h).toNat cc) (r.take (hiOf r.len h).toNat).rows:=by
    rw [(RL.take_ok _ _).1,(RL.take_ok _ _).2.1]
    obtain ⟨cells,hoR,hrow⟩:=hO
    have hkl:(r.rows.take (hiOf r.len h).toNat).length=(hiOf r.len h).toNat:=by rw [List.length_take,r.rows_len];omega
    have hcl2:cells.length=r.rows.length*r.tys.length:=hoR.1
    have hmul:(hiOf r.len h).toNat*r.tys.length<=r.rows.length*r.tys.length:=Nat.mul_le_mul_right _ (by rw [r.rows_len];omega)
    refine ⟨cells.take ((hiOf r.len h).toNat*r.tys.length),⟨by rw [hkl,List.length_take];omega,?_⟩,fun i hi=>?_⟩
    ·rcases hoR.2 with ⟨e5,e6⟩ | ⟨g,oo,cap,cur,e5,g30,g3,g4,g5,g6,g7,g8⟩
     ·rw [e5] at hv
      simp only [Value.slice.injEq] at hv
      obtain ⟨rfl,h0,rfl⟩:=hv
      left
      rw [hkl]
      have:(hiOf r.len h).toNat=0:=by omega
      exact ⟨by rw [this],this⟩
     ·right
      rw [e5] at hv
      simp only [Value.slice.injEq] at hv
      obtain ⟨rfl,h0,rfl⟩:=hv
      refine ⟨g,oo,cap,cur,by rw [hkl],g30,g3,g4,by rw [hkl];omega,g6,g7,?_⟩
      rw [hkl,<- g8,List.take_take,Nat.min_eq_left hmul]
    ·rw [hkl] at hi
     have e7:(r.rows.take (hiOf r.len h).toNat).getD i []=r.rows.getD i []:=by simp [List.getD,List.getElem?_take,hi]
     have e8:((cells.take ((hiOf r.len h).toNat*r.tys.length)).drop (i*r.tys.length)).take r.tys.length=(cells.drop (i*r.tys.length)).take r.tys.length:=by
      have:(i+1)*r.tys.length<=(hiOf r.len h).toNat*r.tys.length:=Nat.mul_le_mul_right _ hi
      rw [Nat.add_mul,Nat.one_mul] at this
      apply List.ext_getElem?
      intro j
      simp only [List.getElem?_take,List.getElem?_drop]
      by_cases hj:j<r.tys.length
      ·rw [if_pos hj,if_pos hj,if_pos (by omega)]
      ·rw [if_neg hj,if_neg hj]
     rw [e7,e8]
     have hvo:Value.ownBlock (.slice ad (hiOf r.len h).toNat cc)=v.ownBlock:=by rw [hv];cases ad<;>rfl
     rw [hvo]
     exact hrow i (by rw [r.rows_len];omega)
   have hE:=Env.setβ_le (hk.mem.empty c hcE).1 (.slice ad (hiOf r.len h).toNat cc)
   refine zbo (w':=w) ?_ (hK (E.setβ c (.slice ad (hiOf r.len h).toNat cc)) w (.slice ad (hiOf r.len h).toNat cc) hE Same.rfl' ⟨if_pos rfl,rfl⟩ ?_)
   ·simp only [execOp,ho,Option.map_none,Sem.run_bind,hr2,Result.andThen,Sem.run_pure]
   ·have htc:t≠c:=by intro e5;subst e5;rw [hcE] at hm;cases hm
    have hk2:=hk.mem.kill t
    have:=hk2.take (c:=c) (w':=w) (by rw [zbg _ _ (Ne.symm htc)];exact hcE) (.slice ad (hiOf r.len h).toNat cc) (.row Tb ls (r.take (hiOf r.len h).toNat)) (by simp) (Nat.le_refl _) (fun _ _=>rfl) (BelowX.refl _ _ _) (fun b hb=>?_) hcut
    ·have e9:putF [(t,.dead),(c,.row Tb ls (r.take (hiOf r.len h).toNat))] st.m=upd (upd st.m t .dead) c (.row Tb ls (r.take (hiOf r.len h).toNat)):=by
      rw [zd6,zcp];exact (zic _ _ _ htc).symm
     rw [e9];exact this
    ·have hb2:zaV v=some b:=by rw [hv];cases ad<;>exact hb
     have hH:Has E st.m t b:=Has.row hm hβ hb2
     refine ⟨(hk.mem.sep t b hH).1,fun u hu=>?_,(hk.mem.sep t b hH).2⟩
     by_cases hut:u=t
     ·subst hut;have:=hu.1;rw [zbi] at this;cases this
     ·exact hut (hk.mem.inj u t b ⟨by have:=hu.1;rwa [zbg _ _ hut] at this,by have:=hu.2;rwa [zbg _ _ hut] at this⟩ hH)
  ·rename_i l2
   simp only [Option.some.injEq] at hu
   subst hu
   intro E a w K Q hk hn hK
   have hx:=zae (hk.ev x) (fun p hp=>hn p (by rw [e1] at hp;simp [hp]))
   rw [e1] at hx
   have hl:=zcb hk e2 (fun p hp=>hn p (by simp [hp]))
   have hh:=zcb hk e3 (fun p hp=>hn p (by simp [hp]))
   have g0:0<=l2:=hn _ (by simp)
   have g1:l2<=hiOf r.len h:=hn _ (by simp)
   have g2:hiOf r.len h<=(r.len:Int):=hn _ (by simp)
   have g3:r.len<=17592186044416:=hn _ (by simp)
   obtain ⟨v,hβ,hO⟩:=hk.mem.row t _ _ _ hm
   have hx1:=hx.1
   rw [hβ] at hx1
   simp only [Option.some.injEq] at hx1
   obtain ⟨E',hE,hσ,hM⟩:=hk.mem.freeze hlive hcE
   obtain ⟨ad,cc,hv,hsl⟩:=hO.slO (E'.set (c::ls)) (fun b ⟨i,hi,hs⟩=>⟨i,List.mem_cons_of_mem _ hi,hE.σ i b hs⟩) (fun b _ hb=>⟨c,List.mem_cons_self ..,hσ b (Has.row hm hβ (by
    obtain ⟨a5,c5,e5⟩:=hO.form
    rw [<- zaN ⟨a5,_,c5,e5⟩];exact hb))⟩) (by rw [r.rows_len];exact g3)
   rw [r.rows_len] at hv hsl
   have hr:=zdQ (P:=P) (za5 he) hsz w hl hh ad r.len cc hsl.bd.1 g0 g1 g2
   rw [<- hv,hx1] at hr
   refine zbo (w':=w) ?_ (hK E' w _ hE Same.rfl' (zxI (l:=some l2) (h:=h) hsl g0 g1 g2) hM)
   simp only [execOp,ho,Option.map_none,Sem.run_bind,hr,Result.andThen,Sem.run_pure]
end ops
end Go.Proofs.YtkhphiahindnnaaGreat
namespace Go.Proofs.YtkhphiahindnnaaGreat
open Go.RowKit Go.ChangeShapes Go.WideShapes Go.Deep
def bytesOf (s:ByteArray):List Int:=s.data.toList.map fun b=>(b.toNat:Int)
theorem zdq (s:ByteArray):(bytesOf s).length=s.size:=by simp [bytesOf]
theorem zje (s:ByteArray):Lib.strCells s=(bytesOf s).map (Value.int .u8):=by simp [Lib.strCells,bytesOf,Function.comp_def]
theorem u8_wf {b:UInt8}:(Lit.int .u8 (b.toNat:Int)).wf=true:=by
 have:=b.toNat_lt
 simp only [Lit.wf,Bool.and_eq_true,decide_eq_true_eq]
 show (0:Int)<=_/\_<=(255:Int)
 omega
theorem OwnR.bytesC {w:World} {T:TypeId} {S:Nat->Prop} {v:Value} {l:List Int} (h:OwnR 0 w T S [.int .u8] v (ints l)):w.ownsRow 0 T 1 v l.length (l.map (Value.int .u8))/\∀ x∈l,(Lit.int .u8 x).wf=true:=by
 obtain ⟨cells,ho,hr⟩:=h
 have ho:=ho.one (by show (1:Nat)<18;decide)
 rw [zap] at ho hr
 have hl:cells.length=l.length:=by have:=ho.1;simpa using this
 have hat:∀ i,(hi:i<l.length)->cells[i]? = some (.int .u8 l[i])/\(Lit.int .u8 l[i]).wf=true:=by
  intro i hi
  have:=hr i hi
  have e2:(ints l).getD i []=[.int l[i]]:=by simp [ints,List.getD,hi]
  rw [e2] at this
  have e3:(cells.drop (i*[Ty.int .u8].length)).take [Ty.int .u8].length=[cells[i]'(by omega)]:=by
   show (cells.drop (i*1)).take 1=_
   rw [Nat.mul_one,List.drop_eq_getElem_cons (by omega),List.take_succ_cons,List.take_zero]
  rw [e3] at this
  obtain ⟨n,e4,e5,h5⟩:=this.1.int_inv
  cases e5
  exact ⟨by rw [List.getElem?_eq_getElem (by omega),e4],h5⟩
 have e:cells=l.map (Value.int .u8):=by
  apply List.ext_getElem?
  intro i
  by_cases hi:i<l.length
  ·rw [(hat i hi).1];simp [hi]
  ·rw [List.getElem?_eq_none (by omega),List.getElem?_eq_none (by simp;omega)]
 refine ⟨by rw [<- e];exact ho,fun x hx=>?_⟩
 obtain ⟨i,hi,rfl⟩:=List.mem_iff_getElem.1 hx
 exact (hat i hi).2
theorem OwnR.ofBytes {w:World} {T:TypeId} {S:Nat->Prop} {v:Value} {l:List Int} (h:w.ownsRow 0 T 1 v l.length (l.map (Value.int .u8))) (hx:∀ x∈l,(Lit.int .u8 x).wf=true):OwnR 0 w T S [.int .u8] v (ints l):=by
 refine ⟨l.map (Value.int .u8),by rw [zap];exact Win.of h,fun i hi=>?_⟩
 rw [zap] at hi
 have e1:(((l.map (Value.int .u8)).drop (i*1)).take 1)=[.int .u8 (l[i])]:=by
  rw [Nat.mul_one,List.drop_eq_getElem_cons (by simpa using hi),List.take_succ_cons,List.take_zero];simp
 have e2:(ints l).getD i []=[.int l[i]]:=by simp [ints,List.getD,hi]
 show RdL _ _ [.int .u8] (((l.map (Value.int .u8)).drop (i*1)).take 1) _
 rw [e1,e2]
 exact ⟨.int (hx _ (List.getElem_mem hi)),trivial⟩
theorem zs0 {P:Program} {w:World} {t u ty e:TypeId} {i:TypeInfo} (ht:P.underlying t=some (.slice e)) (hu:P.underlying u=some .string) (hi:P.info? e=some i) (hz:i.zero=some (.int .u8 0)) (hsize:i.size=1) (hby:i.bytes=1)
  {v:Value} {n:Nat} {xs:List Value} (hown:w.ownsRow 0 e 1 v n xs) (s:ByteArray) (hbytes:n+s.size<=140737488355328) :
  ∃ v' w',(Builtin.append_ #[t,u] ty #[v,.string s]).run P w = .ok v' w'/\w'.ownsRow 0 e 1 v' (n+s.size) (xs++Lib.strCells s)/\w.grownBy w' v.ownBlock/\(v'.ownBlock=v.ownBlock\/v'.ownBlock=some w.heap.size):=by
 have h63:n+s.size<=maxLen:=by unfold maxLen;omega
 obtain ⟨v',w',hr,h2,h3,h4⟩:=Lib.run_append_own_string (P:=P) w 0 t u ty e i ht hu hi hz hsize hby v n xs hown s h63 hbytes (Nat.zero_le _)
 refine ⟨v',w',hr,h2,h3,?_⟩
 have hxl:xs.length=n:=by simpa using hown.1
 rcases hown.2 with ⟨rfl,rfl⟩ | ⟨g,cap,cur,rfl,hbg,hg,hnc,hcm,hcs,htake⟩
 ·by_cases hm:s.size=0
  ·left;rw [h4.2 ⟨rfl,hm⟩]
  ·right
   have:=run_append_nil_string (P:=P) w t u ty e i (.int .u8 0) ht hu hi hz s (by omega) (by omega) (by rw [hby];omega)
   rw [hr] at this
   simp only [Result.ok.injEq] at this
   rw [this.1];rfl
 ·by_cases hroom:n+s.size<=cap
  ·left
   have hcs':cur.size=cap:=by simpa using hcs
   have:=Lib.run_append_room_string (P:=P) w t u ty e i ht hu hi hsize g n cap cur hg s hroom (by omega)
   rw [hr] at this
   simp only [Result.ok.injEq] at this
   rw [this.1];rfl
  ·right
   have holds:∀ j u,xs[j]? = some u->w.cell? ((⟨g,0,none⟩:Addr).add j)=some u:=hown.cells (g:=g) rfl
   have:=Lib.run_append_grow_string (P:=P) w t u ty e i (.int .u8 0) ht hu hi hz ⟨g,0,none⟩ n cap xs (by rw [hsize];simpa using hxl) holds s (by omega) (by omega) (by rw [hby];exact growslice_fits (by omega) (by omega))
   rw [hr] at this
   simp only [Result.ok.injEq] at this
   rw [this.1];rfl
section ops
variable {P : Program} {base : Nat} {X : Cx} {w0 : World} {st : St}
def zv5 (P:Program) (e:TypeId):Bool:=match P.info? e with
 | some i=>match i.zero with
  | some (.int .u8 (.ofNat 0))=>i.size==1&&i.bytes==1
  | _=>false
 | none=>false
theorem zsV {e:TypeId} (h:zv5 P e=true):∃ i,P.info? e=some i/\i.zero=some (.int .u8 0)/\i.size=1/\i.bytes=1:=by
 unfold zv5 at h
 split at h
 case h_2=>cases h
 rename_i i hi
 split at h
 case h_2=>cases h
 rename_i hz
 simp at h
 exact ⟨i,hi,hz,h.1,h.2⟩
def ztU (P:Program) (st:St) (c:Nat) (T T2:TypeId) (x y:Operand):Option Upd:=
 match zch P T,P.underlying T2 with
 | some e,some .string=>match zgO st e (zal (st.ev x)).1,zal (st.ev y) with
  | some (dt,ls,.rBytes l),(.str s,n2)=>if st.free c=true/\zv5 P e=true then some ⟨(zal (st.ev x)).2++n2++[l.length+s.size<=140737488355328],.own c,zpQ dt++[(c,.row e [] (.rBytes (l++bytesOf s)))]⟩ else none
  | _,_=>none
 | _,_=>none
theorem ztT (o:Oper) (c:Nat) (T T2:TypeId) (x y:Operand) (ho:o.op = .call {callee:= .builtin .append,args:= #[x,y],argTypes:= #[T,T2]}) {u:Upd} (hu:ztU P st c T T2 x y=some u):Does P base X w0 st o u:=by
 unfold ztU at hu
 split at hu
 case h_2=>simp at hu
 rename_i e he h2
 split at hu
 case h_2=>simp at hu
 rename_i dt ls l s n2 hdst e2
 split at hu
 case isFalse=>simp at hu
 rename_i hc
 obtain ⟨hfree,hinfo⟩:=hc
 simp only [Option.some.injEq] at hu
 subst hu
 have hcE:=St.of_free hfree
 intro E a w K Q h hn hK
 have hx:=zae (h.ev x) (fun p hp=>hn p (by simp [hp]))
 have hy:=zae (h.ev y) (fun p hp=>hn p (by rw [e2] at hp;simp [hp]))
 rw [e2] at hy
 obtain ⟨hy,_⟩:=hy
 have hbd:l.length+s.size<=140737488355328:=hn _ (by simp)
 obtain ⟨o1,hHas,hlive⟩:=zmT h.mem hdst hx
 obtain ⟨i,i1,i2,i3,i4⟩:=zsV hinfo
 have o1:OwnR 0 w e (E.set ls) [.int .u8] (a.eval x) (ints l):=o1
 obtain ⟨c1,c2⟩:=o1.bytesC
 obtain ⟨v',w',hrun,hown,hgr,hat⟩:=zs0 (P:=P) (ty:=o.type) (za5 he) h2 i1 i2 i3 i4 c1 s hbd
 have hO:OwnR 0 w' e (E.set []) (RL.rBytes (l++bytesOf s)).tys v' (RL.rBytes (l++bytesOf s)).rows:=by
  refine OwnR.ofBytes (l:=l++bytesOf s) ?_ (fun x hx=>?_)
  ·rw [List.length_append,zdq,List.map_append,<- zje];exact hown
  ·rcases List.mem_append.1 hx with hx | hx
   ·exact c2 x hx
   ·obtain ⟨b,_,rfl⟩:=List.mem_map.1 hx
    exact u8_wf
 obtain ⟨hS,hE,hone,hm'⟩:=zr8 h.mem hcE hHas hlive hO hgr hat
 refine zbo (v:=v') (w':=w') ?_ (hK (E.setβ c v') w' v' hE hS ⟨if_pos rfl,hone⟩ hm')
 simp only [execOp,ho,resolve,invoke,builtin,Sem.run_bind,Sem.run_pure,Result.andThen_ok,List.map_toArray,List.map_cons,List.map_nil]
 rw [hy,hrun];rfl
end ops
end Go.Proofs.YtkhphiahindnnaaGreat
namespace Go.Proofs.YtkhphiahindnnaaGreat
open Go.RowKit Go.ChangeShapes Go.WideShapes Go.Deep
def zv0 (P:Program) (t:TypeId):Bool:=match P.underlying t with
 | some (.int .i64)=>true
 | _=>false
theorem zsS {P:Program} {t:TypeId} (h:zv0 P t=true):P.underlying t=some (.int .i64):=by
 unfold zv0 at h
 split at h
 ·assumption
 ·cases h
def intF (P:Program):Nat->List Field->Bool
 | _,[]=>true
 | j, f :: fs => !(f.name == "_") && Nat.beq f.offset j && zv0 P f.type && P.plainKey f.type && intF P (j + 1) fs
def isI:SV->Bool
 | .int .i64 _=>true
 | _=>false
def eqI:List SV->List SV->Bool
 | .int _ a::r,.int _ b::q=>if a=b then eqI r q else false
 | _,_=>true
theorem zur {s:SV} (h:isI s=true):∃ n,s = .int .i64 n:=by
 unfold isI at h
 split at h
 ·exact ⟨_,rfl⟩
 ·cases h
theorem zqz {P:Program} {E:Env} {w:World} {X Y:Array Value} {d:Nat}:∀ (fs:List Field) (j:Nat) (vs us:List SV),intF P j fs=true->vs.all isI=true->us.all isI=true->vs.length=fs.length->us.length=fs.length->DenL E w vs (X.toList.drop j)->DenL E w us (Y.toList.drop j) ->
  (Op.eqFields (d+1) X Y fs).run P w = .ok (eqI vs us) w
 | [],j,[],[],_,_,_,_,_,_,_=>by simp [Op.eqFields,eqI]
 | f::fs,j,s::vs,t::us,hF,hv,hu,hl,hl2,hdx,hdy=>by
  simp only [intF,Bool.and_eq_true,Bool.not_eq_true'] at hF
  obtain ⟨⟨⟨⟨h1,h2⟩,h3⟩,h4⟩,h5⟩:=hF
  rw [List.all_cons,Bool.and_eq_true] at hv hu
  obtain ⟨a,rfl⟩:=zur hv.1
  obtain ⟨b,rfl⟩:=zur hu.1
  have hoff:=Nat.eq_of_beq_eq_true h2
  have key:∀ {Z:Array Value} {c:Int} {ws:List SV},DenL E w (.int .i64 c::ws) (Z.toList.drop j)->Z[j]? = some (.int .i64 c)/\DenL E w ws (Z.toList.drop (j+1)):=by
   intro Z c ws hd
   cases hz:Z.toList.drop j with
   | nil=>rw [hz] at hd;exact hd.elim
   | cons z zs=>
    rw [hz] at hd
    have hlt:j<Z.toList.length:=by
     have:=congrArg List.length hz
     simp at this ⊢;omega
    have e:=List.drop_eq_getElem_cons hlt
    rw [hz] at e
    simp only [List.cons.injEq] at e
    obtain ⟨e1,e2⟩:=e
    have hzv:z = .int .i64 c:=hd.1.1
    refine ⟨?_,by rw [<- e2];exact hd.2⟩
    rw [<- hzv,e1]
    simp
  obtain ⟨kx,rx⟩:=key hdx
  obtain ⟨ky,ry⟩:=key hdy
  rw [<- hoff] at kx ky
  have hne : f.name ≠ "_" := by simpa using h1
  have ih:=zqz (d:=d) fs (j+1) vs us h5 hv.2 hu.2 (by simpa using hl) (by simpa using hl2) rx ry
  simp only [Op.eqFields,if_pos hne,Sem.run_bind,run_part_plain w h4 kx,run_part_plain w h4 ky,Result.andThen_ok,run_equalIn_int w d f.type .i64 .i64 a b (zsS h3),Sem.run_ite]
  by_cases hab:a=b
  ·have e:(a==b)=true:=by simpa using hab
   simp only [e,Bool.not_true,Bool.false_eq_true,if_false,ih,eqI,if_pos hab]
  ·have e:(a==b)=false:=by simpa using hab
   simp only [e,Bool.not_false,if_true,Sem.run_pure,eqI,if_neg hab]
 | [],_,_::_,_,_,_,_,h,_,_,_=>by simp at h
 | [],_,[],_::_,_,_,_,_,h,_,_=>by simp at h
 | _::_,_,[],_,_,_,_,h,_,_,_=>by simp at h
 | _::_,_,_::_,[],_,_,_,_,h,_,_=>by simp at h
def cEqA (P:Program) (st:St) (op:BinOp) (T:TypeId) (x y:Operand):Option Upd:=
 match zal (st.ev x),zal (st.ev y) with
 | (.agg vs,n1),(.agg us,n2)=>
  if isStr P T&&intF P 0 (P.fieldsOf T).toList&&!P.stoodInHeld T&&!P.eqGuardType P.depth T&&vs.all isI&&us.all isI&&Nat.beq vs.length (P.fieldsOf T).toList.length&&Nat.beq us.length (P.fieldsOf T).toList.length then
   (match op with
   | .eql=>some ⟨n1++n2,.bool (eqI vs us),[]⟩
   | .neq=>some ⟨n1++n2,.bool !(eqI vs us),[]⟩
   | _=>none) else none
 | _,_=>none
where isStr (P:Program) (T:TypeId):Bool:=match P.underlying T with
 | some (.struct _)=>true
 | _=>false
section
variable {P : Program} {base : Nat} {X : Cx} {w0 : World} {st : St}
theorem zwz (o:Oper) (op:BinOp) (T T2:TypeId) (x y:Operand) (ho:o.op = .binOp op T x y T2) {u:Upd} (hu:cEqA P st op T x y=some u):Does P base X w0 st o u:=by
 unfold cEqA at hu
 split at hu
 case h_2=>simp at hu
 rename_i vs n1 us n2 e1 e2
 split at hu
 case isFalse=>simp at hu
 rename_i hck
 simp only [Bool.and_eq_true,Bool.not_eq_true'] at hck
 obtain ⟨⟨⟨⟨⟨⟨⟨c1,c2⟩,c3⟩,c4⟩,c5⟩,c6⟩,c7⟩,c8⟩:=hck
 have hT:P.underlying T=some (.struct (P.fieldsOf T)):=by
  unfold cEqA.isStr at c1
  split at c1
  ·rename_i fs e;simp only [Program.fieldsOf,e]
  ·cases c1
 have run:∀ E a w,st.Ok base X w0 E a w->(∀ p∈n1++n2,p)->∃ xs ys:List Value,a.eval x = .agg xs.toArray/\a.eval y = .agg ys.toArray/\(Op.equalIn 10000 T (.agg xs.toArray) (.agg ys.toArray)).run P w = .ok (eqI vs us) w:=by
  intro E a w h hn
  have hx:=zae (h.ev x) (fun p hp=>hn p (by rw [e1] at hp;simp [hp]))
  have hy:=zae (h.ev y) (fun p hp=>hn p (by rw [e2] at hp;simp [hp]))
  rw [e1] at hx
  rw [e2] at hy
  obtain ⟨xs,hx1,hx2⟩:=hx
  obtain ⟨ys,hy1,hy2⟩:=hy
  refine ⟨xs,ys,hx1,hy1,?_⟩
  rw [run_equalIn_agg w 9999 T xs.toArray ys.toArray hT c3]
  exact zqz (E:=E) (d:=9998) _ 0 vs us c2 c5 c6 (Nat.eq_of_beq_eq_true c7) (Nat.eq_of_beq_eq_true c8) (by simpa using hx2) (by simpa using hy2)
 split at hu
 ·simp only [Option.some.injEq] at hu
  subst hu
  refine Does.pure fun E a w h hn=>?_
  obtain ⟨xs,ys,h1,h2,h3⟩:=run E a w h hn
  refine ⟨.bool (eqI vs us),?_,rfl⟩
  simp only [execOp,ho,h1,h2,Sem.run_bind,run_eqGuard_agg w .eql T x y _ _ c4,Result.andThen_ok,run_eql_struct,h3,Sem.run_pure]
 ·simp only [Option.some.injEq] at hu
  subst hu
  refine Does.pure fun E a w h hn=>?_
  obtain ⟨xs,ys,h1,h2,h3⟩:=run E a w h hn
  refine ⟨.bool (!eqI vs us),?_,rfl⟩
  simp only [execOp,ho,h1,h2,Sem.run_bind,run_eqGuard_agg w .neq T x y _ _ c4,Result.andThen_ok,run_neq_struct,h3,Sem.run_pure]
 ·simp at hu
end
end Go.Proofs.YtkhphiahindnnaaGreat
namespace Go.Proofs.YtkhphiahindnnaaGreat
open Go.RowKit Go.ChangeShapes Go.WideShapes Go.Deep
theorem MemOk.lay {base:Nat} {X:Cx} {w0 w w':World} {E:Env} {m:Nat->BE} (h:MemOk base X w0 E m w) {c:Nat} (hc:m c = .empty) (hB:Below w.heap.size w w') :
  ∃ E',E.Le E'/\(∀ b,w.heap.size<=b->b<w'.heap.size->E'.σ c b)/\Same E.lab w w'/\MemOk base X w0 E' (upd m c .dead) w':=by
 have hcnl:X.nl<=c:=by
  rcases Nat.lt_or_ge c X.nl with hlt | hge
  ·exact absurd hc (h.low c hlt)
  ·exact hge
 have hnc:∀ b,¬ E.σ c b:=(h.empty c hc).2
 have hS:Same E.lab w w':=Same.below hB
 have hh:∀ u b,Has (⟨E.β,fun i b=>E.σ i b\/(i=c/\w.heap.size<=b/\b<w'.heap.size),E.φ⟩:Env) (upd m c .dead) u b->Has E m u b:=by
  intro u b ⟨g1,g2⟩
  by_cases hu:u=c
  ·subst hu;rw [zbi] at g1;cases g1
  ·rw [zbg _ _ hu] at g1 g2;exact ⟨g1,g2⟩
 refine ⟨⟨E.β,fun i b=>E.σ i b\/(i=c/\w.heap.size<=b/\b<w'.heap.size),E.φ⟩,⟨fun _ _ x=>x,fun _ _ x=> .inl x⟩,fun b h1 h2=> .inr ⟨rfl,h1,h2⟩,hS,?_⟩
 refine h.go ⟨fun _ _ x=>x,fun _ _ x=> .inl x⟩ hS (fun u=>u=c) (fun u hu=>⟨zbg _ _ hu,rfl,rfl⟩) (fun u hu he b hb=>hb.elim ((h.empty u he).2 b) (fun g=>hu g.1)) (fun u b _ hx=>hB.block b (h.lt hx))
  (fun u hu=>by subst hu;rw [zbi];exact ⟨by simp,fun g=>by cases g⟩) (fun i b hb=>?_) (fun i j b hi hj=>?_) (fun u b hb=>?_) (fun i b hi hb=>?_) (fun u v b h1 h2=>h.inj u v b (hh u b h1) (hh v b h2))
  ⟨hB.os,hB.tape,hB.output,hB.size,fun x hx _=>hB.block x (Nat.lt_of_lt_of_le hx h.base)⟩
 ·rcases hb with hb | ⟨rfl,h1,h2⟩
  ·exact ⟨Nat.lt_of_lt_of_le (h.lab i b hb).1 hB.size,(h.lab i b hb).2⟩
  ·exact ⟨h2,fun _=> .inl (Nat.le_trans h.base h1)⟩
 ·rcases hi with hi | ⟨rfl,h1,_⟩<;>rcases hj with hj | ⟨rfl,h2,_⟩
  ·exact h.dis i j b hi hj
  ·exact absurd (h.lab i b hi).1 (by omega)
  ·exact absurd (h.lab j b hj).1 (by omega)
  ·rfl
 ·have g1:=hh u b hb
  refine ⟨fun ⟨i,hi⟩=>?_,(h.sep u b g1).2⟩
  rcases hi with hi | ⟨_,h1,_⟩
  ·exact (h.sep u b g1).1 ⟨i,hi⟩
  ·have:=h.lt g1;omega
 ·rcases hb with hb | ⟨rfl,_⟩
  ·exact h.old i b hi hb
  ·omega
def zju (l:List Int):ByteArray:=⟨(l.map fun n=>UInt8.ofNat n.toNat).toArray⟩
theorem znv (l:List Int):(zju l).size=l.length:=by simp [zju,ByteArray.size]
theorem zkm:∀ (ns:List Int) (s:ByteArray),ns.foldl (fun r n=>r.push (UInt8.ofNat n.toNat)) s=⟨s.data++(ns.map fun n=>UInt8.ofNat n.toNat).toArray⟩
 | [],s=>by simp
 | n::ns,s=>by
  rw [List.foldl_cons,zkm ns]
  simp [ByteArray.push]
theorem znw (l:List Int):l.foldl (fun r n=>r.push (UInt8.ofNat n.toNat)) ByteArray.empty=zju l:=by
 rw [zkm]
 show ByteArray.mk (#[]++_)=_
 simp [zju]
section ops
variable {P : Program} {base : Nat} {X : Cx} {w0 : World} {st : St}
def zsz (x y:ByteArray):Bool:=Op.bytesLess x.toList y.toList
def xorI (k:IntKind) (x y:Int):Int:=k.wrap ((BitVec.ofInt k.bits x ^^^ BitVec.ofInt k.bits y).toNat:Int)
def binX (op:BinOp):SV->SV->Option SV
 | .str x,.str y=>match op with
  | .lss=>some (.bool (zsz x y))
  | .leq=>some (.bool (zsz x y||x.toList==y.toList))
  | .gtr=>some (.bool !(zsz x y||x.toList==y.toList))
  | .geq=>some (.bool !(zsz x y))
  | _=>none
 | .int k x,.int k' y=>if k=k' then (match op with
  | .xor=>some (.int k (xorI k x y))
  | _=>none) else none
 | _,_=>none
theorem zw7 {E:Env} {w:World} {op:BinOp} {s t r:SV} (h:binX op s t=some r) {v u:Value} (hv:DenV E w s v) (hu:DenV E w t u) (T:TypeId) (x y:Operand) :
  ∃ z,(do eqGuard op T x y v u;binOp op T v u:Sem Value).run P w = .ok z w/\DenV E w r z:=by
 unfold binX at h
 split at h
 ·rename_i a b
  obtain ⟨rfl,ha⟩:=hv
  obtain ⟨rfl,hb⟩:=hu
  split at h<;>simp only [Option.some.injEq,reduceCtorEq] at h
  all_goals subst h
  all_goals
   refine ⟨_,by simp only [eqGuard,binOp,Op.stringOp,Sem.run_bind,Sem.run_pure,Result.andThen];rfl,?_⟩
   rfl
 ·rename_i k a k' b
  split at h
  case isFalse=>simp at h
  rename_i hk
  subst hk
  obtain ⟨rfl,_⟩:=hv
  obtain ⟨rfl,_⟩:=hu
  split at h<;>simp only [Option.some.injEq,reduceCtorEq] at h
  subst h
  refine ⟨_,by simp [eqGuard,binOp,Op.intBits];rfl,?_⟩
  exact ⟨rfl,wf_wrap _ _⟩
 ·simp at h
def ztS (st:St) (op:BinOp) (x y:Operand):Option Upd:=
 match binX op (zal (st.ev x)).1 (zal (st.ev y)).1 with
 | some r=>some ⟨(zal (st.ev x)).2++(zal (st.ev y)).2,r,[]⟩
 | none=>none
theorem ztR (o:Oper) (op:BinOp) (T T2:TypeId) (x y:Operand) (ho:o.op = .binOp op T x y T2) {u:Upd} (hu:ztS st op x y=some u):Does P base X w0 st o u:=by
 unfold ztS at hu
 split at hu
 case h_2=>simp at hu
 rename_i r hb
 simp only [Option.some.injEq] at hu
 subst hu
 refine Does.pure fun E a w h hn=>?_
 have hx:=zae (h.ev x) (fun p hp=>hn p (by simp [hp]))
 have hy:=zae (h.ev y) (fun p hp=>hn p (by simp [hp]))
 obtain ⟨z,h1,h2⟩:=zw7 (P:=P) hb hx hy T x y
 exact ⟨z,by rw [execOp,ho];simp only [Sem.run_bind] at h1 ⊢;rw [h1];rfl,h2⟩
def sGet (s:ByteArray) (i:Int):Int:=((s.data.toList.getD i.toNat 0).toNat:Int)
def ztK (P:Program) (st:St) (T:TypeId) (x i:Operand):Option Upd:=
 match P.underlying T,zal (st.ev x),zal (st.ev i) with
 | some .string,(.str s,n1),(.int .i64 j,n2)=>some ⟨n1++n2++[0<=j,j<(s.size:Int)],.int .u8 (sGet s j),[]⟩
 | _,_,_=>none
theorem zuY (s:ByteArray) (i:Int):0<=sGet s i/\sGet s i<=255:=by
 unfold sGet
 have:=(s.data.toList.getD i.toNat 0).toNat_lt
 omega
theorem zub {n:Int} (h:0<=n/\n<=255):(Lit.int .u8 n).wf=true:=by
 simp only [Lit.wf,Bool.and_eq_true,decide_eq_true_eq];exact h
theorem ztJ (o:Oper) (T:TypeId) (x i:Operand) (ho:o.op = .index T x i) {u:Upd} (hu:ztK P st T x i=some u):Does P base X w0 st o u:=by
 unfold ztK at hu
 split at hu
 case h_2=>simp at hu
 rename_i s n1 j n2 hT e1 e2
 simp only [Option.some.injEq] at hu
 subst hu
 refine Does.pure fun E a w h hn=>?_
 have hx:=zae (h.ev x) (fun p hp=>hn p (by rw [e1] at hp;simp [hp]))
 have hi:=zae (h.ev i) (fun p hp=>hn p (by rw [e2] at hp;simp [hp]))
 rw [e1] at hx
 rw [e2] at hi
 obtain ⟨hx,_⟩:=hx
 obtain ⟨hi,_⟩:=hi
 have h0:0<=j:=hn _ (by simp)
 have h1:j<(s.size:Int):=hn _ (by simp)
 have hlt:j.toNat<s.size:=by omega
 have hg:s[j.toNat]? = some s[j.toNat]:=by rw [getElem?_pos s j.toNat hlt]
 have he:s[j.toNat].toNat=(s.data.toList.getD j.toNat 0).toNat:=by
  have:j.toNat<s.data.toList.length:=by simpa using hlt
  rw [List.getD_eq_getElem?_getD,List.getElem?_eq_getElem this]
  rfl
 refine ⟨.int .u8 (sGet s j),?_,rfl,zub (zuY s j)⟩
 have:sGet s j=(s[j.toNat].toNat:Int):=by unfold sGet;rw [he]
 rw [this]
 simp [execOp,ho,hx,hi,Instr.index,asIntOf,run_underlying hT,h0,hg,Result.andThen]
def rowU (st:St):SV->Option (List Int)
 | .sl _ (.rBytes l)=>some l
 | .own t=>match st.m t with
  | .row _ _ (.rBytes l)=>some l
  | _=>none
 | .nil=>some []
 | _=>none
theorem zvb {E:Env} {a:Act} {w:World} (h:st.Ok base X w0 E a w) {s:SV} {l:List Int} (hs:rowU st s=some l) {v:Value} (hv:DenV E w s v):(l=[]/\∃ ad c,v = .slice ad 0 c)\/(∃ b off c,v = .slice (some ⟨b,off,none⟩) l.length c/\∀ i,i<l.length->w.cell? ⟨b,off+i,none⟩=some (.int .u8 (l.getD i 0))):=by
 have key:∀ (S:Nat->Prop) (v:Value),Rd w S (.sl [.int .u8]) v (.sl (ints l))->(l=[]/\∃ ad c,v = .slice ad 0 c)\/(∃ b off c,v = .slice (some ⟨b,off,none⟩) l.length c/\∀ i,i<l.length->w.cell? ⟨b,off+i,none⟩=some (.int .u8 (l.getD i 0))):=by
  intro S v hr
  obtain ⟨ad,c,rfl,hsl⟩:=hr.sl'
  rw [zap] at hsl ⊢
  by_cases h0:l.length=0
  ·have:l=[]:=List.eq_nil_of_length_eq_zero h0
   subst this
   exact .inl ⟨rfl,ad,c,rfl⟩
  ·obtain ⟨b,off,rfl,_,_,vals,hc,hr⟩:=hsl.rowAt (by omega)
   refine .inr ⟨b,off,c,rfl,fun i hi=>?_⟩
   have h1:=hc i 0 hi (by simp)
   have h2:=(hr i hi).2 0 (by simp)
   have e:(ints l).getD i []=[.int (l.getD i 0)]:=by simp [ints,List.getD,hi]
   rw [e] at h2
   have h2:Rd w S (.int .u8) (vals i 0) (.int (l.getD i 0)):=h2
   rw [h2.u8.1] at h1
   simpa using h1
 unfold rowU at hs
 split at hs
 ·simp only [Option.some.injEq] at hs
  subst hs
  exact key _ _ hv
 ·rename_i t
  split at hs
  case h_2=>simp at hs
  rename_i T ls l2 hm
  simp only [Option.some.injEq] at hs
  subst hs
  obtain ⟨v',h1,h2⟩:=h.mem.row t _ _ _ hm
  have:=hv.1
  rw [h1] at this
  simp only [Option.some.injEq] at this
  subst this
  obtain ⟨cells,ho,hr⟩:=h2
  have h3:OwnR 0 w T (E.set ls) [.int .u8] v' (ints l2):=⟨cells,ho,hr⟩
  obtain ⟨ad,c,e⟩:=h3.form
  rw [zap] at e
  by_cases h0:l2.length=0
  ·have:l2=[]:=List.eq_nil_of_length_eq_zero h0
   subst this
   exact .inl ⟨rfl,ad,c,e⟩
  ·obtain ⟨c1,c2⟩:=h3.bytesC
   have e2:=e
   rcases c1.2 with ⟨hv0,_⟩ | ⟨g,cap,cur,hv1,hg,hh,hsz,hxs⟩
   ·rw [hv0] at e;simp at e;omega
   ·rw [hv1] at e
    refine .inr ⟨g,0,cap,hv1,fun i hi=>?_⟩
    have:=c1.cells (g:=g) (by rw [hv1];rfl) i (.int .u8 (l2.getD i 0)) (by simp [List.getD,hi])
    have e3:(⟨g,0,none⟩:Addr).add i=⟨g,0+i,none⟩:=by simp [Addr.add];intro e;simp [e]
    rw [e3] at this
    exact this
 ·simp only [Option.some.injEq] at hs
  subst hs
  have:v = .slice none 0 0:=hv
  exact .inl ⟨rfl,none,0,this⟩
 ·simp at hs
def cB2S (P:Program) (st:St) (src dst:TypeId) (x:Operand):Option Upd:=
 match zch P src,P.underlying dst with
 | some e,some .string=>match P.underlying e,rowU st (zal (st.ev x)).1 with
  | some (.int .u8),some l=>some ⟨(zal (st.ev x)).2++[l.length<=17592186044416],.str (zju l),[]⟩
  | _,_=>none
 | _,_=>none
theorem zw3 (o:Oper) (src dst:TypeId) (x:Operand) (ho:o.op = .convert src dst x) {u:Upd} (hu:cB2S P st src dst x=some u):Does P base X w0 st o u:=by
 unfold cB2S at hu
 split at hu
 case h_2=>simp at hu
 rename_i e he hd
 split at hu
 case h_2=>simp at hu
 rename_i l hu8 hl
 simp only [Option.some.injEq] at hu
 subst hu
 refine Does.pure fun E a w h hn=>?_
 have hx:=zae (h.ev x) (fun p hp=>hn p (by simp [hp]))
 have hbd:l.length<=17592186044416:=hn _ (by simp)
 have hsz:(zju l).size<=140737488355328:=by rw [znv];omega
 refine ⟨.string (zju l),?_,rfl,hsz⟩
 rcases zvb h hl hx with ⟨rfl,ad,c,hv⟩ | ⟨b,off,c,hv,hc⟩
 ·cases ad with
  | none=>
   rw [show zju []=ByteArray.empty from rfl]
   simp only [execOp,ho,hv,Sem.run_bind,run_convert_bytes_string w src dst e _ _ _ (za5 he) hu8 hd,Conv.bytesToString,Sem.run_pure,Result.andThen]
  | some ad=>
   have h1:=run_bytesToString (P:=P) w ad 0 c [] (by have:=run_loadCells (P:=P) (w:=w) ad 0 (fun _=>undef) (fun j hj=>absurd hj (Nat.not_lt_zero _));simpa using this)
   simp only [execOp,ho,hv,Sem.run_bind,run_convert_bytes_string w src dst e _ _ _ (za5 he) hu8 hd,h1,Result.andThen,Sem.run_pure]
   rfl
 ·have h1:=run_bytesToString (P:=P) w ⟨b,off,none⟩ l.length c l (by
   have:=run_loadCells_list (P:=P) w ⟨b,off,none⟩ (l.map (Value.int .u8)) (fun j v hj=>by
    rw [List.getElem?_map] at hj
    have hlt:j<l.length:=by
     rcases Nat.lt_or_ge j l.length with h | h
     ·exact h
     ·rw [List.getElem?_eq_none h] at hj;cases hj
    rw [List.getElem?_eq_getElem hlt] at hj
    simp only [Option.map_some,Option.some.injEq] at hj
    subst hj
    have:=hc j hlt
    have e3:(⟨b,off,none⟩:Addr).add j=⟨b,off+j,none⟩:=by
     cases j with
     | zero=>rfl
     | succ j=>rfl
    rw [e3,this]
    simp [List.getD,hlt])
   simpa using this)
  rw [znw] at h1
  simp only [execOp,ho,hv,Sem.run_bind,run_convert_bytes_string w src dst e _ _ _ (za5 he) hu8 hd,h1,Result.andThen,Sem.run_pure]
def cS2B (P:Program) (st:St) (c:Nat) (src dst:TypeId) (x:Operand):Option Upd:=
 match P.underlying src,zch P dst with
 | some .string,some e=>match P.underlying e,zal (st.ev x) with
  | some (.int .u8),(.str s,n)=>if st.free c then some ⟨n++[s.size<=17592186044416],.sl [c] (.rBytes (bytesOf s)),[(c,.dead)]⟩ else none
  | _,_=>none
 | _,_=>none
theorem zwo (o:Oper) (c:Nat) (src dst:TypeId) (x:Operand) (ho:o.op = .convert src dst x) {u:Upd} (hu:cS2B P st c src dst x=some u):Does P base X w0 st o u:=by
 unfold cS2B at hu
 split at hu
 case h_2=>simp at hu
 rename_i e hsrc he
 split at hu
 case h_2=>simp at hu
 rename_i s n hu8 e2
 split at hu
 case isFalse=>simp at hu
 rename_i hfree
 simp only [Option.some.injEq] at hu
 subst hu
 intro E a w K Q h hn hK
 have hx:=zae (h.ev x) (fun p hp=>hn p (by rw [e2] at hp;simp [hp]))
 rw [e2] at hx
 obtain ⟨hx,_⟩:=hx
 have hbd:s.size<=17592186044416:=hn _ (by simp)
 have hB:Below w.heap.size w (Lib.bytesWorld w e s):=⟨rfl,rfl,rfl,by rw [Lib.bytesWorld_size];omega,fun j hj=>Lib.bytesWorld_at_old w e s j hj⟩
 obtain ⟨E',g1,g2,g3,g4⟩:=h.mem.lay (St.of_free hfree) hB
 have hrun:=Lib.run_convert_string_bytes (P:=P) w src dst e s hsrc (za5 he) hu8
 have hcap:=grownCap_ge w s.size 0 e
 have hcap2:=grownCap_le_maxLen w s.size 0 e (by unfold maxLen;omega)
 refine zbo (v:= .slice (some ⟨w.heap.size,0,none⟩) s.size (grownCap w s.size 0 e)) (w':=Lib.bytesWorld w e s) ?_ (hK E' _ _ g1 g3 ?_ (by rw [zcp];exact g4))
 ·simp only [execOp,ho,hx,Sem.run_bind,hrun,Result.andThen,Sem.run_pure]
 ·show Rd _ (E'.set [c]) (.sl [.int .u8]) _ (.sl (ints (bytesOf s)))
  have hlt:w.heap.size<(Lib.bytesWorld w e s).heap.size:=by rw [Lib.bytesWorld_size];omega
  by_cases h0:s.size=0
  ·rw [h0]
   have:bytesOf s=[]:=List.eq_nil_of_length_eq_zero (by rw [zdq];exact h0)
   rw [this]
   rw [h0] at hcap2
   exact .emp (fun e=>by cases e) hcap2
  ·have hn2:=Lib.bytesWorld_at_new w e s
   have hbs:(Lib.bytesCells w e s).size=s.size+(grownCap w s.size 0 e-s.size):=by simp [Lib.bytesCells]
   refine .row (fun i _=> .int .u8 ((s.data.toList.getD i 0).toNat:Int)) (by omega) (by rw [zap,zdq]) hcap hcap2 hbd ⟨c,by simp,g2 _ (Nat.le_refl _) hlt⟩ hlt (fun i j hi hj=>?_) (fun i hi=>?_) (fun i j hi hj=>?_) (fun i j hi hj=>?_)
   ·have:j=0:=by simpa using hj
    subst this
    have:=Lib.bytesWorld_cell w e s i hi
    simpa using this
   ·have:i<(bytesOf s).length:=by rw [zdq];exact hi
    simp [ints,List.getD,this]
   ·have:j=0:=by simpa using hj
    subst this
    have hi2:i<s.data.toList.length:=by simpa using hi
    have e1:(ints (bytesOf s)).getD i []=[.int ((s.data.toList.getD i 0).toNat:Int)]:=by
     have hi3:i<s.data.size:=by simpa using hi2
     have hg:s.data[i]? = some s.data[i]:=Array.getElem?_eq_getElem hi3
     simp [ints,bytesOf,List.getD,hg]
    rw [e1]
    exact .int (zub (by have:=(s.data.toList.getD i 0).toNat_lt;omega))
   ·have:j=0:=by simpa using hj
    subst this
    simp [World.frozen?,hn2]
    omega
end ops
section cut
variable {P : Program} {base : Nat} {X : Cx} {w0 : World} {st : St}
def strT (P:Program) (T:TypeId):Bool:=match P.underlying T with
 | some .string=>true
 | _=>false
def zoq (P:Program) (st:St) (T:TypeId) (x:Operand) (lo hi:Option Operand):Option Upd:=
 match strT P T,zal (st.ev x),lo,hi with
 | true,(.str s,n1),some y,none=>match zal (st.ev y) with
  | (.int _ l,n2)=>some ⟨n1++n2++[0<=l,l<=(s.size:Int)],.str (s.extract l.toNat s.size),[]⟩
  | _=>none
 | _,_,_,_=>none
theorem ztL (o:Oper) (T:TypeId) (x:Operand) (lo hi:Option Operand) (ho:o.op = .slice T x lo hi none) {u:Upd} (hu:zoq P st T x lo hi=some u):Does P base X w0 st o u:=by
 unfold zoq at hu
 split at hu
 case h_2=>simp at hu
 rename_i s n1 y hT e1
 split at hu
 case h_2=>simp at hu
 rename_i k l n2 e2
 simp only [Option.some.injEq] at hu
 subst hu
 have hT':P.underlying T=some .string:=by
  unfold strT at hT
  split at hT
  ·assumption
  ·cases hT
 refine Does.pure fun E a w hk hn=>?_
 have hx:=zae (hk.ev x) (fun p hp=>hn p (by rw [e1] at hp;simp [hp]))
 rw [e1] at hx
 have hy:=zae (hk.ev y) (fun p hp=>hn p (by rw [e2] at hp;simp [hp]))
 rw [e2] at hy
 obtain ⟨hx,hs⟩:=hx
 obtain ⟨hy,_⟩:=hy
 have g0:0<=l:=hn _ (by simp)
 have g1:l<=(s.size:Int):=hn _ (by simp)
 refine ⟨.string (s.extract l.toNat s.size),?_,rfl,by rw [ByteArray.size_extract];omega⟩
 have hb:(Instr.sliceBound (.int k l) s.size .sliceB).run P w = .ok l.toNat w:=run_sliceBound _ _ _ _ _ g0 g1
 simp [execOp,ho,Instr.sliceAt,Instr.slice,Instr.sliceBounds,Sem.run_bind,run_underlying hT',Result.andThen,Sem.run_pure,hx,hy,hb]
end cut
end Go.Proofs.YtkhphiahindnnaaGreat
namespace Go.Proofs.YtkhphiahindnnaaGreat
open Go.RowKit Go.ChangeShapes Go.WideShapes Go.Deep
def orU (a b:Option Upd):Option Upd:=match a with
 | some u=>some u
 | none=>b
theorem zdS {a b:Option Upd} {u:Upd} (h:orU a b=some u):a=some u\/b=some u:=by
 cases a with
 | none=>exact .inr h
 | some x=>exact .inl h
def znC (P:Program) (c:Nat) (st:St) (ty:TypeId):Op->Option Upd
 | .store T x y=>cPut P st T x y
 | .binOp op T x y _=>orU (cEqP P st op T x y) (orU (cEqN P st op T x y) (orU (cEqA P st op T x y) (ztS st op x y)))
 | .index T x i=>ztK P st T x i
 | .convert s d x=>orU (cB2S P st s d x) (cS2B P st c s d x)
 | .call ⟨.builtin .min,⟨[x,y]⟩,_⟩=>cMin st x y
 | .call ⟨.builtin .max,⟨[x,y]⟩,_⟩=>cMax st x y
 | .call ⟨.builtin .append,⟨[x,y]⟩,⟨[T,T2]⟩⟩=>if T=T2 then cApp P st c T x y else ztU P st c T T2 x y
 | .call ⟨.builtin .copy,⟨[x,y]⟩,⟨[T,_]⟩⟩=>ztP P st T x y
 | .buildSlice T len ps=>orU (cLit P st c T len ps) (ztI P st c T len ps)
 | .slice T x lo hi none=>orU (ztN P st c T x lo hi) (zoq P st T x lo hi)
 | .makeSlice T x y=>ztE P st c T x y
 | .makeFunc (.func f) ⟨[]⟩ xs=>some (zwr st f xs.toList)
 | _=>none
theorem zsJ (P:Program):zff P (znC P):=by
 intro c st o u base X w0 h
 have key:∀ op,o.op=op->znC P c st o.type op=some u->Does P base X w0 st o u:=by
  intro op ho h
  unfold znC at h
  split at h
  ·exact zwp o _ _ _ ho h
  ·rcases zdS h with h | h
   ·exact zwx o _ _ _ _ _ ho h
   ·rcases zdS h with h | h
    ·exact zwy o _ _ _ _ _ ho h
    ·rcases zdS h with h | h
     ·exact zwz o _ _ _ _ _ ho h
     ·exact ztR o _ _ _ _ _ ho h
  ·exact ztJ o _ _ _ ho h
  ·rcases zdS h with h | h
   ·exact zw3 o _ _ _ ho h
   ·exact zwo o c _ _ _ ho h
  ·exact zws o _ _ _ ho h
  ·exact zwt o _ _ _ ho h
  ·split at h
   ·rename_i hT;subst hT;exact zw4 o c _ _ _ ho h
   ·exact ztT o c _ _ _ _ ho h
  ·exact ztO o _ _ _ _ ho h
  ·rcases zdS h with h | h
   ·exact zwu o c _ _ _ ho h
   ·exact ztH o c _ _ _ ho h
  ·rcases zdS h with h | h
   ·exact ztM o c _ _ _ _ ho h
   ·exact ztL o _ _ _ _ ho h
  ·exact ztD o c _ _ _ ho h
  ·simp only [Option.some.injEq] at h;subst h;exact ztC o _ _ ho
  ·simp at h
 exact key _ rfl h
theorem zt2 {a b:St} {e:TypeId} {s:SV} (h:∀ t,t∈zao s->a.m t=b.m t):zgO a e s=zgO b e s:=by
 cases s
 case own t=>simp only [zgO,h t (by simp [zao])]
 all_goals rfl
theorem zmk {a b:St} {r:RL} {s:SV} (h:∀ t,t∈zao s->a.m t=b.m t):zcH a r s=zcH b r s:=by
 cases s
 case own t=>simp only [zcH,h t (by simp [zao])]
 case ov t n=>simp only [zcH,h t (by simp [zao])]
 all_goals rfl
theorem zvr {a b:St} {s:SV} (h:∀ t,t∈zao s->a.m t=b.m t):nilU a s=nilU b s:=by
 cases s
 case own t=>simp only [nilU,h t (by simp [zao])]
 all_goals rfl
theorem zvc {a b:St} {s:SV} (h:∀ t,t∈zao s->a.m t=b.m t):rowU a s=rowU b s:=by
 cases s
 case own t=>simp only [rowU,h t (by simp [zao])]
 case sl ls r=>cases r<;>rfl
 all_goals rfl
theorem zpl {a b:St} {x:Option Operand} (h:∀ y,y∈x.toList->a.ev y=b.ev y):optI a x=optI b x:=by
 cases x with
 | none=>rfl
 | some y=>simp only [optI,h y (by simp)]
theorem zpy (P:Program):zdN (znC P):=by
 intro c a b ty op h
 unfold znC
 split
 ·rename_i T x y
  have hx:=h.ev x (by simp [Op.operands])
  have ht:=fun t=>h.tag (x:=x) (by simp [Op.operands]) (t:=t)
  simp only [cPut,h.ev y (by simp [Op.operands])]
  rw [<- hx]
  rcases hs:zal (a.ev x) with ⟨s,n⟩
  rw [hs] at ht
  cases s
  case oel t sz i off=>
   have e2:=ht t (by simp [zao])
   rcases zal (b.ev y) with ⟨s2,n2⟩
   cases zc7 P T with
   | none=>rfl
   | some k=>simp only [e2]
  all_goals rfl
 ·rename_i op T x y T2
  have hx:=h.ev x (by simp [Op.operands])
  have ht:=fun t=>h.tag (x:=x) (by simp [Op.operands]) (t:=t)
  simp only [cEqP,cEqN,cEqA,ztS,h.ev y (by simp [Op.operands]),<- hx]
  rw [zvr (fun t g=>ht t g)]
 ·rename_i T x i;simp only [ztK,h.ev x (by simp [Op.operands]),h.ev i (by simp [Op.operands])]
 ·rename_i s d x
  have hx:=h.ev x (by simp [Op.operands])
  have ht:=fun t=>h.tag (x:=x) (by simp [Op.operands]) (t:=t)
  simp only [cB2S,cS2B,h.free (zdy _),<- hx]
  rw [zvc (fun t g=>ht t g)]
 ·rename_i x y ts;simp only [cMin,h.ev x (by simp [Op.operands,Call.operands]),h.ev y (by simp [Op.operands,Call.operands])]
 ·rename_i x y ts;simp only [cMax,h.ev x (by simp [Op.operands,Call.operands]),h.ev y (by simp [Op.operands,Call.operands])]
 ·rename_i x y T T2
  have hx:=h.ev x (by simp [Op.operands,Call.operands])
  have hy:=h.ev y (by simp [Op.operands,Call.operands])
  have tx:=fun t=>h.tag (x:=x) (by simp [Op.operands,Call.operands]) (t:=t)
  have ty:=fun t=>h.tag (x:=y) (by simp [Op.operands,Call.operands]) (t:=t)
  simp only [cApp,ztU,h.free (zdy _)]
  rw [<- hx,<- hy]
  have hd:∀ e,zgO a e (zal (a.ev x)).1=zgO b e (zal (a.ev x)).1:=fun e=>zt2 tx
  have hs:∀ r,zcH a r (zal (a.ev y)).1=zcH b r (zal (a.ev y)).1:=fun r=>zmk ty
  simp only [hd,hs]
 ·rename_i x y T T2
  have hx:=h.ev x (by simp [Op.operands,Call.operands])
  have hy:=h.ev y (by simp [Op.operands,Call.operands])
  have tx:=fun t=>h.tag (x:=x) (by simp [Op.operands,Call.operands]) (t:=t)
  have ty:=fun t=>h.tag (x:=y) (by simp [Op.operands,Call.operands]) (t:=t)
  have hs:∀ r,zcH a r (zal (a.ev y)).1=zcH b r (zal (a.ev y)).1:=fun r=>zmk ty
  simp only [ztP]
  rw [<- hx,<- hy]
  simp only [hs]
  rcases hs:zal (a.ev x) with ⟨s,n⟩
  rw [hs] at tx
  cases zch P T with
  | none=>rfl
  | some e=>
   cases s
   case own t=>
    have e2:=tx t (by simp [zao])
    simp only [e2]
   all_goals rfl
 ·rename_i T len ps
  simp only [cLit,ztI,h.free (zdy _)]
  rw [zd8 ps.toList (fun x hx=>h.ev x (by simpa [Op.operands] using hx))]
 ·rename_i T x lo hi
  have hx:=h.ev x (by simp [Op.operands])
  have tx:=fun t=>h.tag (x:=x) (by simp [Op.operands]) (t:=t)
  have hS:zoq P a T x lo hi=zoq P b T x lo hi:=by
   unfold zoq
   rw [hx]
   cases lo with
   | none=>cases strT P T<;>rcases zal (b.ev x) with ⟨s,n⟩<;>cases s<;>rfl
   | some y=>
    have hy:a.ev y=b.ev y:=h.ev y (by simp [Op.operands])
    cases strT P T<;>rcases zal (b.ev x) with ⟨s,n⟩<;>cases s<;>cases hi<;>first | rfl | simp only [hy]
  rw [hS]
  congr 1
  simp only [ztN,h.free (zdy _)]
  rw [zpl (x:=lo) (fun y hy=>h.ev y (by simp only [Op.operands,Array.toList_append,List.mem_append];simp at hy;simp [hy])),zpl (x:=hi) (fun y hy=>h.ev y (by simp only [Op.operands,Array.toList_append,List.mem_append];simp at hy;simp [hy]))]
  rw [<- hx]
  rcases hs:zal (a.ev x) with ⟨s,n⟩
  rw [hs] at tx
  cases s
  case own t=>
   have e2:=tx t (by simp [zao])
   simp only [e2]
  all_goals rfl
 ·rename_i T x y
  simp only [ztE,h.ev x (by simp [Op.operands]),h.ev y (by simp [Op.operands]),h.free (zdy _)]
 ·rename_i f xs
  have e:=zeX (a:=a) (b:=b) xs.toList (fun x hx=>h.ev x (by simp [Op.operands,hx]))
  obtain ⟨xs⟩:=xs
  cases xs with
  | nil=>rfl
  | cons x r=>simp only [zwr,e]
 ·rfl
end Go.Proofs.YtkhphiahindnnaaGreat
namespace Go.Proofs.YtkhphiahindnnaaGreat
open Go.RowKit Go.ChangeShapes Go.WideShapes Go.Deep
theorem mD2 (t:Nat):mOf D2 t=if t<2 then .dead else .empty:=by
 match t with
 | 0=>rfl
 | 1=>rfl
 | t+2=>rw [zeu];simp [List.getD]
theorem zf3 {E:Env} {t b:Nat}:¬ Has E (mOf D2) t b:=by
 intro h
 have:=h.1
 rw [mD2] at this
 split at this<;>cases this
def Env.zero (E:Env):Prop:=∀ i b,E.σ i b->i=0
theorem zuJ {E:Env} {w:World} (hm:MemOk w.heap.size (cxIn E D2 1) w E (mOf D2) w):E.zero:=by
 intro i b h
 apply Classical.byContradiction
 intro hi
 have h1:=hm.lab i b h
 rcases h1.2 (show (1:Nat)<=i by omega) with h2 | ⟨t,ht⟩
 ·omega
 ·exact zf3 ht
theorem Env.zero.set {E:Env} (h:E.zero) {ls:List Nat} {b:Nat} (hb:E.set ls b):E.set [0] b:=by
 obtain ⟨i,_,hi⟩:=hb
 have:=h i b hi
 subst this
 exact ⟨0,by simp,hi⟩
theorem FnC.pre {P:Program} {f:FuncId} {ins ins':List SV} {out:SV} {mo:List BE} (h:FnC P f ins out mo) (hd:∀ E w vals,Env.zero E->DenL E w ins' vals->DenL E w ins vals):FnC P f ins' out mo:=
 ⟨h.1,fun w E vals hm hv=>h.2 w E vals hm (hd E w vals (zuJ hm) hv)⟩
theorem zp1 {E:Env} {w w':World} (hm:MemOk w.heap.size (cxIn E D2 1) w E (mOf D2) w) (hb:Below w.heap.size w w') :
  MemOk w.heap.size (cxIn E D2 1) w ⟨E.β,fun i b=>E.σ i b\/(i=1/\w.heap.size<=b/\b<w'.heap.size),E.φ⟩ (mOf D2) w':=by
 have hl:∀ t,(mOf D2 t).live=false:=by intro t;rw [mD2];split<;>rfl
 have hno:∀ {E:Env} {t b:Nat},¬ Has E (mOf D2) t b:=zf3
 refine ⟨fun t ht=>⟨(hm.empty t ht).1,fun b hb'=>?_⟩,fun t T vs ht=>?_,fun t T ls r ht=>?_,fun i b hb'=>?_,fun i j b hi hj=>?_,hm.low,fun t b hh=>absurd hh hno,fun i b hi hb'=>?_,fun t u b h1=>absurd h1 hno,hm.keep,⟨hb.os,hb.tape,hb.output,hb.size,fun b h1 _=>hb.block b h1⟩,hb.size,fun t o ht=>by have:=hl t;rw [ht] at this;cases this⟩
 ·rcases hb' with h | ⟨rfl,_⟩
  ·exact (hm.empty t ht).2 b h
  ·rw [mD2] at ht;simp at ht
 ·have:=hl t;rw [ht] at this;cases this
 ·have:=hl t;rw [ht] at this;cases this
 ·rcases hb' with h | ⟨rfl,h1,h2⟩
  ·exact ⟨Nat.lt_of_lt_of_le (hm.lab i b h).1 hb.size,(hm.lab i b h).2⟩
  ·exact ⟨h2,fun _=> .inl h1⟩
 ·rcases hi with hi | ⟨rfl,h1,h2⟩<;>rcases hj with hj | ⟨rfl,h3,h4⟩
  ·exact hm.dis i j b hi hj
  ·have:=(hm.lab i b hi).1;omega
  ·have:=(hm.lab j b hj).1;omega
  ·rfl
 ·rcases hb' with h | ⟨rfl,_⟩
  ·exact h
  ·simp [cxIn] at hi
theorem FnC.of_below {P:Program} {f:FuncId} {ins:List SV} {out:SV} (hB:FnB P f)
  (h:∀ (w:World) (E:Env) (vals:List Value),DenL E w ins vals->Calls P f vals.toArray w (fun e w'=>∃ v,e = .returned v/\Below w.heap.size w w'/\∀ E':Env,E.Le E'->(∀ b,w.heap.size<=b->b<w'.heap.size->E'.σ 1 b)->DenV E' w' out v)):FnC P f ins out D2:=by
 refine ⟨hB,fun w E vals hm hd=>(h w E vals hd).mono ?_⟩
 rintro e w' ⟨v,rfl,hb,hv⟩
 exact ⟨v,⟨E.β,fun i b=>E.σ i b\/(i=1/\w.heap.size<=b/\b<w'.heap.size),E.φ⟩,rfl,hv _ ⟨fun _ _ x=>x,fun _ _ x=> .inl x⟩ (fun b h1 h2=> .inr ⟨rfl,h1,h2⟩),zp1 hm hb⟩
theorem FnC.of_int {P:Program} {f:FuncId} {ins:List SV} {n:Int} (hB:FnB P f) (h:∀ (w:World) (E:Env) (vals:List Value),DenL E w ins vals->I64 n/\Calls P f vals.toArray w (fun e w'=>e = .returned (.int .i64 n)/\Below w.heap.size w w')):FnC P f ins (.int .i64 n) D2:=
 FnC.of_below hB fun w E vals hd=>(h w E vals hd).2.mono (by rintro e w' ⟨rfl,hb⟩;exact ⟨_,rfl,hb,fun _ _ _=>⟨rfl,zcF (h w E vals hd).1⟩⟩)
theorem FnC.of_bool {P:Program} {f:FuncId} {ins:List SV} {b:Bool} (hB:FnB P f) (h:∀ (w:World) (E:Env) (vals:List Value),DenL E w ins vals->Calls P f vals.toArray w (fun e w'=>e = .returned (.bool b)/\Below w.heap.size w w')):FnC P f ins (.bool b) D2:=
 FnC.of_below hB fun w E vals hd=>(h w E vals hd).mono (by rintro e w' ⟨rfl,hb⟩;exact ⟨_,rfl,hb,fun _ _ _=>rfl⟩)
theorem FnC.of_i2 {P:Program} {f:FuncId} {ins:List SV} {m n:Int} (hB:FnB P f) (h:∀ (w:World) (E:Env) (vals:List Value),DenL E w ins vals->(I64 m/\I64 n)/\Calls P f vals.toArray w (fun e w'=>e = .returned (.tuple #[.int .i64 m,.int .i64 n])/\Below w.heap.size w w')):FnC P f ins (.tup [.int .i64 m,.int .i64 n]) D2:=
 FnC.of_below hB fun w E vals hd=>(h w E vals hd).2.mono (by rintro e w' ⟨rfl,hb⟩;exact ⟨_,rfl,hb,fun _ _ _=>⟨[_,_],rfl,⟨rfl,zcF (h w E vals hd).1.1⟩,⟨rfl,zcF (h w E vals hd).1.2⟩,trivial⟩⟩)
theorem zes {E:Env} {w:World} {s:SV} {vals:List Value} (h:DenL E w [s] vals):∃ v,vals=[v]/\DenV E w s v:=by
 match vals,h with
 | [v],h=>exact ⟨v,rfl,h.1⟩
theorem zda {E:Env} {w:World} {s t:SV} {vals:List Value} (h:DenL E w [s,t] vals):∃ v u,vals=[v,u]/\DenV E w s v/\DenV E w t u:=by
 match vals,h with
 | [v,u],h=>exact ⟨v,u,rfl,h.1,h.2.1⟩
theorem zcd {α:Type} {l:List α} {i:Nat} {d:α} (h:i<l.length):l.getD i d=l[i]:=by simp [List.getD,h]
theorem zb1 {α:Type} {l:List α} {i:Nat} {d:α} (h:i<l.length):l.getD i d∈l:=by rw [zcd h];exact List.getElem_mem _
theorem zaL {α:Type} {l:List α} {i:Nat} {d:α} (h:i<l.length):l.take (i+1)=l.take i++[l.getD i d]:=by rw [zcd h,List.take_succ_eq_append_getElem h]
theorem zaD {n:Int} (h:I64 n):IntKind.i64.wrap n=n:=IntWalk.i64_in _ h
theorem zbN {i:Nat} (h:i<=9223372036854775806):IntKind.i64.wrap ((i:Int)+1)=(i:Int)+1:=zaD ⟨by omega,by omega⟩
structure Dec (α:Type) where
 dec:SV->Option α
 can:α->SV
 Okp:α->Prop
 okp:∀ x E w v,DenV E w (can x) v->Okp x
 ok:∀ s x,dec s=some x->∀ E w v,Env.zero E->DenV E w s v->DenV E w (can x) v
def dInt:Dec Int where
 dec:=fun s=>match s with | .int .i64 n=>some n | _=>none
 can:=fun n=> .int .i64 n
 Okp:=fun n=>I64 n
 okp:=fun n E w v h=>lit_bd h.2
 ok:=by
  intro s x h E w v _ hd
  split at h
  ·simp only [Option.some.injEq] at h;subst h;exact hd
  ·simp at h
def dBool:Dec Bool where
 dec:=fun s=>match s with | .bool n=>some n | _=>none
 can:=fun n=> .bool n
 Okp:=fun n=>True
 okp:=fun n E w v h=>trivial
 ok:=by
  intro s x h E w v _ hd
  split at h
  ·simp only [Option.some.injEq] at h;subst h;exact hd
  ·simp at h
def dStr:Dec ByteArray where
 dec:=fun s=>match s with | .str n=>some n | _=>none
 can:=fun n=> .str n
 Okp:=fun n=>n.size<=140737488355328
 okp:=fun n E w v h=>h.2
 ok:=by
  intro s x h E w v _ hd
  split at h
  ·simp only [Option.some.injEq] at h;subst h;exact hd
  ·simp at h
theorem zfY {E:Env} {w:World} {m:List Nat} {r:RL} {v:Value} (hz:E.zero) (h:DenV E w (.sl m r) v):DenV E w (.sl [0] r) v:=Rd.mono h (fun b _ hb=>hz.set hb)
def dInts:Dec (List Int) where
 dec:=fun s=>match s.asInts with | some (l,_)=>some l | none=>none
 can:=fun l=> .sl [0] (.rInts l)
 Okp:=zbE
 okp:=fun l E w v h=>by
  have h:Rd w (E.set [0]) (.sl [.int .i64]) v (.sl (ints l)):=h
  obtain ⟨a,c,rfl,hs⟩:=h.sl'
  exact zbj hs
 ok:=by
  intro s x h E w v hz hd
  split at h
  ·rename_i l m e;simp only [Option.some.injEq] at h;subst h;exact zfY hz (SV.asInts_ok e (fun i hi=>hi) hd)
  ·simp at h
def dEntrys:Dec (List Entry) where
 dec:=fun s=>match s.asEntry with | some (l,_)=>some l | none=>none
 can:=fun l=> .sl [0] (.rEntry l)
 Okp:=fun l=>l.length<=17592186044416/\∀ x,x∈l->x.Ok
 okp:=fun l E w v h=>by
  have h:Rd w (E.set [0]) (.sl Entry.ty) v (.sl (l.map Entry.enc)):=h
  obtain ⟨a,c,rfl,hs⟩:=h.sl'
  exact zca hs (fun _ _ hr=>Entry.ok_of hr)
 ok:=by
  intro s x h E w v hz hd
  split at h
  ·rename_i l m e;simp only [Option.some.injEq] at h;subst h;exact zfY hz (SV.asEntry_ok e (fun i hi=>hi) hd)
  ·simp at h
def dPeers:Dec (List Peer) where
 dec:=fun s=>match s.asPeer with | some (l,_)=>some l | none=>none
 can:=fun l=> .sl [0] (.rPeer l)
 Okp:=fun l=>l.length<=17592186044416/\∀ x,x∈l->x.Ok
 okp:=fun l E w v h=>by
  have h:Rd w (E.set [0]) (.sl Peer.ty) v (.sl (l.map Peer.enc)):=h
  obtain ⟨a,c,rfl,hs⟩:=h.sl'
  exact zca hs (fun _ _ hr=>Peer.ok_of hr)
 ok:=by
  intro s x h E w v hz hd
  split at h
  ·rename_i l m e;simp only [Option.some.injEq] at h;subst h;exact zfY hz (SV.asPeer_ok e (fun i hi=>hi) hd)
  ·simp at h
def dReads:Dec (List Read) where
 dec:=fun s=>match s.asRead with | some (l,_)=>some l | none=>none
 can:=fun l=> .sl [0] (.rRead l)
 Okp:=fun l=>l.length<=17592186044416/\∀ x,x∈l->x.Ok
 okp:=fun l E w v h=>by
  have h:Rd w (E.set [0]) (.sl Read.ty) v (.sl (l.map Read.enc)):=h
  obtain ⟨a,c,rfl,hs⟩:=h.sl'
  exact zca hs (fun _ _ hr=>Read.ok_of hr)
 ok:=by
  intro s x h E w v hz hd
  split at h
  ·rename_i l m e;simp only [Option.some.injEq] at h;subst h;exact zfY hz (SV.asRead_ok e (fun i hi=>hi) hd)
  ·simp at h
def dMoves:Dec (List Move) where
 dec:=fun s=>match s.asMove with | some (l,_)=>some l | none=>none
 can:=fun l=> .sl [0] (.rMove l)
 Okp:=fun l=>l.length<=17592186044416/\∀ x,x∈l->x.Ok
 okp:=fun l E w v h=>by
  have h:Rd w (E.set [0]) (.sl Move.ty) v (.sl (l.map Move.enc)):=h
  obtain ⟨a,c,rfl,hs⟩:=h.sl'
  exact zca hs (fun _ _ hr=>Move.ok_of hr)
 ok:=by
  intro s x h E w v hz hd
  split at h
  ·rename_i l m e;simp only [Option.some.injEq] at h;subst h;exact zfY hz (SV.asMove_ok e (fun i hi=>hi) hd)
  ·simp at h
def dConfig:Dec Config where
 dec:=fun s=>match s with | .agg cs=>(match Config.of cs with | some (x,_)=>some x | none=>none) | _=>none
 can:=fun x=> .agg (x.svs [0])
 Okp:=fun x=>x.Ok
 okp:=fun x E w v ⟨xs,_,hl⟩=>Config.ok_of (Config.svs_rd hl)
 ok:=by
  intro s x h E w v hz hd
  split at h
  case h_2=>simp at h
  split at h
  case h_2=>simp at h
  rename_i cs _ y m e
  simp only [Option.some.injEq] at h
  subst h
  obtain ⟨xs,hv,hl⟩:=hd
  exact ⟨xs,hv,Config.svs_of (RdL.mono (fun b _ hb=>hz.set hb) (Config.svs_rd (Config.of_ok e hl)))⟩
def dEntry:Dec Entry where
 dec:=fun s=>match s with | .agg cs=>(match Entry.of cs with | some (x,_)=>some x | none=>none) | _=>none
 can:=fun x=> .agg (x.svs [0])
 Okp:=fun x=>x.Ok
 okp:=fun x E w v ⟨xs,_,hl⟩=>Entry.ok_of (Entry.svs_rd hl)
 ok:=by
  intro s x h E w v hz hd
  split at h
  case h_2=>simp at h
  split at h
  case h_2=>simp at h
  rename_i cs _ y m e
  simp only [Option.some.injEq] at h
  subst h
  obtain ⟨xs,hv,hl⟩:=hd
  exact ⟨xs,hv,Entry.svs_of (RdL.mono (fun b _ hb=>hz.set hb) (Entry.svs_rd (Entry.of_ok e hl)))⟩
def dSnap:Dec Snap where
 dec:=fun s=>match s with | .agg cs=>(match Snap.of cs with | some (x,_)=>some x | none=>none) | _=>none
 can:=fun x=> .agg (x.svs [0])
 Okp:=fun x=>x.Ok
 okp:=fun x E w v ⟨xs,_,hl⟩=>Snap.ok_of (Snap.svs_rd hl)
 ok:=by
  intro s x h E w v hz hd
  split at h
  case h_2=>simp at h
  split at h
  case h_2=>simp at h
  rename_i cs _ y m e
  simp only [Option.some.injEq] at h
  subst h
  obtain ⟨xs,hv,hl⟩:=hd
  exact ⟨xs,hv,Snap.svs_of (RdL.mono (fun b _ hb=>hz.set hb) (Snap.svs_rd (Snap.of_ok e hl)))⟩
def dKept:Dec Kept where
 dec:=fun s=>match s with | .agg cs=>(match Kept.of cs with | some (x,_)=>some x | none=>none) | _=>none
 can:=fun x=> .agg (x.svs [0])
 Okp:=fun x=>x.Ok
 okp:=fun x E w v ⟨xs,_,hl⟩=>Kept.ok_of (Kept.svs_rd hl)
 ok:=by
  intro s x h E w v hz hd
  split at h
  case h_2=>simp at h
  split at h
  case h_2=>simp at h
  rename_i cs _ y m e
  simp only [Option.some.injEq] at h
  subst h
  obtain ⟨xs,hv,hl⟩:=hd
  exact ⟨xs,hv,Kept.svs_of (RdL.mono (fun b _ hb=>hz.set hb) (Kept.svs_rd (Kept.of_ok e hl)))⟩
def dRecord:Dec Record where
 dec:=fun s=>match s with | .agg cs=>(match Record.of cs with | some (x,_)=>some x | none=>none) | _=>none
 can:=fun x=> .agg (x.svs [0])
 Okp:=fun x=>x.Ok
 okp:=fun x E w v ⟨xs,_,hl⟩=>Record.ok_of (Record.svs_rd hl)
 ok:=by
  intro s x h E w v hz hd
  split at h
  case h_2=>simp at h
  split at h
  case h_2=>simp at h
  rename_i cs _ y m e
  simp only [Option.some.injEq] at h
  subst h
  obtain ⟨xs,hv,hl⟩:=hd
  exact ⟨xs,hv,Record.svs_of (RdL.mono (fun b _ hb=>hz.set hb) (Record.svs_rd (Record.of_ok e hl)))⟩
def dChange:Dec Change where
 dec:=fun s=>match s with | .agg cs=>(match Change.of cs with | some (x,_)=>some x | none=>none) | _=>none
 can:=fun x=> .agg (x.svs [0])
 Okp:=fun x=>x.Ok
 okp:=fun x E w v ⟨xs,_,hl⟩=>Change.ok_of (Change.svs_rd hl)
 ok:=by
  intro s x h E w v hz hd
  split at h
  case h_2=>simp at h
  split at h
  case h_2=>simp at h
  rename_i cs _ y m e
  simp only [Option.some.injEq] at h
  subst h
  obtain ⟨xs,hv,hl⟩:=hd
  exact ⟨xs,hv,Change.svs_of (RdL.mono (fun b _ hb=>hz.set hb) (Change.svs_rd (Change.of_ok e hl)))⟩
def dPeer:Dec Peer where
 dec:=fun s=>match s with | .agg cs=>(match Peer.of cs with | some (x,_)=>some x | none=>none) | _=>none
 can:=fun x=> .agg (x.svs [0])
 Okp:=fun x=>x.Ok
 okp:=fun x E w v ⟨xs,_,hl⟩=>Peer.ok_of (Peer.svs_rd hl)
 ok:=by
  intro s x h E w v hz hd
  split at h
  case h_2=>simp at h
  split at h
  case h_2=>simp at h
  rename_i cs _ y m e
  simp only [Option.some.injEq] at h
  subst h
  obtain ⟨xs,hv,hl⟩:=hd
  exact ⟨xs,hv,Peer.svs_of (RdL.mono (fun b _ hb=>hz.set hb) (Peer.svs_rd (Peer.of_ok e hl)))⟩
def dMessage:Dec Message where
 dec:=fun s=>match s with | .agg cs=>(match Message.of cs with | some (x,_)=>some x | none=>none) | _=>none
 can:=fun x=> .agg (x.svs [0])
 Okp:=fun x=>x.Ok
 okp:=fun x E w v ⟨xs,_,hl⟩=>Message.ok_of (Message.svs_rd hl)
 ok:=by
  intro s x h E w v hz hd
  split at h
  case h_2=>simp at h
  split at h
  case h_2=>simp at h
  rename_i cs _ y m e
  simp only [Option.some.injEq] at h
  subst h
  obtain ⟨xs,hv,hl⟩:=hd
  exact ⟨xs,hv,Message.svs_of (RdL.mono (fun b _ hb=>hz.set hb) (Message.svs_rd (Message.of_ok e hl)))⟩
def dNode:Dec Node where
 dec:=fun s=>match s with | .agg cs=>(match Node.of cs with | some (x,_)=>some x | none=>none) | _=>none
 can:=fun x=> .agg (x.svs [0])
 Okp:=fun x=>x.Ok
 okp:=fun x E w v ⟨xs,_,hl⟩=>Node.ok_of (Node.svs_rd hl)
 ok:=by
  intro s x h E w v hz hd
  split at h
  case h_2=>simp at h
  split at h
  case h_2=>simp at h
  rename_i cs _ y m e
  simp only [Option.some.injEq] at h
  subst h
  obtain ⟨xs,hv,hl⟩:=hd
  exact ⟨xs,hv,Node.svs_of (RdL.mono (fun b _ hb=>hz.set hb) (Node.svs_rd (Node.of_ok e hl)))⟩
def dOut:Dec Out where
 dec:=fun s=>match s with | .agg cs=>(match Out.of cs with | some (x,_)=>some x | none=>none) | _=>none
 can:=fun x=> .agg (x.svs [0])
 Okp:=fun x=>x.Ok
 okp:=fun x E w v ⟨xs,_,hl⟩=>Out.ok_of (Out.svs_rd hl)
 ok:=by
  intro s x h E w v hz hd
  split at h
  case h_2=>simp at h
  split at h
  case h_2=>simp at h
  rename_i cs _ y m e
  simp only [Option.some.injEq] at h
  subst h
  obtain ⟨xs,hv,hl⟩:=hd
  exact ⟨xs,hv,Out.svs_of (RdL.mono (fun b _ hb=>hz.set hb) (Out.svs_rd (Out.of_ok e hl)))⟩
def dMove:Dec Move where
 dec:=fun s=>match s with | .agg cs=>(match Move.of cs with | some (x,_)=>some x | none=>none) | _=>none
 can:=fun x=> .agg (x.svs [0])
 Okp:=fun x=>x.Ok
 okp:=fun x E w v ⟨xs,_,hl⟩=>Move.ok_of (Move.svs_rd hl)
 ok:=by
  intro s x h E w v hz hd
  split at h
  case h_2=>simp at h
  split at h
  case h_2=>simp at h
  rename_i cs _ y m e
  simp only [Option.some.injEq] at h
  subst h
  obtain ⟨xs,hv,hl⟩:=hd
  exact ⟨xs,hv,Move.svs_of (RdL.mono (fun b _ hb=>hz.set hb) (Move.svs_rd (Move.of_ok e hl)))⟩
section
variable {P : Program} {α β γ δ ε : Type}
abbrev R3:=List Prop×SV×List BE
def isD2:List BE->Bool
 | [.dead,.dead]=>true
 | _=>false
theorem zg3 {m:List BE} (h:isD2 m=true):m=D2:=by
 unfold isD2 at h;split at h
 ·rfl
 ·cases h
def go0 (r:R3) (ins:List SV) (mi:List BE):Option R3:=match isD2 mi,ins with
 | true,[]=>some r
 | _,_=>none
theorem FnG.given {f:FuncId} {nl:Nat} {mi mo:List BE} {ins:List SV} {out:SV} {F:Prop} (hB:FnB P f) (hF:∀ E w vals,DenL E w ins vals->F) (h:F->FnG P f nl mi ins out mo):FnG P f nl mi ins out mo:=
 ⟨hB,fun w E vals hm hd=>(h (hF E w vals hd)).2 w E vals hm hd⟩
theorem FnC.g1 {f:FuncId} {mo:List BE} {out:SV} (a:Dec α) (x:α) (hB:FnB P f) (h:a.Okp x->FnC P f [a.can x] out mo):FnC P f [a.can x] out mo:=
 FnG.given hB (fun E w vals hd=>by obtain ⟨v,rfl,h1⟩:=zes hd;exact a.okp _ _ _ _ h1) h
theorem FnC.g2 {f:FuncId} {mo:List BE} {out:SV} (a:Dec α) (b:Dec β) (x:α) (y:β) (hB:FnB P f) (h:a.Okp x->b.Okp y->FnC P f [a.can x,b.can y] out mo):FnC P f [a.can x,b.can y] out mo:=
 FnG.given (F:=a.Okp x/\b.Okp y) hB (fun E w vals hd=>by obtain ⟨v,u,rfl,h1,h2⟩:=zda hd;exact ⟨a.okp _ _ _ _ h1,b.okp _ _ _ _ h2⟩) (fun hh=>h hh.1 hh.2)
theorem FnC.g3 {f:FuncId} {mo:List BE} {out:SV} (a:Dec α) (b:Dec β) (c:Dec γ) (x:α) (y:β) (z:γ) (hB:FnB P f) (h:a.Okp x->b.Okp y->c.Okp z->FnC P f [a.can x,b.can y,c.can z] out mo):FnC P f [a.can x,b.can y,c.can z] out mo:=
 FnG.given (F:=a.Okp x/\b.Okp y/\c.Okp z) hB (fun E w vals hd=>by
  match vals,hd with
  | [v1,v2,v3],hd=>exact ⟨a.okp _ _ _ _ hd.1,b.okp _ _ _ _ hd.2.1,c.okp _ _ _ _ hd.2.2.1⟩) (fun hh=>h hh.1 hh.2.1 hh.2.2)
theorem FnC.g4 {f:FuncId} {mo:List BE} {out:SV} (a:Dec α) (b:Dec β) (c:Dec γ) (d:Dec δ) (x:α) (y:β) (z:γ) (q:δ) (hB:FnB P f) (h:a.Okp x->b.Okp y->c.Okp z->d.Okp q->FnC P f [a.can x,b.can y,c.can z,d.can q] out mo):FnC P f [a.can x,b.can y,c.can z,d.can q] out mo:=
 FnG.given (F:=a.Okp x/\b.Okp y/\c.Okp z/\d.Okp q) hB (fun E w vals hd=>by
  match vals,hd with
  | [v1,v2,v3,v4],hd=>exact ⟨a.okp _ _ _ _ hd.1,b.okp _ _ _ _ hd.2.1,c.okp _ _ _ _ hd.2.2.1,d.okp _ _ _ _ hd.2.2.2.1⟩) (fun hh=>h hh.1 hh.2.1 hh.2.2.1 hh.2.2.2)
def ent0 (f:FuncId) (r:R3):Ent:=⟨f,false,[],[],1,[],go0 r⟩
def go1 (a:Dec α) (r:α->R3) (ins:List SV) (mi:List BE):Option R3:=match isD2 mi,ins with
 | true,[s]=>match a.dec s with
  | some x=>some (r x)
  | none=>none
 | _,_=>none
def ent1 (f:FuncId) (a:Dec α) (r:α->R3):Ent:=⟨f,false,[0],[],1,[],go1 a r⟩
def go2 (a:Dec α) (b:Dec β) (r:α->β->R3) (ins:List SV) (mi:List BE):Option R3:=match isD2 mi,ins with
 | true,[s,t]=>match a.dec s,b.dec t with
  | some x,some y=>some (r x y)
  | _,_=>none
 | _,_=>none
def ent2 (f:FuncId) (a:Dec α) (b:Dec β) (r:α->β->R3):Ent:=⟨f,false,[0,0],[],1,[],go2 a b r⟩
def go3 (a:Dec α) (b:Dec β) (c:Dec γ) (r:α->β->γ->R3) (ins:List SV) (mi:List BE):Option R3:=match isD2 mi,ins with
 | true,[s,t,u]=>match a.dec s,b.dec t,c.dec u with
  | some x,some y,some z=>some (r x y z)
  | _,_,_=>none
 | _,_=>none
def ent3 (f:FuncId) (a:Dec α) (b:Dec β) (c:Dec γ) (r:α->β->γ->R3):Ent:=⟨f,false,[0,0,0],[],1,[],go3 a b c r⟩
def go4 (a:Dec α) (b:Dec β) (c:Dec γ) (d:Dec δ) (r:α->β->γ->δ->R3) (ins:List SV) (mi:List BE):Option R3:=match isD2 mi,ins with
 | true,[s,t,u,v]=>match a.dec s,b.dec t,c.dec u,d.dec v with
  | some x,some y,some z,some q=>some (r x y z q)
  | _,_,_,_=>none
 | _,_=>none
def ent4 (f:FuncId) (a:Dec α) (b:Dec β) (c:Dec γ) (d:Dec δ) (r:α->β->γ->δ->R3):Ent:=⟨f,false,[0,0,0,0],[],1,[],go4 a b c d r⟩
theorem ziJ {f:FuncId} {r:R3} (hB:FnB P f) (h:(∀ p∈r.1,p)->FnC P f [] r.2.1 r.2.2):zaf P (ent0 f r):=by
 refine ⟨hB,fun ins mi n out mo hg hn=>?_⟩
 change go0 r ins mi=some (n,out,mo) at hg
 unfold go0 at hg
 split at hg
 case h_2=>simp at hg
 rename_i e
 obtain rfl:=zg3 e
 simp only [Option.some.injEq] at hg
 subst hg
 exact h hn
theorem za4 {f:FuncId} {a:Dec α} {r:α->R3} (hB:FnB P f) (h:∀ x,(∀ p∈(r x).1,p)->FnC P f [a.can x] (r x).2.1 (r x).2.2):zaf P (ent1 f a r):=by
 refine ⟨hB,fun ins mi n out mo hg hn=>?_⟩
 change go1 a r ins mi=some (n,out,mo) at hg
 unfold go1 at hg
 split at hg
 case h_2=>simp at hg
 rename_i s e
 obtain rfl:=zg3 e
 split at hg
 case h_2=>simp at hg
 rename_i x ex
 simp only [Option.some.injEq] at hg
 have:=h x (by rw [hg];exact hn)
 rw [hg] at this
 refine this.pre fun E w vals hz hd=>?_
 match vals,hd with
 | [v],hd=>exact ⟨a.ok _ _ ex E w v hz hd.1,trivial⟩
theorem za3 {f:FuncId} {a:Dec α} {b:Dec β} {r:α->β->R3} (hB:FnB P f) (h:∀ x y,(∀ p∈(r x y).1,p)->FnC P f [a.can x,b.can y] (r x y).2.1 (r x y).2.2):zaf P (ent2 f a b r):=by
 refine ⟨hB,fun ins mi n out mo hg hn=>?_⟩
 change go2 a b r ins mi=some (n,out,mo) at hg
 unfold go2 at hg
 split at hg
 case h_2=>simp at hg
 rename_i s t e
 obtain rfl:=zg3 e
 split at hg
 case h_2=>simp at hg
 rename_i x y ex ey
 simp only [Option.some.injEq] at hg
 have:=h x y (by rw [hg];exact hn)
 rw [hg] at this
 refine this.pre fun E w vals hz hd=>?_
 match vals,hd with
 | [v,u],hd=>exact ⟨a.ok _ _ ex E w v hz hd.1,b.ok _ _ ey E w u hz hd.2.1,trivial⟩
theorem zlt {f:FuncId} {a:Dec α} {b:Dec β} {c:Dec γ} {r:α->β->γ->R3} (hB:FnB P f) (h:∀ x y z,(∀ p∈(r x y z).1,p)->FnC P f [a.can x,b.can y,c.can z] (r x y z).2.1 (r x y z).2.2):zaf P (ent3 f a b c r):=by
 refine ⟨hB,fun ins mi n out mo hg hn=>?_⟩
 change go3 a b c r ins mi=some (n,out,mo) at hg
 unfold go3 at hg
 split at hg
 case h_2=>simp at hg
 rename_i s t u e
 obtain rfl:=zg3 e
 split at hg
 case h_2=>simp at hg
 rename_i x y z ex ey ez
 simp only [Option.some.injEq] at hg
 have:=h x y z (by rw [hg];exact hn)
 rw [hg] at this
 refine this.pre fun E w vals hz hd=>?_
 match vals,hd with
 | [v1,v2,v3],hd=>exact ⟨a.ok _ _ ex E w v1 hz hd.1,b.ok _ _ ey E w v2 hz hd.2.1,c.ok _ _ ez E w v3 hz hd.2.2.1,trivial⟩
theorem zvJ {f:FuncId} {a:Dec α} {b:Dec β} {c:Dec γ} {d:Dec δ} {r:α->β->γ->δ->R3} (hB:FnB P f) (h:∀ x y z q,(∀ p∈(r x y z q).1,p)->FnC P f [a.can x,b.can y,c.can z,d.can q] (r x y z q).2.1 (r x y z q).2.2):zaf P (ent4 f a b c d r):=by
 refine ⟨hB,fun ins mi n out mo hg hn=>?_⟩
 change go4 a b c d r ins mi=some (n,out,mo) at hg
 unfold go4 at hg
 split at hg
 case h_2=>simp at hg
 rename_i s t u v e
 obtain rfl:=zg3 e
 split at hg
 case h_2=>simp at hg
 rename_i x y z q ex ey ez eq
 simp only [Option.some.injEq] at hg
 have:=h x y z q (by rw [hg];exact hn)
 rw [hg] at this
 refine this.pre fun E w vals hz hd=>?_
 match vals,hd with
 | [v1,v2,v3,v4],hd=>exact ⟨a.ok _ _ ex E w v1 hz hd.1,b.ok _ _ ey E w v2 hz hd.2.1,c.ok _ _ ez E w v3 hz hd.2.2.1,d.ok _ _ eq E w v4 hz hd.2.2.2.1,trivial⟩
end
structure Mem (σ:Type) where
 mi:σ->List BE
 dec:List BE->Option σ
 ok:∀ m x,dec m=some x->m=mi x
section
variable {P : Program} {σ α β γ : Type}
end
theorem fnB {P : Program} {f : FuncId} {fn : Func} (h : P.funcs[f]? = some fn) (h1 : fn.name ≠ "runtime.NumGoroutine") (h2 : fn.body.isSome = true) : FnB P f := ⟨fn, h, h1, h2⟩
theorem zad {P:Program}:∀ e∈([]:List Ent),zaf P e:=fun _ h=>by cases h
theorem zaa {P:Program} {e:Ent} {tab:List Ent} (h:zaf P e) (ht:∀ e∈tab,zaf P e):∀ x∈e::tab,zaf P x:=by
 intro x hx
 rcases List.mem_cons.1 hx with rfl | hx
 ·exact h
 ·exact ht x hx
theorem zak {tab:List Ent} (h:∀ e∈tab,zaf Tryz.prog e) (kd:TypeId->Option RL):World.Fits Tryz.prog ⟨kd,orcT tab,fun _ _ _=>none⟩ (znC Tryz.prog):=⟨by kernel_rfl,zvk h kd _,zsC tab kd _,zsJ _,zpy _⟩
end Go.Proofs.YtkhphiahindnnaaGreat
namespace Go.Proofs.YtkhphiahindnnaaGreat
open Go.RowKit Go.Shelf
def SeqJ {α:Type} (F:Fence) (n:Nat) (P:Program) (g:Nat) (lb:Array Value) (encs:α->Array Value) (n₀:Nat) (S Sp:List α->Prop) (N:Nat) (w:World):Prop:=
 ∀ (l:Nat) (J Jx:List α->World->Prop) (W:World),Below w.heap.size w W->OwnFrom W.heap.size J->OwnFrom W.heap.size Jx ->
  (∀ pre x W1,J pre W1->pre.length<N->YieldAt F (n-1) P l (encs x) W1 fun e W' =>
   Same (fun b=>W.heap.size<=b) W1 W'/\((e = .returned (.bool true)/\J (pre++[x]) W'/\Below n₀ W1 W')\/(e = .returned (.bool false)/\Jx (pre++[x]) W'))) ->
  J [] W ->
  CallsIn F n P g (#[.func (.yield l) #[] #[]]++lb) W fun e W'=>(∃ v,e = .returned v)/\((∃ xs,S xs/\J xs W')\/(∃ pre,Sp pre/\Jx pre W'))
def JPost {α:Type} (B n₀:Nat) (I:List α->World->Prop) (Ix:Code->List α->World->Prop) (xs:List α) (W:World):Exit->Act->World->Prop
 | .normal,_,W'=>Same (fun b=>B<=b) W W'/\Below n₀ W W'/\I xs W'
 | .ret,_,W'=>Same (fun b=>B<=b) W W'/\Ix .ret xs W'
 | .exit id,_,W'=>Same (fun b=>B<=b) W W'/\Ix (.exit id) xs W'
 | .goto t,_,W'=>Same (fun b=>B<=b) W W'/\Ix (.goto t) xs W'
 | .panic _,_,_=>False
 | .outgrown,_,_=>False
theorem zmo {B l:Nat} (W:World) (o:Obj) (h:l<B):Same (fun b=>B<=b) W (W.putObj l o):=
 Same.of_grown (grownBy_putObj' W l o) (fun b hb e=>by cases e;omega)
theorem zkR {B B':Nat} {W W':World} (h:Same (fun b=>B<=b) W W') (hB:B<=B'):Same (fun b=>B'<=b) W W':=h.mono (fun b hb=>Nat.le_trans hB hb)
theorem Same.keeps {B:Nat} {W W':World} (h:Same (fun b=>B<=b) W W'):KeepsFrom B W W':=⟨h.size,fun k o hk hl _=>(h.block k hk (Array.getElem?_eq_some_iff.1 hl).1).trans hl⟩
theorem zkF {n₀ l:Nat} (W:World) (o o':Obj) (h:n₀<=l) (hl:W.heap[l]? = some o):Below n₀ W (W.putObj l o'):=
 (Below.refl n₀ W).grown (grownBy_putObj' W l o') (by have:=(Array.getElem?_eq_some_iff.1 hl).1;omega) (fun k e=>by cases e;exact h)
theorem zpb {F:Fence} {n:Nat} {P:Program} {α:Type} {g:Operand} {ps:Array Tmp} {assign body:Code} {Q:Exit->Act->World->Prop} {a:Act} {w:World}
  (hro:F.round=none) (h1:1<=n) {gf:Nat} {lb:Array Value} (hg:a.eval g = .func (.func gf) #[] lb) (hFg:F.fn gf) (eg:∀ args w,(callFunc gf args).run P w = .ok (.enter gf args) w)
  {encs:α->Array Value} {n₀:Nat} {S Sp:List α->Prop} {N:Nat} (hseq:SeqJ F (n-1) P gf lb encs n₀ S Sp N w) (hn₀:n₀<=w.heap.size) (hps:∀ x,(encs x).size=ps.size)
  (I:List α->World->Prop) (Ix:Code->List α->World->Prop) (hI:OwnFrom w.heap.size I) (hIx:∀ c,OwnFrom w.heap.size (Ix c)) (h0:I [] w) (a₁:α->Act)
  (hassign:∀ (l:Nat) (x:α) (W:World) (K:Act->World->Prop),K (a₁ x) W ->
   assign.wpIn (F.inRound l) (n-1-1) P (Exit.then K (fun _ _ _=>False)) {tmps:=(ps.zip (encs x)).foldl (fun t (p,v)=>t.setIfInBounds p v) a.tmps,defers:=[]} W)
  (hbody:∀ (l:Nat) (pre:List α) (x:α) (W:World),I pre W->pre.length<N->body.wpIn (F.inRound l) (n-1-1) P (JPost w.heap.size n₀ I Ix (pre++[x]) W) (a₁ x) W)
  (hdone:∀ (D:Nat) (xs:List α) (W:World),w.heap.size<=D->S xs->I xs W->W.heap[D]? = some (.deferred (some []))->Q .normal {a with defers:={target:= .collected D,args:= #[]}::a.defers} W)
  (hstop:∀ (D:Nat) (c:Code) (pre:List α) (W:World),w.heap.size<=D->Sp pre->Ix c pre W->W.heap[D]? = some (.deferred (some []))->c.wpIn F n P Q {a with defers:={target:= .collected D,args:= #[]}::a.defers} W) :
  (Code.rangeFunc g ps assign body).wpIn F n P Q a w:=by
 refine wpIn_rangeFunc fun fn hfn=>?_
 rw [hro]
 -- the loop's record, in each of its states
 let rec':LoopState->Option Code->Loop:=fun st pe=>{state:=st,pending:=pe,fn,tmps:=a.tmps,params:=ps,assign,body,defers:=w.heap.size}
 let L:=w.heap.size+1
 let W1:=(w.alloc (.deferred (some []))).alloc (.loop (rec' .ready none))
 have hL1:W1.heap[L]? = some (.loop (rec' .ready none)):=by
  have:=World.alloc_heap_new (w.alloc (.deferred (some []))) (.loop (rec' .ready none));rwa [World.size_alloc] at this
 have hK1:W1.heap[w.heap.size]? = some (.deferred (some [])):=(Below.heap_alloc _ _ _ (by simp)).trans (World.alloc_heap_new w _)
 have hI1:I [] W1:=hI.alloc _ (hI.alloc _ h0)
 have hsz:W1.heap.size=w.heap.size+2:=by simp [W1]
 have hb1:Below w.heap.size w W1:=((Below.refl _ w).alloc (Nat.le_refl _) _).alloc (by simp) _
 refine ⟨L,[{target:= .collected w.heap.size,args:= #[]}],W1,{target:= .fn (.func gf) lb,args:= #[.func (.yield L) #[] #[]]},W1,gf,#[.func (.yield L) #[] #[]]++lb,W1,run_enterLoop_outer _ _ _ _ _,?_,?_,?_,fun _=>h1,?_⟩
 ·simp only [resolve,hg]
  simp [go_sem]
 ·intro f' hf';simp [Target.leads] at hf';subst hf';exact hFg
 ·simp [invoke,go_sem,eg]
 have carry:∀ {β:Type} {K:β->World->Prop} (o:Obj),OwnFrom w.heap.size K->o.isCells=false->∀ (l:Nat),l<w.heap.size+2->OwnFrom W1.heap.size (fun s W=>K s W/\W.heap[l]? = some o):=by
  intro β K o hK ho l hl s A B row hs hgr hr
  refine ⟨hK s A B row hs.1 hgr fun r e=>⟨by have:=(hr r e).1;omega,(hr r e).2⟩,(hgr.block l (Array.getElem?_eq_some_iff.1 hs.2).1 fun e=>?_).trans hs.2⟩
  have:=(hr l e.symm).1;omega
 have carry2:∀ {β:Type} {K:β->World->Prop} (o o':Obj),OwnFrom w.heap.size K->o.isCells=false->o'.isCells=false->OwnFrom W1.heap.size (fun s W=>K s W/\W.heap[L]? = some o/\W.heap[w.heap.size]? = some o'):=by
  intro β K o o' hK ho ho' s A B row hs hgr hr
  obtain ⟨k1,k2⟩:=carry o hK ho L (by omega) s A B row ⟨hs.1,hs.2.1⟩ hgr hr
  exact ⟨k1,k2,(carry o' hK ho' w.heap.size (by omega) s A B row ⟨hs.1,hs.2.2⟩ hgr hr).2⟩
 refine (hseq L (fun pre W=>I pre W/\W.heap[L]? = some (.loop (rec' .ready none))/\W.heap[w.heap.size]? = some (.deferred (some [])))
  (fun pre W=>∃ c,Ix c pre W/\W.heap[L]? = some (.loop (rec' .done (some c)))/\W.heap[w.heap.size]? = some (.deferred (some []))) W1 hb1 (carry2 _ _ hI rfl rfl)
  (fun s A B row hs hgr hr=>let ⟨c,hc⟩:=hs;⟨c,carry2 _ _ (hIx c) rfl rfl s A B row hc hgr hr⟩) ?_ ⟨hI1,hL1,hK1⟩).mono ?_
 ·-- one round
  rintro pre x W ⟨hi,hl,hk⟩ hlen
  have hlt:L<W.heap.size:=(Array.getElem?_eq_some_iff.1 hl).1
  refine ⟨fn,_,assign,body,run_yield (P:=P) (args:=encs x) hl (hps x),roundIn_of_wpIn hfn (hassign _ x W _ ⟨_,run_beginRound hl rfl,?_⟩)⟩
  have hl2:(W.putObj L (.loop (rec' .busy none))).heap[L]? = some (.loop (rec' .busy none)):=World.putObj_heap_same hlt
  have hk2:(W.putObj L (.loop (rec' .busy none))).heap[w.heap.size]? = some (.deferred (some [])):=(World.putObj_heap_other (by omega)).trans hk
  refine wpIn_mono (hbody _ pre x _ (hI.putObj _ hi (by omega) hl rfl) hlen) ?_
  have fin:∀ (jump:Option Code) (W3:World),Same (fun b=>w.heap.size<=b) (W.putObj L (.loop (rec' .busy none))) W3 ->
    (Instr.endRound L jump).run P W3 = .ok (.bool jump.isNone) (W3.putObj L (.loop (rec' (if jump.isNone then .ready else .done) jump)))/\W3.heap[L]? = some (.loop (rec' .busy none)) /\
    (W3.putObj L (.loop (rec' (if jump.isNone then .ready else .done) jump))).heap[L]? = some (.loop (rec' (if jump.isNone then .ready else .done) jump)) /\
    (W3.putObj L (.loop (rec' (if jump.isNone then .ready else .done) jump))).heap[w.heap.size]? = some (.deferred (some [])) /\
    Same (fun b=>W1.heap.size<=b) W (W3.putObj L (.loop (rec' (if jump.isNone then .ready else .done) jump))):=fun jump W3 hk3=>by
   have hl3:=hk3.keeps.same _ _ (by omega) hl2 rfl
   refine ⟨run_endRound (P:=P) jump hl3,hl3,World.putObj_heap_same (Array.getElem?_eq_some_iff.1 hl3).1,(World.putObj_heap_other (by omega)).trans (hk3.keeps.same _ _ (Nat.le_refl _) hk2 rfl),?_⟩
   exact ((zmo (l:=L) (B:=W1.heap.size) W _ (by omega)).trans (zkR hk3 (by omega))).trans (zmo W3 _ (by omega))
  rintro e a3 W3 hp
  cases e with
  | normal=>
   obtain ⟨hk3,hkp3,hi3⟩:=hp
   obtain ⟨hr,hl3,hl4,hk4,hkk⟩:=fin none W3 hk3
   exact ⟨_,_,hr,hkk,.inl ⟨rfl,⟨hI.putObj _ hi3 (by omega) hl3 rfl,hl4,hk4⟩,((zkF W _ _ (by omega) hl).trans hkp3).trans (zkF W3 _ _ (by omega) hl3)⟩⟩
  | ret=>
   obtain ⟨hk3,hi3⟩:=hp
   obtain ⟨hr,hl3,hl4,hk4,hkk⟩:=fin (some .ret) W3 hk3
   exact ⟨_,_,hr,hkk,.inr ⟨rfl,.ret,(hIx _).putObj _ hi3 (by omega) hl3 rfl,hl4,hk4⟩⟩
  | exit id=>
   obtain ⟨hk3,hi3⟩:=hp
   obtain ⟨hr,hl3,hl4,hk4,hkk⟩:=fin (some (.exit id)) W3 hk3
   exact ⟨_,_,hr,hkk,.inr ⟨rfl,.exit id,(hIx _).putObj _ hi3 (by omega) hl3 rfl,hl4,hk4⟩⟩
  | goto t=>
   obtain ⟨hk3,hi3⟩:=hp
   obtain ⟨hr,hl3,hl4,hk4,hkk⟩:=fin (some (.goto t)) W3 hk3
   exact ⟨_,_,hr,hkk,.inr ⟨rfl,.goto t,(hIx _).putObj _ hi3 (by omega) hl3 rfl,hl4,hk4⟩⟩
  | panic ch=>exact hp.elim
  | outgrown=>exact hp.elim
 ·-- behind the iterator
  rintro e W2 ⟨⟨v,rfl⟩,(⟨xs,hS,hi,hl,hk⟩ | ⟨pre,hSp,c,hi,hl,hk⟩)⟩
  ·exact ⟨none,_,run_endLoop (P:=P) hl (by simp [rec']),hdone _ xs _ (Nat.le_refl _) hS (hI.putObj _ hi (by omega) hl rfl) ((World.putObj_heap_other (by omega)).trans hk)⟩
  ·exact ⟨some c,_,run_endLoop (P:=P) hl (by simp [rec']),hstop _ c pre _ (Nat.le_refl _) hSp ((hIx c).putObj _ hi (by omega) hl rfl) ((World.putObj_heap_other (by omega)).trans hk)⟩
end Go.Proofs.YtkhphiahindnnaaGreat
namespace Go.Proofs.YtkhphiahindnnaaGreat
open Go.RowKit Go.Shelf
attribute [local go_sem] Oper.semAt_some
def dn (len k:Nat):List Nat:=(List.range k).map (fun j=>len-1-j)
theorem zl5 (len k:Nat):dn len (k+1)=dn len k++[len-1-k]:=by simp [dn,List.range_succ]
theorem zmU (len k:Nat):(dn len k).length=k:=by simp [dn]
theorem zoV {F:Fence} (hd:F.depth=none) (k:Nat):F.room k:=fun d h=>by rw [hd] at h;cases h
theorem zj6 {F:Fence} (hd:F.depth=none) {m m':Nat} {P:Program} {l:Nat} {f:FuncId} {tmps:Array Value} {assign body:Code} {w:World} {R:Ending->World->Prop}
  (h:RoundIn F m P l f tmps assign body w R):RoundIn F m' P l f tmps assign body w R:=⟨h.1,fun c cs _=>h.2 c cs (zoV hd _)⟩
def zkt (ev:Nat->Nat->Value) (i:Nat):Array Value:= #[.int .i64 (i:Int),.agg #[ev i 0,ev i 1,ev i 2,ev i 3,ev i 4,ev i 5]]
theorem zr5 (a:Option Addr) (len cap:Nat) (w:World) (n:Nat) :
  CallsIn Fence.wide n Tryz.prog 79 #[.slice a len cap] w fun e w'=>e = .returned (.func (.func 105) #[] #[.pointer (some ⟨w.heap.size,0,none⟩)])/\w.alloc (.cells #[.slice a len cap] 43)=w':=by
 refine callsIn_wide.2 ?_
 go_enter Tryz.func79,Tryz.ntmps79
 go_wp2_with fail
 go_ret
 exact ⟨rfl,rfl⟩
set_option maxRecDepth 100000 in
set_option maxHeartbeats 2000000 in
theorem ztX (n:Nat) (l Bs n₀:Nat) (b off len cap:Nat) (ev:Nat->Nat->Value) (hlen:len<=17592186044416) (hb:b<n₀) (J Jx:List Nat->World->Prop)
  (hY:∀ pre x W,J pre W->pre.length<len->YieldAt Fence.wide (n-1) Tryz.prog l (zkt ev x) W fun e W' =>
   (e = .returned (.bool true)/\J (pre++[x]) W'/\Below n₀ W W')\/(e = .returned (.bool false)/\Jx (pre++[x]) W'))
  (W:World) (hBs:∀ wr pre,J pre wr->wr.cell? ⟨Bs,0,none⟩=some (.slice (some ⟨b,off,none⟩) len cap)) (hc:∀ i j,i<len->j<6->W.cell? ⟨b,off+i*6+j,none⟩=some (ev i j)) (h0:J [] W) (hn:1<=n) :
  CallsIn Fence.wide n Tryz.prog 105 #[.func (.yield l) #[] #[],.pointer (some ⟨Bs,0,none⟩)] W fun e W'=>(∃ v,e = .returned v) /\
   ((∃ ys,ys=dn len len/\J ys W')\/(∃ pre,(∃ k,k<=len/\pre=dn len k)/\Jx pre W')):=by
 refine callsIn_of_wp Tryz.func105 rfl trivial ?_ rfl
 simp only [Tryz.ntmps105,List.size_toArray,List.length_cons,List.length_nil,Nat.reduceAdd,Nat.reduceSub,Array.replicate_succ,Array.replicate_zero,List.push_toArray,List.append_toArray,List.nil_append,List.cons_append]
 have hBs0:=hBs W [] h0
 gi_wp2
 gi_loopw [3] (fun i wr=>∃ k m:Nat,k+m=len/\i = .int .i64 ((m:Int)-1)/\J (dn len k) wr/\Below n₀ W wr) (fun i _=>(intOf i+1).toNat)
 case atStart=>exact ⟨0,len,by omega,by simp,h0,Below.refl _ _⟩
 case round=>
  obtain ⟨k,m,hkm,e,hJs,hnx⟩:=hrel
  have HKM:=Lib.hid hkm
  cases m with
  | zero=>
   obtain rfl:k=len:=by omega
   obtain rfl:=e
   clear hkm
   gi_wp2
   go_end0
   exact ⟨⟨_,rfl⟩,.inl ⟨_,rfl,hJs⟩⟩
  | succ m=>
   have e2:(((m+1:Nat):Int)-1)=(m:Int):=by omega
   rw [e2] at e
   obtain rfl:=e
   clear hkm e2
   have hm:m<len:=by have:=HKM.out;omega
   have m1:(m:Int)<len:=by omega
   have hbs:=hBs wr _ hJs
   have hcc:∀ j,j<6->wr.cell? ⟨b,off+m*6+j,none⟩=some (ev m j):=fun j hj=>(hnx.cell (p:=⟨b,off+m*6+j,none⟩) hb).trans (hc m j hm hj)
   have k0:wr.cell? ⟨b,off+m*6,none⟩=some (ev m 0):=hcc 0 (by omega)
   have k1:=hcc 1 (by omega)
   have k2:=hcc 2 (by omega)
   have k3:=hcc 3 (by omega)
   have k4:=hcc 4 (by omega)
   have k5:=hcc 5 (by omega)
   clear hcc
   obtain ⟨fn,tmps,assign,body,hy,hR⟩:=hY _ m wr hJs (by rw [zmU];have:=HKM.out;omega)
   unfold zkt at hy
   gi_wp2
   refine hR.mono ?_
   rintro e W3 (⟨rfl,hJ3,hk3⟩ | ⟨rfl,hJx3⟩)
   ·gi_wp2
    go_roundw
    case rel=>exact ⟨k+1,m,by have:=HKM.out;omega,by simp,by rw [zl5,show len-1-k=m by have:=HKM.out;omega];exact hJ3,hnx.trans hk3⟩
    case measure=>simp [intOf]
   ·gi_wp2
    refine bodyPost_ret (results_none rfl _ _ _) rfl ?_
    exact ⟨⟨_,rfl⟩,.inr ⟨_,⟨k+1,by have:=HKM.out;omega,by rw [zl5,show len-1-k=m by have:=HKM.out;omega]⟩,hJx3⟩⟩
set_option maxRecDepth 100000 in
set_option maxHeartbeats 1000000 in
theorem zkG (n:Nat) (l Bs:Nat) (a:Option Addr) (cap:Nat) (J:List Nat->World->Prop) (W:World) (hBs:W.cell? ⟨Bs,0,none⟩=some (.slice a 0 cap)) (h0:J [] W) :
  CallsIn Fence.wide n Tryz.prog 105 #[.func (.yield l) #[] #[],.pointer (some ⟨Bs,0,none⟩)] W fun e W'=>(∃ v,e = .returned v)/\J [] W':=by
 refine callsIn_of_wp Tryz.func105 rfl trivial ?_ rfl
 simp only [Tryz.ntmps105,List.size_toArray,List.length_cons,List.length_nil,Nat.reduceAdd,Nat.reduceSub,Array.replicate_succ,Array.replicate_zero,List.push_toArray,List.append_toArray,List.nil_append,List.cons_append]
 gi_wp2
 gi_loopw [3] (fun i wr=>i = .int .i64 (-1)/\J [] wr) (fun _ _=>0)
 case atStart=>exact ⟨rfl,h0⟩
 case round=>
  obtain ⟨rfl,hJs⟩:=hrel
  gi_wp2
  go_end0
  exact ⟨⟨_,rfl⟩,hJs⟩
def KpB (n₀ Bs:Nat) (v:Value) (W W':World):Prop:=Below n₀ W W'/\(W.cell? ⟨Bs,0,none⟩=some v->W'.cell? ⟨Bs,0,none⟩=some v)
theorem KpB.t {n₀ Bs:Nat} {v:Value} {A B C:World} (h:KpB n₀ Bs v A B) (k:KpB n₀ Bs v B C):KpB n₀ Bs v A C:=⟨h.1.trans k.1,fun x=>k.2 (h.2 x)⟩
theorem KpB.b {n₀ Bs:Nat} {v:Value} {w:World} (hn:n₀<=w.heap.size) (W:World) (l:Nat) (o o':Obj) (hl:w.heap.size<=l) (h:W.heap[l]? = some o) (ho:o.isCells=false) (hw:o.isWalk=false):KpB n₀ Bs v W (W.putObj l o'):=by
 refine ⟨belowK_b hn W l o o' hl h ho hw,fun hc=>?_⟩
 exact cell_kept hc (grownBy_putObj' W l o') (fun r e=>by cases e;exact ⟨o,h,ho⟩)
theorem zhZ (n Bs n₀:Nat) (a:Option Addr) (len cap:Nat) (ev:Nat->Nat->Value) (hlen:len<=17592186044416) (w:World) (hB:Bs<w.heap.size) (hn₀:n₀<=w.heap.size) (hn:1<=n)
  (hBs:w.cell? ⟨Bs,0,none⟩=some (.slice a len cap)) (hc:0<len->∃ b off,a=some ⟨b,off,none⟩/\b<n₀/\∀ i j,i<len->j<6->w.cell? ⟨b,off+i*6+j,none⟩=some (ev i j)) :
  SeqStopsK Fence.wide n Tryz.prog 105 #[.pointer (some ⟨Bs,0,none⟩)] (zkt ev) (KpB n₀ Bs (.slice a len cap)) (fun ys=>ys=dn len len) (fun pre=>∃ k,k<=len/\pre=dn len k) len w:=fun l J Jx W hW _ _ hY h0=>by
 have hc':=(hW.cell (p:=⟨Bs,0,none⟩) hB).trans hBs
 by_cases h:0<len
 ·obtain ⟨b,off,rfl,hb,hcs⟩:=hc h
  refine (ztX n l Bs n₀ b off len cap ev hlen hb (fun pre W=>J pre W/\W.cell? ⟨Bs,0,none⟩=some (.slice (some ⟨b,off,none⟩) len cap)) Jx ?_ W (fun _ _ h=>h.2) (fun i j hi hj=>(hW.cell (p:=⟨b,off+i*6+j,none⟩) (by show b<_;omega)).trans (hcs i j hi hj)) ⟨h0,hc'⟩ hn).mono ?_
  ·rintro pre x W1 ⟨hj,hx⟩ hl
   refine YieldAt.mono (hY pre x W1 hj hl) ?_
   rintro e W' (⟨rfl,h1,h2⟩ | ⟨rfl,h1⟩)
   ·exact .inl ⟨rfl,⟨h1,h2.2 hx⟩,h2.1⟩
   ·exact .inr ⟨rfl,h1⟩
  ·rintro e W' ⟨he,⟨ys,rfl,hj⟩ | ⟨pre,hp,hj⟩⟩
   ·exact ⟨he,.inl ⟨_,rfl,hj.1⟩⟩
   ·exact ⟨he,.inr ⟨_,hp,hj⟩⟩
 ·obtain rfl:len=0:=by omega
  exact (zkG n l Bs a cap J W hc' h0).mono fun e W' ⟨he,hj⟩=>⟨he,.inl ⟨_,rfl,hj⟩⟩
end Go.Proofs.YtkhphiahindnnaaGreat
namespace Go.Proofs.YtkhphiahindnnaaGreat
open Go.RowKit Go.ChangeShapes Go.WideShapes Go.Deep
def IPost (w:World) (n:Int) (e:Ending) (w':World):Prop:=e = .returned (.int .i64 n)/\Below w.heap.size w w'
def zxR (w:World) (b:Bool) (e:Ending) (w':World):Prop:=e = .returned (.bool b)/\Below w.heap.size w w'
def zrD (w:World) (m n:Int) (e:Ending) (w':World):Prop:=e = .returned (.tuple #[.int .i64 m,.int .i64 n])/\Below w.heap.size w w'
def Kept.en (k:Kept) (i:Nat):Entry:=k.entries.getD i default
def okAt (k:Kept) (i:Nat):Prop:=1<=(k.en i).index/\(k.en i).index-1-i=k.snap.index
def onP (k:Kept):Prop:=0<=k.snap.index/\k.entries.length<=10000/\∀ i,i<k.entries.length->okAt k i
noncomputable def onB (k:Kept):Bool:= @decide (onP k) (Classical.propDecidable _)
theorem onB_iff {k:Kept}:onB k=true↔onP k:=by simp [onB]
theorem onB_no {k:Kept}:onB k=false↔¬ onP k:=by simp [onB]
def err (b:Bool):Int:=if b then 0 else 1
theorem zvG:err true=0:=rfl
theorem zvI:err false=1:=rfl
set_option maxHeartbeats 1000000 in
theorem zfc (vs:List Value) (k:Kept) (w:World) (S:Nat->Prop) (h:RdL w S Kept.ty vs k.enc) :
  Calls Tryz.prog 56 #[.agg vs.toArray] w (IPost w (err (onB k))):=by
 obtain ⟨a4,c4,a5,c5,a7,c7,rfl,b0,b1,b2,b3,s4,s5,b6,s7⟩:=Kept.opens h
 obtain ⟨n1,n2,n3,n4⟩:=s7.bd
 obtain ⟨m1,m2⟩:=b2
 have H7:=Lib.hid s7
 have N4:=Lib.hid n4
 clear h s4 s5 s7 n4
 by_cases c1:k.snap.index<0
 ·have HN:=Lib.hid (show onB k=false from onB_no.2 fun h=>by have:=h.1;omega)
  go_enter Tryz.func56,Tryz.ntmps56
  go_wp2_with fail
  go_ret
  exact ⟨by rw [HN.out];rfl,(Below.refl _ _).alloc (Nat.le_refl _) _⟩
 by_cases c2:(10000:Int)<k.entries.length
 ·have HN:=Lib.hid (show onB k=false from onB_no.2 fun h=>by have:=h.2.1;omega)
  go_enter Tryz.func56,Tryz.ntmps56
  go_wp2_with fail
  go_ret
  exact ⟨by rw [HN.out];rfl,(Below.refl _ _).alloc (Nat.le_refl _) _⟩
 go_enter Tryz.func56,Tryz.ntmps56
 go_wp2_with fail
 obtain ⟨w1,hw1⟩:∃ w1:World,w1=w.alloc (.cells #[.int .i64 k.term,.int .i64 k.vote,.int .i64 k.snap.index,.int .i64 k.snap.term,.slice a4 (k.snap.config.voters).length c4,.slice a5 (k.snap.config.learners).length c5,.string k.snap.data,.slice a7 (k.entries).length c7] 45):=⟨_,rfl⟩
 have HW:=Lib.hid hw1
 have B0:Below w.heap.size w w1:=by rw [hw1];exact (Below.refl _ _).alloc (Nat.le_refl _) _
 have z1:w.heap.size+1=w1.heap.size:=by rw [hw1];simp
 have hc1:Blk w1 w.heap.size 45 #[.int .i64 k.term,.int .i64 k.vote,.int .i64 k.snap.index,.int .i64 k.snap.term,.slice a4 (k.snap.config.voters).length c4,.slice a5 (k.snap.config.learners).length c5,.string k.snap.data,.slice a7 (k.entries).length c7]:=by rw [hw1];exact Blk.new _ _ _
 rw [<- hw1]
 have Z1:=Lib.hid z1
 have C1:=Lib.hid hc1
 have BB0:=Lib.hid B0
 clear hw1 hc1 z1 B0
 go_loopw [18] (fun i wr=>∃ j:Nat,j<=k.entries.length/\i = .int .i64 j/\(∀ i,i<j->okAt k i)/\Below w1.heap.size w1 wr) (fun i _=>k.entries.length-(intOf i).toNat)
 case atStart=>exact ⟨0,Nat.zero_le _,rfl,fun i h=>absurd h (by omega),Below.refl _ _⟩
 case round=>
  obtain ⟨j,hj,rfl,hq,B1⟩:=hrel
  have HQ:=Lib.hid hq
  have BB1:=Lib.hid B1
  have H71:=Lib.hid ((H7.out.same (Same.below BB0.out)).same (Same.below B1))
  have HB:=Lib.hid (C1.out.below B1 (by rw [<- Z1.out];omega))
  have hcb:wr.cell? ⟨w.heap.size,2,none⟩=some (.int .i64 k.snap.index):=HB.out.cell 2
  have hcb7:wr.cell? ⟨w.heap.size,7,none⟩=some (.slice a7 k.entries.length c7):=HB.out.cell 7
  clear hq B1
  by_cases hlt:j<k.entries.length
  ·obtain ⟨b,off,rfl⟩:=H71.out.addr (by omega)
   obtain ⟨hS,hb,a3e,c3e,a4e,c4e,e0,e1,e2,e3,e4,e5,f0,f1,f2,f3,f4,f5⟩:=Entry.row H71.out hlt
   clear f3 f4 N4
   have HJ:=Lib.hid (show k.en j=k.entries.getD j default from rfl)
   generalize k.entries.getD j default=e at *
   obtain ⟨g1,g2⟩:=f0
   have j0:(0:Int)<=(j:Int):=by omega
   have j1:(j:Int)<(k.entries.length:Int):=by omega
   have z2:w.heap.size<wr.heap.size:=by have:=BB1.out.size;have:=Z1.out;omega
   have B2:=Lib.hid (BB0.out.trans ((BB1.out.mono (by have:=Z1.out;omega)).alloc (show w.heap.size<=wr.heap.size by omega) (.cells #[.int .i64 e.index,.int .i64 e.term,.int .i64 e.kind,.slice a3e (e.config.voters).length c3e,.slice a4e (e.config.learners).length c4e,.string e.data] 71)))
   by_cases q1:e.index<1
   ·have HN:=Lib.hid (show onB k=false from onB_no.2 fun h=>by have:=(h.2.2 j hlt).1;rw [HJ.out] at this;omega)
    go_wp2_with fail
    go_ret
    exact ⟨by rw [HN.out];rfl,B2.out⟩
   by_cases q2:e.index-1-j=k.snap.index
   ·have q3:((e.index-1-(j:Int)) != k.snap.index)=false:=by simp [q2]
    have Q2:=Lib.hid q2
    clear q2
    go_wp2_with fail
    go_roundw
    case rel=>
     refine ⟨j+1,by omega,by go_num,fun i hi=>?_,BB1.out.alloc BB1.out.size _⟩
     by_cases h:i=j
     ·subst h;unfold okAt;rw [HJ.out];exact ⟨by omega,Q2.out⟩
     ·exact HQ.out i (by omega)
    case measure=>simp [intOf];omega
   ·have q3:((e.index-1-(j:Int)) != k.snap.index)=true:=by simp [q2]
    have HN:=Lib.hid (show onB k=false from onB_no.2 fun h=>by have:=(h.2.2 j hlt).2;rw [HJ.out] at this;omega)
    clear q2
    go_wp2_with fail
    go_ret
    exact ⟨by rw [HN.out];rfl,B2.out⟩
  ·have hjn:j=k.entries.length:=by omega
   have HN:=Lib.hid (show onB k=true from onB_iff.2 ⟨by omega,by omega,fun i hi=>HQ.out i (by omega)⟩)
   have B2:=Lib.hid (BB0.out.trans (BB1.out.mono (by have:=Z1.out;omega)))
   have j1:¬ (j:Int)<(k.entries.length:Int):=by omega
   clear hjn
   go_wp2_with fail
   go_ret
   exact ⟨by rw [HN.out];rfl,B2.out⟩
set_option maxHeartbeats 1000000 in
theorem zui (vs:List Value) (k:Kept) (w:World) (S:Nat->Prop) (h:RdL w S Kept.ty vs k.enc) :
  Calls Tryz.prog 52 #[.agg vs.toArray] w (zxR w (onB k)):=by
 obtain ⟨a4,c4,a5,c5,a7,c7,rfl,b0,b1,b2,b3,s4,s5,b6,s7⟩:=Kept.opens h
 obtain ⟨n1,n2,n3,n4⟩:=s7.bd
 obtain ⟨m1,m2⟩:=b2
 have H7:=Lib.hid s7
 have N4:=Lib.hid n4
 clear h s4 s5 s7 n4
 by_cases c1:k.snap.index<0
 ·have HN:=Lib.hid (show onB k=false from onB_no.2 fun h=>by have:=h.1;omega)
  go_enter Tryz.func52,Tryz.ntmps52
  go_wp2_with fail
  go_ret
  exact ⟨by rw [HN.out];rfl,(Below.refl _ _).alloc (Nat.le_refl _) _⟩
 by_cases c2:(10000:Int)<k.entries.length
 ·have HN:=Lib.hid (show onB k=false from onB_no.2 fun h=>by have:=h.2.1;omega)
  go_enter Tryz.func52,Tryz.ntmps52
  go_wp2_with fail
  go_ret
  exact ⟨by rw [HN.out];rfl,(Below.refl _ _).alloc (Nat.le_refl _) _⟩
 go_enter Tryz.func52,Tryz.ntmps52
 go_wp2_with fail
 obtain ⟨w1,hw1⟩:∃ w1:World,w1=w.alloc (.cells #[.int .i64 k.term,.int .i64 k.vote,.int .i64 k.snap.index,.int .i64 k.snap.term,.slice a4 (k.snap.config.voters).length c4,.slice a5 (k.snap.config.learners).length c5,.string k.snap.data,.slice a7 (k.entries).length c7] 45):=⟨_,rfl⟩
 have HW:=Lib.hid hw1
 have B0:Below w.heap.size w w1:=by rw [hw1];exact (Below.refl _ _).alloc (Nat.le_refl _) _
 have z1:w.heap.size+1=w1.heap.size:=by rw [hw1];simp
 have hc1:Blk w1 w.heap.size 45 #[.int .i64 k.term,.int .i64 k.vote,.int .i64 k.snap.index,.int .i64 k.snap.term,.slice a4 (k.snap.config.voters).length c4,.slice a5 (k.snap.config.learners).length c5,.string k.snap.data,.slice a7 (k.entries).length c7]:=by rw [hw1];exact Blk.new _ _ _
 rw [<- hw1]
 have Z1:=Lib.hid z1
 have C1:=Lib.hid hc1
 have BB0:=Lib.hid B0
 clear hw1 hc1 z1 B0
 go_loopw [3] (fun i wr=>∃ j:Nat,j<=k.entries.length/\i = .int .i64 j/\(∀ i,i<j->okAt k i)/\Below w1.heap.size w1 wr) (fun i _=>k.entries.length-(intOf i).toNat)
 case atStart=>exact ⟨0,Nat.zero_le _,rfl,fun i h=>absurd h (by omega),Below.refl _ _⟩
 case round=>
  obtain ⟨j,hj,rfl,hq,B1⟩:=hrel
  have HQ:=Lib.hid hq
  have BB1:=Lib.hid B1
  have H71:=Lib.hid ((H7.out.same (Same.below BB0.out)).same (Same.below B1))
  have HB:=Lib.hid (C1.out.below B1 (by rw [<- Z1.out];omega))
  have hcb:wr.cell? ⟨w.heap.size,2,none⟩=some (.int .i64 k.snap.index):=HB.out.cell 2
  have hcb7:wr.cell? ⟨w.heap.size,7,none⟩=some (.slice a7 k.entries.length c7):=HB.out.cell 7
  clear hq B1
  by_cases hlt:j<k.entries.length
  ·obtain ⟨b,off,rfl⟩:=H71.out.addr (by omega)
   obtain ⟨hS,hb,a3e,c3e,a4e,c4e,e0,e1,e2,e3,e4,e5,f0,f1,f2,f3,f4,f5⟩:=Entry.row H71.out hlt
   clear f3 f4 N4
   have HJ:=Lib.hid (show k.en j=k.entries.getD j default from rfl)
   generalize k.entries.getD j default=e at *
   obtain ⟨g1,g2⟩:=f0
   have j0:(0:Int)<=(j:Int):=by omega
   have j1:(j:Int)<(k.entries.length:Int):=by omega
   have B2:=Lib.hid (BB0.out.trans (BB1.out.mono (by have:=Z1.out;omega)))
   by_cases q1:e.index<1
   ·have HN:=Lib.hid (show onB k=false from onB_no.2 fun h=>by have:=(h.2.2 j hlt).1;rw [HJ.out] at this;omega)
    have q0:decide (e.index<1)=true:=by simpa using q1
    go_wp2_with fail
    go_quiet (fail)
    go_wp2_with fail
    go_ret
    exact ⟨by rw [HN.out];rfl,zc4 B2.out _⟩
   have q0:decide (e.index<1)=false:=by simpa using q1
   by_cases q2:e.index-1-j=k.snap.index
   ·have q3:((e.index-1-(j:Int)) != k.snap.index)=false:=by simp [q2]
    have Q2:=Lib.hid q2
    clear q2
    go_wp2_with fail
    go_quiet (fail)
    go_wp2_with fail
    go_roundw
    case rel=>
     refine ⟨j+1,by omega,by go_num,fun i hi=>?_,zc4 BB1.out _⟩
     by_cases h:i=j
     ·subst h;unfold okAt;rw [HJ.out];exact ⟨by omega,Q2.out⟩
     ·exact HQ.out i (by omega)
    case measure=>simp [intOf];omega
   ·have q3:((e.index-1-(j:Int)) != k.snap.index)=true:=by simp [q2]
    have HN:=Lib.hid (show onB k=false from onB_no.2 fun h=>by have:=(h.2.2 j hlt).2;rw [HJ.out] at this;omega)
    clear q2
    go_wp2_with fail
    go_quiet (fail)
    go_wp2_with fail
    go_ret
    exact ⟨by rw [HN.out];rfl,zc4 B2.out _⟩
  ·have hjn:j=k.entries.length:=by omega
   have HN:=Lib.hid (show onB k=true from onB_iff.2 ⟨by omega,by omega,fun i hi=>HQ.out i (by omega)⟩)
   have B2:=Lib.hid (BB0.out.trans (BB1.out.mono (by have:=Z1.out;omega)))
   have j1:¬ (j:Int)<(k.entries.length:Int):=by omega
   clear hjn
   go_wp2_with fail
   go_ret
   exact ⟨by rw [HN.out];rfl,B2.out⟩
end Go.Proofs.YtkhphiahindnnaaGreat
namespace Go.Proofs.YtkhphiahindnnaaGreat
open Go.RowKit Go.Shelf
attribute [local go_sem] Oper.semAt_some
def zgu (p:Int×Int):Array Value:= #[.int .i64 p.1,.int .i64 p.2]
def entP (k:Kept) (i:Nat):Int×Int:=((k.en i).index,(k.en i).term)
def zin (k:Kept):Int×Int:=(k.snap.index,k.snap.term)
def bwL (k:Kept):List (Int×Int):=(dn k.entries.length k.entries.length).map (entP k)++[zin k]
theorem zh2 {β:Type} {B B':Nat} {I:β->World->Prop} (h:OwnFrom B I) (hB:B<=B'):OwnFrom B' I:=fun s A C row hs hg hr=>h s A C row hs hg fun r e=>⟨Nat.le_trans hB (hr r e).1,(hr r e).2⟩
theorem zgw {β γ:Type} {B:Nat} {I:γ->World->Prop} (h:OwnFrom B I) (f:β->γ):OwnFrom B (fun s W=>I (f s) W):=fun s A C row hs hg hr=>h (f s) A C row hs hg hr
theorem zaz {β:Type} {B g:Nat} {t:TypeId} {cs:Array Value}:OwnFrom B (fun (_:β) W=>Blk W g t cs):=fun s A C row hs hg hr=>by
 refine (hg.block g hs.lt fun e=>?_).trans hs
 obtain ⟨_,o,ho,hc⟩:=hr g e.symm
 have:A.heap[g]? = some (.cells cs t (0,0)):=hs
 rw [this] at ho
 cases ho
 simp [Obj.isCells] at hc
def EvOk (e:Entry) (f:Nat->Value):Prop:=∃ a3 c3 a4 c4,f 0 = .int .i64 e.index/\f 1 = .int .i64 e.term/\f 2 = .int .i64 e.kind/\f 3 = .slice a3 e.config.voters.length c3/\f 4 = .slice a4 e.config.learners.length c4/\f 5 = .string e.data
theorem ztj {w:World} {S:Nat->Prop} {a:Option Addr} {c:Nat} {k:Kept} (h:Sl w S Entry.ty a k.entries.length c (k.entries.map Entry.enc)) :
  ∃ ev:Nat->Nat->Value,(∀ x,EvOk (k.en x) (ev x)) /\
   (0<k.entries.length->∃ b off,a=some ⟨b,off,none⟩/\b<w.heap.size/\∀ i j,i<k.entries.length->j<6->w.cell? ⟨b,off+i*6+j,none⟩=some (ev i j)):=by
 have el:∀ x,∃ f:Nat->Value,EvOk (k.en x) f:=fun x=>
  ⟨fun j=>match j with | 0=> .int .i64 (k.en x).index | 1=> .int .i64 (k.en x).term | 2=> .int .i64 (k.en x).kind | 3=> .slice none (k.en x).config.voters.length 0 | 4=> .slice none (k.en x).config.learners.length 0 | _=> .string (k.en x).data,
   none,0,none,0,rfl,rfl,rfl,rfl,rfl,rfl⟩
 by_cases hp:0<k.entries.length
 ·obtain ⟨b,off,e,_,hb,vals,hc,hr⟩:=h.rowAt hp
  refine ⟨fun i=>if i<k.entries.length then vals i else Classical.choose (el i),fun x=>?_,fun _=>⟨b,off,e,hb,fun i j hi hj=>?_⟩⟩
  ·by_cases hx:x<k.entries.length
   ·obtain ⟨h1,h2⟩:=hr x hx
    have he:(k.entries.map Entry.enc).getD x []=(k.en x).enc:=by simp [Kept.en,List.getD,hx]
    rw [he] at h2
    simp only [if_pos hx]
    obtain ⟨a3,c3,q3,_⟩:=Rd.sl' (h2 3 (by decide))
    obtain ⟨a4,c4,q4,_⟩:=Rd.sl' (h2 4 (by decide))
    rw [zap] at q3 q4
    exact ⟨a3,c3,a4,c4,(Rd.i64 (h2 0 (by decide))).1,(Rd.i64 (h2 1 (by decide))).1,(Rd.i64 (h2 2 (by decide))).1,q3,q4,(Rd.str' (h2 5 (by decide))).1⟩
   ·simp only [if_neg hx]
    exact Classical.choose_spec (el x)
  ·show _=some ((if i<k.entries.length then vals i else _) j)
   rw [if_pos hi]
   exact hc i j hi hj
 ·exact ⟨fun i=>Classical.choose (el i),fun x=>Classical.choose_spec (el x),fun h=>absurd h hp⟩
set_option maxRecDepth 100000 in
set_option maxHeartbeats 4000000 in
theorem znf (n Bk:Nat) (k:Kept) (w:World) (S:Nat->Prop) (a4 a5 a7:Option Addr) (c4 c5 c7:Nat) (hbk:Blk w Bk 45 #[.int .i64 k.term,.int .i64 k.vote,.int .i64 k.snap.index,.int .i64 k.snap.term,.slice a4 (k.snap.config.voters).length c4,.slice a5 (k.snap.config.learners).length c5,.string k.snap.data,.slice a7 (k.entries).length c7]) (hs:Sl w S Entry.ty a7 k.entries.length c7 (k.entries.map Entry.enc)) (hn:9<=n) :
  SeqJ Fence.wide n Tryz.prog 109 #[.pointer (some ⟨Bk,0,none⟩)] zgu w.heap.size (fun ys=>ys=bwL k) (fun pre=>∃ j,j<=(bwL k).length/\pre=(bwL k).take j) (k.entries.length+1) w:=by
 intro l J Jx W hW hJ hJx hY h0
 have hbk1:=hbk.below hW hbk.lt
 have zb:Bk<W.heap.size:=hbk1.lt
 have zw:Bk<w.heap.size:=hbk.lt
 have ck:W.cell? ⟨Bk,7,none⟩=some (.slice a7 k.entries.length c7):=hbk1.cell 7
 have cs1:W.cell? ⟨Bk,2,none⟩=some (.int .i64 k.snap.index):=hbk1.cell 2
 have cs2:W.cell? ⟨Bk,3,none⟩=some (.int .i64 k.snap.term):=hbk1.cell 3
 have HS:=Lib.hid (hs.same (Same.below hW))
 have HBK:=Lib.hid hbk1
 have hlen:=hs.bd.2.2.1
 have HW:=Lib.hid hs
 clear hbk hs hbk1
 refine callsIn_of_wp_marks Tryz.func109 rfl trivial ?_ rfl
 simp only [Tryz.ntmps109,List.size_toArray,List.length_cons,List.length_nil,Nat.reduceAdd,Nat.reduceSub,Array.replicate_succ,Array.replicate_zero,List.push_toArray,List.append_toArray,List.nil_append,List.cons_append]
 gi_wp2_with fail
 refine ⟨trivial,fun _=>by omega,?_⟩
 refine (zr5 _ _ _ _ _).mono ?_
 rintro e w' ⟨rfl,rfl⟩
 gi_wp2_with fail
 obtain ⟨ev,hev,hcells⟩:=ztj HS.out
 obtain ⟨W0,hW0⟩:∃ W0,(W.alloc (.cells #[.func (.yield l) #[] #[]] 172)).alloc (.cells #[.slice a7 k.entries.length c7] 43)=W0:=⟨_,rfl⟩
 have hsz:W0.heap.size=W.heap.size+2:=by rw [<- hW0];simp
 have hB0:Below W.heap.size W W0:=by rw [<- hW0];exact ((Below.refl _ W).alloc (Nat.le_refl _) _).alloc (by simp) _
 have hyb:Blk W0 W.heap.size 172 #[.func (.yield l) #[] #[]]:=by rw [<- hW0];exact (Blk.new W _ _).below (B:=(W.alloc (.cells #[.func (.yield l) #[] #[]] 172)).heap.size) ((Below.refl _ _).alloc (Nat.le_refl _) _) (by simp)
 have hsb:W0.cell? ⟨W.heap.size+1,0,none⟩=some (.slice a7 k.entries.length c7):=by
  rw [<- hW0,World.cell?_alloc_at _ _ _ _ (by simp)];rfl
 have hJ0:J [] W0:=by rw [<- hW0];exact hJ.alloc _ (hJ.alloc _ h0)
 rw [hW0]
 clear hW0
 refine wpIn_rangeFunc_ownH rfl (by omega) (gf:=105) (lb:= #[.pointer (some ⟨W.heap.size+1,0,none⟩)]) rfl trivial (enters_of Tryz.func105 (by kernel_rfl) rfl)
  (zhZ (n-1) (W.heap.size+1) w.heap.size a7 k.entries.length c7 ev hlen W0 (by omega) (by have:=hW.size;omega) (by omega) hsb ?hcc) KpB.t (KpB.b (by have:=hW.size;omega)) (Below.refl _ _) (fun _=>rfl)
  (fun pre Wi=>J (pre.map (entP k)) Wi/\Blk Wi W.heap.size 172 #[.func (.yield l) #[] #[]]/\Below w.heap.size W Wi)
  (fun c pre Wi=>c = .ret/\Jx (pre.map (entP k)) Wi)
  (OwnFrom.and (zgw (zh2 hJ (by omega)) _) (OwnFrom.and zaz (ownFrom_below hW.size (by have:=hW.size;omega))))
  (fun c=>OwnFrom.and (ownFrom_pure _ _) (zgw (zh2 hJx (by omega)) _))
  ⟨hJ0,hyb,hB0.mono hW.size⟩
  (fun x a' Wi=>∃ Bx,Blk Wi Bx 71 #[ev x 0,ev x 1,ev x 2,ev x 3,ev x 4,ev x 5]/\a'={tmps:= #[.func (.yield l) #[] #[],.pointer (some ⟨Bk,0,none⟩),.pointer (some ⟨W.heap.size,0,none⟩),undef,.pointer (some ⟨Bx,0,none⟩),.pointer (some ⟨Bk,7,none⟩),.slice a7 k.entries.length c7,.func (.func 105) #[] #[.pointer (some ⟨W.heap.size+1,0,none⟩)],.int .i64 (x:Int),.agg #[ev x 0,ev x 1,ev x 2,ev x 3,ev x 4,ev x 5],undef,undef,undef,undef,undef,undef,undef,undef,undef,undef,undef,undef,undef,undef,undef],defers:=[]})
  (fun x a' s A C row hs hg hr=>by obtain ⟨Bx,h2,h3⟩:=hs;exact ⟨Bx,zaz (β:=Unit) () A C row h2 hg hr,h3⟩)
  ?assign ?body ?done ?stop
 case hcc=>
  intro hp
  obtain ⟨b,off,e,hb,hc⟩:=hcells hp
  have hb':b<w.heap.size:=by
   obtain ⟨b',off',e',_,h',_⟩:=HW.out.rowAt hp
   rw [e] at e';cases e';exact h'
  exact ⟨b,off,e,hb',fun i j hi hj=>(hB0.cell (p:=⟨b,off+i*6+j,none⟩) hb).trans (hc i j hi hj)⟩
 case assign=>
  rintro l2 pre x Wi K ⟨hj,hy,hB⟩ hK
  obtain ⟨a3,c3,a4,c4,e0,e1,e2,e3,e4,e5⟩:=hev x
  unfold zkt
  rw [e0,e1,e2,e3,e4,e5] at hK ⊢
  gi_wp2
  exact hK _ _ ((KeepsOthers.alloc _ _).from _) ⟨(Below.refl _ Wi).alloc (Nat.le_trans hW.size hB.size) _,fun hc=>(World.cell?_alloc_lt Wi _ _ (World.block_lt_of_cell? _ _ hc)).trans hc⟩ ⟨hJ.alloc _ hj,hy.below ((Below.refl _ Wi).alloc (Nat.le_refl _) _) hy.lt,hB.alloc (Nat.le_trans hW.size hB.size) _⟩ ⟨Wi.heap.size,Blk.new Wi _ _,rfl⟩
 case body=>
  rintro l2 pre x a' Wi hl2 ⟨r,hr⟩ ⟨hj,hy,hB⟩ ⟨Bx,hbx,rfl⟩ hlt
  obtain ⟨a3,c3,a4,c4,e0,e1,e2,e3,e4,e5⟩:=hev x
  have cy:Wi.cell? ⟨W.heap.size,0,none⟩=some (.func (.yield l) #[] #[]):=hy.cell 0
  rw [e0,e1,e2,e3,e4,e5] at hbx ⊢
  have c0:Wi.cell? ⟨Bx,0,none⟩=some (.int .i64 (entP k x).1):=hbx.cell 0
  have c1:Wi.cell? ⟨Bx,1,none⟩=some (.int .i64 (entP k x).2):=hbx.cell 1
  obtain ⟨fn,tmps,assign,body,hyl,hR⟩:=hY _ (entP k x) Wi hj (by rw [List.length_map];omega)
  unfold zgu at hyl
  gi_wp2
  refine ⟨fun h=>by simp [Fence.wide] at h,?_⟩
  refine RoundIn.mono (zj6 rfl hR) ?_
  rintro e W' ⟨hs,(⟨rfl,hJ3,hk3⟩ | ⟨rfl,hJx3⟩)⟩
  ·gi_wp2
   exact ⟨(zkR hs (by omega)).keeps,⟨hk3,fun hc=>(hs.cell (p:=⟨W.heap.size+1,0,none⟩) (by show W.heap.size<=W.heap.size+1;omega) (World.block_lt_of_cell? _ _ hc)).trans hc⟩,by rw [List.map_append];exact hJ3,hy.same hs (Nat.le_refl _),hB.trans hk3⟩
  ·gi_wp2
   exact ⟨(zkR hs (by omega)).keeps,rfl,by rw [List.map_append];exact hJx3⟩
 case done=>
  rintro D ys Wi hD rfl ⟨hj,hy,hB⟩ hK
  have cy:Wi.cell? ⟨W.heap.size,0,none⟩=some (.func (.yield l) #[] #[]):=hy.cell 0
  have d1:Wi.cell? ⟨Bk,2,none⟩=some (.int .i64 k.snap.index):=(hB.cell (p:=⟨Bk,2,none⟩) zw).trans cs1
  have d2:Wi.cell? ⟨Bk,3,none⟩=some (.int .i64 k.snap.term):=(hB.cell (p:=⟨Bk,3,none⟩) zw).trans cs2
  obtain ⟨fn,tmps,assign,body,hyl,hR⟩:=hY _ (zin k) Wi hj (by rw [List.length_map,zmU];omega)
  unfold zgu zin at hyl
  gi_wp2
  refine ⟨fun h=>by simp [Fence.wide] at h,?_⟩
  refine RoundIn.mono (zj6 rfl hR) ?_
  rintro e W' ⟨hs,(⟨rfl,hJ3,hk3⟩ | ⟨rfl,hJx3⟩)⟩
  ·have hK':=(hs.block D (by show W.heap.size<=D;omega) (Array.getElem?_eq_some_iff.1 hK).1).trans hK
   gi_wp2
   refine ⟨by simp,.inl ⟨_,_,rfl,run_takeDeferred hK',?_⟩⟩
   exact ⟨_,results_none rfl _ _ _,⟨_,rfl⟩,.inl ⟨_,rfl,hJ.putObj _ hJ3 (by omega) hK' rfl⟩⟩
  ·have hK':=(hs.block D (by show W.heap.size<=D;omega) (Array.getElem?_eq_some_iff.1 hK).1).trans hK
   gi_wp2
   refine ⟨by simp,.inl ⟨_,_,rfl,run_takeDeferred hK',?_⟩⟩
   exact ⟨_,results_none rfl _ _ _,⟨_,rfl⟩,.inr ⟨bwL k,⟨_,Nat.le_refl _,by rw [List.take_of_length_le (Nat.le_refl _)]⟩,hJx.putObj _ hJx3 (by omega) hK' rfl⟩⟩
 case stop=>
  rintro D c pre Wi hD ⟨j,hj,rfl⟩ ⟨rfl,hjx⟩ hK
  gi_wp2
  refine ⟨by simp,.inl ⟨_,_,rfl,run_takeDeferred hK,?_⟩⟩
  refine ⟨_,results_none rfl _ _ _,⟨_,rfl⟩,.inr ⟨_,⟨j,?_,?_⟩,hJx.putObj _ hjx (by omega) hK rfl⟩⟩
  ·unfold bwL;rw [List.length_append,List.length_map,zmU];omega
  ·unfold bwL;rw [List.take_append_of_le_length (by rw [List.length_map,zmU];exact hj),<- List.map_take]
   congr 1
   unfold dn;rw [<- List.map_take,List.take_range,Nat.min_eq_left hj]
end Go.Proofs.YtkhphiahindnnaaGreat
namespace Go.Proofs.YtkhphiahindnnaaGreat
open Go.RowKit Go.Shelf
attribute [local go_sem] Oper.semAt_some
theorem zxL (n:Nat) (vs:List Value) (w:World) (hl:vs.length=8) :
  CallsIn Fence.wide n Tryz.prog 86 #[.agg vs.toArray] w fun e w'=>e = .returned (.func (.func 109) #[] #[.pointer (some ⟨w.heap.size,0,none⟩)])/\w.alloc (.cells vs.toArray 45)=w':=by
 match vs,hl with
 | [v0,v1,v2,v3,v4,v5,v6,v7],_=>
  refine callsIn_wide.2 ?_
  go_enter Tryz.func86,Tryz.ntmps86
  go_wp2_with fail
  go_ret
  exact ⟨rfl,rfl⟩
noncomputable def zb9 (k:Kept):Int×Int:=if onB k then (bwL k).headD (0,0) else (0,0)
theorem zuF (k:Kept):bwL k≠[]:=by unfold bwL;simp
set_option maxRecDepth 100000 in
set_option maxHeartbeats 2000000 in
theorem zm7 (vs:List Value) (k:Kept) (w:World) (S:Nat->Prop) (h:RdL w S Kept.ty vs k.enc) :
  Calls Tryz.prog 54 #[.agg vs.toArray] w (zrD w (zb9 k).1 (zb9 k).2):=by
 have hcall:=fun w' (hb:Below w.heap.size w w')=>zfc vs k w' S (RdL.same (Same.below hb) h)
 obtain ⟨a4,c4,a5,c5,a7,c7,rfl,b0,b1,b2,b3,s4,s5,b6,s7⟩:=Kept.opens h
 have HC:=Lib.hid hcall
 have H7:=Lib.hid s7
 clear h s4 s5 s7 hcall
 cases ho:onB k with
 | false=>
  have HL:=Lib.hid (show zb9 k=(0,0) by simp [zb9,ho])
  have HO:=Lib.hid ho
  clear ho
  go_enter Tryz.func54,Tryz.ntmps54
  go_wp2_with fail
  refine (HC.out _ ((((Below.refl _ _).alloc (Nat.le_refl _) _).alloc (by simp) _).alloc (by simp<;>omega) _)).mono ?_
  rw [HO.out,zvI]
  rintro e w1 ⟨rfl,B1⟩
  have k2:=(((Blk.newAt (w.alloc (.cells #[.int .i64 k.term,.int .i64 k.vote,.int .i64 k.snap.index,.int .i64 k.snap.term,.slice a4 (k.snap.config.voters).length c4,.slice a5 (k.snap.config.learners).length c5,.string k.snap.data,.slice a7 (k.entries).length c7] 45)) (w.heap.size+1) 3 #[.int .i64 0] (by simp)).alloc (.cells #[.int .i64 0] 3)).below B1 (by simp))
  have k3:=((Blk.newAt ((w.alloc (.cells #[.int .i64 k.term,.int .i64 k.vote,.int .i64 k.snap.index,.int .i64 k.snap.term,.slice a4 (k.snap.config.voters).length c4,.slice a5 (k.snap.config.learners).length c5,.string k.snap.data,.slice a7 (k.entries).length c7] 45)).alloc (.cells #[.int .i64 0] 3)) (w.heap.size+1+1) 3 #[.int .i64 0] (by simp)).below B1 (by simp))
  have B2:=Lib.hid (((((Below.refl _ _).alloc (Nat.le_refl _) _).alloc (by simp) _).alloc (by simp<;>omega) _).trans (B1.mono (B':=w.heap.size) (by simp<;>omega)))
  have f2:=k2.frozen 0
  have f3:=k3.frozen 0
  have d2:w1.cell? ⟨w.heap.size+1,0,none⟩=some (.int .i64 0):=k2.cell 0
  have d3:w1.cell? ⟨w.heap.size+1+1,0,none⟩=some (.int .i64 0):=k3.cell 0
  clear B1 k2 k3
  go_wp2_with fail
  refine bodyPost_ret (v:= .tuple #[.int .i64 0,.int .i64 0]) (by simp [results,Tryz.results54,go_sem,d2,d3]) rfl ⟨by rw [HL.out],?_⟩
  exact (B2.out.setCell (by simp) _).setCell (by simp<;>omega) _
 | true=>
  have HL:=Lib.hid (show zb9 k=(bwL k).headD (0,0) by simp [zb9,ho])
  have HO:=Lib.hid ho
  clear ho
  refine callsIn_wide.1 (callsIn_of_wp_marks (n:=20) Tryz.func54 rfl trivial ?_ rfl)
  simp only [Tryz.ntmps54,List.size_toArray,List.length_cons,List.length_nil,Nat.reduceAdd,Nat.reduceSub,Array.replicate_succ,Array.replicate_zero,List.push_toArray,List.append_toArray,List.nil_append,List.cons_append]
  gi_wp2_with fail
  refine ⟨trivial,?_⟩
  refine (callsIn_wide.2 (HC.out _ ((((Below.refl _ _).alloc (Nat.le_refl _) _).alloc (by simp) _).alloc (by simp<;>omega) _))).mono ?_
  rw [HO.out,zvG]
  rintro e w1 ⟨rfl,B1⟩
  have kb:=(((Blk.newAt w w.heap.size 45 #[.int .i64 k.term,.int .i64 k.vote,.int .i64 k.snap.index,.int .i64 k.snap.term,.slice a4 (k.snap.config.voters).length c4,.slice a5 (k.snap.config.learners).length c5,.string k.snap.data,.slice a7 (k.entries).length c7] rfl).alloc (.cells #[.int .i64 0] 3)).alloc (.cells #[.int .i64 0] 3)).below B1 (by simp<;>omega)
  have k2:=(((Blk.newAt (w.alloc (.cells #[.int .i64 k.term,.int .i64 k.vote,.int .i64 k.snap.index,.int .i64 k.snap.term,.slice a4 (k.snap.config.voters).length c4,.slice a5 (k.snap.config.learners).length c5,.string k.snap.data,.slice a7 (k.entries).length c7] 45)) (w.heap.size+1) 3 #[.int .i64 0] (by simp)).alloc (.cells #[.int .i64 0] 3)).below B1 (by simp))
  have k3:=((Blk.newAt ((w.alloc (.cells #[.int .i64 k.term,.int .i64 k.vote,.int .i64 k.snap.index,.int .i64 k.snap.term,.slice a4 (k.snap.config.voters).length c4,.slice a5 (k.snap.config.learners).length c5,.string k.snap.data,.slice a7 (k.entries).length c7] 45)).alloc (.cells #[.int .i64 0] 3)) (w.heap.size+1+1) 3 #[.int .i64 0] (by simp)).below B1 (by simp))
  have B2:=Lib.hid (((((Below.refl _ _).alloc (Nat.le_refl _) _).alloc (by simp) _).alloc (by simp<;>omega) _).trans (B1.mono (B':=w.heap.size) (by simp<;>omega)))
  have hz:=B1.size
  simp at hz
  clear B1
  obtain ⟨q0,q1,q2,q3,q4,q5,q6,q7⟩:=box8 kb
  gi_wp2_with fail
  refine ⟨trivial,?_⟩
  refine (zxL 19 _ _ rfl).mono ?_
  rintro e w2 ⟨rfl,hw2⟩
  have hb2:Blk w2 w1.heap.size 45 #[.int .i64 k.term,.int .i64 k.vote,.int .i64 k.snap.index,.int .i64 k.snap.term,.slice a4 (k.snap.config.voters).length c4,.slice a5 (k.snap.config.learners).length c5,.string k.snap.data,.slice a7 (k.entries).length c7]:=by rw [<- hw2];exact Blk.new _ _ _
  have B3:Below w1.heap.size w1 w2:=by rw [<- hw2];exact (Below.refl _ _).alloc (Nat.le_refl _) _
  have k2':=k2.below B3 k2.lt
  have k3':=k3.below B3 k3.lt
  have z2:w2.heap.size=w1.heap.size+1:=by rw [<- hw2];simp
  have s7:Sl w2 S Entry.ty a7 k.entries.length c7 (k.entries.map Entry.enc):=(H7.out.same (Same.below B2.out)).same (Same.below B3)
  have B4:Below w.heap.size w w2:=B2.out.trans (B3.mono (by omega))
  clear hw2 q0 q1 q2 q3 q4 q5 q6 q7 kb k2 k3 B3
  gi_wp2_with fail
  refine zpb rfl (by omega) (gf:=109) (lb:= #[.pointer (some ⟨w1.heap.size,0,none⟩)]) rfl trivial (enters_of Tryz.func109 (by kernel_rfl) rfl)
   (znf 19 w1.heap.size k w2 S a4 a5 a7 c4 c5 c7 hb2 s7 (by omega)) (Nat.le_refl _) (fun _=>rfl)
   (fun pre W=>pre=[]/\Blk W (w.heap.size+1) 3 #[.int .i64 0]/\Blk W (w.heap.size+1+1) 3 #[.int .i64 0]/\Below w.heap.size w W)
   (fun c pre W=>c = .ret/\∃ x,pre=[x]/\Blk W (w.heap.size+1) 3 #[.int .i64 x.1]/\Blk W (w.heap.size+1+1) 3 #[.int .i64 x.2]/\Below w.heap.size w W)
   ?own ?ownx ⟨rfl,k2',k3',B4⟩
   (fun x=>{tmps:= #[.agg #[.int .i64 k.term,.int .i64 k.vote,.int .i64 k.snap.index,.int .i64 k.snap.term,.slice a4 (k.snap.config.voters).length c4,.slice a5 (k.snap.config.learners).length c5,.string k.snap.data,.slice a7 (k.entries).length c7],.pointer (some ⟨w.heap.size,0,none⟩),.pointer (some ⟨w.heap.size+1,0,none⟩),.pointer (some ⟨w.heap.size+1+1,0,none⟩),.int .i64 x.1,.int .i64 x.2,.agg #[.int .i64 k.term,.int .i64 k.vote,.int .i64 k.snap.index,.int .i64 k.snap.term,.slice a4 (k.snap.config.voters).length c4,.slice a5 (k.snap.config.learners).length c5,.string k.snap.data,.slice a7 (k.entries).length c7],.int .i64 0,.bool true,.agg #[.int .i64 k.term,.int .i64 k.vote,.int .i64 k.snap.index,.int .i64 k.snap.term,.slice a4 (k.snap.config.voters).length c4,.slice a5 (k.snap.config.learners).length c5,.string k.snap.data,.slice a7 (k.entries).length c7],.func (.func 109) #[] #[.pointer (some ⟨w1.heap.size,0,none⟩)],.int .i64 x.1,.int .i64 x.2,undef,undef],defers:=[]})
   ?assign ?body ?done ?stop
  case own=>exact OwnFrom.and (ownFrom_pure _ _) (OwnFrom.and zaz (OwnFrom.and zaz (ownFrom_below (Nat.le_refl _) (by omega))))
  case ownx=>
   rintro c pre A C row ⟨rfl,x,rfl,h1,h2,h3⟩ hg hr
   exact ⟨rfl,x,rfl,zaz () A C row h1 hg hr,zaz () A C row h2 hg hr,ownFrom_below (β:=Unit) (Nat.le_refl _) (by omega) () A C row h3 hg hr⟩
  case assign=>
   intro l x W K hK
   unfold zgu
   gi_wp2
   exact hK
  case body=>
   rintro l pre x W ⟨rfl,h1,h2,h3⟩ _
   have c1:W.cell? ⟨w.heap.size+1,0,none⟩=some (.int .i64 0):=h1.cell 0
   have c2:W.cell? ⟨w.heap.size+1+1,0,none⟩=some (.int .i64 0):=h2.cell 0
   have f1:=h1.frozen 0
   have f2:=h2.frozen 0
   gi_wp2
   refine ⟨(Same.setCell (by simp<;>omega) _).trans (Same.setCell (by simp<;>omega) _),rfl,x,rfl,(h1.set 0 _).far (by simp) _,(h2.far (by simp) _).set 0 _,(h3.setCell (by simp) _).setCell (by simp<;>omega) _⟩
  case done=>
   rintro D ys W hD rfl ⟨h0,_⟩ hK
   exact absurd h0 (zuF k)
  case stop=>
   rintro D c pre W hD ⟨j,hj,hp⟩ ⟨rfl,x,rfl,h1,h2,h3⟩ hK
   have hx:(zb9 k)=x:=by
    rw [HL.out]
    cases h:bwL k with
    | nil=>exact absurd h (zuF k)
    | cons y ys=>
     rw [h] at hp
     cases j with
     | zero=>simp at hp
     | succ j=>simp at hp;simp [hp.1]
   have HX:=Lib.hid hx
   have c1:=(h1.grown (grownBy_putObj' W D (.deferred none)) (by simp<;>omega)).cell 0
   have c2:=(h2.grown (grownBy_putObj' W D (.deferred none)) (by simp<;>omega)).cell 0
   have c1':(W.putObj D (.deferred none)).cell? ⟨w.heap.size+1,0,none⟩=some (.int .i64 x.1):=c1
   have c2':(W.putObj D (.deferred none)).cell? ⟨w.heap.size+1+1,0,none⟩=some (.int .i64 x.2):=c2
   gi_wp2
   refine ⟨by simp,.inl ⟨_,_,rfl,run_takeDeferred hK,?_⟩⟩
   refine ⟨.tuple #[.int .i64 x.1,.int .i64 x.2],by simp [results,Tryz.results54,go_sem,c1',c2'],by rw [HX.out],?_⟩
   exact h3.grown (grownBy_putObj' W D (.deferred none)) h3.size (fun e he=>by cases he;omega)
noncomputable def zaQ (k:Kept) (i:Int):Int×Int:=if onB k then (match (bwL k).find? (fun p=>decide (p.1=i)) with | some p=>(p.2,0) | none=>(0,150)) else (0,1)
theorem ztg {l ini:List (Int×Int)} {j:Nat} {x:Int×Int} {i:Int} (h:ini++[x]=l.take j) (h1:∀ p∈ini,p.1≠i) (h2:x.1=i):l.find? (fun p=>decide (p.1=i))=some x:=by
 rw [<- List.take_append_drop j l,<- h,List.find?_append,List.find?_append]
 have:ini.find? (fun p=>decide (p.1=i))=none:=by
  rw [List.find?_eq_none];intro p hp;simpa using h1 p hp
 simp [this,h2]
theorem zqu {l:List (Int×Int)} {i:Int} (h1:∀ p∈l,p.1≠i):l.find? (fun p=>decide (p.1=i))=none:=by
 rw [List.find?_eq_none];intro p hp;simpa using h1 p hp
set_option maxRecDepth 100000 in
set_option maxHeartbeats 2000000 in
theorem zie (vs:List Value) (k:Kept) (index:Int) (w:World) (S:Nat->Prop) (h:RdL w S Kept.ty vs k.enc) :
  Calls Tryz.prog 50 #[.agg vs.toArray,.int .i64 index] w (zrD w (zaQ k index).1 (zaQ k index).2):=by
 have hcall:=fun w' (hb:Below w.heap.size w w')=>zfc vs k w' S (RdL.same (Same.below hb) h)
 obtain ⟨a4,c4,a5,c5,a7,c7,rfl,b0,b1,b2,b3,s4,s5,b6,s7⟩:=Kept.opens h
 have HC:=Lib.hid hcall
 have H7:=Lib.hid s7
 clear h s4 s5 s7 hcall
 cases ho:onB k with
 | false=>
  have HL:=Lib.hid (show zaQ k index=(0,1) by simp [zaQ,ho])
  have HO:=Lib.hid ho
  clear ho
  go_enter Tryz.func50,Tryz.ntmps50
  go_wp2_with fail
  refine (HC.out _ (((((Below.refl _ _).alloc (Nat.le_refl _) _).alloc (by simp) _).alloc (by simp<;>omega) _).alloc (by simp<;>omega) _)).mono ?_
  rw [HO.out,zvI]
  rintro e w1 ⟨rfl,B1⟩
  have kb:=((((Blk.newAt w w.heap.size 45 #[.int .i64 k.term,.int .i64 k.vote,.int .i64 k.snap.index,.int .i64 k.snap.term,.slice a4 (k.snap.config.voters).length c4,.slice a5 (k.snap.config.learners).length c5,.string k.snap.data,.slice a7 (k.entries).length c7] rfl).alloc (.cells #[.int .i64 index] 3)).alloc (.cells #[.int .i64 0] 3)).alloc (.cells #[.int .i64 0] 53)).below B1 (by simp<;>omega)
  have k1:=(((Blk.newAt (w.alloc (.cells #[.int .i64 k.term,.int .i64 k.vote,.int .i64 k.snap.index,.int .i64 k.snap.term,.slice a4 (k.snap.config.voters).length c4,.slice a5 (k.snap.config.learners).length c5,.string k.snap.data,.slice a7 (k.entries).length c7] 45)) (w.heap.size+1) 3 #[.int .i64 index] (by simp)).alloc (.cells #[.int .i64 0] 3)).alloc (.cells #[.int .i64 0] 53)).below B1 (by simp<;>omega)
  have k2:=((Blk.newAt ((w.alloc (.cells #[.int .i64 k.term,.int .i64 k.vote,.int .i64 k.snap.index,.int .i64 k.snap.term,.slice a4 (k.snap.config.voters).length c4,.slice a5 (k.snap.config.learners).length c5,.string k.snap.data,.slice a7 (k.entries).length c7] 45)).alloc (.cells #[.int .i64 index] 3)) (w.heap.size+1+1) 3 #[.int .i64 0] (by simp)).alloc (.cells #[.int .i64 0] 53)).below B1 (by simp)
  have k3:=(Blk.newAt (((w.alloc (.cells #[.int .i64 k.term,.int .i64 k.vote,.int .i64 k.snap.index,.int .i64 k.snap.term,.slice a4 (k.snap.config.voters).length c4,.slice a5 (k.snap.config.learners).length c5,.string k.snap.data,.slice a7 (k.entries).length c7] 45)).alloc (.cells #[.int .i64 index] 3)).alloc (.cells #[.int .i64 0] 3)) (w.heap.size+1+1+1) 53 #[.int .i64 0] (by simp)).below B1 (by simp)
  have B2:=Lib.hid ((((((Below.refl _ _).alloc (Nat.le_refl _) (.cells #[.int .i64 k.term,.int .i64 k.vote,.int .i64 k.snap.index,.int .i64 k.snap.term,.slice a4 (k.snap.config.voters).length c4,.slice a5 (k.snap.config.learners).length c5,.string k.snap.data,.slice a7 (k.entries).length c7] 45)).alloc (by simp) (.cells #[.int .i64 index] 3)).alloc (by simp<;>omega) (.cells #[.int .i64 0] 3)).alloc (by simp<;>omega) (.cells #[.int .i64 0] 53)).trans (B1.mono (B':=w.heap.size) (by simp<;>omega)))
  have hz:=B1.size
  simp at hz
  clear B1
  have f2:=k2.frozen 0
  have f3:=k3.frozen 0
  have d2:w1.cell? ⟨w.heap.size+1+1,0,none⟩=some (.int .i64 0):=k2.cell 0
  have d3:w1.cell? ⟨w.heap.size+1+1+1,0,none⟩=some (.int .i64 0):=k3.cell 0
  clear k1 k2 k3 kb
  go_wp2_with fail
  refine bodyPost_ret (v:= .tuple #[.int .i64 0,.int .i64 1]) (by simp [results,Tryz.results50,go_sem,d2,d3]) rfl ⟨by rw [HL.out],?_⟩
  exact (B2.out.setCell (by simp<;>omega) _).setCell (by simp<;>omega) _
 | true=>
  have HO:=Lib.hid ho
  have HT:=Lib.hid (show zaQ k index=(match (bwL k).find? (fun p=>decide (p.1=index)) with | some p=>(p.2,0) | none=>(0,150)) by simp [zaQ,ho])
  clear ho
  refine callsIn_wide.1 (callsIn_of_wp_marks (n:=20) Tryz.func50 rfl trivial ?_ rfl)
  simp only [Tryz.ntmps50,List.size_toArray,List.length_cons,List.length_nil,Nat.reduceAdd,Nat.reduceSub,Array.replicate_succ,Array.replicate_zero,List.push_toArray,List.append_toArray,List.nil_append,List.cons_append]
  gi_wp2_with fail
  refine ⟨trivial,?_⟩
  refine (callsIn_wide.2 (HC.out _ (((((Below.refl _ _).alloc (Nat.le_refl _) _).alloc (by simp) _).alloc (by simp<;>omega) _).alloc (by simp<;>omega) _))).mono ?_
  rw [HO.out,zvG]
  rintro e w1 ⟨rfl,B1⟩
  have kb:=((((Blk.newAt w w.heap.size 45 #[.int .i64 k.term,.int .i64 k.vote,.int .i64 k.snap.index,.int .i64 k.snap.term,.slice a4 (k.snap.config.voters).length c4,.slice a5 (k.snap.config.learners).length c5,.string k.snap.data,.slice a7 (k.entries).length c7] rfl).alloc (.cells #[.int .i64 index] 3)).alloc (.cells #[.int .i64 0] 3)).alloc (.cells #[.int .i64 0] 53)).below B1 (by simp<;>omega)
  have k1:=(((Blk.newAt (w.alloc (.cells #[.int .i64 k.term,.int .i64 k.vote,.int .i64 k.snap.index,.int .i64 k.snap.term,.slice a4 (k.snap.config.voters).length c4,.slice a5 (k.snap.config.learners).length c5,.string k.snap.data,.slice a7 (k.entries).length c7] 45)) (w.heap.size+1) 3 #[.int .i64 index] (by simp)).alloc (.cells #[.int .i64 0] 3)).alloc (.cells #[.int .i64 0] 53)).below B1 (by simp<;>omega)
  have k2:=((Blk.newAt ((w.alloc (.cells #[.int .i64 k.term,.int .i64 k.vote,.int .i64 k.snap.index,.int .i64 k.snap.term,.slice a4 (k.snap.config.voters).length c4,.slice a5 (k.snap.config.learners).length c5,.string k.snap.data,.slice a7 (k.entries).length c7] 45)).alloc (.cells #[.int .i64 index] 3)) (w.heap.size+1+1) 3 #[.int .i64 0] (by simp)).alloc (.cells #[.int .i64 0] 53)).below B1 (by simp)
  have k3:=(Blk.newAt (((w.alloc (.cells #[.int .i64 k.term,.int .i64 k.vote,.int .i64 k.snap.index,.int .i64 k.snap.term,.slice a4 (k.snap.config.voters).length c4,.slice a5 (k.snap.config.learners).length c5,.string k.snap.data,.slice a7 (k.entries).length c7] 45)).alloc (.cells #[.int .i64 index] 3)).alloc (.cells #[.int .i64 0] 3)) (w.heap.size+1+1+1) 53 #[.int .i64 0] (by simp)).below B1 (by simp)
  have B2:=Lib.hid ((((((Below.refl _ _).alloc (Nat.le_refl _) (.cells #[.int .i64 k.term,.int .i64 k.vote,.int .i64 k.snap.index,.int .i64 k.snap.term,.slice a4 (k.snap.config.voters).length c4,.slice a5 (k.snap.config.learners).length c5,.string k.snap.data,.slice a7 (k.entries).length c7] 45)).alloc (by simp) (.cells #[.int .i64 index] 3)).alloc (by simp<;>omega) (.cells #[.int .i64 0] 3)).alloc (by simp<;>omega) (.cells #[.int .i64 0] 53)).trans (B1.mono (B':=w.heap.size) (by simp<;>omega)))
  have hz:=B1.size
  simp at hz
  clear B1
  obtain ⟨q0,q1,q2,q3,q4,q5,q6,q7⟩:=box8 kb
  gi_wp2_with fail
  refine ⟨trivial,?_⟩
  refine (zxL 19 _ _ rfl).mono ?_
  rintro e w2 ⟨rfl,hw2⟩
  have hb2:Blk w2 w1.heap.size 45 #[.int .i64 k.term,.int .i64 k.vote,.int .i64 k.snap.index,.int .i64 k.snap.term,.slice a4 (k.snap.config.voters).length c4,.slice a5 (k.snap.config.learners).length c5,.string k.snap.data,.slice a7 (k.entries).length c7]:=by rw [<- hw2];exact Blk.new _ _ _
  have B3:Below w1.heap.size w1 w2:=by rw [<- hw2];exact (Below.refl _ _).alloc (Nat.le_refl _) _
  have k1':=k1.below B3 k1.lt
  have k2':=k2.below B3 k2.lt
  have k3':=k3.below B3 k3.lt
  have z2:w2.heap.size=w1.heap.size+1:=by rw [<- hw2];simp
  have s7:Sl w2 S Entry.ty a7 k.entries.length c7 (k.entries.map Entry.enc):=(H7.out.same (Same.below B2.out)).same (Same.below B3)
  have B4:Below w.heap.size w w2:=B2.out.trans (B3.mono (by omega))
  clear hw2 q0 q1 q2 q3 q4 q5 q6 q7 kb k1 k2 k3 B3
  gi_wp2_with fail
  refine zpb rfl (by omega) (gf:=109) (lb:= #[.pointer (some ⟨w1.heap.size,0,none⟩)]) rfl trivial (enters_of Tryz.func109 (by kernel_rfl) rfl)
   (znf 19 w1.heap.size k w2 S a4 a5 a7 c4 c5 c7 hb2 s7 (by omega)) (Nat.le_refl _) (fun _=>rfl)
   (fun pre W=>(∀ p∈pre,p.1≠index)/\Blk W (w.heap.size+1) 3 #[.int .i64 index]/\Blk W (w.heap.size+1+1) 3 #[.int .i64 0]/\Blk W (w.heap.size+1+1+1) 53 #[.int .i64 0]/\Below w.heap.size w W)
   (fun c pre W=>c = .ret/\∃ ini x,pre=ini++[x]/\(∀ p∈ini,p.1≠index)/\x.1=index/\Blk W (w.heap.size+1+1) 3 #[.int .i64 x.2]/\Blk W (w.heap.size+1+1+1) 53 #[.int .i64 0]/\Below w.heap.size w W)
   ?own ?ownx ⟨fun p hp=>absurd hp (by simp),k1',k2',k3',B4⟩
   (fun x=>{tmps:= #[.agg #[.int .i64 k.term,.int .i64 k.vote,.int .i64 k.snap.index,.int .i64 k.snap.term,.slice a4 (k.snap.config.voters).length c4,.slice a5 (k.snap.config.learners).length c5,.string k.snap.data,.slice a7 (k.entries).length c7],.int .i64 index,.pointer (some ⟨w.heap.size,0,none⟩),.pointer (some ⟨w.heap.size+1,0,none⟩),.pointer (some ⟨w.heap.size+1+1,0,none⟩),.pointer (some ⟨w.heap.size+1+1+1,0,none⟩),.int .i64 0,.int .i64 x.1,.int .i64 x.2,.agg #[.int .i64 k.term,.int .i64 k.vote,.int .i64 k.snap.index,.int .i64 k.snap.term,.slice a4 (k.snap.config.voters).length c4,.slice a5 (k.snap.config.learners).length c5,.string k.snap.data,.slice a7 (k.entries).length c7],.int .i64 0,.int .i64 0,.bool false,undef,.agg #[.int .i64 k.term,.int .i64 k.vote,.int .i64 k.snap.index,.int .i64 k.snap.term,.slice a4 (k.snap.config.voters).length c4,.slice a5 (k.snap.config.learners).length c5,.string k.snap.data,.slice a7 (k.entries).length c7],.func (.func 109) #[] #[.pointer (some ⟨w1.heap.size,0,none⟩)],.int .i64 x.1,.int .i64 x.2,undef,undef,undef,undef],defers:=[]})
   ?assign ?body ?done ?stop
  case own=>exact OwnFrom.and (ownFrom_pure _ _) (OwnFrom.and zaz (OwnFrom.and zaz (OwnFrom.and zaz (ownFrom_below (Nat.le_refl _) (by omega)))))
  case ownx=>
   rintro c pre A C row ⟨rfl,ini,x,rfl,h0,hx,h1,h2,h3⟩ hg hr
   exact ⟨rfl,ini,x,rfl,h0,hx,zaz () A C row h1 hg hr,zaz () A C row h2 hg hr,ownFrom_below (β:=Unit) (Nat.le_refl _) (by omega) () A C row h3 hg hr⟩
  case assign=>
   intro l x W K hK
   unfold zgu
   gi_wp2
   exact hK
  case body=>
   rintro l pre x W ⟨h0,h1,h2,h3,h4⟩ _
   have c1:W.cell? ⟨w.heap.size+1,0,none⟩=some (.int .i64 index):=h1.cell 0
   have c2:W.cell? ⟨w.heap.size+1+1,0,none⟩=some (.int .i64 0):=h2.cell 0
   have c3:W.cell? ⟨w.heap.size+1+1+1,0,none⟩=some (.int .i64 0):=h3.cell 0
   have f2:=h2.frozen 0
   have f3:=h3.frozen 0
   have H0:=Lib.hid h0
   clear h0
   by_cases hx:x.1=index
   ·have q:(x.1==index)=true:=by simp [hx]
    have HX:=Lib.hid hx
    clear hx
    gi_wp2
    exact ⟨(Same.setCell (by simp<;>omega) _).trans (Same.setCell (by simp<;>omega) _),rfl,pre,x,rfl,H0.out,HX.out,(h2.set 0 _).far (by simp) _,(h3.far (by simp) _).set 0 _,(h4.setCell (by simp<;>omega) _).setCell (by simp<;>omega) _⟩
   ·have q:(x.1==index)=false:=by simp [hx]
    have HX:=Lib.hid hx
    clear hx
    gi_wp2
    refine ⟨Same.refl _ _,Below.refl _ _,?_,h1,h2,h3,h4⟩
    intro p hp
    rcases List.mem_append.1 hp with h | h
    ·exact H0.out p h
    ·simp at h;subst h;exact HX.out
  case done=>
   rintro D ys W hD rfl ⟨h0,h1,h2,h3,h4⟩ hK
   have HX:=Lib.hid (show zaQ k index=(0,150) by rw [HT.out,zqu h0])
   have c2:W.cell? ⟨w.heap.size+1+1,0,none⟩=some (.int .i64 0):=h2.cell 0
   have c3:W.cell? ⟨w.heap.size+1+1+1,0,none⟩=some (.int .i64 0):=h3.cell 0
   have f2:=h2.frozen 0
   have f3:=h3.frozen 0
   clear h0
   gi_wp2
   have hK':=(KeepsOthers.setCell (W.setCell ⟨w.heap.size+1+1,0,none⟩ (.int .i64 0)) ⟨w.heap.size+1+1+1,0,none⟩ (.int .i64 150)).same D _ ((KeepsOthers.setCell W ⟨w.heap.size+1+1,0,none⟩ (.int .i64 0)).same D _ hK rfl) rfl
   have g2:=(((h2.set 0 (.int .i64 0)).far (p:=⟨w.heap.size+1+1+1,0,none⟩) (by simp) (.int .i64 150)).grown (grownBy_putObj' _ D (.deferred none)) (by simp<;>omega)).cell 0
   have g3:=(((h3.far (p:=⟨w.heap.size+1+1,0,none⟩) (by simp) (.int .i64 0)).set 0 (.int .i64 150)).grown (grownBy_putObj' _ D (.deferred none)) (by simp<;>omega)).cell 0
   refine ⟨by simp,.inl ⟨_,_,rfl,run_takeDeferred hK',?_⟩⟩
   refine ⟨.tuple #[.int .i64 0,.int .i64 150],by simp [results,Tryz.results50,go_sem,g2,g3],by rw [HX.out],?_⟩
   have h5:=(h4.setCell (p:=⟨w.heap.size+1+1,0,none⟩) (by simp<;>omega) (.int .i64 0)).setCell (p:=⟨w.heap.size+1+1+1,0,none⟩) (by simp<;>omega) (.int .i64 150)
   exact h5.grown (grownBy_putObj' _ D (.deferred none)) h5.size (fun e he=>by cases he;omega)
  case stop=>
   rintro D c pre W hD ⟨j,hj,hp⟩ ⟨rfl,ini,x,hpp,h0,hx,h1,h2,h3⟩ hK
   have HX:=Lib.hid (show zaQ k index=(x.2,0) by rw [HT.out,ztg (hpp▸hp) h0 hx])
   have c1':(W.putObj D (.deferred none)).cell? ⟨w.heap.size+1+1,0,none⟩=some (.int .i64 x.2):=(h1.grown (grownBy_putObj' W D (.deferred none)) (by simp<;>omega)).cell 0
   have c2':(W.putObj D (.deferred none)).cell? ⟨w.heap.size+1+1+1,0,none⟩=some (.int .i64 0):=(h2.grown (grownBy_putObj' W D (.deferred none)) (by simp<;>omega)).cell 0
   clear h0 hx hpp
   gi_wp2
   refine ⟨by simp,.inl ⟨_,_,rfl,run_takeDeferred hK,?_⟩⟩
   refine ⟨.tuple #[.int .i64 x.2,.int .i64 0],by simp [results,Tryz.results50,go_sem,c1',c2'],by rw [HX.out],?_⟩
   exact h3.grown (grownBy_putObj' W D (.deferred none)) h3.size (fun e he=>by cases he;omega)
end Go.Proofs.YtkhphiahindnnaaGreat
namespace Go.Proofs.YtkhphiahindnnaaGreat
open Go.RowKit
theorem zee {w w1:World} {T:TypeId} {cs:Array Value} (B1:Below (w.alloc (.cells cs T)).heap.size (w.alloc (.cells cs T)) w1):Blk w1 w.heap.size T cs/\Below w.heap.size w w1/\w.heap.size<w1.heap.size:=by
 have z:=B1.size
 simp only [World.size_alloc] at z
 exact ⟨(Blk.new w T cs).below B1 (by simp),((Below.refl _ w).alloc (Nat.le_refl _) _).trans (B1.mono (by simp)),by omega⟩
theorem zl6 (m:Nat):dn (m+1) (m+1)=m::dn m m:=by
 unfold dn
 rw [List.range_succ_eq_map,List.map_cons,List.map_map]
 congr 1
 apply List.map_congr_left
 intro j hj
 simp only [Function.comp,Nat.succ_eq_add_one]
 omega
def znL (k:Kept):Int×Int:=if k.entries.length=0 then zin k else entP k (k.entries.length-1)
theorem zm8 (k:Kept):zb9 k=if onB k then znL k else (0,0):=by
 unfold zb9 znL bwL
 cases h:k.entries.length with
 | zero=>simp [dn]
 | succ m=>rw [zl6];simp
theorem zcB {k:Kept} (h:onP k) {i:Nat} (hi:i<k.entries.length):(k.en i).index=k.snap.index+1+i:=by
 have:=h.2.2 i hi
 unfold okAt at this
 omega
theorem zlq (k:Kept) (f:Nat->Int×Int) (i:Int):∀ m,(∀ j,j<m->(f j).1≠i)->((dn m m).map f).find? (fun p=>decide (p.1=i))=none
 | 0,_=>by simp [dn]
 | m+1,h=>by
  rw [zl6,List.map_cons,List.find?_cons,zlq k f i m (fun j hj=>h j (by omega))]
  simp [h m (by omega)]
theorem zhG (f:Nat->Int×Int) (i:Int):∀ m j,j<m->(f j).1=i->(∀ j',j'<m->(f j').1=i->j'=j)->((dn m m).map f).find? (fun p=>decide (p.1=i))=some (f j)
 | 0,j,hj,_,_=>absurd hj (by omega)
 | m+1,j,hj,he,hu=>by
  rw [zl6,List.map_cons,List.find?_cons]
  by_cases h:(f m).1=i
  ·have:m=j:=hu m (by omega) h
   subst this;simp [h]
  ·have hne:j≠m:=fun e=>h (e▸he)
   simp only [h,decide_false]
   exact zhG f i m j (by omega) he (fun j' hj'=>hu j' (by omega))
theorem zho {k:Kept} (h:onB k=true):zaQ k k.snap.index=(k.snap.term,0):=by
 have hp:=onB_iff.1 h
 unfold zaQ bwL
 rw [if_pos h,List.find?_append,zlq k (entP k) _ _ (fun j hj=>by show (k.en j).index≠_;rw [zcB hp hj];omega)]
 simp [zin]
theorem zif {k:Kept} (h:onB k=true) {j:Nat} (hj:j<k.entries.length):zaQ k (k.en j).index=((k.en j).term,0):=by
 have hp:=onB_iff.1 h
 unfold zaQ bwL
 rw [if_pos h,List.find?_append,zhG (entP k) (k.en j).index _ j hj rfl (fun j' hj' he=>by
  have h1:(k.en j').index=(k.en j).index:=he
  rw [zcB hp hj,zcB hp hj'] at h1
  omega)]
 simp [entP]
theorem zfh {k:Kept} (h:onB k=true) {i:Int} (h0:i≠k.snap.index) (h1:∀ j,j<k.entries.length->(k.en j).index≠i):zaQ k i=(0,150):=by
 unfold zaQ bwL
 rw [if_pos h,List.find?_append,zlq k (entP k) _ _ (fun j hj=>h1 j hj)]
 simp [zin,Ne.symm h0]
theorem zjr {k:Kept} (h:onB k=false) (i:Int):zaQ k i=(0,1):=by simp [zaQ,h]
set_option maxHeartbeats 1000000 in
theorem zoS (vs:List Value) (k:Kept) (index:Int) (w:World) (S:Nat->Prop) (h:RdL w S Kept.ty vs k.enc) :
  Calls Tryz.prog 16 #[.agg vs.toArray,.int .i64 index] w (zrD w (zaQ k index).1 (zaQ k index).2):=by
 have hcall:=zui vs k _ S (RdL.same (Same.alloc S w (.cells vs.toArray 45)) h)
 have HC:=Lib.hid hcall
 obtain ⟨a4,c4,a5,c5,a7,c7,rfl,b0,b1,b2,b3,s4,s5,b6,s7⟩:=Kept.opens h
 have n7:=s7.bd.2.2.1
 have H7:=Lib.hid s7
 clear h s4 s5 s7 hcall
 cases ho:onB k with
 | false=>
  have HL:=Lib.hid (zjr ho index)
  have HO:=Lib.hid ho
  clear ho
  go_enter Tryz.func16,Tryz.ntmps16
  go_wp2_with fail
  refine HC.out.mono ?_
  rw [HO.out]
  rintro e w1 ⟨rfl,B1⟩
  obtain ⟨_,B2,_⟩:=zee B1
  go_wp2_with fail
  go_ret2
  exact ⟨by rw [HL.out];rfl,B2⟩
 | true=>
  have HO:=Lib.hid ho
  clear ho
  by_cases hi:index=k.snap.index
  ·have HL:=Lib.hid (show zaQ k index=(k.snap.term,0) by rw [hi];exact zho HO.out)
   have q:(index==k.snap.index)=true:=by simp [hi]
   clear hi
   go_enter Tryz.func16,Tryz.ntmps16
   go_wp2_with fail
   refine HC.out.mono ?_
   rw [HO.out]
   rintro e w1 ⟨rfl,B1⟩
   obtain ⟨kb,B2,z2⟩:=zee B1
   obtain ⟨q0,q1,q2,q3,q4,q5,q6,q7⟩:=box8 kb
   clear kb B1
   go_wp2_with fail
   go_ret2
   exact ⟨by rw [HL.out];rfl,B2⟩
  ·have q:(index==k.snap.index)=false:=by simp [hi]
   have HI:=Lib.hid hi
   clear hi
   go_enter Tryz.func16,Tryz.ntmps16
   go_wp2_with fail
   refine HC.out.mono ?_
   rw [HO.out]
   rintro e w1 ⟨rfl,B1⟩
   obtain ⟨kb,B2,z2⟩:=zee B1
   obtain ⟨q0,q1,q2,q3,q4,q5,q6,q7⟩:=box8 kb
   have H71:=Lib.hid (H7.out.same (Same.below B2))
   clear kb B1
   go_wp2_with fail
   go_loop [6] (fun i=>∃ j:Nat,j<=k.entries.length/\i = .int .i64 j/\∀ i,i<j->(k.en i).index≠index) (fun i=>k.entries.length-(intOf i).toNat)
   case atStart=>exact ⟨0,Nat.zero_le _,rfl,fun i h=>absurd h (by omega)⟩
   case round=>
    obtain ⟨j,hj,rfl,hq⟩:=hrel
    have HQ:=Lib.hid hq
    clear hq
    by_cases hlt:j<k.entries.length
    ·obtain ⟨b,off,rfl⟩:=H71.out.addr (by omega)
     obtain ⟨hS,hb,a3e,c3e,a4e,c4e,e0,e1,e2,e3,e4,e5,f0,f1,f2,f3,f4,f5⟩:=Entry.row H71.out hlt
     clear e2 e3 e4 e5 f3 f4
     generalize hE:k.entries.getD j default=e at *
     have HE:=Lib.hid (show k.en j=e from hE)
     clear hE
     have j0:(0:Int)<=(j:Int):=by omega
     have j1:(j:Int)<(k.entries.length:Int):=by omega
     by_cases hx:e.index=index
     ·have HR:=Lib.hid (show zaQ k index=(e.term,0) by rw [<- hx,<- HE.out];exact zif HO.out hlt)
      have q:(e.index==index)=true:=by simp [hx]
      clear hx
      go_wp2_with fail
      go_ret2
      exact ⟨by rw [HR.out];rfl,B2⟩
     ·have q:(e.index==index)=false:=by simp [hx]
      have HX:=Lib.hid hx
      clear hx
      go_wp2_with fail
      go_round
      case rel=>
       refine ⟨j+1,by omega,by go_num,fun i hi=>?_⟩
       by_cases h:i=j
       ·subst h;rw [HE.out];exact HX.out
       ·exact HQ.out i (by omega)
      case measure=>simp [intOf];omega
    ·have hjn:j=k.entries.length:=by omega
     have HR:=Lib.hid (zfh HO.out HI.out (fun i hi=>HQ.out i (by omega)))
     have j1:¬ (j:Int)<(k.entries.length:Int):=by omega
     clear hjn
     go_wp2_with fail
     go_ret2
     exact ⟨by rw [HR.out];rfl,B2⟩
def zlg (o:Bool) (p:Int×Int) (index term:Int):Bool:=o&&(decide (p.2<term)||(term==p.2&&decide (p.1<=index)))
noncomputable def zjJ (k:Kept) (index term:Int):Bool:=zlg (onB k) (zb9 k) index term
set_option maxHeartbeats 4000000 in
theorem zpr (vs:List Value) (k:Kept) (index term:Int) (w:World) (S:Nat->Prop) (h:RdL w S Kept.ty vs k.enc) :
  Calls Tryz.prog 65 #[.agg vs.toArray,.int .i64 index,.int .i64 term] w (zxR w (zjJ k index term)):=by
 have hc1:=zm7 vs k _ S (RdL.same (Same.alloc S w (.cells vs.toArray 45)) h)
 have hc2:=fun w' (hb:Below w.heap.size w w')=>zfc vs k w' S (RdL.same (Same.below hb) h)
 have HC1:=Lib.hid hc1
 have HC2:=Lib.hid hc2
 obtain ⟨a4,c4,a5,c5,a7,c7,rfl,b0,b1,b2,b3,s4,s5,b6,s7⟩:=Kept.opens h
 clear h s4 s5 s7 hc1 hc2
 have hp:zjJ k index term=(onB k&&(decide ((zb9 k).2<term)||(term==(zb9 k).2&&decide ((zb9 k).1<=index)))):=rfl
 generalize zjJ k index term=r at *
 generalize (zb9 k).1=p1 at *
 generalize (zb9 k).2=p2 at *
 generalize onB k=o at *
 have HP:=Lib.hid hp
 clear hp
 by_cases c1:p2<term
 all_goals cases c2:(term==p2)
 all_goals by_cases c3:p1<=index
 all_goals cases o
 all_goals
  go_enter Tryz.func65,Tryz.ntmps65
  go_wp2_with fail
  refine HC1.out.mono ?_
  rintro e w1 ⟨rfl,B1⟩
  obtain ⟨kb,B2,z2⟩:=zee B1
  obtain ⟨q0,q1,q2,q3,q4,q5,q6,q7⟩:=box8 kb
  go_wp2_with fail
  refine (HC2.out _ B2).mono ?_
  first | rw [zvG] | rw [zvI]
  rintro e w2 ⟨rfl,B3⟩
  have B4:=B2.trans (B3.mono B2.size)
  clear B1 B3 kb q0 q1 q2 q3 q4 q5 q6 q7
  go_wp2_with fail
  go_ret
  refine ⟨?_,B4⟩
  rw [HP.out,c2]
  simp [c1,c3]
end Go.Proofs.YtkhphiahindnnaaGreat
namespace Go.Proofs.YtkhphiahindnnaaGreat
open Go.RowKit Go.ChangeShapes Go.WideShapes Go.Deep
theorem Kept.i64 {w:World} {S:Nat->Prop} {vs:List Value} {k:Kept} (h:RdL w S Kept.ty vs k.enc):(I64 k.snap.index/\I64 k.snap.term)/\∀ x,x∈k.entries->I64 x.index/\I64 x.term:=by
 obtain ⟨a4,c4,a5,c5,a7,c7,rfl,b0,b1,b2,b3,s4,s5,b6,s7⟩:=Kept.opens h
 refine ⟨⟨b2,b3⟩,fun x hx=>?_⟩
 obtain ⟨us,hu⟩:=zoT s7 x hx
 obtain ⟨_,_,_,_,_,g0,g1,_⟩:=Entry.opens hu
 exact ⟨g0,g1⟩
theorem zw5 {k:Kept} {p:Int×Int} (h:p∈bwL k):p=zin k\/∃ x,x∈k.entries/\p=(x.index,x.term):=by
 unfold bwL at h
 rcases List.mem_append.1 h with h | h
 ·obtain ⟨i,hi,rfl⟩:=List.mem_map.1 h
  have hi2:i<k.entries.length:=by
   unfold dn at hi
   obtain ⟨j,hj,rfl⟩:=List.mem_map.1 hi
   have:=List.mem_range.1 hj
   omega
  right
  refine ⟨k.entries[i],List.getElem_mem hi2,?_⟩
  simp [entP,Kept.en,List.getD,hi2]
 ·left;simpa using h
theorem zry {w:World} {S:Nat->Prop} {vs:List Value} {k:Kept} (h:RdL w S Kept.ty vs k.enc) {p:Int×Int} (hp:p∈bwL k):I64 p.1/\I64 p.2:=by
 obtain ⟨h1,h2⟩:=Kept.i64 h
 rcases zw5 hp with rfl | ⟨x,hx,rfl⟩
 ·exact h1
 ·exact h2 x hx
theorem i0:I64 0:=by unfold I64;decide
theorem zsP {w:World} {S:Nat->Prop} {vs:List Value} {k:Kept} (h:RdL w S Kept.ty vs k.enc):I64 (zb9 k).1/\I64 (zb9 k).2:=by
 unfold zb9
 split
 ·cases hb:bwL k with
  | nil=>exact ⟨i0,i0⟩
  | cons p r=>exact zry h (by rw [hb];exact List.mem_cons_self ..)
 ·exact ⟨i0,i0⟩
theorem zlZ {w:World} {S:Nat->Prop} {vs:List Value} {k:Kept} (h:RdL w S Kept.ty vs k.enc) (i:Int):I64 (zaQ k i).1/\I64 (zaQ k i).2:=by
 unfold zaQ
 split
 ·split
  ·rename_i p hp
   exact ⟨(zry h (List.mem_of_find?_eq_some hp)).2,i0⟩
  ·exact ⟨i0,by unfold I64;decide⟩
 ·exact ⟨i0,by unfold I64;decide⟩
theorem zvH (b:Bool):I64 (err b):=by cases b<;>(unfold I64;decide)
theorem zfU (k:Kept):FnC Tryz.prog 56 [.agg (k.svs [0])] (.int .i64 (err (onB k))) D2:=
 FnC.of_int (fnB Tryz.func56 (by decide) rfl) fun w E vals hd=>by
  obtain ⟨v,rfl,xs,rfl,hl⟩:=zes hd
  exact ⟨zvH _,zfc xs k w _ (Kept.svs_rd hl)⟩
theorem zsE (k:Kept):FnC Tryz.prog 52 [.agg (k.svs [0])] (.bool (onB k)) D2:=
 FnC.of_bool (fnB Tryz.func52 (by decide) rfl) fun w E vals hd=>by
  obtain ⟨v,rfl,xs,rfl,hl⟩:=zes hd
  exact zui xs k w _ (Kept.svs_rd hl)
theorem zi2 (k:Kept):FnC Tryz.prog 54 [.agg (k.svs [0])] (.tup [.int .i64 (zb9 k).1,.int .i64 (zb9 k).2]) D2:=
 FnC.of_i2 (fnB Tryz.func54 (by decide) rfl) fun w E vals hd=>by
  obtain ⟨v,rfl,xs,rfl,hl⟩:=zes hd
  exact ⟨zsP (Kept.svs_rd hl),zm7 xs k w _ (Kept.svs_rd hl)⟩
theorem zid (k:Kept) (i:Int):FnC Tryz.prog 50 [.agg (k.svs [0]),.int .i64 i] (.tup [.int .i64 (zaQ k i).1,.int .i64 (zaQ k i).2]) D2:=
 FnC.of_i2 (fnB Tryz.func50 (by decide) rfl) fun w E vals hd=>by
  obtain ⟨v,u,rfl,⟨xs,rfl,hl⟩,⟨rfl,_⟩⟩:=zda hd
  exact ⟨zlZ (Kept.svs_rd hl) i,zie xs k i w _ (Kept.svs_rd hl)⟩
theorem zfM (k:Kept) (i:Int):FnC Tryz.prog 16 [.agg (k.svs [0]),.int .i64 i] (.tup [.int .i64 (zaQ k i).1,.int .i64 (zaQ k i).2]) D2:=
 FnC.of_i2 (fnB Tryz.func16 (by decide) rfl) fun w E vals hd=>by
  obtain ⟨v,u,rfl,⟨xs,rfl,hl⟩,⟨rfl,_⟩⟩:=zda hd
  exact ⟨zlZ (Kept.svs_rd hl) i,zoS xs k i w _ (Kept.svs_rd hl)⟩
noncomputable def zuB:Ent:=ent1 56 dKept fun k=>([],.int .i64 (err (onB k)),D2)
noncomputable def eOn:Ent:=ent1 52 dKept fun k=>([],.bool (onB k),D2)
noncomputable def zxA:Ent:=ent1 54 dKept fun k=>([],.tup [.int .i64 (zb9 k).1,.int .i64 (zb9 k).2],D2)
noncomputable def zx0:Ent:=ent2 50 dKept dInt fun k i=>([],.tup [.int .i64 (zaQ k i).1,.int .i64 (zaQ k i).2],D2)
noncomputable def zu1:Ent:=ent2 16 dKept dInt fun k i=>([],.tup [.int .i64 (zaQ k i).1,.int .i64 (zaQ k i).2],D2)
theorem zra:zaf Tryz.prog zuB:=za4 (zfU default).1 fun k _=>zfU k
theorem zx7:zaf Tryz.prog eOn:=za4 (zsE default).1 fun k _=>zsE k
theorem ztx:zaf Tryz.prog zxA:=za4 (zi2 default).1 fun k _=>zi2 k
theorem ztp:zaf Tryz.prog zx0:=za3 (zid default 0).1 fun k i _=>zid k i
theorem zqE:zaf Tryz.prog zu1:=za3 (zfM default 0).1 fun k i _=>zfM k i
noncomputable def tabA:List Ent:=[zuB,eOn,zxA,zx0,zu1]
theorem zd1:∀ e∈tabA,zaf Tryz.prog e:=zaa zra (zaa zx7 (zaa ztx (zaa ztp (zaa zqE zad))))
end Go.Proofs.YtkhphiahindnnaaGreat
