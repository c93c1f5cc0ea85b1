/- Parts of the proof, joined: the symbolic walk and what it is told of each function. Condition: as each theorem says. -/
import Derived.Lib.SliceRun
import Derived.Laws.OwnMore
import Derived.Laws.CopyOwn
import Derived.Lib.AppendStr
import Derived.Laws.StructEq
import Derived.ChangeKeysEq
import Derived.Laws.BytesString
import Derived.Lib.ConvBytes
import Derived.Sort.Walk0
import Derived.Maps.Own
import Derived.Maps.OwnOps
import Derived.Maps.OwnSet
import Derived.Maps.Views
import Derived.BigRegion
import Derived.WalkSmall
import Derived.Lib.Bytealg
import Derived.Lib.Strings
import Derived.Deep.RegionHeld3
import Derived.Test.YtfccndnnpkiajaaDq2
set_option linter.unusedVariables false
set_option linter.unusedSimpArgs false
set_option linter.unusedSectionVars false
namespace Go.Proofs.Ytfccndnnpkiajaa
open Go.RowKit Go.ChangeShapes Go.WideShapes Go.Deep
theorem zea {f:Nat→Nat→BE} {m:Nat→BE} {rest:List (Nat×BE)}:∀ (L:List Nat) (k:Nat),zaQ L=true→(∀ i t,L[i]? = some t→putF (asg f k L++rest) m t=f (k+i) t)∧(∀ t,t∉L→putF (asg f k L++rest) m t=putF rest m t)
 | [],k,_=>⟨fun i t h=>by simp at h,fun t _=>rfl⟩
 | a::r,k,hn=>by
  simp only [zaQ,Bool.and_eq_true,Bool.not_eq_true'] at hn
  obtain ⟨h1,h2⟩:=zea (f:=f) (m:=m) (rest:=rest) r (k+1) hn.2
  have har:a∉r:=by have:=hn.1;simpa using this
  have e:∀ t,putF (asg f k (a::r)++rest) m t=if t=a then f k a else putF (asg f (k+1) r++rest) m t:=fun t=>rfl
  refine ⟨fun i t h=>?_,fun t h=>?_⟩
  ·cases i with
   | zero=>
    simp only [List.getElem?_cons_zero,Option.some.injEq] at h
    subst h
    rw [e,if_pos rfl,Nat.add_zero]
   | succ i=>
    have h:=h
    simp only [List.getElem?_cons_succ] at h
    have hne:t≠a:=fun e2=>har (e2▸List.mem_of_getElem? h)
    rw [e,if_neg hne,h1 i t h,show k+1+i=k+(i+1) by omega]
  ·simp only [List.mem_cons,not_or] at h
   rw [e,if_neg h.1,h2 t h.2]
theorem zin:∀ (n c j:Nat),j<n→(blkN c n)[j]? = some (c+j)
 | n+1,c,0,_=>rfl
 | n+1,c,j+1,h=>by rw [blkN,List.getElem?_cons_succ,zin n (c+1) j (by omega),show c+1+j=c+(j+1) by omega]
 | 0,_,_,h=>by omega
theorem zdN:∀ (n c:Nat),zaQ (blkN c n)=true
 | 0,_=>rfl
 | n+1,c=>by
  rw [blkN,zaQ,Bool.and_eq_true]
  refine ⟨?_,zdN n (c+1)⟩
  cases h:(blkN (c+1) n).contains c
  ·rfl
  ·have:=(zbw n (c+1) c).1 (by simpa using h)
   omega
theorem ziB (a b:List (Nat×BE)) (m:Nat→BE):putF (a++b) m=putF a (putF b m):=by
 induction a with
 | nil=>rfl
 | cons x a ih=>obtain ⟨t,e⟩:=x;funext u;show (if u=t then e else putF (a++b) m u)=(if u=t then e else putF a (putF b m) u);rw [ih]
section
variable {P : Program} {base : Nat} {X : Cx} {w0 : World}
theorem Cl.mi_at (q:Cl) {k u:Nat} (h:q.V.T[k]? = some u):mOf q.mi (k+2)=(vwB q.V (q.gl.getD k 0) (q.V.m u)).1:=by
 rw [zc7]
 show ((q.bV.map (·.1))).getD k .empty=_
 have:=zbF (f:=fun l t=>vwB q.V l (q.V.m t)) (ls:=q.gl) h
 have e:q.bV[k]? = some (vwB q.V (q.gl.getD k 0) (q.V.m u)):=this
 simp [List.getD,e]
theorem Cl.mi_out (q:Cl) {k:Nat} (h:q.V.T[k]? = none):mOf q.mi (k+2) = .empty:=by
 rw [zc7]
 show ((q.bV.map (·.1))).getD k .empty=_
 have:q.V.T.length≤k:=by simpa using h
 have hl:q.bV.length=q.V.T.length:=zcT _ _
 simp [List.getD,List.getElem?_eq_none (show q.bV.length≤k by omega)]
theorem zjA {V:Vw} {l:Nat} (e:BE):(vwB V l e).1 ≠ .empty:=by cases e<;>simp [vwB]
theorem Cl.mi_len (q:Cl):q.mi.length=2+q.V.T.length:=by
 have:q.bV.length=q.V.T.length:=zcT _ _
 simp [Cl.mi,this];omega
structure Cl.Good (q:Cl):Prop where
 nd:zaQ q.V.T=true
 fl:∀ i i' j,(i,j)∈q.LP→(i',j)∈q.LP→i=i'
 fo:∀ i i' j,(i,j)∈q.OP→(i',j)∈q.OP→i=i'
 bl:∀ i j,(i,j)∈q.LP→i<q.nl
 bo:∀ i j,(i,j)∈q.OP→i<q.nl∧j∉q.V.T
 nl:q.nl≤2+q.V.T.length
 lv:∀ u,u∈q.V.T→(q.V.m u).live=true
 ft:∀ e,e∈q.bV→∀ T vs,e.1 = .cells T vs→vs.all SV.flat=true
theorem zjP {l:List (Nat×Nat)} (h:fnP l=true) {i i' j:Nat} (h1:(i,j)∈l) (h2:(i',j)∈l):i=i':=by
 have:=List.all_eq_true.1 (List.all_eq_true.1 h _ h1) _ h2
 simp only [Bool.or_eq_true,Bool.not_eq_true'] at this
 rcases this with h3 | h3
 ·simp at h3
 ·exact Nat.eq_of_beq_eq_true h3
theorem Cl.good {q:Cl} (h:q.ok=true):q.Good:=by
 simp only [Cl.ok,Bool.and_eq_true] at h
 obtain ⟨⟨⟨⟨⟨⟨⟨h1,h2⟩,h3⟩,h4⟩,h5⟩,h6⟩,h7⟩,h8⟩:=h
 refine ⟨h1,fun i i' j=>zjP h2,fun i i' j=>zjP h3,fun i j hp=>?_,fun i j hp=>?_,Nat.le_of_ble_eq_true h6,fun u hu=>List.all_eq_true.1 h7 u hu,fun e he T vs e2=>?_⟩
 ·have:=List.all_eq_true.1 h4 _ hp
  simp [Nat.blt] at this;omega
 ·have:=List.all_eq_true.1 h5 _ hp
  simp only [Bool.and_eq_true,Bool.not_eq_true'] at this
  exact ⟨by have:=this.1;simp [Nat.blt] at this;omega,by simpa using this.2⟩
 ·have:=List.all_eq_true.1 h8 _ he
  rw [e2] at this;exact this
theorem zkf (V:Vw) (l:Nat) (e:BE):(vwB V l e).1.isO=e.isO:=by cases e<;>rfl
section one
variable {q : Cl} {E : Env} {w : World} (hm : MemOk base X w0 E q.V.m w)
include hm
theorem Cl.hasT (hg:q.Good) {t b:Nat} (h:Has (q.env E) (mOf q.mi) t b):∃ k u,t=k+2∧q.V.T[k]? = some u∧Has E q.V.m u b:=by
 obtain ⟨hl,v,hv,hvb⟩:=h
 match t,hl,hv with
 | 0,hl,_=>cases hl
 | 1,hl,_=>cases hl
 | k+2,hl,hv=>
  have hvb:Fo (q.env E) (k+2) v (mOf q.mi (k+2)) b:=hvb
  have hv:(match q.V.T[k]? with | some u=>E.β u | none=>none)=some v:=hv
  cases hk:q.V.T[k]? with
  | none=>rw [hk] at hv;cases hv
  | some u=>
   rw [hk] at hv
   refine ⟨k,u,rfl,hk,hg.lv u (List.mem_of_getElem? hk),v,hv,?_⟩
   rw [q.mi_at hk] at hvb
   have hvb:=Fo.iff (e:=q.V.m u) (zkf _ _ _) hvb
   cases hmu:q.V.m u with
   | obj o=>
    rw [hmu] at hvb
    have h5:(match q.V.T[k]? with | some u=>E.φ u b | none=>False):=hvb
    rw [hk] at h5;exact h5
   | _=>rw [hmu] at hvb;exact hvb
theorem Cl.memIn (hg:q.Good) (hn:∀ p∈q.needs,p):MemOk w.heap.size (cxIn (q.env E) q.mi q.nl) w (q.env E) (mOf q.mi) w:=by
  have hbV:∀ k u,q.V.T[k]? = some u→vwB q.V (q.gl.getD k 0) (q.V.m u)∈q.bV:=fun k u h=>List.mem_of_getElem? (zbF (f:=fun l t=>vwB q.V l (q.V.m t)) (ls:=q.gl) h)
  have hbn:∀ k u,q.V.T[k]? = some u→∀ p∈(vwB q.V (q.gl.getD k 0) (q.V.m u)).2,p:=fun k u h p hp=>hn p (List.mem_append_right _ (List.mem_flatMap.2 ⟨_,hbV k u h,hp⟩))
  have hbl:∀ k u,q.V.T[k]? = some u→∀ p∈lpB q.V (q.gl.getD k 0) (q.V.m u),p∈q.LP:=fun k u h p hp=>List.mem_append_right _ (List.mem_flatMap.2 ⟨_,List.mem_of_getElem? (zbF (f:=fun l t=>lpB q.V l (q.V.m t)) (ls:=q.gl) h),hp⟩)
  have hbo:∀ k u,q.V.T[k]? = some u→∀ p∈opB q.V (q.gl.getD k 0) (q.V.m u),p∈q.OP:=fun k u h p hp=>List.mem_append_right _ (List.mem_flatMap.2 ⟨_,List.mem_of_getElem? (zbF (f:=fun l t=>opB q.V l (q.V.m t)) (ls:=q.gl) h),hp⟩)
  have hT:∀ t e,mOf q.mi t=e→e ≠ .dead→e ≠ .empty→∃ k u,t=k+2∧q.V.T[k]? = some u∧(vwB q.V (q.gl.getD k 0) (q.V.m u)).1=e:=by
    intro t e he h1 h2
    match t,he with
    | 0,he=>exact absurd he.symm h1
    | 1,he=>exact absurd he.symm h1
    | k+2,he=>
      cases hk:q.V.T[k]? with
      | none=>rw [q.mi_out hk] at he;exact absurd he.symm h2
      | some u=>rw [q.mi_at hk] at he;exact ⟨k,u,rfl,hk,he⟩
  have hβ:∀ k u,q.V.T[k]? = some u→(q.env E).β (k+2)=E.β u:=fun k u hk=>by
    show (match q.V.T[k]? with | some u=>E.β u | none=>none)=_
    rw [hk]
  refine ⟨fun t ht=>?_,fun t T vs ht=>?_,fun t T ls r ht=>?_,fun i b hb=>?_,fun i j b h1 h2=>?_,fun i hi he=>?_,fun t b hb=>?_,fun i b hi hb=>hb,fun t u b h1 h2=>?_,fun t v hv=>?_,BelowX.refl _ _ _,Nat.le_refl _,fun t o ht=>?_⟩
  · match t,ht with
    | 0,ht=>cases ht
    | 1,ht=>cases ht
    | k+2,ht=>
      cases hk:q.V.T[k]? with
      | some u=>rw [q.mi_at hk] at ht;exact absurd ht (zjA _)
      | none=>
        have hlen:q.V.T.length≤k:=by simpa using hk
        refine ⟨?_,fun b hb=>?_⟩
        · show (match q.V.T[k]? with | some u=>E.β u | none=>none)=none
          rw [hk]
        · have:=hg.nl
          rcases hb with ⟨j,hj,_⟩ | ⟨j,hj,_⟩
          · have:=hg.bl _ _ hj;omega
          · have:=(hg.bo _ _ hj).1;omega
  · obtain ⟨k,u,rfl,hk,he⟩:=hT t _ ht (by simp) (by simp)
    cases hmu:q.V.m u with
    | cells T' us=>
      rw [hmu] at he
      simp only [vwB,BE.cells.injEq] at he
      obtain ⟨rfl,rfl⟩:=he
      obtain ⟨b,xs,c1,c2,c3,c4⟩:=hm.cells u _ _ hmu
      have n1:=hbn k u hk;have n2:=hbl k u hk;have n3:=hbo k u hk
      rw [hmu] at n1 n2 n3
      refine ⟨b,xs,(hβ k u hk).trans c1,c2,zd5 us xs (fun s hs v hv hp=>Cl.den0 hm (fun p hp=>n2 p (List.mem_flatMap.2 ⟨s,hs,hp⟩)) (fun p hp=>n3 p (List.mem_flatMap.2 ⟨s,hs,hp⟩)) hv hp) c3 n1,?_⟩
      exact hg.ft _ (hbV k u hk) T' _ (by rw [hmu];rfl)
    | row T' ls r=>rw [hmu] at he;simp [vwB] at he
    | obj o=>rw [hmu] at he;simp [vwB] at he
    | dead=>rw [hmu] at he;simp [vwB] at he
    | empty=>rw [hmu] at he;simp [vwB] at he
  · obtain ⟨k,u,rfl,hk,he⟩:=hT t _ ht (by simp) (by simp)
    cases hmu:q.V.m u with
    | row T' ls' r' =>
      rw [hmu] at he
      simp only [vwB,BE.row.injEq] at he
      obtain ⟨rfl,rfl,rfl⟩:=he
      obtain ⟨v,c1,c2⟩:=hm.row u _ _ _ hmu
      have n2:=hbl k u hk
      rw [hmu] at n2
      exact ⟨v,(hβ k u hk).trans c1,c2.mono (Nat.le_refl _) (fun b hb=>Cl.set0 hm (fun i hi=>n2 _ (List.mem_map.2 ⟨i,hi,rfl⟩)) hb)⟩
    | cells T' us=>rw [hmu] at he;simp [vwB] at he
    | obj o=>rw [hmu] at he;simp [vwB] at he
    | dead=>rw [hmu] at he;simp [vwB] at he
    | empty=>rw [hmu] at he;simp [vwB] at he
  · rcases hb with ⟨j,hj,hs⟩ | ⟨t,ht,hh⟩
    · refine ⟨(hm.lab j b hs).1,fun hi=>?_⟩
      have:=hg.bl _ _ hj
      have hi:q.nl≤i:=hi
      omega
    · refine ⟨hm.lt hh,fun hi=>?_⟩
      have:=(hg.bo _ _ ht).1
      have hi:q.nl≤i:=hi
      omega
  · rcases h1 with ⟨j1,hj1,hs1⟩ | ⟨t1,ht1,hh1⟩
    · rcases h2 with ⟨j2,hj2,hs2⟩ | ⟨t2,ht2,hh2⟩
      · have:=hm.dis j1 j2 b hs1 hs2
        subst this
        exact hg.fl _ _ _ hj1 hj2
      · exact absurd ⟨j1,hs1⟩ (hm.sep t2 b hh2).1
    · rcases h2 with ⟨j2,hj2,hs2⟩ | ⟨t2,ht2,hh2⟩
      · exact absurd ⟨j2,hs2⟩ (hm.sep t1 b hh1).1
      · have:=hm.inj t1 t2 b hh1 hh2
        subst this
        exact hg.fo _ _ _ ht1 ht2
  · have hi:i<q.nl:=hi
    have:=hg.nl
    match i,hi,he with
    | 0,_,he=>cases he
    | 1,_,he=>cases he
    | k+2,hi,he=>
      cases hk:q.V.T[k]? with
      | none => have : q.V.T.length ≤ k := by simpa using hk
                omega
      | some u=>rw [q.mi_at hk] at he;exact zjA _ he
  · refine ⟨fun ⟨i,hi⟩=>?_,.inr ⟨t,hb⟩⟩
    obtain ⟨k,u,rfl,hk,hh⟩:=Cl.hasT hm hg hb
    rcases hi with ⟨j,hj,hs⟩ | ⟨t2,ht2,hh2⟩
    · exact (hm.sep u b hh).1 ⟨j,hs⟩
    · have:=hm.inj u t2 b hh hh2
      subst this
      exact (hg.bo _ _ ht2).2 (List.mem_of_getElem? hk)
  · obtain ⟨k1,u1,rfl,hk1,hh1⟩:=Cl.hasT hm hg h1
    obtain ⟨k2,u2,rfl,hk2,hh2⟩:=Cl.hasT hm hg h2
    have:=hm.inj u1 u2 b hh1 hh2
    subst this
    rw [zec hg.nd hk1 hk2]
  · have hv:(if t<q.mi.length then (q.env E).β t else none)=some v:=hv
    split at hv
    · exact hv
    · cases hv
  · obtain ⟨k,u,rfl,hk,he⟩:=hT t _ ht (by simp) (by simp)
    cases hmu:q.V.m u with
    | obj o' =>
      rw [hmu] at he
      have he:BE.obj o'=BE.obj o:=he
      injection he with he
      subst he
      obtain ⟨b,c1,c2⟩:=hm.obj u _ hmu
      have e:(q.env E).φ (k+2)=E.φ u:=by
        funext x
        show (match q.V.T[k]? with | some u=>E.φ u x | none=>False)=_
        rw [hk]
      exact ⟨b,(hβ k u hk).trans c1,by rw [e];exact c2⟩
    | row T' ls r=>rw [hmu] at he;simp [vwB] at he
    | cells T' us=>rw [hmu] at he;simp [vwB] at he
    | dead=>rw [hmu] at he;simp [vwB] at he
    | empty=>rw [hmu] at he;simp [vwB] at he
end one
end
end Go.Proofs.Ytfccndnnpkiajaa
namespace Go.Proofs.Ytfccndnnpkiajaa
open Go.RowKit Go.ChangeShapes Go.WideShapes Go.Deep
def Cl.back (q:Cl) (E E':Env) (c n:Nat):Env where
 β:=fun t=>if c≤t∧t<c+16 then (if t-c<n-(2+q.V.T.length) then E'.β (2+q.V.T.length+(t-c)) else none) else E.β t
 σ:=fun i b=>if c≤i∧i<c+16 then E'.σ (q.nl+(i-c)) b else E.σ i b
 φ:=fun t=>if c≤t∧t<c+16 then E'.φ (2+q.V.T.length+(t-c)) else (match idxO q.V.T t with
  | some k=>E'.φ (2+k)
  | none=>E.φ t)
theorem zeM {E E':Env} {w:World} {f:SV→SV}:∀ (ss:List SV) (vs:List Value),(∀ s,s∈ss→∀ v,DenV E w s v→DenV E' w (f s) v)→DenL E w ss vs→DenL E' w (ss.map f) vs
 | [],[],_,_=>trivial
 | s::ss,v::vs,hf,h=>⟨hf s (List.mem_cons_self ..) v h.1,zeM ss vs (fun s hs=>hf s (List.mem_cons_of_mem _ hs)) h.2⟩
 | [],_::_,_,h=>h.elim
 | _::_,[],_,h=>h.elim
theorem zi7 {q:Cl} {c:Nat} {vs:List SV} (h:vs.all SV.flat=true):(vs.map (rel0 q c)).all SV.flat=true:=by
 simp only [List.all_eq_true,List.mem_map] at *
 rintro x ⟨s,hs,rfl⟩
 have:=h s hs
 cases s<;>first | exact this | rfl
theorem zhg {q:Cl} {c:Nat} (e:BE):relB q c e ≠ .empty:=by cases e<;>simp [relB]
section
variable {P : Program} {base : Nat} {X : Cx} {w0 : World}
theorem Cl.call {q:Cl} {E:Env} {w:World} (hm:MemOk base X w0 E q.V.m w) (hg:q.Good) (hn:∀ p∈q.needs,p) {c:Nat} (hfree:∀ t,c≤t→t<c+16→q.V.m t = .empty) {f:FuncId} {out:SV} {mo:List BE} (hF:FnG P f q.nl q.mi q.ins out mo) (hO:q.okO out mo=true)
    {vals:List Value} (hd:DenL E w q.svs vals):Calls P f vals.toArray w (fun e w'=>∃ v E',e = .returned v∧E.Le E'∧Same E.lab w w'∧DenV E' w' (relV q c out) v∧MemOk base X w0 E' (putF (q.upds c mo) q.V.m) w'):=by
  simp only [Cl.okO,Bool.and_eq_true] at hO
  obtain ⟨⟨⟨hO1,hO2⟩,hO3⟩,hO4⟩:=hO
  have hO3:=Nat.le_of_ble_eq_true hO3
  have hO4:=Nat.le_of_ble_eq_true hO4
  have hin:=Cl.memIn hm hg hn
  have hda:DenL (q.env E) w q.ins vals:=Cl.denA hm q.svs q.al vals (fun p hp=>List.mem_append_left _ hp) (fun p hp=>List.mem_append_left _ hp) hd (fun p hp=>hn p (List.mem_append_left _ hp))
  refine Calls.mono (hF.2 w (q.env E) vals hin hda) ?_
  rintro e' w' ⟨v,E',rfl,hv,hm'⟩
  -- tags of the caller's
  have hlive:∀ u,u∈q.V.T→¬ (c≤u∧u<c+16):=fun u hu ⟨h1,h2⟩=>by
    have:=hg.lv u hu
    rw [hfree u h1 h2] at this;cases this
  have hβE:∀ t,c≤t∧t<c+16→E.β t=none:=fun t h=>(hm.empty t (hfree t h.1 h.2)).1
  have hσE:∀ t b,c≤t∧t<c+16→¬ E.σ t b:=fun t b h=>(hm.empty t (hfree t h.1 h.2)).2 b
  have hbβ:∀ t,¬ (c≤t∧t<c+16)→(q.back E E' c mo.length).β t=E.β t:=fun t h=>by
    show (if _ then _ else E.β t)=_
    rw [if_neg h]
  have hbβn:∀ j,2+q.V.T.length+j<mo.length→(q.back E E' c mo.length).β (c+j)=E'.β (2+q.V.T.length+j):=fun j h=>by
    show (if c≤c+j∧c+j<c+16 then (if c+j-c<mo.length-(2+q.V.T.length) then E'.β (2+q.V.T.length+(c+j-c)) else none) else E.β (c+j))=_
    rw [if_pos ⟨by omega,by omega⟩,if_pos (by omega),show c+j-c=j by omega]
  have hbσ:∀ i b,¬ (c≤i∧i<c+16)→((q.back E E' c mo.length).σ i b↔E.σ i b):=fun i b h=>by
    show (if _ then _ else E.σ i b)↔_
    rw [if_neg h]
  have hbσn:∀ j b,j<16→((q.back E E' c mo.length).σ (c+j) b↔E'.σ (q.nl+j) b):=fun j b h=>by
    show (if c≤c+j∧c+j<c+16 then E'.σ (q.nl+(c+j-c)) b else E.σ (c+j) b)↔_
    rw [if_pos ⟨by omega,by omega⟩,show c+j-c=j by omega]
  have hkeep:∀ k u,q.V.T[k]? = some u→∃ x,E.β u=some x∧E'.β (2+k)=some x:=fun k u hk=>by
    obtain ⟨x,hx,_⟩:=hm.holds (hg.lv u (List.mem_of_getElem? hk))
    refine ⟨x,hx,hm'.keep (2+k) x ?_⟩
    show (if 2+k<q.mi.length then (q.env E).β (2+k) else none)=some x
    have hlt:k<q.V.T.length:=(List.getElem?_eq_some_iff.1 hk).1
    rw [if_pos (by rw [q.mi_len];omega),Nat.add_comm 2 k]
    show (match q.V.T[k]? with | some u=>E.β u | none=>none)=_
    rw [hk];exact hx
  -- a tag of the callee's, as the caller has it
  have htag:∀ t,1<t→t<mo.length→∀ x,E'.β t=some x→(q.back E E' c mo.length).β (relT q c t)=some x:=by
    intro t h1 h2 x hx
    unfold relT
    rw [zcO]
    split
    · rename_i hlt
      obtain ⟨k,rfl⟩:∃ k,t=2+k:=⟨t-2,by omega⟩
      have hk:q.V.T[k]? = some (q.V.T[k]'(by omega)):=List.getElem?_eq_getElem (by omega)
      obtain ⟨y,h3,h4⟩:=hkeep k _ hk
      rw [h4] at hx
      have e:q.V.T.getD (2+k-2) 0=q.V.T[k]'(by omega):=by rw [show 2+k-2=k by omega];simp [List.getD,hk]
      rw [e,hbβ _ (hlive _ (List.mem_of_getElem? hk)),h3];exact hx
    · rename_i hge
      have:=hbβn (t-(2+q.V.T.length)) (by omega)
      rw [show 2+q.V.T.length+(t-(2+q.V.T.length))=t by omega] at this
      rw [this];exact hx
  have hset:∀ ls,okLs q ls=true→∀ b,E'.set ls b→(q.back E E' c mo.length).set (relL q c ls) b:=by
    intro ls hls b ⟨i,hi,hs⟩
    have h1:=List.all_eq_true.1 hls i hi
    rw [zcO] at h1
    split at h1
    · rename_i hlt
      rcases hm'.old i b hlt hs with ⟨j,hj,hjs⟩ | ⟨t,ht,_⟩
      · refine ⟨j,List.mem_flatMap.2 ⟨i,hi,?_⟩,?_⟩
        · rw [zcO,if_pos hlt]
          exact List.mem_map.2 ⟨(i,j),List.mem_filter.2 ⟨hj,by simp⟩,rfl⟩
        · rw [hbσ j b (fun h=>hσE j b h hjs)];exact hjs
      · exfalso
        have h2:(q.OP.any fun p=>Nat.beq p.1 i)=true:=List.any_eq_true.2 ⟨(i,t),ht,by simp⟩
        rw [h2] at h1;cases h1
    · rename_i hge
      have h2:i-q.nl<16:=by simp [Nat.blt] at h1;omega
      refine ⟨c+(i-q.nl),List.mem_flatMap.2 ⟨i,hi,?_⟩,?_⟩
      · rw [zcO,if_neg hge];simp
      · rw [hbσn _ b h2,show q.nl+(i-q.nl)=i by omega];exact hs
  have hden0:∀ s,ok0 q mo.length s=true→∀ v,DenV E' w' s v→DenV (q.back E E' c mo.length) w' (rel0 q c s) v:=by
    intro s hs v hv
    cases s
    case sl ls r=>exact Rd.mono hv (fun b _ hb=>hset ls hs b hb)
    case own t=>
      simp only [ok0,Bool.and_eq_true] at hs
      have h1:1<t:=by have:=hs.1;simp [Nat.blt] at this;omega
      have h2:t<mo.length:=by have:=hs.2;simp [Nat.blt] at this;omega
      exact ⟨htag t h1 h2 v hv.1,hv.2⟩
    case ptr t o=>
      simp only [ok0,Bool.and_eq_true] at hs
      have h1:1<t:=by have:=hs.1;simp [Nat.blt] at this;omega
      have h2:t<mo.length:=by have:=hs.2;simp [Nat.blt] at this;omega
      obtain ⟨b,h3,h4⟩:=hv
      exact ⟨b,htag t h1 h2 _ h3,h4⟩
    all_goals first | exact hv | trivial
  have hden1:∀ s,ok1 q mo.length s=true→∀ v,DenV E' w' s v→DenV (q.back E E' c mo.length) w' (rel1 q c s) v:=by
    intro s hs v hv
    cases s
    case agg vs=>
      obtain ⟨xs,h1,h2⟩:=hv
      exact ⟨xs,h1,zeM vs xs (fun s h v hv=>hden0 s (List.all_eq_true.1 hs s h) v hv) h2⟩
    case clo f vs=>
      obtain ⟨xs,h1,h2⟩:=hv
      exact ⟨xs,h1,zeM vs xs (fun s h v hv=>hden0 s (List.all_eq_true.1 hs s h) v hv) h2⟩
    all_goals
      have h2:=fun h=>hden0 _ h v hv
      exact h2 hs
  have hdenV:DenV (q.back E E' c mo.length) w' (relV q c out) v:=by
    cases out
    case tup vs=>
      obtain ⟨xs,h1,h2⟩:=hv
      exact ⟨xs,h1,zeM vs xs (fun s h v hv=>hden1 s (List.all_eq_true.1 hO1 s h) v hv) h2⟩
    all_goals
      have h2:=fun h=>hden1 _ h v hv
      exact h2 hO1
  have hle:E.Le (q.back E E' c mo.length):=⟨fun t x hx=>by
      rw [hbβ t (fun h=>by rw [hβE t h] at hx;cases hx)];exact hx,fun i b hs=>(hbσ i b (fun h=>hσE i b h hs)).2 hs⟩
  have hbx:=hm'.below
  -- blocks that may have been written
  have hX:∀ b,(cxIn (q.env E) q.mi q.nl).X b→∃ u,u∈q.V.T∧Has E q.V.m u b:=by
    rintro b ⟨t,ht⟩
    obtain ⟨k,u,_,hk,hh⟩:=Cl.hasT hm hg ht
    exact ⟨u,List.mem_of_getElem? hk,hh⟩
  have hSame:Same E.lab w w':=⟨hbx.size,fun b hl hlt=>hbx.block b hlt (fun hx=>by
    obtain ⟨u,_,hh⟩:=hX b hx
    exact (hm.sep u b hh).1 hl)⟩
  refine ⟨v,_,rfl,hle,hSame,hdenV,?_⟩
  -- the memory
  have hp1:=zea (f:=fun k _=>relB q c (mo.getD (2+k) .dead)) (m:=q.V.m) (rest:=asg (fun j _=>relB q c (mo.getD (2+q.V.T.length+j) .dead)) 0 (blkN c 16)) q.V.T 0 hg.nd
  have hp2:=zea (f:=fun j _=>relB q c (mo.getD (2+q.V.T.length+j) .dead)) (m:=q.V.m) (rest:=[]) (blkN c 16) 0 (zdN 16 c)
  rw [List.append_nil] at hp2
  have hmT:∀ k u,q.V.T[k]? = some u→putF (q.upds c mo) q.V.m u=relB q c (mo.getD (2+k) .dead):=fun k u hk=>by
    have:=hp1.1 k u hk
    rw [Nat.zero_add] at this;exact this
  have hmN:∀ j,j<16→putF (q.upds c mo) q.V.m (c+j)=relB q c (mo.getD (2+q.V.T.length+j) .dead):=fun j hj=>by
    have h1:=hp1.2 (c+j) (fun h=>hlive _ h ⟨by omega,by omega⟩)
    have h2:=hp2.1 j (c+j) (zin 16 c j hj)
    rw [Nat.zero_add] at h2
    exact h1.trans h2
  have hmO:∀ t,t∉q.V.T→¬ (c≤t∧t<c+16)→putF (q.upds c mo) q.V.m t=q.V.m t:=fun t h1 h2=>
    (hp1.2 t h1).trans (hp2.2 t (fun h=>h2 ((zbw 16 c t).1 h)))
  have hrT:∀ k u,q.V.T[k]? = some u→relT q c (2+k)=u:=fun k u hk=>by
    have hlt:k<q.V.T.length:=(List.getElem?_eq_some_iff.1 hk).1
    unfold relT
    rw [zcO,if_pos (by omega),show 2+k-2=k by omega]
    simp [List.getD,hk]
  have hrN:∀ j,relT q c (2+q.V.T.length+j)=c+j:=fun j=>by
    unfold relT
    rw [zcO,if_neg (by omega),show 2+q.V.T.length+j-(2+q.V.T.length)=j by omega]
  have hφ:∀ t,1<t→t<mo.length→(q.back E E' c mo.length).φ (relT q c t)=E'.φ t:=fun t h1 h2=>by
    by_cases hlt:t<2+q.V.T.length
    · obtain ⟨k,rfl⟩:∃ k,t=2+k:=⟨t-2,by omega⟩
      have hk:q.V.T[k]? = some (q.V.T[k]'(by omega)):=List.getElem?_eq_getElem (by omega)
      generalize q.V.T[k]'(by omega)=u at hk
      rw [hrT k u hk]
      show (if c≤u∧u<c+16 then _ else (match idxO q.V.T u with | some k=>E'.φ (2+k) | none=>E.φ u))=_
      rw [if_neg (hlive u (List.mem_of_getElem? hk))]
      cases hi:idxO q.V.T u with
      | none=>exact absurd (List.mem_of_getElem? hk) (zeT hi)
      | some k'=>rw [zec hg.nd (zel hi) hk]
    · obtain ⟨j,rfl⟩:∃ j,t=2+q.V.T.length+j:=⟨t-(2+q.V.T.length),by omega⟩
      rw [hrN j]
      show (if c≤c+j∧c+j<c+16 then E'.φ (2+q.V.T.length+(c+j-c)) else _)=_
      rw [if_pos ⟨by omega,by omega⟩,show c+j-c=j by omega]
  have hφo:∀ t,t∉q.V.T→¬ (c≤t∧t<c+16)→(q.back E E' c mo.length).φ t=E.φ t:=fun t h1 h2=>by
    show (if c≤t∧t<c+16 then _ else (match idxO q.V.T t with | some k=>E'.φ (2+k) | none=>E.φ t))=_
    rw [if_neg h2]
    cases hi:idxO q.V.T t with
    | none=>rfl
    | some k=>exact absurd (List.mem_of_getElem? (zel hi)) h1
  have hmo:∀ t,t<mo.length→mOf mo t=mo.getD t .dead:=fun t h2=>by
    have hat:mo[t]? = some (mo[t]'h2):=List.getElem?_eq_getElem h2
    rw [zc7];simp [List.getD,hat]
  have hFo:∀ t,1<t→t<mo.length→∀ x b,Fo (q.back E E' c mo.length) (relT q c t) x (relB q c (mo.getD t .dead)) b→(relB q c (mo.getD t .dead)).live=true→Fo E' t x (mOf mo t) b:=by
    intro t h1 h2 x b hf hl
    rw [hmo t h2]
    generalize mo.getD t .dead=e at *
    cases e with
    | empty=>cases hl
    | dead=>cases hl
    | cells T vs=>exact hf
    | row T ls r=>exact hf
    | obj o => have hf : (q.back E E' c mo.length).φ (relT q c t) b := hf
               rw [hφ t h1 h2] at hf;exact hf
  -- what a callee's entry says, in the caller's names
  have hHold:∀ t,1<t→t<mo.length→(relB q c (mo.getD t .dead)).live=true→∃ x,E'.β t=some x∧Holds (q.back E E' c mo.length) w' (relT q c t) x (relB q c (mo.getD t .dead))∧(mOf mo t).live=true:=by
    intro t h1 h2 hl
    have hat:mo[t]? = some (mo[t]'h2):=List.getElem?_eq_getElem h2
    have e1:mo.getD t .dead=mo[t]'h2:=by simp [List.getD,hat]
    have e2:mOf mo t=mo[t]'h2:=by rw [zc7];simp [List.getD,hat]
    rw [e1] at hl ⊢
    rw [e2]
    have hok:okB q mo.length (mo[t]'h2)=true:=List.all_eq_true.1 hO2 _ (List.mem_of_getElem? hat)
    generalize mo[t]'h2=e at *
    cases e with
    | empty=>cases hl
    | dead=>cases hl
    | cells T vs=>
      obtain ⟨b,xs,c1,c2,c3,c4⟩:=hm'.cells t T vs e2
      exact ⟨_,c1,⟨b,xs,rfl,c2,zeM vs xs (fun s hs v hv=>hden0 s (List.all_eq_true.1 hok s hs) v hv) c3,zi7 c4⟩,rfl⟩
    | row T ls r=>
      obtain ⟨x,c1,c2⟩:=hm'.row t T ls r e2
      exact ⟨x,c1,c2.mono (Nat.le_refl _) (fun b hb=>hset ls hok b hb),rfl⟩
    | obj o=>
      obtain ⟨b,c1,c2⟩:=hm'.obj t o e2
      exact ⟨_,c1,⟨b,rfl,by rw [hφ t h1 h2];exact c2⟩,rfl⟩
  -- whose block it is
  have hcase:∀ t b,Has (q.back E E' c mo.length) (putF (q.upds c mo) q.V.m) t b→(∃ t',1<t'∧t'<mo.length∧Has E' (mOf mo) t' b∧t=relT q c t')∨(t∉q.V.T∧¬ (c≤t∧t<c+16)∧Has E q.V.m t b):=by
    intro t b ⟨hl,x,hx,hxb⟩
    by_cases ht:t∈q.V.T
    · obtain ⟨k,hk,e⟩:=List.getElem_of_mem ht
      have hk2:q.V.T[k]? = some t:=by rw [← e];exact List.getElem?_eq_getElem hk
      rw [hmT k t hk2] at hl hxb
      obtain ⟨y,h1,_,h3⟩:=hHold (2+k) (by omega) (by omega) hl
      obtain ⟨z,h4,h5⟩:=hkeep k t hk2
      rw [hbβ t (hlive t ht),h4] at hx
      simp only [Option.some.injEq] at hx
      subst hx
      exact .inl ⟨2+k,by omega,by omega,⟨h3,_,h5,hFo (2+k) (by omega) (by omega) _ b (by rw [hrT k t hk2];exact hxb) hl⟩,(hrT k t hk2).symm⟩
    · by_cases hc:c≤t∧t<c+16
      · obtain ⟨j,rfl⟩:∃ j,t=c+j:=⟨t-c,by omega⟩
        rw [hmN j (by omega)] at hl hxb
        have hlt:2+q.V.T.length+j<mo.length:=by
          rcases Nat.lt_or_ge (2+q.V.T.length+j) mo.length with h | h
          · exact h
          · simp [List.getD,List.getElem?_eq_none h,relB,BE.live] at hl
        obtain ⟨y,h1,_,h3⟩:=hHold _ (by omega) hlt hl
        rw [hbβn j hlt,h1] at hx
        simp only [Option.some.injEq] at hx
        subst hx
        exact .inl ⟨_,by omega,hlt,⟨h3,_,h1,hFo _ (by omega) hlt _ b (by rw [hrN j];exact hxb) hl⟩,(hrN j).symm⟩
      · rw [hmO t ht hc] at hl hxb
        rw [hbβ t hc] at hx
        refine .inr ⟨ht,hc,hl,x,hx,?_⟩
        cases hmt:q.V.m t with
        | obj o=>
          rw [hmt] at hxb
          have hxb:(q.back E E' c mo.length).φ t b:=hxb
          rw [hφo t ht hc] at hxb;exact hxb
        | _=>rw [hmt] at hxb;exact hxb
  have hbl:∀ i b,(q.back E E' c mo.length).σ i b→(c≤i∧i<c+16∧E'.σ (q.nl+(i-c)) b)∨(¬ (c≤i∧i<c+16)∧E.σ i b):=fun i b hs=>by
    by_cases hc:c≤i∧i<c+16
    · obtain ⟨j,rfl⟩:∃ j,i=c+j:=⟨i-c,by omega⟩
      rw [hbσn j b (by omega)] at hs
      exact .inl ⟨hc.1,hc.2,by rw [show c+j-c=j by omega];exact hs⟩
    · exact .inr ⟨hc,(hbσ i b hc).1 hs⟩
  -- a block that the callee names is new or handed in
  have hnewL:∀ j b,q.nl≤j→E'.σ j b→w.heap.size≤b∨∃ u,u∈q.V.T∧Has E q.V.m u b:=fun j b hj hs=>((hm'.lab j b hs).2 hj).imp id (hX b)
  have hnewT:∀ t b,Has E' (mOf mo) t b→w.heap.size≤b∨∃ u,u∈q.V.T∧Has E q.V.m u b:=fun t b hh=>((hm'.sep t b hh).2).imp id (hX b)
  refine hm.go hle hSame (fun t=>t∈q.V.T∨(c≤t∧t<c+16)) (fun t ht=>?_) (fun t ht hmt b hs=>?_) (fun t b ht hh=>hbx.block b (hm.lt hh) (fun hx=>?_)) (fun t ht=>?_) (fun i b hs=>?_) (fun i j b h1 h2=>?_) (fun t b hh=>?_) (fun i b hi hs=>?_) (fun t u b h1 h2=>?_)
    ⟨hbx.os,hbx.tape,hbx.output,hbx.size,fun b hlt hnx=>hbx.block b (Nat.lt_of_lt_of_le hlt hm.base) (fun hx=>?_)⟩
  · simp only [not_or] at ht
    exact ⟨hmO t ht.1 ht.2,hbβ t ht.2,hφo t ht.1 ht.2⟩
  · simp only [not_or] at ht
    exact (hm.empty t hmt).2 b ((hbσ t b ht.2).1 hs)
  · simp only [not_or] at ht
    obtain ⟨u,hu,hh2⟩:=hX b hx
    exact ht.1 (hm.inj t u b hh hh2▸hu)
  · by_cases hT:t∈q.V.T
    · obtain ⟨k,hk,e⟩:=List.getElem_of_mem hT
      have hk2:q.V.T[k]? = some t:=by rw [← e];exact List.getElem?_eq_getElem hk
      rw [hmT k t hk2]
      refine ⟨zhg _,fun hl=>?_⟩
      obtain ⟨y,h1,h2,_⟩:=hHold (2+k) (by omega) (by omega) hl
      obtain ⟨z,h4,h5⟩:=hkeep k t hk2
      rw [h5] at h1
      simp only [Option.some.injEq] at h1
      subst h1
      exact ⟨z,by rw [hbβ t (hlive t hT)];exact h4,by rw [hrT k t hk2] at h2;exact h2⟩
    · have hc:=ht.resolve_left hT
      obtain ⟨j,rfl⟩:∃ j,t=c+j:=⟨t-c,by omega⟩
      rw [hmN j (by omega)]
      refine ⟨zhg _,fun hl=>?_⟩
      have hlt:2+q.V.T.length+j<mo.length:=by
        rcases Nat.lt_or_ge (2+q.V.T.length+j) mo.length with h | h
        · exact h
        · simp [List.getD,List.getElem?_eq_none h,relB,BE.live] at hl
      obtain ⟨y,h1,h2,_⟩:=hHold _ (by omega) hlt hl
      exact ⟨y,by rw [hbβn j hlt];exact h1,by rw [hrN j] at h2;exact h2⟩
  · rcases hbl i b hs with ⟨h1,h2,h3⟩ | ⟨h1,h3⟩
    · refine ⟨(hm'.lab _ b h3).1,fun _=>?_⟩
      rcases hnewL _ b (by omega) h3 with h4 | ⟨u,hu,hh⟩
      · exact .inl (Nat.le_trans hm.base h4)
      · exact (hm.sep u b hh).2
    · exact ⟨Nat.lt_of_lt_of_le (hm.lab i b h3).1 hbx.size,(hm.lab i b h3).2⟩
  · have cross:∀ j b,∀ i',E'.σ (q.nl+j) b→E.σ i' b→False:=fun j b i' h3 h4=>by
      rcases hnewL _ b (by omega) h3 with h5 | ⟨u,hu,hh⟩
      · have:=(hm.lab i' b h4).1;omega
      · exact (hm.sep u b hh).1 ⟨i',h4⟩
    rcases hbl i b h1 with ⟨h3,h4,h5⟩ | ⟨h3,h5⟩
    · rcases hbl j b h2 with ⟨h6,h7,h8⟩ | ⟨h6,h8⟩
      · have:=hm'.dis _ _ b h5 h8;omega
      · exact (cross _ b j h5 h8).elim
    · rcases hbl j b h2 with ⟨h6,h7,h8⟩ | ⟨h6,h8⟩
      · exact (cross _ b i h8 h5).elim
      · exact hm.dis i j b h5 h8
  · rcases hcase t b hh with ⟨t',h1,h2,h3,h4⟩ | ⟨h1,h2,h3⟩
    · refine ⟨fun ⟨i,hi⟩=>?_,?_⟩
      · rcases hbl i b hi with ⟨_,_,h5⟩ | ⟨_,h5⟩
        · exact (hm'.sep t' b h3).1 ⟨_,h5⟩
        · rcases hnewT t' b h3 with h6 | ⟨u,hu,hh2⟩
          · have:=(hm.lab i b h5).1;omega
          · exact (hm.sep u b hh2).1 ⟨i,h5⟩
      · rcases hnewT t' b h3 with h6 | ⟨u,hu,hh2⟩
        · exact .inl (Nat.le_trans hm.base h6)
        · exact (hm.sep u b hh2).2
    · refine ⟨fun ⟨i,hi⟩=>?_,(hm.sep t b h3).2⟩
      rcases hbl i b hi with ⟨_,_,h5⟩ | ⟨_,h5⟩
      · rcases hnewL _ b (by omega) h5 with h6 | ⟨u,hu,hh2⟩
        · have:=hm.lt h3;omega
        · exact h1 (hm.inj t u b h3 hh2▸hu)
      · exact (hm.sep t b h3).1 ⟨i,h5⟩
  · rcases hbl i b hs with ⟨h1,h2,_⟩ | ⟨_,h3⟩
    · exact absurd (hfree i h1 h2) (hm.low i hi)
    · exact hm.old i b hi h3
  · rcases hcase t b h1 with ⟨t',a1,a2,a3,a4⟩ | ⟨a1,a2,a3⟩
    · rcases hcase u b h2 with ⟨u',b1,b2,b3,b4⟩ | ⟨b1,b2,b3⟩
      · rw [a4,b4,hm'.inj t' u' b a3 b3]
      · exfalso
        rcases hnewT t' b a3 with h6 | ⟨z,hz,hh2⟩
        · have:=hm.lt b3;omega
        · exact b1 (hm.inj u z b b3 hh2▸hz)
    · rcases hcase u b h2 with ⟨u',b1,b2,b3,b4⟩ | ⟨b1,b2,b3⟩
      · exfalso
        rcases hnewT u' b b3 with h6 | ⟨z,hz,hh2⟩
        · have:=hm.lt a3;omega
        · exact a1 (hm.inj t z b a3 hh2▸hz)
      · exact hm.inj t u b a3 b3
  · obtain ⟨u,_,hh⟩:=hX b hx
    rcases (hm.sep u b hh).2 with h1 | h1
    · omega
    · exact hnx h1
end
end Go.Proofs.Ytfccndnnpkiajaa
namespace Go.Proofs.Ytfccndnnpkiajaa
open Go.RowKit Go.ChangeShapes Go.WideShapes Go.Deep
def ziR:BE→Bool
 | .row .. => true
 | _=>false
def zaB:BE→List Nat
 | .cells _ vs=>vs.flatMap zae
 | _=>[]
def zd8 (m:Nat→BE) (svs:List SV):List Nat:=
 dedN [] (svs.flatMap zaq++((svs.flatMap zaq).flatMap fun t=>zaB (m t)).filter fun t=>ziR (m t))
def nrmS:Nat→List (Nat×TypeId×RL)→List SV→List SV×List (Nat×BE)
 | _,[],vs=>(vs,[])
 | c,(i,T,r)::q,vs=>match vs[i]? with
  | some .nil=>((nrmS (c+1) q (vs.set i (.own c))).1,(c,.row T [] r.emp)::(nrmS (c+1) q (vs.set i (.own c))).2)
  | _=>nrmS (c+1) q vs
def zbM:List SV→Option Nat
 | []=>none
 | .ptr t _::_=>some t
 | _::r=>zbM r
def nrm (vr:List (Nat×TypeId×RL)) (c:Nat) (m:Nat→BE) (svs:List SV):List (Nat×BE):=
 match zbM svs with
 | some t=>match m t with
  | .cells T vs=>match (nrmS c vr vs).2 with
   | []=>[]
   | U=>(t,.cells T (nrmS c vr vs).1)::U
  | _=>[]
 | none=>[]
def clOf (e:Ent) (m1:Nat→BE) (svs:List SV):Cl:=⟨⟨m1,match e.wr with | true=>zd8 m1 svs | false=>[]⟩,e.al,e.gl,e.nl,svs⟩
def orcE (e:Ent) (c:Nat) (st:St) (svs:List SV) (U:List (Nat×BE)) (q:Cl):Option Upd:=
 if q.ok&&(blkN c 24).all st.free&&Nat.ble e.vr.length 8 then (match e.go q.ins q.mi with
  | some (n,out,mo)=>if q.okO out mo then some ⟨q.needs++n,relV q (c+8) out,q.upds (c+8) mo++U⟩ else none
  | none=>none) else none
def orcT (tab:List Ent) (c:Nat) (f:FuncId) (st:St) (svs:List SV):Option Upd:=
 match zg8 tab f with
 | none=>none
 | some e=>orcE e c st svs (nrm e.vr c st.m svs) (clOf e (putF (nrm e.vr c st.m svs) st.m) svs)
section
variable {P : Program} {base : Nat} {X : Cx} {w0 : World}
theorem zb7:∀ (vr:List (Nat×TypeId×RL)) (c:Nat) (vs:List SV),∀ t e,(t,e)∈(nrmS c vr vs).2→c≤t∧t<c+vr.length∧ziR e=true
 | [],c,vs,t,e,h=>by simp [nrmS] at h
 | (i,T,r)::q,c,vs,t,e,h=>by
  simp only [nrmS] at h
  split at h
  ·rcases List.mem_cons.1 h with h1 | h1
   ·cases h1;exact ⟨Nat.le_refl _,by simp,rfl⟩
   ·have:=zb7 q (c+1) _ t e h1
    exact ⟨by omega,by simp;omega,this.2.2⟩
  ·have:=zb7 q (c+1) _ t e h
   exact ⟨by omega,by simp;omega,this.2.2⟩
theorem zci {l:List (Nat×BE)} {m:Nat→BE} {t:Nat} (h:∀ e,(t,e)∉l):putF l m t=m t:=by
 induction l with
 | nil=>rfl
 | cons x l ih=>
  obtain ⟨k,e⟩:=x
  show (if t=k then e else putF l m t)=_
  have hk:t≠k:=fun e2=>h e (by rw [e2];exact List.mem_cons_self ..)
  rw [if_neg hk,ih (fun e he=>h e (List.mem_cons_of_mem _ he))]
theorem zfO {l:List (Nat×BE)} {m:Nat→BE} {t:Nat}:putF l m t=m t∨(t,putF l m t)∈l:=by
 induction l with
 | nil=>exact .inl rfl
 | cons x l ih=>
  obtain ⟨k,e⟩:=x
  show (if t=k then e else putF l m t)=_∨(t,if t=k then e else putF l m t)∈_
  by_cases hk:t=k
  ·rw [if_pos hk];subst hk;exact .inr (List.mem_cons_self ..)
  ·rw [if_neg hk];exact ih.imp id (fun h=>List.mem_cons_of_mem _ h)
theorem ziW {vs:List SV} {i:Nat} {s:SV} (h:vs.all SV.flat=true) (hs:s.flat=true):(vs.set i s).all SV.flat=true:=by
 simp only [List.all_eq_true] at *
 intro x hx
 rcases List.mem_or_eq_of_mem_set hx with h1 | h1
 ·exact h x h1
 ·rw [h1];exact hs
theorem DenL.setN {E:Env} {w:World}:∀ {vs:List SV} {xs:List Value} {i c:Nat},DenL E w vs xs→vs[i]? = some .nil→E.β c=some (.slice none 0 0)→DenL E w (vs.set i (.own c)) xs
 | s::vs,x::xs,0,c,h,hi,hc=>by
  simp only [List.getElem?_cons_zero,Option.some.injEq] at hi
  subst hi
  have:x = .slice none 0 0:=h.1
  subst this
  exact ⟨⟨hc,rfl⟩,h.2⟩
 | s::vs,x::xs,i+1,c,h,hi,hc=>⟨h.1,DenL.setN (vs:=vs) (xs:=xs) h.2 (by simpa using hi) hc⟩
 | [],_,_,_,_,hi,_=>by simp at hi
 | _::_,[],_,_,h,_,_=>h.elim
theorem zfo {T0:TypeId} {t0:Nat} {w:World}:∀ (vr:List (Nat×TypeId×RL)) (c:Nat) (vs:List SV) (E:Env) (m:Nat→BE),MemOk base X w0 E m w→m t0 = .cells T0 vs→(∀ t,c≤t→t<c+vr.length→m t = .empty) →
  ∃ E',E.Le E'∧(∀ i b,E'.σ i b→E.σ i b)∧MemOk base X w0 E' (putF ((t0,.cells T0 (nrmS c vr vs).1)::(nrmS c vr vs).2) m) w
 | [],c,vs,E,m,hm,ht,hf=>by
  refine ⟨E,Env.Le.refl E,fun _ _ h=>h,?_⟩
  have:putF ((t0,.cells T0 (nrmS c [] vs).1)::(nrmS c [] vs).2) m=m:=by
   funext u
   show (if u=t0 then _ else m u)=m u
   by_cases h:u=t0
   ·subst h;rw [if_pos rfl,ht];rfl
   ·rw [if_neg h]
  rw [this];exact hm
 | (i,T,r)::q,c,vs,E,m,hm,ht,hf=>by
  simp only [nrmS]
  split
  ·rename_i hi
   have hce:m c = .empty:=hf c (Nat.le_refl _) (by simp)
   have hct:t0≠c:=fun e=>by rw [e,hce] at ht;cases ht
   have hβc:=(hm.empty c hce).1
   have hm1:=hm.take (w':=w) hce (.slice none 0 0) (.row T [] r.emp) (by simp) (Nat.le_refl _) (fun _ _=>rfl) (BelowX.refl _ _ _) (fun b hb=>by simp [zas] at hb) (by show OwnR _ _ _ _ _ _ _;rw [r.emp_ok.1];exact OwnR.nil _ _ _ _ _)
   have hm2:MemOk base X w0 (E.setβ c (.slice none 0 0)) (upd (upd m c (.row T [] r.emp)) t0 (.cells T0 (vs.set i (.own c)))) w:=by
    refine hm1.weak fun t=>?_
    by_cases h:t=t0
    ·subst h
     rw [za0,za7 _ _ hct,ht]
     refine .inr (.inr ⟨rfl,rfl,rfl,fun v hv=>?_⟩)
     obtain ⟨b,xs,h1,h2,h3,h4⟩:=hv
     exact ⟨b,xs,h1,h2,DenL.setN h3 hi (if_pos rfl),ziW h4 rfl⟩
    ·rw [za7 _ _ h];exact .inl rfl
   obtain ⟨E',h1,h2,h3⟩:=zfo q (c+1) (vs.set i (.own c)) _ _ hm2 (za0 _ _ _) (fun t h1 h2=>by
    have hne:t≠t0:=fun e=>by
     have:=hf t (by omega) (by simp;omega)
     rw [e,ht] at this;cases this
    rw [za7 _ _ hne,za7 _ _ (by omega)]
    exact hf t (by omega) (by simp;omega))
   refine ⟨E',(Env.setβ_le hβc _).trans h1,h2,?_⟩
   have e:putF ((t0,.cells T0 (nrmS (c+1) q (vs.set i (.own c))).1)::(nrmS (c+1) q (vs.set i (.own c))).2) (upd (upd m c (.row T [] r.emp)) t0 (.cells T0 (vs.set i (.own c))))=putF ((t0,.cells T0 (nrmS (c+1) q (vs.set i (.own c))).1)::(c,.row T [] r.emp)::(nrmS (c+1) q (vs.set i (.own c))).2) m:=by
    funext u
    show (if u=t0 then _ else _)=(if u=t0 then _ else if u=c then _ else _)
    by_cases hu:u=t0
    ·rw [if_pos hu,if_pos hu]
    ·rw [if_neg hu,if_neg hu]
     by_cases hc:u=c
     ·subst hc
      rw [if_pos rfl,zci (fun e he=>by have:=(zb7 q (u+1) _ u e he).1;omega),za7 _ _ hu,za0]
     ·rw [if_neg hc]
      rcases zfO (l:=(nrmS (c+1) q (vs.set i (.own c))).2) (m:=m) (t:=u) with h5 | h5
      ·by_cases hk:∃ e,(u,e)∈(nrmS (c+1) q (vs.set i (.own c))).2
       ·have key:∀ (l:List (Nat×BE)) (m m2:Nat→BE),(∃ e,(u,e)∈l)→putF l m u=putF l m2 u:=by
         intro l m m2 ⟨e,he⟩
         exact zdn l m m2 u (List.mem_map.2 ⟨_,he,rfl⟩)
        exact key _ _ _ hk
       ·rw [h5,zci (fun e he=>hk ⟨e,he⟩),za7 _ _ hu,za7 _ _ hc]
      ·exact zdn _ _ _ u (List.mem_map.2 ⟨_,h5,rfl⟩)
   rw [← e];exact h3
  ·obtain ⟨E',h1,h2,h3⟩:=zfo q (c+1) vs E m hm ht (fun t h1 h2=>hf t (by omega) (by simp;omega))
   exact ⟨E',h1,h2,h3⟩
theorem zlF {vr:List (Nat×TypeId×RL)} {c:Nat} {svs:List SV} {w:World} {E:Env} {m:Nat→BE} (hm:MemOk base X w0 E m w) (hf:∀ t,c≤t→t<c+vr.length→m t = .empty) :
  ∃ E',E.Le E'∧(∀ i b,E'.σ i b→E.σ i b)∧MemOk base X w0 E' (putF (nrm vr c m svs) m) w:=by
 unfold nrm
 have h0:∃ E',E.Le E'∧(∀ i b,E'.σ i b→E.σ i b)∧MemOk base X w0 E' (putF [] m) w:=⟨E,Env.Le.refl E,fun _ _ h=>h,hm⟩
 split
 ·split
  ·rename_i T vs ht
   split
   ·exact h0
   ·exact zfo vr c vs E m hm ht hf
  ·exact h0
 ·exact h0
theorem zk5 {tab:List Ent} (ht:∀ e∈tab,zaS P e) (kd:TypeId→Option RL) (ow:FuncId→St→List SV→Option (List Prop×List Nat×SV)):zcS P ⟨kd,orcT tab,ow⟩:=by
 intro c f st svs u hu
 have hu2:orcT tab c f st svs=some u:=hu
 clear hu
 have hu:=hu2
 clear hu2
 unfold orcT at hu
 split at hu
 case h_1=>simp at hu
 rename_i e he
 obtain ⟨hin,rfl⟩:=zeZ he
 obtain ⟨hB,hE⟩:=ht e hin
 refine ⟨hB,fun base X w0 E w vals hm hd hn=>?_⟩
 unfold orcE at hu
 split at hu
 case isFalse=>simp at hu
 rename_i hck
 simp only [Bool.and_eq_true] at hck
 obtain ⟨⟨hok,hfr⟩,hvr⟩:=hck
 split at hu
 case h_2=>simp at hu
 rename_i n out mo hgo
 split at hu
 case isFalse=>simp at hu
 rename_i hO
 simp only [Option.some.injEq] at hu
 subst hu
 have hfree:∀ t,c≤t→t<c+24→st.m t = .empty:=fun t h1 h2=>St.of_free (List.all_eq_true.1 hfr t ((zbw 24 c t).2 ⟨h1,h2⟩))
 have hvl:=Nat.le_of_ble_eq_true hvr
 obtain ⟨E1,hE1,hσ1,hm1⟩:=zlF (vr:=e.vr) (svs:=svs) hm (fun t h1 h2=>hfree t h1 (by omega))
 have hS1:Same E.lab w w:=Same.rfl'
 have hnk:∀ t,c+8≤t→t<c+24→putF (nrm e.vr c st.m svs) st.m t = .empty:=by
  intro t h1 h2
  rw [zci]
  ·exact hfree t (by omega) h2
  ·intro e' he'
   unfold nrm at he'
   split at he'
   ·split at he'
    ·rename_i t0 _ T vs hmt
     split at he'
     ·cases he'
     ·rcases List.mem_cons.1 he' with h3 | h3
      ·cases h3
       have:=hfree t (by omega) h2
       rw [hmt] at this;cases this
      ·have:=zb7 e.vr c vs t e' h3;omega
    ·cases he'
   ·cases he'
 have hcall:=Cl.call (q:=clOf e (putF (nrm e.vr c st.m svs) st.m) svs) hm1 (Cl.good hok) (fun p hp=>hn p (List.mem_append_left _ hp)) (c:=c+8) (fun t h1 h2=>hnk t h1 (by omega)) (hE _ _ n out mo hgo (fun p hp=>hn p (List.mem_append_right _ hp))) hO (DenL.mono hE1 hS1 _ _ hd)
 refine Calls.mono hcall ?_
 rintro e' w' ⟨v,E',h1,h2,h3,h4,h5⟩
 refine ⟨v,E',h1,hE1.trans h2,⟨h3.size,fun b hl=>h3.block b (by obtain ⟨i,hi⟩:=hl;exact ⟨i,hE1.σ i b hi⟩)⟩,h4,?_⟩
 rw [ziB];exact h5
theorem zf5 {m m':Nat→BE} {T:List Nat} {l:Nat} {s:SV} (h:∀ t,t∈zae s→m t=m' t):vw0 ⟨m,T⟩ l s=vw0 ⟨m',T⟩ l s∧lp0 ⟨m,T⟩ l s=lp0 ⟨m',T⟩ l s∧op0 ⟨m,T⟩ l s=op0 ⟨m',T⟩ l s:=by
 cases s
 case own t=>simp only [vw0,lp0,op0,h t (by simp [zae])];refine ⟨?_,?_,?_⟩<;>first | rfl | trivial
 all_goals exact ⟨rfl,rfl,rfl⟩
theorem zgO {f g:SV→SV×List Prop}:∀ (ss:List SV),(∀ s,s∈ss→f s=g s)→vwL f ss=vwL g ss
 | [],_=>rfl
 | s::ss,h=>by rw [vwL,vwL,h s (List.mem_cons_self ..),zgO ss (fun s hs=>h s (List.mem_cons_of_mem _ hs))]
theorem zaT {α β:Type} {f g:α→List β}:∀ (ss:List α),(∀ s,s∈ss→f s=g s)→ss.flatMap f=ss.flatMap g
 | [],_=>rfl
 | s::ss,h=>by rw [List.flatMap_cons,List.flatMap_cons,h s (List.mem_cons_self ..),zaT ss (fun s hs=>h s (List.mem_cons_of_mem _ hs))]
theorem zf4 {m m':Nat→BE} {T:List Nat} {l:Nat} (vs:List SV) (h:∀ t,t∈vs.flatMap zae→m t=m' t):vwL (vw0 ⟨m,T⟩ l) vs=vwL (vw0 ⟨m',T⟩ l) vs∧vs.flatMap (lp0 ⟨m,T⟩ l)=vs.flatMap (lp0 ⟨m',T⟩ l)∧vs.flatMap (op0 ⟨m,T⟩ l)=vs.flatMap (op0 ⟨m',T⟩ l):=by
 have key:∀ s,s∈vs→∀ t,t∈zae s→m t=m' t:=fun s hs t ht=>h t (List.mem_flatMap.2 ⟨s,hs,ht⟩)
 exact ⟨zgO vs (fun s hs=>(zf5 (key s hs)).1),zaT vs (fun s hs=>(zf5 (key s hs)).2.1),zaT vs (fun s hs=>(zf5 (key s hs)).2.2)⟩
def Deep (m m':Nat→BE) (ts:List Nat):Prop:=∀ t,t∈ts→m t=m' t∧∀ u,u∈zaB (m t)→m u=m' u
theorem zf3 {m m':Nat→BE} {T:List Nat} {l:Nat} {s:SV} (h:Deep m m' (svR s)):vwR ⟨m,T⟩ l s=vwR ⟨m',T⟩ l s∧lpR ⟨m,T⟩ l s=lpR ⟨m',T⟩ l s∧opR ⟨m,T⟩ l s=opR ⟨m',T⟩ l s:=by
 have k0:∀ s,(∀ V l,vwR V l s=vw0 V l s∧lpR V l s=lp0 V l s∧opR V l s=op0 V l s)→svR s=zae s→Deep m m' (svR s)→vwR ⟨m,T⟩ l s=vwR ⟨m',T⟩ l s∧lpR ⟨m,T⟩ l s=lpR ⟨m',T⟩ l s∧opR ⟨m,T⟩ l s=opR ⟨m',T⟩ l s:=by
  intro s h1 h2 h3
  obtain ⟨a1,a2,a3⟩:=h1 ⟨m,T⟩ l
  obtain ⟨b1,b2,b3⟩:=h1 ⟨m',T⟩ l
  rw [a1,a2,a3,b1,b2,b3]
  exact zf5 (fun t ht=>(h3 t (h2▸ht)).1)
 cases s
 case ptr t o=>
  obtain ⟨h1,h2⟩:=h t (by simp [svR,zae])
  simp only [vwR,lpR,opR,← h1]
  cases idxO T t with
  | some k=>exact ⟨rfl,rfl,rfl⟩
  | none=>
   cases hm:m t with
   | cells Tb vs=>
    rw [hm] at h2
    obtain ⟨e1,e2,e3⟩:=zf4 (T:=T) (l:=l) vs h2
    simp only [e1,e2,e3];exact ⟨trivial,trivial,trivial⟩
   | _=>exact ⟨rfl,rfl,rfl⟩
 case rp ls Tb vs o=>
  obtain ⟨e1,e2,e3⟩:=zf4 (m:=m) (m':=m') (T:=T) (l:=l) vs (fun t ht=>(h t ht).1)
  simp only [vwR,lpR,opR,e1,e2,e3];exact ⟨trivial,trivial,trivial⟩
 case ro ls ob=>exact ⟨rfl,rfl,rfl⟩
 all_goals exact k0 _ (fun V l=>⟨rfl,rfl,rfl⟩) rfl h
theorem zgQ {m m':Nat→BE} {T:List Nat} {l:Nat} {s:SV} (h:Deep m m' (zaq s)):vw1 ⟨m,T⟩ l s=vw1 ⟨m',T⟩ l s∧lp1 ⟨m,T⟩ l s=lp1 ⟨m',T⟩ l s∧op1 ⟨m,T⟩ l s=op1 ⟨m',T⟩ l s:=by
 have k0:∀ s,(∀ V l,vw1 V l s=vwR V l s∧lp1 V l s=lpR V l s∧op1 V l s=opR V l s)→zaq s=svR s→Deep m m' (zaq s)→vw1 ⟨m,T⟩ l s=vw1 ⟨m',T⟩ l s∧lp1 ⟨m,T⟩ l s=lp1 ⟨m',T⟩ l s∧op1 ⟨m,T⟩ l s=op1 ⟨m',T⟩ l s:=by
  intro s h1 h2 h3
  obtain ⟨a1,a2,a3⟩:=h1 ⟨m,T⟩ l
  obtain ⟨b1,b2,b3⟩:=h1 ⟨m',T⟩ l
  rw [a1,a2,a3,b1,b2,b3]
  exact zf3 (h2▸h3)
 cases s
 case agg vs=>
  obtain ⟨e1,e2,e3⟩:=zf4 (m:=m) (m':=m') (T:=T) (l:=l) vs (fun t ht=>(h t ht).1)
  simp only [vw1,lp1,op1,e1,e2,e3];exact ⟨trivial,trivial,trivial⟩
 case clo f vs=>
  have key:∀ s,s∈vs→Deep m m' (svR s):=fun s hs t ht=>h t (List.mem_flatMap.2 ⟨s,hs,ht⟩)
  have e1:=zgO vs (fun s hs=>(zf3 (T:=T) (l:=l) (key s hs)).1)
  have e2:=zaT vs (fun s hs=>(zf3 (T:=T) (l:=l) (key s hs)).2.1)
  have e3:=zaT vs (fun s hs=>(zf3 (T:=T) (l:=l) (key s hs)).2.2)
  simp only [vw1,lp1,op1,e1,e2,e3];exact ⟨trivial,trivial,trivial⟩
 case gd g s=>exact ⟨rfl,rfl,rfl⟩
 all_goals exact k0 _ (fun V l=>⟨rfl,rfl,rfl⟩) rfl h
theorem zgP {m m':Nat→BE} {T:List Nat} {l t:Nat} (h:m t=m' t) (h2:∀ u,u∈zaB (m t)→m u=m' u):vwB ⟨m,T⟩ l (m t)=vwB ⟨m',T⟩ l (m' t)∧lpB ⟨m,T⟩ l (m t)=lpB ⟨m',T⟩ l (m' t)∧opB ⟨m,T⟩ l (m t)=opB ⟨m',T⟩ l (m' t):=by
 rw [← h]
 cases hm:m t with
 | cells Tb vs=>
  rw [hm] at h2
  obtain ⟨e1,e2,e3⟩:=zf4 (T:=T) (l:=l) vs h2
  simp only [vwB,lpB,opB,e1,e2,e3];exact ⟨trivial,trivial,trivial⟩
 | _=>exact ⟨rfl,rfl,rfl⟩
theorem zb0 {α β:Type} {f g:Nat→α→β}:∀ (xs:List α) (ls:List Nat),(∀ l x,x∈xs→f l x=g l x)→zipL f xs ls=zipL g xs ls
 | [],_,_=>rfl
 | x::r,[],h=>by rw [zipL,zipL,h 0 x (List.mem_cons_self ..),zb0 r [] (fun l y hy=>h l y (List.mem_cons_of_mem _ hy))]
 | x::r,l::ls,h=>by rw [zipL,zipL,h l x (List.mem_cons_self ..),zb0 r ls (fun l y hy=>h l y (List.mem_cons_of_mem _ hy))]
theorem zew:∀ (l seen:List Nat) (t:Nat),t∈dedN seen l→t∈l
 | [],_,_,h=>by simp [dedN] at h
 | a::r,seen,t,h=>by
  rw [dedN] at h
  cases hc:seen.contains a
  ·rw [hc] at h
   simp only [cond_false] at h
   rcases List.mem_cons.1 h with h1 | h1
   ·rw [h1];exact List.mem_cons_self ..
   ·exact List.mem_cons_of_mem _ (zew r _ t h1)
  ·rw [hc] at h
   exact List.mem_cons_of_mem _ (zew r _ t h)
theorem zkZ {e:Ent} {m m':Nat→BE} {svs:List SV} (h:Deep m m' (svs.flatMap zaq)):(clOf e m svs).V.T=(clOf e m' svs).V.T∧(clOf e m svs).aV=(clOf e m' svs).aV∧(clOf e m svs).bV=(clOf e m' svs).bV∧(clOf e m svs).LP=(clOf e m' svs).LP∧(clOf e m svs).OP=(clOf e m' svs).OP∧(∀ u,u∈(clOf e m svs).V.T→m u=m' u):=by
 have hT2:((svs.flatMap zaq).flatMap fun t=>zaB (m t))=((svs.flatMap zaq).flatMap fun t=>zaB (m' t)):=zaT _ (fun t ht=>by rw [(h t ht).1])
 have hin:∀ u,u∈((svs.flatMap zaq).flatMap fun t=>zaB (m t))→m u=m' u:=fun u hu=>by
  obtain ⟨t,ht,h2⟩:=List.mem_flatMap.1 hu
  exact (h t ht).2 u h2
 have hfil:(((svs.flatMap zaq).flatMap fun t=>zaB (m t)).filter fun t=>ziR (m t))=(((svs.flatMap zaq).flatMap fun t=>zaB (m' t)).filter fun t=>ziR (m' t)):=by
  rw [← hT2]
  refine List.filter_congr fun u hu=>?_
  rw [hin u hu]
 have hT:zd8 m svs=zd8 m' svs:=by unfold zd8;rw [hfil]
 -- a tag of T
 have hmT:∀ u,u∈zd8 m svs→m u=m' u∧∀ x,x∈zaB (m u)→m x=m' x:=by
  intro u hu
  rcases List.mem_append.1 (zew _ _ u hu) with h1 | h1
  ·exact h u h1
  ·obtain ⟨h2,h3⟩:=List.mem_filter.1 h1
   refine ⟨hin u h2,fun x hx=>?_⟩
   cases hm:m u with
   | row=>rw [hm] at hx;cases hx
   | _=>rw [hm] at h3;cases h3
 have hV:(clOf e m svs).V.T=(clOf e m' svs).V.T:=by
  unfold clOf
  cases e.wr with
  | false=>rfl
  | true=>exact hT
 have hmV:∀ u,u∈(clOf e m svs).V.T→m u=m' u∧∀ x,x∈zaB (m u)→m x=m' x:=by
  intro u hu
  have hu:u∈(match e.wr with | true=>zd8 m svs | false=>[]):=hu
  cases hw:e.wr with
  | false=>rw [hw] at hu;cases hu
  | true=>rw [hw] at hu;exact hmT u hu
 have e1:(clOf e m' svs).V=⟨m',(clOf e m svs).V.T⟩:=by rw [hV];rfl
 have e0:(clOf e m svs).V=⟨m,(clOf e m svs).V.T⟩:=rfl
 have hd:∀ s,s∈svs→Deep m m' (zaq s):=fun s hs t ht=>h t (List.mem_flatMap.2 ⟨s,hs,ht⟩)
 have a1:∀ l s,s∈svs→vw1 (clOf e m svs).V l s=vw1 (clOf e m' svs).V l s:=fun l s hs=>by rw [e1,e0];exact (zgQ (hd s hs)).1
 have a2:∀ l s,s∈svs→lp1 (clOf e m svs).V l s=lp1 (clOf e m' svs).V l s:=fun l s hs=>by rw [e1,e0];exact (zgQ (hd s hs)).2.1
 have a3:∀ l s,s∈svs→op1 (clOf e m svs).V l s=op1 (clOf e m' svs).V l s:=fun l s hs=>by rw [e1,e0];exact (zgQ (hd s hs)).2.2
 have b1:∀ l t,t∈(clOf e m svs).V.T→vwB (clOf e m svs).V l (m t)=vwB (clOf e m' svs).V l (m' t):=fun l t ht=>by rw [e1,e0];exact (zgP (hmV t ht).1 (hmV t ht).2).1
 have b2:∀ l t,t∈(clOf e m svs).V.T→lpB (clOf e m svs).V l (m t)=lpB (clOf e m' svs).V l (m' t):=fun l t ht=>by rw [e1,e0];exact (zgP (hmV t ht).1 (hmV t ht).2).2.1
 have b3:∀ l t,t∈(clOf e m svs).V.T→opB (clOf e m svs).V l (m t)=opB (clOf e m' svs).V l (m' t):=fun l t ht=>by rw [e1,e0];exact (zgP (hmV t ht).1 (hmV t ht).2).2.2
 refine ⟨hV,zb0 _ _ a1,?_,?_,?_,fun u hu=>(hmV u hu).1⟩
 ·show zipL (fun l t=>vwB (clOf e m svs).V l (m t)) (clOf e m svs).V.T e.gl=zipL (fun l t=>vwB (clOf e m' svs).V l (m' t)) (clOf e m' svs).V.T e.gl
  rw [← hV];exact zb0 _ _ b1
 ·show (zipL (fun l s=>lp1 (clOf e m svs).V l s) svs e.al).flatMap id++(zipL (fun l t=>lpB (clOf e m svs).V l (m t)) (clOf e m svs).V.T e.gl).flatMap id=(zipL (fun l s=>lp1 (clOf e m' svs).V l s) svs e.al).flatMap id++(zipL (fun l t=>lpB (clOf e m' svs).V l (m' t)) (clOf e m' svs).V.T e.gl).flatMap id
  rw [← hV,zb0 _ _ a2,zb0 _ _ b2]
 ·show (zipL (fun l s=>op1 (clOf e m svs).V l s) svs e.al).flatMap id++(zipL (fun l t=>opB (clOf e m svs).V l (m t)) (clOf e m svs).V.T e.gl).flatMap id=(zipL (fun l s=>op1 (clOf e m' svs).V l s) svs e.al).flatMap id++(zipL (fun l t=>opB (clOf e m' svs).V l (m' t)) (clOf e m' svs).V.T e.gl).flatMap id
  rw [← hV,zb0 _ _ a3,zb0 _ _ b3]
theorem zk6 {e:Ent} {c:Nat} {a b:St} {svs:List SV} {U:List (Nat×BE)} {q q':Cl} (hf:(blkN c 24).all a.free=(blkN c 24).all b.free) (h1:q.V.T=q'.V.T) (h2:q.aV=q'.aV) (h3:q.bV=q'.bV) (h4:q.LP=q'.LP) (h5:q.OP=q'.OP) (h6:∀ u,u∈q.V.T→q.V.m u=q'.V.m u) (h7:q.nl=q'.nl) :
  orcE e c a svs U q=orcE e c b svs U q':=by
 have k1:q.ok=q'.ok:=by
  unfold Cl.ok
  rw [h1,h3,h4,h5,h7]
  have:(q'.V.T.all fun u=>(q.V.m u).live)=(q'.V.T.all fun u=>(q'.V.m u).live):=by
   rw [Bool.eq_iff_iff,List.all_eq_true,List.all_eq_true]
   exact ⟨fun h u hu=>by rw [← h6 u (h1▸hu)];exact h u hu,fun h u hu=>by rw [h6 u (h1▸hu)];exact h u hu⟩
  rw [this]
 have k2:q.ins=q'.ins:=by unfold Cl.ins;rw [h2]
 have k3:q.mi=q'.mi:=by unfold Cl.mi;rw [h3]
 have k4:q.needs=q'.needs:=by unfold Cl.needs;rw [h2,h3]
 have r1:∀ c ls,relL q c ls=relL q' c ls:=fun c ls=>by unfold relL;rw [h4,h7]
 have r2:∀ c t,relT q c t=relT q' c t:=fun c t=>by unfold relT;rw [h1]
 have r3:∀ c,rel0 q c=rel0 q' c:=fun c=>by funext s;cases s<;>simp only [rel0,r1,r2]
 have r4:∀ c,rel1 q c=rel1 q' c:=fun c=>by
  funext s
  unfold rel1
  rw [r3]
 have r5:∀ c,relV q c=relV q' c:=fun c=>by
  funext s
  unfold relV
  rw [r4]
 have r6:∀ c,relB q c=relB q' c:=fun c=>by
  funext s
  cases s<;>simp only [relB,r3,r1]
 have o1:okLs q=okLs q':=by funext ls;unfold okLs;rw [h5,h7]
 have o2:ok0 q=ok0 q':=by funext n s;cases s<;>simp only [ok0,o1]
 have o3:ok1 q=ok1 q':=by funext n s;unfold ok1;rw [o2]
 have o4:okV q=okV q':=by funext n s;unfold okV;rw [o3]
 have o5:okB q=okB q':=by funext n s;cases s<;>simp only [okB,o1,o2]
 have o6:∀ out mo,q.okO out mo=q'.okO out mo:=fun out mo=>by unfold Cl.okO;rw [o4,o5,h1]
 have u1:∀ c mo,q.upds c mo=q'.upds c mo:=fun c mo=>by unfold Cl.upds;rw [h1,r6]
 unfold orcE
 rw [k1,hf,k2,k3]
 simp only [o6,k4,r5,u1]
theorem zcM:∀ {svs:List SV} {t:Nat},zbM svs=some t→t∈svs.flatMap zaq
 | [],_,h=>by simp [zbM] at h
 | s::r,t,h=>by
  unfold zbM at h
  split at h
  ·cases h
  ·rename_i t2 o r2 e
   simp only [Option.some.injEq] at h
   subst h
   cases e
   exact List.mem_flatMap.2 ⟨_,List.mem_cons_self ..,by simp [zaq,svR,zae]⟩
  ·rename_i x r2 hx e
   cases e
   obtain ⟨s2,h1,h2⟩:=List.mem_flatMap.1 (zcM h)
   exact List.mem_flatMap.2 ⟨s2,List.mem_cons_of_mem _ h1,h2⟩
theorem zdp:∀ (vr:List (Nat×TypeId×RL)) (c:Nat) (vs:List SV) (u:Nat),u∈(nrmS c vr vs).1.flatMap zae→u∈vs.flatMap zae∨(c≤u∧u<c+vr.length)
 | [],c,vs,u,h=> .inl h
 | (i,T,r)::q,c,vs,u,h=>by
  simp only [nrmS] at h
  split at h
  ·rcases zdp q (c+1) _ u h with h1 | h1
   ·obtain ⟨s,h2,h3⟩:=List.mem_flatMap.1 h1
    rcases List.mem_or_eq_of_mem_set h2 with h4 | h4
    ·exact .inl (List.mem_flatMap.2 ⟨s,h4,h3⟩)
    ·subst h4
     simp only [zae,List.mem_singleton] at h3
     subst h3
     exact .inr ⟨Nat.le_refl _,by simp⟩
   ·exact .inr ⟨by omega,by simp;omega⟩
  ·rcases zdp q (c+1) _ u h with h1 | h1
   ·exact .inl h1
   ·exact .inr ⟨by omega,by simp;omega⟩
theorem ziE (tab:List Ent) (kd:TypeId→Option RL) (ow:FuncId→St→List SV→Option (List Prop×List Nat×SV)):zcQ ⟨kd,orcT tab,ow⟩:=by
 intro c f a b svs hl h
 show orcT tab c f a svs=orcT tab c f b svs
 unfold orcT
 cases zg8 tab f with
 | none=>rfl
 | some e=>
  simp only
  have hfree:(blkN c 24).all a.free=(blkN c 24).all b.free:=by
   have:∀ t,t∈blkN c 24→a.free t=b.free t:=fun t ht=>by simp only [St.free,h t (.inl ht)]
   rw [Bool.eq_iff_iff,List.all_eq_true,List.all_eq_true]
   exact ⟨fun h2 t ht=>by rw [← this t ht];exact h2 t ht,fun h2 t ht=>by rw [this t ht];exact h2 t ht⟩
  by_cases hv:Nat.ble e.vr.length 8=true
  ·have hvl:=Nat.le_of_ble_eq_true hv
   have h1:∀ t,t∈svs.flatMap zaq→a.m t=b.m t:=fun t ht=>h t (.inr (List.mem_append_left _ ht))
   have h2:∀ t,t∈svs.flatMap zaq→∀ u,u∈zaB (a.m t)→a.m u=b.m u:=fun t ht u hu=>h u (.inr (List.mem_append_right _ (List.mem_flatMap.2 ⟨t,ht,by
    unfold zaB at hu
    split at hu
    ·rename_i e2;rw [e2];exact hu
    ·cases hu⟩)))
   have hU:nrm e.vr c a.m svs=nrm e.vr c b.m svs:=by
    unfold nrm
    cases hp:zbM svs with
    | none=>rfl
    | some t=>simp only;rw [h1 t (zcM hp)]
   rw [← hU]
   have hag:∀ t,(a.m t=b.m t)→putF (nrm e.vr c a.m svs) a.m t=putF (nrm e.vr c a.m svs) b.m t:=by
    intro t ht
    by_cases hk:∃ e',(t,e')∈nrm e.vr c a.m svs
    ·obtain ⟨e',he'⟩:=hk
     exact zdn _ _ _ t (List.mem_map.2 ⟨_,he',rfl⟩)
    ·rw [zci (fun e' he'=>hk ⟨e',he'⟩),zci (fun e' he'=>hk ⟨e',he'⟩)];exact ht
   have hblk:∀ t,c≤t→t<c+24→a.m t=b.m t:=fun t h3 h4=>h t (.inl ((zbw 24 c t).2 ⟨h3,h4⟩))
   have hdeep:Deep (putF (nrm e.vr c a.m svs) a.m) (putF (nrm e.vr c a.m svs) b.m) (svs.flatMap zaq):=by
    intro t ht
    refine ⟨hag t (h1 t ht),fun u hu=>hag u ?_⟩
    rcases zfO (l:=nrm e.vr c a.m svs) (m:=a.m) (t:=t) with h3 | h3
    ·rw [h3] at hu;exact h2 t ht u hu
    ·generalize putF (nrm e.vr c a.m svs) a.m t=y at h3 hu
     unfold nrm at h3
     split at h3
     ·rename_i t0 hp
      split at h3
      ·rename_i T vs hmt
       split at h3
       ·cases h3
       ·rcases List.mem_cons.1 h3 with h4 | h4
        ·cases h4
         rcases zdp e.vr c vs u hu with h5 | h5
         ·exact h2 t ht u (by rw [hmt];exact h5)
         ·exact hblk u h5.1 (by omega)
        ·have:=(zb7 e.vr c vs t y h4).2.2
         cases y with
         | row=>cases hu
         | _=>cases this
      ·cases h3
     ·cases h3
   obtain ⟨k1,k2,k3,k4,k5,k6⟩:=zkZ (e:=e) hdeep
   exact zk6 hfree k1 k2 k3 k4 k5 k6 rfl
  ·unfold orcE
   have:Nat.ble e.vr.length 8=false:=by cases hb:Nat.ble e.vr.length 8<;>simp_all
   rw [this];simp
end
end Go.Proofs.Ytfccndnnpkiajaa
namespace Go.Proofs.Ytfccndnnpkiajaa
open Go.RowKit Go.ChangeShapes Go.WideShapes Go.Deep
section ops
variable {P : Program} {base : Nat} {X : Cx} {w0 : World} {st : St}
theorem OwnR.put {w:World} {T:TypeId} {S S2:Nat→Prop} {fs:List Ty} {g n c:Nat} {rows:List (List D)} (h:OwnR 0 w T S fs (.slice (some ⟨g,0,none⟩) n c) rows) {i off:Nat} (hi:i<rows.length) {xs zs:List Value} {ds:List D} {cur:Array Value} (hg:w.heap[g]? = some (.cells cur T (0,0)))
  (hx:xs=(cur.toList.drop (i*fs.length)).take fs.length) (ho:off+zs.length≤fs.length) (hd:RdL w (fun b=>S2 b∧b≠g) fs (xs.take off++zs++xs.drop (off+zs.length)) ds) :
  OwnR 0 (w.setRow g (cur.toList.take (i*fs.length+off)++zs++cur.toList.drop (i*fs.length+off+zs.length)).toArray) T (fun b=>S b∨S2 b) fs (.slice (some ⟨g,0,none⟩) n c) (rows.set i ds):=by
 obtain ⟨cells,ho2,hr⟩:=h
 rcases ho2.2 with ⟨e,_⟩ | ⟨g2,cap,cur2,e,_,hg2,hnc,hcm,hcs,htake⟩
 ·simp at e
 simp only [Value.slice.injEq,Option.some.injEq,Addr.mk.injEq,and_true] at e
 obtain ⟨rfl,rfl,rfl⟩:=e
 rw [hg] at hg2
 simp only [Option.some.injEq,Obj.cells.injEq,and_true,true_and] at hg2
 subst hg2
 have hkey:∀ j,j<rows.length→j*fs.length+fs.length≤rows.length*fs.length:=fun j hj=>by
  have:(j+1)*fs.length≤rows.length*fs.length:=Nat.mul_le_mul_right _ hj
  rwa [Nat.add_mul,Nat.one_mul] at this
 have hcl:cells.length=rows.length*fs.length:=ho2.1
 have hcurl:rows.length*fs.length≤cur.toList.length:=by
  have h0:cur.toList.length=cur.size:=Array.length_toList
  rw [h0,hcs];exact Nat.mul_le_mul_right _ hnc
 generalize hN:(cur.toList.take (i*fs.length+off)++zs++cur.toList.drop (i*fs.length+off+zs.length))=N
 have hk:=hkey i hi
 have hNl:N.length=cur.toList.length:=by rw [← hN];simp;simp at hcurl;omega
 -- the cells anew
 have hat:∀ m,N[m]? = if m<i*fs.length+off then cur.toList[m]? else if m<i*fs.length+off+zs.length then zs[m-(i*fs.length+off)]? else cur.toList[m]? := by
  intro m
  have hll:(cur.toList.take (i*fs.length+off)).length=i*fs.length+off:=by simp;simp at hcurl;omega
  rw [← hN,List.append_assoc]
  by_cases h1:m<i*fs.length+off
  ·rw [if_pos h1,List.getElem?_append_left (by omega),List.getElem?_take,if_pos h1]
  ·rw [if_neg h1,List.getElem?_append_right (by omega),hll]
   by_cases h2:m<i*fs.length+off+zs.length
   ·rw [if_pos h2,List.getElem?_append_left (by omega)]
   ·rw [if_neg h2,List.getElem?_append_right (by omega),List.getElem?_drop]
    congr 1;omega
 have hS:Same (fun b=>b≠g) w (w.setRow g N.toArray):=⟨by simp,fun b hb _=>setRow_other w g b _ hb⟩
 refine ⟨N.take (rows.length*fs.length),⟨?_,.inr ⟨g,c,N.toArray,by simp,Nat.zero_le _,setRow_heap w g cur _ T _ hg,by simpa using hnc,hcm,by simp [hNl,hcs],by simp⟩⟩,fun j hj=>?_⟩
 ·simp [hNl];simp at hcurl;omega
 ·rw [List.length_set] at hj
  have hkj:=hkey j hj
  have e1:((N.take (rows.length*fs.length)).drop (j*fs.length)).take fs.length=(N.drop (j*fs.length)).take fs.length:=by
   apply List.ext_getElem?
   intro m
   simp only [List.getElem?_take,List.getElem?_drop]
   by_cases hm:m<fs.length
   ·rw [if_pos hm,if_pos hm,if_pos (by omega)]
   ·rw [if_neg hm,if_neg hm]
  rw [e1]
  by_cases hji:j=i
  ·subst hji
   have e2:(rows.set j ds).getD j []=ds:=by simp [List.getD,hj]
   have e3:(N.drop (j*fs.length)).take fs.length=xs.take off++zs++xs.drop (off+zs.length):=by
    apply List.ext_getElem?
    intro m
    have hxl:xs.length=fs.length:=by rw [hx];simp;simp at hcurl;omega
    rw [List.getElem?_take,List.getElem?_drop,hat,List.append_assoc]
    have hxa:∀ m,m<fs.length→xs[m]? = cur.toList[j*fs.length+m]? := fun m hm=>by rw [hx,List.getElem?_take,if_pos hm,List.getElem?_drop]
    by_cases hm:m<fs.length
    ·rw [if_pos hm]
     by_cases h1:m<off
     ·rw [if_pos (by omega),List.getElem?_append_left (by simp;omega),List.getElem?_take,if_pos h1,hxa m hm]
     ·rw [if_neg (by omega),List.getElem?_append_right (by simp;omega)]
      have hll:(xs.take off).length=off:=by simp;omega
      rw [hll]
      by_cases h2:m<off+zs.length
      ·rw [if_pos (by omega),List.getElem?_append_left (by omega)];congr 1;omega
      ·rw [if_neg (by omega),List.getElem?_append_right (by omega),List.getElem?_drop,show off+zs.length+(m-off-zs.length)=m by omega,hxa m hm]
    ·rw [if_neg hm,List.getElem?_eq_none]
     simp;omega
   rw [e2,e3]
   exact (hd.mono (fun b _ hb=>(⟨.inr hb.1,fun e=>hb.2 (by simpa [Value.ownBlock] using e.symm)⟩:(S b∨S2 b)∧Value.ownBlock (.slice (some ⟨g,0,none⟩) rows.length c)≠some b))).same (hS.mono fun b hb e=>hb.2 (by subst e;rfl))
  ·have hne:¬ i=j:=fun e=>hji e.symm
   have e2:(rows.set i ds).getD j []=rows.getD j []:=by simp [List.getD,List.getElem?_set,hne]
   have e3:(N.drop (j*fs.length)).take fs.length=(cells.drop (j*fs.length)).take fs.length:=by
    apply List.ext_getElem?
    intro m
    simp only [List.getElem?_take,List.getElem?_drop]
    by_cases hm:m<fs.length
    ·rw [if_pos hm,if_pos hm,← htake,List.getElem?_take,if_pos (show j*fs.length+m<rows.length*fs.length by omega),hat]
     rcases Nat.lt_or_gt_of_ne hji with h1 | h1
     ·have:(j+1)*fs.length≤i*fs.length:=Nat.mul_le_mul_right _ h1
      rw [Nat.add_mul,Nat.one_mul] at this
      rw [if_pos (by omega)]
     ·have:(i+1)*fs.length≤j*fs.length:=Nat.mul_le_mul_right _ h1
      rw [Nat.add_mul,Nat.one_mul] at this
      rw [if_neg (by omega),if_neg (by omega)]
    ·rw [if_neg hm,if_neg hm]
   rw [e2,e3]
   exact ((hr j hj).mono (fun b _ hb=>(⟨.inl hb.1,hb.2⟩:(S b∨S2 b)∧Value.ownBlock (.slice (some ⟨g,0,none⟩) rows.length c)≠some b))).same (hS.mono fun b hb e=>hb.2 (by subst e;rfl))
def cPut (P:Program) (st:St) (T:TypeId) (x y:Operand):Option Upd:=
 match zac (st.ev x),zac (st.ev y),zaR P T with
 | (.oel t sz i off,n1),(s,n2),some k=>match st.m t with
  | .row Tb ls r=>if sz=r.tys.length then (if s.cells.all SV.flat then (if s.cells.length=k then (if off+k≤sz then (match r.put i (splice (r.elem ls i) s.cells off) with
   | some (r2,m)=>some ⟨n1++n2++[i<r.len],.any,[(t,.row Tb (ls++m) r2)]⟩
   | none=>none) else none) else none) else none) else none
  | _=>none
 | _,_,_=>none
theorem zld (o:Oper) (T:TypeId) (x y:Operand) (ho:o.op = .store T x y) {u:Upd} (hu:cPut P st T x y=some u):Does P base X w0 st o u:=by
 unfold cPut at hu
 split at hu
 case h_2=>simp at hu
 rename_i t sz i off n1 s n2 k e1 e2 e3
 split at hu
 case h_2=>simp at hu
 rename_i Tb ls r hm
 split at hu
 case isFalse=>simp at hu
 split at hu
 case isFalse=>simp at hu
 split at hu
 case isFalse=>simp at hu
 split at hu
 case isFalse=>simp at hu
 split at hu
 case h_2=>simp at hu
 rename_i hsz hf hk hl _ r2 m hput
 simp only [Option.some.injEq] at hu
 subst hu
 subst hsz
 intro E a w K Q h hn hK
 have h1:=zaa (h.ev x) (fun p hp=>hn p (by rw [e1] at hp;simp [hp]))
 have h2:=zaa (h.ev y) (fun p hp=>hn p (by rw [e2] at hp;simp [hp]))
 have hi:i<r.len:=hn (i<r.len) (by simp)
 rw [e1] at h1
 rw [e2] at h2
 obtain ⟨zs,hz,hzd⟩:=zcZ hf h2
 obtain ⟨b,q,c,hb,hx⟩:=h1
 obtain ⟨v',c1,c2⟩:=h.mem.row t _ _ _ hm
 rw [c1] at hb
 simp only [Option.some.injEq] at hb
 subst hb
 have hzl:zs.length=k:=by rw [hzd.len];exact hk
 have hrl:r.rows.length=r.len:=r.rows_len
 obtain ⟨cells,hoR,hrow⟩:=c2
 rcases hoR.2 with ⟨e,_⟩ | ⟨g,cap,cur,e,_,hg,hnc,hcm,hcs,htake⟩
 ·simp at e
 simp only [Value.slice.injEq,Option.some.injEq,Addr.mk.injEq,and_true] at e
 obtain ⟨rfl,rfl,rfl⟩:=e
 have hki:i*r.tys.length+r.tys.length≤cur.size:=by
  rw [hcs]
  have h3:(i+1)*r.tys.length≤r.rows.length*r.tys.length:=Nat.mul_le_mul_right _ (by omega)
  have h4:r.rows.length*r.tys.length≤c*r.tys.length:=Nat.mul_le_mul_right _ hnc
  rw [Nat.add_mul,Nat.one_mul] at h3
  omega
 have hrun:=zcg (P:=P) e3 hz hzl (xs:=cur.toList) (b:=b) (off:=i*r.tys.length+off) (Tb:=Tb) (by simpa using hg) (by have h0:cur.toList.length=cur.size:=Array.length_toList;omega) (DenL.ones hf hzd)
 have hHas:Has E st.m t b:=Has.row hm c1 rfl
 have hsep:=(h.mem.sep t b hHas).1
 have hne:∀ g,zas (.slice (some ⟨b,0,none⟩) r.rows.length c)≠some g→g≠b:=by intro g hg e;exact hg (by simp [zas,e])
 generalize hw':w.setRow b (cur.toList.take (i*r.tys.length+off)++zs++cur.toList.drop (i*r.tys.length+off+zs.length)).toArray=w' at hrun
 have hS:Same E.lab w w':=by
  rw [← hw']
  exact ⟨by simp,fun g hg _=>setRow_other w b g _ (fun e=>hsep (e▸hg))⟩
 -- the element's cells
 have hL:RdL w (E.set ls) r.tys ((cells.drop (i*r.tys.length)).take r.tys.length) (r.rows.getD i []):=(hrow i (by omega)).mono fun b _ hb=>hb.1
 have hcx:(cells.drop (i*r.tys.length)).take r.tys.length=(cur.toList.drop (i*r.tys.length)).take r.tys.length:=by
  rw [← htake]
  apply List.ext_getElem?
  intro m
  simp only [List.getElem?_take,List.getElem?_drop]
  have h3:(i+1)*r.tys.length≤r.rows.length*r.tys.length:=Nat.mul_le_mul_right _ (by omega)
  rw [Nat.add_mul,Nat.one_mul] at h3
  by_cases hm2:m<r.tys.length
  ·rw [if_pos hm2,if_pos hm2,if_pos (by omega)]
  ·rw [if_neg hm2,if_neg hm2]
 have hel:=RL.elem_ok hi hL
 have hsp:=zdi hel hzd off
 obtain ⟨ht2,hl2,ds,hrows,hds⟩:=RL.put_ok i hput
 have hD:=hds E w _ hsp
 have hput2:=OwnR.put (S:=E.set ls) (S2:=E.set m) ⟨cells,hoR,hrow⟩ (i:=i) (off:=off) (by omega) hg hcx (by omega) (hD.mono fun b2 _ hb2=>⟨hb2,fun e=>hsep (e▸Env.set_lab hb2)⟩)
 rw [hw'] at hput2
 refine zdQ (w':=w') ?_ (hK E _ _ (Env.Le.refl E) hS trivial ?_)
 ·simp only [execOp,ho,Instr.storeAt,hx,Instr.sureAddr,Sem.run_bind,Sem.run_pure,Result.andThen,hrun]
 ·rw [zbb]
  refine h.mem.poke (by show (st.m t).live=true;rw [hm];rfl) c1 _ rfl (by rw [← hw'];simp) (fun g hg' _=>by rw [← hw'];exact setRow_other w b g _ (hne g hg')) (by rw [← hw'];exact ⟨rfl,rfl,rfl⟩) ?_
  show OwnR 0 w' Tb (E.set (ls++m)) r2.tys _ r2.rows
  rw [ht2,hrows]
  exact hput2.mono (Nat.le_refl _) (fun b2 hb2=>hb2.elim (Env.set_mono (fun i hi=>List.mem_append_left _ hi) b2) (Env.set_mono (fun i hi=>List.mem_append_right _ hi) b2))
def cMin (st:St) (x y:Operand):Option Upd:=
 match zac (st.ev x),zac (st.ev y) with
 | (.int k a,n),(.int k' b,m)=>if k=k' then some ⟨n++m,.int k (if b<a then b else a),[]⟩ else none
 | _,_=>none
def cMax (st:St) (x y:Operand):Option Upd:=
 match zac (st.ev x),zac (st.ev y) with
 | (.int k a,n),(.int k' b,m)=>if k=k' then some ⟨n++m,.int k (if b>a then b else a),[]⟩ else none
 | _,_=>none
theorem zlg (o:Oper) (x y:Operand) (ts:Array TypeId) (ho:o.op = .call {callee:= .builtin .min,args:= #[x,y],argTypes:=ts}) {u:Upd} (hu:cMin st x y=some u):Does P base X w0 st o u:=by
 unfold cMin at hu
 split at hu
 case h_2=>simp at hu
 rename_i k a n k' b m e1 e2
 split at hu
 case isFalse=>simp at hu
 rename_i hk
 subst hk
 simp only [Option.some.injEq] at hu
 subst hu
 refine Does.pure fun E ac w h hn=>?_
 have hx:=zaa (h.ev x) (fun p hp=>hn p (by rw [e1] at hp;simp [hp]))
 have hy:=zaa (h.ev y) (fun p hp=>hn p (by rw [e2] at hp;simp [hp]))
 rw [e1] at hx
 rw [e2] at hy
 obtain ⟨hx,wx⟩:=hx
 obtain ⟨hy,wy⟩:=hy
 refine ⟨.int k (if b<a then b else a),?_,rfl,by split<;>assumption⟩
 simp [execOp,ho,resolve,invoke,builtin,Builtin.min_,hx,hy,Builtin.min2]
theorem zlh (o:Oper) (x y:Operand) (ts:Array TypeId) (ho:o.op = .call {callee:= .builtin .max,args:= #[x,y],argTypes:=ts}) {u:Upd} (hu:cMax st x y=some u):Does P base X w0 st o u:=by
 unfold cMax at hu
 split at hu
 case h_2=>simp at hu
 rename_i k a n k' b m e1 e2
 split at hu
 case isFalse=>simp at hu
 rename_i hk
 subst hk
 simp only [Option.some.injEq] at hu
 subst hu
 refine Does.pure fun E ac w h hn=>?_
 have hx:=zaa (h.ev x) (fun p hp=>hn p (by rw [e1] at hp;simp [hp]))
 have hy:=zaa (h.ev y) (fun p hp=>hn p (by rw [e2] at hp;simp [hp]))
 rw [e1] at hx
 rw [e2] at hy
 obtain ⟨hx,wx⟩:=hx
 obtain ⟨hy,wy⟩:=hy
 refine ⟨.int k (if b>a then b else a),?_,rfl,by split<;>assumption⟩
 simp [execOp,ho,resolve,invoke,builtin,Builtin.max_,hx,hy,Builtin.max2]
end ops
end Go.Proofs.Ytfccndnnpkiajaa
namespace Go.Proofs.Ytfccndnnpkiajaa
open Go.RowKit Go.ChangeShapes Go.WideShapes Go.Deep
section ops
variable {P : Program} {base : Nat} {X : Cx} {w0 : World} {st : St}
def zg4 (P:Program) (E:TypeId) (k:Nat):Bool:=
 match P.info? E with
 | some i=>match i.zero with
  | some z=>i.size==k&&Nat.ble i.bytes 1024&&z.cells.size==k
  | none=>false
 | none=>false
theorem zek {E:TypeId} {k:Nat} (h:zg4 P E k=true):∃ bytes,bytes≤1024∧Info P E k bytes:=by
 unfold zg4 at h
 split at h
 case h_2=>simp at h
 rename_i i hi
 split at h
 case h_2=>simp at h
 rename_i z hz
 simp only [Bool.and_eq_true,beq_iff_eq,Nat.ble_eq] at h
 exact ⟨i.bytes,h.1.2,i,z,hi,hz,h.1.1,rfl,h.2⟩
theorem zi4 {w:World} {t ty E:TypeId} {S:Nat→Prop} {fs:List Ty} (hk0:0<fs.length) (hkb:fs.length≤64) (ht:P.underlying t=some (.slice E)) (hi:zg4 P E fs.length=true)
  {v xv:Value} {rows ds:List (List D)} {T2:TypeId} {S2:Nat→Prop} (hown:OwnR 0 w E S fs v rows) (hx:OwnR 0 w T2 S2 fs xv ds) (hS:∀ b,S2 b→S b∧v.ownBlock≠some b) (hb:(rows.length+ds.length)*1024≤140737488355328) :
  ∃ v' w',(Builtin.append_ #[t,t] ty #[v,xv]).run P w = .ok v' w'∧OwnR 0 w' E S fs v' (rows++ds)∧w.grownBy w' v.ownBlock∧(v'.ownBlock=v.ownBlock∨v'.ownBlock=some w.heap.size):=by
 obtain ⟨bytes,hbb,hI⟩:=zek hi
 obtain ⟨cells,⟨hl,⟨rfl,hn⟩ | ⟨g,cap,cur,rfl,hg,hh,hc,hm,hs,htk⟩⟩,hr⟩:=hx
 ·have hnil:ds=[]:=List.eq_nil_of_length_eq_zero hn
  subst hnil
  obtain ⟨i,z,e1,e2,e3,e4,e5⟩:=hI
  obtain ⟨cells,hoc,hr⟩:=hown
  refine ⟨v,w,?_,by rw [List.append_nil];exact ⟨cells,hoc,hr⟩,World.grownBy.refl _ _,.inl rfl⟩
  rcases hoc.2 with ⟨rfl,h2⟩ | ⟨g,cap,cur,rfl,_,_,hnc,_⟩
  ·simp [Builtin.append_,run_underlying ht,sizeOf,typeInfo,e1,Builtin.lenOf,Builtin.firstCells]
  ·simp [Builtin.append_,run_underlying ht,sizeOf,typeInfo,e1,Builtin.lenOf,Builtin.firstCells,hnc,storeCells]
 refine zfk rfl hk0 hkb hbb ht hI hown (Below.refl _ _) ⟨g,0,none⟩ ds.length cap cells ds rfl hl (fun j u hu=>?_) (fun u hu=>?_) (fun i hi=>(hr i hi).mono fun b _ hb=>hS b hb.1) hb (Nat.zero_le _)
 ·rw [← htk] at hu
  have hlt:j<ds.length*fs.length:=by
   rw [htk] at hu
   have:=(List.getElem?_eq_some_iff.1 hu).1
   omega
  rw [List.getElem?_take,if_pos hlt] at hu
  rw [WideShapes.add_plain,Nat.zero_add]
  simp only [World.cell?,hh]
  rw [← Array.getElem?_toList];exact hu
 ·obtain ⟨j,hj,e⟩:=List.getElem_of_mem hu
  have hjd:j / fs.length<ds.length:=Nat.div_lt_of_lt_mul (by rw [Nat.mul_comm];omega)
  have hm1:=Nat.mod_lt j hk0
  have hm2:=Nat.div_add_mod j fs.length
  rw [Nat.mul_comm] at hm2
  refine RdL.ones (hr (j / fs.length) hjd) u ?_
  refine List.mem_of_getElem? (i:=j % fs.length) ?_
  rw [List.getElem?_take,if_pos hm1,List.getElem?_drop,hm2,List.getElem?_eq_getElem hj,e]
theorem zfJ {w:World} {t ty E:TypeId} {S:Nat→Prop} {fs:List Ty} (hk0:0<fs.length) (hkb:fs.length≤64) (ht:P.underlying t=some (.slice E)) (hi:zg4 P E fs.length=true)
  {v:Value} {rows ds:List (List D)} {T:Nat→Prop} {ax:Option Addr} {m c:Nat} (hown:OwnR 0 w E S fs v rows) (hd:Sl w T fs ax m c ds) (hS:∀ b,T b→S b∧v.ownBlock≠some b) (hb:(rows.length+ds.length)*1024≤140737488355328) :
  ∃ v' w',(Builtin.append_ #[t,t] ty #[v,.slice ax m c]).run P w = .ok v' w'∧OwnR 0 w' E S fs v' (rows++ds)∧w.grownBy w' v.ownBlock∧(v'.ownBlock=v.ownBlock∨v'.ownBlock=some w.heap.size):=by
 obtain ⟨bytes,hbb,hI⟩:=zek hi
 have hlen:=hd.len
 rw [hlen] at hb
 rcases ax with _ | ad
 ·obtain ⟨h0,h0'⟩:=hd.bd.2.2.2 rfl
  subst h0;subst h0'
  have hnil:ds=[]:=List.eq_nil_of_length_eq_zero hlen
  subst hnil
  obtain ⟨i,z,e1,e2,e3,e4,e5⟩:=hI
  obtain ⟨cells,hoc,hr⟩:=hown
  refine ⟨v,w,?_,by rw [List.append_nil];exact ⟨cells,hoc,hr⟩,World.grownBy.refl _ _,.inl rfl⟩
  rcases hoc.2 with ⟨rfl,h2⟩ | ⟨g,cap,cur,rfl,_,_,hnc,_⟩
  ·simp [Builtin.append_,run_underlying ht,sizeOf,typeInfo,e1,Builtin.lenOf,Builtin.firstCells]
  ·simp [Builtin.append_,run_underlying ht,sizeOf,typeInfo,e1,Builtin.lenOf,Builtin.firstCells,hnc,storeCells]
 ·by_cases hp:0<m
  ·obtain ⟨b,off,e,hS',hbl,vals,hc,hr⟩:=hd.rowAt hp
   cases e
   exact zfk (P:=P) rfl hk0 hkb hbb ht hI hown (Below.refl _ _) ⟨b,off,none⟩ m c ((List.range m).flatMap fun i=>(List.range fs.length).map (vals i)) ds hlen (zcB _ _ _)
    (fun j u hj=>by
     obtain ⟨i,jj,h1,h2,rfl,rfl⟩:=zfX _ _ _ _ _ hj
     rw [WideShapes.add_plain,← Nat.add_assoc]
     exact hc i jj h1 h2)
    (fun u hu=>by
     obtain ⟨j,hj⟩:=List.getElem?_of_mem hu
     obtain ⟨i,jj,h1,h2,_,rfl⟩:=zfX _ _ _ _ _ hj
     exact ((hr i h1).2 jj (by omega)).one)
    (fun i hi=>by
     rw [zhF _ _ _ i (by omega)]
     exact RdL.of_at _ (hr i (by omega)).1 (fun j hj=>Rd.mono ((hr i (by omega)).2 j hj) (fun b _ hb=>hS b hb))) hb (Nat.zero_le _)
  ·have h0:m=0:=by omega
   subst h0
   have hnil:ds=[]:=List.eq_nil_of_length_eq_zero hlen
   subst hnil
   exact zfk (P:=P) rfl hk0 hkb hbb ht hI hown (Below.refl _ _) ad 0 c [] [] rfl (by simp) (fun j u hj=>by simp at hj) (fun u hu=>by simp at hu) (fun i hi=>by simp at hi) hb (Nat.zero_le _)
def zdx (st:St) (e:TypeId):SV→Option (Option Nat×List Nat×RL)
 | .own t=>match st.m t with
  | .row Tb ls r=>if Tb=e then some (some t,ls,r) else none
  | _=>none
 | .nil=>match RL.ofT e with
  | some r=>some (none,[],r)
  | none=>none
 | _=>none
def zbx (st:St) (r:RL):SV→Option (Option Nat×List Nat×RL)
 | .own u=>match st.m u with
  | .row _ ms q=>some (some u,ms,q)
  | _=>none
 | .sl ms q=>some (none,ms,q)
 | .nil=>some (none,[],r.emp)
 | _=>none
def zjZ:Option Nat→Option Nat→Bool
 | some t,some u=>!(Nat.beq t u)
 | _,_=>true
def zh1:Option Nat→List (Nat×BE)
 | some t=>[(t,.dead)]
 | none=>[]
theorem RdL.flat {w:World} {S T:Nat→Prop}:∀ {fs:List Ty} {vs:List Value} {ds:List D},fs.all Ty.flat=true→RdL w S fs vs ds→RdL w T fs vs ds
 | [],[],[],_,_=>trivial
 | t::ts,v::vs,d::ds,hf,h=>by
  simp only [List.all_cons,Bool.and_eq_true] at hf
  exact ⟨h.1.any hf.1,RdL.flat hf.2 h.2⟩
 | _::_,[],_,_,h=>h.elim
 | _::_,_::_,[],_,h=>h.elim
 | [],_::_,_,_,h=>h.elim
 | [],[],_::_,_,h=>h.elim
theorem OwnR.flat {b:Nat} {w:World} {T:TypeId} {S S2:Nat→Prop} {fs:List Ty} {v:Value} {rows:List (List D)} (h:OwnR b w T S fs v rows) (hf:fs.all Ty.flat=true):OwnR b w T S2 fs v rows:=by
 obtain ⟨cells,ho,hr⟩:=h
 exact ⟨cells,ho,fun i hi=>RdL.flat hf (hr i hi)⟩
def labA (r:RL) (ls ms:List Nat):List Nat:=if r.tys.all Ty.flat=true then [] else ls++ms
def cApp (P:Program) (st:St) (c:Nat) (T:TypeId) (x y:Operand):Option Upd:=
 match zaO P T with
 | none=>none
 | some e=>match zdx st e (zac (st.ev x)).1 with
  | none=>none
  | some (dt,ls,r)=>match zbx st r (zac (st.ev y)).1 with
   | none=>none
   | some (su,ms,q)=>if zjZ dt su=true then (if st.free c=true then (if zg4 P e r.tys.length=true then (match r.app q with
    | some r2=>some ⟨(zac (st.ev x)).2++(zac (st.ev y)).2++[(r.len+q.len)*1024≤140737488355328],.own c,zh1 dt++[(c,.row e (labA r ls ms) r2)]⟩
    | none=>none) else none) else none) else none
theorem zga {E:Env} {w:World} (hm:MemOk base X w0 E st.m w) {e:TypeId} {s:SV} {dt:Option Nat} {ls:List Nat} {r:RL} (h:zdx st e s=some (dt,ls,r)) {v:Value} (hv:DenV E w s v) :
  OwnR 0 w e (E.set ls) r.tys v r.rows∧(∀ b,v.ownBlock=some b→∃ t,dt=some t∧Has E st.m t b)∧(∀ t,dt=some t→(st.m t).live=true∧E.β t=some v):=by
 cases s
 case own t=>
  simp only [zdx] at h
  split at h
  case h_2=>simp at h
  rename_i Tb ls2 r2 hmt
  split at h
  case isFalse=>simp at h
  rename_i hT
  subst hT
  simp only [Option.some.injEq,Prod.mk.injEq] at h
  obtain ⟨rfl,rfl,rfl⟩:=h
  obtain ⟨v',hβ,ho⟩:=hm.row t _ _ _ hmt
  have hv1:=hv.1
  rw [hβ] at hv1
  simp only [Option.some.injEq] at hv1
  subst hv1
  obtain ⟨a,cc,ef⟩:=ho.form
  refine ⟨ho,fun b hb=>⟨t,rfl,Has.row hmt hβ (by rw [← zal ⟨a,_,cc,ef⟩];exact hb)⟩,fun t2 ht2=>?_⟩
  cases ht2
  exact ⟨by rw [hmt];rfl,hβ⟩
 case nil=>
  simp only [zdx] at h
  split at h
  case h_2=>simp at h
  rename_i r2 hr
  simp only [Option.some.injEq,Prod.mk.injEq] at h
  obtain ⟨rfl,rfl,rfl⟩:=h
  have:v = .slice none 0 0:=hv
  subst this
  refine ⟨by rw [RL.ofT_ok hr];exact OwnR.nil _ _ _ _ _,fun b hb=>?_,fun t ht=>?_⟩
  ·cases hb
  ·cases ht
 all_goals simp [zdx] at h
theorem zip {E:Env} {w w':World} (hm:MemOk base X w0 E st.m w) {c:Nat} (hcE:st.m c = .empty) {dt:Option Nat} {v v':Value} (hHas:∀ b,v.ownBlock=some b→∃ t,dt=some t∧Has E st.m t b) (hlive:∀ t,dt=some t→(st.m t).live=true∧E.β t=some v)
  {e:TypeId} {lb:List Nat} {r2:RL} (hO:OwnR 0 w' e (E.set lb) r2.tys v' r2.rows) (hgr:w.grownBy w' v.ownBlock) (hat:v'.ownBlock=v.ownBlock∨v'.ownBlock=some w.heap.size) :
  Same E.lab w w'∧E.Le (E.setβ c v')∧v'.oneCell'=true∧MemOk base X w0 (E.setβ c v') (putF (zh1 dt++[(c,.row e lb r2)]) st.m) w':=by
 have hnl:∀ b,E.lab b→v.ownBlock≠some b:=fun b hb e=>by
  obtain ⟨t,_,hh⟩:=hHas b e
  exact (hm.sep t b hh).1 hb
 have hnv:∀ b,E.lab b→some b≠v.ownBlock:=fun b hb e=>hnl b hb e.symm
 have hS:Same E.lab w w':=Same.of_grown hgr hnv
 have hE:=Env.setβ_le (hm.empty c hcE).1 v'
 have hv'f:∃ a n c,v' = .slice a n c:=by obtain ⟨a,c,e⟩:=hO.form;exact ⟨a,_,c,e⟩
 obtain ⟨m1,hm1,hk,hm1c,hm1h⟩:∃ m1,m1=putF (zh1 dt) st.m∧MemOk base X w0 E m1 w∧m1 c = .empty∧(∀ s b,Has E m1 s b→Has E st.m s b∧v.ownBlock≠some b):=by
  cases dt with
  | none=>
   refine ⟨st.m,rfl,hm,hcE,fun s b hh=>⟨hh,fun e=>?_⟩⟩
   obtain ⟨t,ht,_⟩:=hHas b e
   cases ht
  | some t=>
   have hct:c≠t:=fun e=>by
    have:=(hlive t rfl).1
    rw [← e,hcE] at this;cases this
   refine ⟨upd st.m t .dead,rfl,hm.kill t,by rw [za7 _ _ hct];exact hcE,fun s b hh=>?_⟩
   have hst:s≠t:=fun e2=>by subst e2;have:=hh.1;rw [za0] at this;cases this
   have hs2:Has E st.m s b:=⟨by have:=hh.1;rwa [za7 _ _ hst] at this,by have:=hh.2;rwa [za7 _ _ hst] at this⟩
   refine ⟨hs2,fun e=>?_⟩
   obtain ⟨t2,ht2,hh2⟩:=hHas b e
   cases ht2
   exact hst (hm.inj s t b hs2 hh2)
 have hm':MemOk base X w0 (E.setβ c v') (upd m1 c (.row e lb r2)) w':=by
  refine hk.take hm1c v' _ (by simp) hgr.size (fun b hb=>?_) ⟨hgr.os,hgr.tape,hgr.output,hgr.size,fun b hb hX=>?_⟩ (fun b hb=>?_) hO
  ·have hlt:b<w.heap.size:=by
    rcases hb with ⟨i,hi⟩ | ⟨s,hs⟩
    ·exact (hk.lab i b hi).1
    ·exact hk.lt hs
   refine hgr.block b hlt ?_
   rcases hb with hb | ⟨s,hs⟩
   ·exact hnv b hb
   ·exact fun e=>(hm1h s b hs).2 e.symm
  ·refine hgr.block b (Nat.lt_of_lt_of_le hb hm.base) (fun e=>?_)
   obtain ⟨t,_,hh⟩:=hHas b e.symm
   rcases (hm.sep t b hh).2 with h3 | h3
   ·omega
   ·exact hX h3
  ·have hb:v'.ownBlock=some b:=by rw [zal hv'f];exact hb
   rcases hat with e | e
   ·rw [e] at hb
    obtain ⟨t,_,hh⟩:=hHas b hb
    exact ⟨(hm.sep t b hh).1,fun s hs=>(hm1h s b hs).2 hb,(hm.sep t b hh).2⟩
   ·rw [e] at hb
    simp only [Option.some.injEq] at hb
    subst hb
    exact ⟨fun ⟨i,hi⟩=>Nat.lt_irrefl _ (hm.lab i _ hi).1,fun s hs=>Nat.lt_irrefl _ (hk.lt hs),.inl hm.base⟩
 refine ⟨hS,hE,by obtain ⟨a,n,c,e⟩:=hv'f;rw [e];rfl,?_⟩
 have e4:putF (zh1 dt++[(c,.row e lb r2)]) st.m=upd m1 c (.row e lb r2):=by
  rw [hm1]
  cases dt with
  | none=>rfl
  | some t=>
   have hct:t≠c:=fun e=>by
    have:=(hlive t rfl).1
    rw [e,hcE] at this;cases this
   show upd (upd st.m c _) t .dead=upd (upd st.m t .dead) c _
   exact (zf7 _ _ _ hct).symm
 rw [e4];exact hm'
theorem zls (o:Oper) (c:Nat) (T:TypeId) (x y:Operand) (ho:o.op = .call {callee:= .builtin .append,args:= #[x,y],argTypes:= #[T,T]}) {u:Upd} (hu:cApp P st c T x y=some u):Does P base X w0 st o u:=by
 unfold cApp at hu
 split at hu
 case h_1=>simp at hu
 rename_i e he
 split at hu
 case h_1=>simp at hu
 rename_i dt ls r hdst
 split at hu
 case h_1=>simp at hu
 rename_i su ms q hsrc
 split at hu
 case isFalse=>simp at hu
 rename_i hap
 split at hu
 case isFalse=>simp at hu
 rename_i hfree
 split at hu
 case isFalse=>simp at hu
 rename_i hinfo
 split at hu
 case h_2=>simp at hu
 rename_i r2 hr2
 simp only [Option.some.injEq] at hu
 subst hu
 intro E a w K Q h hn hK
 have hx:=zaa (h.ev x) (fun p hp=>hn p (by simp [hp]))
 have hy:=zaa (h.ev y) (fun p hp=>hn p (by simp [hp]))
 have hbd:(r.len+q.len)*1024≤140737488355328:=hn _ (by simp)
 obtain ⟨o1,hHas,hlive⟩:=zga h.mem hdst hx
 obtain ⟨b1,b2,b3,b4⟩:=RL.app_ok hr2
 have hrl:r.rows.length=r.len:=r.rows_len
 have hql:q.rows.length=q.len:=q.rows_len
 have hcE:=St.of_free hfree
 obtain ⟨v,hav⟩:∃ v,a.eval x=v:=⟨_,rfl⟩
 rw [hav] at hx o1 hHas hlive
 have hform:∃ a n c,v = .slice a n c:=by obtain ⟨a,c,e⟩:=o1.form;exact ⟨a,_,c,e⟩
 have hvo:v.ownBlock=zas v:=zal hform
 have hnl:∀ b,E.lab b→v.ownBlock≠some b:=fun b hb e=>by
  obtain ⟨t,_,hh⟩:=hHas b e
  exact (h.mem.sep t b hh).1 hb
 have hrun:∃ v' w',(Builtin.append_ #[T,T] o.type #[v,a.eval y]).run P w = .ok v' w'∧OwnR 0 w' e (E.set (ls++ms)) r.tys v' (r.rows++q.rows)∧w.grownBy w' v.ownBlock∧(v'.ownBlock=v.ownBlock∨v'.ownBlock=some w.heap.size):=by
  have o1':=o1.mono (T:=E.set (ls++ms)) (Nat.le_refl _) (fun b hb=>Env.set_mono (fun i hi=>List.mem_append_left _ hi) b hb)
  have hS:∀ b,E.set ms b→E.set (ls++ms) b∧v.ownBlock≠some b:=fun b hb=>⟨Env.set_mono (fun i hi=>List.mem_append_right _ hi) b hb,hnl b (Env.set_lab hb)⟩
  cases hs:(zac (st.ev y)).1 with
  | own u=>
   rw [hs] at hsrc hy
   simp only [zbx] at hsrc
   split at hsrc
   case h_2=>simp at hsrc
   rename_i Tu ms2 q2 hmu
   simp only [Option.some.injEq,Prod.mk.injEq] at hsrc
   obtain ⟨rfl,rfl,rfl⟩:=hsrc
   obtain ⟨xv,hβ,ho2⟩:=h.mem.row u _ _ _ hmu
   have hv1:=hy.1
   rw [hβ] at hv1
   simp only [Option.some.injEq] at hv1
   rw [b3] at ho2
   rw [← hv1]
   exact zi4 (RL.tys_pos r).1 (RL.tys_pos r).2 (zaj he) hinfo o1' ho2 hS (by rw [hrl,hql];exact hbd)
  | sl ms2 q2=>
   rw [hs] at hsrc hy
   simp only [zbx,Option.some.injEq,Prod.mk.injEq] at hsrc
   obtain ⟨rfl,rfl,rfl⟩:=hsrc
   have hy:Rd w (E.set ms2) (.sl q2.tys) (a.eval y) (.sl q2.rows):=hy
   obtain ⟨ad,cc,e1,e2⟩:=hy.sl'
   rw [b3] at e2
   rw [e1]
   exact zfJ (RL.tys_pos r).1 (RL.tys_pos r).2 (zaj he) hinfo o1' e2 hS (by rw [hrl,hql];exact hbd)
  | nil=>
   rw [hs] at hsrc hy
   simp only [zbx,Option.some.injEq,Prod.mk.injEq] at hsrc
   obtain ⟨rfl,rfl,rfl⟩:=hsrc
   have hy:DenV E w (.sl [] r.emp) (a.eval y):=zk8 hy
   have hy:Rd w (E.set []) (.sl r.emp.tys) (a.eval y) (.sl r.emp.rows):=hy
   obtain ⟨ad,cc,e1,e2⟩:=hy.sl'
   rw [b3] at e2
   rw [e1]
   exact zfJ (RL.tys_pos r).1 (RL.tys_pos r).2 (zaj he) hinfo o1' e2 hS (by rw [hrl,hql];exact hbd)
  | _=>rw [hs] at hsrc;simp [zbx] at hsrc
 obtain ⟨v',w',hrun,hO,hgr,hat⟩:=hrun
 have hO2:OwnR 0 w' e (E.set (labA r ls ms)) r2.tys v' r2.rows:=by
  rw [b1,b2]
  unfold labA
  by_cases hf:r.tys.all Ty.flat=true
  ·rw [if_pos hf];exact hO.flat hf
  ·rw [if_neg hf];exact hO
 obtain ⟨hS,hE,hone,hm'⟩:=zip h.mem hcE hHas hlive hO2 hgr hat
 refine za5 (v:=v') (w':=w') ?_ (hK (E.setβ c v') w' v' hE hS ⟨if_pos rfl,hone⟩ hm')
 simp only [execOp,ho,resolve,invoke,builtin,Sem.run_bind,Sem.run_pure,Result.andThen_ok,List.map_toArray,List.map_cons,List.map_nil]
 rw [hav,hrun];rfl
end ops
end Go.Proofs.Ytfccndnnpkiajaa
namespace Go.Proofs.Ytfccndnnpkiajaa
open Go.RowKit Go.ChangeShapes Go.WideShapes Go.Deep
section ops
variable {P : Program} {base : Nat} {X : Cx} {w0 : World} {st : St}
def zeF (k:Nat):Nat→List SV→RL→List Nat→Option (RL×List Nat)
 | 0,_,r,ms=>some (r,ms)
 | n+1,out,r,ms=>match r.snoc (out.take k) with
  | some (r2,m)=>zeF k n (out.drop k) r2 (ms++m)
  | none=>none
theorem zeE {E:Env} {w:World} {k:Nat}:∀ (n:Nat) (out:List SV) (zs:List Value) (r:RL) (ms:List Nat) (r2:RL) (ls:List Nat),zeF k n out r ms=some (r2,ls)→DenL E w out zs →
  r2.tys=r.tys∧(∀ i,i∈ms→i∈ls)∧∃ ds,ds.length=n∧r2.rows=r.rows++ds∧∀ i,i<n→RdL w (E.set ls) r.tys ((zs.drop (i*k)).take k) (ds.getD i [])
 | 0,out,zs,r,ms,r2,ls,h,hd=>by
  simp only [zeF,Option.some.injEq,Prod.mk.injEq] at h
  obtain ⟨rfl,rfl⟩:=h
  exact ⟨rfl,fun i hi=>hi,[],rfl,by simp,fun i hi=>absurd hi (by omega)⟩
 | n+1,out,zs,r,ms,r2,ls,h,hd=>by
  simp only [zeF] at h
  split at h
  case h_2=>simp at h
  rename_i r1 m e
  obtain ⟨g1,g2,d,g3,g4⟩:=RL.snoc_ok e
  obtain ⟨q1,q2,ds,q3,q4,q5⟩:=zeE n _ (zs.drop k) r1 _ r2 ls h (hd.drop k)
  refine ⟨q1.trans g1,fun i hi=>q2 i (List.mem_append_left _ hi),d::ds,by simp [q3],by rw [q4,g3];simp,fun i hi=>?_⟩
  cases i with
  | zero=>
   have:=g4 E w _ (hd.take k)
   simp only [Nat.zero_mul,List.drop_zero,List.getD_cons_zero]
   exact this.mono fun b _ hb=>Env.set_mono (fun i hi=>q2 i (List.mem_append_right _ hi)) b hb
  | succ i=>
   have:=q5 i (by omega)
   rw [List.drop_drop,g1] at this
   rw [List.getD_cons_succ,show (i+1)*k=k+i*k by rw [Nat.add_mul];omega]
   exact this
theorem zdV {E:Env} {w:World} (h:MemOk base X w0 E st.m w) {c:Nat} (hc:st.m c = .empty) (T:TypeId) {xs:List Value} {ls:List Nat} {r:RL} {n:Nat}
  (hO:OwnR 0 (w.alloc (.cells xs.toArray T)) T (E.set ls) r.tys (.slice (some ⟨w.heap.size,0,none⟩) n n) r.rows) :
  MemOk base X w0 (E.setβ c (.slice (some ⟨w.heap.size,0,none⟩) n n)) (putF [(c,.row T ls r)] st.m) (w.alloc (.cells xs.toArray T))∧E.Le (E.setβ c (.slice (some ⟨w.heap.size,0,none⟩) n n))∧Same E.lab w (w.alloc (.cells xs.toArray T)):=by
 have hE:=Env.setβ_le (h.empty c hc).1 (.slice (some ⟨w.heap.size,0,none⟩) n n)
 have hS:Same E.lab w (w.alloc (.cells xs.toArray T)):=Same.alloc _ _ _
 refine ⟨?_,hE,hS⟩
 rw [zbb]
 refine h.take hc _ _ (by simp) (by simp) (fun b hb=>?_) ⟨rfl,rfl,rfl,by simp,fun b hb _=>Below.heap_alloc _ _ _ (Nat.lt_of_lt_of_le hb h.base)⟩ (fun b hb=>?_) hO
 ·have:b<w.heap.size:=by
   rcases hb with ⟨i,hi⟩ | ⟨t,ht⟩
   ·exact (h.lab i b hi).1
   ·exact h.lt ht
  exact Below.heap_alloc _ _ _ this
 ·simp [zas] at hb
  subst hb
  exact ⟨fun ⟨i,hi⟩=>Nat.lt_irrefl _ (h.lab i _ hi).1,fun t ht=>Nat.lt_irrefl _ (h.lt ht),.inl h.base⟩
def zlz (z:Value) (n:Nat):List SV:=(List.range n).map fun j=>ofC (z.cells[j % z.cells.size]!)
def cLit (P:Program) (st:St) (c:Nat) (T:TypeId) (len:Nat) (parts:Array (Nat×Operand)):Option Upd:=
 match zaO P T with
 | some e=>match (P.info? e).bind (·.zero),zaR P e,RL.ofT e with
  | some z,some k,some r0=>if 0<len*k∧len*k≤16777216∧len≤1000000 then (match zgB (fun i=>some (i*k,k)) (zlz z (len*k)) (zaP st parts.toList).1 with
   | some out=>match zeF k len out r0 [] with
    | some (r,ls)=>if k=r0.tys.length∧st.free c=true∧out.length=len*k then some ⟨(zaP st parts.toList).2,.own c,[(c,.row e ls r)]⟩ else none
    | none=>none
   | none=>none) else none
  | _,_,_=>none
 | none=>none
theorem zli (o:Oper) (c:Nat) (T:TypeId) (len:Nat) (parts:Array (Nat×Operand)) (ho:o.op = .buildSlice T len parts) {u:Upd} (hu:cLit P st c T len parts=some u):Does P base X w0 st o u:=by
 unfold cLit at hu
 split at hu
 case h_2=>simp at hu
 rename_i e he
 split at hu
 case h_2=>simp at hu
 rename_i z k r0 hz hk hr0
 split at hu
 case isFalse=>simp at hu
 rename_i hb
 obtain ⟨hb0,hb1,hb2⟩:=hb
 split at hu
 case h_2=>simp at hu
 rename_i out hout
 split at hu
 case h_2=>simp at hu
 rename_i r ls hrow
 split at hu
 case isFalse=>simp at hu
 rename_i hc
 obtain ⟨hkr,hfree,hol⟩:=hc
 simp only [Option.some.injEq] at hu
 subst hu
 have hcE:=St.of_free hfree
 intro E a w K Q h hn hK
 have hp:=zdo h parts.toList hn
 obtain ⟨zr,hr,hd⟩:=zeq (E:=E) (w:=w) (zs:=(Array.range (len*k)).map (fun j=>z.cells[j % z.cells.size]!)) (vals:=zdd a parts.toList) hout (by
  have:=zeb E w ((List.range (len*k)).map fun j=>z.cells[j % z.cells.size]!)
  simpa [zlz,Function.comp_def] using this) (by rw [hp.1];simp [zdd]) (fun i hi=>hp.2 i (by rw [hp.1] at hi;exact hi))
 obtain ⟨q1,_,ds,q3,q4,q5⟩:=zeE (E:=E) (w:=w) len out zr.toList r0 [] r ls hrow hd
 rw [RL.ofT_ok hr0,List.nil_append] at q4
 have hzl:zr.toList.length=len*k:=by rw [hd.len,hol]
 have hO:OwnR 0 (w.alloc (.cells zr.toList.toArray e)) e (E.set ls) r.tys (.slice (some ⟨w.heap.size,0,none⟩) len len) r.rows:=by
  refine ⟨zr.toList,⟨by rw [q4,q3,q1,← hkr];exact hzl,.inr ⟨w.heap.size,len,zr.toList.toArray,by rw [q4,q3],Nat.zero_le _,heap_alloc_new _ _,by rw [q4,q3];exact Nat.le_refl _,by unfold maxLen;omega,by rw [q1,← hkr];simpa using hzl,?_⟩⟩,fun i hi=>?_⟩
  ·rw [q4,q3,q1,← hkr];rw [List.take_of_length_le];rw [← hzl];exact Nat.le_refl _
  ·rw [q4,q3] at hi
   rw [q4,q1,← hkr]
   have:=q5 i hi
   have h2:RdL w (fun b=>(E.set ls b∧Value.ownBlock (.slice (some ⟨w.heap.size,0,none⟩) len len)≠some b)) r0.tys ((zr.toList.drop (i*k)).take k) (ds.getD i []):=this.mono fun b hb hs=>⟨hs,fun e2=>by
    simp only [Value.ownBlock,Option.some.injEq] at e2;omega⟩
   exact h2.same (Same.alloc _ _ _)
 obtain ⟨m1,m2,m3⟩:=zdV (st:=st) h.mem hcE e hO
 refine za5 (v:= .slice (some ⟨w.heap.size,0,none⟩) len len) (w':=w.alloc (.cells zr.toList.toArray e)) ?_ (hK _ _ _ m2 m3 ⟨if_pos rfl,rfl⟩ m1)
 cases hi:P.info? e with
 | none=>simp [hi] at hz
 | some inf=>
  simp [hi] at hz
  have hrr:Instr.fill (fun i=>some (i*k,k)) ((Array.range (len*k)).map (fun j=>z.cells[j % z.cells.size]!)) (parts.map fun (i,x)=>(i,a.eval x)).toList=some zr:=by
   have e2:(parts.map fun (i,x)=>(i,a.eval x)).toList=zdd a parts.toList:=by simp [zdd]
   rw [e2];exact hr
  have hnz:¬ (len*k=0):=by omega
  have hng:¬ (len*k>2 ^ 24):=by omega
  simp only [execOp,ho,Instr.buildSlice,zeroValue,typeInfo,Sem.run_bind,run_program,hi,hz,Result.andThen,Sem.run_pure,run_underlying (zaj he),zam hk,hng,hnz,if_false,hrr,newRow]
  rfl
end ops
end Go.Proofs.Ytfccndnnpkiajaa
namespace Go.Proofs.Ytfccndnnpkiajaa
open Go.RowKit Go.ChangeShapes Go.WideShapes Go.Deep
theorem Sl.cutX {w:World} {S:Nat→Prop} {fs:List Ty} {b off n c d:Nat} {rows:List (List D)} (h:Sl w S fs (some ⟨b,off,none⟩) n c rows) (hd:d<n):Sl w S fs (some ⟨b,off+d*fs.length,none⟩) (n-d) (c-d) (rows.drop d):=by
 cases h with
 | emp _ _=>omega
 | row vals h1 h2 h3 h4 h5 h6 h7 h8 h9 h10 h11=>
  have e:∀ i,(rows.drop d).getD i []=rows.getD (d+i) []:=fun i=>by simp [List.getD]
  refine .row (fun i j=>vals (d+i) j) (by omega) (by simp;omega) (by omega) (by unfold maxLen at *;omega) (by omega) h6 h7 (fun i j hi hj=>?_) (fun i hi=>?_) (fun i j hi hj=>?_) (fun i j hi hj=>?_)
  ·have:=h8 (d+i) j (by omega) hj
   rw [Nat.add_mul] at this
   rw [← this];congr 2;omega
  ·rw [e];exact h9 _ (by omega)
  ·rw [e];exact h10 _ _ (by omega) hj
  ·have:=h11 (d+i) j (by omega) hj
   rw [Nat.add_mul] at this
   rw [← this];congr 2;omega
theorem Sl.cutMX {w:World} {S:Nat→Prop} {fs:List Ty} {a:Option Addr} {n c d:Nat} {rows:List (List D)} (h:Sl w S fs a n c rows) (hd:d≤n) (hc:d<c):Sl w S fs (a.map fun x=>x.add (d*fs.length)) (n-d) (c-d) (rows.drop d):=by
 have hb:=h.bd
 have hl:=h.len
 rcases Nat.lt_or_ge d n with h1 | h1
 ·obtain ⟨b,off,rfl⟩:=h.addr (by omega)
  have:=h.cutX h1
  simpa [Go.WideShapes.add_plain] using this
 ·have e:n-d=0:=by omega
  have e2:rows.drop d=[]:=List.drop_eq_nil_of_le (by omega)
  rw [e,e2]
  refine .emp (fun h0=>?_) (by obtain ⟨g1,g2,g3,g4⟩:=hb;unfold maxLen at *;omega)
  rcases a with _ | a
  ·have:=hb.2.2.2 rfl;omega
  ·simp at h0
section ops
variable {P : Program} {base : Nat} {X : Cx} {w0 : World} {st : St}
end ops
end Go.Proofs.Ytfccndnnpkiajaa
namespace Go.Proofs.Ytfccndnnpkiajaa
open Go.RowKit Go.ChangeShapes Go.WideShapes Go.Deep
section ops
variable {P : Program} {base : Nat} {X : Cx} {w0 : World} {st : St}
def zlf (st:St) (f:FuncId) (xs:List Operand):Upd:=
 match xs with
 | []=>⟨[],.fn f,[]⟩
 | x::r=>⟨(evL st (x::r)).2,.clo f (evL st (x::r)).1,[]⟩
theorem zjp (o:Oper) (f:FuncId) (xs:Array Operand) (ho:o.op = .makeFunc (.func f) #[] xs):Does P base X w0 st o (zlf st f xs.toList):=by
 obtain ⟨xs⟩:=xs
 cases xs with
 | nil=>exact Does.pure fun E a w h hn=>⟨_,by simp [execOp,ho,Instr.makeFunc],rfl⟩
 | cons x r=>
  refine Does.pure fun E a w h hn=>?_
  have:=zfa h (x::r) hn
  exact ⟨.func (.func f) #[] ((x::r).map a.eval).toArray,by simp [execOp,ho,Instr.makeFunc],_,rfl,this⟩
def zjr (P:Program) (st:St) (c:Nat) (T:TypeId) (x y:Operand):Option Upd:=
 match zaO P T,zac (st.ev x),zac (st.ev y) with
 | some e,(.int k n,n1),(.int k' m,n2)=>match RL.ofT e,(P.info? e).bind (·.zero) with
  | some (.rInts _),some (.int .i64 (.ofNat 0))=>if zg4 P e 1=true∧st.free c=true then some ⟨n1++n2++[n=m,0≤n,n≤274877906944],.own c,[(c,.row e [] (.rInts (List.replicate n.toNat 0)))]⟩ else none
  | _,_=>none
 | _,_,_=>none
theorem zjq (o:Oper) (c:Nat) (T:TypeId) (x y:Operand) (ho:o.op = .makeSlice T x y) {u:Upd} (hu:zjr P st c T x y=some u):Does P base X w0 st o u:=by
 unfold zjr at hu
 split at hu
 case h_2=>simp at hu
 rename_i e k n n1 k' m n2 e0 e1 e2
 split at hu
 case h_2=>simp at hu
 rename_i l0 hr0 hz
 split at hu
 case isFalse=>simp at hu
 rename_i hc
 obtain ⟨hinfo,hfree⟩:=hc
 simp only [Option.some.injEq] at hu
 subst hu
 have hcE:=St.of_free hfree
 intro E a w K Q h hn hK
 have hx:=zaa (h.ev x) (fun p hp=>hn p (by rw [e1] at hp;simp [hp]))
 have hy:=zaa (h.ev y) (fun p hp=>hn p (by rw [e2] at hp;simp [hp]))
 rw [e1] at hx
 rw [e2] at hy
 obtain ⟨hx,_⟩:=hx
 obtain ⟨hy,_⟩:=hy
 have h1:n=m:=hn _ (by simp)
 have h2:0≤n:=hn _ (by simp)
 have h3:n≤274877906944:=hn _ (by simp)
 subst h1
 obtain ⟨N,rfl⟩:∃ N:Nat,n=(N:Int):=⟨n.toNat,by omega⟩
 obtain ⟨bytes,hb,i,z,i1,i2,i3,i4,i5⟩:=zek hinfo
 have hz':z = .int .i64 0:=by
  rw [i1] at hz
  simp only [Option.bind_some,i2,Option.some.injEq] at hz
  exact hz
 subst hz'
 have hNN:N≤274877906944:=by omega
 have hbb:(i.bytes:Int)*(N:Int)≤281474976710656:=by
  have:i.bytes*N≤1024*274877906944:=Nat.mul_le_mul (by omega) hNN
  have h':((i.bytes*N:Nat):Int)≤281474976710656:=by omega
  rwa [Int.natCast_mul] at h'
 have hrun:=run_make (P:=P) w T e i (.int .i64 0) (zaj e0) i1 i2 k k' N N (by omega) (Int.le_refl _) hbb (by omega)
 have hcells:madeCells (Value.int .i64 0).cells ((N:Int).toNat*i.size)=((List.replicate N (0:Int)).map (Value.int .i64)).toArray:=by
  rw [i3]
  apply Array.ext
  ·simp [madeCells,Value.cells]
  ·intro j hj1 hj2
   simp [madeCells,Value.cells,Nat.mod_one]
 rw [hcells] at hrun
 simp only [Int.toNat_natCast] at hrun
 have hO:OwnR 0 (w.alloc (.cells ((List.replicate N (0:Int)).map (Value.int .i64)).toArray e)) e (E.set []) (RL.rInts (List.replicate N (0:Int))).tys (.slice (some ⟨w.heap.size,0,none⟩) N N) (RL.rInts (List.replicate N (0:Int))).rows:=by
  refine ⟨(List.replicate N (0:Int)).map (Value.int .i64),⟨by simp [RL.rows,RL.tys,ints],.inr ⟨w.heap.size,N,((List.replicate N (0:Int)).map (Value.int .i64)).toArray,by simp [RL.rows,ints],Nat.zero_le _,heap_alloc_new _ _,by simp [RL.rows,ints],by unfold maxLen;omega,by simp [RL.tys],by simp [RL.rows,RL.tys,ints]⟩⟩,fun j hj=>?_⟩
  have hj:j<N:=by simpa [RL.rows,ints] using hj
  have e3:(((List.replicate N (0:Int)).map (Value.int .i64)).drop (j*1)).take 1=[.int .i64 0]:=by
   rw [Nat.mul_one,List.drop_eq_getElem_cons (by simpa using hj)];simp
  have e4:(RL.rInts (List.replicate N (0:Int))).rows.getD j []=[.int 0]:=by simp [RL.rows,ints,List.getD,hj]
  rw [e4]
  show RdL _ _ [.int .i64] ((((List.replicate N (0:Int)).map (Value.int .i64)).drop (j*1)).take 1) _
  rw [e3]
  exact ⟨.int (by decide),trivial⟩
 obtain ⟨m1,m2,m3⟩:=zdV (st:=st) h.mem hcE e hO
 refine za5 (v:= .slice (some ⟨w.heap.size,0,none⟩) N N) (w':=w.alloc (.cells ((List.replicate N (0:Int)).map (Value.int .i64)).toArray e)) ?_ (hK _ _ _ m2 m3 ⟨if_pos rfl,rfl⟩ m1)
 simp only [execOp,ho,hx,hy,Sem.run_bind,hrun,Result.andThen,Sem.run_pure]
def nilU (st:St):SV→Option SV
 | .nil=>some (.bool true)
 | .sl _ r=>some (.ub r.nilP True)
 | .own t=>match st.m t with
  | .row _ _ r=>some (.ub r.nilP True)
  | _=>none
 | _=>none
def notU:SV→SV
 | .bool b=> .bool !b
 | .ub p q=> .ub q p
 | _=> .any
def cEqN (P:Program) (st:St) (op:BinOp) (T:TypeId) (x y:Operand):Option Upd:=
 match zaO P T,zac (st.ev y),op with
 | some _,(.nil,n2),.eql=>match nilU st (zac (st.ev x)).1 with
  | some s=>some ⟨(zac (st.ev x)).2++n2,s,[]⟩
  | none=>none
 | some _,(.nil,n2),.neq=>match nilU st (zac (st.ev x)).1 with
  | some s=>some ⟨(zac (st.ev x)).2++n2,notU s,[]⟩
  | none=>none
 | _,_,_=>none
theorem RL.nilP_of {r:RL} (h:r.rows=[]):r.nilP:=by
 cases r<;>simpa [RL.rows,RL.nilP,ints,strs,bools] using h
theorem zhm {E:Env} {a:Act} {w:World} (h:st.Ok base X w0 E a w) {s t:SV} (hs:nilU st s=some t) {v:Value} (hv:DenV E w s v):∃ ad n c,v = .slice ad n c∧DenV E w t (.bool ad.isNone)∧DenV E w (notU t) (.bool (!ad.isNone)):=by
 cases s
 case nil=>
  simp only [nilU,Option.some.injEq] at hs
  subst hs
  have:v = .slice none 0 0:=hv
  exact ⟨none,0,0,this,rfl,rfl⟩
 case sl ls r=>
  simp only [nilU,Option.some.injEq] at hs
  subst hs
  have hv:Rd w (E.set ls) (.sl r.tys) v (.sl r.rows):=hv
  obtain ⟨ad,c,rfl,hsl⟩:=hv.sl'
  have hk:ad.isNone=true→r.nilP:=fun e=>RL.nilP_of (by
   have:ad=none:=by simpa using e
   exact List.eq_nil_of_length_eq_zero (hsl.bd.2.2.2 this).1)
  exact ⟨ad,_,c,rfl,⟨_,rfl,hk,fun _=>trivial⟩,_,rfl,fun _=>trivial,fun e=>hk (by simpa using e)⟩
 case own t2=>
  simp only [nilU] at hs
  split at hs
  case h_2=>simp at hs
  rename_i Tb ls r hm
  simp only [Option.some.injEq] at hs
  subst hs
  obtain ⟨v',h1,ho⟩:=h.mem.row t2 _ _ _ hm
  have h2:=hv.1
  rw [h1] at h2
  simp only [Option.some.injEq] at h2
  subst h2
  obtain ⟨cells,hoR,_⟩:=ho
  rcases hoR.2 with ⟨rfl,hn⟩ | ⟨g,cap,cur,rfl,_⟩
  ·have hk:r.nilP:=RL.nilP_of (List.eq_nil_of_length_eq_zero hn)
   exact ⟨none,0,0,rfl,⟨_,rfl,fun _=>hk,fun _=>trivial⟩,_,rfl,fun _=>trivial,fun _=>hk⟩
  ·exact ⟨_,_,_,rfl,⟨_,rfl,fun e=>(by simp at e),fun _=>trivial⟩,_,rfl,fun _=>trivial,fun e=>(by simp at e)⟩
 all_goals simp [nilU] at hs
theorem zlm (o:Oper) (op:BinOp) (T T2:TypeId) (x y:Operand) (ho:o.op = .binOp op T x y T2) {u:Upd} (hu:cEqN P st op T x y=some u):Does P base X w0 st o u:=by
 unfold cEqN at hu
 split at hu
 ·rename_i e n2 he e2
  split at hu
  case h_2=>simp at hu
  rename_i s hs
  simp only [Option.some.injEq] at hu
  subst hu
  refine Does.pure fun E a w h hn=>?_
  have hx:=zaa (h.ev x) (fun p hp=>hn p (by simp [hp]))
  have hy:=zaa (h.ev y) (fun p hp=>hn p (by rw [e2] at hp;simp [hp]))
  rw [e2] at hy
  have hy:a.eval y = .slice none 0 0:=hy
  obtain ⟨ad,n,c,hv,h1,h2⟩:=zhm h hs hx
  refine ⟨_,?_,h1⟩
  have hr:=Lib.run_eql_slice_nil (P:=P) w T e ad n c 0 0 (zaj he)
  simp only [execOp,ho,hv,hy,eqGuard,Sem.run_bind,Sem.run_pure,Result.andThen]
  simp [Sem.run_bind,Result.andThen]
  rw [hr]
 ·rename_i e n2 he e2
  split at hu
  case h_2=>simp at hu
  rename_i s hs
  simp only [Option.some.injEq] at hu
  subst hu
  refine Does.pure fun E a w h hn=>?_
  have hx:=zaa (h.ev x) (fun p hp=>hn p (by simp [hp]))
  have hy:=zaa (h.ev y) (fun p hp=>hn p (by rw [e2] at hp;simp [hp]))
  rw [e2] at hy
  have hy:a.eval y = .slice none 0 0:=hy
  obtain ⟨ad,n,c,hv,h1,h2⟩:=zhm h hs hx
  refine ⟨_,?_,h2⟩
  have hr:(Op.equalIn 10000 T (.slice ad n c) (.slice none 0 0)).run P w = .ok ad.isNone w:=Lib.run_equalIn_slice_nil (P:=P) w 9999 T e ad n c 0 0 (zaj he)
  simp only [execOp,ho,hv,hy,eqGuard,Sem.run_bind,Sem.run_pure,Result.andThen,binOp,Op.equal,Op.maxDepth]
  simp [Sem.run_bind,Result.andThen]
  rw [hr]
  cases ad<;>rfl
 ·simp at hu
def zjv (P:Program) (st:St) (c:Nat) (T:TypeId) (len:Nat) (parts:Array (Nat×Operand)):Option Upd:=
 match zaO P T with
 | some e=>match RL.ofT e,zaR P e with
  | some r0,some _=>if len=0∧parts.size=0∧st.free c=true then some ⟨[],.own c,[(c,.row e [] r0)]⟩ else none
  | _,_=>none
 | none=>none
theorem zju (o:Oper) (c:Nat) (T:TypeId) (len:Nat) (parts:Array (Nat×Operand)) (ho:o.op = .buildSlice T len parts) {u:Upd} (hu:zjv P st c T len parts=some u):Does P base X w0 st o u:=by
 unfold zjv at hu
 split at hu
 case h_2=>simp at hu
 rename_i e he
 split at hu
 case h_2=>simp at hu
 rename_i r0 k hr0 hk
 split at hu
 case isFalse=>simp at hu
 rename_i hc
 obtain ⟨rfl,hps,hfree⟩:=hc
 have hps:parts = #[]:=by simpa using hps
 subst hps
 simp only [Option.some.injEq] at hu
 subst hu
 have hcE:=St.of_free hfree
 intro E a w K Q h hn hK
 have hrows:=RL.ofT_ok hr0
 have hO:OwnR 0 (w.alloc (.cells ([]:List Value).toArray e)) e (E.set []) r0.tys (.slice (some ⟨w.heap.size,0,none⟩) 0 0) r0.rows:=by
  rw [hrows]
  refine ⟨[],⟨by simp,.inr ⟨w.heap.size,0,([]:List Value).toArray,rfl,Nat.zero_le _,heap_alloc_new _ _,Nat.le_refl _,by unfold maxLen;omega,by simp,by simp⟩⟩,fun i hi=>absurd hi (by simp)⟩
 obtain ⟨m1,m2,m3⟩:=zdV (st:=st) h.mem hcE e hO
 refine za5 (v:= .slice (some ⟨w.heap.size,0,none⟩) 0 0) (w':=w.alloc (.cells ([]:List Value).toArray e)) ?_ (hK _ _ _ m2 m3 ⟨if_pos rfl,rfl⟩ m1)
 simp [execOp,ho,Instr.buildSlice,Sem.run_bind,Result.andThen,Sem.run_pure,run_underlying (zaj he),zam hk,newRow,Instr.fill,Array.range_zero']
end ops
def ptrT (P:Program) (T:TypeId):Bool:=match P.underlying T with
 | some (.pointer _)=>true
 | _=>false
theorem zkz {P:Program} {T:TypeId} (h:ptrT P T=true):∃ e,P.underlying T=some (.pointer e):=by
 unfold ptrT at h
 split at h
 ·exact ⟨_,by assumption⟩
 ·cases h
def ptrB:SV→Option Bool
 | .np=>some true
 | .ptr _ _=>some false
 | .rp _ _ _ _=>some false
 | .ro _ _=>some false
 | _=>none
def cEqP (P:Program) (st:St) (op:BinOp) (T:TypeId) (x y:Operand):Option Upd:=
 match ptrT P T,zac (st.ev y),op with
 | true,(.np,n2),.eql=>match ptrB (zac (st.ev x)).1 with
  | some b=>some ⟨(zac (st.ev x)).2++n2,.bool b,[]⟩
  | none=>none
 | true,(.np,n2),.neq=>match ptrB (zac (st.ev x)).1 with
  | some b=>some ⟨(zac (st.ev x)).2++n2,.bool (!b),[]⟩
  | none=>none
 | _,_,_=>none
theorem zk0 {E:Env} {w:World} {s:SV} {b:Bool} (hs:ptrB s=some b) {v:Value} (hv:DenV E w s v):∃ a,v = .pointer a∧a.isNone=b:=by
 cases s<;>simp only [ptrB,Option.some.injEq,reduceCtorEq] at hs
 case np=>subst hs;exact ⟨none,hv,rfl⟩
 case ptr=>obtain ⟨b',_,e⟩:=hv;subst hs;exact ⟨_,e,rfl⟩
 case rp=>obtain ⟨b',xs,e,_⟩:=hv;subst hs;exact ⟨_,e,rfl⟩
 case ro=>obtain ⟨b',F,e,_⟩:=hv;subst hs;exact ⟨_,e,rfl⟩
theorem zkr {P:Program} {T e:TypeId} (h:P.underlying T=some (.pointer e)) (a:Option Addr) (w:World):(Op.equal T (.pointer a) (.pointer none)).run P w = .ok a.isNone w:=by
 obtain ⟨d,hd⟩:∃ d,Op.maxDepth=d+1:=⟨_,rfl⟩
 unfold Op.equal
 rw [hd]
 cases a<;>simp only [Op.equalIn,Sem.run_bind,run_underlying h,Result.andThen]<;>rfl
section
variable {P : Program} {base : Nat} {X : Cx} {w0 : World} {st : St}
theorem zll (o:Oper) (op:BinOp) (T T2:TypeId) (x y:Operand) (ho:o.op = .binOp op T x y T2) {u:Upd} (hu:cEqP P st op T x y=some u):Does P base X w0 st o u:=by
 unfold cEqP at hu
 split at hu
 case h_3=>simp at hu
 all_goals
  rename_i n2 hT e2
  split at hu
  case h_2=>simp at hu
  rename_i bb hb
  simp only [Option.some.injEq] at hu
  subst hu
  obtain ⟨el,hT⟩:=zkz hT
  refine Does.pure fun E a w h hn=>?_
  have hx:=zaa (h.ev x) (fun p hp=>hn p (by simp [hp]))
  have hy:=zaa (h.ev y) (fun p hp=>hn p (by rw [e2] at hp;simp [hp]))
  rw [e2] at hy
  have hy:a.eval y = .pointer none:=hy
  obtain ⟨ad,hv,rfl⟩:=zk0 hb hx
  refine ⟨_,?_,rfl⟩
  have hr:=zkr hT ad w
  simp only [execOp,ho,hv,hy,eqGuard,Sem.run_bind,Sem.run_pure,Result.andThen]
  simp [Sem.run_bind,Result.andThen,binOp,hr]
end
end Go.Proofs.Ytfccndnnpkiajaa
namespace Go.Proofs.Ytfccndnnpkiajaa
open Go.RowKit Go.ChangeShapes Go.WideShapes Go.Deep
theorem OwnR.intsC {w:World} {T:TypeId} {S:Nat→Prop} {v:Value} {l:List Int} (h:OwnR 0 w T S [.int .i64] v (ints l)):w.ownsRow 0 T 1 v l.length (l.map (Value.int .i64))∧∀ x∈l,I64 x:=by
 obtain ⟨cells,ho,hr⟩:=h
 rw [zan] at ho hr
 have hl:cells.length=l.length:=by have:=ho.1;simpa using this
 have hat:∀ i,(hi:i<l.length)→cells[i]? = some (.int .i64 l[i])∧I64 l[i]:=by
  intro i hi
  have:=hr i hi
  have e2:(ints l).getD i []=[.int l[i]]:=by simp [ints,List.getD,hi]
  rw [e2] at this
  have e3:(cells.drop (i*[Ty.int .i64].length)).take [Ty.int .i64].length=[cells[i]'(by omega)]:=by
   show (cells.drop (i*1)).take 1=_
   rw [Nat.mul_one,List.drop_eq_getElem_cons (by omega),List.take_succ_cons,List.take_zero]
  rw [e3] at this
  obtain ⟨e4,h5⟩:=this.1.i64
  exact ⟨by rw [List.getElem?_eq_getElem (by omega),e4],h5⟩
 have e:cells=l.map (Value.int .i64):=by
  apply List.ext_getElem?
  intro i
  by_cases hi:i<l.length
  ·rw [(hat i hi).1];simp [hi]
  ·rw [List.getElem?_eq_none (by omega),List.getElem?_eq_none (by simp;omega)]
 refine ⟨by rw [← e];exact ho,fun x hx=>?_⟩
 obtain ⟨i,hi,rfl⟩:=List.mem_iff_getElem.1 hx
 exact (hat i hi).2
theorem OwnR.ofC {w:World} {T:TypeId} {S:Nat→Prop} {v:Value} {l:List Int} (h:w.ownsRow 0 T 1 v l.length (l.map (Value.int .i64))) (hx:∀ x∈l,I64 x):OwnR 0 w T S [.int .i64] v (ints l):=by
 refine ⟨l.map (Value.int .i64),by rw [zan];exact h,fun i hi=>?_⟩
 rw [zan] at hi
 have e1:(((l.map (Value.int .i64)).drop (i*1)).take 1)=[.int .i64 (l[i])]:=by
  rw [Nat.mul_one,List.drop_eq_getElem_cons (by simpa using hi)];simp
 have e2:(ints l).getD i []=[.int l[i]]:=by simp [ints,List.getD,hi]
 show RdL _ _ [.int .i64] (((l.map (Value.int .i64)).drop (i*1)).take 1) _
 rw [e1,e2]
 exact ⟨.ofI64 (hx _ (List.getElem_mem hi)),trivial⟩
theorem Sl.takeX {w:World} {S:Nat→Prop} {fs:List Ty} {a:Option Addr} {n c k:Nat} {rows:List (List D)} (h:Sl w S fs a n c rows) (hk:k≤n):Sl w S fs a k c (rows.take k):=by
 have hb:=h.bd
 by_cases h0:k=0
 ·subst h0
  rw [List.take_zero]
  refine .emp (fun e=>(hb.2.2.2 e).2) (by unfold maxLen;omega)
 ·cases h with
  | emp _ _=>omega
  | row vals h1 h2 h3 h4 h5 h6 h7 h8 h9 h10 h11=>
   have e:∀ i,i<k→(rows.take k).getD i []=rows.getD i []:=fun i hi=>by simp [List.getD,List.getElem?_take,hi]
   exact .row vals (by omega) (by simp;omega) (by omega) h4 (by omega) h6 h7 (fun i j hi hj=>h8 i j (by omega) hj) (fun i hi=>by rw [e i hi];exact h9 i (by omega)) (fun i j hi hj=>by rw [e i hi];exact h10 i j (by omega) hj) (fun i j hi hj=>h11 i j (by omega) hj)
section ops
variable {P : Program} {base : Nat} {X : Cx} {w0 : World} {st : St}
def RL.over:RL→RL→Option RL
 | .rInts l,.rInts m=>some (.rInts (m.take l.length++l.drop m.length))
 | _,_=>none
theorem zhj {l m:List Int} (h:Nat.min m.length l.length=0):m.take l.length++l.drop m.length=l:=by
 have:m.length=0∨l.length=0:=by have h:min m.length l.length=0:=h;omega
 rcases this with h | h
 ·rw [List.eq_nil_of_length_eq_zero h];simp
 ·rw [List.eq_nil_of_length_eq_zero h];simp
def zj1 (P:Program) (st:St) (T:TypeId) (x y:Operand):Option Upd:=
 match zaO P T,zac (st.ev x) with
 | some e,(.own t,n1)=>match st.m t with
  | .row Tb ls r=>match zbx st r (zac (st.ev y)).1 with
   | some (su,ms,q)=>if zjZ (some t) su=true∧zaR P e=some 1 then (match r.over q with
    | some r2=>some ⟨n1++(zac (st.ev y)).2++[q.len≤140737488355328],.int .i64 (Nat.min q.len r.len:Nat),[(t,.row Tb ls r2)]⟩
    | none=>none) else none
   | none=>none
  | _=>none
 | _,_=>none
theorem zi2 {E:Env} {w:World} (hm:MemOk base X w0 E st.m w) {l m:List Int} {s:SV} {su:Option Nat} {ms:List Nat} (h:zbx st (.rInts l) s=some (su,ms,.rInts m)) (hq:m.length≤140737488355328) {v:Value} (hv:DenV E w s v):∃ ad c,v = .slice ad m.length c∧∃ S,SlI w S ad m.length c m:=by
 cases s
 case own t=>
  simp only [zbx] at h
  split at h
  case h_2=>simp at h
  rename_i Tb ls2 r2 hmt
  simp only [Option.some.injEq,Prod.mk.injEq] at h
  obtain ⟨rfl,rfl,rfl⟩:=h
  obtain ⟨v',hβ,ho⟩:=hm.row t _ _ _ hmt
  have hv1:=hv.1
  rw [hβ] at hv1
  simp only [Option.some.injEq] at hv1
  subst hv1
  have hll:(RL.rInts m).rows.length=m.length:=by simp [RL.rows,ints]
  obtain ⟨a,c,e,hs⟩:=ho.slO (fun _=>True) (fun _ _=>trivial) (fun _ _ _=>trivial) (by rw [hll];exact hq)
  rw [hll] at e hs
  exact ⟨a,c,e,_,hs⟩
 case sl ls r=>
  simp only [zbx,Option.some.injEq,Prod.mk.injEq] at h
  obtain ⟨rfl,rfl,rfl⟩:=h
  have hv:Rd w (E.set ls) (.sl [.int .i64]) v (.sl (ints m)):=hv
  obtain ⟨ad,c,rfl,hsl⟩:=hv.sl'
  rw [zan] at hsl ⊢
  exact ⟨ad,c,rfl,_,hsl⟩
 case nil=>
  simp only [zbx,RL.emp,Option.some.injEq,Prod.mk.injEq] at h
  obtain ⟨rfl,rfl,e⟩:=h
  have e:m=[]:=by simpa using e.symm
  subst e
  have:v = .slice none 0 0:=hv
  exact ⟨none,0,this,fun _=>True,.emp (fun _=>rfl) (by decide)⟩
 all_goals simp [zbx] at h
theorem zj0 (o:Oper) (T T2:TypeId) (x y:Operand) (ho:o.op = .call {callee:= .builtin .copy,args:= #[x,y],argTypes:= #[T,T2]}) {u:Upd} (hu:zj1 P st T x y=some u):Does P base X w0 st o u:=by
 unfold zj1 at hu
 split at hu
 case h_2=>simp at hu
 rename_i e t n1 he e1
 split at hu
 case h_2=>simp at hu
 rename_i Tb ls r hm
 split at hu
 case h_2=>simp at hu
 rename_i su ms q hsrc
 split at hu
 case isFalse=>simp at hu
 rename_i hc
 obtain ⟨hap,hsz⟩:=hc
 split at hu
 case h_2=>simp at hu
 rename_i r2 hov
 simp only [Option.some.injEq] at hu
 subst hu
 have hr:∃ l,r = .rInts l:=by cases r<;>simp [RL.over] at hov;exact ⟨_,rfl⟩
 obtain ⟨l,rfl⟩:=hr
 have hq:∃ m,q = .rInts m:=by cases q<;>simp [RL.over] at hov;exact ⟨_,rfl⟩
 obtain ⟨m,rfl⟩:=hq
 simp only [RL.over,Option.some.injEq] at hov
 subst hov
 intro E a w K Q h hn hK
 have hx:=zaa (h.ev x) (fun p hp=>hn p (by rw [e1] at hp;simp [hp]))
 have hy:=zaa (h.ev y) (fun p hp=>hn p (by simp [hp]))
 have hml:m.length≤140737488355328:=hn _ (by simp [RL.len])
 rw [e1] at hx
 obtain ⟨sa,sc,hsv,S,hS⟩:=zi2 h.mem hsrc hml hy
 obtain ⟨v,hβ,hO⟩:=h.mem.row t _ _ _ hm
 have hx1:=hx.1
 rw [hβ] at hx1
 simp only [Option.some.injEq] at hx1
 subst hx1
 have hO:OwnR 0 w Tb (E.set ls) [.int .i64] (a.eval x) (ints l):=hO
 obtain ⟨hc,hi⟩:=hO.intsC
 obtain ⟨va,hva⟩:∃ va,a.eval x=va:=⟨_,rfl⟩
 rw [hva] at hO hc hβ
 have hlive:(st.m t).live=true:=by rw [hm];rfl
 have hsz1:(P.info? e).map (·.size)=some 1:=hsz
 have hdform:∃ da dc,va = .slice da l.length dc:=by
  obtain ⟨a2,c2,e2⟩:=hO.form
  rw [zan] at e2
  exact ⟨a2,c2,e2⟩
 obtain ⟨da,dc,rfl⟩:=hdform
 have hlb:l.length≤9223372036854775807:=by
  rcases hc.2 with ⟨e5,e6⟩ | ⟨g,cap,cur,e5,_,_,h6,h7,_⟩
  ·omega
  ·unfold maxLen at h7;omega
 have hwf:(Lit.int .i64 (Nat.min m.length l.length:Nat)).wf=true:=by
  apply zcP
  have:Nat.min m.length l.length≤l.length:=Nat.min_le_right _ _
  omega
 by_cases h0:Nat.min m.length l.length=0
 ·have hrun:=run_copy_none (P:=P) w T T2 o.type e da sa l.length dc m.length sc (zaj he) hsz1 h0
  refine za5 (v:=goInt 0) (w':=w) ?_ (hK E w _ (Env.Le.refl E) Same.rfl' ⟨by show goInt 0=_;simp only [RL.len,h0];rfl,by simpa [RL.len] using hwf⟩ ?_)
  ·simp [execOp,ho,resolve,invoke,builtin,hva,hsv,hrun,Result.andThen]
  ·rw [zbb,zhj h0]
   have:upd st.m t (.row Tb ls (.rInts l))=st.m:=by
    funext u
    by_cases hu:u=t
    ·subst hu;rw [za0,hm]
    ·rw [za7 _ _ hu]
   rw [this];exact h.mem
 ·have hml0:0<m.length∧0<l.length:=by have h0:¬ min m.length l.length=0:=h0;omega
  rcases hc.2 with ⟨e5,e6⟩ | ⟨g,cap,cur,e5,_,hg,hnc,hcm,hcs,htake⟩
  ·omega
  simp only [Value.slice.injEq] at e5
  obtain ⟨rfl,_,rfl⟩:=e5
  obtain ⟨b,off,rfl⟩:=hS.addr hml0.1
  have hlen:((m.take l.length).map (Value.int .i64)).length=Nat.min m.length l.length:=by
   simp only [List.length_map,List.length_take];exact Nat.min_comm _ _
  have hrun:=run_copy_row (P:=P) w T T2 o.type e g 0 l.length dc ⟨b,off,none⟩ m.length sc cur Tb ((m.take l.length).map (Value.int .i64)) (zaj he) hsz1 hg hlen (fun j u hj=>by
   have hj2:j<m.length:=by
    have:=(List.getElem?_eq_some_iff.1 hj).1
    simp at this;omega
   have:=(SlI.cell hS hj2).2.1
   rw [Go.WideShapes.add_plain,this]
   rw [List.getElem?_map,List.getElem?_take] at hj
   split at hj
   ·rw [List.getElem?_eq_getElem hj2] at hj
    simp only [Option.map_some,Option.some.injEq] at hj
    rw [← hj];simp [nu,List.getD,hj2]
   ·simp at hj) (by
    have:Nat.min m.length l.length≤l.length:=Nat.min_le_right _ _
    rw [hlen];omega) (fun u hu=>by obtain ⟨i,_,rfl⟩:=List.mem_map.1 hu;rfl)
  have hHas:Has E st.m t g:=Has.row hm hβ rfl
  have hsep:=(h.mem.sep t g hHas).1
  rw [hlen] at hrun
  generalize hw':w.setRow g (cur.toList.take 0++(m.take l.length).map (Value.int .i64)++cur.toList.drop (0+Nat.min m.length l.length)).toArray=w' at hrun
  have hSm:Same E.lab w w':=by
   rw [← hw']
   exact ⟨by simp,fun g2 hg2 _=>setRow_other w g g2 _ (fun e=>hsep (e▸hg2))⟩
  refine za5 (v:=goInt (Nat.min m.length l.length)) (w':=w') ?_ (hK E w' _ (Env.Le.refl E) hSm ⟨rfl,hwf⟩ ?_)
  ·simp [execOp,ho,resolve,invoke,builtin,hva,hsv,hrun,Result.andThen]
  ·rw [zbb]
   refine h.mem.poke hlive hβ _ rfl (by rw [← hw'];simp) (fun g2 hg' _=>by rw [← hw'];exact setRow_other w g g2 _ (fun e=>hg' (by simp [zas,e]))) (by rw [← hw'];exact ⟨rfl,rfl,rfl⟩) ?_
   show OwnR 0 w' Tb (E.set ls) [.int .i64] _ (ints _)
   have hll:(m.take l.length++l.drop m.length).length=l.length:=by simp;omega
   have hcur:cur.toList.length=cur.size:=Array.length_toList
   have hmin:Nat.min m.length l.length≤l.length:=Nat.min_le_right _ _
   refine OwnR.ofC ?_ (fun z hz=>?_)
   ·rw [hll]
    refine ⟨by simp;omega,.inr ⟨g,dc,(cur.toList.take 0++(m.take l.length).map (Value.int .i64)++cur.toList.drop (0+Nat.min m.length l.length)).toArray,rfl,Nat.zero_le _,by rw [← hw'];exact setRow_heap w g _ _ Tb _ hg,hnc,hcm,?_,?_⟩⟩
    ·simp only [List.take_zero,List.nil_append,Nat.zero_add,List.size_toArray,List.length_append,hlen,List.length_drop]
     omega
    ·simp only [List.take_zero,List.nil_append,Nat.zero_add,Nat.mul_one]
     apply List.ext_getElem?
     intro i
     rw [List.getElem?_take]
     have hc2:∀ i,i<l.length→cur.toList[i]? = some (.int .i64 (l.getD i 0)):=by
      intro i hi2
      have:(cur.toList.take (l.length*1))[i]? = (l.map (Value.int .i64))[i]? := by rw [htake]
      rw [List.getElem?_take,if_pos (by omega)] at this
      rw [this];simp [List.getD,hi2]
     by_cases hi2:i<l.length
     ·rw [if_pos hi2]
      by_cases hi3:i<Nat.min m.length l.length
      ·rw [List.getElem?_append_left (by rw [hlen];exact hi3),List.map_append,List.getElem?_append_left (by rw [hlen];exact hi3)]
      ·have hml2:m.length≤i:=by have hi3:¬ i<min m.length l.length:=hi3;omega
       have hmm:Nat.min m.length l.length=m.length:=by show min m.length l.length=m.length;omega
       rw [List.getElem?_append_right (by rw [hlen];omega),List.map_append,List.getElem?_append_right (by rw [hlen];omega),hlen,hmm,List.getElem?_drop,List.getElem?_map,List.getElem?_drop,show m.length+(i-m.length)=i by omega,hc2 i hi2]
       simp [List.getD,hi2]
     ·rw [if_neg hi2,List.getElem?_eq_none]
      simp;omega
   ·rcases List.mem_append.1 hz with hz | hz
    ·exact SlI.i64 hS z (List.mem_of_mem_take hz)
    ·exact hi z (List.mem_of_mem_drop hz)
def optI (st:St):Option Operand→Option (Option Int×List Prop)
 | none=>some (none,[])
 | some x=>match zac (st.ev x) with
  | (.int _ n,ns)=>some (some n,ns)
  | _=>none
def hiOf (len:Nat):Option Int→Int
 | none=>len
 | some n=>n
def loOf:Option Int→Int
 | none=>0
 | some n=>n
def BdIs (a:Act):Option Operand→Option Int→Prop
 | none,none=>True
 | some x,some n=>∃ k,a.eval x = .int k n
 | _,_=>False
theorem zb6 {E:Env} {a:Act} {w:World} (h:st.Ok base X w0 E a w) {x:Option Operand} {l:Option Int} {n:List Prop} (hx:optI st x=some (l,n)) (hn:∀ p∈n,p):BdIs a x l:=by
 cases x with
 | none=>
  simp only [optI,Option.some.injEq,Prod.mk.injEq] at hx
  obtain ⟨rfl,_⟩:=hx
  trivial
 | some x=>
  simp only [optI] at hx
  split at hx
  case h_2=>simp at hx
  rename_i k m ns e
  simp only [Option.some.injEq,Prod.mk.injEq] at hx
  obtain ⟨rfl,rfl⟩:=hx
  have:=zaa (h.ev x) (fun p hp=>hn p (by rw [e] at hp;exact hp))
  rw [e] at this
  exact ⟨k,this.1⟩
theorem zcV {T e:TypeId} (he:P.underlying T=some (.slice e)) {sz:Nat} (hsz:zaR P e=some sz) (w:World) {a:Act} {lo hi:Option Operand} {l h:Option Int} (hl:BdIs a lo l) (hh:BdIs a hi h) (ad:Option Addr) (len cap:Nat) (hlc:len≤cap) (h0:0≤loOf l) (h1:loOf l≤hiOf len h) (h2:hiOf len h≤(len:Int)) :
  (Instr.sliceAt T (.slice ad len cap) (lo.map a.eval) (hi.map a.eval) none).run P w = .ok (.slice (if cap=(loOf l).toNat then ad else ad.map (·.add ((loOf l).toNat*sz))) ((hiOf len h).toNat-(loOf l).toNat) (cap-(loOf l).toNat)) w:=by
 have hb:∀ (k:IntKind) (n:Int) (y:Nat) code,0≤n→n≤(y:Int)→(Instr.sliceBound (.int k n) y code).run P w = .ok n.toNat w:=fun k n y code g0 g1=>run_sliceBound _ _ _ _ _ g0 g1
 cases lo with
 | none=>
  cases l with
  | some _=>exact hl.elim
  | none=>
   cases hi with
   | none=>
    cases h with
    | some _=>exact hh.elim
    | none=>simp [Instr.sliceAt,Instr.slice,Instr.sliceBounds,Sem.run_bind,run_underlying he,zam hsz,Result.andThen,Sem.run_pure,loOf,hiOf]
   | some y=>
    cases h with
    | none=>exact hh.elim
    | some n=>
     obtain ⟨k,hk⟩:=hh
     have:=hb k n cap .sliceAcap (by simp only [loOf,hiOf] at h0 h1;omega) (by simp only [hiOf] at h2;omega)
     simp [Instr.sliceAt,Instr.slice,Instr.sliceBounds,Sem.run_bind,run_underlying he,zam hsz,Result.andThen,Sem.run_pure,loOf,hiOf,hk,this]
 | some x=>
  cases l with
  | none=>exact hl.elim
  | some m=>
   obtain ⟨k2,hk2⟩:=hl
   cases hi with
   | none=>
    cases h with
    | some _=>exact hh.elim
    | none=>
     have:=hb k2 m len .sliceB h0 h1
     simp [Instr.sliceAt,Instr.slice,Instr.sliceBounds,Sem.run_bind,run_underlying he,zam hsz,Result.andThen,Sem.run_pure,loOf,hiOf,hk2,this]
     rfl
   | some y=>
    cases h with
    | none=>exact hh.elim
    | some n=>
     obtain ⟨k,hk⟩:=hh
     have g1:=hb k n cap .sliceAcap (by simp only [loOf,hiOf] at h0 h1;omega) (by simp only [hiOf] at h2;omega)
     have g2:=hb k2 m n.toNat .sliceB h0 (by simp only [loOf,hiOf] at h1;omega)
     simp [Instr.sliceAt,Instr.slice,Instr.sliceBounds,Sem.run_bind,run_underlying he,zam hsz,Result.andThen,Sem.run_pure,loOf,hiOf,hk,hk2,g1,g2]
     rfl
def zlW (ls:List Nat) (r:RL) (l h:Option Int):SV:= .sl ls ((r.take (hiOf r.len h).toNat).drop (loOf l).toNat)
def zjz (P:Program) (st:St) (c:Nat) (T:TypeId) (x:Operand) (lo hi:Option Operand):Option Upd:=
 match zaO P T,optI st lo,optI st hi with
 | some e,some (l,n2),some (h,n3)=>match zac (st.ev x) with
  | (.sl ls r,n1)=>if zaR P e=some r.tys.length then some ⟨n1++n2++n3++[0≤loOf l,loOf l≤hiOf r.len h,hiOf r.len h≤(r.len:Int)],zlW ls r l h,[]⟩ else none
  | (.nil,n1)=>if (zaR P e).isSome=true then some ⟨n1++n2++n3++[loOf l=0,hiOf 0 h=0],.nil,[]⟩ else none
  | (.own t,n1)=>match st.m t with
   | .row Tb ls r=>if zaR P e=some r.tys.length∧st.free c=true then (match l with
    | none=>some ⟨n1++n2++n3++[0≤hiOf r.len h,hiOf r.len h≤(r.len:Int)],.own c,[(t,.dead),(c,.row Tb ls (r.take (hiOf r.len h).toNat))]⟩
    | some l=>some ⟨n1++n2++n3++[0≤l,l≤hiOf r.len h,hiOf r.len h≤(r.len:Int),r.len≤140737488355328],zlW (c::ls) r (some l) h,[(t,.dead),(c,.dead)]⟩) else none
   | _=>none
  | _=>none
 | _,_,_=>none
theorem zlX {w:World} {S:Nat→Prop} {r:RL} {ad:Option Addr} {c:Nat} {l h:Option Int} (hs:Sl w S r.tys ad r.len c r.rows) (h0:0≤loOf l) (h1:loOf l≤hiOf r.len h) (h2:hiOf r.len h≤(r.len:Int)) :
  Rd w S (.sl ((r.take (hiOf r.len h).toNat).drop (loOf l).toNat).tys) (.slice (if c=(loOf l).toNat then ad else ad.map (·.add ((loOf l).toNat*r.tys.length))) ((hiOf r.len h).toNat-(loOf l).toNat) (c-(loOf l).toNat)) (.sl ((r.take (hiOf r.len h).toNat).drop (loOf l).toNat).rows):=by
 have hb:=hs.bd
 rw [(RL.drop_ok _ _).1,(RL.drop_ok _ _).2.1,(RL.take_ok _ _).1,(RL.take_ok _ _).2.1]
 have ht:=hs.takeX (k:=(hiOf r.len h).toNat) (by omega)
 have hbt:=ht.bd
 by_cases hc:c=(loOf l).toNat
 ·rw [if_pos hc]
  have e:(hiOf r.len h).toNat-(loOf l).toNat=0:=by omega
  rw [e,List.drop_eq_nil_of_le (by have:=ht.len;omega)]
  exact .emp (fun e2=>by have:=(hb.2.2.2 e2).2;omega) (by unfold maxLen;omega)
 ·rw [if_neg hc]
  exact ht.cutMX (by omega) (by omega)
theorem MemOk.freeze {E:Env} {w:World} {m:Nat→BE} (h:MemOk base X w0 E m w) {t c:Nat} (hl:(m t).live=true) (hc:m c = .empty) :
  ∃ E',E.Le E'∧(∀ b,Has E m t b→E'.σ c b)∧MemOk base X w0 E' (putF [(t,.dead),(c,.dead)] m) w:=by
 have htc:t≠c:=by intro e;subst e;rw [hc] at hl;cases hl
 have hcnl:X.nl≤c:=by
  rcases Nat.lt_or_ge c X.nl with hlt | hge
  ·exact absurd hc (h.low c hlt)
  ·exact hge
 have hnc:∀ b,¬ E.σ c b:=(h.empty c hc).2
 have hm:∀ u,putF [(t,.dead),(c,.dead)] m u=if u=t then .dead else if u=c then .dead else m u:=fun u=>rfl
 refine ⟨⟨E.β,fun i b=>E.σ i b∨(i=c∧Has E m t b),E.φ⟩,⟨fun _ _ x=>x,fun _ _ x=> .inl x⟩,fun b hb=> .inr ⟨rfl,hb⟩,?_⟩
 have hhas:∀ u b,Has (⟨E.β,fun i b=>E.σ i b∨(i=c∧Has E m t b),E.φ⟩:Env) (putF [(t,.dead),(c,.dead)] m) u b→Has E m u b∧u≠t:=by
  intro u b ⟨g1,g2⟩
  rw [hm] at g1 g2
  by_cases hu:u=t
  ·rw [if_pos hu] at g1;cases g1
  ·rw [if_neg hu] at g1 g2
   by_cases hu2:u=c
   ·rw [if_pos hu2] at g1;cases g1
   ·rw [if_neg hu2] at g1 g2;exact ⟨⟨g1,g2⟩,hu⟩
 refine h.go ⟨fun _ _ x=>x,fun _ _ x=> .inl x⟩ Same.rfl' (fun u=>u=t∨u=c) (fun u hu=>⟨by rw [hm,if_neg (fun e=>hu (.inl e)),if_neg (fun e=>hu (.inr e))],rfl,rfl⟩)
  (fun u hu he b hb=>hb.elim ((h.empty u he).2 b) (fun g=>hu (.inr g.1))) (fun _ _ _ _=>rfl) (fun u hu=>?_) (fun i b hb=>?_) (fun i j b hi hj=>?_) (fun u b hb=>?_) (fun i b hi hb=>?_) (fun u v b h1 h2=>?_) (BelowX.refl _ _ _)
 ·have:putF [(t,.dead),(c,.dead)] m u = .dead:=by
   rw [hm]
   rcases hu with rfl | rfl
   ·rw [if_pos rfl]
   ·split<;>simp
  rw [this]
  exact ⟨by simp,fun g=>by cases g⟩
 ·rcases hb with hb | ⟨rfl,hb⟩
  ·exact h.lab i b hb
  ·exact ⟨h.lt hb,fun _=>(h.sep t b hb).2⟩
 ·rcases hi with hi | ⟨rfl,hi⟩<;>rcases hj with hj | ⟨rfl,hj⟩
  ·exact h.dis i j b hi hj
  ·exact absurd ⟨i,hi⟩ (h.sep t b hj).1
  ·exact absurd ⟨j,hj⟩ (h.sep t b hi).1
  ·rfl
 ·obtain ⟨g1,g2⟩:=hhas u b hb
  refine ⟨fun ⟨i,hi⟩=>?_,(h.sep u b g1).2⟩
  rcases hi with hi | ⟨_,hi⟩
  ·exact (h.sep u b g1).1 ⟨i,hi⟩
  ·exact g2 (h.inj u t b g1 hi)
 ·rcases hb with hb | ⟨rfl,_⟩
  ·exact h.old i b hi hb
  ·omega
 ·exact h.inj u v b (hhas u b h1).1 (hhas v b h2).1
theorem zjy (o:Oper) (c:Nat) (T:TypeId) (x:Operand) (lo hi:Option Operand) (ho:o.op = .slice T x lo hi none) {u:Upd} (hu:zjz P st c T x lo hi=some u):Does P base X w0 st o u:=by
 unfold zjz at hu
 split at hu
 case h_2=>simp at hu
 rename_i e l n2 h n3 he e2 e3
 split at hu
 case h_4=>simp at hu
 ·rename_i ls r n1 e1
  split at hu
  case isFalse=>simp at hu
  rename_i hsz
  simp only [Option.some.injEq] at hu
  subst hu
  refine Does.pure fun E a w hk hn=>?_
  have hx:=zaa (hk.ev x) (fun p hp=>hn p (by rw [e1] at hp;simp [hp]))
  rw [e1] at hx
  have hl:=zb6 hk e2 (fun p hp=>hn p (by simp [hp]))
  have hh:=zb6 hk e3 (fun p hp=>hn p (by simp [hp]))
  have g0:0≤loOf l:=hn _ (by simp)
  have g1:loOf l≤hiOf r.len h:=hn _ (by simp)
  have g2:hiOf r.len h≤(r.len:Int):=hn _ (by simp)
  have hx:Rd w (E.set ls) (.sl r.tys) (a.eval x) (.sl r.rows):=hx
  obtain ⟨ad,cc,hv,hsl⟩:=hx.sl'
  rw [r.rows_len] at hv hsl
  refine ⟨_,?_,zlX hsl g0 g1 g2⟩
  have hr:=zcV (P:=P) (zaj he) hsz w hl hh ad r.len cc hsl.bd.1 g0 g1 g2
  simp only [execOp,ho,hv,Option.map_none,Sem.run_bind,hr,Result.andThen,Sem.run_pure]
 ·rename_i n1 e1
  split at hu
  case isFalse=>simp at hu
  rename_i hsz
  simp only [Option.some.injEq] at hu
  subst hu
  refine Does.pure fun E a w hk hn=>?_
  have hx:=zaa (hk.ev x) (fun p hp=>hn p (by rw [e1] at hp;simp [hp]))
  rw [e1] at hx
  have hl:=zb6 hk e2 (fun p hp=>hn p (by simp [hp]))
  have hh:=zb6 hk e3 (fun p hp=>hn p (by simp [hp]))
  have g0:loOf l=0:=hn _ (by simp)
  have g1:hiOf 0 h=0:=hn _ (by simp)
  have hv:a.eval x = .slice none 0 0:=hx
  obtain ⟨sz,hsz⟩:=Option.isSome_iff_exists.1 hsz
  refine ⟨_,?_,(rfl:Value.slice none 0 0=_)⟩
  have hr:=zcV (P:=P) (zaj he) hsz w hl hh none 0 0 (Nat.le_refl _) (by omega) (by rw [g0,g1];decide) (by rw [g1];decide)
  simp only [execOp,ho,hv,Option.map_none,Sem.run_bind,hr,Result.andThen,Sem.run_pure,g0,g1]
  rfl
 ·rename_i t n1 e1
  split at hu
  case h_2=>simp at hu
  rename_i Tb ls r hm
  split at hu
  case isFalse=>simp at hu
  rename_i hc
  obtain ⟨hsz,hfree⟩:=hc
  have hcE:=St.of_free hfree
  have hlive:(st.m t).live=true:=by rw [hm];rfl
  split at hu
  ·simp only [Option.some.injEq] at hu
   subst hu
   intro E a w K Q hk hn hK
   have hx:=zaa (hk.ev x) (fun p hp=>hn p (by rw [e1] at hp;simp [hp]))
   rw [e1] at hx
   have hl:=zb6 hk e2 (fun p hp=>hn p (by simp [hp]))
   have hh:=zb6 hk e3 (fun p hp=>hn p (by simp [hp]))
   have g1:0≤hiOf r.len h:=hn _ (by simp)
   have g2:hiOf r.len h≤(r.len:Int):=hn _ (by simp)
   obtain ⟨v,hβ,hO⟩:=hk.mem.row t _ _ _ hm
   have hx1:=hx.1
   rw [hβ] at hx1
   simp only [Option.some.injEq] at hx1
   obtain ⟨ad,cc,hv⟩:=hO.form
   rw [r.rows_len] at hv
   have hcl:r.len≤cc:=by
    obtain ⟨cells,hoR,_⟩:=hO
    rcases hoR.2 with ⟨e5,e6⟩ | ⟨g,cap,cur,e5,_,_,h6,_⟩
    ·rw [e5] at hv;simp at hv;omega
    ·rw [e5] at hv;simp only [Value.slice.injEq] at hv;rw [r.rows_len] at h6;omega
   have hr:=zcV (P:=P) (zaj he) hsz w hl hh ad r.len cc hcl (Int.le_refl _) g1 g2
   have hr2:(Instr.sliceAt T (a.eval x) (lo.map a.eval) (hi.map a.eval) none).run P w = .ok (.slice ad (hiOf r.len h).toNat cc) w:=by
    rw [← hx1,hv,hr]
    have:(if cc=(loOf none).toNat then ad else ad.map (·.add ((loOf none).toNat*r.tys.length)))=ad:=by
     have e9:(loOf none).toNat*r.tys.length=0:=by simp [loOf]
     rw [e9]
     cases ad with
     | none=>simp
     | some ad=>simp [Addr.add]
    rw [this];simp [loOf]
   have hcut:OwnR 0 w Tb (E.set ls) (r.take (hiOf r.len h).toNat).tys (.slice ad (hiOf r.len h).toNat cc) (r.take (hiOf r.len h).toNat).rows:=by
    rw [(RL.take_ok _ _).1,(RL.take_ok _ _).2.1]
    obtain ⟨cells,hoR,hrow⟩:=hO
    have hkl:(r.rows.take (hiOf r.len h).toNat).length=(hiOf r.len h).toNat:=by rw [List.length_take,r.rows_len];omega
    have hcl2:cells.length=r.rows.length*r.tys.length:=hoR.1
    have hmul:(hiOf r.len h).toNat*r.tys.length≤r.rows.length*r.tys.length:=Nat.mul_le_mul_right _ (by rw [r.rows_len];omega)
    refine ⟨cells.take ((hiOf r.len h).toNat*r.tys.length),⟨by rw [hkl,List.length_take];omega,?_⟩,fun i hi=>?_⟩
    ·rcases hoR.2 with ⟨e5,e6⟩ | ⟨g,cap,cur,e5,g3,g4,g5,g6,g7,g8⟩
     ·rw [e5] at hv
      simp only [Value.slice.injEq] at hv
      obtain ⟨rfl,h0,rfl⟩:=hv
      left
      rw [hkl]
      have:(hiOf r.len h).toNat=0:=by omega
      exact ⟨by rw [this],this⟩
     ·right
      rw [e5] at hv
      simp only [Value.slice.injEq] at hv
      obtain ⟨rfl,h0,rfl⟩:=hv
      refine ⟨g,cap,cur,by rw [hkl],g3,g4,by rw [hkl];omega,g6,g7,?_⟩
      rw [hkl,← g8,List.take_take,Nat.min_eq_left hmul]
    ·rw [hkl] at hi
     have e7:(r.rows.take (hiOf r.len h).toNat).getD i []=r.rows.getD i []:=by simp [List.getD,List.getElem?_take,hi]
     have e8:((cells.take ((hiOf r.len h).toNat*r.tys.length)).drop (i*r.tys.length)).take r.tys.length=(cells.drop (i*r.tys.length)).take r.tys.length:=by
      have:(i+1)*r.tys.length≤(hiOf r.len h).toNat*r.tys.length:=Nat.mul_le_mul_right _ hi
      rw [Nat.add_mul,Nat.one_mul] at this
      apply List.ext_getElem?
      intro j
      simp only [List.getElem?_take,List.getElem?_drop]
      by_cases hj:j<r.tys.length
      ·rw [if_pos hj,if_pos hj,if_pos (by omega)]
      ·rw [if_neg hj,if_neg hj]
     rw [e7,e8]
     have hvo:Value.ownBlock (.slice ad (hiOf r.len h).toNat cc)=v.ownBlock:=by rw [hv];cases ad<;>rfl
     rw [hvo]
     exact hrow i (by rw [r.rows_len];omega)
   have hE:=Env.setβ_le (hk.mem.empty c hcE).1 (.slice ad (hiOf r.len h).toNat cc)
   refine za5 (w':=w) ?_ (hK (E.setβ c (.slice ad (hiOf r.len h).toNat cc)) w (.slice ad (hiOf r.len h).toNat cc) hE Same.rfl' ⟨if_pos rfl,rfl⟩ ?_)
   ·simp only [execOp,ho,Option.map_none,Sem.run_bind,hr2,Result.andThen,Sem.run_pure]
   ·have htc:t≠c:=by intro e5;subst e5;rw [hcE] at hm;cases hm
    have hk2:=hk.mem.kill t
    have:=hk2.take (c:=c) (w':=w) (by rw [za7 _ _ (Ne.symm htc)];exact hcE) (.slice ad (hiOf r.len h).toNat cc) (.row Tb ls (r.take (hiOf r.len h).toNat)) (by simp) (Nat.le_refl _) (fun _ _=>rfl) (BelowX.refl _ _ _) (fun b hb=>?_) hcut
    ·have e9:putF [(t,.dead),(c,.row Tb ls (r.take (hiOf r.len h).toNat))] st.m=upd (upd st.m t .dead) c (.row Tb ls (r.take (hiOf r.len h).toNat)):=by
      rw [zcj,zbb];exact (zf7 _ _ _ htc).symm
     rw [e9];exact this
    ·have hb2:zas v=some b:=by rw [hv];cases ad<;>exact hb
     have hH:Has E st.m t b:=Has.row hm hβ hb2
     refine ⟨(hk.mem.sep t b hH).1,fun u hu=>?_,(hk.mem.sep t b hH).2⟩
     by_cases hut:u=t
     ·subst hut;have:=hu.1;rw [za0] at this;cases this
     ·exact hut (hk.mem.inj u t b ⟨by have:=hu.1;rwa [za7 _ _ hut] at this,by have:=hu.2;rwa [za7 _ _ hut] at this⟩ hH)
  ·rename_i l2
   simp only [Option.some.injEq] at hu
   subst hu
   intro E a w K Q hk hn hK
   have hx:=zaa (hk.ev x) (fun p hp=>hn p (by rw [e1] at hp;simp [hp]))
   rw [e1] at hx
   have hl:=zb6 hk e2 (fun p hp=>hn p (by simp [hp]))
   have hh:=zb6 hk e3 (fun p hp=>hn p (by simp [hp]))
   have g0:0≤l2:=hn _ (by simp)
   have g1:l2≤hiOf r.len h:=hn _ (by simp)
   have g2:hiOf r.len h≤(r.len:Int):=hn _ (by simp)
   have g3:r.len≤140737488355328:=hn _ (by simp)
   obtain ⟨v,hβ,hO⟩:=hk.mem.row t _ _ _ hm
   have hx1:=hx.1
   rw [hβ] at hx1
   simp only [Option.some.injEq] at hx1
   obtain ⟨E',hE,hσ,hM⟩:=hk.mem.freeze hlive hcE
   obtain ⟨ad,cc,hv,hsl⟩:=hO.slO (E'.set (c::ls)) (fun b ⟨i,hi,hs⟩=>⟨i,List.mem_cons_of_mem _ hi,hE.σ i b hs⟩) (fun b _ hb=>⟨c,List.mem_cons_self ..,hσ b (Has.row hm hβ (by
    obtain ⟨a5,c5,e5⟩:=hO.form
    rw [← zal ⟨a5,_,c5,e5⟩];exact hb))⟩) (by rw [r.rows_len];exact g3)
   rw [r.rows_len] at hv hsl
   have hr:=zcV (P:=P) (zaj he) hsz w hl hh ad r.len cc hsl.bd.1 g0 g1 g2
   rw [← hv,hx1] at hr
   refine za5 (w':=w) ?_ (hK E' w _ hE Same.rfl' (zlX (l:=some l2) (h:=h) hsl g0 g1 g2) hM)
   simp only [execOp,ho,Option.map_none,Sem.run_bind,hr,Result.andThen,Sem.run_pure]
end ops
end Go.Proofs.Ytfccndnnpkiajaa
namespace Go.Proofs.Ytfccndnnpkiajaa
open Go.RowKit Go.ChangeShapes Go.WideShapes Go.Deep
def bytesOf (s:ByteArray):List Int:=s.data.toList.map fun b=>(b.toNat:Int)
theorem zbv (s:ByteArray):(bytesOf s).length=s.size:=by simp [bytesOf]
theorem ze1 (s:ByteArray):Lib.strCells s=(bytesOf s).map (Value.int .u8):=by simp [Lib.strCells,bytesOf,Function.comp_def]
theorem u8_wf {b:UInt8}:(Lit.int .u8 (b.toNat:Int)).wf=true:=by
 have:=b.toNat_lt
 simp only [Lit.wf,Bool.and_eq_true,decide_eq_true_eq]
 show (0:Int)≤_∧_≤(255:Int)
 omega
theorem OwnR.bytesC {w:World} {T:TypeId} {S:Nat→Prop} {v:Value} {l:List Int} (h:OwnR 0 w T S [.int .u8] v (ints l)):w.ownsRow 0 T 1 v l.length (l.map (Value.int .u8))∧∀ x∈l,(Lit.int .u8 x).wf=true:=by
 obtain ⟨cells,ho,hr⟩:=h
 rw [zan] at ho hr
 have hl:cells.length=l.length:=by have:=ho.1;simpa using this
 have hat:∀ i,(hi:i<l.length)→cells[i]? = some (.int .u8 l[i])∧(Lit.int .u8 l[i]).wf=true:=by
  intro i hi
  have:=hr i hi
  have e2:(ints l).getD i []=[.int l[i]]:=by simp [ints,List.getD,hi]
  rw [e2] at this
  have e3:(cells.drop (i*[Ty.int .u8].length)).take [Ty.int .u8].length=[cells[i]'(by omega)]:=by
   show (cells.drop (i*1)).take 1=_
   rw [Nat.mul_one,List.drop_eq_getElem_cons (by omega),List.take_succ_cons,List.take_zero]
  rw [e3] at this
  obtain ⟨n,e4,e5,h5⟩:=this.1.int_inv
  cases e5
  exact ⟨by rw [List.getElem?_eq_getElem (by omega),e4],h5⟩
 have e:cells=l.map (Value.int .u8):=by
  apply List.ext_getElem?
  intro i
  by_cases hi:i<l.length
  ·rw [(hat i hi).1];simp [hi]
  ·rw [List.getElem?_eq_none (by omega),List.getElem?_eq_none (by simp;omega)]
 refine ⟨by rw [← e];exact ho,fun x hx=>?_⟩
 obtain ⟨i,hi,rfl⟩:=List.mem_iff_getElem.1 hx
 exact (hat i hi).2
theorem OwnR.ofBytes {w:World} {T:TypeId} {S:Nat→Prop} {v:Value} {l:List Int} (h:w.ownsRow 0 T 1 v l.length (l.map (Value.int .u8))) (hx:∀ x∈l,(Lit.int .u8 x).wf=true):OwnR 0 w T S [.int .u8] v (ints l):=by
 refine ⟨l.map (Value.int .u8),by rw [zan];exact h,fun i hi=>?_⟩
 rw [zan] at hi
 have e1:(((l.map (Value.int .u8)).drop (i*1)).take 1)=[.int .u8 (l[i])]:=by
  rw [Nat.mul_one,List.drop_eq_getElem_cons (by simpa using hi),List.take_succ_cons,List.take_zero];simp
 have e2:(ints l).getD i []=[.int l[i]]:=by simp [ints,List.getD,hi]
 show RdL _ _ [.int .u8] (((l.map (Value.int .u8)).drop (i*1)).take 1) _
 rw [e1,e2]
 exact ⟨.int (hx _ (List.getElem_mem hi)),trivial⟩
theorem zi5 {P:Program} {w:World} {t u ty e:TypeId} {i:TypeInfo} (ht:P.underlying t=some (.slice e)) (hu:P.underlying u=some .string) (hi:P.info? e=some i) (hz:i.zero=some (.int .u8 0)) (hsize:i.size=1) (hby:i.bytes=1)
  {v:Value} {n:Nat} {xs:List Value} (hown:w.ownsRow 0 e 1 v n xs) (s:ByteArray) (hbytes:n+s.size≤140737488355328) :
  ∃ v' w',(Builtin.append_ #[t,u] ty #[v,.string s]).run P w = .ok v' w'∧w'.ownsRow 0 e 1 v' (n+s.size) (xs++Lib.strCells s)∧w.grownBy w' v.ownBlock∧(v'.ownBlock=v.ownBlock∨v'.ownBlock=some w.heap.size):=by
 have h63:n+s.size≤maxLen:=by unfold maxLen;omega
 obtain ⟨v',w',hr,h2,h3,h4⟩:=Lib.run_append_own_string (P:=P) w 0 t u ty e i ht hu hi hz hsize hby v n xs hown s h63 hbytes (Nat.zero_le _)
 refine ⟨v',w',hr,h2,h3,?_⟩
 have hxl:xs.length=n:=by simpa using hown.1
 rcases hown.2 with ⟨rfl,rfl⟩ | ⟨g,cap,cur,rfl,hbg,hg,hnc,hcm,hcs,htake⟩
 ·by_cases hm:s.size=0
  ·left;rw [h4.2 ⟨rfl,hm⟩]
  ·right
   have:=run_append_nil_string (P:=P) w t u ty e i (.int .u8 0) ht hu hi hz s (by omega) (by omega) (by rw [hby];omega)
   rw [hr] at this
   simp only [Result.ok.injEq] at this
   rw [this.1];rfl
 ·by_cases hroom:n+s.size≤cap
  ·left
   have hcs':cur.size=cap:=by simpa using hcs
   have:=Lib.run_append_room_string (P:=P) w t u ty e i ht hu hi hsize g n cap cur hg s hroom (by omega)
   rw [hr] at this
   simp only [Result.ok.injEq] at this
   rw [this.1];rfl
  ·right
   have holds:∀ j u,xs[j]? = some u→w.cell? ((⟨g,0,none⟩:Addr).add j)=some u:=hown.cells (g:=g) rfl
   have:=Lib.run_append_grow_string (P:=P) w t u ty e i (.int .u8 0) ht hu hi hz ⟨g,0,none⟩ n cap xs (by rw [hsize];simpa using hxl) holds s (by omega) (by omega) (by rw [hby];exact growslice_fits (by omega) (by omega))
   rw [hr] at this
   simp only [Result.ok.injEq] at this
   rw [this.1];rfl
section ops
variable {P : Program} {base : Nat} {X : Cx} {w0 : World} {st : St}
def zkN (P:Program) (e:TypeId):Bool:=match P.info? e with
 | some i=>match i.zero with
  | some (.int .u8 (.ofNat 0))=>i.size==1&&i.bytes==1
  | _=>false
 | none=>false
theorem ziS {e:TypeId} (h:zkN P e=true):∃ i,P.info? e=some i∧i.zero=some (.int .u8 0)∧i.size=1∧i.bytes=1:=by
 unfold zkN at h
 split at h
 case h_2=>cases h
 rename_i i hi
 split at h
 case h_2=>cases h
 rename_i hz
 simp at h
 exact ⟨i,hi,hz,h.1,h.2⟩
def zj6 (P:Program) (st:St) (c:Nat) (T T2:TypeId) (x y:Operand):Option Upd:=
 match zaO P T,P.underlying T2 with
 | some e,some .string=>match zdx st e (zac (st.ev x)).1,zac (st.ev y) with
  | some (dt,ls,.rBytes l),(.str s,n2)=>if st.free c=true∧zkN P e=true then some ⟨(zac (st.ev x)).2++n2++[l.length+s.size≤140737488355328],.own c,zh1 dt++[(c,.row e [] (.rBytes (l++bytesOf s)))]⟩ else none
  | _,_=>none
 | _,_=>none
theorem zj5 (o:Oper) (c:Nat) (T T2:TypeId) (x y:Operand) (ho:o.op = .call {callee:= .builtin .append,args:= #[x,y],argTypes:= #[T,T2]}) {u:Upd} (hu:zj6 P st c T T2 x y=some u):Does P base X w0 st o u:=by
 unfold zj6 at hu
 split at hu
 case h_2=>simp at hu
 rename_i e he h2
 split at hu
 case h_2=>simp at hu
 rename_i dt ls l s n2 hdst e2
 split at hu
 case isFalse=>simp at hu
 rename_i hc
 obtain ⟨hfree,hinfo⟩:=hc
 simp only [Option.some.injEq] at hu
 subst hu
 have hcE:=St.of_free hfree
 intro E a w K Q h hn hK
 have hx:=zaa (h.ev x) (fun p hp=>hn p (by simp [hp]))
 have hy:=zaa (h.ev y) (fun p hp=>hn p (by rw [e2] at hp;simp [hp]))
 rw [e2] at hy
 obtain ⟨hy,_⟩:=hy
 have hbd:l.length+s.size≤140737488355328:=hn _ (by simp)
 obtain ⟨o1,hHas,hlive⟩:=zga h.mem hdst hx
 obtain ⟨i,i1,i2,i3,i4⟩:=ziS hinfo
 have o1:OwnR 0 w e (E.set ls) [.int .u8] (a.eval x) (ints l):=o1
 obtain ⟨c1,c2⟩:=o1.bytesC
 obtain ⟨v',w',hrun,hown,hgr,hat⟩:=zi5 (P:=P) (ty:=o.type) (zaj he) h2 i1 i2 i3 i4 c1 s hbd
 have hO:OwnR 0 w' e (E.set []) (RL.rBytes (l++bytesOf s)).tys v' (RL.rBytes (l++bytesOf s)).rows:=by
  refine OwnR.ofBytes (l:=l++bytesOf s) ?_ (fun x hx=>?_)
  ·rw [List.length_append,zbv,List.map_append,← ze1];exact hown
  ·rcases List.mem_append.1 hx with hx | hx
   ·exact c2 x hx
   ·obtain ⟨b,_,rfl⟩:=List.mem_map.1 hx
    exact u8_wf
 obtain ⟨hS,hE,hone,hm'⟩:=zip h.mem hcE hHas hlive hO hgr hat
 refine za5 (v:=v') (w':=w') ?_ (hK (E.setβ c v') w' v' hE hS ⟨if_pos rfl,hone⟩ hm')
 simp only [execOp,ho,resolve,invoke,builtin,Sem.run_bind,Sem.run_pure,Result.andThen_ok,List.map_toArray,List.map_cons,List.map_nil]
 rw [hy,hrun];rfl
end ops
end Go.Proofs.Ytfccndnnpkiajaa
namespace Go.Proofs.Ytfccndnnpkiajaa
open Go.RowKit Go.ChangeShapes Go.WideShapes Go.Deep
def zkL (P:Program) (t:TypeId):Bool:=match P.underlying t with
 | some (.int .i64)=>true
 | _=>false
theorem ziQ {P:Program} {t:TypeId} (h:zkL P t=true):P.underlying t=some (.int .i64):=by
 unfold zkL at h
 split at h
 ·assumption
 ·cases h
def intF (P:Program):Nat→List Field→Bool
 | _,[]=>true
 | j, f :: fs => !(f.name == "_") && Nat.beq f.offset j && zkL P f.type && P.plainKey f.type && intF P (j + 1) fs
def isI:SV→Bool
 | .int .i64 _=>true
 | _=>false
def eqI:List SV→List SV→Bool
 | .int _ a::r,.int _ b::q=>if a=b then eqI r q else false
 | _,_=>true
theorem zjL {s:SV} (h:isI s=true):∃ n,s = .int .i64 n:=by
 unfold isI at h
 split at h
 ·exact ⟨_,rfl⟩
 ·cases h
theorem zhJ {P:Program} {E:Env} {w:World} {X Y:Array Value} {d:Nat}:∀ (fs:List Field) (j:Nat) (vs us:List SV),intF P j fs=true→vs.all isI=true→us.all isI=true→vs.length=fs.length→us.length=fs.length→DenL E w vs (X.toList.drop j)→DenL E w us (Y.toList.drop j) →
  (Op.eqFields (d+1) X Y fs).run P w = .ok (eqI vs us) w
 | [],j,[],[],_,_,_,_,_,_,_=>by simp [Op.eqFields,eqI]
 | f::fs,j,s::vs,t::us,hF,hv,hu,hl,hl2,hdx,hdy=>by
  simp only [intF,Bool.and_eq_true,Bool.not_eq_true'] at hF
  obtain ⟨⟨⟨⟨h1,h2⟩,h3⟩,h4⟩,h5⟩:=hF
  rw [List.all_cons,Bool.and_eq_true] at hv hu
  obtain ⟨a,rfl⟩:=zjL hv.1
  obtain ⟨b,rfl⟩:=zjL hu.1
  have hoff:=Nat.eq_of_beq_eq_true h2
  have key:∀ {Z:Array Value} {c:Int} {ws:List SV},DenL E w (.int .i64 c::ws) (Z.toList.drop j)→Z[j]? = some (.int .i64 c)∧DenL E w ws (Z.toList.drop (j+1)):=by
   intro Z c ws hd
   cases hz:Z.toList.drop j with
   | nil=>rw [hz] at hd;exact hd.elim
   | cons z zs=>
    rw [hz] at hd
    have hlt:j<Z.toList.length:=by
     have:=congrArg List.length hz
     simp at this ⊢;omega
    have e:=List.drop_eq_getElem_cons hlt
    rw [hz] at e
    simp only [List.cons.injEq] at e
    obtain ⟨e1,e2⟩:=e
    have hzv:z = .int .i64 c:=hd.1.1
    refine ⟨?_,by rw [← e2];exact hd.2⟩
    rw [← hzv,e1]
    simp
  obtain ⟨kx,rx⟩:=key hdx
  obtain ⟨ky,ry⟩:=key hdy
  rw [← hoff] at kx ky
  have hne : f.name ≠ "_" := by simpa using h1
  have ih:=zhJ (d:=d) fs (j+1) vs us h5 hv.2 hu.2 (by simpa using hl) (by simpa using hl2) rx ry
  simp only [Op.eqFields,if_pos hne,Sem.run_bind,run_part_plain w h4 kx,run_part_plain w h4 ky,Result.andThen_ok,run_equalIn_int w d f.type .i64 .i64 a b (ziQ h3),Sem.run_ite]
  by_cases hab:a=b
  ·have e:(a==b)=true:=by simpa using hab
   simp only [e,Bool.not_true,Bool.false_eq_true,if_false,ih,eqI,if_pos hab]
  ·have e:(a==b)=false:=by simpa using hab
   simp only [e,Bool.not_false,if_true,Sem.run_pure,eqI,if_neg hab]
 | [],_,_::_,_,_,_,_,h,_,_,_=>by simp at h
 | [],_,[],_::_,_,_,_,_,h,_,_=>by simp at h
 | _::_,_,[],_,_,_,_,h,_,_,_=>by simp at h
 | _::_,_,_::_,[],_,_,_,_,h,_,_=>by simp at h
def cEqA (P:Program) (st:St) (op:BinOp) (T:TypeId) (x y:Operand):Option Upd:=
 match zac (st.ev x),zac (st.ev y) with
 | (.agg vs,n1),(.agg us,n2)=>
  if isStr P T&&intF P 0 (P.fieldsOf T).toList&&!P.stoodInHeld T&&!P.eqGuardType P.depth T&&vs.all isI&&us.all isI&&Nat.beq vs.length (P.fieldsOf T).toList.length&&Nat.beq us.length (P.fieldsOf T).toList.length then
   (match op with
   | .eql=>some ⟨n1++n2,.bool (eqI vs us),[]⟩
   | .neq=>some ⟨n1++n2,.bool !(eqI vs us),[]⟩
   | _=>none) else none
 | _,_=>none
where isStr (P:Program) (T:TypeId):Bool:=match P.underlying T with
 | some (.struct _)=>true
 | _=>false
section
variable {P : Program} {base : Nat} {X : Cx} {w0 : World} {st : St}
theorem zln (o:Oper) (op:BinOp) (T T2:TypeId) (x y:Operand) (ho:o.op = .binOp op T x y T2) {u:Upd} (hu:cEqA P st op T x y=some u):Does P base X w0 st o u:=by
 unfold cEqA at hu
 split at hu
 case h_2=>simp at hu
 rename_i vs n1 us n2 e1 e2
 split at hu
 case isFalse=>simp at hu
 rename_i hck
 simp only [Bool.and_eq_true,Bool.not_eq_true'] at hck
 obtain ⟨⟨⟨⟨⟨⟨⟨c1,c2⟩,c3⟩,c4⟩,c5⟩,c6⟩,c7⟩,c8⟩:=hck
 have hT:P.underlying T=some (.struct (P.fieldsOf T)):=by
  unfold cEqA.isStr at c1
  split at c1
  ·rename_i fs e;simp only [Program.fieldsOf,e]
  ·cases c1
 have run:∀ E a w,st.Ok base X w0 E a w→(∀ p∈n1++n2,p)→∃ xs ys:List Value,a.eval x = .agg xs.toArray∧a.eval y = .agg ys.toArray∧(Op.equalIn 10000 T (.agg xs.toArray) (.agg ys.toArray)).run P w = .ok (eqI vs us) w:=by
  intro E a w h hn
  have hx:=zaa (h.ev x) (fun p hp=>hn p (by rw [e1] at hp;simp [hp]))
  have hy:=zaa (h.ev y) (fun p hp=>hn p (by rw [e2] at hp;simp [hp]))
  rw [e1] at hx
  rw [e2] at hy
  obtain ⟨xs,hx1,hx2⟩:=hx
  obtain ⟨ys,hy1,hy2⟩:=hy
  refine ⟨xs,ys,hx1,hy1,?_⟩
  rw [run_equalIn_agg w 9999 T xs.toArray ys.toArray hT c3]
  exact zhJ (E:=E) (d:=9998) _ 0 vs us c2 c5 c6 (Nat.eq_of_beq_eq_true c7) (Nat.eq_of_beq_eq_true c8) (by simpa using hx2) (by simpa using hy2)
 split at hu
 ·simp only [Option.some.injEq] at hu
  subst hu
  refine Does.pure fun E a w h hn=>?_
  obtain ⟨xs,ys,h1,h2,h3⟩:=run E a w h hn
  refine ⟨.bool (eqI vs us),?_,rfl⟩
  simp only [execOp,ho,h1,h2,Sem.run_bind,run_eqGuard_agg w .eql T x y _ _ c4,Result.andThen_ok,run_eql_struct,h3,Sem.run_pure]
 ·simp only [Option.some.injEq] at hu
  subst hu
  refine Does.pure fun E a w h hn=>?_
  obtain ⟨xs,ys,h1,h2,h3⟩:=run E a w h hn
  refine ⟨.bool (!eqI vs us),?_,rfl⟩
  simp only [execOp,ho,h1,h2,Sem.run_bind,run_eqGuard_agg w .neq T x y _ _ c4,Result.andThen_ok,run_neq_struct,h3,Sem.run_pure]
 ·simp at hu
end
end Go.Proofs.Ytfccndnnpkiajaa
namespace Go.Proofs.Ytfccndnnpkiajaa
open Go.RowKit Go.ChangeShapes Go.WideShapes Go.Deep
theorem MemOk.lay {base:Nat} {X:Cx} {w0 w w':World} {E:Env} {m:Nat→BE} (h:MemOk base X w0 E m w) {c:Nat} (hc:m c = .empty) (hB:Below w.heap.size w w') :
  ∃ E',E.Le E'∧(∀ b,w.heap.size≤b→b<w'.heap.size→E'.σ c b)∧Same E.lab w w'∧MemOk base X w0 E' (upd m c .dead) w':=by
 have hcnl:X.nl≤c:=by
  rcases Nat.lt_or_ge c X.nl with hlt | hge
  ·exact absurd hc (h.low c hlt)
  ·exact hge
 have hnc:∀ b,¬ E.σ c b:=(h.empty c hc).2
 have hS:Same E.lab w w':=Same.below hB
 have hh:∀ u b,Has (⟨E.β,fun i b=>E.σ i b∨(i=c∧w.heap.size≤b∧b<w'.heap.size),E.φ⟩:Env) (upd m c .dead) u b→Has E m u b:=by
  intro u b ⟨g1,g2⟩
  by_cases hu:u=c
  ·subst hu;rw [za0] at g1;cases g1
  ·rw [za7 _ _ hu] at g1 g2;exact ⟨g1,g2⟩
 refine ⟨⟨E.β,fun i b=>E.σ i b∨(i=c∧w.heap.size≤b∧b<w'.heap.size),E.φ⟩,⟨fun _ _ x=>x,fun _ _ x=> .inl x⟩,fun b h1 h2=> .inr ⟨rfl,h1,h2⟩,hS,?_⟩
 refine h.go ⟨fun _ _ x=>x,fun _ _ x=> .inl x⟩ hS (fun u=>u=c) (fun u hu=>⟨za7 _ _ hu,rfl,rfl⟩) (fun u hu he b hb=>hb.elim ((h.empty u he).2 b) (fun g=>hu g.1)) (fun u b _ hx=>hB.block b (h.lt hx))
  (fun u hu=>by subst hu;rw [za0];exact ⟨by simp,fun g=>by cases g⟩) (fun i b hb=>?_) (fun i j b hi hj=>?_) (fun u b hb=>?_) (fun i b hi hb=>?_) (fun u v b h1 h2=>h.inj u v b (hh u b h1) (hh v b h2))
  ⟨hB.os,hB.tape,hB.output,hB.size,fun x hx _=>hB.block x (Nat.lt_of_lt_of_le hx h.base)⟩
 ·rcases hb with hb | ⟨rfl,h1,h2⟩
  ·exact ⟨Nat.lt_of_lt_of_le (h.lab i b hb).1 hB.size,(h.lab i b hb).2⟩
  ·exact ⟨h2,fun _=> .inl (Nat.le_trans h.base h1)⟩
 ·rcases hi with hi | ⟨rfl,h1,_⟩<;>rcases hj with hj | ⟨rfl,h2,_⟩
  ·exact h.dis i j b hi hj
  ·exact absurd (h.lab i b hi).1 (by omega)
  ·exact absurd (h.lab j b hj).1 (by omega)
  ·rfl
 ·have g1:=hh u b hb
  refine ⟨fun ⟨i,hi⟩=>?_,(h.sep u b g1).2⟩
  rcases hi with hi | ⟨_,h1,_⟩
  ·exact (h.sep u b g1).1 ⟨i,hi⟩
  ·have:=h.lt g1;omega
 ·rcases hb with hb | ⟨rfl,_⟩
  ·exact h.old i b hi hb
  ·omega
def zdf (l:List Int):ByteArray:=⟨(l.map fun n=>UInt8.ofNat n.toNat).toArray⟩
theorem zgs (l:List Int):(zdf l).size=l.length:=by simp [zdf,ByteArray.size]
theorem zeW:∀ (ns:List Int) (s:ByteArray),ns.foldl (fun r n=>r.push (UInt8.ofNat n.toNat)) s=⟨s.data++(ns.map fun n=>UInt8.ofNat n.toNat).toArray⟩
 | [],s=>by simp
 | n::ns,s=>by
  rw [List.foldl_cons,zeW ns]
  simp [ByteArray.push]
theorem zd9 (l:List Int):l.foldl (fun r n=>r.push (UInt8.ofNat n.toNat)) ByteArray.empty=zdf l:=by
 rw [zeW]
 show ByteArray.mk (#[]++_)=_
 simp [zdf]
section ops
variable {P : Program} {base : Nat} {X : Cx} {w0 : World} {st : St}
def xorI (k:IntKind) (x y:Int):Int:=k.wrap ((BitVec.ofInt k.bits x ^^^ BitVec.ofInt k.bits y).toNat:Int)
def binX (op:BinOp):SV→SV→Option SV
 | .str x,.str y=>match op with
  | .lss=>some (.bool (zbS x y))
  | .leq=>some (.bool (zbS x y||x.toList==y.toList))
  | .gtr=>some (.bool !(zbS x y||x.toList==y.toList))
  | .geq=>some (.bool !(zbS x y))
  | _=>none
 | .int k x,.int k' y=>if k=k' then (match op with
  | .xor=>some (.int k (xorI k x y))
  | _=>none) else none
 | _,_=>none
theorem zlu {E:Env} {w:World} {op:BinOp} {s t r:SV} (h:binX op s t=some r) {v u:Value} (hv:DenV E w s v) (hu:DenV E w t u) (T:TypeId) (x y:Operand) :
  ∃ z,(do eqGuard op T x y v u;binOp op T v u:Sem Value).run P w = .ok z w∧DenV E w r z:=by
 unfold binX at h
 split at h
 ·rename_i a b
  obtain ⟨rfl,ha⟩:=hv
  obtain ⟨rfl,hb⟩:=hu
  split at h<;>simp only [Option.some.injEq,reduceCtorEq] at h
  all_goals subst h
  all_goals
   refine ⟨_,by simp only [eqGuard,binOp,Op.stringOp,Sem.run_bind,Sem.run_pure,Result.andThen];rfl,?_⟩
   rfl
 ·rename_i k a k' b
  split at h
  case isFalse=>simp at h
  rename_i hk
  subst hk
  obtain ⟨rfl,_⟩:=hv
  obtain ⟨rfl,_⟩:=hu
  split at h<;>simp only [Option.some.injEq,reduceCtorEq] at h
  subst h
  refine ⟨_,by simp [eqGuard,binOp,Op.intBits];rfl,?_⟩
  exact ⟨rfl,wf_wrap _ _⟩
 ·simp at h
def zj4 (st:St) (op:BinOp) (x y:Operand):Option Upd:=
 match binX op (zac (st.ev x)).1 (zac (st.ev y)).1 with
 | some r=>some ⟨(zac (st.ev x)).2++(zac (st.ev y)).2,r,[]⟩
 | none=>none
theorem zj3 (o:Oper) (op:BinOp) (T T2:TypeId) (x y:Operand) (ho:o.op = .binOp op T x y T2) {u:Upd} (hu:zj4 st op x y=some u):Does P base X w0 st o u:=by
 unfold zj4 at hu
 split at hu
 case h_2=>simp at hu
 rename_i r hb
 simp only [Option.some.injEq] at hu
 subst hu
 refine Does.pure fun E a w h hn=>?_
 have hx:=zaa (h.ev x) (fun p hp=>hn p (by simp [hp]))
 have hy:=zaa (h.ev y) (fun p hp=>hn p (by simp [hp]))
 obtain ⟨z,h1,h2⟩:=zlu (P:=P) hb hx hy T x y
 exact ⟨z,by rw [execOp,ho];simp only [Sem.run_bind] at h1 ⊢;rw [h1];rfl,h2⟩
def sGet (s:ByteArray) (i:Int):Int:=((s.data.toList.getD i.toNat 0).toNat:Int)
def zjx (P:Program) (st:St) (T:TypeId) (x i:Operand):Option Upd:=
 match P.underlying T,zac (st.ev x),zac (st.ev i) with
 | some .string,(.str s,n1),(.int .i64 j,n2)=>some ⟨n1++n2++[0≤j,j<(s.size:Int)],.int .u8 (sGet s j),[]⟩
 | _,_,_=>none
theorem zfj (s:ByteArray) (i:Int):0≤sGet s i∧sGet s i≤255:=by
 unfold sGet
 have:=(s.data.toList.getD i.toNat 0).toNat_lt
 omega
theorem zjB {n:Int} (h:0≤n∧n≤255):(Lit.int .u8 n).wf=true:=by
 simp only [Lit.wf,Bool.and_eq_true,decide_eq_true_eq];exact h
theorem zjw (o:Oper) (T:TypeId) (x i:Operand) (ho:o.op = .index T x i) {u:Upd} (hu:zjx P st T x i=some u):Does P base X w0 st o u:=by
 unfold zjx at hu
 split at hu
 case h_2=>simp at hu
 rename_i s n1 j n2 hT e1 e2
 simp only [Option.some.injEq] at hu
 subst hu
 refine Does.pure fun E a w h hn=>?_
 have hx:=zaa (h.ev x) (fun p hp=>hn p (by rw [e1] at hp;simp [hp]))
 have hi:=zaa (h.ev i) (fun p hp=>hn p (by rw [e2] at hp;simp [hp]))
 rw [e1] at hx
 rw [e2] at hi
 obtain ⟨hx,_⟩:=hx
 obtain ⟨hi,_⟩:=hi
 have h0:0≤j:=hn _ (by simp)
 have h1:j<(s.size:Int):=hn _ (by simp)
 have hlt:j.toNat<s.size:=by omega
 have hg:s[j.toNat]? = some s[j.toNat]:=by rw [getElem?_pos s j.toNat hlt]
 have he:s[j.toNat].toNat=(s.data.toList.getD j.toNat 0).toNat:=by
  have:j.toNat<s.data.toList.length:=by simpa using hlt
  rw [List.getD_eq_getElem?_getD,List.getElem?_eq_getElem this]
  rfl
 refine ⟨.int .u8 (sGet s j),?_,rfl,zjB (zfj s j)⟩
 have:sGet s j=(s[j.toNat].toNat:Int):=by unfold sGet;rw [he]
 rw [this]
 simp [execOp,ho,hx,hi,Instr.index,asIntOf,run_underlying hT,h0,hg,Result.andThen]
def rowU (st:St):SV→Option (List Int)
 | .sl _ (.rBytes l)=>some l
 | .own t=>match st.m t with
  | .row _ _ (.rBytes l)=>some l
  | _=>none
 | .nil=>some []
 | _=>none
theorem zku {E:Env} {a:Act} {w:World} (h:st.Ok base X w0 E a w) {s:SV} {l:List Int} (hs:rowU st s=some l) {v:Value} (hv:DenV E w s v):(l=[]∧∃ ad c,v = .slice ad 0 c)∨(∃ b off c,v = .slice (some ⟨b,off,none⟩) l.length c∧∀ i,i<l.length→w.cell? ⟨b,off+i,none⟩=some (.int .u8 (l.getD i 0))):=by
 have key:∀ (S:Nat→Prop) (v:Value),Rd w S (.sl [.int .u8]) v (.sl (ints l))→(l=[]∧∃ ad c,v = .slice ad 0 c)∨(∃ b off c,v = .slice (some ⟨b,off,none⟩) l.length c∧∀ i,i<l.length→w.cell? ⟨b,off+i,none⟩=some (.int .u8 (l.getD i 0))):=by
  intro S v hr
  obtain ⟨ad,c,rfl,hsl⟩:=hr.sl'
  rw [zan] at hsl ⊢
  by_cases h0:l.length=0
  ·have:l=[]:=List.eq_nil_of_length_eq_zero h0
   subst this
   exact .inl ⟨rfl,ad,c,rfl⟩
  ·obtain ⟨b,off,rfl,_,_,vals,hc,hr⟩:=hsl.rowAt (by omega)
   refine .inr ⟨b,off,c,rfl,fun i hi=>?_⟩
   have h1:=hc i 0 hi (by simp)
   have h2:=(hr i hi).2 0 (by simp)
   have e:(ints l).getD i []=[.int (l.getD i 0)]:=by simp [ints,List.getD,hi]
   rw [e] at h2
   have h2:Rd w S (.int .u8) (vals i 0) (.int (l.getD i 0)):=h2
   rw [h2.u8.1] at h1
   simpa using h1
 unfold rowU at hs
 split at hs
 ·simp only [Option.some.injEq] at hs
  subst hs
  exact key _ _ hv
 ·rename_i t
  split at hs
  case h_2=>simp at hs
  rename_i T ls l2 hm
  simp only [Option.some.injEq] at hs
  subst hs
  obtain ⟨v',h1,h2⟩:=h.mem.row t _ _ _ hm
  have:=hv.1
  rw [h1] at this
  simp only [Option.some.injEq] at this
  subst this
  obtain ⟨cells,ho,hr⟩:=h2
  have h3:OwnR 0 w T (E.set ls) [.int .u8] v' (ints l2):=⟨cells,ho,hr⟩
  obtain ⟨ad,c,e⟩:=h3.form
  rw [zan] at e
  by_cases h0:l2.length=0
  ·have:l2=[]:=List.eq_nil_of_length_eq_zero h0
   subst this
   exact .inl ⟨rfl,ad,c,e⟩
  ·obtain ⟨c1,c2⟩:=h3.bytesC
   have e2:=e
   rcases c1.2 with ⟨hv0,_⟩ | ⟨g,cap,cur,hv1,hg,hh,hsz,hxs⟩
   ·rw [hv0] at e;simp at e;omega
   ·rw [hv1] at e
    refine .inr ⟨g,0,cap,hv1,fun i hi=>?_⟩
    have:=c1.cells (g:=g) (by rw [hv1];rfl) i (.int .u8 (l2.getD i 0)) (by simp [List.getD,hi])
    have e3:(⟨g,0,none⟩:Addr).add i=⟨g,0+i,none⟩:=by simp [Addr.add];intro e;simp [e]
    rw [e3] at this
    exact this
 ·simp only [Option.some.injEq] at hs
  subst hs
  have:v = .slice none 0 0:=hv
  exact .inl ⟨rfl,none,0,this⟩
 ·simp at hs
def cB2S (P:Program) (st:St) (src dst:TypeId) (x:Operand):Option Upd:=
 match zaO P src,P.underlying dst with
 | some e,some .string=>match P.underlying e,rowU st (zac (st.ev x)).1 with
  | some (.int .u8),some l=>some ⟨(zac (st.ev x)).2++[l.length≤140737488355328],.str (zdf l),[]⟩
  | _,_=>none
 | _,_=>none
theorem zlr (o:Oper) (src dst:TypeId) (x:Operand) (ho:o.op = .convert src dst x) {u:Upd} (hu:cB2S P st src dst x=some u):Does P base X w0 st o u:=by
 unfold cB2S at hu
 split at hu
 case h_2=>simp at hu
 rename_i e he hd
 split at hu
 case h_2=>simp at hu
 rename_i l hu8 hl
 simp only [Option.some.injEq] at hu
 subst hu
 refine Does.pure fun E a w h hn=>?_
 have hx:=zaa (h.ev x) (fun p hp=>hn p (by simp [hp]))
 have hbd:l.length≤140737488355328:=hn _ (by simp)
 have hsz:(zdf l).size≤140737488355328:=by rw [zgs];omega
 refine ⟨.string (zdf l),?_,rfl,hsz⟩
 rcases zku h hl hx with ⟨rfl,ad,c,hv⟩ | ⟨b,off,c,hv,hc⟩
 ·cases ad with
  | none=>
   rw [show zdf []=ByteArray.empty from rfl]
   simp only [execOp,ho,hv,Sem.run_bind,run_convert_bytes_string w src dst e _ _ _ (zaj he) hu8 hd,Conv.bytesToString,Sem.run_pure,Result.andThen]
  | some ad=>
   have h1:=run_bytesToString (P:=P) w ad 0 c [] (by have:=run_loadCells (P:=P) (w:=w) ad 0 (fun _=>undef) (fun j hj=>absurd hj (Nat.not_lt_zero _));simpa using this)
   simp only [execOp,ho,hv,Sem.run_bind,run_convert_bytes_string w src dst e _ _ _ (zaj he) hu8 hd,h1,Result.andThen,Sem.run_pure]
   rfl
 ·have h1:=run_bytesToString (P:=P) w ⟨b,off,none⟩ l.length c l (by
   have:=run_loadCells_list (P:=P) w ⟨b,off,none⟩ (l.map (Value.int .u8)) (fun j v hj=>by
    rw [List.getElem?_map] at hj
    have hlt:j<l.length:=by
     rcases Nat.lt_or_ge j l.length with h | h
     ·exact h
     ·rw [List.getElem?_eq_none h] at hj;cases hj
    rw [List.getElem?_eq_getElem hlt] at hj
    simp only [Option.map_some,Option.some.injEq] at hj
    subst hj
    have:=hc j hlt
    have e3:(⟨b,off,none⟩:Addr).add j=⟨b,off+j,none⟩:=by
     cases j with
     | zero=>rfl
     | succ j=>rfl
    rw [e3,this]
    simp [List.getD,hlt])
   simpa using this)
  rw [zd9] at h1
  simp only [execOp,ho,hv,Sem.run_bind,run_convert_bytes_string w src dst e _ _ _ (zaj he) hu8 hd,h1,Result.andThen,Sem.run_pure]
def cS2B (P:Program) (st:St) (c:Nat) (src dst:TypeId) (x:Operand):Option Upd:=
 match P.underlying src,zaO P dst with
 | some .string,some e=>match P.underlying e,zac (st.ev x) with
  | some (.int .u8),(.str s,n)=>if st.free c then some ⟨n++[s.size≤140737488355328],.sl [c] (.rBytes (bytesOf s)),[(c,.dead)]⟩ else none
  | _,_=>none
 | _,_=>none
theorem zlc (o:Oper) (c:Nat) (src dst:TypeId) (x:Operand) (ho:o.op = .convert src dst x) {u:Upd} (hu:cS2B P st c src dst x=some u):Does P base X w0 st o u:=by
 unfold cS2B at hu
 split at hu
 case h_2=>simp at hu
 rename_i e hsrc he
 split at hu
 case h_2=>simp at hu
 rename_i s n hu8 e2
 split at hu
 case isFalse=>simp at hu
 rename_i hfree
 simp only [Option.some.injEq] at hu
 subst hu
 intro E a w K Q h hn hK
 have hx:=zaa (h.ev x) (fun p hp=>hn p (by rw [e2] at hp;simp [hp]))
 rw [e2] at hx
 obtain ⟨hx,_⟩:=hx
 have hbd:s.size≤140737488355328:=hn _ (by simp)
 have hB:Below w.heap.size w (Lib.bytesWorld w e s):=⟨rfl,rfl,rfl,by rw [Lib.bytesWorld_size];omega,fun j hj=>Lib.bytesWorld_at_old w e s j hj⟩
 obtain ⟨E',g1,g2,g3,g4⟩:=h.mem.lay (St.of_free hfree) hB
 have hrun:=Lib.run_convert_string_bytes (P:=P) w src dst e s hsrc (zaj he) hu8
 have hcap:=grownCap_ge w s.size 0 e
 have hcap2:=grownCap_le_maxLen w s.size 0 e (by unfold maxLen;omega)
 refine za5 (v:= .slice (some ⟨w.heap.size,0,none⟩) s.size (grownCap w s.size 0 e)) (w':=Lib.bytesWorld w e s) ?_ (hK E' _ _ g1 g3 ?_ (by rw [zbb];exact g4))
 ·simp only [execOp,ho,hx,Sem.run_bind,hrun,Result.andThen,Sem.run_pure]
 ·show Rd _ (E'.set [c]) (.sl [.int .u8]) _ (.sl (ints (bytesOf s)))
  have hlt:w.heap.size<(Lib.bytesWorld w e s).heap.size:=by rw [Lib.bytesWorld_size];omega
  by_cases h0:s.size=0
  ·rw [h0]
   have:bytesOf s=[]:=List.eq_nil_of_length_eq_zero (by rw [zbv];exact h0)
   rw [this]
   rw [h0] at hcap2
   exact .emp (fun e=>by cases e) hcap2
  ·have hn2:=Lib.bytesWorld_at_new w e s
   have hbs:(Lib.bytesCells w e s).size=s.size+(grownCap w s.size 0 e-s.size):=by simp [Lib.bytesCells]
   refine .row (fun i _=> .int .u8 ((s.data.toList.getD i 0).toNat:Int)) (by omega) (by rw [zan,zbv]) hcap hcap2 hbd ⟨c,by simp,g2 _ (Nat.le_refl _) hlt⟩ hlt (fun i j hi hj=>?_) (fun i hi=>?_) (fun i j hi hj=>?_) (fun i j hi hj=>?_)
   ·have:j=0:=by simpa using hj
    subst this
    have:=Lib.bytesWorld_cell w e s i hi
    simpa using this
   ·have:i<(bytesOf s).length:=by rw [zbv];exact hi
    simp [ints,List.getD,this]
   ·have:j=0:=by simpa using hj
    subst this
    have hi2:i<s.data.toList.length:=by simpa using hi
    have e1:(ints (bytesOf s)).getD i []=[.int ((s.data.toList.getD i 0).toNat:Int)]:=by
     have hi3:i<s.data.size:=by simpa using hi2
     have hg:s.data[i]? = some s.data[i]:=Array.getElem?_eq_getElem hi3
     simp [ints,bytesOf,List.getD,hg]
    rw [e1]
    exact .int (zjB (by have:=(s.data.toList.getD i 0).toNat_lt;omega))
   ·have:j=0:=by simpa using hj
    subst this
    simp [World.frozen?,hn2]
    omega
end ops
end Go.Proofs.Ytfccndnnpkiajaa
namespace Go.Proofs.Ytfccndnnpkiajaa
open Go.RowKit Go.ChangeShapes Go.WideShapes Go.Deep
theorem zep:∀ (l:List File) (n:ByteArray),-1≤za4 l n∧za4 l n<l.length
 | [],_=>⟨Int.le_refl _,by show (-1:Int)<0;decide⟩
 | x::l,n=>by
  have h:=zep l n
  simp only [za4,List.length_cons]
  split
  ·omega
  ·split<;>omega
theorem za9 (old:List Int) (n:Nat) (b:List Int):(za6 old n b).length=max old.length (n+b.length):=by
 simp only [za6,List.length_append,List.length_map,List.length_range,List.length_drop]
 omega
theorem zg2 {x n:ByteArray} (h:eqN x n=true):leN n x=true:=by
 have:x.toList=n.toList:=eq_of_beq h
 unfold leN
 rw [this]
 simp
theorem zk1 {a b:Bool} (h:zba a true b=false):a=false∧b=false:=by cases a<;>simp_all [zba]
def nmB (c:Int):Bool:=(decide (97≤c)&&decide (c≤122))||(decide (48≤c)&&decide (c≤57))||c==95
def zb8 (s:ByteArray):Bool:=decide (1≤s.size)&&decide (s.size≤16)&&(decide (97≤sGet s 0)&&decide (sGet s 0≤122))&&(List.range s.size).all fun i=>nmB (sGet s i)
def zbR (d:RDisk):RDisk:={d with left:=if d.stops then IntKind.i64.wrap (d.left-1) else d.left,down:=if d.stops then decide (IntKind.i64.wrap (d.left-1)≤0) else d.down}
def chgD (d:RDisk) (c:DChange):RDisk:=zbR {d with changes:=d.changes++[c]}
def sumF (l:List File):Int:=l.foldl (fun s x=>s+x.bytes.length) 0
def wrD (d:RDisk) (file:ByteArray) (at_:Int) (b:List Int):RDisk×Int:=
 if d.down then (d,120) else if zb8 file=false then (d,122)
 else if at_<0∨at_>(za1 (zad d) file).length then (d,123)
 else if sumF (zag (zad d) ⟨1,file,at_,b⟩)>d.room∨((zag (zad d) ⟨1,file,at_,b⟩).length:Int)>16 then (d,121)
 else (chgD d ⟨1,file,at_,b⟩,0)
def cutD (d:RDisk) (file:ByteArray) (n:Int):RDisk×Int:=
 if d.down then (d,120) else if za4 (zad d) file<0 then (d,122)
 else if n<0∨n>(za1 (zad d) file).length then (d,123)
 else (chgD d ⟨2,file,n,[]⟩,0)
def rmD (d:RDisk) (file:ByteArray):RDisk×Int:=
 if d.down then (d,120) else if za4 (zad d) file<0 then (d,122) else (chgD d ⟨3,file,0,[]⟩,0)
def ofF (file:ByteArray) (c:DChange):Bool:=eqN c.file file
def syD (d:RDisk) (file:ByteArray):RDisk×Int:=
 if d.down then (d,120) else if zb8 file=false then (d,122)
 else (zbR {d with lasts:=(d.changes.filter (ofF file)).foldl zag d.lasts,changes:=d.changes.filter (fun c=>!ofF file c)},0)
def zbe (d:RDisk) (file:ByteArray):List Int×Int:=if za4 (zad d) file<0 then ([],122) else (za1 (zad d) file,0)
def zdg (d:RDisk) (n:Int):RDisk×Int:=
 if d.down then (d,120) else if n<0∨n>1000000000 then (d,1) else ({d with stops:=true,left:=n,down:=n==0},0)
def zaD:List DChange→List Bool→List DChange
 | c::cs,b::bs=>if b then c::zaD cs bs else zaD cs bs
 | _,_=>[]
def zbY (c:DChange) (torn:Int):Option DChange:=
 if c.kind=1∧0≤torn∧torn<c.bytes.length then (if torn=0 then none else some {c with bytes:=c.bytes.take torn.toNat}) else some c
def zdL (torn:Int):List DChange→List File→List File
 | [],l=>l
 | [c],l=>match zbY c torn with
  | some c=>zag l c
  | none=>l
 | c::cs,l=>zdL torn cs (zag l c)
def crD (d:RDisk) (keep:List Bool) (torn:Int):RDisk:={d with lasts:=zdL torn (zaD d.changes keep) d.lasts,changes:=[],down:=false,stops:=false}
def zaC (b:List Int) (at_:Nat) (y:Int):List Int:=b.set at_ (xorI .u8 (b.getD at_ 0) y)
def spC (file:ByteArray) (at_ y:Int) (c:DChange):DChange:=if c.kind=1∧eqN c.file file=true∧at_≥c.at_∧at_-c.at_<c.bytes.length then {c with bytes:=zaC c.bytes (at_-c.at_).toNat y} else c
def spD (d:RDisk) (file:ByteArray) (at_ y:Int):RDisk×Int:=
 if za4 (zad d) file<0 then (d,122) else if at_<0∨at_≥(za1 (zad d) file).length then (d,123)
 else ({d with lasts:=if 0≤za4 d.lasts file∧at_<(za1 d.lasts file).length then zax ⟨file,zaC (za1 d.lasts file) at_.toNat y⟩ d.lasts else d.lasts,changes:=d.changes.map (spC file at_ y)},0)
theorem zbt (f:File):∀ l:List File,(zax f l).length≤l.length+1
 | []=>Nat.le_refl _
 | x::l=>by
  unfold zax
  split
  ·have:=List.length_filter_le (fun y=>!eqN y.name f.name) (x::l)
   simp only [List.length_cons] at this ⊢
   omega
  ·have:=zbt f l
   simp only [List.length_cons]
   omega
theorem zaE {f:File}:∀ {l:List File} {x:File},x∈zax f l→x=f∨x∈l
 | [],x,h=>by
  rw [show zax f []=[f] from rfl,List.mem_singleton] at h
  exact .inl h
 | y::l,x,h=>by
  unfold zax at h
  split at h
  ·rcases List.mem_cons.1 h with e | h
   ·exact .inl e
   ·exact .inr (List.mem_filter.1 h).1
  ·rcases List.mem_cons.1 h with e | h
   ·exact .inr (e▸List.mem_cons_self ..)
   ·exact (zaE h).imp id (List.mem_cons_of_mem _)
theorem zkn {M:Nat} (l:List File):(∀ x∈l,x.bytes.length≤M)→0≤sumF l∧sumF l≤((l.length*M:Nat):Int):=by
 have key:∀ (l:List File) (a:Int),(∀ x∈l,x.bytes.length≤M)→0≤a→a≤l.foldl (fun (s:Int) x=>s+((x.bytes.length:Nat):Int)) a∧l.foldl (fun (s:Int) x=>s+((x.bytes.length:Nat):Int)) a≤a+((l.length*M:Nat):Int):=by
  intro l
  induction l with
  | nil=>intro a _ _;simp
  | cons x l ih=>
   intro a h ha
   have h1:=h x (List.mem_cons_self ..)
   obtain ⟨g1,g2⟩:=ih (a+((x.bytes.length:Nat):Int)) (fun y hy=>h y (List.mem_cons_of_mem _ hy)) (by omega)
   rw [List.foldl_cons,List.length_cons,Nat.succ_mul]
   omega
 intro h
 have:=key l 0 h (Int.le_refl 0)
 unfold sumF
 omega
theorem zdF:∀ (cs:List DChange) (keep:List Bool) (j:Nat),j<cs.length→zaD (cs.take (j+1)) keep=if keep.getD j false then zaD (cs.take j) keep++[cs.getD j default] else zaD (cs.take j) keep
 | c::cs,[],j,hj=>by
  have e1:∀ l:List DChange,zaD l []=[]:=fun l=>by cases l<;>rfl
  simp [e1,List.getD]
 | c::cs,b::bs,0,hj=>by
  have e1:∀ l:List Bool,zaD [] l=[]:=fun l=>by cases l<;>rfl
  cases b<;>simp [zaD,e1,List.getD]
 | c::cs,b::bs,j+1,hj=>by
  have ih:=zdF cs bs j (by simpa using hj)
  simp only [List.take_succ_cons,zaD,List.getD_cons_succ]
  rw [ih]
  generalize bs.getD j false=v
  cases v<;>cases b<;>rfl
 | [],_,_,hj=>by simp at hj
theorem eqN_iff {x y:ByteArray}:eqN x y=true↔x=y:=by
 unfold eqN
 rw [beq_iff_eq,Lib.toList_data,Lib.toList_data]
 constructor
 ·intro h
  cases x;cases y
  simp only [ByteArray.mk.injEq]
  exact Array.toList_inj.1 h
 ·rintro rfl;rfl
theorem zat (x:ByteArray):eqN x x=true:=eqN_iff.2 rfl
theorem eqN_no {x y:ByteArray}:eqN x y=false↔x≠y:=by
 rw [← Bool.not_eq_true,eqN_iff]
theorem sLess_iff {x y:ByteArray}:zbS x y=true↔x.toList<y.toList:=by
 unfold zbS
 rw [bytesLess_eq,decide_eq_true_iff]
theorem zdj (x:ByteArray):zbS x x=false:=by
 rw [← Bool.not_eq_true,sLess_iff]
 exact List.lt_irrefl _
theorem zfI {x y z:ByteArray} (h:zbS x y=true) (h':zbS y z=true):zbS x z=true:=sLess_iff.2 (List.lt_trans (sLess_iff.1 h) (sLess_iff.1 h'))
theorem zbp {x y:ByteArray} (h:zbS x y=true):x≠y:=fun e=>by rw [e,zdj] at h;cases h
theorem zcf {x y:ByteArray} (h:leN x y=false):zbS y x=true:=by
 unfold leN at h
 simp only [Bool.or_eq_false_iff] at h
 have h2:x≠y:=eqN_no.1 h.2
 have h1:¬ x.toList<y.toList:=fun e=>by rw [sLess_iff.2 e] at h;cases h.1
 refine sLess_iff.2 ?_
 have h3:y.toList≤x.toList:=List.not_lt.1 h1
 rcases List.le_iff_lt_or_eq.1 h3 with h4 | h4
 ·exact h4
 ·exact absurd (eqN_iff.1 (by unfold eqN;rw [h4];exact beq_self_eq_true _)) h2
theorem zeR {x y:ByteArray} (h:leN x y=true):zbS x y=true∨x=y:=by
 unfold leN at h
 rw [Bool.or_eq_true] at h
 exact h.imp id fun e=>eqN_iff.1 e
theorem zay:∀ (l:List File) (n:ByteArray),(za4 l n<0↔zab l n=none)∧(0≤za4 l n→(l.getD (za4 l n).toNat default).bytes=(zab l n).getD [])
 | [],n=>⟨⟨fun _=>rfl,fun _=>by show (-1:Int)<0;decide⟩,fun h=>absurd (show (0:Int) ≤ -1 from h) (by decide)⟩
 | x::l,n=>by
  have ih:=zay l n
  have hb:=zep l n
  unfold za4 zab
  split
  ·exact ⟨⟨fun h=>absurd h (by decide),fun h=>by cases h⟩,fun _=>rfl⟩
  ·split
   ·rename_i h
    exact ⟨⟨fun _=>ih.1.1 (by omega),fun _=>by decide⟩,fun h=>absurd h (by decide)⟩
   ·rename_i h
    refine ⟨⟨fun g=>by omega,fun g=>?_⟩,fun _=>?_⟩
    ·have:=ih.1.2 g
     omega
    ·have h0:0≤za4 l n:=by omega
     rw [← ih.2 h0]
     have:(za4 l n+1).toNat=(za4 l n).toNat+1:=by omega
     rw [this]
     rfl
theorem zap (l:List File) (n:ByteArray):za1 l n=(zab l n).getD []:=by
 unfold za1
 split
 ·rename_i h
  rw [(zay l n).1.1 h];rfl
 ·rename_i h
  exact (zay l n).2 (by omega)
theorem zb9:∀ {l:List File} {n:ByteArray} {b:List Int},zab l n=some b→⟨n,b⟩∈l
 | x::l,n,b,h=>by
  unfold zab at h
  split at h
  ·rename_i e
   have:=eqN_iff.1 e
   subst this
   simp only [Option.some.injEq] at h
   subst h
   exact List.mem_cons_self ..
  ·exact List.mem_cons_of_mem _ (zb9 h)
theorem SortF.look {l:List File} (h:SortF l) {x:File} (hx:x∈l):zab l x.name=some x.bytes:=by
 induction l with
 | nil=>cases hx
 | cons y l ih=>
  unfold zab
  rcases List.mem_cons.1 hx with e | hx
  ·subst e
   rw [if_pos (zat _)]
  ·have h1:=(List.pairwise_cons.1 h).1 x hx
   rw [if_neg (by rw [Bool.not_eq_true];exact eqN_no.2 (zbp h1))]
   exact ih (List.pairwise_cons.1 h).2 hx
theorem zcI (l:List File) (n m:ByteArray):zab (l.filter fun y=>!eqN y.name n) m=if eqN n m then none else zab l m:=by
 induction l with
 | nil=>simp [zab]
 | cons x l ih=>
  rw [List.filter_cons]
  cases h:eqN x.name n
  ·simp only [Bool.not_false,if_true]
   unfold zab
   rw [ih]
   cases h2:eqN x.name m
   ·simp
   ·have:eqN n m=false:=eqN_no.2 fun e=>by
     have:=eqN_iff.1 h2
     rw [e,← this,zat] at h
     cases h
    rw [this];simp
  ·simp only [Bool.not_true,Bool.false_eq_true,if_false]
   rw [ih]
   conv=>rhs;unfold zab
   have e:=eqN_iff.1 h
   rw [e]
   cases eqN n m<;>simp
theorem zdE (l:List File) (n m:ByteArray):zab (zbC l n) m=if eqN n m then none else zab l m:=zcI l n m
theorem zbk (f:File):∀ (l:List File) (m:ByteArray),zab (zax f l) m=if eqN f.name m then some f.bytes else zab l m
 | [],m=>rfl
 | x::l,m=>by
  unfold zax
  split
  ·rename_i h
   show (if eqN f.name m then some f.bytes else zab ((x::l).filter fun y=>!eqN y.name f.name) m)=_
   rw [zcI]
   cases eqN f.name m<;>simp
  ·rename_i h
   show (if eqN x.name m then some x.bytes else zab (zax f l) m)=_
   rw [zbk f l m]
   conv=>rhs;unfold zab
   cases h2:eqN x.name m
   ·simp
   ·have:eqN f.name m=false:=eqN_no.2 fun e=>by
     have:=eqN_iff.1 h2
     rw [Bool.not_eq_true] at h
     have h3:=zbp (zcf h)
     exact h3 (this.trans e.symm)
    rw [this];simp
theorem SortF.drop {l:List File} (h:SortF l) (n:ByteArray):SortF (zbC l n):=List.Pairwise.filter _ h
theorem SortF.put {l:List File} (f:File) (h:SortF l):SortF (zax f l):=by
 induction l with
 | nil=>exact List.pairwise_singleton _ _
 | cons x l ih=>
  obtain ⟨h1,h2⟩:=List.pairwise_cons.1 h
  unfold zax
  split
  ·rename_i hle
   refine List.pairwise_cons.2 ⟨fun y hy=>?_,List.Pairwise.filter _ h⟩
   obtain ⟨hy1,hy2⟩:=List.mem_filter.1 hy
   have hne:y.name≠f.name:=eqN_no.1 (by simpa using hy2)
   rcases List.mem_cons.1 hy1 with e | hy1
   ·subst e
    rcases zeR hle with h | h
    ·exact h
    ·exact absurd h.symm hne
   ·have:=h1 y hy1
    rcases zeR hle with h | h
    ·exact zfI h this
    ·rw [h];exact this
  ·rename_i hle
   rw [Bool.not_eq_true] at hle
   refine List.pairwise_cons.2 ⟨fun y hy=>?_,ih h2⟩
   rcases zaE hy with e | hy
   ·subst e;exact zcf hle
   ·exact h1 y hy
theorem SortF.drop_len {l:List File} (h:SortF l) (n:ByteArray):(zbC l n).length=if (zab l n).isSome then l.length-1 else l.length:=by
 induction l with
 | nil=>rfl
 | cons x l ih=>
  obtain ⟨h1,h2⟩:=List.pairwise_cons.1 h
  have ih:=ih h2
  unfold zbC zab
  rw [List.filter_cons]
  cases e:eqN x.name n
  ·simp only [Bool.not_false,if_true,Bool.false_eq_true,if_false]
   unfold zbC at ih
   rw [List.length_cons,ih]
   split
   ·rename_i hs
    obtain ⟨b,hb⟩:=Option.isSome_iff_exists.1 hs
    have:=List.length_pos_of_mem (zb9 hb)
    rw [List.length_cons]
    omega
   ·rfl
  ·simp only [Bool.not_true,Bool.false_eq_true,if_false,if_true,Option.isSome_some,List.length_cons]
   have hx:=eqN_iff.1 e
   rw [List.filter_eq_self.2 fun y hy=>by
    have:=zbp (h1 y hy)
    rw [hx] at this
    simp [eqN_no.2 (Ne.symm this)]]
   omega
theorem SortF.put_len {l:List File} (f:File) (h:SortF l):(zax f l).length=if (zab l f.name).isSome then l.length else l.length+1:=by
 induction l with
 | nil=>rfl
 | cons x l ih=>
  obtain ⟨h1,h2⟩:=List.pairwise_cons.1 h
  have ih:=ih h2
  unfold zax
  split
  ·rename_i hle
   have:=h.drop_len f.name
   unfold zbC at this
   rw [List.length_cons,this]
   split
   ·rw [List.length_cons];omega
   ·rfl
  ·rename_i hle
   rw [Bool.not_eq_true] at hle
   have hne:=zbp (zcf hle)
   have e:zab (x::l) f.name=zab l f.name:=by
    conv=>lhs;unfold zab
    rw [if_neg (by rw [Bool.not_eq_true];exact eqN_no.2 hne)]
   rw [e,List.length_cons,ih]
   split<;>simp
theorem SortF.ext:∀ {l l':List File},SortF l→SortF l'→(∀ n,zab l n=zab l' n)→l=l'
 | [],[],_,_,_=>rfl
 | [],y::l',_,_,h=>by
  have:=h y.name
  unfold zab at this
  rw [if_pos (zat _)] at this
  cases this
 | x::l,[],_,_,h=>by
  have:=h x.name
  unfold zab at this
  rw [if_pos (zat _)] at this
  cases this
 | x::l,y::l',hl,hl',h=>by
  obtain ⟨a1,a2⟩:=List.pairwise_cons.1 hl
  obtain ⟨b1,b2⟩:=List.pairwise_cons.1 hl'
  have hx:zab (y::l') x.name=some x.bytes:=by rw [← h];exact hl.look (List.mem_cons_self ..)
  have hy:zab (x::l) y.name=some y.bytes:=by rw [h];exact hl'.look (List.mem_cons_self ..)
  have e:x.name=y.name:=by
   rcases List.mem_cons.1 (zb9 hx) with e1 | e1
   ·rw [← e1]
   ·rcases List.mem_cons.1 (zb9 hy) with e2 | e2
    ·rw [← e2]
    ·have c1:=b1 _ e1
     have c2:=a1 _ e2
     exact absurd (zfI c1 c2) (by rw [zdj];decide)
  have e2:x=y:=by
   have:x.bytes=y.bytes:=by
    unfold zab at hx
    rw [if_pos (by rw [e];exact zat _)] at hx
    exact (Option.some.inj hx).symm
   cases x;cases y
   simp only at e this
   rw [e,this]
  subst e2
  rw [SortF.ext a2 b2 fun n=>?_]
  have h3:=h n
  unfold zab at h3
  cases h4:eqN x.name n
  ·rw [h4] at h3
   simpa using h3
  ·have h5:=eqN_iff.1 h4
   have no:∀ {k:List File},(∀ z∈k,zbS x.name z.name=true)→zab k n=none:=fun {k} hk=>by
    cases e:zab k n with
    | none=>rfl
    | some b=>
     have:=hk _ (zb9 e)
     rw [h5,zdj] at this
     cases this
   rw [no a1,no b1]
def zcy (c:DChange) (o:Option (List Int)):Option (List Int):=
 if c.kind=1 then some (za6 (o.getD []) c.at_.toNat c.bytes) else if c.kind=2 then (if ((o.getD []).length:Int)≤c.at_ then o else o.map fun b=>b.take c.at_.toNat) else none
theorem zbl (l:List File) (c:DChange) (m:ByteArray):zab (zag l c) m=if eqN c.file m then zcy c (zab l c.file) else zab l m:=by
 unfold zag zcy
 split
 ·rw [zbk,zap]
 ·split
  ·rw [zap]
   have h1:=(zay l c.file).1
   split
   ·rename_i h
    cases e:eqN c.file m
    ·simp
    ·have:=eqN_iff.1 e
     subst this
     simp only [if_true]
     rcases h with h | h
     ·rw [h1.1 h];split<;>rfl
     ·rw [if_pos h]
   ·rename_i h
    have h2:¬ za4 l c.file<0∧¬ (((zab l c.file).getD []).length:Int)≤c.at_:=⟨fun g=>h (.inl g),fun g=>h (.inr g)⟩
    rw [zbk,if_neg h2.2]
    cases e:eqN c.file m
    ·simp
    ·simp only [if_true]
     cases e2:zab l c.file with
     | none=>exact absurd (h1.2 e2) h2.1
     | some b=>rfl
  ·rw [zdE]
theorem SortF.done {l:List File} (h:SortF l) (c:DChange):SortF (zag l c):=by
 unfold zag
 split
 ·exact h.put _
 ·split
  ·split
   ·exact h
   ·exact h.put _
  ·exact h.drop _
theorem SortF.dones {l:List File} (h:SortF l) (cs:List DChange):SortF (cs.foldl zag l):=by
 induction cs generalizing l with
 | nil=>exact h
 | cons c cs ih=>exact ih (h.done c)
theorem zav (cs:List DChange) (l:List File) (m:ByteArray):zab (cs.foldl zag l) m=(cs.filter (ofF m)).foldl (fun o c=>zcy c o) (zab l m):=by
 induction cs generalizing l with
 | nil=>rfl
 | cons c cs ih=>
  rw [List.foldl_cons,ih,zbl,List.filter_cons]
  unfold ofF
  cases e:eqN c.file m
  ·simp
  ·have:=eqN_iff.1 e
   subst this
   simp
theorem zcw {α:Type} (l:List α):l.filter (fun _=>false)=[]:=by
 induction l with
 | nil=>rfl
 | cons x l ih=>simp [List.filter_cons]
theorem zgr {l:List File} (h:SortF l) (cs:List DChange) (n:ByteArray):(cs.filter (fun c=>!ofF n c)).foldl zag ((cs.filter (ofF n)).foldl zag l)=cs.foldl zag l:=by
 refine SortF.ext ((h.dones _).dones _) (h.dones _) fun m=>?_
 rw [zav,zav,zav,← List.foldl_append]
 congr 1
 rw [List.filter_filter,List.filter_filter]
 by_cases e:m=n
 ·subst e
  have e1:∀ c,(ofF m c&&!ofF m c)=false:=fun c=>by cases ofF m c<;>rfl
  simp only [e1,Bool.and_self,zcw,List.append_nil]
 ·have h1:∀ c,ofF m c=true→ofF n c=false:=fun c hc=>by
   have:=eqN_iff.1 hc
   exact eqN_no.2 fun e2=>e (this.symm.trans e2)
  have e1:∀ c,(ofF m c&&ofF n c)=false:=fun c=>by
   cases hc:ofF m c
   ·rfl
   ·rw [h1 c hc];rfl
  have e2:∀ c,(ofF m c&&!ofF n c)=ofF m c:=fun c=>by
   cases hc:ofF m c
   ·rfl
   ·rw [h1 c hc];rfl
  simp only [e1,e2,zcw,List.nil_append]
structure Turn (F:Nat→Prop) (w w':World):Prop where
 os:w'.os=w.os
 tape:w'.tape=w.tape
 output:w'.output=w.output
 size:w.heap.size≤w'.heap.size
 block:∀ b,b<w.heap.size→¬ F b→w'.heap[b]? = w.heap[b]?
theorem Turn.refl (F:Nat→Prop) (w:World):Turn F w w:=⟨rfl,rfl,rfl,Nat.le_refl _,fun _ _ _=>rfl⟩
theorem Turn.set {F:Nat→Prop} {w w':World} (h:Turn F w w') {p:Addr} (hp:F p.block∨w.heap.size≤p.block) (u:Value):Turn F w (w'.setCell p u):=
 ⟨h.os,h.tape,h.output,by have:=h.size;simpa [World.setCell] using this,fun k hk hn=>by
  rw [Below.heap_setCell w' p u k (fun e=>by
   subst e
   rcases hp with hp | hp
   ·exact hn hp
   ·omega)]
  exact h.block k hk hn⟩
theorem Turn.mono {F G:Nat→Prop} {w w':World} (h:Turn F w w') (hf:∀ x,F x→G x):Turn G w w':=⟨h.os,h.tape,h.output,h.size,fun b hb hn=>h.block b hb fun g=>hn (hf b g)⟩
theorem Turn.trans {F G:Nat→Prop} {w w' w'':World} (h:Turn F w w') (k:Turn G w' w'') (hg:∀ x,x<w.heap.size→G x→F x):Turn F w w'' :=
 ⟨k.os.trans h.os,k.tape.trans h.tape,k.output.trans h.output,Nat.le_trans h.size k.size,fun b hb hn=>(k.block b (Nat.lt_of_lt_of_le hb h.size) (fun g=>hn (hg b hb g))).trans (h.block b hb hn)⟩
theorem Turn.alloc {F:Nat→Prop} {w w':World} (h:Turn F w w') (o:Obj):Turn F w (w'.alloc o):=
 ⟨h.os,h.tape,h.output,by have:=h.size;simp;omega,fun b hb hn=>by rw [Below.heap_alloc _ _ _ (Nat.lt_of_lt_of_le hb h.size)];exact h.block b hb hn⟩
theorem Turn.below {F:Nat→Prop} {w w':World} (h:Below w.heap.size w w'):Turn F w w':=⟨h.os,h.tape,h.output,h.size,fun b hb _=>h.block b hb⟩
theorem Turn.grown {F:Nat→Prop} {w w':World} {row:Option Nat} (h:w.grownBy w' row) (hr:∀ x,row=some x→F x∨w.heap.size≤x):Turn F w w' :=
 ⟨h.os,h.tape,h.output,h.size,fun b hb hn=>h.block b hb fun e=>by
  rcases hr b e.symm with g | g
  ·exact hn g
  ·omega⟩
theorem Turn.same {F S:Nat→Prop} {w w':World} (h:Turn F w w') (hs:∀ x,S x→¬ F x):Same S w w':=⟨h.size,fun b hb hl=>h.block b hl (hs b hb)⟩
theorem Turn.keep {F:Nat→Prop} {w w':World} (h:Turn F w w') {b:Nat} {o:Obj} (hb:w.heap[b]? = some o) (hn:¬ F b):w'.heap[b]? = some o:=
 (h.block b (Array.getElem?_eq_some_iff.1 hb).1 hn).trans hb
theorem BRd.nil (w:World) (S:Nat→Prop):BRd w S (.slice none 0 0) []:= .emp (fun _=>rfl) (by simp [maxLen])
theorem BRd.shape {w:World} {S:Nat→Prop} {v:Value} {bs:List Int} (h:BRd w S v bs):∃ a c,v = .slice a bs.length c∧Sl w S [.int .u8] a bs.length c (ints bs):=by
 obtain ⟨a,c,e,h⟩:=h.sl'
 rw [zan] at e h
 exact ⟨a,c,e,h⟩
theorem zlO {a b:ByteArray} (h:kS a=kS b):a=b:=by
 simp only [kS,Lit.string.injEq] at h
 cases a;cases b
 simp only [ByteArray.mk.injEq]
 exact Array.toList_inj.1 h
theorem zkJ {a b:ByteArray} (h:a≠b):kS a≠kS b:=fun e=>h (zlO e)
theorem zh2 (s:ByteArray):WideAt.IsKeyLit (kS s):=by simp [kS,WideAt.IsKeyLit]
theorem undF:Try.prog.underlying TFi=some (.map TSt TBy):=by kernel_rfl
theorem keyS:Maps.Keyed Try.prog TSt:=Maps.string_keyed undS
theorem ziP {s:ByteArray} (h:NmOk s):keyOf Try.prog TSt (.string s)=some (kS s):=by
 have h:s.size≤maxLen:=by have h:s.size≤140737488355328:=h;unfold maxLen;omega
 simp [keyOf,undS,mapKey,h,kS]
theorem zjK {key:Value} {kl:Lit} (h:keyOf Try.prog TSt key=some kl):∃ s,key = .string s∧kl=kS s:=by
 simp only [keyOf,undS,mapKey] at h
 cases key<;>simp at h
 exact ⟨_,rfl,h.2.symm⟩
theorem zl1 (w:World):(zeroValue TBy).run Try.prog w = .ok (.slice none 0 0) w:=by kernel_rfl
theorem zeI {P:Program} {w:World} {k:TypeId} {R:Value→Option (DataW Value×List MemPlace)} {b n:Nat} {D:DataW Value} (h:w.ownsMap P k R b n D):w.ownsMap P k R b (Maps.size D) D:=by
 obtain ⟨es,clock,hb,F,hs,rfl⟩:=h
 refine ⟨es,clock,hb,F,?_,rfl⟩
 simp [Maps.size,length_sorted]
theorem FilesAt.made (w:World) (S:Nat→Prop):FilesAt (w.alloc (.map #[] 0)) S w.heap.size []:=
 ⟨.map [],World.ownsMap_made w Try.prog TSt RV,rfl,fun n=>⟨rfl,fun bs h=>by cases h⟩⟩
theorem FilesAt.look {w:World} {S:Nat→Prop} {mb:Nat} {M:List File} (h:FilesAt w S mb M) {n:ByteArray} (hn:NmOk n) :
  ∃ v,(Instr.lookup TFi (.map (some mb)) (.string n) true).run Try.prog w = .ok (.tuple #[v,.bool (zab M n).isSome]) w∧(Instr.lookup TFi (.map (some mb)) (.string n) false).run Try.prog w = .ok v w∧BRd w S v ((zab M n).getD []):=by
 obtain ⟨D,ho,hsz,hk⟩:=h.D
 obtain ⟨v,ps,r1,r2⟩:=ho.look_ok keyS undF (zl1 w) (zd:= .held (.slice none 0 0)) (zp:=[]) rfl (ziP hn)
 obtain ⟨v2,ps2,r3,r4⟩:=ho.lookup keyS undF (zl1 w) (zd:= .held (.slice none 0 0)) (zp:=[]) rfl (ziP hn)
 have e1:D.atKey (kS n) (.held (.slice none 0 0)) = .held v:=by
  unfold RV at r2
  simp only [Option.some.injEq,Prod.mk.injEq] at r2
  exact r2.1.symm
 have e2:v2=v:=by
  rw [e1] at r4
  unfold RV at r4
  simp only [Option.some.injEq,Prod.mk.injEq,DataW.held.injEq] at r4
  exact r4.1
 subst e2
 rw [(hk n).1] at r1
 refine ⟨v2,r1,r3,?_⟩
 cases e:zab M n with
 | none=>
  have e3:=Maps.atKey_of_not_has (D:=D) (k:=kS n) (by rw [(hk n).1,e];rfl) (.held (.slice none 0 0))
  rw [e1] at e3
  simp only [DataW.held.injEq] at e3
  rw [e3]
  exact BRd.nil _ _
 | some bs=>
  obtain ⟨u,g1,g2⟩:=(hk n).2 bs e
  have e3:=g1 (.held (.slice none 0 0))
  rw [e1] at e3
  simp only [DataW.held.injEq] at e3
  rw [e3]
  exact g2
theorem FilesAt.put {w:World} {S:Nat→Prop} {mb:Nat} {M:List File} (h:FilesAt w S mb M) (hM:SortF M) (hl:M.length≤100000) {n:ByteArray} (hn:NmOk n) {v:Value} {bs:List Int} (hv:BRd w S v bs) (hmb:¬ S mb) :
  ∃ w',(Instr.mapUpdate TFi (.map (some mb)) (.string n) v).run Try.prog w = .ok () w'∧FilesAt w' S mb (zax ⟨n,bs⟩ M)∧w.grownBy w' (some mb):=by
 obtain ⟨D,ho,hsz,hk⟩:=h.D
 have hD:=ho.tidy keyS
 obtain ⟨w',r1,r2,r3⟩:=ho.update keyS undF (by unfold maxLen;omega) (ziP hn) (show RV v=some (.held v,[]) from rfl)
 have hs:Same S w w':=Same.of_grown r3 fun b hb e=>by
  have:=Option.some.inj e
  exact hmb (this▸hb)
 have hsz2:Maps.size (D.put (kS n) (.held v))=(zax ⟨n,bs⟩ M).length:=by
  rw [Maps.size_put hD,(hk n).1,hM.put_len,hsz]
 refine ⟨w',r1,⟨D.put (kS n) (.held v),by rw [← hsz2];exact zeI r2,hsz2,fun m=>?_⟩,r3⟩
 rw [zbk]
 by_cases e:n=m
 ·subst e
  rw [zat,Maps.has_put_same hD.isMap (zh2 _)]
  refine ⟨rfl,fun bs' hb=>⟨v,fun z=>Maps.atKey_put_same hD.isMap (zh2 _) _ _,?_⟩⟩
  have:bs=bs':=Option.some.inj hb
  subst this
  exact hv.same hs
 ·have e2:eqN n m=false:=eqN_no.2 e
  have e3:=zkJ (Ne.symm e)
  simp only [e2,Bool.false_eq_true,if_false]
  rw [Maps.has_put_other e3]
  refine ⟨(hk m).1,fun bs' hb=>?_⟩
  obtain ⟨u,g1,g2⟩:=(hk m).2 bs' hb
  exact ⟨u,fun z=>by rw [Maps.atKey_put_other e3];exact g1 z,g2.same hs⟩
theorem FilesAt.drop {w:World} {S:Nat→Prop} {mb:Nat} {M:List File} (h:FilesAt w S mb M) (hM:SortF M) {n:ByteArray} (hn:NmOk n) (hmb:¬ S mb) (ty:TypeId) :
  ∃ w',(Builtin.delete_ #[TFi,TSt] ty #[.map (some mb),.string n]).run Try.prog w = .ok (.tuple #[]) w'∧FilesAt w' S mb (zbC M n)∧w.grownBy w' (some mb):=by
 obtain ⟨D,ho,hsz,hk⟩:=h.D
 have hD:=ho.tidy keyS
 obtain ⟨w',r1,r2,r3⟩:=ho.drop keyS undF (ziP hn) ty
 have r3:=r3.grown
 have hs:Same S w w':=Same.of_grown r3 fun b hb e=>by
  have:=Option.some.inj e
  exact hmb (this▸hb)
 have hsz2:Maps.size (D.del (kS n))=(zbC M n).length:=by
  have:=Maps.size_del (k:=kS n) hD
  rw [(hk n).1,hsz] at this
  rw [hM.drop_len]
  split
  ·rename_i e
   rw [e] at this
   simp only [if_true] at this
   omega
  ·rename_i e
   rw [Bool.not_eq_true] at e
   rw [e] at this
   simpa using this
 refine ⟨w',r1,⟨D.del (kS n),by rw [← hsz2];exact zeI r2,hsz2,fun m=>?_⟩,r3⟩
 rw [zdE]
 by_cases e:n=m
 ·subst e
  rw [zat,Maps.has_del_same]
  exact ⟨rfl,fun bs' hb=>by cases hb⟩
 ·have e2:eqN n m=false:=eqN_no.2 e
  have e3:=zkJ (Ne.symm e)
  simp only [e2,Bool.false_eq_true,if_false]
  rw [Maps.has_del_other e3]
  refine ⟨(hk m).1,fun bs' hb=>?_⟩
  obtain ⟨u,g1,g2⟩:=(hk m).2 bs' hb
  exact ⟨u,fun z=>by rw [Maps.atKey_del_other e3];exact g1 z,g2.same hs⟩
abbrev TU:TypeId:=5
theorem undB:Try.prog.underlying TBy=some (.slice TU):=by kernel_rfl
theorem zlQ:(Try.prog.info? TU).map (fun i=>(i.zero,i.size,i.bytes))=some (some (.int .u8 0),1,1):=by kernel_rfl
theorem zcJ:∃ i,Try.prog.info? TU=some i∧i.zero=some (.int .u8 0)∧i.size=1∧i.bytes=1:=by
 have h:=zlQ
 cases e:Try.prog.info? TU with
 | none=>rw [e] at h;cases h
 | some i=>
  rw [e] at h
  simp only [Option.map_some,Option.some.injEq,Prod.mk.injEq] at h
  exact ⟨i,rfl,h.1,h.2.1,h.2.2⟩
def u8s (bs:List Int):List Value:=bs.map (Value.int .u8)
theorem za2 (bs:List Int):(u8s bs).length=bs.length:=by simp [u8s]
theorem zfh (bs:List Int):∀ v∈u8s bs,v.oneCell'=true:=by
 intro v hv;obtain ⟨x,_,rfl⟩:=List.mem_map.1 hv;rfl
abbrev By (bs:List Int):Prop:=∀ x∈bs,0≤x∧x≤255
theorem BRd.row {w:World} {S:Nat→Prop} {a:Option Addr} {n c:Nat} {bs:List Int} (h:BRd w S (.slice a n c) bs) (hp:0<n) :
  ∃ b off,a=some ⟨b,off,none⟩∧S b∧b<w.heap.size∧n≤c∧c≤maxLen∧bs.length=n∧(∀ i,i<n→w.cell? ⟨b,off+i,none⟩=some (.int .u8 (bs.getD i 0))∧w.frozen? ⟨b,off+i,none⟩=false∧0≤bs.getD i 0∧bs.getD i 0≤255):=by
 have hl:bs.length=n:=by have:=Sl.len h;rwa [zan] at this
 obtain ⟨rows,hr⟩:∃ rows,ints bs=rows:=⟨_,rfl⟩
 have h:Rd w S (.sl [.int .u8]) (.slice a n c) (.sl rows):=hr▸h
 cases h with
 | emp _ _=>omega
 | row vals h1 h2 h3 h4 h5 h6 h7 h8 h9 h10 h11=>
  refine ⟨_,_,rfl,h6,h7,h3,h4,hl,fun i hi=>?_⟩
  have e1:(rows.getD i []).getD 0 default = .int (bs.getD i 0):=by rw [← hr];simp [ints,List.getD,show i<bs.length by omega]
  have g:=h10 i 0 hi (by decide)
  rw [e1] at g
  obtain ⟨e2,e3⟩:=Rd.u8 g
  have c1:=h8 i 0 hi (by decide)
  have f1:=h11 i 0 hi (by decide)
  simp only [List.length_cons,List.length_nil,Nat.zero_add,Nat.mul_one,Nat.add_zero] at c1 f1
  exact ⟨by rw [c1,e2],f1,e3⟩
theorem BRd.by {w:World} {S:Nat→Prop} {v:Value} {bs:List Int} (h:BRd w S v bs):By bs:=by
 intro x hx
 obtain ⟨a,c,rfl,h⟩:=h.shape
 obtain ⟨i,hi,rfl⟩:=List.mem_iff_getElem.1 hx
 obtain ⟨b,off,_,_,_,_,_,_,hc⟩:=BRd.row h (by omega)
 have:=(hc i hi).2.2
 simpa [List.getD,hi] using this
theorem BRd.of_row {w:World} {S:Nat→Prop} {b off n c:Nat} {bs:List Int} (hn:n=bs.length) (hc:n≤c) (hm:c≤maxLen) (hl:n≤140737488355328) (hS:S b) (hb:b<w.heap.size) (hB:By bs)
  (h:∀ i,i<n→w.cell? ⟨b,off+i,none⟩=some (.int .u8 (bs.getD i 0))∧w.frozen? ⟨b,off+i,none⟩=false):BRd w S (.slice (some ⟨b,off,none⟩) n c) bs:=by
 by_cases hp:0<n
 ·refine Rd.row (fun i _=>Value.int .u8 (bs.getD i 0)) hp (by rw [zan];exact hn) hc hm hl hS hb (fun i j hi hj=>?_) (fun i hi=>?_) (fun i j hi hj=>?_) (fun i j hi hj=>?_)
  ·have:j=0:=by simp at hj;omega
   subst this
   simp only [List.length_cons,List.length_nil,Nat.zero_add,Nat.mul_one,Nat.add_zero]
   exact (h i hi).1
  ·simp [ints,List.getD,show i<bs.length by omega]
  ·have:j=0:=by simp at hj;omega
   subst this
   have e1:((ints bs).getD i []).getD 0 default = .int (bs.getD i 0):=by simp [ints,List.getD,show i<bs.length by omega]
   rw [e1]
   have hi2:i<bs.length:=by omega
   have e2:bs.getD i 0=bs[i]:=by simp [List.getD,hi2]
   exact Rd.ofU8 (by rw [e2];exact hB _ (List.getElem_mem hi2))
  ·have:j=0:=by simp at hj;omega
   subst this
   simp only [List.length_cons,List.length_nil,Nat.zero_add,Nat.mul_one,Nat.add_zero]
   exact (h i hi).2
 ·have e:bs=[]:=List.eq_nil_of_length_eq_zero (by omega)
  have e2:n=0:=by omega
  subst e2;subst e
  exact Rd.emp (fun e=>by cases e) hm
theorem BRd.of_blk {w:World} {S:Nat→Prop} {g n c:Nat} {vs:List Value} {bs:List Int} (h:w.heap[g]? = some (.cells vs.toArray TU (0,0))) (hn:n=bs.length) (hc:n≤c) (hm:c≤maxLen) (hl:n≤140737488355328) (hS:S g) (hB:By bs)
  (hv:∀ i,i<n→vs[i]? = some (.int .u8 (bs.getD i 0))):BRd w S (.slice (some ⟨g,0,none⟩) n c) bs:=
 BRd.of_row hn hc hm hl hS (Array.getElem?_eq_some_iff.1 h).1 hB fun i hi=>by
  rw [Nat.zero_add]
  exact ⟨by simp [World.cell?,h,hv i hi],by simp [World.frozen?,h]⟩
theorem zfE {w:World} {b off n:Nat} {bs:List Int} (hl:bs.length=n) (h:∀ i,i<n→w.cell? ⟨b,off+i,none⟩=some (.int .u8 (bs.getD i 0))) :
  ∀ j v,(u8s bs)[j]? = some v→w.cell? ((⟨b,off,none⟩:Addr).add j)=some v:=by
 intro j v hj
 unfold u8s at hj
 rw [List.getElem?_map] at hj
 by_cases h2:j<bs.length
 ·rw [List.getElem?_eq_getElem h2] at hj
  simp only [Option.map_some,Option.some.injEq] at hj
  rw [WideShapes.add_plain,h j (by omega),← hj]
  simp [h2,List.getD]
 ·rw [List.getElem?_eq_none (by omega)] at hj;simp at hj
theorem zdl {w:World} {base:Nat} {e:TypeId} {g n:Nat} {l:List Value} (h:w.ownsRow base e 1 (.slice (some ⟨g,0,none⟩) n n) n l):w.heap[g]? = some (.cells l.toArray e (0,0)):=by
 obtain ⟨h1,h2 | ⟨g',cap,cur,hv,hb,hh,hl,hm,hs,ht⟩⟩:=h
 ·simp at h2
 ·simp only [Value.slice.injEq,Option.some.injEq,Addr.mk.injEq,and_true] at hv
  obtain ⟨rfl,_,rfl⟩:=hv
  rw [hh,← ht,List.take_of_length_le (by simp [hs])]
theorem zhs (n:Nat):(madeCells (Value.int .u8 0).cells (n*1)).toList=List.replicate n (Value.int .u8 0):=by
 rw [Nat.mul_one];exact toList_madeCells_one (Value.int .u8 0) n
def NewB (w:World) (bs:List Int) (e:Ending) (w':World):Prop:=∃ v,e = .returned v∧Below w.heap.size w w'∧BRd w' (fun x=>w.heap.size≤x) v bs
theorem zc4 {α:Type} {cur cs:List α} {off i:Nat} (h:off+cs.length≤cur.length):(Go.splice cur off cs)[i]? = if i<off then cur[i]? else if i<off+cs.length then cs[i-off]? else cur[i]? := by
 unfold Go.splice
 by_cases h1:i<off
 ·rw [List.getElem?_append_left (by rw [List.length_take];omega),List.getElem?_take_of_lt h1,if_pos h1]
 ·rw [List.getElem?_append_right (by rw [List.length_take];omega),List.length_take,Nat.min_eq_left (by omega),if_neg h1]
  by_cases h2:i<off+cs.length
  ·rw [List.getElem?_append_left (by omega),if_pos h2]
  ·rw [List.getElem?_append_right (by omega),if_neg h2,List.getElem?_drop]
   congr 1
   omega
theorem zc3 {α:Type} {cur cs:List α} {off:Nat} (h:off+cs.length≤cur.length):(Go.splice cur off cs).length=cur.length:=by
 unfold Go.splice
 simp only [List.length_append,List.length_take,List.length_drop]
 omega
theorem zde {bs:List Int} {i:Nat} (h:i<bs.length):(u8s bs)[i]? = some (.int .u8 (bs.getD i 0)):=by
 unfold u8s
 simp [h,List.getD]
theorem zh0 {old b:List Int} {n i:Nat} (h:i<(za6 old n b).length):(za6 old n b).getD i 0=if n≤i∧i<n+b.length then b.getD (i-n) 0 else old.getD i 0:=by
 rw [za9] at h
 unfold za6
 simp only [List.getD_eq_getElem?_getD]
 rw [List.append_assoc]
 by_cases h1:i<n
 ·rw [List.getElem?_append_left (by simpa using h1),if_neg (by omega)]
  simp [h1]
 ·rw [List.getElem?_append_right (by simp;omega)]
  simp only [List.length_map,List.length_range]
  by_cases h2:i<n+b.length
  ·rw [List.getElem?_append_left (by omega),if_pos (by omega)]
  ·rw [List.getElem?_append_right (by omega),if_neg (by omega),List.getElem?_drop]
   congr 2
   omega
theorem zkH {old b:List Int} {n:Nat} (h1:By old) (h2:By b):By (za6 old n b):=by
 intro x hx
 unfold za6 at hx
 rcases List.mem_append.1 hx with hx | hx
 ·rcases List.mem_append.1 hx with hx | hx
  ·obtain ⟨i,_,rfl⟩:=List.mem_map.1 hx
   by_cases hi:i<old.length
   ·have e:old.getD i 0=old[i]:=by simp [List.getD,hi]
    rw [e];exact h1 _ (List.getElem_mem hi)
   ·rw [List.getD_eq_getElem?_getD,List.getElem?_eq_none (by omega)]
    simp
  ·exact h2 x hx
 ·exact h1 x (List.mem_of_mem_drop hx)
set_option maxRecDepth 100000 in
theorem zhy {w:World} {S:Nat→Prop} {a1 a2:Option Addr} {lo c1 lb c2 k n:Nat} {old bs:List Int} (hO:BRd w S (.slice a1 lo c1) old) (hBB:BRd w S (.slice a2 lb c2) bs) (hlo:old.length=lo) (hlb:bs.length=lb) (hmx:max (lo:Int) ((k:Int)+(lb:Int))=(n:Int)) (hN:lo≤n∧k+lb≤n∧n≤200000000) :
  Calls Try.prog 50 #[.slice a1 lo c1,.int .i64 k,.slice a2 lb c2] w (NewB w (za6 old k bs)):=by
 obtain ⟨i0,hi,hz0,hz1,hz2⟩:=zcJ
 have hi1:(Try.prog.info? TU).map (·.size)=some 1:=by rw [hi];simp [hz1]
 have hB:=Lib.hid (zkH (n:=k) hO.by hBB.by)
 have HO:=Lib.hid hO
 have HB:=Lib.hid hBB
 have hnn:(0:Int)≤k∧(k:Int)≤n:=by omega
 have hkn:k≤n:=by omega
 have hlo2:=hlo
 have hlb2:=hlb
 have hg1:∀ w1:World,w1.ownsRow w.heap.size TU 1 (.slice (some ⟨w.heap.size,0,none⟩) n n) n (madeCells (Value.int IntKind.u8 0).cells (n*1)).toList→w1.heap[w.heap.size]? = some (.cells (List.replicate n (.int .u8 0)).toArray TU (0,0)):=fun w1 hown=>by
  rw [← zhs];exact zdl hown
 have hn1:(u8s old).length=Nat.min lo n:=by rw [za2,hlo];show lo=min lo n;omega
 have hp1:∀ w1:World,w.grownBy w1 none→0<(u8s old).length→some (⟨w.heap.size,0,none⟩:Addr)=some ⟨w.heap.size,0,none⟩∧∃ ad,a1=some ad∧∀ j v,(u8s old)[j]? = some v→w1.cell? (ad.add j)=some v:=fun w1 hgrow hp=>by
  rw [za2,hlo] at hp
  obtain ⟨b,off,rfl,hS,hlt,_,_,hl,hc⟩:=BRd.row hO hp
  exact ⟨rfl,_,rfl,zfE hl fun i hi=>hgrow.cell ((hc i hi).1) (by simp)⟩
 have hf1:0+(u8s old).length≤(List.replicate n (Value.int .u8 0)).length:=by rw [za2,hlo,List.length_replicate];omega
 have hb1:∀ w1:World,w.grownBy w1 none→Below w.heap.size w w1:=fun w1 hgrow=>(Below.refl _ _).grown hgrow (Nat.le_refl _) (fun k h=>by cases h)
 have hn2:(u8s bs).length=Nat.min lb (n-k):=by rw [za2,hlb];show lb=min lb (n-k);omega
 have hp2:∀ w2:World,Below w.heap.size w w2→0<(u8s bs).length→(if n=k then some (⟨w.heap.size,0,none⟩:Addr) else some ⟨w.heap.size,k,none⟩)=some ⟨w.heap.size,k,none⟩∧∃ ad,a2=some ad∧∀ j v,(u8s bs)[j]? = some v→w2.cell? (ad.add j)=some v:=fun w2 hbel hp=>by
  rw [za2,hlb] at hp
  obtain ⟨b,off,rfl,hS,hlt,_,_,hl,hc⟩:=BRd.row hBB hp
  refine ⟨if_neg (by omega),_,rfl,zfE hl fun i hi=>?_⟩
  rw [World.cell?_of_block (hbel.block b hlt)]
  exact (hc i hi).1
 have hf2:k+(u8s bs).length≤(Go.splice (List.replicate n (Value.int .u8 0)) 0 (u8s old)).length:=by
  rw [za2,hlb,zc3 hf1,List.length_replicate];omega
 have hfin:∀ w3:World,Hid (w3.heap[w.heap.size]? = some (.cells (Go.splice (Go.splice (List.replicate n (Value.int .u8 0)) 0 (u8s old)) k (u8s bs)).toArray TU (0,0)))→Below w.heap.size w w3→NewB w (za6 old k bs) (.returned (.slice (some ⟨w.heap.size,0,none⟩) n n)) w3:=fun w3 hrow3 hbel3=>by
  have hL:(za6 old k bs).length=n:=by rw [za9,hlo,hlb];omega
  refine ⟨_,rfl,hbel3,BRd.of_blk hrow3.out hL.symm (Nat.le_refl _) (by unfold maxLen;omega) (by omega) (Nat.le_refl _) hB.out fun i hi=>?_⟩
  have h0:(Go.splice (List.replicate n (Value.int .u8 0)) 0 (u8s old)).length=n:=by rw [zc3 (by rw [za2,hlo,List.length_replicate];omega),List.length_replicate]
  rw [zh0 (by rw [hL];exact hi),zc4 (by rw [za2,hlb,h0];omega),za2,hlb]
  by_cases h1:i<k
  ·rw [if_pos h1,if_neg (by omega),zc4 (by rw [za2,hlo,List.length_replicate];omega),if_neg (by omega),za2,hlo]
   by_cases h2:i<0+lo
   ·rw [if_pos h2,Nat.sub_zero,zde (by omega)]
   ·rw [if_neg h2,List.getElem?_replicate,if_pos hi,List.getD_eq_getElem?_getD,List.getElem?_eq_none (by omega)]
    rfl
  ·rw [if_neg h1]
   by_cases h2:i<k+lb
   ·rw [if_pos h2,if_pos ⟨by omega,h2⟩,zde (by omega)]
   ·rw [if_neg h2,if_neg (by omega),zc4 (by rw [za2,hlo,List.length_replicate];omega),if_neg (by omega),za2,hlo]
    have h3:i<0+lo:=by omega
    rw [if_pos h3,Nat.sub_zero,zde (by omega)]
 have HFi:=Lib.hid hfin
 clear hfin
 have HG1:=Lib.hid hg1
 have HN1:=Lib.hid hn1
 have HP1:=Lib.hid hp1
 have HF1:=Lib.hid hf1
 have HB1:=Lib.hid hb1
 have HN2:=Lib.hid hn2
 have HP2:=Lib.hid hp2
 have HF2:=Lib.hid hf2
 have HN:=Lib.hid hN
 clear hO hBB hN hg1 hn1 hp1 hf1 hb1 hn2 hp2 hf2
 have hn2:n≤200000000:=HN.out.2.2
 go_enter Try.func50,Try.ntmps50
 go_wp2_with (first | (at_make;refine wpList_make_full _ rfl (.tmp 14) (.tmp 14) 30 rfl w.heap.size TU i0 (.int .u8 0) 1 undB hi hz0 hz1 .i64 .i64 (n:Int) (n:Int) n rfl rfl (by omega) (by omega) (by rw [hz2];omega) (by unfold maxLen;omega) (Nat.le_refl _) ?_;intro w1 hown hgrow) | (refine wpList_copy_splice rfl (.tmp 16) (.tmp 17) 30 30 rfl TU undB hi1 (some ⟨w.heap.size,0,none⟩) a1 n n lo c1 rfl rfl w.heap.size 0 (List.replicate n (.int .u8 0)) TU (HG1.out _ hown) (u8s old) HN1.out (HP1.out _ hgrow) HF1.out (zfh old) w.heap.size w (HB1.out _ hgrow) (Nat.le_refl _) ?_;intro w2 hrow hbel) | (refine wpList_copy_splice rfl (.tmp 21) (.tmp 22) 30 30 rfl TU undB hi1 (if n=k then some ⟨w.heap.size,0,none⟩ else some ⟨w.heap.size,k,none⟩) a2 (n-k) (n-k) lb c2 rfl rfl w.heap.size k (Go.splice (List.replicate n (.int .u8 0)) 0 (u8s old)) TU hrow.out (u8s bs) HN2.out (HP2.out _ hbel) HF2.out (zfh bs) w.heap.size w hbel (Nat.le_refl _) ?_;intro w3 hrow3 hbel3))
 all_goals (go_ret;first | exact HFi.out _ hrow3 hbel3 | (subst h;exact HFi.out _ hrow3 hbel3))
theorem zfU {w:World} {S:Nat→Prop} {ov bv:Value} {old bs:List Int} {at_:Int} (ho:BRd w S ov old) (hb:BRd w S bv bs) (h0:0≤at_) (h1:at_≤100000000) (h2:bs.length≤100000000) (h3:old.length≤100000000) :
  Calls Try.prog 50 #[ov,.int .i64 at_,bv] w (NewB w (za6 old at_.toNat bs)):=by
 obtain ⟨k,rfl⟩:∃ k:Nat,at_=k:=⟨at_.toNat,by omega⟩
 obtain ⟨a1,c1,rfl,_⟩:=ho.shape
 obtain ⟨a2,c2,rfl,_⟩:=hb.shape
 have hk:((k:Int).toNat)=k:=by omega
 rw [hk]
 exact zhy (n:=max old.length (k+bs.length)) ho hb rfl rfl (by omega) (by omega)
def orU (a b:Option Upd):Option Upd:=match a with
 | some u=>some u
 | none=>b
theorem zcl {a b:Option Upd} {u:Upd} (h:orU a b=some u):a=some u∨b=some u:=by
 cases a with
 | none=>exact .inr h
 | some x=>exact .inl h
def zgz (P:Program) (c:Nat) (st:St) (ty:TypeId):Op→Option Upd
 | .store T x y=>cPut P st T x y
 | .binOp op T x y _=>orU (cEqP P st op T x y) (orU (cEqN P st op T x y) (orU (cEqA P st op T x y) (zj4 st op x y)))
 | .index T x i=>zjx P st T x i
 | .convert s d x=>orU (cB2S P st s d x) (cS2B P st c s d x)
 | .call ⟨.builtin .min,⟨[x,y]⟩,_⟩=>cMin st x y
 | .call ⟨.builtin .max,⟨[x,y]⟩,_⟩=>cMax st x y
 | .call ⟨.builtin .append,⟨[x,y]⟩,⟨[T,T2]⟩⟩=>if T=T2 then cApp P st c T x y else zj6 P st c T T2 x y
 | .call ⟨.builtin .copy,⟨[x,y]⟩,⟨[T,_]⟩⟩=>zj1 P st T x y
 | .buildSlice T len ps=>orU (cLit P st c T len ps) (zjv P st c T len ps)
 | .slice T x lo hi none=>zjz P st c T x lo hi
 | .makeSlice T x y=>zjr P st c T x y
 | .makeFunc (.func f) ⟨[]⟩ xs=>some (zlf st f xs.toList)
 | _=>none
theorem ziG (P:Program):zbW P (zgz P):=by
 intro c st o u base X w0 h
 have key:∀ op,o.op=op→zgz P c st o.type op=some u→Does P base X w0 st o u:=by
  intro op ho h
  unfold zgz at h
  split at h
  ·exact zld o _ _ _ ho h
  ·rcases zcl h with h | h
   ·exact zll o _ _ _ _ _ ho h
   ·rcases zcl h with h | h
    ·exact zlm o _ _ _ _ _ ho h
    ·rcases zcl h with h | h
     ·exact zln o _ _ _ _ _ ho h
     ·exact zj3 o _ _ _ _ _ ho h
  ·exact zjw o _ _ _ ho h
  ·rcases zcl h with h | h
   ·exact zlr o _ _ _ ho h
   ·exact zlc o c _ _ _ ho h
  ·exact zlg o _ _ _ ho h
  ·exact zlh o _ _ _ ho h
  ·split at h
   ·rename_i hT;subst hT;exact zls o c _ _ _ ho h
   ·exact zj5 o c _ _ _ _ ho h
  ·exact zj0 o _ _ _ _ ho h
  ·rcases zcl h with h | h
   ·exact zli o c _ _ _ ho h
   ·exact zju o c _ _ _ ho h
  ·exact zjy o c _ _ _ _ ho h
  ·exact zjq o c _ _ _ ho h
  ·simp only [Option.some.injEq] at h;subst h;exact zjp o _ _ ho
  ·simp at h
 exact key _ rfl h
theorem zjb {a b:St} {e:TypeId} {s:SV} (h:∀ t,t∈zae s→a.m t=b.m t):zdx a e s=zdx b e s:=by
 cases s
 case own t=>simp only [zdx,h t (by simp [zae])]
 all_goals rfl
theorem zfF {a b:St} {r:RL} {s:SV} (h:∀ t,t∈zae s→a.m t=b.m t):zbx a r s=zbx b r s:=by
 cases s
 case own t=>simp only [zbx,h t (by simp [zae])]
 all_goals rfl
theorem zk9 {a b:St} {s:SV} (h:∀ t,t∈zae s→a.m t=b.m t):nilU a s=nilU b s:=by
 cases s
 case own t=>simp only [nilU,h t (by simp [zae])]
 all_goals rfl
theorem zkv {a b:St} {s:SV} (h:∀ t,t∈zae s→a.m t=b.m t):rowU a s=rowU b s:=by
 cases s
 case own t=>simp only [rowU,h t (by simp [zae])]
 case sl ls r=>cases r<;>rfl
 all_goals rfl
theorem zhk {a b:St} {x:Option Operand} (h:∀ y,y∈x.toList→a.ev y=b.ev y):optI a x=optI b x:=by
 cases x with
 | none=>rfl
 | some y=>simp only [optI,h y (by simp)]
theorem zhp (P:Program):zbE (zgz P):=by
 intro c a b ty op h
 unfold zgz
 split
 ·rename_i T x y
  have hx:=h.ev x (by simp [Op.operands])
  have ht:=fun t=>h.tag (x:=x) (by simp [Op.operands]) (t:=t)
  simp only [cPut,h.ev y (by simp [Op.operands])]
  rw [← hx]
  rcases hs:zac (a.ev x) with ⟨s,n⟩
  rw [hs] at ht
  cases s
  case oel t sz i off=>
   have e2:=ht t (by simp [zae])
   rcases zac (b.ev y) with ⟨s2,n2⟩
   cases zaR P T with
   | none=>rfl
   | some k=>simp only [e2]
  all_goals rfl
 ·rename_i op T x y T2
  have hx:=h.ev x (by simp [Op.operands])
  have ht:=fun t=>h.tag (x:=x) (by simp [Op.operands]) (t:=t)
  simp only [cEqP,cEqN,cEqA,zj4,h.ev y (by simp [Op.operands]),← hx]
  rw [zk9 (fun t g=>ht t g)]
 ·rename_i T x i;simp only [zjx,h.ev x (by simp [Op.operands]),h.ev i (by simp [Op.operands])]
 ·rename_i s d x
  have hx:=h.ev x (by simp [Op.operands])
  have ht:=fun t=>h.tag (x:=x) (by simp [Op.operands]) (t:=t)
  simp only [cB2S,cS2B,h.free (zb1 _),← hx]
  rw [zkv (fun t g=>ht t g)]
 ·rename_i x y ts;simp only [cMin,h.ev x (by simp [Op.operands,Call.operands]),h.ev y (by simp [Op.operands,Call.operands])]
 ·rename_i x y ts;simp only [cMax,h.ev x (by simp [Op.operands,Call.operands]),h.ev y (by simp [Op.operands,Call.operands])]
 ·rename_i x y T T2
  have hx:=h.ev x (by simp [Op.operands,Call.operands])
  have hy:=h.ev y (by simp [Op.operands,Call.operands])
  have tx:=fun t=>h.tag (x:=x) (by simp [Op.operands,Call.operands]) (t:=t)
  have ty:=fun t=>h.tag (x:=y) (by simp [Op.operands,Call.operands]) (t:=t)
  simp only [cApp,zj6,h.free (zb1 _)]
  rw [← hx,← hy]
  have hd:∀ e,zdx a e (zac (a.ev x)).1=zdx b e (zac (a.ev x)).1:=fun e=>zjb tx
  have hs:∀ r,zbx a r (zac (a.ev y)).1=zbx b r (zac (a.ev y)).1:=fun r=>zfF ty
  simp only [hd,hs]
 ·rename_i x y T T2
  have hx:=h.ev x (by simp [Op.operands,Call.operands])
  have hy:=h.ev y (by simp [Op.operands,Call.operands])
  have tx:=fun t=>h.tag (x:=x) (by simp [Op.operands,Call.operands]) (t:=t)
  have ty:=fun t=>h.tag (x:=y) (by simp [Op.operands,Call.operands]) (t:=t)
  have hs:∀ r,zbx a r (zac (a.ev y)).1=zbx b r (zac (a.ev y)).1:=fun r=>zfF ty
  simp only [zj1]
  rw [← hx,← hy]
  simp only [hs]
  rcases hs:zac (a.ev x) with ⟨s,n⟩
  rw [hs] at tx
  cases zaO P T with
  | none=>rfl
  | some e=>
   cases s
   case own t=>
    have e2:=tx t (by simp [zae])
    simp only [e2]
   all_goals rfl
 ·rename_i T len ps
  simp only [cLit,zjv,h.free (zb1 _)]
  rw [zb5 ps.toList (fun x hx=>h.ev x (by simpa [Op.operands] using hx))]
 ·rename_i T x lo hi
  have hx:=h.ev x (by simp [Op.operands])
  have tx:=fun t=>h.tag (x:=x) (by simp [Op.operands]) (t:=t)
  simp only [zjz,h.free (zb1 _)]
  rw [zhk (x:=lo) (fun y hy=>h.ev y (by simp only [Op.operands,Array.toList_append,List.mem_append];simp at hy;simp [hy])),zhk (x:=hi) (fun y hy=>h.ev y (by simp only [Op.operands,Array.toList_append,List.mem_append];simp at hy;simp [hy]))]
  rw [← hx]
  rcases hs:zac (a.ev x) with ⟨s,n⟩
  rw [hs] at tx
  cases s
  case own t=>
   have e2:=tx t (by simp [zae])
   simp only [e2]
  all_goals rfl
 ·rename_i T x y
  simp only [zjr,h.ev x (by simp [Op.operands]),h.ev y (by simp [Op.operands]),h.free (zb1 _)]
 ·rename_i f xs
  have e:=zcx (a:=a) (b:=b) xs.toList (fun x hx=>h.ev x (by simp [Op.operands,hx]))
  obtain ⟨xs⟩:=xs
  cases xs with
  | nil=>rfl
  | cons x r=>simp only [zlf,e]
 ·rfl
end Go.Proofs.Ytfccndnnpkiajaa
namespace Go.Proofs.Ytfccndnnpkiajaa
open Go.RowKit Go.ChangeShapes Go.WideShapes Go.Deep
theorem mD2 (t:Nat):mOf D2 t=if t<2 then .dead else .empty:=by
 match t with
 | 0=>rfl
 | 1=>rfl
 | t+2=>rw [zc7];simp [List.getD]
theorem zff {E:Env} {t b:Nat}:¬ Has E (mOf D2) t b:=by
 intro h
 have:=h.1
 rw [mD2] at this
 split at this<;>cases this
def Env.zero (E:Env):Prop:=∀ i b,E.σ i b→i=0
theorem zkb {E:Env} {w:World} (hm:MemOk w.heap.size (cxIn E D2 1) w E (mOf D2) w):E.zero:=by
 intro i b h
 apply Classical.byContradiction
 intro hi
 have h1:=hm.lab i b h
 rcases h1.2 (show (1:Nat)≤i by omega) with h2 | ⟨t,ht⟩
 ·omega
 ·exact zff ht
theorem Env.zero.set {E:Env} (h:E.zero) {ls:List Nat} {b:Nat} (hb:E.set ls b):E.set [0] b:=by
 obtain ⟨i,_,hi⟩:=hb
 have:=h i b hi
 subst this
 exact ⟨0,by simp,hi⟩
theorem FnC.pre {P:Program} {f:FuncId} {ins ins':List SV} {out:SV} {mo:List BE} (h:FnC P f ins out mo) (hd:∀ E w vals,Env.zero E→DenL E w ins' vals→DenL E w ins vals):FnC P f ins' out mo:=
 ⟨h.1,fun w E vals hm hv=>h.2 w E vals hm (hd E w vals (zkb hm) hv)⟩
theorem zhq {E:Env} {w w':World} (hm:MemOk w.heap.size (cxIn E D2 1) w E (mOf D2) w) (hb:Below w.heap.size w w') :
  MemOk w.heap.size (cxIn E D2 1) w ⟨E.β,fun i b=>E.σ i b∨(i=1∧w.heap.size≤b∧b<w'.heap.size),E.φ⟩ (mOf D2) w':=by
 have hl:∀ t,(mOf D2 t).live=false:=by intro t;rw [mD2];split<;>rfl
 have hno:∀ {E:Env} {t b:Nat},¬ Has E (mOf D2) t b:=zff
 refine ⟨fun t ht=>⟨(hm.empty t ht).1,fun b hb'=>?_⟩,fun t T vs ht=>?_,fun t T ls r ht=>?_,fun i b hb'=>?_,fun i j b hi hj=>?_,hm.low,fun t b hh=>absurd hh hno,fun i b hi hb'=>?_,fun t u b h1=>absurd h1 hno,hm.keep,⟨hb.os,hb.tape,hb.output,hb.size,fun b h1 _=>hb.block b h1⟩,hb.size,fun t o ht=>by have:=hl t;rw [ht] at this;cases this⟩
 ·rcases hb' with h | ⟨rfl,_⟩
  ·exact (hm.empty t ht).2 b h
  ·rw [mD2] at ht;simp at ht
 ·have:=hl t;rw [ht] at this;cases this
 ·have:=hl t;rw [ht] at this;cases this
 ·rcases hb' with h | ⟨rfl,h1,h2⟩
  ·exact ⟨Nat.lt_of_lt_of_le (hm.lab i b h).1 hb.size,(hm.lab i b h).2⟩
  ·exact ⟨h2,fun _=> .inl h1⟩
 ·rcases hi with hi | ⟨rfl,h1,h2⟩<;>rcases hj with hj | ⟨rfl,h3,h4⟩
  ·exact hm.dis i j b hi hj
  ·have:=(hm.lab i b hi).1;omega
  ·have:=(hm.lab j b hj).1;omega
  ·rfl
 ·rcases hb' with h | ⟨rfl,_⟩
  ·exact h
  ·simp [cxIn] at hi
theorem FnC.of_below {P:Program} {f:FuncId} {ins:List SV} {out:SV} (hB:FnB P f)
  (h:∀ (w:World) (E:Env) (vals:List Value),DenL E w ins vals→Calls P f vals.toArray w (fun e w'=>∃ v,e = .returned v∧Below w.heap.size w w'∧∀ E':Env,E.Le E'→(∀ b,w.heap.size≤b→b<w'.heap.size→E'.σ 1 b)→DenV E' w' out v)):FnC P f ins out D2:=by
 refine ⟨hB,fun w E vals hm hd=>(h w E vals hd).mono ?_⟩
 rintro e w' ⟨v,rfl,hb,hv⟩
 exact ⟨v,⟨E.β,fun i b=>E.σ i b∨(i=1∧w.heap.size≤b∧b<w'.heap.size),E.φ⟩,rfl,hv _ ⟨fun _ _ x=>x,fun _ _ x=> .inl x⟩ (fun b h1 h2=> .inr ⟨rfl,h1,h2⟩),zhq hm hb⟩
theorem FnC.of_int {P:Program} {f:FuncId} {ins:List SV} {n:Int} (hB:FnB P f) (h:∀ (w:World) (E:Env) (vals:List Value),DenL E w ins vals→I64 n∧Calls P f vals.toArray w (fun e w'=>e = .returned (.int .i64 n)∧Below w.heap.size w w')):FnC P f ins (.int .i64 n) D2:=
 FnC.of_below hB fun w E vals hd=>(h w E vals hd).2.mono (by rintro e w' ⟨rfl,hb⟩;exact ⟨_,rfl,hb,fun _ _ _=>⟨rfl,zcP (h w E vals hd).1⟩⟩)
theorem zk7 {E:Env} {w:World} {s:SV} {vals:List Value} (h:DenL E w [s] vals):∃ v,vals=[v]∧DenV E w s v:=by
 match vals,h with
 | [v],h=>exact ⟨v,rfl,h.1⟩
theorem zkh {E:Env} {w:World} {s t:SV} {vals:List Value} (h:DenL E w [s,t] vals):∃ v u,vals=[v,u]∧DenV E w s v∧DenV E w t u:=by
 match vals,h with
 | [v,u],h=>exact ⟨v,u,rfl,h.1,h.2.1⟩
theorem zen {α:Type} {l:List α} {i:Nat} {d:α} (h:i<l.length):l.getD i d=l[i]:=by simp [List.getD,h]
theorem zem {α:Type} {l:List α} {i:Nat} {d:α} (h:i<l.length):l.getD i d∈l:=by rw [zen h];exact List.getElem_mem _
theorem zbg {α:Type} {l:List α} {i:Nat} {d:α} (h:i<l.length):l.take (i+1)=l.take i++[l.getD i d]:=by rw [zen h,List.take_succ_eq_append_getElem h]
theorem zl2 {n:Int} (h:I64 n):IntKind.i64.wrap n=n:=IntWalk.i64_in _ h
theorem ziv {i:Nat} (h:i≤9223372036854775806):IntKind.i64.wrap ((i:Int)+1)=(i:Int)+1:=zl2 ⟨by omega,by omega⟩
structure Dec (α:Type) where
 dec:SV→Option α
 can:α→SV
 Okp:α→Prop
 okp:∀ x E w v,DenV E w (can x) v→Okp x
 ok:∀ s x,dec s=some x→∀ E w v,Env.zero E→DenV E w s v→DenV E w (can x) v
def dInt:Dec Int where
 dec:=fun s=>match s with | .int .i64 n=>some n | _=>none
 can:=fun n=> .int .i64 n
 Okp:=fun n=>I64 n
 okp:=fun n E w v h=>lit_bd h.2
 ok:=by
  intro s x h E w v _ hd
  split at h
  ·simp only [Option.some.injEq] at h;subst h;exact hd
  ·simp at h
def dStr:Dec ByteArray where
 dec:=fun s=>match s with | .str n=>some n | _=>none
 can:=fun n=> .str n
 Okp:=fun n=>n.size≤140737488355328
 okp:=fun n E w v h=>h.2
 ok:=by
  intro s x h E w v _ hd
  split at h
  ·simp only [Option.some.injEq] at h;subst h;exact hd
  ·simp at h
theorem zdP {E:Env} {w:World} {m:List Nat} {r:RL} {v:Value} (hz:E.zero) (h:DenV E w (.sl m r) v):DenV E w (.sl [0] r) v:=Rd.mono h (fun b _ hb=>hz.set hb)
def dDOps:Dec (List DOp) where
 dec:=fun s=>match s.asDOp with | some (l,_)=>some l | none=>none
 can:=fun l=> .sl [0] (.rDOp l)
 Okp:=fun l=>l.length≤140737488355328∧∀ x,x∈l→x.Ok
 okp:=fun l E w v h=>by
  have h:Rd w (E.set [0]) (.sl DOp.ty) v (.sl (l.map DOp.enc)):=h
  obtain ⟨a,c,rfl,hs⟩:=h.sl'
  exact zdX hs (fun _ _ hr=>DOp.ok_of hr)
 ok:=by
  intro s x h E w v hz hd
  split at h
  ·rename_i l m e;simp only [Option.some.injEq] at h;subst h;exact zdP hz (SV.asDOp_ok e (fun i hi=>hi) hd)
  ·simp at h
def dFile:Dec File where
 dec:=fun s=>match s with | .agg cs=>(match File.of cs with | some (x,_)=>some x | none=>none) | _=>none
 can:=fun x=> .agg (x.svs [0])
 Okp:=fun x=>x.Ok
 okp:=fun x E w v ⟨xs,_,hl⟩=>File.ok_of (File.svs_rd hl)
 ok:=by
  intro s x h E w v hz hd
  split at h
  case h_2=>simp at h
  split at h
  case h_2=>simp at h
  rename_i cs _ y m e
  simp only [Option.some.injEq] at h
  subst h
  obtain ⟨xs,hv,hl⟩:=hd
  exact ⟨xs,hv,File.svs_of (RdL.mono (fun b _ hb=>hz.set hb) (File.svs_rd (File.of_ok e hl)))⟩
def dDOp:Dec DOp where
 dec:=fun s=>match s with | .agg cs=>(match DOp.of cs with | some (x,_)=>some x | none=>none) | _=>none
 can:=fun x=> .agg (x.svs [0])
 Okp:=fun x=>x.Ok
 okp:=fun x E w v ⟨xs,_,hl⟩=>DOp.ok_of (DOp.svs_rd hl)
 ok:=by
  intro s x h E w v hz hd
  split at h
  case h_2=>simp at h
  split at h
  case h_2=>simp at h
  rename_i cs _ y m e
  simp only [Option.some.injEq] at h
  subst h
  obtain ⟨xs,hv,hl⟩:=hd
  exact ⟨xs,hv,DOp.svs_of (RdL.mono (fun b _ hb=>hz.set hb) (DOp.svs_rd (DOp.of_ok e hl)))⟩
section
variable {P : Program} {α β γ δ ε : Type}
abbrev R3:=List Prop×SV×List BE
def isD2:List BE→Bool
 | [.dead,.dead]=>true
 | _=>false
theorem zfs {m:List BE} (h:isD2 m=true):m=D2:=by
 unfold isD2 at h;split at h
 ·rfl
 ·cases h
def go0 (r:R3) (ins:List SV) (mi:List BE):Option R3:=match isD2 mi,ins with
 | true,[]=>some r
 | _,_=>none
theorem FnG.given {f:FuncId} {nl:Nat} {mi mo:List BE} {ins:List SV} {out:SV} {F:Prop} (hB:FnB P f) (hF:∀ E w vals,DenL E w ins vals→F) (h:F→FnG P f nl mi ins out mo):FnG P f nl mi ins out mo:=
 ⟨hB,fun w E vals hm hd=>(h (hF E w vals hd)).2 w E vals hm hd⟩
theorem FnC.g1 {f:FuncId} {mo:List BE} {out:SV} (a:Dec α) (x:α) (hB:FnB P f) (h:a.Okp x→FnC P f [a.can x] out mo):FnC P f [a.can x] out mo:=
 FnG.given hB (fun E w vals hd=>by obtain ⟨v,rfl,h1⟩:=zk7 hd;exact a.okp _ _ _ _ h1) h
theorem FnC.g2 {f:FuncId} {mo:List BE} {out:SV} (a:Dec α) (b:Dec β) (x:α) (y:β) (hB:FnB P f) (h:a.Okp x→b.Okp y→FnC P f [a.can x,b.can y] out mo):FnC P f [a.can x,b.can y] out mo:=
 FnG.given (F:=a.Okp x∧b.Okp y) hB (fun E w vals hd=>by obtain ⟨v,u,rfl,h1,h2⟩:=zkh hd;exact ⟨a.okp _ _ _ _ h1,b.okp _ _ _ _ h2⟩) (fun hh=>h hh.1 hh.2)
theorem FnC.g4 {f:FuncId} {mo:List BE} {out:SV} (a:Dec α) (b:Dec β) (c:Dec γ) (d:Dec δ) (x:α) (y:β) (z:γ) (q:δ) (hB:FnB P f) (h:a.Okp x→b.Okp y→c.Okp z→d.Okp q→FnC P f [a.can x,b.can y,c.can z,d.can q] out mo):FnC P f [a.can x,b.can y,c.can z,d.can q] out mo:=
 FnG.given (F:=a.Okp x∧b.Okp y∧c.Okp z∧d.Okp q) hB (fun E w vals hd=>by
  match vals,hd with
  | [v1,v2,v3,v4],hd=>exact ⟨a.okp _ _ _ _ hd.1,b.okp _ _ _ _ hd.2.1,c.okp _ _ _ _ hd.2.2.1,d.okp _ _ _ _ hd.2.2.2.1⟩) (fun hh=>h hh.1 hh.2.1 hh.2.2.1 hh.2.2.2)
def ent0 (f:FuncId) (r:R3):Ent:=⟨f,false,[],[],1,[],go0 r⟩
def go1 (a:Dec α) (r:α→R3) (ins:List SV) (mi:List BE):Option R3:=match isD2 mi,ins with
 | true,[s]=>match a.dec s with
  | some x=>some (r x)
  | none=>none
 | _,_=>none
def ent1 (f:FuncId) (a:Dec α) (r:α→R3):Ent:=⟨f,false,[0],[],1,[],go1 a r⟩
def go2 (a:Dec α) (b:Dec β) (r:α→β→R3) (ins:List SV) (mi:List BE):Option R3:=match isD2 mi,ins with
 | true,[s,t]=>match a.dec s,b.dec t with
  | some x,some y=>some (r x y)
  | _,_=>none
 | _,_=>none
def ent2 (f:FuncId) (a:Dec α) (b:Dec β) (r:α→β→R3):Ent:=⟨f,false,[0,0],[],1,[],go2 a b r⟩
theorem zkR {f:FuncId} {r:R3} (hB:FnB P f) (h:(∀ p∈r.1,p)→FnC P f [] r.2.1 r.2.2):zaS P (ent0 f r):=by
 refine ⟨hB,fun ins mi n out mo hg hn=>?_⟩
 change go0 r ins mi=some (n,out,mo) at hg
 unfold go0 at hg
 split at hg
 case h_2=>simp at hg
 rename_i e
 obtain rfl:=zfs e
 simp only [Option.some.injEq] at hg
 subst hg
 exact h hn
theorem zes {f:FuncId} {a:Dec α} {r:α→R3} (hB:FnB P f) (h:∀ x,(∀ p∈(r x).1,p)→FnC P f [a.can x] (r x).2.1 (r x).2.2):zaS P (ent1 f a r):=by
 refine ⟨hB,fun ins mi n out mo hg hn=>?_⟩
 change go1 a r ins mi=some (n,out,mo) at hg
 unfold go1 at hg
 split at hg
 case h_2=>simp at hg
 rename_i s e
 obtain rfl:=zfs e
 split at hg
 case h_2=>simp at hg
 rename_i x ex
 simp only [Option.some.injEq] at hg
 have:=h x (by rw [hg];exact hn)
 rw [hg] at this
 refine this.pre fun E w vals hz hd=>?_
 match vals,hd with
 | [v],hd=>exact ⟨a.ok _ _ ex E w v hz hd.1,trivial⟩
theorem zhK {f:FuncId} {a:Dec α} {b:Dec β} {r:α→β→R3} (hB:FnB P f) (h:∀ x y,(∀ p∈(r x y).1,p)→FnC P f [a.can x,b.can y] (r x y).2.1 (r x y).2.2):zaS P (ent2 f a b r):=by
 refine ⟨hB,fun ins mi n out mo hg hn=>?_⟩
 change go2 a b r ins mi=some (n,out,mo) at hg
 unfold go2 at hg
 split at hg
 case h_2=>simp at hg
 rename_i s t e
 obtain rfl:=zfs e
 split at hg
 case h_2=>simp at hg
 rename_i x y ex ey
 simp only [Option.some.injEq] at hg
 have:=h x y (by rw [hg];exact hn)
 rw [hg] at this
 refine this.pre fun E w vals hz hd=>?_
 match vals,hd with
 | [v,u],hd=>exact ⟨a.ok _ _ ex E w v hz hd.1,b.ok _ _ ey E w u hz hd.2.1,trivial⟩
end
theorem ziu {E:Env} {mi:List BE} {w:World} (hm:MemOk w.heap.size (cxIn E mi 1) w E (mOf mi) w):E.zero:=by
 intro i b h
 apply Classical.byContradiction
 intro hi
 have h1:=hm.lab i b h
 rcases h1.2 (show (1:Nat)≤i by omega) with h2 | ⟨t,ht⟩
 ·omega
 ·exact (hm.sep t b ht).1 ⟨i,h⟩
theorem FnG.pre1 {P:Program} {f:FuncId} {mi:List BE} {ins ins':List SV} {out:SV} {mo:List BE} (h:FnG P f 1 mi ins out mo) (hd:∀ E w vals,Env.zero E→DenL E w ins' vals→DenL E w ins vals):FnG P f 1 mi ins' out mo:=
 ⟨h.1,fun w E vals hm hv=>h.2 w E vals hm (hd E w vals (ziu hm) hv)⟩
structure Mem (σ:Type) where
 mi:σ→List BE
 dec:List BE→Option σ
 ok:∀ m x,dec m=some x→m=mi x
section
variable {P : Program} {σ α β γ : Type}
def goM0 (M:Mem σ) (r:σ→R3) (ins:List SV) (mi:List BE):Option R3:=match M.dec mi,ins with
 | some s,[.ptr 2 0]=>some (r s)
 | _,_=>none
def goM1 (M:Mem σ) (a:Dec α) (r:σ→α→R3) (ins:List SV) (mi:List BE):Option R3:=match M.dec mi,ins with
 | some s,[.ptr 2 0,x]=>match a.dec x with
  | some x=>some (r s x)
  | none=>none
 | _,_=>none
def goM2 (M:Mem σ) (a:Dec α) (b:Dec β) (r:σ→α→β→R3) (ins:List SV) (mi:List BE):Option R3:=match M.dec mi,ins with
 | some s,[.ptr 2 0,x,y]=>match a.dec x,b.dec y with
  | some x,some y=>some (r s x y)
  | _,_=>none
 | _,_=>none
def zkQ (f:FuncId) (M:Mem σ) (a:Dec α) (vr:List (Nat×TypeId×RL)) (gl:List Nat) (r:σ→α→R3):Ent:=⟨f,true,[0,0],gl,1,vr,goM1 M a r⟩
def zlU (f:FuncId) (M:Mem σ) (a:Dec α) (b:Dec β) (vr:List (Nat×TypeId×RL)) (gl:List Nat) (r:σ→α→β→R3):Ent:=⟨f,true,[0,0,0],gl,1,vr,goM2 M a b r⟩
theorem zfZ {f:FuncId} {M:Mem σ} {a:Dec α} {vr:List (Nat×TypeId×RL)} {gl:List Nat} {r:σ→α→R3} (hB:FnB P f) (h:∀ s x,(∀ p∈(r s x).1,p)→FnG P f 1 (M.mi s) [.ptr 2 0,a.can x] (r s x).2.1 (r s x).2.2):zaS P (zkQ f M a vr gl r):=by
 refine ⟨hB,fun ins mi n out mo hg hn=>?_⟩
 change goM1 M a r ins mi=some (n,out,mo) at hg
 unfold goM1 at hg
 split at hg
 case h_2=>simp at hg
 rename_i s x e
 have e:=M.ok _ _ e
 subst e
 split at hg
 case h_2=>simp at hg
 rename_i y ey
 simp only [Option.some.injEq] at hg
 have:=h s y (by rw [hg];exact hn)
 rw [hg] at this
 refine this.pre1 fun E w vals hz hd=>?_
 match vals,hd with
 | [v,u],hd=>exact ⟨hd.1,a.ok _ _ ey E w u hz hd.2.1,trivial⟩
theorem ziY {f:FuncId} {M:Mem σ} {a:Dec α} {b:Dec β} {vr:List (Nat×TypeId×RL)} {gl:List Nat} {r:σ→α→β→R3} (hB:FnB P f) (h:∀ s x y,(∀ p∈(r s x y).1,p)→FnG P f 1 (M.mi s) [.ptr 2 0,a.can x,b.can y] (r s x y).2.1 (r s x y).2.2):zaS P (zlU f M a b vr gl r):=by
 refine ⟨hB,fun ins mi n out mo hg hn=>?_⟩
 change goM2 M a b r ins mi=some (n,out,mo) at hg
 unfold goM2 at hg
 split at hg
 case h_2=>simp at hg
 rename_i s x y e
 have e:=M.ok _ _ e
 subst e
 split at hg
 case h_2=>simp at hg
 rename_i x2 y2 ex ey
 simp only [Option.some.injEq] at hg
 have:=h s x2 y2 (by rw [hg];exact hn)
 rw [hg] at this
 refine this.pre1 fun E w vals hz hd=>?_
 match vals,hd with
 | [v1,v2,v3],hd=>exact ⟨hd.1,a.ok _ _ ex E w v2 hz hd.2.1,b.ok _ _ ey E w v3 hz hd.2.2.1,trivial⟩
end
theorem fnB {P : Program} {f : FuncId} {fn : Func} (h : P.funcs[f]? = some fn) (h1 : fn.name ≠ "runtime.NumGoroutine") (h2 : fn.body.isSome = true) : FnB P f := ⟨fn, h, h1, h2⟩
theorem zb2 {P:Program}:∀ e∈([]:List Ent),zaS P e:=fun _ h=>by cases h
theorem zaG {P:Program} {e:Ent} {tab:List Ent} (h:zaS P e) (ht:∀ e∈tab,zaS P e):∀ x∈e::tab,zaS P x:=by
 intro x hx
 rcases List.mem_cons.1 hx with rfl | hx
 ·exact h
 ·exact ht x hx
theorem zd4 {tab:List Ent} (h:∀ e∈tab,zaS Try.prog e) (kd:TypeId→Option RL):World.Fits Try.prog ⟨kd,orcT tab,fun _ _ _=>none⟩ (zgz Try.prog):=⟨by kernel_rfl,zk5 h kd _,ziE tab kd _,ziG _,zhp _,fun _ _ _ _ _ _ h=>by cases h⟩
end Go.Proofs.Ytfccndnnpkiajaa
namespace Go.Proofs.Ytfccndnnpkiajaa
open Go.RowKit Go.ChangeShapes Go.WideShapes Go.Deep
def o0:SV→Bool
 | .any=>true
 | .int _ _=>true
 | .bool _=>true
 | .str _=>true
 | .nil=>true
 | .sl ls _=>ls.all (Nat.beq 0)
 | _=>false
def o1:SV→Bool
 | .agg vs=>vs.all o0
 | s=>o0 s
section
variable {E : Env} {w : World}
end
section
variable {P : Program} {σ α β γ δ : Type}
variable {f : FuncId} {M : Mem σ} {a : Dec α} {b : Dec β} {c : Dec γ} {nl : Nat} {al gl : List Nat} {vr : List (Nat × TypeId × RL)}
end
end Go.Proofs.Ytfccndnnpkiajaa
namespace Go.Proofs.Ytfccndnnpkiajaa
open Go.RowKit Go.ChangeShapes Go.WideShapes Go.Deep
end Go.Proofs.Ytfccndnnpkiajaa
namespace Go.Proofs.Ytfccndnnpkiajaa
open Go.RowKit Go.ChangeShapes Go.WideShapes Go.Deep
set_option maxRecDepth 100000
def dByte:Dec Int where
 dec:=fun s=>match s with | .int .u8 n=>some n | _=>none
 can:=fun n=> .int .u8 n
 Okp:=fun n=>0≤n∧n≤255
 okp:=fun n E w v h=>by
  have:=h.2
  simp only [Lit.wf,Bool.and_eq_true,decide_eq_true_eq] at this
  exact this
 ok:=by
  intro s x h E w v _ hd
  split at h
  ·simp only [Option.some.injEq] at h;subst h;exact hd
  ·simp at h
def dBytes:Dec (List Int) where
 dec:=fun s=>match s.asBytes with | some (l,_)=>some l | none=>none
 can:=fun l=> .sl [0] (.rBytes l)
 Okp:=fun l=>ze5 l
 okp:=fun l E w v h=>by
  have h:Rd w (E.set [0]) (.sl [.int .u8]) v (.sl (ints l)):=h
  obtain ⟨a,c,rfl,hs⟩:=h.sl'
  exact ze0 hs
 ok:=by
  intro s x h E w v hz hd
  split at h
  ·rename_i l m e;simp only [Option.some.injEq] at h;subst h;exact zdP hz (SV.asBytes_ok e (fun i hi=>hi) hd)
  ·simp at h
def dBools:Dec (List Bool) where
 dec:=fun s=>match s.asBools with | some (l,_)=>some l | none=>none
 can:=fun l=> .sl [0] (.rBools l)
 Okp:=fun l=>l.length≤140737488355328
 okp:=fun l E w v h=>by
  have h:Rd w (E.set [0]) (.sl [.bool]) v (.sl (bools l)):=h
  obtain ⟨a,c,rfl,hs⟩:=h.sl'
  exact zgi hs
 ok:=by
  intro s x h E w v hz hd
  split at h
  ·rename_i l m e;simp only [Option.some.injEq] at h;subst h;exact zdP hz (SV.asBools_ok e (fun i hi=>hi) hd)
  ·simp at h
def dStrs:Dec (List ByteArray) where
 dec:=fun s=>match s.asStrs with | some (l,_)=>some l | none=>none
 can:=fun l=> .sl [0] (.rStrs l)
 Okp:=fun l=>zka l
 okp:=fun l E w v h=>by
  have h:Rd w (E.set [0]) (.sl [.str]) v (.sl (strs l)):=h
  obtain ⟨a,c,rfl,hs⟩:=h.sl'
  exact zko hs
 ok:=by
  intro s x h E w v hz hd
  split at h
  ·rename_i l m e;simp only [Option.some.injEq] at h;subst h;exact zdP hz (SV.asStrs_ok e (fun i hi=>hi) hd)
  ·simp at h
theorem zil {l:List File} {n:ByteArray} (h:¬ za4 l n<0):za1 l n=(l.getD (za4 l n).toNat default).bytes:=if_neg h
theorem zik {l:List File} {n:ByteArray} (h:za4 l n<0):za1 l n=[]:=if_pos h
theorem zbD {l:List File} {n:ByteArray} {m:Nat} (h:∀ x∈l,x.bytes.length≤m):(za1 l n).length≤m:=by
 by_cases c:za4 l n<0
 ·rw [zik c];exact Nat.zero_le _
 ·rw [zil c]
  have:=zep l n
  exact h _ (zem (by omega))
end Go.Proofs.Ytfccndnnpkiajaa
namespace Go.Proofs.Ytfccndnnpkiajaa
open Go.RowKit Go.ChangeShapes Go.WideShapes Go.Deep
def E0 (S:Nat→Prop):Env:=⟨fun _=>none,fun i b=>i=0∧S b,fun _ _=>False⟩
theorem mem0 {w:World} {S:Nat→Prop} (hS:∀ b,S b→b<w.heap.size):MemOk w.heap.size (cxIn (E0 S) D2 1) w (E0 S) (mOf D2) w:=by
 have hl:∀ t,(mOf D2 t).live=false:=by intro t;rw [mD2];split<;>rfl
 refine ⟨fun t ht=>⟨rfl,fun b hb=>?_⟩,fun t T vs ht=>?_,fun t T ls r ht=>?_,fun i b hb=>⟨hS b hb.2,fun h=>?_⟩,fun i j b hi hj=>hi.1.trans hj.1.symm,fun i hi he=>?_,fun t b hh=>absurd hh zff,fun i b _ hb=>hb,fun t u b h1=>absurd h1 zff,fun t v h=>?_,BelowX.refl _ _ _,Nat.le_refl _,fun t o ht=>by have:=hl t;rw [ht] at this;cases this⟩
 ·have:=hb.1;subst this;rw [mD2] at ht;simp at ht
 ·have:=hl t;rw [ht] at this;cases this
 ·have:=hl t;rw [ht] at this;cases this
 ·have:=hb.1;simp [cxIn] at h;omega
 ·rw [mD2] at he
  simp [cxIn] at hi;subst hi;simp at he
 ·simp only [cxIn] at h
  split at h
  ·exact h
  ·cases h
theorem zhx {f:FuncId} {ins:List SV} (h:FnC Try.prog f ins (.bool true) D2) (w:World) (S:Nat→Prop) (hS:∀ b,S b→b<w.heap.size) (vals:List Value) (hd:DenL (E0 S) w ins vals):Calls Try.prog f vals.toArray w fun e w'=>e = .returned (.bool true)∧Below w.heap.size w w' :=
 (h.2 w (E0 S) vals (mem0 hS) hd).mono (by
  rintro e w' ⟨v,E',rfl,hv,hm⟩
  refine ⟨by rw [show v = .bool true from hv],hm.below.os,hm.below.tape,hm.below.output,hm.below.size,fun b hb=>hm.below.block b hb (fun ⟨t,ht⟩=>zff ht)⟩)
theorem zir {S:Nat→Prop} {b:Nat} (h:S b):(E0 S).set [0] b:=⟨0,by simp,rfl,h⟩
theorem zme {w w':World} {S:Nat→Prop} {E':Env} (hm:MemOk w.heap.size (cxIn (E0 S) D2 1) w E' (mOf D2) w') {i b:Nat} (hi:1≤i) (h:E'.σ i b):w.heap.size≤b:=
 ((hm.lab i b h).2 hi).resolve_right (fun ⟨t,ht⟩=>zff ht)
theorem zgm {w w':World} {S:Nat→Prop} {E':Env} (hm:MemOk w.heap.size (cxIn (E0 S) D2 1) w E' (mOf D2) w'):Below w.heap.size w w' :=
 ⟨hm.below.os,hm.below.tape,hm.below.output,hm.below.size,fun b hb=>hm.below.block b hb (fun ⟨t,ht⟩=>zff ht)⟩
end Go.Proofs.Ytfccndnnpkiajaa
namespace Go.Proofs.Ytfccndnnpkiajaa
open Go.RowKit Go.ChangeShapes Go.WideShapes Go.Deep
set_option maxRecDepth 100000
theorem zic (l:List Int) (hl:l.length≤100000000):FnC Try.prog 28 [dBytes.can l] (.sl [1] (.rBytes l)) D2:=by
 refine FnG.of_vc (zd4 zb2 fun _=>none) Try.func28 rfl (by decide) rfl 300 (p:=fun (V:List PE→Prop)=>True∧True∧True∧(l=[]→True∧l=[]∧True)∧(True→(((0:Nat)+l.length)*(1024:Nat)≤140737488355328∧True)∧l=l∧l.length≤140737488355328∧True)) (by kernel_rfl) ?_
 exact ⟨trivial,trivial,trivial,fun h=>⟨trivial,h,trivial⟩,fun _=>⟨⟨by show (0+l.length)*1024≤_;omega,trivial⟩,rfl,by show l.length≤_;omega,trivial⟩⟩
theorem zkA {f:FuncId} {l r:List Int} (h:FnC Try.prog f [dBytes.can l] (.sl [1] (.rBytes r)) D2) {w:World} {S:Nat→Prop} {v:Value} (hS:∀ b,S b→b<w.heap.size) (hv:BRd w S v l):Calls Try.prog f #[v] w (NewB w r):=
 (h.2 w (E0 S) [v] (mem0 hS) ⟨hv.mono (fun b _ hb=>zir hb),trivial⟩).mono (by
  rintro e w' ⟨u,E',rfl,hv,hm⟩
  have hv:Rd w' (E'.set [1]) (.sl [.int .u8]) u (.sl (ints r)):=hv
  exact ⟨u,rfl,zgm hm,hv.mono fun b _ ⟨i,hi,hs⟩=>zme hm (by simp at hi;omega) hs⟩)
theorem zdz {w:World} {S:Nat→Prop} {v:Value} {l:List Int} (hv:BRd w S v l) (hl:l.length≤100000000):Calls Try.prog 28 #[v] w (NewB w l):=
 zkA (S:=fun b=>S b∧b<w.heap.size) (zic l hl) (fun b hb=>hb.2) hv.here
theorem zkK (s:ByteArray) (c:Int) (w:World):Calls Try.prog 67 #[.string s,.int .u8 c] w fun e w'=>e = .returned (.int .i64 (Lib.indexByte s.data.toList c.toNat.toUInt8))∧w'=w:=by
 go_enter Try.func67,Try.ntmps67
 go_wp2
 rw [run_callFunc_extern (f:=72) rfl (by kernel_rfl) (by kernel_rfl) (by kernel_rfl) (e:=Extern.BytealgIndexByte.indexByte) (by kernel_rfl),Lib.run_indexByteString]
 simp only [Result.andThen]
 rw [Oper.upon_value]
 go_wp2
 go_ret
 exact ⟨rfl,rfl⟩
theorem zlP (s:ByteArray) (c:Int) (w:World):Calls Try.prog 51 #[.string s,.int .u8 c] w fun e w'=>e = .returned (.int .i64 (Lib.indexByte s.data.toList c.toNat.toUInt8))∧w'=w:=by
 have h:=zkK s c
 go_enter Try.func51,Try.ntmps51
 go_wp2_with (go_at_call 67;refine (h _).mono ?_;rintro e w' ⟨rfl,rfl⟩)
 go_ret
 exact ⟨rfl,rfl⟩
theorem zcK:∀ (l:List UInt8) (c:UInt8),Lib.indexByte l c<l.length
 | [],c=>by show (-1:Int)<0;decide
 | b::l,c=>by
  have:=zcK l c
  unfold Lib.indexByte
  rw [List.length_cons]
  split
  ·omega
  ·split<;>omega
theorem zbs:∀ (l:List UInt8) (c:UInt8),decide (Lib.indexByte l c<0)=!l.contains c
 | [],c=>rfl
 | b::l,c=>by
  have ih:=zbs l c
  have hg:=Lib.indexByte_ge l c
  unfold Lib.indexByte
  rw [List.contains_cons]
  cases h:b==c
  ·have h2:(c==b)=false:=by
    rw [beq_eq_false_iff_ne] at h ⊢;exact Ne.symm h
   rw [h2,Bool.false_or,← ih]
   simp only [Bool.false_eq_true,if_false]
   split
   ·rename_i e
    have e:Lib.indexByte l c = -1:=eq_of_beq e
    rw [e]
   ·rename_i e
    have e:Lib.indexByte l c ≠ -1:=fun g=>e (by rw [g];rfl)
    rw [decide_eq_decide]
    omega
  ·have h2:(c==b)=true:=by
    rw [beq_iff_eq] at h ⊢;exact h.symm
   rw [h2]
   rfl
noncomputable def eIx:Ent:=ent2 51 dStr dByte fun s c=>([s.size≤1000],.int .i64 (Lib.indexByte s.data.toList c.toNat.toUInt8),D2)
theorem zjS:zaS Try.prog eIx:=zhK (fnB Try.func51 (by decide) rfl) fun s c h=>FnC.of_int (fnB Try.func51 (by decide) rfl) fun w E vals hd=>by
 have hs:s.size≤1000:=h _ (List.mem_cons_self ..)
 have h1:=zcK s.data.toList c.toNat.toUInt8
 have h2:=Lib.indexByte_ge s.data.toList c.toNat.toUInt8
 have h3:s.data.toList.length=s.size:=Array.length_toList
 refine ⟨⟨by omega,by omega⟩,?_⟩
 match vals,hd with
 | [u,v],hd=>
  have e1:u = .string s:=hd.1.1
  have e2:v = .int .u8 c:=hd.2.1.1
  subst e1;subst e2
  exact (zlP s c w).mono fun e w' ⟨h1,h2⟩=>⟨h1,by subst h2;exact Below.refl _ _⟩
noncomputable def tabDx:List Ent:=[eIx]
theorem zfA:∀ e∈tabDx,zaS Try.prog e:=zaG zjS zb2
def lowB (c:Int):Bool:=decide (97≤c)&&decide (c≤122)
theorem zlI (c:Int) (h0:0≤c) (h1:c≤255):decide (Lib.indexByte (Array.toList #[(97:UInt8),98,99,100,101,102,103,104,105,106,107,108,109,110,111,112,113,114,115,116,117,118,119,120,121,122]) c.toNat.toUInt8<0)=!lowB c:=by
 rw [zbs]
 obtain ⟨n,rfl⟩:∃ n:Nat,c=n:=⟨c.toNat,by omega⟩
 have hn:n<256:=by omega
 clear h0 h1
 revert n
 decide
theorem nm_ix (c:Int) (h0:0≤c) (h1:c≤255):decide (Lib.indexByte (Array.toList #[(97:UInt8),98,99,100,101,102,103,104,105,106,107,108,109,110,111,112,113,114,115,116,117,118,119,120,121,122,48,49,50,51,52,53,54,55,56,57,95]) c.toNat.toUInt8<0)=!nmB c:=by
 rw [zbs]
 obtain ⟨n,rfl⟩:∃ n:Nat,c=n:=⟨c.toNat,by omega⟩
 have hn:n<256:=by omega
 clear h0 h1
 revert n
 decide
theorem ziC (s:ByteArray):FnC Try.prog 52 [dStr.can s] (.bool ((List.range s.size).all fun i=>nmB (sGet s i))) D2:=FnC.g1 dStr s (fnB Try.func52 (by decide) rfl) fun hx=>by
 have hx:s.size≤140737488355328:=hx
 refine FnG.of_vc (zd4 zfA fun _=>none) Try.func52 rfl (by decide) rfl 300 (p:=fun (V:List PE→Prop)=>True∧True∧V []) (by kernel_rfl) ?_
 refine ⟨trivial,trivial,?_⟩
 refine LoopG.head (zd4 zfA fun _=>none) 0 (A:=Nat) (fun j=>j≤s.size∧∀ i,i<j→nmB (sGet s i)=true) (fun j=>[(6,.int .i64 j),(2,.bool false)]) (fun _=>[]) (fun j=>s.size-j) 0 ⟨Nat.zero_le _,fun i h=>absurd h (Nat.not_lt_zero _)⟩ (p0:=let v0:=(↑(ByteArray.size s):Int);(0:Int)=(↑(0:Nat):Int)∧false=false∧v0=v0∧s=s∧True) (by kernel_rfl) ?_ 300 (p:=fun (z:Nat) (V:List PE→Prop)=>let v0:=(↑z:Int);let v1:=(↑(ByteArray.size s):Int);let v2:=List.all (List.range (ByteArray.size s)) fun (i:Nat)=>nmB (sGet s (↑i:Int));let v3:=decide (v0<v1);let v4:= #[(97:UInt8),(98:UInt8),(99:UInt8),(100:UInt8),(101:UInt8),(102:UInt8),(103:UInt8),(104:UInt8),(105:UInt8),(106:UInt8),(107:UInt8),(108:UInt8),(109:UInt8),(110:UInt8),(111:UInt8),(112:UInt8),(113:UInt8),(114:UInt8),(115:UInt8),(116:UInt8),(117:UInt8),(118:UInt8),(119:UInt8),(120:UInt8),(121:UInt8),(122:UInt8),(48:UInt8),(49:UInt8),(50:UInt8),(51:UInt8),(52:UInt8),(53:UInt8),(54:UInt8),(55:UInt8),(56:UInt8),(57:UInt8),(95:UInt8)];let v5:=Lib.indexByte (Array.toList v4) (Nat.toUInt8 (Int.toNat (sGet s v0)));let v6:=decide (v5<0);True∧True∧(v3=true→True∧((0:Int)≤v0∧v0<v1∧ByteArray.size (ByteArray.mk v4)≤1000∧True)∧True∧(v6=true→True∧false=v2∧True)∧(v6=false→True∧V [PE.a,PE.b]))∧(v3=false→True∧true=v2∧True)) (by intro z;kernel_rfl) ?_
 ·intros
  repeat' apply And.intro
  all_goals first | trivial | rfl
 rintro j ⟨hj,h0⟩
 have b1:(0:Int)≤(j:Int):=Int.natCast_nonneg j
 intros
 refine ⟨trivial,trivial,fun h3=>?_,fun h3=>⟨trivial,?_,trivial⟩⟩
 ·have b2:(j:Int)<(s.size:Int):=of_decide_eq_true h3
  have e:=ziv (i:=j) (by omega)
  obtain ⟨g1,g2⟩:=zfj s j
  have hx:=nm_ix (sGet s (j:Int)) g1 g2
  refine ⟨trivial,⟨b1,b2,by decide,trivial⟩,trivial,fun h6=>⟨trivial,?_,trivial⟩,fun h6=>⟨trivial,?_⟩⟩
  ·have h7:(!nmB (sGet s (j:Int)))=true:=hx.symm.trans h6
   have h7:nmB (sGet s (j:Int))=false:=by simpa using h7
   symm
   rw [List.all_eq_false]
   exact ⟨j,List.mem_range.2 (by omega),by rw [h7];decide⟩
  ·have h7:(!nmB (sGet s (j:Int)))=false:=hx.symm.trans h6
   have h7:nmB (sGet s (j:Int))=true:=by simpa using h7
   refine Back.mk (j+1) ⟨by omega,fun i hi=>?_⟩ (by omega) (p0:=let v0:=(↑(ByteArray.size s):Int);IntKind.wrap IntKind.i64 ((↑j:Int)+(1:Int))=(↑(j+(1:Nat)):Int)∧false=false∧v0=v0∧s=s∧True) (by kernel_rfl) ?_
   ·by_cases h:i=j
    ·rw [h];exact h7
    ·exact h0 i (by omega)
   ·intros
    repeat' apply And.intro
    all_goals first | trivial | exact e | rfl
 ·have hj':j=s.size:=by
   have:¬ (j:Int)<(s.size:Int):=of_decide_eq_false h3
   omega
  subst hj'
  symm
  rw [List.all_eq_true]
  intro i hi
  exact h0 i (List.mem_range.1 hi)
noncomputable def zjQ:Ent:=ent1 52 dStr fun s=>([],.bool ((List.range s.size).all fun i=>nmB (sGet s i)),D2)
theorem zhL:zaS Try.prog zjQ:=zes (fnB Try.func52 (by decide) rfl) fun s _=>ziC s
noncomputable def tabDy:List Ent:=[eIx,zjQ]
theorem ziz:∀ e∈tabDy,zaS Try.prog e:=zaG zjS (zaG zhL zb2)
theorem zkB (s:ByteArray):FnC Try.prog 30 [dStr.can s] (.bool (zb8 s)) D2:=by
 refine FnG.of_vc (zd4 ziz fun _=>none) Try.func30 rfl (by decide) rfl 300 (p:=fun (V:List PE→Prop)=>let v0:=(↑(ByteArray.size s):Int);let v1:=(0:Int);let v2:=!ByteArray.toList s==ByteArray.toList (ByteArray.mk #[]);let v3:=zba v2 (decide (v0≤16)) false;let v4:= #[(97:UInt8),(98:UInt8),(99:UInt8),(100:UInt8),(101:UInt8),(102:UInt8),(103:UInt8),(104:UInt8),(105:UInt8),(106:UInt8),(107:UInt8),(108:UInt8),(109:UInt8),(110:UInt8),(111:UInt8),(112:UInt8),(113:UInt8),(114:UInt8),(115:UInt8),(116:UInt8),(117:UInt8),(118:UInt8),(119:UInt8),(120:UInt8),(121:UInt8),(122:UInt8)];let v5:=Lib.indexByte (Array.toList v4) (Nat.toUInt8 (Int.toNat (sGet s v1)));let v6:=zba v3 (decide (v5≥v1)) false;True∧((v2=true→v2=true)∧(v2=true→v2=true)∧(v2=true→v2=true)∧(v3=true→v3=true)∧(v3=true→v1≤v1)∧(v3=true→v1<v0)∧(v3=true→v3=true)∧(v3=true→ByteArray.size (ByteArray.mk v4)≤1000)∧(v3=true→v3=true)∧(v3=true→v3=true)∧(v6=true→v6=true)∧(v6=true→v6=true)∧True)∧zba v6 (List.all (List.range (ByteArray.size s)) fun (i:Nat)=>nmB (sGet s (↑i:Int))) false=zb8 s∧True) (by kernel_rfl) ?_
 obtain ⟨g1,g2⟩:=zfj s 0
 have hx:=zlI (sGet s 0) g1 g2
 have hn:(!s.toList==(ByteArray.mk #[]).toList)=decide (1≤s.size):=by
  rw [Lib.toList_data,Lib.toList_data,Bool.eq_iff_iff]
  have e:(s.data.toList==(#[]:Array UInt8).toList)=decide (s.size=0):=by
   rw [Bool.eq_iff_iff,beq_iff_eq,decide_eq_true_iff]
   constructor
   ·intro h
    show s.data.size=0
    rw [← Array.length_toList,h];rfl
   ·intro h
    have h:s.data.size=0:=h
    exact List.eq_nil_of_length_eq_zero (by rw [Array.length_toList];exact h)
  rw [e]
  simp only [Bool.not_eq_true',decide_eq_false_iff_not,decide_eq_true_eq]
  omega
 intros
 have hv3:∀ b c:Bool,zba b c false=(b&&c):=fun b c=>by cases b<;>rfl
 have hsz:zba (!s.toList==(ByteArray.mk #[]).toList) (decide ((s.size:Int)≤16)) false=true→(0:Int)<(s.size:Int):=fun h=>by
  rw [hv3,hn,Bool.and_eq_true] at h
  have:=of_decide_eq_true h.1
  omega
 refine ⟨trivial,⟨id,id,id,id,fun _=>Int.le_refl 0,hsz,id,fun _=>by decide,id,id,id,id,trivial⟩,?_,trivial⟩
 have h6:decide (Lib.indexByte (Array.toList #[(97:UInt8),98,99,100,101,102,103,104,105,106,107,108,109,110,111,112,113,114,115,116,117,118,119,120,121,122]) (sGet s 0).toNat.toUInt8≥0)=lowB (sGet s 0):=by
  have e:decide (Lib.indexByte (Array.toList #[(97:UInt8),98,99,100,101,102,103,104,105,106,107,108,109,110,111,112,113,114,115,116,117,118,119,120,121,122]) (sGet s 0).toNat.toUInt8≥0)=!decide (Lib.indexByte (Array.toList #[(97:UInt8),98,99,100,101,102,103,104,105,106,107,108,109,110,111,112,113,114,115,116,117,118,119,120,121,122]) (sGet s 0).toNat.toUInt8<0):=by
   rw [← decide_not,decide_eq_decide,Int.not_lt]
  rw [e,hx,Bool.not_not]
 show zba (zba (zba (!s.toList==(ByteArray.mk #[]).toList) (decide ((s.size:Int)≤16)) false) (decide (Lib.indexByte (Array.toList #[(97:UInt8),98,99,100,101,102,103,104,105,106,107,108,109,110,111,112,113,114,115,116,117,118,119,120,121,122]) (sGet s 0).toNat.toUInt8≥0)) false) _ false=_
 rw [h6,hn,hv3,hv3,hv3]
 unfold zb8 lowB
 have e16:decide ((s.size:Int)≤16)=decide (s.size≤16):=by rw [decide_eq_decide];omega
 rw [e16]
theorem zlt {f:FuncId} {s:ByteArray} {b:Bool} (h:FnC Try.prog f [dStr.can s] (.bool b) D2) (w:World) (hs:NmOk s):Calls Try.prog f #[.string s] w fun e w'=>e = .returned (.bool b)∧Below w.heap.size w w' :=
 (h.2 w (E0 fun _=>False) [.string s] (mem0 fun b hb=>hb.elim) ⟨⟨rfl,hs⟩,trivial⟩).mono (by
  rintro e w' ⟨u,E',rfl,hv,hm⟩
  have hv:u = .bool b:=hv
  subst hv
  exact ⟨rfl,zgm hm⟩)
theorem zfR (s:ByteArray) (w:World) (hs:NmOk s):Calls Try.prog 30 #[.string s] w fun e w'=>e = .returned (.bool (zb8 s))∧Below w.heap.size w w':=zlt (zkB s) w hs
def zc0 (w:World) (S:Nat→Prop) (mb:Nat) (M':List File) (e:Ending) (w':World):Prop:=
 e = .returned (.tuple #[])∧Turn (fun x=>x=mb) w w'∧FilesAt w' (fun x=>S x∨w.heap.size≤x) mb M'
theorem FilesAt.drew {w:World} {S:Nat→Prop} {mb:Nat} {M:List File} (h:FilesAt w S mb M):FilesAt w.drew S mb M:=h.kept rfl (w':=w.drew) ⟨Nat.le_refl _,fun _ _ _=>rfl⟩ fun _ _ h=>h
theorem zbI {w w1:World} {S:Nat→Prop} {mb:Nat} {M:List File} {n:ByteArray} {u:Value} {bs:List Int} (hm:FilesAt w S mb M) (hs:SortF M) (hmb:¬ S mb) (hl:M.length≤10000) (hn:NmOk n) (hb:Below w.drew.heap.size w.drew w1) (hu:BRd w1 (fun x=>w.drew.heap.size≤x) u bs) :
  ∃ w2,(Instr.mapUpdate TFi (.map (some mb)) (.string n) u).run Try.prog w1 = .ok () w2∧zc0 w S mb (zax ⟨n,bs⟩ M) (.returned (.tuple #[])) w2∧∀ p t cs,S p→Blk w p t cs→Blk w1 p t cs∧Blk w2 p t cs:=by
 have hlt:=hm.lt
 have h1:FilesAt w1 (fun x=>S x∨w.heap.size≤x) mb M:=hm.drew.kept (hb.block mb hlt) (Same.below hb) fun _ _ h=> .inl h
 have hno:¬ (S mb∨w.heap.size≤mb):=fun h=>h.elim hmb (fun h=>by omega)
 obtain ⟨w2,r1,r2,r3⟩:=h1.put hs (by omega) hn (hu.mono fun b _ h=> .inr h) hno
 refine ⟨w2,r1,⟨rfl,?_,r2⟩,fun p t cs hp h=>⟨h.drew.next hb,(h.drew.next hb).grown r3 fun e=>hmb ((Option.some.inj e)▸hp)⟩⟩
 have h:=(Turn.below (w:=w.drew) hb).trans (Turn.grown (F:=fun x=>x=mb) r3 fun x e=> .inl (Option.some.inj e).symm) fun x _ h=>h
 exact ⟨h.os,h.tape,h.output,h.size,h.block⟩
set_option maxHeartbeats 4000000 in
theorem zl3 {w:World} {S:Nat→Prop} {c:DChange} {p1 p2 p3 mb:Nat} {bv:Value} {M:List File} (hp:S p1∧S p2∧S p3) (b1:Blk w p1 TSt #[.string c.file]) (b2:Blk w p2 TIn #[.int .i64 c.at_]) (b3:Blk w p3 TBy #[bv]) (hr:BRd w S bv c.bytes)
  (hm:FilesAt w S mb M) (hs:SortF M) (hmb:¬ S mb) (hl:M.length≤10000) (hn:NmOk c.file) (h0:0≤c.at_) (h1:c.at_≤10000000) (h2:c.bytes.length≤10000000) (h3:((zab M c.file).getD []).length≤100000000) :
  Calls Try.prog fWr #[.map (some mb),ptrV p1,ptrV p2,ptrV p3] w (zc0 w S mb (zax ⟨c.file,za6 ((zab M c.file).getD []) c.at_.toNat c.bytes⟩ M)):=by
 obtain ⟨v,_,hlk,hv⟩:=hm.drew.look hn
 have hL:=Lib.hid (zfU hv (Rd.drew hr) h0 (by omega) (by omega) h3)
 have c1:=b1.cell 0
 have c2:=b2.cell 0
 have c3:=b3.cell 0
 simp only [List.getElem?_toArray,List.getElem?_cons_zero] at c1 c2 c3
 have B1:=Lib.hid b1
 have hput:=fun w1 u h1 h2=>zbI (w1:=w1) (u:=u) (bs:=za6 ((zab M c.file).getD []) c.at_.toNat c.bytes) hm hs hmb hl hn h1 h2
 have HP:=Lib.hid hput
 have B2:=Lib.hid b2
 have B3:=Lib.hid b3
 clear b1 b2 b3 hr hm hv hput
 unfold ptrV
 go_enter Try.func54,Try.ntmps54
 go_wp2_with fail
 go_region_held3 (fun W=>W.cell? ⟨p1,0,none⟩=some (.string c.file)∧W.cell? ⟨p2,0,none⟩=some (.int .i64 c.at_)∧W.cell? ⟨p3,0,none⟩=some bv) (first | exact ⟨c1,c2,c3⟩ | exact HS1.out | exact HS2.out) (first | (go_at_call 50;refine hL.out.mono ?_;rintro e w1 ⟨u,rfl,hb1,hu⟩;obtain ⟨w2,hup,hfin,hbx⟩:=HP.out w1 u hb1 hu;have HS1:=Lib.hid (⟨(hbx _ _ _ hp.1 B1.out).1.cell 0,(hbx _ _ _ hp.2.1 B2.out).1.cell 0,(hbx _ _ _ hp.2.2 B3.out).1.cell 0⟩:w1.cell? ⟨p1,0,none⟩=some (.string c.file)∧w1.cell? ⟨p2,0,none⟩=some (.int .i64 c.at_)∧w1.cell? ⟨p3,0,none⟩=some bv);have HS2:=Lib.hid (⟨(hbx _ _ _ hp.1 B1.out).2.cell 0,(hbx _ _ _ hp.2.1 B2.out).2.cell 0,(hbx _ _ _ hp.2.2 B3.out).2.cell 0⟩:w2.cell? ⟨p1,0,none⟩=some (.string c.file)∧w2.cell? ⟨p2,0,none⟩=some (.int .i64 c.at_)∧w2.cell? ⟨p3,0,none⟩=some bv);have HF:=Lib.hid hfin;clear hfin hu hb1 hbx))
 go_end0
 exact HF.out
theorem BRd.take {w:World} {S:Nat→Prop} {a:Option Addr} {n c k:Nat} {bs:List Int} (h:BRd w S (.slice a n c) bs) (hk:k≤n):BRd w S (.slice a k c) (bs.take k):=by
 have hl:bs.length=n:=by have:=Sl.len h;rwa [zan] at this
 have hbd:=Sl.bd h
 by_cases hp:0<k
 ·obtain ⟨b,off,rfl,hS,hlt,h1,h2,_,hc⟩:=BRd.row h (by omega)
  refine BRd.of_row (by rw [List.length_take];omega) (by omega) h2 (by omega) hS hlt (fun x hx=>BRd.by h x (List.mem_of_mem_take hx)) fun i hi=>?_
  have e:(bs.take k).getD i 0=bs.getD i 0:=by rw [List.getD_eq_getElem?_getD,List.getD_eq_getElem?_getD,List.getElem?_take_of_lt hi]
  rw [e]
  exact ⟨(hc i (by omega)).1,(hc i (by omega)).2.1⟩
 ·have e:k=0:=by omega
  subst e
  exact Rd.emp (fun e=>(hbd.2.2.2 e).2) (by unfold maxLen;omega)
set_option maxHeartbeats 1000000 in
theorem zlY {w:World} {S:Nat→Prop} {c:DChange} {p1 p2 mb:Nat} {M:List File} (hp:S p1∧S p2) (b1:Blk w p1 TSt #[.string c.file]) (b2:Blk w p2 TIn #[.int .i64 c.at_])
  (hm:FilesAt w S mb M) (hs:SortF M) (hmb:¬ S mb) (hl:M.length≤10000) (hn:NmOk c.file) (h0:0≤c.at_) (h1:c.at_≤10000000) (h3:((zab M c.file).getD []).length≤100000000) :
  Calls Try.prog fCu #[.map (some mb),ptrV p1,ptrV p2] w (zc0 w S mb (if (zab M c.file).isSome then zax ⟨c.file,((zab M c.file).getD []).take c.at_.toNat⟩ M else M)):=by
 obtain ⟨v,hlk,_,hv⟩:=hm.look hn
 obtain ⟨v2,_,hlk2,hv2⟩:=hm.drew.look hn
 have e1:=hlk
 have c1:=b1.cell 0
 have c2:=b2.cell 0
 simp only [List.getElem?_toArray,List.getElem?_cons_zero] at c1 c2
 cases hf:(zab M c.file).isSome
 ·rw [hf] at hlk
  have HM:=Lib.hid hm
  clear b1 b2 hm hv hlk2 hv2 e1 h0 h1 h3
  unfold ptrV
  go_enter Try.func48,Try.ntmps48
  go_wp2
  go_end0
  exact ⟨rfl,Turn.refl _ _,HM.out.kept rfl (Same.refl _ _) fun _ _ h=> .inl h⟩
 ·rw [hf] at hlk
  obtain ⟨a,cap,rfl,hsl⟩:=hv.shape
  obtain ⟨bs,hbs⟩:∃ bs,(zab M c.file).getD []=bs:=⟨_,rfl⟩
  rw [hbs] at hv hlk h3 hsl ⊢
  obtain ⟨n,hnn⟩:∃ n,bs.length=n:=⟨_,rfl⟩
  obtain ⟨k,hk⟩:∃ k:Nat,min c.at_ (n:Int)=k:=⟨(min c.at_ (n:Int)).toNat,by omega⟩
  rw [hnn] at hv hlk h3 hsl
  have hkn:k≤n:=by omega
  have hbd:=Sl.bd hsl
  have et:bs.take c.at_.toNat=bs.take k:=by
   by_cases h:c.at_≤n
   ·congr 1;omega
   ·rw [List.take_of_length_le (by omega),List.take_of_length_le (by omega)]
  rw [et]
  have hC:=Lib.hid (zdz (w:=w.drew) (Rd.drew (hv.take hkn)) (by rw [List.length_take];omega))
  have B1:=Lib.hid b1
  have B2:=Lib.hid b2
  have hput:=fun w1 u h1 h2=>zbI (w1:=w1) (u:=u) (bs:=bs.take k) hm hs hmb hl hn h1 h2
  have HP:=Lib.hid hput
  have hkn2:(k:Int)≤(n:Int):=by omega
  have hcap2:n≤cap:=hbd.1
  have hkc:(k:Int)≤(cap:Int):=by omega
  have hk0:(0:Int)≤(k:Int):=by omega
  clear b1 b2 hm hv hlk2 hv2 e1 h0 h1 h3 hput hbd hsl et
  unfold ptrV
  go_enter Try.func48,Try.ntmps48
  go_wp2_with fail
  go_region_held3 (fun W=>W.cell? ⟨p1,0,none⟩=some (.string c.file)∧W.cell? ⟨p2,0,none⟩=some (.int .i64 c.at_)) (first | exact ⟨c1,c2⟩ | exact HS1.out | exact HS2.out) (first | (go_at_call 28;refine hC.out.mono ?_;rintro e w1 ⟨u,rfl,hb1,hu⟩;obtain ⟨w2,hup,hfin,hbx⟩:=HP.out w1 u hb1 hu;have HS1:=Lib.hid (⟨(hbx _ _ _ hp.1 B1.out).1.cell 0,(hbx _ _ _ hp.2 B2.out).1.cell 0⟩:w1.cell? ⟨p1,0,none⟩=some (.string c.file)∧w1.cell? ⟨p2,0,none⟩=some (.int .i64 c.at_));have HS2:=Lib.hid (⟨(hbx _ _ _ hp.1 B1.out).2.cell 0,(hbx _ _ _ hp.2 B2.out).2.cell 0⟩:w2.cell? ⟨p1,0,none⟩=some (.string c.file)∧w2.cell? ⟨p2,0,none⟩=some (.int .i64 c.at_));have HF:=Lib.hid hfin;clear hfin hu hb1 hbx))
  go_wp2
  go_end0
  exact HF.out
theorem zl9 {w:World} {S:Nat→Prop} {c:DChange} {p1 mb:Nat} {M:List File} (hp:S p1) (b1:Blk w p1 TSt #[.string c.file])
  (hm:FilesAt w S mb M) (hs:SortF M) (hmb:¬ S mb) (hn:NmOk c.file):Calls Try.prog fRm #[.map (some mb),ptrV p1] w (zc0 w S mb (zbC M c.file)):=by
 have c1:=b1.cell 0
 simp only [List.getElem?_toArray,List.getElem?_cons_zero] at c1
 obtain ⟨w2,hdr,hf2,hg⟩:=hm.drop hs hn hmb 0
 have hF:zc0 w S mb (zbC M c.file) (.returned (.tuple #[])) w2:=⟨rfl,Turn.grown (F:=fun x=>x=mb) hg fun x e=> .inl (Option.some.inj e).symm,hf2.kept rfl (Same.refl _ _) fun _ _ h=> .inl h⟩
 have HF:=Lib.hid hF
 clear b1 hm hf2 hg hF
 unfold ptrV
 go_enter Try.func49,Try.ntmps49
 go_wp2
 go_end0
 exact HF.out
theorem zjj {M:List File} (hs:SortF M) (c:DChange) (hk:c.kind=2):(if (zab M c.file).isSome then zax ⟨c.file,((zab M c.file).getD []).take c.at_.toNat⟩ M else M)=zag M c:=by
 refine SortF.ext ?_ (hs.done c) fun m=>?_
 ·split
  ·exact hs.put _
  ·exact hs
 ·have e1:∀ o,zcy c o=if ((o.getD []).length:Int)≤c.at_ then o else o.map fun b=>b.take c.at_.toNat:=fun o=>by
   unfold zcy
   rw [if_neg (by rw [hk];decide),if_pos hk]
  rw [zbl,e1]
  cases hl:zab M c.file with
  | none=>
   rw [if_neg (by decide)]
   cases e:eqN c.file m
   ·simp
   ·have:=eqN_iff.1 e
    subst this
    rw [hl]
    simp
  | some b=>
   rw [if_pos (show (some b).isSome=true from rfl),zbk]
   cases e:eqN c.file m
   ·simp
   ·simp only [if_true,Option.getD_some]
    split
    ·rename_i h
     rw [List.take_of_length_le (by omega)]
    ·rfl
theorem zhU {w:World} {S:Nat→Prop} {c:DChange} {dv:Value} {mb:Nat} {M:List File} (h:DoAt w S c dv) (hm:FilesAt w S mb M) (hs:SortF M) (hmb:¬ S mb) (hl:M.length≤10000) (hn:NmOk c.file) (h0:0≤c.at_) (h1:c.at_≤10000000) (h2:c.bytes.length≤10000000) (h3:((zab M c.file).getD []).length≤100000000) :
  ∃ f cs,dv = .func (.func f) #[] (List.toArray cs)∧FnB Try.prog f∧Calls Try.prog f (.map (some mb)::cs).toArray w (zc0 w S mb (zag M c)):=by
 cases h with
 | wr k hp b1 b2 b3 hr=>
  refine ⟨_,_,rfl,fnB Try.func54 (by decide) rfl,?_⟩
  have:=zl3 hp b1 b2 b3 hr hm hs hmb hl hn h0 h1 h2 h3
  have e:zag M c=zax ⟨c.file,za6 ((zab M c.file).getD []) c.at_.toNat c.bytes⟩ M:=by unfold zag;rw [if_pos k,zap]
  rw [e]
  exact this
 | cu k hp b1 b2=>
  refine ⟨_,_,rfl,fnB Try.func48 (by decide) rfl,?_⟩
  have:=zlY hp b1 b2 hm hs hmb hl hn h0 h1 h3
  rw [zjj hs c k] at this
  exact this
 | rm k hp b1=>
  refine ⟨_,_,rfl,fnB Try.func49 (by decide) rfl,?_⟩
  have:=zl9 hp b1 hm hs hmb hn
  have e:zag M c=zbC M c.file:=by unfold zag;rw [if_neg (by rw [k];decide),if_neg (by rw [k];decide)]
  rw [e]
  exact this
theorem box1 {w:World} {g:Nat} {t:TypeId} {v0:Value} (h:Blk w g t #[v0]):w.cell? ⟨g,0,none⟩=some v0:=h.cell 0
theorem zkk {w:World} {g:Nat} {t:TypeId} {v0:Value} (h:Blk w g t #[v0]):w.frozen? ⟨g,0,none⟩=false:=h.frozen 0
theorem box5 {w:World} {g:Nat} {t:TypeId} {v0 v1 v2 v3 v4:Value} (h:Blk w g t #[v0,v1,v2,v3,v4]):w.cell? ⟨g,0,none⟩=some v0∧w.cell? ⟨g,1,none⟩=some v1∧w.cell? ⟨g,2,none⟩=some v2∧w.cell? ⟨g,3,none⟩=some v3∧w.cell? ⟨g,4,none⟩=some v4:=
 ⟨h.cell 0,h.cell 1,h.cell 2,h.cell 3,h.cell 4⟩
theorem thaw5 {w:World} {g:Nat} {t:TypeId} {v0 v1 v2 v3 v4:Value} (h:Blk w g t #[v0,v1,v2,v3,v4]):w.frozen? ⟨g,0,none⟩=false∧w.frozen? ⟨g,1,none⟩=false∧w.frozen? ⟨g,2,none⟩=false∧w.frozen? ⟨g,3,none⟩=false∧w.frozen? ⟨g,4,none⟩=false:=
 ⟨h.frozen 0,h.frozen 1,h.frozen 2,h.frozen 3,h.frozen 4⟩
theorem box7 {w:World} {g:Nat} {t:TypeId} {v0 v1 v2 v3 v4 v5 v6:Value} (h:Blk w g t #[v0,v1,v2,v3,v4,v5,v6]):w.cell? ⟨g,0,none⟩=some v0∧w.cell? ⟨g,1,none⟩=some v1∧w.cell? ⟨g,2,none⟩=some v2∧w.cell? ⟨g,3,none⟩=some v3∧w.cell? ⟨g,4,none⟩=some v4∧w.cell? ⟨g,5,none⟩=some v5∧w.cell? ⟨g,6,none⟩=some v6:=
 ⟨h.cell 0,h.cell 1,h.cell 2,h.cell 3,h.cell 4,h.cell 5,h.cell 6⟩
theorem zdU {w:World} {g:Nat} {t:TypeId} {v0 v1 v2 v3 v4 v5 v6:Value} (h:Blk w g t #[v0,v1,v2,v3,v4,v5,v6]):w.frozen? ⟨g,0,none⟩=false∧w.frozen? ⟨g,1,none⟩=false∧w.frozen? ⟨g,2,none⟩=false∧w.frozen? ⟨g,3,none⟩=false∧w.frozen? ⟨g,4,none⟩=false∧w.frozen? ⟨g,5,none⟩=false∧w.frozen? ⟨g,6,none⟩=false:=
 ⟨h.frozen 0,h.frozen 1,h.frozen 2,h.frozen 3,h.frozen 4,h.frozen 5,h.frozen 6⟩
theorem zeC {P:Program} (w:World) (a:Addr) (f:Fn) (bs cs:Array Value) (h:(w.cell? a).isSome=true) (hf:w.frozen? a=false):(store a (.func f bs cs)).run P w = .ok () (w.setCell a (.func f bs cs)):=by
 obtain ⟨u,hu⟩:=Option.isSome_iff_exists.1 h
 rw [run_store P w a _ _ rfl,hu]
 simp [hf]
def zmc (w:World) (c:DChange) (e:Ending) (w':World):Prop:=∃ cs:List Value,e = .returned (.agg cs.toArray)∧ChAt w' (fun x=>w.heap.size≤x) c cs∧Below w.heap.size w w'
set_option maxHeartbeats 1000000 in
theorem zbX {w:World} {S:Nat→Prop} {file:ByteArray} {at_:Int} {bv:Value} {bs:List Int} (hn:NmOk file) (h0:0≤at_) (h1:at_≤10000000) (hr:BRd w S bv bs) (h2:bs.length≤10000000) :
  Calls Try.prog 34 #[.string file,.int .i64 at_,bv] w (zmc w ⟨1,file,at_,bs⟩):=by
 have hC:=fun (w1:World) (hb:Below w.heap.size w w1)=>zdz (hr.here.same (Same.below hb)) (by omega:bs.length≤100000000)
 have HC:=Lib.hid hC
 obtain ⟨a,cap,rfl,_⟩:=hr.shape
 obtain ⟨n,hnn⟩:∃ n,bs.length=n:=⟨_,rfl⟩
 rw [hnn] at HC
 clear hC hr
 go_enter Try.func34,Try.ntmps34
 go_wp2_with fail
 refine (HC.out _ ((((((Below.refl _ _).alloc (Nat.le_refl _) _).alloc (by simp<;>omega) _).alloc (by simp<;>omega) _)).alloc (by simp<;>omega) _)).mono ?_
 rintro e w5 ⟨u,rfl,hb5,hu⟩
 have kA0:=((((Blk.newAt _ (w.heap.size) TSt #[.string file] (by simp)).alloc _).alloc _).alloc _).below hb5 (by simp<;>omega);have qA0_0:=box1 kA0;have fA0_0:=zkk kA0;have kA1:=(((Blk.newAt _ (w.heap.size+1) TIn #[.int .i64 at_] (by simp)).alloc _).alloc _).below hb5 (by simp<;>omega);have qA1_0:=box1 kA1;have fA1_0:=zkk kA1;have kA2:=((Blk.newAt _ (w.heap.size+1+1) TBy #[.slice a n cap] (by simp)).alloc _).below hb5 (by simp<;>omega);have qA2_0:=box1 kA2;have fA2_0:=zkk kA2;have kA3:=(Blk.newAt _ (w.heap.size+1+1+1) TCh #[.string ⟨#[]⟩,.nilFunc,.int .i64 0,.slice none 0 0,.bool false] (by simp)).below hb5 (by simp<;>omega);obtain ⟨qA3_0,qA3_1,qA3_2,qA3_3,qA3_4⟩:=box5 kA3;obtain ⟨fA3_0,fA3_1,fA3_2,fA3_3,fA3_4⟩:=thaw5 kA3
 obtain ⟨a2,c2,rfl,_⟩:=hu.shape
 have HU:=Lib.hid hu
 have hsf:= @zeC Try.prog
 have HB5:=Lib.hid hb5
 clear hu hb5
 go_wp2_with fail
 obtain ⟨W,hW⟩:∃ W:World,((((((w5.setCell ⟨w.heap.size+1+1,0,none⟩ (.slice a2 n c2)).setCell ⟨w.heap.size+1+1+1,0,none⟩ (.string file)).setCell ⟨w.heap.size+1+1+1,1,none⟩ (.func (.func fWr) #[] #[ptrV w.heap.size,ptrV (w.heap.size+1),ptrV (w.heap.size+1+1)])).setCell ⟨w.heap.size+1+1+1,2,none⟩ (.int .i64 at_)).setCell ⟨w.heap.size+1+1+1,3,none⟩ (.slice a2 n c2)).setCell ⟨w.heap.size+1+1+1,4,none⟩ (.bool true))=W:=⟨_,rfl⟩
 have m0:Blk W w.heap.size TSt #[.string file]:=by
  rw [← hW];exact (((((kA0.far (by simp<;>omega) _).far (by simp<;>omega) _).far (by simp<;>omega) _).far (by simp<;>omega) _).far (by simp<;>omega) _).far (by simp<;>omega) _
 have m1:Blk W (w.heap.size+1) TIn #[.int .i64 at_]:=by
  rw [← hW];exact (((((kA1.far (by simp<;>omega) _).far (by simp<;>omega) _).far (by simp<;>omega) _).far (by simp<;>omega) _).far (by simp<;>omega) _).far (by simp<;>omega) _
 have m2:Blk W (w.heap.size+1+1) TBy #[.slice a2 n c2]:=by
  rw [← hW];exact (((((kA2.set 0 (.slice a2 n c2)).far (by simp<;>omega) _).far (by simp<;>omega) _).far (by simp<;>omega) _).far (by simp<;>omega) _).far (by simp<;>omega) _
 have m3:Blk W (w.heap.size+1+1+1) TCh #[.string file,.func (.func fWr) #[] #[ptrV w.heap.size,ptrV (w.heap.size+1),ptrV (w.heap.size+1+1)],.int .i64 at_,.slice a2 n c2,.bool true]:=by
  rw [← hW];exact (((((kA3.far (by simp<;>omega) (p:=⟨w.heap.size+1+1,0,none⟩) _).set 0 (.string file)).set 1 _).set 2 _).set 3 _).set 4 _
 obtain ⟨g0,g1,g2,g3,g4⟩:=box5 m3
 have hS:Same (fun x=>w.heap.size+4≤x) w5 W:=by
  rw [← hW]
  exact ((((((Same.refl _ w5).trans (Same.setCell (by show ¬ _;simp<;>omega) _)).trans (Same.setCell (by show ¬ _;simp<;>omega) _)).trans (Same.setCell (by show ¬ _;simp<;>omega) _)).trans (Same.setCell (by show ¬ _;simp<;>omega) _)).trans (Same.setCell (by show ¬ _;simp<;>omega) _)).trans (Same.setCell (by show ¬ _;simp<;>omega) _)
 have hB:Below w.heap.size w W:=by
  have h4:=(((((Below.refl w.heap.size w).alloc (Nat.le_refl _) (.cells #[.string file] TSt)).alloc (by simp<;>omega) (.cells #[.int .i64 at_] TIn)).alloc (by simp<;>omega) (.cells #[.slice a n cap] TBy)).alloc (by simp<;>omega) (.cells #[.string ⟨#[]⟩,.nilFunc,.int .i64 0,.slice none 0 0,.bool false] TCh)).trans (HB5.out.mono (by simp<;>omega))
  rw [← hW]
  exact (((((h4.setCell (by simp<;>omega) _).setCell (by simp<;>omega) _).setCell (by simp<;>omega) _).setCell (by simp<;>omega) _).setCell (by simp<;>omega) _).setCell (by simp<;>omega) _
 have hu2:=HU.out
 rw [hnn] at hu2
 have hr:BRd W (fun x=>w.heap.size≤x) (.slice a2 n c2) bs:=((hu2.mono (T:=fun x=>w.heap.size+4≤x) (fun b _ hb=>by simp at hb;show w.heap.size+4≤b;omega)).same hS).mono fun b _ hb=>by have hb:w.heap.size+4≤b:=hb;omega
 unfold ptrV at hW g1
 rw [hW]
 refine bodyPost_ret (v:= .agg #[.string file,.func (.func fWr) #[] #[ptrV w.heap.size,ptrV (w.heap.size+1),ptrV (w.heap.size+1+1)],.int .i64 at_,.slice a2 n c2,.bool true]) (by simp [results,Try.results34,go_sem,g0,g1,g2,g3,g4,ptrV]) rfl ⟨[_,_,_,_,_],rfl,⟨⟨_,_,rfl,.wr rfl ⟨Nat.le_refl _,Nat.le_succ _,by show w.heap.size≤w.heap.size+1+1;omega⟩ m0 m1 m2 hr,hr⟩,hn,⟨h0,h1⟩,h2⟩,hB⟩
end Go.Proofs.Ytfccndnnpkiajaa
namespace Go.Proofs.Ytfccndnnpkiajaa
open Go.RowKit Go.ChangeShapes Go.WideShapes Go.Deep
set_option maxRecDepth 100000
section
variable {w : World} {b : Nat} {d : RDisk} {F : Nat → Prop} {m1 m2 : Nat} {v : Value} {rows : List (List Value)}
theorem zdY {n:Nat} {xs:List Value} (h:w.ownsRow 0 TCh 5 v n xs) {g:Nat} (hg:v.ownBlock=some g):∃ cur,w.heap[g]? = some (.cells cur TCh (0,0)):=by
 rcases h.2 with ⟨rfl,_⟩ | ⟨g',cap,cur,rfl,_,hh,_⟩
 ·cases hg
 ·have e:g'=g:=Option.some.inj hg
  subst e
  exact ⟨cur,hh⟩
theorem DkAt.b1 (h:DkAt w b d F m1 m2 v rows):b≠m1:=fun e=>by
 obtain ⟨es,c,hb⟩:=h.la.blk
 have h1:=h.blk
 unfold Blk at h1
 rw [← e,h1] at hb
 cases hb
theorem DkAt.b2 (h:DkAt w b d F m1 m2 v rows):b≠m2:=fun e=>by
 obtain ⟨es,c,hb⟩:=h.no.blk
 have h1:=h.blk
 unfold Blk at h1
 rw [← e,h1] at hb
 cases hb
theorem DkAt.bv (h:DkAt w b d F m1 m2 v rows):v.ownBlock≠some b:=fun e=>by
 obtain ⟨cur,hb⟩:=zdY h.row e
 have h1:=h.blk
 unfold Blk at h1
 rw [h1] at hb
 have:=Option.some.inj hb
 simp only [Obj.cells.injEq] at this
 exact absurd this.2.1 (by decide)
theorem DkAt.v1 (h:DkAt w b d F m1 m2 v rows):v.ownBlock≠some m1:=fun e=>by
 obtain ⟨cur,hb⟩:=zdY h.row e
 obtain ⟨es,c,hb2⟩:=h.la.blk
 rw [hb2] at hb
 cases hb
theorem DkAt.v2 (h:DkAt w b d F m1 m2 v rows):v.ownBlock≠some m2:=fun e=>by
 obtain ⟨cur,hb⟩:=zdY h.row e
 obtain ⟨es,c,hb2⟩:=h.no.blk
 rw [hb2] at hb
 cases hb
theorem DkAt.kept (h:DkAt w b d F m1 m2 v rows) {w':World} {G:Nat→Prop} (hs:w.heap.size≤w'.heap.size) (e:∀ x,F x→w'.heap[x]? = w.heap[x]?) (hG:∀ x,F x→G x) (hGl:∀ x,G x→x<w'.heap.size):DkAt w' b d G m1 m2 v rows:=by
 have hS:Same (SB F b m1 m2 v) w w':=⟨hs,fun x hx _=>e x hx.1⟩
 have hT:∀ x,x<w.heap.size→SB F b m1 m2 v x→SB G b m1 m2 v x:=fun x _ hx=>⟨hG x hx.1,hx.2⟩
 exact ⟨(e b h.fb).trans h.blk,h.la.kept (e m1 h.f1) hS hT,h.no.kept (e m2 h.f2) hS hT,zai h.row fun g hg=>e g (h.fv g hg),h.rl,fun i hi=>(h.ch i hi).kept hS hT,hGl,hG _ h.fb,hG _ h.f1,hG _ h.f2,fun g hg=>hG _ (h.fv g hg),h.mm,h.inv⟩
end
theorem DkOk.kept {w w':World} {b:Nat} {d:RDisk} {F:Nat→Prop} (h:DkOk w b d F) (hs:w.heap.size≤w'.heap.size) (e:∀ x,F x→w'.heap[x]? = w.heap[x]?):DkOk w' b d F:=by
 obtain ⟨m1,m2,v,rows,h⟩:=h.o
 exact ⟨m1,m2,v,rows,h.kept hs e (fun _ h=>h) fun x hx=>Nat.lt_of_lt_of_le (h.fl x hx) hs⟩
def DPost (w:World) (b:Nat) (F:Nat→Prop) (d':RDisk) (r:Value) (e:Ending) (w':World):Prop:=
 e = .returned r∧∃ F',DkOk w' b d' F'∧(∀ x,F' x→F x∨w.heap.size≤x)∧Turn F w w'
theorem DPost.same {w w':World} {b:Nat} {F:Nat→Prop} {d:RDisk} {r:Value} (h:DkOk w b d F) (hb:Below w.heap.size w w'):DPost w b F d r (.returned r) w' :=
 ⟨rfl,F,h.kept hb.size fun x hx=>hb.block x (h.lt hx),fun x hx=> .inl hx,Turn.below hb⟩
theorem DkAt.scal {w w':World} {b:Nat} {d d':RDisk} {F:Nat→Prop} {m1 m2:Nat} {v:Value} {rows:List (List Value)} (h:DkAt w b d F m1 m2 v rows) (hs:w.heap.size≤w'.heap.size) (hb:Blk w' b TDi (dkCs d' m1 m2 v)) (e:∀ x,x<w.heap.size→x≠b→w'.heap[x]? = w.heap[x]?)
  (el:d'.lasts=d.lasts) (ec:d'.changes=d.changes) (er:d'.room=d.room) (hl:I64 d'.left):DkAt w' b d' F m1 m2 v rows:=by
 have hS:Same (SB F b m1 m2 v) w w':=⟨hs,fun x hx hl=>e x hl hx.2.1⟩
 have ef:zad d'=zad d:=by unfold zad;rw [el,ec]
 have hi:DkI d':=⟨el▸h.inv.sl,el▸h.inv.fb,ec▸h.inv.ch,el▸h.inv.nm,by rw [el,ec];exact h.inv.np,er▸h.inv.rm,hl⟩
 refine ⟨hb,?_,?_,?_,by rw [ec];exact h.rl,?_,fun x hx=>Nat.lt_of_lt_of_le (h.fl x hx) hs,h.fb,h.f1,h.f2,h.fv,h.mm,hi⟩
 ·rw [el];exact h.la.kept (e m1 (h.fl _ h.f1) (Ne.symm h.b1)) hS fun _ _ h=>h
 ·rw [ef];exact h.no.kept (e m2 (h.fl _ h.f2) (Ne.symm h.b2)) hS fun _ _ h=>h
 ·rw [ec];exact zai h.row fun g hg=>e g (h.fl _ (h.fv g hg)) fun e=>h.bv (e▸hg)
 ·rw [ec];exact fun i hi=>(h.ch i hi).kept hS fun _ _ h=>h
theorem zaV {w:World} {b:Nat} {d:RDisk} {F:Nat→Prop} (h:DkOk w b d F):Calls Try.prog 29 #[ptrV b] w fun e w'=>e = .returned (.int .i64 (if d.down then 120 else 0))∧Below w.heap.size w w':=by
 obtain ⟨m1,m2,v,rows,h⟩:=h.o
 obtain ⟨q0,q1,q2,q3,q4,q5,q6⟩:=box7 h.blk
 clear h
 unfold ptrV
 cases hd:d.down
 all_goals
  rw [hd] at q4
  go_enter Try.func29,Try.ntmps29
  go_wp2
  go_ret
  exact ⟨rfl,Below.refl _ _⟩
theorem zjc {w:World} {b:Nat} {d:RDisk} {F:Nat→Prop} (h:DkOk w b d F):Calls Try.prog 15 #[ptrV b] w fun e w'=>e = .returned (.bool d.down)∧Below w.heap.size w w':=by
 obtain ⟨m1,m2,v,rows,h⟩:=h.o
 obtain ⟨q0,q1,q2,q3,q4,q5,q6⟩:=box7 h.blk
 clear h
 unfold ptrV
 go_enter Try.func15,Try.ntmps15
 go_wp2
 go_ret
 exact ⟨rfl,Below.refl _ _⟩
end Go.Proofs.Ytfccndnnpkiajaa
namespace Go.Proofs.Ytfccndnnpkiajaa
open Go.RowKit Go.ChangeShapes Go.WideShapes Go.Deep
set_option maxRecDepth 100000
theorem wrap_i64 (x:Int):I64 (IntKind.i64.wrap x):=by rw [IntKind.wrap_i64];omega
theorem zak {w:World} {p:Addr} {u:Value} {x:Nat} (h:x≠p.block):(w.setCell p u).heap[x]? = w.heap[x]? := Below.heap_setCell w p u x h
theorem zdW {w:World} {b:Nat} {d:RDisk} {F:Nat→Prop} (h:DkOk w b d F):Calls Try.prog 33 #[ptrV b] w (DPost w b F (zbR d) (.tuple #[])):=by
 obtain ⟨m1,m2,v,rows,h⟩:=h.o
 obtain ⟨q0,q1,q2,q3,q4,q5,q6⟩:=box7 h.blk
 obtain ⟨z0,z1,z2,z3,z4,z5,z6⟩:=zdU h.blk
 have H:=Lib.hid h
 clear h
 unfold ptrV
 cases hs:d.stops
 ·rw [hs] at q5
  go_enter Try.func33,Try.ntmps33
  go_wp2
  go_end0
  have e:zbR d=d:=by
   cases d
   simp only at hs
   subst hs
   rfl
  rw [e]
  exact DPost.same ⟨_,_,_,_,H.out⟩ (Below.refl _ _)
 ·rw [hs] at q5
  have hw:=Lib.hid (wrap_i64 (d.left-1))
  obtain ⟨l,hl⟩:∃ l,IntKind.i64.wrap (d.left-1)=l:=⟨_,rfl⟩
  rw [hl] at hw
  have hdec:∀ w':World,w'.cell? ⟨b,6,none⟩=some (.int .i64 l)→w'.cell? ⟨b,6,none⟩=some (.int .i64 l):=fun _ h=>h
  clear hdec
  go_enter Try.func33,Try.ntmps33
  go_wp2
  go_end0
  have h:=H.out
  refine ⟨rfl,F,⟨m1,m2,v,rows,h.scal (by simp [World.setCell]) ?_ (fun x _ hx=>by rw [zak hx,zak hx]) rfl rfl rfl ?_⟩,fun x hx=> .inl hx,((Turn.refl F w).set (.inl h.fb) _).set (.inl h.fb) _⟩
  ·have e:dkCs (zbR d) m1 m2 v = #[.int .i64 d.room,.map (some m1),.map (some m2),v,.bool (decide (l≤0)),.bool true,.int .i64 l]:=by
    unfold dkCs zbR
    simp only [hs,if_true,hl]
   rw [e]
   have k:=(h.blk.set 6 (.int .i64 l)).set 4 (.bool (decide (l≤0)))
   simpa [dkCs,hs] using k
  ·show I64 (if d.stops then IntKind.i64.wrap (d.left-1) else d.left)
   rw [hs,if_pos rfl,hl];exact hw.out
theorem zi1 {w:World} {b:Nat} {d:RDisk} {F:Nat→Prop} (h:DkOk w b d F) (n:Int):Calls Try.prog 21 #[ptrV b,.int .i64 n] w (DPost w b F (zdg d n).1 (.int .i64 (zdg d n).2)):=by
 have hst:=Lib.hid (zaV h)
 have h0:=Lib.hid h
 obtain ⟨m1,m2,v,rows,h⟩:=h.o
 have H:=Lib.hid h
 clear h
 cases hd:d.down
 ·rw [hd] at hst
  unfold zdg
  rw [hd]
  simp only [Bool.false_eq_true,if_false]
  by_cases hn:n<0∨n>1000000000
  ·rw [if_pos hn]
   unfold ptrV at hst ⊢
   by_cases h1:n<0
   ·have c1:decide (n<0)=true:=decide_eq_true h1
    go_enter Try.func21,Try.ntmps21
    go_wp2_with (go_at_call 29;refine hst.out.mono ?_;rintro e w1 ⟨rfl,hb1⟩)
    go_ret
    exact DPost.same h0.out hb1
   ·have c1:decide (n<0)=false:=decide_eq_false h1
    have c2:decide (n>1000000000)=true:=decide_eq_true (by omega)
    go_enter Try.func21,Try.ntmps21
    go_wp2_with (go_at_call 29;refine hst.out.mono ?_;rintro e w1 ⟨rfl,hb1⟩)
    go_ret
    exact DPost.same h0.out hb1
  ·rw [if_neg hn]
   have c1:decide (n<0)=false:=decide_eq_false (by omega)
   have c2:decide (n>1000000000)=false:=decide_eq_false (by omega)
   have hn1:I64 n:=⟨by omega,by omega⟩
   have HN:=Lib.hid hn1
   clear hn hn1
   unfold ptrV at hst ⊢
   go_enter Try.func21,Try.ntmps21
   go_wp2_with (go_at_call 29;refine hst.out.mono ?_;rintro e w1 ⟨rfl,hb1⟩;have k1:=H.out.blk.below hb1 (H.out.fl _ H.out.fb);obtain ⟨q0,q1,q2,q3,q4,q5,q6⟩:=box7 k1;obtain ⟨z0,z1,z2,z3,z4,z5,z6⟩:=zdU k1;have HB:=Lib.hid hb1;clear hb1 k1)
   go_ret
   have h:=H.out
   have hb1:=HB.out
   have h1:DkAt w1 b d F m1 m2 v rows:=h.kept hb1.size (fun x hx=>hb1.block x (h.fl x hx)) (fun _ h=>h) fun x hx=>Nat.lt_of_lt_of_le (h.fl x hx) hb1.size
   refine ⟨rfl,F,⟨m1,m2,v,rows,h1.scal (by simp [World.setCell]) ?_ (fun x _ hx=>by rw [zak hx,zak hx,zak hx]) rfl rfl rfl HN.out⟩,fun x hx=> .inl hx,(((Turn.below hb1).set (.inl h.fb) _).set (.inl h.fb) _).set (.inl h.fb) _⟩
   have k:=((h1.blk.set 5 (.bool true)).set 6 (.int .i64 n)).set 4 (.bool (n==0))
   simpa [dkCs] using k
 ·have e:zdg d n=(d,120):=by unfold zdg;rw [hd];rfl
  rw [e]
  rw [hd] at hst
  unfold ptrV at hst ⊢
  go_enter Try.func21,Try.ntmps21
  go_wp2_with (go_at_call 29;refine hst.out.mono ?_;rintro e w1 ⟨rfl,hb1⟩)
  go_ret
  exact DPost.same h0.out hb1
theorem zbH (d:RDisk) (n:ByteArray):zbe d n=(match zab (zad d) n with | none=>([],122) | some b=>(b,0)):=by
 unfold zbe
 have h:=(zay (zad d) n).1
 cases e:zab (zad d) n with
 | none=>rw [if_pos (h.2 e)]
 | some b=>
  have h2:¬ za4 (zad d) n<0:=fun g=>by rw [h.1 g] at e;cases e
  rw [if_neg h2,zap,e]
  rfl
theorem zgF {l:List File} {c:DChange} {M:Nat} (hl:∀ x∈l,x.bytes.length≤M) (hc:0≤c.at_∧c.at_+c.bytes.length≤(M:Int)):∀ x∈zag l c,x.bytes.length≤M:=by
 intro x hx
 unfold zag at hx
 split at hx
 ·rcases zaE hx with e | hx
  ·subst e
   show (za6 _ _ _).length≤M
   rw [za9]
   have:=zbD (n:=c.file) hl
   omega
  ·exact hl x hx
 ·split at hx
  ·split at hx
   ·exact hl x hx
   ·rcases zaE hx with e | hx
    ·subst e
     show (List.take _ _).length≤M
     rw [List.length_take]
     have:=zbD (n:=c.file) hl
     omega
    ·exact hl x hx
  ·exact hl x (List.mem_filter.1 hx).1
theorem zaI {M:Nat}:∀ (cs:List DChange) (l:List File),(∀ x∈l,x.bytes.length≤M)→(∀ c∈cs,0≤c.at_∧c.at_+c.bytes.length≤(M:Int))→∀ x∈cs.foldl zag l,x.bytes.length≤M
 | [],l,hl,_=>hl
 | c::cs,l,hl,hc=>zaI cs (zag l c) (zgF hl (hc c (List.mem_cons_self ..))) fun x hx=>hc x (List.mem_cons_of_mem _ hx)
theorem DkI.now {d:RDisk} (h:DkI d):∀ x∈zad d,x.bytes.length≤4194304:=zaI _ _ h.fb fun c hc=>⟨(h.ch c hc).1,(h.ch c hc).2.1⟩
theorem DkI.sn {d:RDisk} (h:DkI d):SortF (zad d):=h.sl.dones _
theorem zbr {l:List File} {M:Nat} (h:∀ x∈l,x.bytes.length≤M) (n:ByteArray):((zab l n).getD []).length≤M:=by
 rw [← zap]
 exact zbD h
def zmd (w:World) (r:List Int×Int) (e:Ending) (w':World):Prop:=∃ u,e = .returned (.tuple #[u,.int .i64 r.2])∧Below w.heap.size w w'∧BRd w' (fun x=>w.heap.size≤x) u r.1
theorem zdZ {w:World} {b:Nat} {d:RDisk} {F:Nat→Prop} (h:DkOk w b d F) {n:ByteArray} (hn:NmOk n):Calls Try.prog 11 #[ptrV b,.string n] w (zmd w (zbe d n)):=by
 obtain ⟨m1,m2,v,rows,h⟩:=h.o
 obtain ⟨q0,q1,q2,q3,q4,q5,q6⟩:=box7 h.blk
 obtain ⟨u,hlk,_,hu⟩:=h.no.look hn
 have hl:=zbr h.inv.now n
 rw [zbH]
 cases e:zab (zad d) n with
 | none=>
  rw [e] at hlk
  clear h hu hl e
  unfold ptrV
  go_enter Try.func11,Try.ntmps11
  go_wp2
  go_ret2
  exact ⟨_,rfl,Below.refl _ _,BRd.nil _ _⟩
 | some bs=>
  rw [e] at hlk hu hl
  have hC:=Lib.hid (zdz hu (by have hl:bs.length≤4194304:=hl;show bs.length≤_;omega))
  simp only [Option.isSome_some] at hlk
  clear h hu hl e
  unfold ptrV
  go_enter Try.func11,Try.ntmps11
  go_wp2_with (go_at_call 28;refine hC.out.mono ?_;rintro e w1 ⟨r,rfl,hb1,hr⟩)
  go_ret2
  exact ⟨_,rfl,hb1,hr⟩
def zbz (room:Int):RDisk:=⟨room,[],[],false,false,0⟩
theorem zgb {w:World} {room:Int} (h0:1≤room) (h1:room≤4194304):Calls Try.prog 9 #[.int .i64 room] w fun e w'=>∃ b F,e = .returned (.tuple #[ptrV b,.int .i64 0])∧DkOk w' b (zbz room) F∧(∀ x,F x→w.heap.size≤x)∧Below w.heap.size w w':=by
 have c1:decide (room<1)=false:=decide_eq_false (by omega)
 have c2:decide (room>4194304)=false:=decide_eq_false (by omega)
 have hmm:= @run_makeMap Try.prog
 have HR:=Lib.hid (show 1≤room∧room≤4194304 from ⟨h0,h1⟩)
 clear h0 h1
 go_enter Try.func9,Try.ntmps9
 go_wp2
 go_ret2
 obtain ⟨s,hs⟩:∃ s,w.heap.size=s:=⟨_,rfl⟩
 have f1:FilesAt (w.alloc (.map #[] 0)) (SB (fun x=>x=s∨x=s+1∨x=s+2) (s+2) s (s+1) (.slice none 0 0)) s []:=by have:=FilesAt.made w (SB (fun x=>x=s∨x=s+1∨x=s+2) (s+2) s (s+1) (.slice none 0 0));rwa [hs] at this
 have f2:=FilesAt.made (w.alloc (.map #[] 0)) (SB (fun x=>x=s∨x=s+1∨x=s+2) (s+2) s (s+1) (.slice none 0 0))
 have e2:(w.alloc (.map #[] 0)).heap.size=s+1:=by simp [hs]
 have e3:((w.alloc (.map #[] 0)).alloc (.map #[] 0)).heap.size=s+2:=by simp [hs]
 rw [e2] at f2
 have fa:∀ {w:World} {S:Nat→Prop} {mb:Nat} {M:List File} (o:Obj),FilesAt w S mb M→FilesAt (w.alloc o) S mb M:=fun o h=>h.kept (Below.heap_alloc _ _ _ h.lt) (Same.alloc _ _ _) fun _ _ h=>h
 have hR:=HR.out
 rw [hs]
 refine ⟨s+2,fun x=>x=s∨x=s+1∨x=s+2,rfl,⟨s,s+1,.slice none 0 0,[],⟨?_,fa _ (fa _ f1),fa _ f2,World.ownsRow_nil _ _ _ _,rfl,fun i hi=>absurd hi (Nat.not_lt_zero _),fun x hx=>?_,.inr (.inr rfl),.inl rfl,.inr (.inl rfl),fun g hg=>(by cases hg),by omega,⟨List.Pairwise.nil,fun x hx=>(by cases hx),fun x hx=>(by cases hx),fun x hx=>(by cases hx),trivial,hR,⟨by show (_:Int)≤0;decide,by show (0:Int)≤_;decide⟩⟩⟩⟩,fun x hx=>by omega,?_⟩
 ·have:=Blk.newAt ((w.alloc (.map #[] 0)).alloc (.map #[] 0)) (s+2) TDi (dkCs (zbz room) s (s+1) (.slice none 0 0)) e3.symm
  exact this
 ·simp [hs]
  omega
 ·have:=((((Below.refl w.heap.size w).alloc (Nat.le_refl _) (.map #[] 0)).alloc (by simp) (.map #[] 0)).alloc (by simp<;>omega) (.cells (dkCs (zbz room) s (s+1) (.slice none 0 0)) TDi))
  rw [hs] at this
  exact this
theorem zhV {w:World} {room:Int} (h:room<1∨room>4194304):Calls Try.prog 9 #[.int .i64 room] w fun e w'=>e = .returned (.tuple #[.pointer none,.int .i64 1])∧w'=w:=by
 by_cases h1:room<1
 ·have c1:decide (room<1)=true:=decide_eq_true h1
  go_enter Try.func9,Try.ntmps9
  go_wp2
  go_ret2
  exact ⟨rfl,rfl⟩
 ·have c1:decide (room<1)=false:=decide_eq_false h1
  have c2:decide (room>4194304)=true:=decide_eq_true (by omega)
  go_enter Try.func9,Try.ntmps9
  go_wp2
  go_ret2
  exact ⟨rfl,rfl⟩
end Go.Proofs.Ytfccndnnpkiajaa
