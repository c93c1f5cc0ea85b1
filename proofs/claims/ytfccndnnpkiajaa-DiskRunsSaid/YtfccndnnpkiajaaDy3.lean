/- Parts of the proof, joined: the symbolic walk and what it is told of each function. Condition: as each theorem says. -/
import Derived.Lib.SliceRun
import Derived.Laws.OwnMore
import Derived.Laws.CopyOwn
import Derived.Lib.AppendStr
import Derived.Laws.StructEq
import Derived.ChangeKeysEq
import Derived.Laws.BytesString
import Derived.Lib.ConvBytes
import Derived.Sort.Walk0
import Derived.Maps.Own
import Derived.Maps.OwnOps
import Derived.Maps.OwnSet
import Derived.Maps.Views
import Derived.BigRegion
import Derived.WalkSmall
import Derived.Test.YtfccndnnpkiajaaDy2
set_option linter.unusedVariables false
set_option linter.unusedSimpArgs false
set_option linter.unusedSectionVars false
namespace Go.Proofs.Ytfccndnnpkiajaa
open Go.RowKit Go.ChangeShapes Go.WideShapes Go.Deep
theorem zeA {f:Nat→Nat→BE} {m:Nat→BE} {rest:List (Nat×BE)}:∀ (L:List Nat) (k:Nat),zbg L=true→(∀ i t,L[i]? = some t→putF (asg f k L++rest) m t=f (k+i) t)∧(∀ t,t∉L→putF (asg f k L++rest) m t=putF rest m t)
 | [],k,_=>⟨fun i t h=>by simp at h,fun t _=>rfl⟩
 | a::r,k,hn=>by
  simp only [zbg,Bool.and_eq_true,Bool.not_eq_true'] at hn
  obtain ⟨h1,h2⟩:=zeA (f:=f) (m:=m) (rest:=rest) r (k+1) hn.2
  have har:a∉r:=by have:=hn.1;simpa using this
  have e:∀ t,putF (asg f k (a::r)++rest) m t=if t=a then f k a else putF (asg f (k+1) r++rest) m t:=fun t=>rfl
  refine ⟨fun i t h=>?_,fun t h=>?_⟩
  ·cases i with
   | zero=>
    simp only [List.getElem?_cons_zero,Option.some.injEq] at h
    subst h
    rw [e,if_pos rfl,Nat.add_zero]
   | succ i=>
    have h:=h
    simp only [List.getElem?_cons_succ] at h
    have hne:t≠a:=fun e2=>har (e2▸List.mem_of_getElem? h)
    rw [e,if_neg hne,h1 i t h,show k+1+i=k+(i+1) by omega]
  ·simp only [List.mem_cons,not_or] at h
   rw [e,if_neg h.1,h2 t h.2]
theorem zjJ:∀ (n c j:Nat),j<n→(blkN c n)[j]? = some (c+j)
 | n+1,c,0,_=>rfl
 | n+1,c,j+1,h=>by rw [blkN,List.getElem?_cons_succ,zjJ n (c+1) j (by omega),show c+1+j=c+(j+1) by omega]
 | 0,_,_,h=>by omega
theorem zex:∀ (n c:Nat),zbg (blkN c n)=true
 | 0,_=>rfl
 | n+1,c=>by
  rw [blkN,zbg,Bool.and_eq_true]
  refine ⟨?_,zex n (c+1)⟩
  cases h:(blkN (c+1) n).contains c
  ·rfl
  ·have:=(zbM n (c+1) c).1 (by simpa using h)
   omega
theorem zku (a b:List (Nat×BE)) (m:Nat→BE):putF (a++b) m=putF a (putF b m):=by
 induction a with
 | nil=>rfl
 | cons x a ih=>obtain ⟨t,e⟩:=x;funext u;show (if u=t then e else putF (a++b) m u)=(if u=t then e else putF a (putF b m) u);rw [ih]
section
variable {P : Program} {base : Nat} {X : Cx} {w0 : World}
theorem Cl.mi_at (q:Cl) {k u:Nat} (h:q.V.T[k]? = some u):mOf q.mi (k+2)=(vwB q.V (q.gl.getD k 0) (q.V.m u)).1:=by
 rw [zcv]
 show ((q.bV.map (·.1))).getD k .empty=_
 have:=zcb (f:=fun l t=>vwB q.V l (q.V.m t)) (ls:=q.gl) h
 have e:q.bV[k]? = some (vwB q.V (q.gl.getD k 0) (q.V.m u)):=this
 simp [List.getD,e]
theorem Cl.mi_out (q:Cl) {k:Nat} (h:q.V.T[k]? = none):mOf q.mi (k+2) = .empty:=by
 rw [zcv]
 show ((q.bV.map (·.1))).getD k .empty=_
 have:q.V.T.length≤k:=by simpa using h
 have hl:q.bV.length=q.V.T.length:=zdw _ _
 simp [List.getD,List.getElem?_eq_none (show q.bV.length≤k by omega)]
theorem zl1 {V:Vw} {l:Nat} (e:BE):(vwB V l e).1 ≠ .empty:=by cases e<;>simp [vwB]
theorem Cl.mi_len (q:Cl):q.mi.length=2+q.V.T.length:=by
 have:q.bV.length=q.V.T.length:=zdw _ _
 simp [Cl.mi,this];omega
structure Cl.Good (q:Cl):Prop where
 nd:zbg q.V.T=true
 fl:∀ i i' j,(i,j)∈q.LP→(i',j)∈q.LP→i=i'
 fo:∀ i i' j,(i,j)∈q.OP→(i',j)∈q.OP→i=i'
 bl:∀ i j,(i,j)∈q.LP→i<q.nl
 bo:∀ i j,(i,j)∈q.OP→i<q.nl∧j∉q.V.T
 nl:q.nl≤2+q.V.T.length
 lv:∀ u,u∈q.V.T→(q.V.m u).live=true
 ft:∀ e,e∈q.bV→∀ T vs,e.1 = .cells T vs→vs.all SV.flat=true
theorem zlI {l:List (Nat×Nat)} (h:fnP l=true) {i i' j:Nat} (h1:(i,j)∈l) (h2:(i',j)∈l):i=i':=by
 have:=List.all_eq_true.1 (List.all_eq_true.1 h _ h1) _ h2
 simp only [Bool.or_eq_true,Bool.not_eq_true'] at this
 rcases this with h3 | h3
 ·simp at h3
 ·exact Nat.eq_of_beq_eq_true h3
theorem Cl.good {q:Cl} (h:q.ok=true):q.Good:=by
 simp only [Cl.ok,Bool.and_eq_true] at h
 obtain ⟨⟨⟨⟨⟨⟨⟨h1,h2⟩,h3⟩,h4⟩,h5⟩,h6⟩,h7⟩,h8⟩:=h
 refine ⟨h1,fun i i' j=>zlI h2,fun i i' j=>zlI h3,fun i j hp=>?_,fun i j hp=>?_,Nat.le_of_ble_eq_true h6,fun u hu=>List.all_eq_true.1 h7 u hu,fun e he T vs e2=>?_⟩
 ·have:=List.all_eq_true.1 h4 _ hp
  simp [Nat.blt] at this;omega
 ·have:=List.all_eq_true.1 h5 _ hp
  simp only [Bool.and_eq_true,Bool.not_eq_true'] at this
  exact ⟨by have:=this.1;simp [Nat.blt] at this;omega,by simpa using this.2⟩
 ·have:=List.all_eq_true.1 h8 _ he
  rw [e2] at this;exact this
theorem zmf (V:Vw) (l:Nat) (e:BE):(vwB V l e).1.isO=e.isO:=by cases e<;>rfl
section one
variable {q : Cl} {E : Env} {w : World} (hm : MemOk base X w0 E q.V.m w)
include hm
theorem Cl.hasT (hg:q.Good) {t b:Nat} (h:Has (q.env E) (mOf q.mi) t b):∃ k u,t=k+2∧q.V.T[k]? = some u∧Has E q.V.m u b:=by
 obtain ⟨hl,v,hv,hvb⟩:=h
 match t,hl,hv with
 | 0,hl,_=>cases hl
 | 1,hl,_=>cases hl
 | k+2,hl,hv=>
  have hvb:Fo (q.env E) (k+2) v (mOf q.mi (k+2)) b:=hvb
  have hv:(match q.V.T[k]? with | some u=>E.β u | none=>none)=some v:=hv
  cases hk:q.V.T[k]? with
  | none=>rw [hk] at hv;cases hv
  | some u=>
   rw [hk] at hv
   refine ⟨k,u,rfl,hk,hg.lv u (List.mem_of_getElem? hk),v,hv,?_⟩
   rw [q.mi_at hk] at hvb
   have hvb:=Fo.iff (e:=q.V.m u) (zmf _ _ _) hvb
   cases hmu:q.V.m u with
   | obj o=>
    rw [hmu] at hvb
    have h5:(match q.V.T[k]? with | some u=>E.φ u b | none=>False):=hvb
    rw [hk] at h5;exact h5
   | _=>rw [hmu] at hvb;exact hvb
theorem Cl.memIn (hg:q.Good) (hn:∀ p∈q.needs,p):MemOk w.heap.size (cxIn (q.env E) q.mi q.nl) w (q.env E) (mOf q.mi) w:=by
  have hbV:∀ k u,q.V.T[k]? = some u→vwB q.V (q.gl.getD k 0) (q.V.m u)∈q.bV:=fun k u h=>List.mem_of_getElem? (zcb (f:=fun l t=>vwB q.V l (q.V.m t)) (ls:=q.gl) h)
  have hbn:∀ k u,q.V.T[k]? = some u→∀ p∈(vwB q.V (q.gl.getD k 0) (q.V.m u)).2,p:=fun k u h p hp=>hn p (List.mem_append_right _ (List.mem_flatMap.2 ⟨_,hbV k u h,hp⟩))
  have hbl:∀ k u,q.V.T[k]? = some u→∀ p∈lpB q.V (q.gl.getD k 0) (q.V.m u),p∈q.LP:=fun k u h p hp=>List.mem_append_right _ (List.mem_flatMap.2 ⟨_,List.mem_of_getElem? (zcb (f:=fun l t=>lpB q.V l (q.V.m t)) (ls:=q.gl) h),hp⟩)
  have hbo:∀ k u,q.V.T[k]? = some u→∀ p∈opB q.V (q.gl.getD k 0) (q.V.m u),p∈q.OP:=fun k u h p hp=>List.mem_append_right _ (List.mem_flatMap.2 ⟨_,List.mem_of_getElem? (zcb (f:=fun l t=>opB q.V l (q.V.m t)) (ls:=q.gl) h),hp⟩)
  have hT:∀ t e,mOf q.mi t=e→e ≠ .dead→e ≠ .empty→∃ k u,t=k+2∧q.V.T[k]? = some u∧(vwB q.V (q.gl.getD k 0) (q.V.m u)).1=e:=by
    intro t e he h1 h2
    match t,he with
    | 0,he=>exact absurd he.symm h1
    | 1,he=>exact absurd he.symm h1
    | k+2,he=>
      cases hk:q.V.T[k]? with
      | none=>rw [q.mi_out hk] at he;exact absurd he.symm h2
      | some u=>rw [q.mi_at hk] at he;exact ⟨k,u,rfl,hk,he⟩
  have hβ:∀ k u,q.V.T[k]? = some u→(q.env E).β (k+2)=E.β u:=fun k u hk=>by
    show (match q.V.T[k]? with | some u=>E.β u | none=>none)=_
    rw [hk]
  refine ⟨fun t ht=>?_,fun t T vs ht=>?_,fun t T ls r ht=>?_,fun i b hb=>?_,fun i j b h1 h2=>?_,fun i hi he=>?_,fun t b hb=>?_,fun i b hi hb=>hb,fun t u b h1 h2=>?_,fun t v hv=>?_,BelowX.refl _ _ _,Nat.le_refl _,fun t o ht=>?_⟩
  · match t,ht with
    | 0,ht=>cases ht
    | 1,ht=>cases ht
    | k+2,ht=>
      cases hk:q.V.T[k]? with
      | some u=>rw [q.mi_at hk] at ht;exact absurd ht (zl1 _)
      | none=>
        have hlen:q.V.T.length≤k:=by simpa using hk
        refine ⟨?_,fun b hb=>?_⟩
        · show (match q.V.T[k]? with | some u=>E.β u | none=>none)=none
          rw [hk]
        · have:=hg.nl
          rcases hb with ⟨j,hj,_⟩ | ⟨j,hj,_⟩
          · have:=hg.bl _ _ hj;omega
          · have:=(hg.bo _ _ hj).1;omega
  · obtain ⟨k,u,rfl,hk,he⟩:=hT t _ ht (by simp) (by simp)
    cases hmu:q.V.m u with
    | cells T' us=>
      rw [hmu] at he
      simp only [vwB,BE.cells.injEq] at he
      obtain ⟨rfl,rfl⟩:=he
      obtain ⟨b,xs,c1,c2,c3,c4⟩:=hm.cells u _ _ hmu
      have n1:=hbn k u hk;have n2:=hbl k u hk;have n3:=hbo k u hk
      rw [hmu] at n1 n2 n3
      refine ⟨b,xs,(hβ k u hk).trans c1,c2,zee us xs (fun s hs v hv hp=>Cl.den0 hm (fun p hp=>n2 p (List.mem_flatMap.2 ⟨s,hs,hp⟩)) (fun p hp=>n3 p (List.mem_flatMap.2 ⟨s,hs,hp⟩)) hv hp) c3 n1,?_⟩
      exact hg.ft _ (hbV k u hk) T' _ (by rw [hmu];rfl)
    | row T' ls r=>rw [hmu] at he;simp [vwB] at he
    | obj o=>rw [hmu] at he;simp [vwB] at he
    | dead=>rw [hmu] at he;simp [vwB] at he
    | empty=>rw [hmu] at he;simp [vwB] at he
  · obtain ⟨k,u,rfl,hk,he⟩:=hT t _ ht (by simp) (by simp)
    cases hmu:q.V.m u with
    | row T' ls' r' =>
      rw [hmu] at he
      simp only [vwB,BE.row.injEq] at he
      obtain ⟨rfl,rfl,rfl⟩:=he
      obtain ⟨v,c1,c2⟩:=hm.row u _ _ _ hmu
      have n2:=hbl k u hk
      rw [hmu] at n2
      exact ⟨v,(hβ k u hk).trans c1,c2.mono (Nat.le_refl _) (fun b hb=>Cl.set0 hm (fun i hi=>n2 _ (List.mem_map.2 ⟨i,hi,rfl⟩)) hb)⟩
    | cells T' us=>rw [hmu] at he;simp [vwB] at he
    | obj o=>rw [hmu] at he;simp [vwB] at he
    | dead=>rw [hmu] at he;simp [vwB] at he
    | empty=>rw [hmu] at he;simp [vwB] at he
  · rcases hb with ⟨j,hj,hs⟩ | ⟨t,ht,hh⟩
    · refine ⟨(hm.lab j b hs).1,fun hi=>?_⟩
      have:=hg.bl _ _ hj
      have hi:q.nl≤i:=hi
      omega
    · refine ⟨hm.lt hh,fun hi=>?_⟩
      have:=(hg.bo _ _ ht).1
      have hi:q.nl≤i:=hi
      omega
  · rcases h1 with ⟨j1,hj1,hs1⟩ | ⟨t1,ht1,hh1⟩
    · rcases h2 with ⟨j2,hj2,hs2⟩ | ⟨t2,ht2,hh2⟩
      · have:=hm.dis j1 j2 b hs1 hs2
        subst this
        exact hg.fl _ _ _ hj1 hj2
      · exact absurd ⟨j1,hs1⟩ (hm.sep t2 b hh2).1
    · rcases h2 with ⟨j2,hj2,hs2⟩ | ⟨t2,ht2,hh2⟩
      · exact absurd ⟨j2,hs2⟩ (hm.sep t1 b hh1).1
      · have:=hm.inj t1 t2 b hh1 hh2
        subst this
        exact hg.fo _ _ _ ht1 ht2
  · have hi:i<q.nl:=hi
    have:=hg.nl
    match i,hi,he with
    | 0,_,he=>cases he
    | 1,_,he=>cases he
    | k+2,hi,he=>
      cases hk:q.V.T[k]? with
      | none => have : q.V.T.length ≤ k := by simpa using hk
                omega
      | some u=>rw [q.mi_at hk] at he;exact zl1 _ he
  · refine ⟨fun ⟨i,hi⟩=>?_,.inr ⟨t,hb⟩⟩
    obtain ⟨k,u,rfl,hk,hh⟩:=Cl.hasT hm hg hb
    rcases hi with ⟨j,hj,hs⟩ | ⟨t2,ht2,hh2⟩
    · exact (hm.sep u b hh).1 ⟨j,hs⟩
    · have:=hm.inj u t2 b hh hh2
      subst this
      exact (hg.bo _ _ ht2).2 (List.mem_of_getElem? hk)
  · obtain ⟨k1,u1,rfl,hk1,hh1⟩:=Cl.hasT hm hg h1
    obtain ⟨k2,u2,rfl,hk2,hh2⟩:=Cl.hasT hm hg h2
    have:=hm.inj u1 u2 b hh1 hh2
    subst this
    rw [zeC hg.nd hk1 hk2]
  · have hv:(if t<q.mi.length then (q.env E).β t else none)=some v:=hv
    split at hv
    · exact hv
    · cases hv
  · obtain ⟨k,u,rfl,hk,he⟩:=hT t _ ht (by simp) (by simp)
    cases hmu:q.V.m u with
    | obj o' =>
      rw [hmu] at he
      have he:BE.obj o'=BE.obj o:=he
      injection he with he
      subst he
      obtain ⟨b,c1,c2⟩:=hm.obj u _ hmu
      have e:(q.env E).φ (k+2)=E.φ u:=by
        funext x
        show (match q.V.T[k]? with | some u=>E.φ u x | none=>False)=_
        rw [hk]
      exact ⟨b,(hβ k u hk).trans c1,by rw [e];exact c2⟩
    | row T' ls r=>rw [hmu] at he;simp [vwB] at he
    | cells T' us=>rw [hmu] at he;simp [vwB] at he
    | dead=>rw [hmu] at he;simp [vwB] at he
    | empty=>rw [hmu] at he;simp [vwB] at he
end one
end
end Go.Proofs.Ytfccndnnpkiajaa
namespace Go.Proofs.Ytfccndnnpkiajaa
open Go.RowKit Go.ChangeShapes Go.WideShapes Go.Deep
def Cl.back (q:Cl) (E E':Env) (c n:Nat):Env where
 β:=fun t=>if c≤t∧t<c+16 then (if t-c<n-(2+q.V.T.length) then E'.β (2+q.V.T.length+(t-c)) else none) else E.β t
 σ:=fun i b=>if c≤i∧i<c+16 then E'.σ (q.nl+(i-c)) b else E.σ i b
 φ:=fun t=>if c≤t∧t<c+16 then E'.φ (2+q.V.T.length+(t-c)) else (match idxO q.V.T t with
  | some k=>E'.φ (2+k)
  | none=>E.φ t)
theorem zfv {E E':Env} {w:World} {f:SV→SV}:∀ (ss:List SV) (vs:List Value),(∀ s,s∈ss→∀ v,DenV E w s v→DenV E' w (f s) v)→DenL E w ss vs→DenL E' w (ss.map f) vs
 | [],[],_,_=>trivial
 | s::ss,v::vs,hf,h=>⟨hf s (List.mem_cons_self ..) v h.1,zfv ss vs (fun s hs=>hf s (List.mem_cons_of_mem _ hs)) h.2⟩
 | [],_::_,_,h=>h.elim
 | _::_,[],_,h=>h.elim
theorem zkp {q:Cl} {c:Nat} {vs:List SV} (h:vs.all SV.flat=true):(vs.map (rel0 q c)).all SV.flat=true:=by
 simp only [List.all_eq_true,List.mem_map] at *
 rintro x ⟨s,hs,rfl⟩
 have:=h s hs
 cases s<;>first | exact this | rfl
theorem zip {q:Cl} {c:Nat} (e:BE):relB q c e ≠ .empty:=by cases e<;>simp [relB]
section
variable {P : Program} {base : Nat} {X : Cx} {w0 : World}
theorem Cl.call {q:Cl} {E:Env} {w:World} (hm:MemOk base X w0 E q.V.m w) (hg:q.Good) (hn:∀ p∈q.needs,p) {c:Nat} (hfree:∀ t,c≤t→t<c+16→q.V.m t = .empty) {f:FuncId} {out:SV} {mo:List BE} (hF:FnG P f q.nl q.mi q.ins out mo) (hO:q.okO out mo=true)
    {vals:List Value} (hd:DenL E w q.svs vals):Calls P f vals.toArray w (fun e w'=>∃ v E',e = .returned v∧E.Le E'∧Same E.lab w w'∧DenV E' w' (relV q c out) v∧MemOk base X w0 E' (putF (q.upds c mo) q.V.m) w'):=by
  simp only [Cl.okO,Bool.and_eq_true] at hO
  obtain ⟨⟨⟨hO1,hO2⟩,hO3⟩,hO4⟩:=hO
  have hO3:=Nat.le_of_ble_eq_true hO3
  have hO4:=Nat.le_of_ble_eq_true hO4
  have hin:=Cl.memIn hm hg hn
  have hda:DenL (q.env E) w q.ins vals:=Cl.denA hm q.svs q.al vals (fun p hp=>List.mem_append_left _ hp) (fun p hp=>List.mem_append_left _ hp) hd (fun p hp=>hn p (List.mem_append_left _ hp))
  refine Calls.mono (hF.2 w (q.env E) vals hin hda) ?_
  rintro e' w' ⟨v,E',rfl,hv,hm'⟩
  -- tags of the caller's
  have hlive:∀ u,u∈q.V.T→¬ (c≤u∧u<c+16):=fun u hu ⟨h1,h2⟩=>by
    have:=hg.lv u hu
    rw [hfree u h1 h2] at this;cases this
  have hβE:∀ t,c≤t∧t<c+16→E.β t=none:=fun t h=>(hm.empty t (hfree t h.1 h.2)).1
  have hσE:∀ t b,c≤t∧t<c+16→¬ E.σ t b:=fun t b h=>(hm.empty t (hfree t h.1 h.2)).2 b
  have hbβ:∀ t,¬ (c≤t∧t<c+16)→(q.back E E' c mo.length).β t=E.β t:=fun t h=>by
    show (if _ then _ else E.β t)=_
    rw [if_neg h]
  have hbβn:∀ j,2+q.V.T.length+j<mo.length→(q.back E E' c mo.length).β (c+j)=E'.β (2+q.V.T.length+j):=fun j h=>by
    show (if c≤c+j∧c+j<c+16 then (if c+j-c<mo.length-(2+q.V.T.length) then E'.β (2+q.V.T.length+(c+j-c)) else none) else E.β (c+j))=_
    rw [if_pos ⟨by omega,by omega⟩,if_pos (by omega),show c+j-c=j by omega]
  have hbσ:∀ i b,¬ (c≤i∧i<c+16)→((q.back E E' c mo.length).σ i b↔E.σ i b):=fun i b h=>by
    show (if _ then _ else E.σ i b)↔_
    rw [if_neg h]
  have hbσn:∀ j b,j<16→((q.back E E' c mo.length).σ (c+j) b↔E'.σ (q.nl+j) b):=fun j b h=>by
    show (if c≤c+j∧c+j<c+16 then E'.σ (q.nl+(c+j-c)) b else E.σ (c+j) b)↔_
    rw [if_pos ⟨by omega,by omega⟩,show c+j-c=j by omega]
  have hkeep:∀ k u,q.V.T[k]? = some u→∃ x,E.β u=some x∧E'.β (2+k)=some x:=fun k u hk=>by
    obtain ⟨x,hx,_⟩:=hm.holds (hg.lv u (List.mem_of_getElem? hk))
    refine ⟨x,hx,hm'.keep (2+k) x ?_⟩
    show (if 2+k<q.mi.length then (q.env E).β (2+k) else none)=some x
    have hlt:k<q.V.T.length:=(List.getElem?_eq_some_iff.1 hk).1
    rw [if_pos (by rw [q.mi_len];omega),Nat.add_comm 2 k]
    show (match q.V.T[k]? with | some u=>E.β u | none=>none)=_
    rw [hk];exact hx
  -- a tag of the callee's, as the caller has it
  have htag:∀ t,1<t→t<mo.length→∀ x,E'.β t=some x→(q.back E E' c mo.length).β (relT q c t)=some x:=by
    intro t h1 h2 x hx
    unfold relT
    rw [zdr]
    split
    · rename_i hlt
      obtain ⟨k,rfl⟩:∃ k,t=2+k:=⟨t-2,by omega⟩
      have hk:q.V.T[k]? = some (q.V.T[k]'(by omega)):=List.getElem?_eq_getElem (by omega)
      obtain ⟨y,h3,h4⟩:=hkeep k _ hk
      rw [h4] at hx
      have e:q.V.T.getD (2+k-2) 0=q.V.T[k]'(by omega):=by rw [show 2+k-2=k by omega];simp [List.getD,hk]
      rw [e,hbβ _ (hlive _ (List.mem_of_getElem? hk)),h3];exact hx
    · rename_i hge
      have:=hbβn (t-(2+q.V.T.length)) (by omega)
      rw [show 2+q.V.T.length+(t-(2+q.V.T.length))=t by omega] at this
      rw [this];exact hx
  have hset:∀ ls,okLs q ls=true→∀ b,E'.set ls b→(q.back E E' c mo.length).set (relL q c ls) b:=by
    intro ls hls b ⟨i,hi,hs⟩
    have h1:=List.all_eq_true.1 hls i hi
    rw [zdr] at h1
    split at h1
    · rename_i hlt
      rcases hm'.old i b hlt hs with ⟨j,hj,hjs⟩ | ⟨t,ht,_⟩
      · refine ⟨j,List.mem_flatMap.2 ⟨i,hi,?_⟩,?_⟩
        · rw [zdr,if_pos hlt]
          exact List.mem_map.2 ⟨(i,j),List.mem_filter.2 ⟨hj,by simp⟩,rfl⟩
        · rw [hbσ j b (fun h=>hσE j b h hjs)];exact hjs
      · exfalso
        have h2:(q.OP.any fun p=>Nat.beq p.1 i)=true:=List.any_eq_true.2 ⟨(i,t),ht,by simp⟩
        rw [h2] at h1;cases h1
    · rename_i hge
      have h2:i-q.nl<16:=by simp [Nat.blt] at h1;omega
      refine ⟨c+(i-q.nl),List.mem_flatMap.2 ⟨i,hi,?_⟩,?_⟩
      · rw [zdr,if_neg hge];simp
      · rw [hbσn _ b h2,show q.nl+(i-q.nl)=i by omega];exact hs
  have hden0:∀ s,ok0 q mo.length s=true→∀ v,DenV E' w' s v→DenV (q.back E E' c mo.length) w' (rel0 q c s) v:=by
    intro s hs v hv
    cases s
    case sl ls r=>exact Rd.mono hv (fun b _ hb=>hset ls hs b hb)
    case own t=>
      simp only [ok0,Bool.and_eq_true] at hs
      have h1:1<t:=by have:=hs.1;simp [Nat.blt] at this;omega
      have h2:t<mo.length:=by have:=hs.2;simp [Nat.blt] at this;omega
      exact ⟨htag t h1 h2 v hv.1,hv.2⟩
    case ptr t o=>
      simp only [ok0,Bool.and_eq_true] at hs
      have h1:1<t:=by have:=hs.1;simp [Nat.blt] at this;omega
      have h2:t<mo.length:=by have:=hs.2;simp [Nat.blt] at this;omega
      obtain ⟨b,h3,h4⟩:=hv
      exact ⟨b,htag t h1 h2 _ h3,h4⟩
    all_goals first | exact hv | trivial
  have hden1:∀ s,ok1 q mo.length s=true→∀ v,DenV E' w' s v→DenV (q.back E E' c mo.length) w' (rel1 q c s) v:=by
    intro s hs v hv
    cases s
    case agg vs=>
      obtain ⟨xs,h1,h2⟩:=hv
      exact ⟨xs,h1,zfv vs xs (fun s h v hv=>hden0 s (List.all_eq_true.1 hs s h) v hv) h2⟩
    case clo f vs=>
      obtain ⟨xs,h1,h2⟩:=hv
      exact ⟨xs,h1,zfv vs xs (fun s h v hv=>hden0 s (List.all_eq_true.1 hs s h) v hv) h2⟩
    all_goals
      have h2:=fun h=>hden0 _ h v hv
      exact h2 hs
  have hdenV:DenV (q.back E E' c mo.length) w' (relV q c out) v:=by
    cases out
    case tup vs=>
      obtain ⟨xs,h1,h2⟩:=hv
      exact ⟨xs,h1,zfv vs xs (fun s h v hv=>hden1 s (List.all_eq_true.1 hO1 s h) v hv) h2⟩
    all_goals
      have h2:=fun h=>hden1 _ h v hv
      exact h2 hO1
  have hle:E.Le (q.back E E' c mo.length):=⟨fun t x hx=>by
      rw [hbβ t (fun h=>by rw [hβE t h] at hx;cases hx)];exact hx,fun i b hs=>(hbσ i b (fun h=>hσE i b h hs)).2 hs⟩
  have hbx:=hm'.below
  -- blocks that may have been written
  have hX:∀ b,(cxIn (q.env E) q.mi q.nl).X b→∃ u,u∈q.V.T∧Has E q.V.m u b:=by
    rintro b ⟨t,ht⟩
    obtain ⟨k,u,_,hk,hh⟩:=Cl.hasT hm hg ht
    exact ⟨u,List.mem_of_getElem? hk,hh⟩
  have hSame:Same E.lab w w':=⟨hbx.size,fun b hl hlt=>hbx.block b hlt (fun hx=>by
    obtain ⟨u,_,hh⟩:=hX b hx
    exact (hm.sep u b hh).1 hl)⟩
  refine ⟨v,_,rfl,hle,hSame,hdenV,?_⟩
  -- the memory
  have hp1:=zeA (f:=fun k _=>relB q c (mo.getD (2+k) .dead)) (m:=q.V.m) (rest:=asg (fun j _=>relB q c (mo.getD (2+q.V.T.length+j) .dead)) 0 (blkN c 16)) q.V.T 0 hg.nd
  have hp2:=zeA (f:=fun j _=>relB q c (mo.getD (2+q.V.T.length+j) .dead)) (m:=q.V.m) (rest:=[]) (blkN c 16) 0 (zex 16 c)
  rw [List.append_nil] at hp2
  have hmT:∀ k u,q.V.T[k]? = some u→putF (q.upds c mo) q.V.m u=relB q c (mo.getD (2+k) .dead):=fun k u hk=>by
    have:=hp1.1 k u hk
    rw [Nat.zero_add] at this;exact this
  have hmN:∀ j,j<16→putF (q.upds c mo) q.V.m (c+j)=relB q c (mo.getD (2+q.V.T.length+j) .dead):=fun j hj=>by
    have h1:=hp1.2 (c+j) (fun h=>hlive _ h ⟨by omega,by omega⟩)
    have h2:=hp2.1 j (c+j) (zjJ 16 c j hj)
    rw [Nat.zero_add] at h2
    exact h1.trans h2
  have hmO:∀ t,t∉q.V.T→¬ (c≤t∧t<c+16)→putF (q.upds c mo) q.V.m t=q.V.m t:=fun t h1 h2=>
    (hp1.2 t h1).trans (hp2.2 t (fun h=>h2 ((zbM 16 c t).1 h)))
  have hrT:∀ k u,q.V.T[k]? = some u→relT q c (2+k)=u:=fun k u hk=>by
    have hlt:k<q.V.T.length:=(List.getElem?_eq_some_iff.1 hk).1
    unfold relT
    rw [zdr,if_pos (by omega),show 2+k-2=k by omega]
    simp [List.getD,hk]
  have hrN:∀ j,relT q c (2+q.V.T.length+j)=c+j:=fun j=>by
    unfold relT
    rw [zdr,if_neg (by omega),show 2+q.V.T.length+j-(2+q.V.T.length)=j by omega]
  have hφ:∀ t,1<t→t<mo.length→(q.back E E' c mo.length).φ (relT q c t)=E'.φ t:=fun t h1 h2=>by
    by_cases hlt:t<2+q.V.T.length
    · obtain ⟨k,rfl⟩:∃ k,t=2+k:=⟨t-2,by omega⟩
      have hk:q.V.T[k]? = some (q.V.T[k]'(by omega)):=List.getElem?_eq_getElem (by omega)
      generalize q.V.T[k]'(by omega)=u at hk
      rw [hrT k u hk]
      show (if c≤u∧u<c+16 then _ else (match idxO q.V.T u with | some k=>E'.φ (2+k) | none=>E.φ u))=_
      rw [if_neg (hlive u (List.mem_of_getElem? hk))]
      cases hi:idxO q.V.T u with
      | none=>exact absurd (List.mem_of_getElem? hk) (zf3 hi)
      | some k'=>rw [zeC hg.nd (zeN hi) hk]
    · obtain ⟨j,rfl⟩:∃ j,t=2+q.V.T.length+j:=⟨t-(2+q.V.T.length),by omega⟩
      rw [hrN j]
      show (if c≤c+j∧c+j<c+16 then E'.φ (2+q.V.T.length+(c+j-c)) else _)=_
      rw [if_pos ⟨by omega,by omega⟩,show c+j-c=j by omega]
  have hφo:∀ t,t∉q.V.T→¬ (c≤t∧t<c+16)→(q.back E E' c mo.length).φ t=E.φ t:=fun t h1 h2=>by
    show (if c≤t∧t<c+16 then _ else (match idxO q.V.T t with | some k=>E'.φ (2+k) | none=>E.φ t))=_
    rw [if_neg h2]
    cases hi:idxO q.V.T t with
    | none=>rfl
    | some k=>exact absurd (List.mem_of_getElem? (zeN hi)) h1
  have hmo:∀ t,t<mo.length→mOf mo t=mo.getD t .dead:=fun t h2=>by
    have hat:mo[t]? = some (mo[t]'h2):=List.getElem?_eq_getElem h2
    rw [zcv];simp [List.getD,hat]
  have hFo:∀ t,1<t→t<mo.length→∀ x b,Fo (q.back E E' c mo.length) (relT q c t) x (relB q c (mo.getD t .dead)) b→(relB q c (mo.getD t .dead)).live=true→Fo E' t x (mOf mo t) b:=by
    intro t h1 h2 x b hf hl
    rw [hmo t h2]
    generalize mo.getD t .dead=e at *
    cases e with
    | empty=>cases hl
    | dead=>cases hl
    | cells T vs=>exact hf
    | row T ls r=>exact hf
    | obj o => have hf : (q.back E E' c mo.length).φ (relT q c t) b := hf
               rw [hφ t h1 h2] at hf;exact hf
  -- what a callee's entry says, in the caller's names
  have hHold:∀ t,1<t→t<mo.length→(relB q c (mo.getD t .dead)).live=true→∃ x,E'.β t=some x∧Holds (q.back E E' c mo.length) w' (relT q c t) x (relB q c (mo.getD t .dead))∧(mOf mo t).live=true:=by
    intro t h1 h2 hl
    have hat:mo[t]? = some (mo[t]'h2):=List.getElem?_eq_getElem h2
    have e1:mo.getD t .dead=mo[t]'h2:=by simp [List.getD,hat]
    have e2:mOf mo t=mo[t]'h2:=by rw [zcv];simp [List.getD,hat]
    rw [e1] at hl ⊢
    rw [e2]
    have hok:okB q mo.length (mo[t]'h2)=true:=List.all_eq_true.1 hO2 _ (List.mem_of_getElem? hat)
    generalize mo[t]'h2=e at *
    cases e with
    | empty=>cases hl
    | dead=>cases hl
    | cells T vs=>
      obtain ⟨b,xs,c1,c2,c3,c4⟩:=hm'.cells t T vs e2
      exact ⟨_,c1,⟨b,xs,rfl,c2,zfv vs xs (fun s hs v hv=>hden0 s (List.all_eq_true.1 hok s hs) v hv) c3,zkp c4⟩,rfl⟩
    | row T ls r=>
      obtain ⟨x,c1,c2⟩:=hm'.row t T ls r e2
      exact ⟨x,c1,c2.mono (Nat.le_refl _) (fun b hb=>hset ls hok b hb),rfl⟩
    | obj o=>
      obtain ⟨b,c1,c2⟩:=hm'.obj t o e2
      exact ⟨_,c1,⟨b,rfl,by rw [hφ t h1 h2];exact c2⟩,rfl⟩
  -- whose block it is
  have hcase:∀ t b,Has (q.back E E' c mo.length) (putF (q.upds c mo) q.V.m) t b→(∃ t',1<t'∧t'<mo.length∧Has E' (mOf mo) t' b∧t=relT q c t')∨(t∉q.V.T∧¬ (c≤t∧t<c+16)∧Has E q.V.m t b):=by
    intro t b ⟨hl,x,hx,hxb⟩
    by_cases ht:t∈q.V.T
    · obtain ⟨k,hk,e⟩:=List.getElem_of_mem ht
      have hk2:q.V.T[k]? = some t:=by rw [← e];exact List.getElem?_eq_getElem hk
      rw [hmT k t hk2] at hl hxb
      obtain ⟨y,h1,_,h3⟩:=hHold (2+k) (by omega) (by omega) hl
      obtain ⟨z,h4,h5⟩:=hkeep k t hk2
      rw [hbβ t (hlive t ht),h4] at hx
      simp only [Option.some.injEq] at hx
      subst hx
      exact .inl ⟨2+k,by omega,by omega,⟨h3,_,h5,hFo (2+k) (by omega) (by omega) _ b (by rw [hrT k t hk2];exact hxb) hl⟩,(hrT k t hk2).symm⟩
    · by_cases hc:c≤t∧t<c+16
      · obtain ⟨j,rfl⟩:∃ j,t=c+j:=⟨t-c,by omega⟩
        rw [hmN j (by omega)] at hl hxb
        have hlt:2+q.V.T.length+j<mo.length:=by
          rcases Nat.lt_or_ge (2+q.V.T.length+j) mo.length with h | h
          · exact h
          · simp [List.getD,List.getElem?_eq_none h,relB,BE.live] at hl
        obtain ⟨y,h1,_,h3⟩:=hHold _ (by omega) hlt hl
        rw [hbβn j hlt,h1] at hx
        simp only [Option.some.injEq] at hx
        subst hx
        exact .inl ⟨_,by omega,hlt,⟨h3,_,h1,hFo _ (by omega) hlt _ b (by rw [hrN j];exact hxb) hl⟩,(hrN j).symm⟩
      · rw [hmO t ht hc] at hl hxb
        rw [hbβ t hc] at hx
        refine .inr ⟨ht,hc,hl,x,hx,?_⟩
        cases hmt:q.V.m t with
        | obj o=>
          rw [hmt] at hxb
          have hxb:(q.back E E' c mo.length).φ t b:=hxb
          rw [hφo t ht hc] at hxb;exact hxb
        | _=>rw [hmt] at hxb;exact hxb
  have hbl:∀ i b,(q.back E E' c mo.length).σ i b→(c≤i∧i<c+16∧E'.σ (q.nl+(i-c)) b)∨(¬ (c≤i∧i<c+16)∧E.σ i b):=fun i b hs=>by
    by_cases hc:c≤i∧i<c+16
    · obtain ⟨j,rfl⟩:∃ j,i=c+j:=⟨i-c,by omega⟩
      rw [hbσn j b (by omega)] at hs
      exact .inl ⟨hc.1,hc.2,by rw [show c+j-c=j by omega];exact hs⟩
    · exact .inr ⟨hc,(hbσ i b hc).1 hs⟩
  -- a block that the callee names is new or handed in
  have hnewL:∀ j b,q.nl≤j→E'.σ j b→w.heap.size≤b∨∃ u,u∈q.V.T∧Has E q.V.m u b:=fun j b hj hs=>((hm'.lab j b hs).2 hj).imp id (hX b)
  have hnewT:∀ t b,Has E' (mOf mo) t b→w.heap.size≤b∨∃ u,u∈q.V.T∧Has E q.V.m u b:=fun t b hh=>((hm'.sep t b hh).2).imp id (hX b)
  refine hm.go hle hSame (fun t=>t∈q.V.T∨(c≤t∧t<c+16)) (fun t ht=>?_) (fun t ht hmt b hs=>?_) (fun t b ht hh=>hbx.block b (hm.lt hh) (fun hx=>?_)) (fun t ht=>?_) (fun i b hs=>?_) (fun i j b h1 h2=>?_) (fun t b hh=>?_) (fun i b hi hs=>?_) (fun t u b h1 h2=>?_)
    ⟨hbx.os,hbx.tape,hbx.output,hbx.size,fun b hlt hnx=>hbx.block b (Nat.lt_of_lt_of_le hlt hm.base) (fun hx=>?_)⟩
  · simp only [not_or] at ht
    exact ⟨hmO t ht.1 ht.2,hbβ t ht.2,hφo t ht.1 ht.2⟩
  · simp only [not_or] at ht
    exact (hm.empty t hmt).2 b ((hbσ t b ht.2).1 hs)
  · simp only [not_or] at ht
    obtain ⟨u,hu,hh2⟩:=hX b hx
    exact ht.1 (hm.inj t u b hh hh2▸hu)
  · by_cases hT:t∈q.V.T
    · obtain ⟨k,hk,e⟩:=List.getElem_of_mem hT
      have hk2:q.V.T[k]? = some t:=by rw [← e];exact List.getElem?_eq_getElem hk
      rw [hmT k t hk2]
      refine ⟨zip _,fun hl=>?_⟩
      obtain ⟨y,h1,h2,_⟩:=hHold (2+k) (by omega) (by omega) hl
      obtain ⟨z,h4,h5⟩:=hkeep k t hk2
      rw [h5] at h1
      simp only [Option.some.injEq] at h1
      subst h1
      exact ⟨z,by rw [hbβ t (hlive t hT)];exact h4,by rw [hrT k t hk2] at h2;exact h2⟩
    · have hc:=ht.resolve_left hT
      obtain ⟨j,rfl⟩:∃ j,t=c+j:=⟨t-c,by omega⟩
      rw [hmN j (by omega)]
      refine ⟨zip _,fun hl=>?_⟩
      have hlt:2+q.V.T.length+j<mo.length:=by
        rcases Nat.lt_or_ge (2+q.V.T.length+j) mo.length with h | h
        · exact h
        · simp [List.getD,List.getElem?_eq_none h,relB,BE.live] at hl
      obtain ⟨y,h1,h2,_⟩:=hHold _ (by omega) hlt hl
      exact ⟨y,by rw [hbβn j hlt];exact h1,by rw [hrN j] at h2;exact h2⟩
  · rcases hbl i b hs with ⟨h1,h2,h3⟩ | ⟨h1,h3⟩
    · refine ⟨(hm'.lab _ b h3).1,fun _=>?_⟩
      rcases hnewL _ b (by omega) h3 with h4 | ⟨u,hu,hh⟩
      · exact .inl (Nat.le_trans hm.base h4)
      · exact (hm.sep u b hh).2
    · exact ⟨Nat.lt_of_lt_of_le (hm.lab i b h3).1 hbx.size,(hm.lab i b h3).2⟩
  · have cross:∀ j b,∀ i',E'.σ (q.nl+j) b→E.σ i' b→False:=fun j b i' h3 h4=>by
      rcases hnewL _ b (by omega) h3 with h5 | ⟨u,hu,hh⟩
      · have:=(hm.lab i' b h4).1;omega
      · exact (hm.sep u b hh).1 ⟨i',h4⟩
    rcases hbl i b h1 with ⟨h3,h4,h5⟩ | ⟨h3,h5⟩
    · rcases hbl j b h2 with ⟨h6,h7,h8⟩ | ⟨h6,h8⟩
      · have:=hm'.dis _ _ b h5 h8;omega
      · exact (cross _ b j h5 h8).elim
    · rcases hbl j b h2 with ⟨h6,h7,h8⟩ | ⟨h6,h8⟩
      · exact (cross _ b i h8 h5).elim
      · exact hm.dis i j b h5 h8
  · rcases hcase t b hh with ⟨t',h1,h2,h3,h4⟩ | ⟨h1,h2,h3⟩
    · refine ⟨fun ⟨i,hi⟩=>?_,?_⟩
      · rcases hbl i b hi with ⟨_,_,h5⟩ | ⟨_,h5⟩
        · exact (hm'.sep t' b h3).1 ⟨_,h5⟩
        · rcases hnewT t' b h3 with h6 | ⟨u,hu,hh2⟩
          · have:=(hm.lab i b h5).1;omega
          · exact (hm.sep u b hh2).1 ⟨i,h5⟩
      · rcases hnewT t' b h3 with h6 | ⟨u,hu,hh2⟩
        · exact .inl (Nat.le_trans hm.base h6)
        · exact (hm.sep u b hh2).2
    · refine ⟨fun ⟨i,hi⟩=>?_,(hm.sep t b h3).2⟩
      rcases hbl i b hi with ⟨_,_,h5⟩ | ⟨_,h5⟩
      · rcases hnewL _ b (by omega) h5 with h6 | ⟨u,hu,hh2⟩
        · have:=hm.lt h3;omega
        · exact h1 (hm.inj t u b h3 hh2▸hu)
      · exact (hm.sep t b h3).1 ⟨i,h5⟩
  · rcases hbl i b hs with ⟨h1,h2,_⟩ | ⟨_,h3⟩
    · exact absurd (hfree i h1 h2) (hm.low i hi)
    · exact hm.old i b hi h3
  · rcases hcase t b h1 with ⟨t',a1,a2,a3,a4⟩ | ⟨a1,a2,a3⟩
    · rcases hcase u b h2 with ⟨u',b1,b2,b3,b4⟩ | ⟨b1,b2,b3⟩
      · rw [a4,b4,hm'.inj t' u' b a3 b3]
      · exfalso
        rcases hnewT t' b a3 with h6 | ⟨z,hz,hh2⟩
        · have:=hm.lt b3;omega
        · exact b1 (hm.inj u z b b3 hh2▸hz)
    · rcases hcase u b h2 with ⟨u',b1,b2,b3,b4⟩ | ⟨b1,b2,b3⟩
      · exfalso
        rcases hnewT u' b b3 with h6 | ⟨z,hz,hh2⟩
        · have:=hm.lt a3;omega
        · exact a1 (hm.inj t z b a3 hh2▸hz)
      · exact hm.inj t u b a3 b3
  · obtain ⟨u,_,hh⟩:=hX b hx
    rcases (hm.sep u b hh).2 with h1 | h1
    · omega
    · exact hnx h1
end
end Go.Proofs.Ytfccndnnpkiajaa
namespace Go.Proofs.Ytfccndnnpkiajaa
open Go.RowKit Go.ChangeShapes Go.WideShapes Go.Deep
def zkE:BE→Bool
 | .row .. => true
 | _=>false
def zaP:BE→List Nat
 | .cells _ vs=>vs.flatMap zai
 | _=>[]
def zeh (m:Nat→BE) (svs:List SV):List Nat:=
 dedN [] (svs.flatMap za2++((svs.flatMap za2).flatMap fun t=>zaP (m t)).filter fun t=>zkE (m t))
def nrmS:Nat→List (Nat×TypeId×RL)→List SV→List SV×List (Nat×BE)
 | _,[],vs=>(vs,[])
 | c,(i,T,r)::q,vs=>match vs[i]? with
  | some .nil=>((nrmS (c+1) q (vs.set i (.own c))).1,(c,.row T [] r.emp)::(nrmS (c+1) q (vs.set i (.own c))).2)
  | _=>nrmS (c+1) q vs
def zci:List SV→Option Nat
 | []=>none
 | .ptr t _::_=>some t
 | _::r=>zci r
def nrm (vr:List (Nat×TypeId×RL)) (c:Nat) (m:Nat→BE) (svs:List SV):List (Nat×BE):=
 match zci svs with
 | some t=>match m t with
  | .cells T vs=>match (nrmS c vr vs).2 with
   | []=>[]
   | U=>(t,.cells T (nrmS c vr vs).1)::U
  | _=>[]
 | none=>[]
def clOf (e:Ent) (m1:Nat→BE) (svs:List SV):Cl:=⟨⟨m1,match e.wr with | true=>zeh m1 svs | false=>[]⟩,e.al,e.gl,e.nl,svs⟩
def orcE (e:Ent) (c:Nat) (st:St) (svs:List SV) (U:List (Nat×BE)) (q:Cl):Option Upd:=
 if q.ok&&(blkN c 24).all st.free&&Nat.ble e.vr.length 8 then (match e.go q.ins q.mi with
  | some (n,out,mo)=>if q.okO out mo then some ⟨q.needs++n,relV q (c+8) out,q.upds (c+8) mo++U⟩ else none
  | none=>none) else none
def orcT (tab:List Ent) (c:Nat) (f:FuncId) (st:St) (svs:List SV):Option Upd:=
 match zh6 tab f with
 | none=>none
 | some e=>orcE e c st svs (nrm e.vr c st.m svs) (clOf e (putF (nrm e.vr c st.m svs) st.m) svs)
section
variable {P : Program} {base : Nat} {X : Cx} {w0 : World}
theorem zbX:∀ (vr:List (Nat×TypeId×RL)) (c:Nat) (vs:List SV),∀ t e,(t,e)∈(nrmS c vr vs).2→c≤t∧t<c+vr.length∧zkE e=true
 | [],c,vs,t,e,h=>by simp [nrmS] at h
 | (i,T,r)::q,c,vs,t,e,h=>by
  simp only [nrmS] at h
  split at h
  ·rcases List.mem_cons.1 h with h1 | h1
   ·cases h1;exact ⟨Nat.le_refl _,by simp,rfl⟩
   ·have:=zbX q (c+1) _ t e h1
    exact ⟨by omega,by simp;omega,this.2.2⟩
  ·have:=zbX q (c+1) _ t e h
   exact ⟨by omega,by simp;omega,this.2.2⟩
theorem zc8 {l:List (Nat×BE)} {m:Nat→BE} {t:Nat} (h:∀ e,(t,e)∉l):putF l m t=m t:=by
 induction l with
 | nil=>rfl
 | cons x l ih=>
  obtain ⟨k,e⟩:=x
  show (if t=k then e else putF l m t)=_
  have hk:t≠k:=fun e2=>h e (by rw [e2];exact List.mem_cons_self ..)
  rw [if_neg hk,ih (fun e he=>h e (List.mem_cons_of_mem _ he))]
theorem zgG {l:List (Nat×BE)} {m:Nat→BE} {t:Nat}:putF l m t=m t∨(t,putF l m t)∈l:=by
 induction l with
 | nil=>exact .inl rfl
 | cons x l ih=>
  obtain ⟨k,e⟩:=x
  show (if t=k then e else putF l m t)=_∨(t,if t=k then e else putF l m t)∈_
  by_cases hk:t=k
  ·rw [if_pos hk];subst hk;exact .inr (List.mem_cons_self ..)
  ·rw [if_neg hk];exact ih.imp id (fun h=>List.mem_cons_of_mem _ h)
theorem zkJ {vs:List SV} {i:Nat} {s:SV} (h:vs.all SV.flat=true) (hs:s.flat=true):(vs.set i s).all SV.flat=true:=by
 simp only [List.all_eq_true] at *
 intro x hx
 rcases List.mem_or_eq_of_mem_set hx with h1 | h1
 ·exact h x h1
 ·rw [h1];exact hs
theorem DenL.setN {E:Env} {w:World}:∀ {vs:List SV} {xs:List Value} {i c:Nat},DenL E w vs xs→vs[i]? = some .nil→E.β c=some (.slice none 0 0)→DenL E w (vs.set i (.own c)) xs
 | s::vs,x::xs,0,c,h,hi,hc=>by
  simp only [List.getElem?_cons_zero,Option.some.injEq] at hi
  subst hi
  have:x = .slice none 0 0:=h.1
  subst this
  exact ⟨⟨hc,rfl⟩,h.2⟩
 | s::vs,x::xs,i+1,c,h,hi,hc=>⟨h.1,DenL.setN (vs:=vs) (xs:=xs) h.2 (by simpa using hi) hc⟩
 | [],_,_,_,_,hi,_=>by simp at hi
 | _::_,[],_,_,h,_,_=>h.elim
theorem zfY {T0:TypeId} {t0:Nat} {w:World}:∀ (vr:List (Nat×TypeId×RL)) (c:Nat) (vs:List SV) (E:Env) (m:Nat→BE),MemOk base X w0 E m w→m t0 = .cells T0 vs→(∀ t,c≤t→t<c+vr.length→m t = .empty) →
  ∃ E',E.Le E'∧(∀ i b,E'.σ i b→E.σ i b)∧MemOk base X w0 E' (putF ((t0,.cells T0 (nrmS c vr vs).1)::(nrmS c vr vs).2) m) w
 | [],c,vs,E,m,hm,ht,hf=>by
  refine ⟨E,Env.Le.refl E,fun _ _ h=>h,?_⟩
  have:putF ((t0,.cells T0 (nrmS c [] vs).1)::(nrmS c [] vs).2) m=m:=by
   funext u
   show (if u=t0 then _ else m u)=m u
   by_cases h:u=t0
   ·subst h;rw [if_pos rfl,ht];rfl
   ·rw [if_neg h]
  rw [this];exact hm
 | (i,T,r)::q,c,vs,E,m,hm,ht,hf=>by
  simp only [nrmS]
  split
  ·rename_i hi
   have hce:m c = .empty:=hf c (Nat.le_refl _) (by simp)
   have hct:t0≠c:=fun e=>by rw [e,hce] at ht;cases ht
   have hβc:=(hm.empty c hce).1
   have hm1:=hm.take (w':=w) hce (.slice none 0 0) (.row T [] r.emp) (by simp) (Nat.le_refl _) (fun _ _=>rfl) (BelowX.refl _ _ _) (fun b hb=>by simp [za4] at hb) (by show OwnR _ _ _ _ _ _ _;rw [r.emp_ok.1];exact OwnR.nil _ _ _ _ _)
   have hm2:MemOk base X w0 (E.setβ c (.slice none 0 0)) (upd (upd m c (.row T [] r.emp)) t0 (.cells T0 (vs.set i (.own c)))) w:=by
    refine hm1.weak fun t=>?_
    by_cases h:t=t0
    ·subst h
     rw [zaG,zaH _ _ hct,ht]
     refine .inr (.inr ⟨rfl,rfl,rfl,fun v hv=>?_⟩)
     obtain ⟨b,xs,h1,h2,h3,h4⟩:=hv
     exact ⟨b,xs,h1,h2,DenL.setN h3 hi (if_pos rfl),zkJ h4 rfl⟩
    ·rw [zaH _ _ h];exact .inl rfl
   obtain ⟨E',h1,h2,h3⟩:=zfY q (c+1) (vs.set i (.own c)) _ _ hm2 (zaG _ _ _) (fun t h1 h2=>by
    have hne:t≠t0:=fun e=>by
     have:=hf t (by omega) (by simp;omega)
     rw [e,ht] at this;cases this
    rw [zaH _ _ hne,zaH _ _ (by omega)]
    exact hf t (by omega) (by simp;omega))
   refine ⟨E',(Env.setβ_le hβc _).trans h1,h2,?_⟩
   have e:putF ((t0,.cells T0 (nrmS (c+1) q (vs.set i (.own c))).1)::(nrmS (c+1) q (vs.set i (.own c))).2) (upd (upd m c (.row T [] r.emp)) t0 (.cells T0 (vs.set i (.own c))))=putF ((t0,.cells T0 (nrmS (c+1) q (vs.set i (.own c))).1)::(c,.row T [] r.emp)::(nrmS (c+1) q (vs.set i (.own c))).2) m:=by
    funext u
    show (if u=t0 then _ else _)=(if u=t0 then _ else if u=c then _ else _)
    by_cases hu:u=t0
    ·rw [if_pos hu,if_pos hu]
    ·rw [if_neg hu,if_neg hu]
     by_cases hc:u=c
     ·subst hc
      rw [if_pos rfl,zc8 (fun e he=>by have:=(zbX q (u+1) _ u e he).1;omega),zaH _ _ hu,zaG]
     ·rw [if_neg hc]
      rcases zgG (l:=(nrmS (c+1) q (vs.set i (.own c))).2) (m:=m) (t:=u) with h5 | h5
      ·by_cases hk:∃ e,(u,e)∈(nrmS (c+1) q (vs.set i (.own c))).2
       ·have key:∀ (l:List (Nat×BE)) (m m2:Nat→BE),(∃ e,(u,e)∈l)→putF l m u=putF l m2 u:=by
         intro l m m2 ⟨e,he⟩
         exact zdK l m m2 u (List.mem_map.2 ⟨_,he,rfl⟩)
        exact key _ _ _ hk
       ·rw [h5,zc8 (fun e he=>hk ⟨e,he⟩),zaH _ _ hu,zaH _ _ hc]
      ·exact zdK _ _ _ u (List.mem_map.2 ⟨_,h5,rfl⟩)
   rw [← e];exact h3
  ·obtain ⟨E',h1,h2,h3⟩:=zfY q (c+1) vs E m hm ht (fun t h1 h2=>hf t (by omega) (by simp;omega))
   exact ⟨E',h1,h2,h3⟩
theorem znU {vr:List (Nat×TypeId×RL)} {c:Nat} {svs:List SV} {w:World} {E:Env} {m:Nat→BE} (hm:MemOk base X w0 E m w) (hf:∀ t,c≤t→t<c+vr.length→m t = .empty) :
  ∃ E',E.Le E'∧(∀ i b,E'.σ i b→E.σ i b)∧MemOk base X w0 E' (putF (nrm vr c m svs) m) w:=by
 unfold nrm
 have h0:∃ E',E.Le E'∧(∀ i b,E'.σ i b→E.σ i b)∧MemOk base X w0 E' (putF [] m) w:=⟨E,Env.Le.refl E,fun _ _ h=>h,hm⟩
 split
 ·split
  ·rename_i T vs ht
   split
   ·exact h0
   ·exact zfY vr c vs E m hm ht hf
  ·exact h0
 ·exact h0
theorem zm7 {tab:List Ent} (ht:∀ e∈tab,zar P e) (kd:TypeId→Option RL) (ow:FuncId→St→List SV→Option (List Prop×List Nat×SV)):zdv P ⟨kd,orcT tab,ow⟩:=by
 intro c f st svs u hu
 have hu2:orcT tab c f st svs=some u:=hu
 clear hu
 have hu:=hu2
 clear hu2
 unfold orcT at hu
 split at hu
 case h_1=>simp at hu
 rename_i e he
 obtain ⟨hin,rfl⟩:=zfA he
 obtain ⟨hB,hE⟩:=ht e hin
 refine ⟨hB,fun base X w0 E w vals hm hd hn=>?_⟩
 unfold orcE at hu
 split at hu
 case isFalse=>simp at hu
 rename_i hck
 simp only [Bool.and_eq_true] at hck
 obtain ⟨⟨hok,hfr⟩,hvr⟩:=hck
 split at hu
 case h_2=>simp at hu
 rename_i n out mo hgo
 split at hu
 case isFalse=>simp at hu
 rename_i hO
 simp only [Option.some.injEq] at hu
 subst hu
 have hfree:∀ t,c≤t→t<c+24→st.m t = .empty:=fun t h1 h2=>St.of_free (List.all_eq_true.1 hfr t ((zbM 24 c t).2 ⟨h1,h2⟩))
 have hvl:=Nat.le_of_ble_eq_true hvr
 obtain ⟨E1,hE1,hσ1,hm1⟩:=znU (vr:=e.vr) (svs:=svs) hm (fun t h1 h2=>hfree t h1 (by omega))
 have hS1:Same E.lab w w:=Same.rfl'
 have hnk:∀ t,c+8≤t→t<c+24→putF (nrm e.vr c st.m svs) st.m t = .empty:=by
  intro t h1 h2
  rw [zc8]
  ·exact hfree t (by omega) h2
  ·intro e' he'
   unfold nrm at he'
   split at he'
   ·split at he'
    ·rename_i t0 _ T vs hmt
     split at he'
     ·cases he'
     ·rcases List.mem_cons.1 he' with h3 | h3
      ·cases h3
       have:=hfree t (by omega) h2
       rw [hmt] at this;cases this
      ·have:=zbX e.vr c vs t e' h3;omega
    ·cases he'
   ·cases he'
 have hcall:=Cl.call (q:=clOf e (putF (nrm e.vr c st.m svs) st.m) svs) hm1 (Cl.good hok) (fun p hp=>hn p (List.mem_append_left _ hp)) (c:=c+8) (fun t h1 h2=>hnk t h1 (by omega)) (hE _ _ n out mo hgo (fun p hp=>hn p (List.mem_append_right _ hp))) hO (DenL.mono hE1 hS1 _ _ hd)
 refine Calls.mono hcall ?_
 rintro e' w' ⟨v,E',h1,h2,h3,h4,h5⟩
 refine ⟨v,E',h1,hE1.trans h2,⟨h3.size,fun b hl=>h3.block b (by obtain ⟨i,hi⟩:=hl;exact ⟨i,hE1.σ i b hi⟩)⟩,h4,?_⟩
 rw [zku];exact h5
theorem zgu {m m':Nat→BE} {T:List Nat} {l:Nat} {s:SV} (h:∀ t,t∈zai s→m t=m' t):vw0 ⟨m,T⟩ l s=vw0 ⟨m',T⟩ l s∧lp0 ⟨m,T⟩ l s=lp0 ⟨m',T⟩ l s∧op0 ⟨m,T⟩ l s=op0 ⟨m',T⟩ l s:=by
 cases s
 case own t=>simp only [vw0,lp0,op0,h t (by simp [zai])];refine ⟨?_,?_,?_⟩<;>first | rfl | trivial
 all_goals exact ⟨rfl,rfl,rfl⟩
theorem zhT {f g:SV→SV×List Prop}:∀ (ss:List SV),(∀ s,s∈ss→f s=g s)→vwL f ss=vwL g ss
 | [],_=>rfl
 | s::ss,h=>by rw [vwL,vwL,h s (List.mem_cons_self ..),zhT ss (fun s hs=>h s (List.mem_cons_of_mem _ hs))]
theorem zbm {α β:Type} {f g:α→List β}:∀ (ss:List α),(∀ s,s∈ss→f s=g s)→ss.flatMap f=ss.flatMap g
 | [],_=>rfl
 | s::ss,h=>by rw [List.flatMap_cons,List.flatMap_cons,h s (List.mem_cons_self ..),zbm ss (fun s hs=>h s (List.mem_cons_of_mem _ hs))]
theorem zgt {m m':Nat→BE} {T:List Nat} {l:Nat} (vs:List SV) (h:∀ t,t∈vs.flatMap zai→m t=m' t):vwL (vw0 ⟨m,T⟩ l) vs=vwL (vw0 ⟨m',T⟩ l) vs∧vs.flatMap (lp0 ⟨m,T⟩ l)=vs.flatMap (lp0 ⟨m',T⟩ l)∧vs.flatMap (op0 ⟨m,T⟩ l)=vs.flatMap (op0 ⟨m',T⟩ l):=by
 have key:∀ s,s∈vs→∀ t,t∈zai s→m t=m' t:=fun s hs t ht=>h t (List.mem_flatMap.2 ⟨s,hs,ht⟩)
 exact ⟨zhT vs (fun s hs=>(zgu (key s hs)).1),zbm vs (fun s hs=>(zgu (key s hs)).2.1),zbm vs (fun s hs=>(zgu (key s hs)).2.2)⟩
def Deep (m m':Nat→BE) (ts:List Nat):Prop:=∀ t,t∈ts→m t=m' t∧∀ u,u∈zaP (m t)→m u=m' u
theorem zgs {m m':Nat→BE} {T:List Nat} {l:Nat} {s:SV} (h:Deep m m' (svR s)):vwR ⟨m,T⟩ l s=vwR ⟨m',T⟩ l s∧lpR ⟨m,T⟩ l s=lpR ⟨m',T⟩ l s∧opR ⟨m,T⟩ l s=opR ⟨m',T⟩ l s:=by
 have k0:∀ s,(∀ V l,vwR V l s=vw0 V l s∧lpR V l s=lp0 V l s∧opR V l s=op0 V l s)→svR s=zai s→Deep m m' (svR s)→vwR ⟨m,T⟩ l s=vwR ⟨m',T⟩ l s∧lpR ⟨m,T⟩ l s=lpR ⟨m',T⟩ l s∧opR ⟨m,T⟩ l s=opR ⟨m',T⟩ l s:=by
  intro s h1 h2 h3
  obtain ⟨a1,a2,a3⟩:=h1 ⟨m,T⟩ l
  obtain ⟨b1,b2,b3⟩:=h1 ⟨m',T⟩ l
  rw [a1,a2,a3,b1,b2,b3]
  exact zgu (fun t ht=>(h3 t (h2▸ht)).1)
 cases s
 case ptr t o=>
  obtain ⟨h1,h2⟩:=h t (by simp [svR,zai])
  simp only [vwR,lpR,opR,← h1]
  cases idxO T t with
  | some k=>exact ⟨rfl,rfl,rfl⟩
  | none=>
   cases hm:m t with
   | cells Tb vs=>
    rw [hm] at h2
    obtain ⟨e1,e2,e3⟩:=zgt (T:=T) (l:=l) vs h2
    simp only [e1,e2,e3];exact ⟨trivial,trivial,trivial⟩
   | _=>exact ⟨rfl,rfl,rfl⟩
 case rp ls Tb vs o=>
  obtain ⟨e1,e2,e3⟩:=zgt (m:=m) (m':=m') (T:=T) (l:=l) vs (fun t ht=>(h t ht).1)
  simp only [vwR,lpR,opR,e1,e2,e3];exact ⟨trivial,trivial,trivial⟩
 case ro ls ob=>exact ⟨rfl,rfl,rfl⟩
 all_goals exact k0 _ (fun V l=>⟨rfl,rfl,rfl⟩) rfl h
theorem zhV {m m':Nat→BE} {T:List Nat} {l:Nat} {s:SV} (h:Deep m m' (za2 s)):vw1 ⟨m,T⟩ l s=vw1 ⟨m',T⟩ l s∧lp1 ⟨m,T⟩ l s=lp1 ⟨m',T⟩ l s∧op1 ⟨m,T⟩ l s=op1 ⟨m',T⟩ l s:=by
 have k0:∀ s,(∀ V l,vw1 V l s=vwR V l s∧lp1 V l s=lpR V l s∧op1 V l s=opR V l s)→za2 s=svR s→Deep m m' (za2 s)→vw1 ⟨m,T⟩ l s=vw1 ⟨m',T⟩ l s∧lp1 ⟨m,T⟩ l s=lp1 ⟨m',T⟩ l s∧op1 ⟨m,T⟩ l s=op1 ⟨m',T⟩ l s:=by
  intro s h1 h2 h3
  obtain ⟨a1,a2,a3⟩:=h1 ⟨m,T⟩ l
  obtain ⟨b1,b2,b3⟩:=h1 ⟨m',T⟩ l
  rw [a1,a2,a3,b1,b2,b3]
  exact zgs (h2▸h3)
 cases s
 case agg vs=>
  obtain ⟨e1,e2,e3⟩:=zgt (m:=m) (m':=m') (T:=T) (l:=l) vs (fun t ht=>(h t ht).1)
  simp only [vw1,lp1,op1,e1,e2,e3];exact ⟨trivial,trivial,trivial⟩
 case clo f vs=>
  have key:∀ s,s∈vs→Deep m m' (svR s):=fun s hs t ht=>h t (List.mem_flatMap.2 ⟨s,hs,ht⟩)
  have e1:=zhT vs (fun s hs=>(zgs (T:=T) (l:=l) (key s hs)).1)
  have e2:=zbm vs (fun s hs=>(zgs (T:=T) (l:=l) (key s hs)).2.1)
  have e3:=zbm vs (fun s hs=>(zgs (T:=T) (l:=l) (key s hs)).2.2)
  simp only [vw1,lp1,op1,e1,e2,e3];exact ⟨trivial,trivial,trivial⟩
 case gd g s=>exact ⟨rfl,rfl,rfl⟩
 all_goals exact k0 _ (fun V l=>⟨rfl,rfl,rfl⟩) rfl h
theorem zhU {m m':Nat→BE} {T:List Nat} {l t:Nat} (h:m t=m' t) (h2:∀ u,u∈zaP (m t)→m u=m' u):vwB ⟨m,T⟩ l (m t)=vwB ⟨m',T⟩ l (m' t)∧lpB ⟨m,T⟩ l (m t)=lpB ⟨m',T⟩ l (m' t)∧opB ⟨m,T⟩ l (m t)=opB ⟨m',T⟩ l (m' t):=by
 rw [← h]
 cases hm:m t with
 | cells Tb vs=>
  rw [hm] at h2
  obtain ⟨e1,e2,e3⟩:=zgt (T:=T) (l:=l) vs h2
  simp only [vwB,lpB,opB,e1,e2,e3];exact ⟨trivial,trivial,trivial⟩
 | _=>exact ⟨rfl,rfl,rfl⟩
theorem zbP {α β:Type} {f g:Nat→α→β}:∀ (xs:List α) (ls:List Nat),(∀ l x,x∈xs→f l x=g l x)→zipL f xs ls=zipL g xs ls
 | [],_,_=>rfl
 | x::r,[],h=>by rw [zipL,zipL,h 0 x (List.mem_cons_self ..),zbP r [] (fun l y hy=>h l y (List.mem_cons_of_mem _ hy))]
 | x::r,l::ls,h=>by rw [zipL,zipL,h l x (List.mem_cons_self ..),zbP r ls (fun l y hy=>h l y (List.mem_cons_of_mem _ hy))]
theorem zeU:∀ (l seen:List Nat) (t:Nat),t∈dedN seen l→t∈l
 | [],_,_,h=>by simp [dedN] at h
 | a::r,seen,t,h=>by
  rw [dedN] at h
  cases hc:seen.contains a
  ·rw [hc] at h
   simp only [cond_false] at h
   rcases List.mem_cons.1 h with h1 | h1
   ·rw [h1];exact List.mem_cons_self ..
   ·exact List.mem_cons_of_mem _ (zeU r _ t h1)
  ·rw [hc] at h
   exact List.mem_cons_of_mem _ (zeU r _ t h)
theorem znn {e:Ent} {m m':Nat→BE} {svs:List SV} (h:Deep m m' (svs.flatMap za2)):(clOf e m svs).V.T=(clOf e m' svs).V.T∧(clOf e m svs).aV=(clOf e m' svs).aV∧(clOf e m svs).bV=(clOf e m' svs).bV∧(clOf e m svs).LP=(clOf e m' svs).LP∧(clOf e m svs).OP=(clOf e m' svs).OP∧(∀ u,u∈(clOf e m svs).V.T→m u=m' u):=by
 have hT2:((svs.flatMap za2).flatMap fun t=>zaP (m t))=((svs.flatMap za2).flatMap fun t=>zaP (m' t)):=zbm _ (fun t ht=>by rw [(h t ht).1])
 have hin:∀ u,u∈((svs.flatMap za2).flatMap fun t=>zaP (m t))→m u=m' u:=fun u hu=>by
  obtain ⟨t,ht,h2⟩:=List.mem_flatMap.1 hu
  exact (h t ht).2 u h2
 have hfil:(((svs.flatMap za2).flatMap fun t=>zaP (m t)).filter fun t=>zkE (m t))=(((svs.flatMap za2).flatMap fun t=>zaP (m' t)).filter fun t=>zkE (m' t)):=by
  rw [← hT2]
  refine List.filter_congr fun u hu=>?_
  rw [hin u hu]
 have hT:zeh m svs=zeh m' svs:=by unfold zeh;rw [hfil]
 -- a tag of T
 have hmT:∀ u,u∈zeh m svs→m u=m' u∧∀ x,x∈zaP (m u)→m x=m' x:=by
  intro u hu
  rcases List.mem_append.1 (zeU _ _ u hu) with h1 | h1
  ·exact h u h1
  ·obtain ⟨h2,h3⟩:=List.mem_filter.1 h1
   refine ⟨hin u h2,fun x hx=>?_⟩
   cases hm:m u with
   | row=>rw [hm] at hx;cases hx
   | _=>rw [hm] at h3;cases h3
 have hV:(clOf e m svs).V.T=(clOf e m' svs).V.T:=by
  unfold clOf
  cases e.wr with
  | false=>rfl
  | true=>exact hT
 have hmV:∀ u,u∈(clOf e m svs).V.T→m u=m' u∧∀ x,x∈zaP (m u)→m x=m' x:=by
  intro u hu
  have hu:u∈(match e.wr with | true=>zeh m svs | false=>[]):=hu
  cases hw:e.wr with
  | false=>rw [hw] at hu;cases hu
  | true=>rw [hw] at hu;exact hmT u hu
 have e1:(clOf e m' svs).V=⟨m',(clOf e m svs).V.T⟩:=by rw [hV];rfl
 have e0:(clOf e m svs).V=⟨m,(clOf e m svs).V.T⟩:=rfl
 have hd:∀ s,s∈svs→Deep m m' (za2 s):=fun s hs t ht=>h t (List.mem_flatMap.2 ⟨s,hs,ht⟩)
 have a1:∀ l s,s∈svs→vw1 (clOf e m svs).V l s=vw1 (clOf e m' svs).V l s:=fun l s hs=>by rw [e1,e0];exact (zhV (hd s hs)).1
 have a2:∀ l s,s∈svs→lp1 (clOf e m svs).V l s=lp1 (clOf e m' svs).V l s:=fun l s hs=>by rw [e1,e0];exact (zhV (hd s hs)).2.1
 have a3:∀ l s,s∈svs→op1 (clOf e m svs).V l s=op1 (clOf e m' svs).V l s:=fun l s hs=>by rw [e1,e0];exact (zhV (hd s hs)).2.2
 have b1:∀ l t,t∈(clOf e m svs).V.T→vwB (clOf e m svs).V l (m t)=vwB (clOf e m' svs).V l (m' t):=fun l t ht=>by rw [e1,e0];exact (zhU (hmV t ht).1 (hmV t ht).2).1
 have b2:∀ l t,t∈(clOf e m svs).V.T→lpB (clOf e m svs).V l (m t)=lpB (clOf e m' svs).V l (m' t):=fun l t ht=>by rw [e1,e0];exact (zhU (hmV t ht).1 (hmV t ht).2).2.1
 have b3:∀ l t,t∈(clOf e m svs).V.T→opB (clOf e m svs).V l (m t)=opB (clOf e m' svs).V l (m' t):=fun l t ht=>by rw [e1,e0];exact (zhU (hmV t ht).1 (hmV t ht).2).2.2
 refine ⟨hV,zbP _ _ a1,?_,?_,?_,fun u hu=>(hmV u hu).1⟩
 ·show zipL (fun l t=>vwB (clOf e m svs).V l (m t)) (clOf e m svs).V.T e.gl=zipL (fun l t=>vwB (clOf e m' svs).V l (m' t)) (clOf e m' svs).V.T e.gl
  rw [← hV];exact zbP _ _ b1
 ·show (zipL (fun l s=>lp1 (clOf e m svs).V l s) svs e.al).flatMap id++(zipL (fun l t=>lpB (clOf e m svs).V l (m t)) (clOf e m svs).V.T e.gl).flatMap id=(zipL (fun l s=>lp1 (clOf e m' svs).V l s) svs e.al).flatMap id++(zipL (fun l t=>lpB (clOf e m' svs).V l (m' t)) (clOf e m' svs).V.T e.gl).flatMap id
  rw [← hV,zbP _ _ a2,zbP _ _ b2]
 ·show (zipL (fun l s=>op1 (clOf e m svs).V l s) svs e.al).flatMap id++(zipL (fun l t=>opB (clOf e m svs).V l (m t)) (clOf e m svs).V.T e.gl).flatMap id=(zipL (fun l s=>op1 (clOf e m' svs).V l s) svs e.al).flatMap id++(zipL (fun l t=>opB (clOf e m' svs).V l (m' t)) (clOf e m' svs).V.T e.gl).flatMap id
  rw [← hV,zbP _ _ a3,zbP _ _ b3]
theorem zm8 {e:Ent} {c:Nat} {a b:St} {svs:List SV} {U:List (Nat×BE)} {q q':Cl} (hf:(blkN c 24).all a.free=(blkN c 24).all b.free) (h1:q.V.T=q'.V.T) (h2:q.aV=q'.aV) (h3:q.bV=q'.bV) (h4:q.LP=q'.LP) (h5:q.OP=q'.OP) (h6:∀ u,u∈q.V.T→q.V.m u=q'.V.m u) (h7:q.nl=q'.nl) :
  orcE e c a svs U q=orcE e c b svs U q':=by
 have k1:q.ok=q'.ok:=by
  unfold Cl.ok
  rw [h1,h3,h4,h5,h7]
  have:(q'.V.T.all fun u=>(q.V.m u).live)=(q'.V.T.all fun u=>(q'.V.m u).live):=by
   rw [Bool.eq_iff_iff,List.all_eq_true,List.all_eq_true]
   exact ⟨fun h u hu=>by rw [← h6 u (h1▸hu)];exact h u hu,fun h u hu=>by rw [h6 u (h1▸hu)];exact h u hu⟩
  rw [this]
 have k2:q.ins=q'.ins:=by unfold Cl.ins;rw [h2]
 have k3:q.mi=q'.mi:=by unfold Cl.mi;rw [h3]
 have k4:q.needs=q'.needs:=by unfold Cl.needs;rw [h2,h3]
 have r1:∀ c ls,relL q c ls=relL q' c ls:=fun c ls=>by unfold relL;rw [h4,h7]
 have r2:∀ c t,relT q c t=relT q' c t:=fun c t=>by unfold relT;rw [h1]
 have r3:∀ c,rel0 q c=rel0 q' c:=fun c=>by funext s;cases s<;>simp only [rel0,r1,r2]
 have r4:∀ c,rel1 q c=rel1 q' c:=fun c=>by
  funext s
  unfold rel1
  rw [r3]
 have r5:∀ c,relV q c=relV q' c:=fun c=>by
  funext s
  unfold relV
  rw [r4]
 have r6:∀ c,relB q c=relB q' c:=fun c=>by
  funext s
  cases s<;>simp only [relB,r3,r1]
 have o1:okLs q=okLs q':=by funext ls;unfold okLs;rw [h5,h7]
 have o2:ok0 q=ok0 q':=by funext n s;cases s<;>simp only [ok0,o1]
 have o3:ok1 q=ok1 q':=by funext n s;unfold ok1;rw [o2]
 have o4:okV q=okV q':=by funext n s;unfold okV;rw [o3]
 have o5:okB q=okB q':=by funext n s;cases s<;>simp only [okB,o1,o2]
 have o6:∀ out mo,q.okO out mo=q'.okO out mo:=fun out mo=>by unfold Cl.okO;rw [o4,o5,h1]
 have u1:∀ c mo,q.upds c mo=q'.upds c mo:=fun c mo=>by unfold Cl.upds;rw [h1,r6]
 unfold orcE
 rw [k1,hf,k2,k3]
 simp only [o6,k4,r5,u1]
theorem zdp:∀ {svs:List SV} {t:Nat},zci svs=some t→t∈svs.flatMap za2
 | [],_,h=>by simp [zci] at h
 | s::r,t,h=>by
  unfold zci at h
  split at h
  ·cases h
  ·rename_i t2 o r2 e
   simp only [Option.some.injEq] at h
   subst h
   cases e
   exact List.mem_flatMap.2 ⟨_,List.mem_cons_self ..,by simp [za2,svR,zai]⟩
  ·rename_i x r2 hx e
   cases e
   obtain ⟨s2,h1,h2⟩:=List.mem_flatMap.1 (zdp h)
   exact List.mem_flatMap.2 ⟨s2,List.mem_cons_of_mem _ h1,h2⟩
theorem zdN:∀ (vr:List (Nat×TypeId×RL)) (c:Nat) (vs:List SV) (u:Nat),u∈(nrmS c vr vs).1.flatMap zai→u∈vs.flatMap zai∨(c≤u∧u<c+vr.length)
 | [],c,vs,u,h=> .inl h
 | (i,T,r)::q,c,vs,u,h=>by
  simp only [nrmS] at h
  split at h
  ·rcases zdN q (c+1) _ u h with h1 | h1
   ·obtain ⟨s,h2,h3⟩:=List.mem_flatMap.1 h1
    rcases List.mem_or_eq_of_mem_set h2 with h4 | h4
    ·exact .inl (List.mem_flatMap.2 ⟨s,h4,h3⟩)
    ·subst h4
     simp only [zai,List.mem_singleton] at h3
     subst h3
     exact .inr ⟨Nat.le_refl _,by simp⟩
   ·exact .inr ⟨by omega,by simp;omega⟩
  ·rcases zdN q (c+1) _ u h with h1 | h1
   ·exact .inl h1
   ·exact .inr ⟨by omega,by simp;omega⟩
theorem zky (tab:List Ent) (kd:TypeId→Option RL) (ow:FuncId→St→List SV→Option (List Prop×List Nat×SV)):zdt ⟨kd,orcT tab,ow⟩:=by
 intro c f a b svs hl h
 show orcT tab c f a svs=orcT tab c f b svs
 unfold orcT
 cases zh6 tab f with
 | none=>rfl
 | some e=>
  simp only
  have hfree:(blkN c 24).all a.free=(blkN c 24).all b.free:=by
   have:∀ t,t∈blkN c 24→a.free t=b.free t:=fun t ht=>by simp only [St.free,h t (.inl ht)]
   rw [Bool.eq_iff_iff,List.all_eq_true,List.all_eq_true]
   exact ⟨fun h2 t ht=>by rw [← this t ht];exact h2 t ht,fun h2 t ht=>by rw [this t ht];exact h2 t ht⟩
  by_cases hv:Nat.ble e.vr.length 8=true
  ·have hvl:=Nat.le_of_ble_eq_true hv
   have h1:∀ t,t∈svs.flatMap za2→a.m t=b.m t:=fun t ht=>h t (.inr (List.mem_append_left _ ht))
   have h2:∀ t,t∈svs.flatMap za2→∀ u,u∈zaP (a.m t)→a.m u=b.m u:=fun t ht u hu=>h u (.inr (List.mem_append_right _ (List.mem_flatMap.2 ⟨t,ht,by
    unfold zaP at hu
    split at hu
    ·rename_i e2;rw [e2];exact hu
    ·cases hu⟩)))
   have hU:nrm e.vr c a.m svs=nrm e.vr c b.m svs:=by
    unfold nrm
    cases hp:zci svs with
    | none=>rfl
    | some t=>simp only;rw [h1 t (zdp hp)]
   rw [← hU]
   have hag:∀ t,(a.m t=b.m t)→putF (nrm e.vr c a.m svs) a.m t=putF (nrm e.vr c a.m svs) b.m t:=by
    intro t ht
    by_cases hk:∃ e',(t,e')∈nrm e.vr c a.m svs
    ·obtain ⟨e',he'⟩:=hk
     exact zdK _ _ _ t (List.mem_map.2 ⟨_,he',rfl⟩)
    ·rw [zc8 (fun e' he'=>hk ⟨e',he'⟩),zc8 (fun e' he'=>hk ⟨e',he'⟩)];exact ht
   have hblk:∀ t,c≤t→t<c+24→a.m t=b.m t:=fun t h3 h4=>h t (.inl ((zbM 24 c t).2 ⟨h3,h4⟩))
   have hdeep:Deep (putF (nrm e.vr c a.m svs) a.m) (putF (nrm e.vr c a.m svs) b.m) (svs.flatMap za2):=by
    intro t ht
    refine ⟨hag t (h1 t ht),fun u hu=>hag u ?_⟩
    rcases zgG (l:=nrm e.vr c a.m svs) (m:=a.m) (t:=t) with h3 | h3
    ·rw [h3] at hu;exact h2 t ht u hu
    ·generalize putF (nrm e.vr c a.m svs) a.m t=y at h3 hu
     unfold nrm at h3
     split at h3
     ·rename_i t0 hp
      split at h3
      ·rename_i T vs hmt
       split at h3
       ·cases h3
       ·rcases List.mem_cons.1 h3 with h4 | h4
        ·cases h4
         rcases zdN e.vr c vs u hu with h5 | h5
         ·exact h2 t ht u (by rw [hmt];exact h5)
         ·exact hblk u h5.1 (by omega)
        ·have:=(zbX e.vr c vs t y h4).2.2
         cases y with
         | row=>cases hu
         | _=>cases this
      ·cases h3
     ·cases h3
   obtain ⟨k1,k2,k3,k4,k5,k6⟩:=znn (e:=e) hdeep
   exact zm8 hfree k1 k2 k3 k4 k5 k6 rfl
  ·unfold orcE
   have:Nat.ble e.vr.length 8=false:=by cases hb:Nat.ble e.vr.length 8<;>simp_all
   rw [this];simp
end
end Go.Proofs.Ytfccndnnpkiajaa
namespace Go.Proofs.Ytfccndnnpkiajaa
open Go.RowKit Go.ChangeShapes Go.WideShapes Go.Deep
section ops
variable {P : Program} {base : Nat} {X : Cx} {w0 : World} {st : St}
theorem OwnR.put {w:World} {T:TypeId} {S S2:Nat→Prop} {fs:List Ty} {g n c:Nat} {rows:List (List D)} (h:OwnR 0 w T S fs (.slice (some ⟨g,0,none⟩) n c) rows) {i off:Nat} (hi:i<rows.length) {xs zs:List Value} {ds:List D} {cur:Array Value} (hg:w.heap[g]? = some (.cells cur T (0,0)))
  (hx:xs=(cur.toList.drop (i*fs.length)).take fs.length) (ho:off+zs.length≤fs.length) (hd:RdL w (fun b=>S2 b∧b≠g) fs (xs.take off++zs++xs.drop (off+zs.length)) ds) :
  OwnR 0 (w.setRow g (cur.toList.take (i*fs.length+off)++zs++cur.toList.drop (i*fs.length+off+zs.length)).toArray) T (fun b=>S b∨S2 b) fs (.slice (some ⟨g,0,none⟩) n c) (rows.set i ds):=by
 obtain ⟨cells,ho2,hr⟩:=h
 rcases ho2.2 with ⟨e,_⟩ | ⟨g2,cap,cur2,e,_,hg2,hnc,hcm,hcs,htake⟩
 ·simp at e
 simp only [Value.slice.injEq,Option.some.injEq,Addr.mk.injEq,and_true] at e
 obtain ⟨rfl,rfl,rfl⟩:=e
 rw [hg] at hg2
 simp only [Option.some.injEq,Obj.cells.injEq,and_true,true_and] at hg2
 subst hg2
 have hkey:∀ j,j<rows.length→j*fs.length+fs.length≤rows.length*fs.length:=fun j hj=>by
  have:(j+1)*fs.length≤rows.length*fs.length:=Nat.mul_le_mul_right _ hj
  rwa [Nat.add_mul,Nat.one_mul] at this
 have hcl:cells.length=rows.length*fs.length:=ho2.1
 have hcurl:rows.length*fs.length≤cur.toList.length:=by
  have h0:cur.toList.length=cur.size:=Array.length_toList
  rw [h0,hcs];exact Nat.mul_le_mul_right _ hnc
 generalize hN:(cur.toList.take (i*fs.length+off)++zs++cur.toList.drop (i*fs.length+off+zs.length))=N
 have hk:=hkey i hi
 have hNl:N.length=cur.toList.length:=by rw [← hN];simp;simp at hcurl;omega
 -- the cells anew
 have hat:∀ m,N[m]? = if m<i*fs.length+off then cur.toList[m]? else if m<i*fs.length+off+zs.length then zs[m-(i*fs.length+off)]? else cur.toList[m]? := by
  intro m
  have hll:(cur.toList.take (i*fs.length+off)).length=i*fs.length+off:=by simp;simp at hcurl;omega
  rw [← hN,List.append_assoc]
  by_cases h1:m<i*fs.length+off
  ·rw [if_pos h1,List.getElem?_append_left (by omega),List.getElem?_take,if_pos h1]
  ·rw [if_neg h1,List.getElem?_append_right (by omega),hll]
   by_cases h2:m<i*fs.length+off+zs.length
   ·rw [if_pos h2,List.getElem?_append_left (by omega)]
   ·rw [if_neg h2,List.getElem?_append_right (by omega),List.getElem?_drop]
    congr 1;omega
 have hS:Same (fun b=>b≠g) w (w.setRow g N.toArray):=⟨by simp,fun b hb _=>setRow_other w g b _ hb⟩
 refine ⟨N.take (rows.length*fs.length),⟨?_,.inr ⟨g,c,N.toArray,by simp,Nat.zero_le _,setRow_heap w g cur _ T _ hg,by simpa using hnc,hcm,by simp [hNl,hcs],by simp⟩⟩,fun j hj=>?_⟩
 ·simp [hNl];simp at hcurl;omega
 ·rw [List.length_set] at hj
  have hkj:=hkey j hj
  have e1:((N.take (rows.length*fs.length)).drop (j*fs.length)).take fs.length=(N.drop (j*fs.length)).take fs.length:=by
   apply List.ext_getElem?
   intro m
   simp only [List.getElem?_take,List.getElem?_drop]
   by_cases hm:m<fs.length
   ·rw [if_pos hm,if_pos hm,if_pos (by omega)]
   ·rw [if_neg hm,if_neg hm]
  rw [e1]
  by_cases hji:j=i
  ·subst hji
   have e2:(rows.set j ds).getD j []=ds:=by simp [List.getD,hj]
   have e3:(N.drop (j*fs.length)).take fs.length=xs.take off++zs++xs.drop (off+zs.length):=by
    apply List.ext_getElem?
    intro m
    have hxl:xs.length=fs.length:=by rw [hx];simp;simp at hcurl;omega
    rw [List.getElem?_take,List.getElem?_drop,hat,List.append_assoc]
    have hxa:∀ m,m<fs.length→xs[m]? = cur.toList[j*fs.length+m]? := fun m hm=>by rw [hx,List.getElem?_take,if_pos hm,List.getElem?_drop]
    by_cases hm:m<fs.length
    ·rw [if_pos hm]
     by_cases h1:m<off
     ·rw [if_pos (by omega),List.getElem?_append_left (by simp;omega),List.getElem?_take,if_pos h1,hxa m hm]
     ·rw [if_neg (by omega),List.getElem?_append_right (by simp;omega)]
      have hll:(xs.take off).length=off:=by simp;omega
      rw [hll]
      by_cases h2:m<off+zs.length
      ·rw [if_pos (by omega),List.getElem?_append_left (by omega)];congr 1;omega
      ·rw [if_neg (by omega),List.getElem?_append_right (by omega),List.getElem?_drop,show off+zs.length+(m-off-zs.length)=m by omega,hxa m hm]
    ·rw [if_neg hm,List.getElem?_eq_none]
     simp;omega
   rw [e2,e3]
   exact (hd.mono (fun b _ hb=>(⟨.inr hb.1,fun e=>hb.2 (by simpa [Value.ownBlock] using e.symm)⟩:(S b∨S2 b)∧Value.ownBlock (.slice (some ⟨g,0,none⟩) rows.length c)≠some b))).same (hS.mono fun b hb e=>hb.2 (by subst e;rfl))
  ·have hne:¬ i=j:=fun e=>hji e.symm
   have e2:(rows.set i ds).getD j []=rows.getD j []:=by simp [List.getD,List.getElem?_set,hne]
   have e3:(N.drop (j*fs.length)).take fs.length=(cells.drop (j*fs.length)).take fs.length:=by
    apply List.ext_getElem?
    intro m
    simp only [List.getElem?_take,List.getElem?_drop]
    by_cases hm:m<fs.length
    ·rw [if_pos hm,if_pos hm,← htake,List.getElem?_take,if_pos (show j*fs.length+m<rows.length*fs.length by omega),hat]
     rcases Nat.lt_or_gt_of_ne hji with h1 | h1
     ·have:(j+1)*fs.length≤i*fs.length:=Nat.mul_le_mul_right _ h1
      rw [Nat.add_mul,Nat.one_mul] at this
      rw [if_pos (by omega)]
     ·have:(i+1)*fs.length≤j*fs.length:=Nat.mul_le_mul_right _ h1
      rw [Nat.add_mul,Nat.one_mul] at this
      rw [if_neg (by omega),if_neg (by omega)]
    ·rw [if_neg hm,if_neg hm]
   rw [e2,e3]
   exact ((hr j hj).mono (fun b _ hb=>(⟨.inl hb.1,hb.2⟩:(S b∨S2 b)∧Value.ownBlock (.slice (some ⟨g,0,none⟩) rows.length c)≠some b))).same (hS.mono fun b hb e=>hb.2 (by subst e;rfl))
def cPut (P:Program) (st:St) (T:TypeId) (x y:Operand):Option Upd:=
 match zag (st.ev x),zag (st.ev y),zbi P T with
 | (.oel t sz i off,n1),(s,n2),some k=>match st.m t with
  | .row Tb ls r=>if sz=r.tys.length then (if s.cells.all SV.flat then (if s.cells.length=k then (if off+k≤sz then (match r.put i (splice (r.elem ls i) s.cells off) with
   | some (r2,m)=>some ⟨n1++n2++[i<r.len],.any,[(t,.row Tb (ls++m) r2)]⟩
   | none=>none) else none) else none) else none) else none
  | _=>none
 | _,_,_=>none
theorem znq (o:Oper) (T:TypeId) (x y:Operand) (ho:o.op = .store T x y) {u:Upd} (hu:cPut P st T x y=some u):Does P base X w0 st o u:=by
 unfold cPut at hu
 split at hu
 case h_2=>simp at hu
 rename_i t sz i off n1 s n2 k e1 e2 e3
 split at hu
 case h_2=>simp at hu
 rename_i Tb ls r hm
 split at hu
 case isFalse=>simp at hu
 split at hu
 case isFalse=>simp at hu
 split at hu
 case isFalse=>simp at hu
 split at hu
 case isFalse=>simp at hu
 split at hu
 case h_2=>simp at hu
 rename_i hsz hf hk hl _ r2 m hput
 simp only [Option.some.injEq] at hu
 subst hu
 subst hsz
 intro E a w K Q h hn hK
 have h1:=zab (h.ev x) (fun p hp=>hn p (by rw [e1] at hp;simp [hp]))
 have h2:=zab (h.ev y) (fun p hp=>hn p (by rw [e2] at hp;simp [hp]))
 have hi:i<r.len:=hn (i<r.len) (by simp)
 rw [e1] at h1
 rw [e2] at h2
 obtain ⟨zs,hz,hzd⟩:=zd5 hf h2
 obtain ⟨b,q,c,hb,hx⟩:=h1
 obtain ⟨v',c1,c2⟩:=h.mem.row t _ _ _ hm
 rw [c1] at hb
 simp only [Option.some.injEq] at hb
 subst hb
 have hzl:zs.length=k:=by rw [hzd.len];exact hk
 have hrl:r.rows.length=r.len:=r.rows_len
 obtain ⟨cells,hoR,hrow⟩:=c2
 rcases hoR.2 with ⟨e,_⟩ | ⟨g,cap,cur,e,_,hg,hnc,hcm,hcs,htake⟩
 ·simp at e
 simp only [Value.slice.injEq,Option.some.injEq,Addr.mk.injEq,and_true] at e
 obtain ⟨rfl,rfl,rfl⟩:=e
 have hki:i*r.tys.length+r.tys.length≤cur.size:=by
  rw [hcs]
  have h3:(i+1)*r.tys.length≤r.rows.length*r.tys.length:=Nat.mul_le_mul_right _ (by omega)
  have h4:r.rows.length*r.tys.length≤c*r.tys.length:=Nat.mul_le_mul_right _ hnc
  rw [Nat.add_mul,Nat.one_mul] at h3
  omega
 have hrun:=zc6 (P:=P) e3 hz hzl (xs:=cur.toList) (b:=b) (off:=i*r.tys.length+off) (Tb:=Tb) (by simpa using hg) (by have h0:cur.toList.length=cur.size:=Array.length_toList;omega) (DenL.ones hf hzd)
 have hHas:Has E st.m t b:=Has.row hm c1 rfl
 have hsep:=(h.mem.sep t b hHas).1
 have hne:∀ g,za4 (.slice (some ⟨b,0,none⟩) r.rows.length c)≠some g→g≠b:=by intro g hg e;exact hg (by simp [za4,e])
 generalize hw':w.setRow b (cur.toList.take (i*r.tys.length+off)++zs++cur.toList.drop (i*r.tys.length+off+zs.length)).toArray=w' at hrun
 have hS:Same E.lab w w':=by
  rw [← hw']
  exact ⟨by simp,fun g hg _=>setRow_other w b g _ (fun e=>hsep (e▸hg))⟩
 -- the element's cells
 have hL:RdL w (E.set ls) r.tys ((cells.drop (i*r.tys.length)).take r.tys.length) (r.rows.getD i []):=(hrow i (by omega)).mono fun b _ hb=>hb.1
 have hcx:(cells.drop (i*r.tys.length)).take r.tys.length=(cur.toList.drop (i*r.tys.length)).take r.tys.length:=by
  rw [← htake]
  apply List.ext_getElem?
  intro m
  simp only [List.getElem?_take,List.getElem?_drop]
  have h3:(i+1)*r.tys.length≤r.rows.length*r.tys.length:=Nat.mul_le_mul_right _ (by omega)
  rw [Nat.add_mul,Nat.one_mul] at h3
  by_cases hm2:m<r.tys.length
  ·rw [if_pos hm2,if_pos hm2,if_pos (by omega)]
  ·rw [if_neg hm2,if_neg hm2]
 have hel:=RL.elem_ok hi hL
 have hsp:=zdE hel hzd off
 obtain ⟨ht2,hl2,ds,hrows,hds⟩:=RL.put_ok i hput
 have hD:=hds E w _ hsp
 have hput2:=OwnR.put (S:=E.set ls) (S2:=E.set m) ⟨cells,hoR,hrow⟩ (i:=i) (off:=off) (by omega) hg hcx (by omega) (hD.mono fun b2 _ hb2=>⟨hb2,fun e=>hsep (e▸Env.set_lab hb2)⟩)
 rw [hw'] at hput2
 refine zez (w':=w') ?_ (hK E _ _ (Env.Le.refl E) hS trivial ?_)
 ·simp only [execOp,ho,Instr.storeAt,hx,Instr.sureAddr,Sem.run_bind,Sem.run_pure,Result.andThen,hrun]
 ·rw [zbw]
  refine h.mem.poke (by show (st.m t).live=true;rw [hm];rfl) c1 _ rfl (by rw [← hw'];simp) (fun g hg' _=>by rw [← hw'];exact setRow_other w b g _ (hne g hg')) (by rw [← hw'];exact ⟨rfl,rfl,rfl⟩) ?_
  show OwnR 0 w' Tb (E.set (ls++m)) r2.tys _ r2.rows
  rw [ht2,hrows]
  exact hput2.mono (Nat.le_refl _) (fun b2 hb2=>hb2.elim (Env.set_mono (fun i hi=>List.mem_append_left _ hi) b2) (Env.set_mono (fun i hi=>List.mem_append_right _ hi) b2))
def cMin (st:St) (x y:Operand):Option Upd:=
 match zag (st.ev x),zag (st.ev y) with
 | (.int k a,n),(.int k' b,m)=>if k=k' then some ⟨n++m,.int k (if b<a then b else a),[]⟩ else none
 | _,_=>none
def cMax (st:St) (x y:Operand):Option Upd:=
 match zag (st.ev x),zag (st.ev y) with
 | (.int k a,n),(.int k' b,m)=>if k=k' then some ⟨n++m,.int k (if b>a then b else a),[]⟩ else none
 | _,_=>none
theorem znt (o:Oper) (x y:Operand) (ts:Array TypeId) (ho:o.op = .call {callee:= .builtin .min,args:= #[x,y],argTypes:=ts}) {u:Upd} (hu:cMin st x y=some u):Does P base X w0 st o u:=by
 unfold cMin at hu
 split at hu
 case h_2=>simp at hu
 rename_i k a n k' b m e1 e2
 split at hu
 case isFalse=>simp at hu
 rename_i hk
 subst hk
 simp only [Option.some.injEq] at hu
 subst hu
 refine Does.pure fun E ac w h hn=>?_
 have hx:=zab (h.ev x) (fun p hp=>hn p (by rw [e1] at hp;simp [hp]))
 have hy:=zab (h.ev y) (fun p hp=>hn p (by rw [e2] at hp;simp [hp]))
 rw [e1] at hx
 rw [e2] at hy
 obtain ⟨hx,wx⟩:=hx
 obtain ⟨hy,wy⟩:=hy
 refine ⟨.int k (if b<a then b else a),?_,rfl,by split<;>assumption⟩
 simp [execOp,ho,resolve,invoke,builtin,Builtin.min_,hx,hy,Builtin.min2]
theorem znu (o:Oper) (x y:Operand) (ts:Array TypeId) (ho:o.op = .call {callee:= .builtin .max,args:= #[x,y],argTypes:=ts}) {u:Upd} (hu:cMax st x y=some u):Does P base X w0 st o u:=by
 unfold cMax at hu
 split at hu
 case h_2=>simp at hu
 rename_i k a n k' b m e1 e2
 split at hu
 case isFalse=>simp at hu
 rename_i hk
 subst hk
 simp only [Option.some.injEq] at hu
 subst hu
 refine Does.pure fun E ac w h hn=>?_
 have hx:=zab (h.ev x) (fun p hp=>hn p (by rw [e1] at hp;simp [hp]))
 have hy:=zab (h.ev y) (fun p hp=>hn p (by rw [e2] at hp;simp [hp]))
 rw [e1] at hx
 rw [e2] at hy
 obtain ⟨hx,wx⟩:=hx
 obtain ⟨hy,wy⟩:=hy
 refine ⟨.int k (if b>a then b else a),?_,rfl,by split<;>assumption⟩
 simp [execOp,ho,resolve,invoke,builtin,Builtin.max_,hx,hy,Builtin.max2]
end ops
end Go.Proofs.Ytfccndnnpkiajaa
namespace Go.Proofs.Ytfccndnnpkiajaa
open Go.RowKit Go.ChangeShapes Go.WideShapes Go.Deep
section ops
variable {P : Program} {base : Nat} {X : Cx} {w0 : World} {st : St}
def zh2 (P:Program) (E:TypeId) (k:Nat):Bool:=
 match P.info? E with
 | some i=>match i.zero with
  | some z=>i.size==k&&Nat.ble i.bytes 1024&&z.cells.size==k
  | none=>false
 | none=>false
theorem zeM {E:TypeId} {k:Nat} (h:zh2 P E k=true):∃ bytes,bytes≤1024∧Info P E k bytes:=by
 unfold zh2 at h
 split at h
 case h_2=>simp at h
 rename_i i hi
 split at h
 case h_2=>simp at h
 rename_i z hz
 simp only [Bool.and_eq_true,beq_iff_eq,Nat.ble_eq] at h
 exact ⟨i.bytes,h.1.2,i,z,hi,hz,h.1.1,rfl,h.2⟩
theorem zkf {w:World} {t ty E:TypeId} {S:Nat→Prop} {fs:List Ty} (hk0:0<fs.length) (hkb:fs.length≤64) (ht:P.underlying t=some (.slice E)) (hi:zh2 P E fs.length=true)
  {v xv:Value} {rows ds:List (List D)} {T2:TypeId} {S2:Nat→Prop} (hown:OwnR 0 w E S fs v rows) (hx:OwnR 0 w T2 S2 fs xv ds) (hS:∀ b,S2 b→S b∧v.ownBlock≠some b) (hb:(rows.length+ds.length)*1024≤140737488355328) :
  ∃ v' w',(Builtin.append_ #[t,t] ty #[v,xv]).run P w = .ok v' w'∧OwnR 0 w' E S fs v' (rows++ds)∧w.grownBy w' v.ownBlock∧(v'.ownBlock=v.ownBlock∨v'.ownBlock=some w.heap.size):=by
 obtain ⟨bytes,hbb,hI⟩:=zeM hi
 obtain ⟨cells,⟨hl,⟨rfl,hn⟩ | ⟨g,cap,cur,rfl,hg,hh,hc,hm,hs,htk⟩⟩,hr⟩:=hx
 ·have hnil:ds=[]:=List.eq_nil_of_length_eq_zero hn
  subst hnil
  obtain ⟨i,z,e1,e2,e3,e4,e5⟩:=hI
  obtain ⟨cells,hoc,hr⟩:=hown
  refine ⟨v,w,?_,by rw [List.append_nil];exact ⟨cells,hoc,hr⟩,World.grownBy.refl _ _,.inl rfl⟩
  rcases hoc.2 with ⟨rfl,h2⟩ | ⟨g,cap,cur,rfl,_,_,hnc,_⟩
  ·simp [Builtin.append_,run_underlying ht,sizeOf,typeInfo,e1,Builtin.lenOf,Builtin.firstCells]
  ·simp [Builtin.append_,run_underlying ht,sizeOf,typeInfo,e1,Builtin.lenOf,Builtin.firstCells,hnc,storeCells]
 refine zfU rfl hk0 hkb hbb ht hI hown (Below.refl _ _) ⟨g,0,none⟩ ds.length cap cells ds rfl hl (fun j u hu=>?_) (fun u hu=>?_) (fun i hi=>(hr i hi).mono fun b _ hb=>hS b hb.1) hb (Nat.zero_le _)
 ·rw [← htk] at hu
  have hlt:j<ds.length*fs.length:=by
   rw [htk] at hu
   have:=(List.getElem?_eq_some_iff.1 hu).1
   omega
  rw [List.getElem?_take,if_pos hlt] at hu
  rw [WideShapes.add_plain,Nat.zero_add]
  simp only [World.cell?,hh]
  rw [← Array.getElem?_toList];exact hu
 ·obtain ⟨j,hj,e⟩:=List.getElem_of_mem hu
  have hjd:j / fs.length<ds.length:=Nat.div_lt_of_lt_mul (by rw [Nat.mul_comm];omega)
  have hm1:=Nat.mod_lt j hk0
  have hm2:=Nat.div_add_mod j fs.length
  rw [Nat.mul_comm] at hm2
  refine RdL.ones (hr (j / fs.length) hjd) u ?_
  refine List.mem_of_getElem? (i:=j % fs.length) ?_
  rw [List.getElem?_take,if_pos hm1,List.getElem?_drop,hm2,List.getElem?_eq_getElem hj,e]
theorem zgA {w:World} {t ty E:TypeId} {S:Nat→Prop} {fs:List Ty} (hk0:0<fs.length) (hkb:fs.length≤64) (ht:P.underlying t=some (.slice E)) (hi:zh2 P E fs.length=true)
  {v:Value} {rows ds:List (List D)} {T:Nat→Prop} {ax:Option Addr} {m c:Nat} (hown:OwnR 0 w E S fs v rows) (hd:Sl w T fs ax m c ds) (hS:∀ b,T b→S b∧v.ownBlock≠some b) (hb:(rows.length+ds.length)*1024≤140737488355328) :
  ∃ v' w',(Builtin.append_ #[t,t] ty #[v,.slice ax m c]).run P w = .ok v' w'∧OwnR 0 w' E S fs v' (rows++ds)∧w.grownBy w' v.ownBlock∧(v'.ownBlock=v.ownBlock∨v'.ownBlock=some w.heap.size):=by
 obtain ⟨bytes,hbb,hI⟩:=zeM hi
 have hlen:=hd.len
 rw [hlen] at hb
 rcases ax with _ | ad
 ·obtain ⟨h0,h0'⟩:=hd.bd.2.2.2 rfl
  subst h0;subst h0'
  have hnil:ds=[]:=List.eq_nil_of_length_eq_zero hlen
  subst hnil
  obtain ⟨i,z,e1,e2,e3,e4,e5⟩:=hI
  obtain ⟨cells,hoc,hr⟩:=hown
  refine ⟨v,w,?_,by rw [List.append_nil];exact ⟨cells,hoc,hr⟩,World.grownBy.refl _ _,.inl rfl⟩
  rcases hoc.2 with ⟨rfl,h2⟩ | ⟨g,cap,cur,rfl,_,_,hnc,_⟩
  ·simp [Builtin.append_,run_underlying ht,sizeOf,typeInfo,e1,Builtin.lenOf,Builtin.firstCells]
  ·simp [Builtin.append_,run_underlying ht,sizeOf,typeInfo,e1,Builtin.lenOf,Builtin.firstCells,hnc,storeCells]
 ·by_cases hp:0<m
  ·obtain ⟨b,off,e,hS',hbl,vals,hc,hr⟩:=hd.rowAt hp
   cases e
   exact zfU (P:=P) rfl hk0 hkb hbb ht hI hown (Below.refl _ _) ⟨b,off,none⟩ m c ((List.range m).flatMap fun i=>(List.range fs.length).map (vals i)) ds hlen (zde _ _ _)
    (fun j u hj=>by
     obtain ⟨i,jj,h1,h2,rfl,rfl⟩:=zgQ _ _ _ _ _ hj
     rw [WideShapes.add_plain,← Nat.add_assoc]
     exact hc i jj h1 h2)
    (fun u hu=>by
     obtain ⟨j,hj⟩:=List.getElem?_of_mem hu
     obtain ⟨i,jj,h1,h2,_,rfl⟩:=zgQ _ _ _ _ _ hj
     exact ((hr i h1).2 jj (by omega)).one)
    (fun i hi=>by
     rw [ziY _ _ _ i (by omega)]
     exact RdL.of_at _ (hr i (by omega)).1 (fun j hj=>Rd.mono ((hr i (by omega)).2 j hj) (fun b _ hb=>hS b hb))) hb (Nat.zero_le _)
  ·have h0:m=0:=by omega
   subst h0
   have hnil:ds=[]:=List.eq_nil_of_length_eq_zero hlen
   subst hnil
   exact zfU (P:=P) rfl hk0 hkb hbb ht hI hown (Below.refl _ _) ad 0 c [] [] rfl (by simp) (fun j u hj=>by simp at hj) (fun u hu=>by simp at hu) (fun i hi=>by simp at hi) hb (Nat.zero_le _)
def zdX (st:St) (e:TypeId):SV→Option (Option Nat×List Nat×RL)
 | .own t=>match st.m t with
  | .row Tb ls r=>if Tb=e then some (some t,ls,r) else none
  | _=>none
 | .nil=>match RL.ofT e with
  | some r=>some (none,[],r)
  | none=>none
 | _=>none
def zbN (st:St) (r:RL):SV→Option (Option Nat×List Nat×RL)
 | .own u=>match st.m u with
  | .row _ ms q=>some (some u,ms,q)
  | _=>none
 | .sl ms q=>some (none,ms,q)
 | .nil=>some (none,[],r.emp)
 | _=>none
def zlZ:Option Nat→Option Nat→Bool
 | some t,some u=>!(Nat.beq t u)
 | _,_=>true
def ziK:Option Nat→List (Nat×BE)
 | some t=>[(t,.dead)]
 | none=>[]
theorem RdL.flat {w:World} {S T:Nat→Prop}:∀ {fs:List Ty} {vs:List Value} {ds:List D},fs.all Ty.flat=true→RdL w S fs vs ds→RdL w T fs vs ds
 | [],[],[],_,_=>trivial
 | t::ts,v::vs,d::ds,hf,h=>by
  simp only [List.all_cons,Bool.and_eq_true] at hf
  exact ⟨h.1.any hf.1,RdL.flat hf.2 h.2⟩
 | _::_,[],_,_,h=>h.elim
 | _::_,_::_,[],_,h=>h.elim
 | [],_::_,_,_,h=>h.elim
 | [],[],_::_,_,h=>h.elim
theorem OwnR.flat {b:Nat} {w:World} {T:TypeId} {S S2:Nat→Prop} {fs:List Ty} {v:Value} {rows:List (List D)} (h:OwnR b w T S fs v rows) (hf:fs.all Ty.flat=true):OwnR b w T S2 fs v rows:=by
 obtain ⟨cells,ho,hr⟩:=h
 exact ⟨cells,ho,fun i hi=>RdL.flat hf (hr i hi)⟩
def labA (r:RL) (ls ms:List Nat):List Nat:=if r.tys.all Ty.flat=true then [] else ls++ms
def cApp (P:Program) (st:St) (c:Nat) (T:TypeId) (x y:Operand):Option Upd:=
 match zbe P T with
 | none=>none
 | some e=>match zdX st e (zag (st.ev x)).1 with
  | none=>none
  | some (dt,ls,r)=>match zbN st r (zag (st.ev y)).1 with
   | none=>none
   | some (su,ms,q)=>if zlZ dt su=true then (if st.free c=true then (if zh2 P e r.tys.length=true then (match r.app q with
    | some r2=>some ⟨(zag (st.ev x)).2++(zag (st.ev y)).2++[(r.len+q.len)*1024≤140737488355328],.own c,ziK dt++[(c,.row e (labA r ls ms) r2)]⟩
    | none=>none) else none) else none) else none
theorem zgW {E:Env} {w:World} (hm:MemOk base X w0 E st.m w) {e:TypeId} {s:SV} {dt:Option Nat} {ls:List Nat} {r:RL} (h:zdX st e s=some (dt,ls,r)) {v:Value} (hv:DenV E w s v) :
  OwnR 0 w e (E.set ls) r.tys v r.rows∧(∀ b,v.ownBlock=some b→∃ t,dt=some t∧Has E st.m t b)∧(∀ t,dt=some t→(st.m t).live=true∧E.β t=some v):=by
 cases s
 case own t=>
  simp only [zdX] at h
  split at h
  case h_2=>simp at h
  rename_i Tb ls2 r2 hmt
  split at h
  case isFalse=>simp at h
  rename_i hT
  subst hT
  simp only [Option.some.injEq,Prod.mk.injEq] at h
  obtain ⟨rfl,rfl,rfl⟩:=h
  obtain ⟨v',hβ,ho⟩:=hm.row t _ _ _ hmt
  have hv1:=hv.1
  rw [hβ] at hv1
  simp only [Option.some.injEq] at hv1
  subst hv1
  obtain ⟨a,cc,ef⟩:=ho.form
  refine ⟨ho,fun b hb=>⟨t,rfl,Has.row hmt hβ (by rw [← zaq ⟨a,_,cc,ef⟩];exact hb)⟩,fun t2 ht2=>?_⟩
  cases ht2
  exact ⟨by rw [hmt];rfl,hβ⟩
 case nil=>
  simp only [zdX] at h
  split at h
  case h_2=>simp at h
  rename_i r2 hr
  simp only [Option.some.injEq,Prod.mk.injEq] at h
  obtain ⟨rfl,rfl,rfl⟩:=h
  have:v = .slice none 0 0:=hv
  subst this
  refine ⟨by rw [RL.ofT_ok hr];exact OwnR.nil _ _ _ _ _,fun b hb=>?_,fun t ht=>?_⟩
  ·cases hb
  ·cases ht
 all_goals simp [zdX] at h
theorem zjL {E:Env} {w w':World} (hm:MemOk base X w0 E st.m w) {c:Nat} (hcE:st.m c = .empty) {dt:Option Nat} {v v':Value} (hHas:∀ b,v.ownBlock=some b→∃ t,dt=some t∧Has E st.m t b) (hlive:∀ t,dt=some t→(st.m t).live=true∧E.β t=some v)
  {e:TypeId} {lb:List Nat} {r2:RL} (hO:OwnR 0 w' e (E.set lb) r2.tys v' r2.rows) (hgr:w.grownBy w' v.ownBlock) (hat:v'.ownBlock=v.ownBlock∨v'.ownBlock=some w.heap.size) :
  Same E.lab w w'∧E.Le (E.setβ c v')∧v'.oneCell'=true∧MemOk base X w0 (E.setβ c v') (putF (ziK dt++[(c,.row e lb r2)]) st.m) w':=by
 have hnl:∀ b,E.lab b→v.ownBlock≠some b:=fun b hb e=>by
  obtain ⟨t,_,hh⟩:=hHas b e
  exact (hm.sep t b hh).1 hb
 have hnv:∀ b,E.lab b→some b≠v.ownBlock:=fun b hb e=>hnl b hb e.symm
 have hS:Same E.lab w w':=Same.of_grown hgr hnv
 have hE:=Env.setβ_le (hm.empty c hcE).1 v'
 have hv'f:∃ a n c,v' = .slice a n c:=by obtain ⟨a,c,e⟩:=hO.form;exact ⟨a,_,c,e⟩
 obtain ⟨m1,hm1,hk,hm1c,hm1h⟩:∃ m1,m1=putF (ziK dt) st.m∧MemOk base X w0 E m1 w∧m1 c = .empty∧(∀ s b,Has E m1 s b→Has E st.m s b∧v.ownBlock≠some b):=by
  cases dt with
  | none=>
   refine ⟨st.m,rfl,hm,hcE,fun s b hh=>⟨hh,fun e=>?_⟩⟩
   obtain ⟨t,ht,_⟩:=hHas b e
   cases ht
  | some t=>
   have hct:c≠t:=fun e=>by
    have:=(hlive t rfl).1
    rw [← e,hcE] at this;cases this
   refine ⟨upd st.m t .dead,rfl,hm.kill t,by rw [zaH _ _ hct];exact hcE,fun s b hh=>?_⟩
   have hst:s≠t:=fun e2=>by subst e2;have:=hh.1;rw [zaG] at this;cases this
   have hs2:Has E st.m s b:=⟨by have:=hh.1;rwa [zaH _ _ hst] at this,by have:=hh.2;rwa [zaH _ _ hst] at this⟩
   refine ⟨hs2,fun e=>?_⟩
   obtain ⟨t2,ht2,hh2⟩:=hHas b e
   cases ht2
   exact hst (hm.inj s t b hs2 hh2)
 have hm':MemOk base X w0 (E.setβ c v') (upd m1 c (.row e lb r2)) w':=by
  refine hk.take hm1c v' _ (by simp) hgr.size (fun b hb=>?_) ⟨hgr.os,hgr.tape,hgr.output,hgr.size,fun b hb hX=>?_⟩ (fun b hb=>?_) hO
  ·have hlt:b<w.heap.size:=by
    rcases hb with ⟨i,hi⟩ | ⟨s,hs⟩
    ·exact (hk.lab i b hi).1
    ·exact hk.lt hs
   refine hgr.block b hlt ?_
   rcases hb with hb | ⟨s,hs⟩
   ·exact hnv b hb
   ·exact fun e=>(hm1h s b hs).2 e.symm
  ·refine hgr.block b (Nat.lt_of_lt_of_le hb hm.base) (fun e=>?_)
   obtain ⟨t,_,hh⟩:=hHas b e.symm
   rcases (hm.sep t b hh).2 with h3 | h3
   ·omega
   ·exact hX h3
  ·have hb:v'.ownBlock=some b:=by rw [zaq hv'f];exact hb
   rcases hat with e | e
   ·rw [e] at hb
    obtain ⟨t,_,hh⟩:=hHas b hb
    exact ⟨(hm.sep t b hh).1,fun s hs=>(hm1h s b hs).2 hb,(hm.sep t b hh).2⟩
   ·rw [e] at hb
    simp only [Option.some.injEq] at hb
    subst hb
    exact ⟨fun ⟨i,hi⟩=>Nat.lt_irrefl _ (hm.lab i _ hi).1,fun s hs=>Nat.lt_irrefl _ (hk.lt hs),.inl hm.base⟩
 refine ⟨hS,hE,by obtain ⟨a,n,c,e⟩:=hv'f;rw [e];rfl,?_⟩
 have e4:putF (ziK dt++[(c,.row e lb r2)]) st.m=upd m1 c (.row e lb r2):=by
  rw [hm1]
  cases dt with
  | none=>rfl
  | some t=>
   have hct:t≠c:=fun e=>by
    have:=(hlive t rfl).1
    rw [e,hcE] at this;cases this
   show upd (upd st.m c _) t .dead=upd (upd st.m t .dead) c _
   exact (zgw _ _ _ hct).symm
 rw [e4];exact hm'
theorem zn5 (o:Oper) (c:Nat) (T:TypeId) (x y:Operand) (ho:o.op = .call {callee:= .builtin .append,args:= #[x,y],argTypes:= #[T,T]}) {u:Upd} (hu:cApp P st c T x y=some u):Does P base X w0 st o u:=by
 unfold cApp at hu
 split at hu
 case h_1=>simp at hu
 rename_i e he
 split at hu
 case h_1=>simp at hu
 rename_i dt ls r hdst
 split at hu
 case h_1=>simp at hu
 rename_i su ms q hsrc
 split at hu
 case isFalse=>simp at hu
 rename_i hap
 split at hu
 case isFalse=>simp at hu
 rename_i hfree
 split at hu
 case isFalse=>simp at hu
 rename_i hinfo
 split at hu
 case h_2=>simp at hu
 rename_i r2 hr2
 simp only [Option.some.injEq] at hu
 subst hu
 intro E a w K Q h hn hK
 have hx:=zab (h.ev x) (fun p hp=>hn p (by simp [hp]))
 have hy:=zab (h.ev y) (fun p hp=>hn p (by simp [hp]))
 have hbd:(r.len+q.len)*1024≤140737488355328:=hn _ (by simp)
 obtain ⟨o1,hHas,hlive⟩:=zgW h.mem hdst hx
 obtain ⟨b1,b2,b3,b4⟩:=RL.app_ok hr2
 have hrl:r.rows.length=r.len:=r.rows_len
 have hql:q.rows.length=q.len:=q.rows_len
 have hcE:=St.of_free hfree
 obtain ⟨v,hav⟩:∃ v,a.eval x=v:=⟨_,rfl⟩
 rw [hav] at hx o1 hHas hlive
 have hform:∃ a n c,v = .slice a n c:=by obtain ⟨a,c,e⟩:=o1.form;exact ⟨a,_,c,e⟩
 have hvo:v.ownBlock=za4 v:=zaq hform
 have hnl:∀ b,E.lab b→v.ownBlock≠some b:=fun b hb e=>by
  obtain ⟨t,_,hh⟩:=hHas b e
  exact (h.mem.sep t b hh).1 hb
 have hrun:∃ v' w',(Builtin.append_ #[T,T] o.type #[v,a.eval y]).run P w = .ok v' w'∧OwnR 0 w' e (E.set (ls++ms)) r.tys v' (r.rows++q.rows)∧w.grownBy w' v.ownBlock∧(v'.ownBlock=v.ownBlock∨v'.ownBlock=some w.heap.size):=by
  have o1':=o1.mono (T:=E.set (ls++ms)) (Nat.le_refl _) (fun b hb=>Env.set_mono (fun i hi=>List.mem_append_left _ hi) b hb)
  have hS:∀ b,E.set ms b→E.set (ls++ms) b∧v.ownBlock≠some b:=fun b hb=>⟨Env.set_mono (fun i hi=>List.mem_append_right _ hi) b hb,hnl b (Env.set_lab hb)⟩
  cases hs:(zag (st.ev y)).1 with
  | own u=>
   rw [hs] at hsrc hy
   simp only [zbN] at hsrc
   split at hsrc
   case h_2=>simp at hsrc
   rename_i Tu ms2 q2 hmu
   simp only [Option.some.injEq,Prod.mk.injEq] at hsrc
   obtain ⟨rfl,rfl,rfl⟩:=hsrc
   obtain ⟨xv,hβ,ho2⟩:=h.mem.row u _ _ _ hmu
   have hv1:=hy.1
   rw [hβ] at hv1
   simp only [Option.some.injEq] at hv1
   rw [b3] at ho2
   rw [← hv1]
   exact zkf (RL.tys_pos r).1 (RL.tys_pos r).2 (zao he) hinfo o1' ho2 hS (by rw [hrl,hql];exact hbd)
  | sl ms2 q2=>
   rw [hs] at hsrc hy
   simp only [zbN,Option.some.injEq,Prod.mk.injEq] at hsrc
   obtain ⟨rfl,rfl,rfl⟩:=hsrc
   have hy:Rd w (E.set ms2) (.sl q2.tys) (a.eval y) (.sl q2.rows):=hy
   obtain ⟨ad,cc,e1,e2⟩:=hy.sl'
   rw [b3] at e2
   rw [e1]
   exact zgA (RL.tys_pos r).1 (RL.tys_pos r).2 (zao he) hinfo o1' e2 hS (by rw [hrl,hql];exact hbd)
  | nil=>
   rw [hs] at hsrc hy
   simp only [zbN,Option.some.injEq,Prod.mk.injEq] at hsrc
   obtain ⟨rfl,rfl,rfl⟩:=hsrc
   have hy:DenV E w (.sl [] r.emp) (a.eval y):=zmA hy
   have hy:Rd w (E.set []) (.sl r.emp.tys) (a.eval y) (.sl r.emp.rows):=hy
   obtain ⟨ad,cc,e1,e2⟩:=hy.sl'
   rw [b3] at e2
   rw [e1]
   exact zgA (RL.tys_pos r).1 (RL.tys_pos r).2 (zao he) hinfo o1' e2 hS (by rw [hrl,hql];exact hbd)
  | _=>rw [hs] at hsrc;simp [zbN] at hsrc
 obtain ⟨v',w',hrun,hO,hgr,hat⟩:=hrun
 have hO2:OwnR 0 w' e (E.set (labA r ls ms)) r2.tys v' r2.rows:=by
  rw [b1,b2]
  unfold labA
  by_cases hf:r.tys.all Ty.flat=true
  ·rw [if_pos hf];exact hO.flat hf
  ·rw [if_neg hf];exact hO
 obtain ⟨hS,hE,hone,hm'⟩:=zjL h.mem hcE hHas hlive hO2 hgr hat
 refine zaM (v:=v') (w':=w') ?_ (hK (E.setβ c v') w' v' hE hS ⟨if_pos rfl,hone⟩ hm')
 simp only [execOp,ho,resolve,invoke,builtin,Sem.run_bind,Sem.run_pure,Result.andThen_ok,List.map_toArray,List.map_cons,List.map_nil]
 rw [hav,hrun];rfl
end ops
end Go.Proofs.Ytfccndnnpkiajaa
namespace Go.Proofs.Ytfccndnnpkiajaa
open Go.RowKit Go.ChangeShapes Go.WideShapes Go.Deep
section ops
variable {P : Program} {base : Nat} {X : Cx} {w0 : World} {st : St}
def zfl (k:Nat):Nat→List SV→RL→List Nat→Option (RL×List Nat)
 | 0,_,r,ms=>some (r,ms)
 | n+1,out,r,ms=>match r.snoc (out.take k) with
  | some (r2,m)=>zfl k n (out.drop k) r2 (ms++m)
  | none=>none
theorem zfk {E:Env} {w:World} {k:Nat}:∀ (n:Nat) (out:List SV) (zs:List Value) (r:RL) (ms:List Nat) (r2:RL) (ls:List Nat),zfl k n out r ms=some (r2,ls)→DenL E w out zs →
  r2.tys=r.tys∧(∀ i,i∈ms→i∈ls)∧∃ ds,ds.length=n∧r2.rows=r.rows++ds∧∀ i,i<n→RdL w (E.set ls) r.tys ((zs.drop (i*k)).take k) (ds.getD i [])
 | 0,out,zs,r,ms,r2,ls,h,hd=>by
  simp only [zfl,Option.some.injEq,Prod.mk.injEq] at h
  obtain ⟨rfl,rfl⟩:=h
  exact ⟨rfl,fun i hi=>hi,[],rfl,by simp,fun i hi=>absurd hi (by omega)⟩
 | n+1,out,zs,r,ms,r2,ls,h,hd=>by
  simp only [zfl] at h
  split at h
  case h_2=>simp at h
  rename_i r1 m e
  obtain ⟨g1,g2,d,g3,g4⟩:=RL.snoc_ok e
  obtain ⟨q1,q2,ds,q3,q4,q5⟩:=zfk n _ (zs.drop k) r1 _ r2 ls h (hd.drop k)
  refine ⟨q1.trans g1,fun i hi=>q2 i (List.mem_append_left _ hi),d::ds,by simp [q3],by rw [q4,g3];simp,fun i hi=>?_⟩
  cases i with
  | zero=>
   have:=g4 E w _ (hd.take k)
   simp only [Nat.zero_mul,List.drop_zero,List.getD_cons_zero]
   exact this.mono fun b _ hb=>Env.set_mono (fun i hi=>q2 i (List.mem_append_right _ hi)) b hb
  | succ i=>
   have:=q5 i (by omega)
   rw [List.drop_drop,g1] at this
   rw [List.getD_cons_succ,show (i+1)*k=k+i*k by rw [Nat.add_mul];omega]
   exact this
theorem ze4 {E:Env} {w:World} (h:MemOk base X w0 E st.m w) {c:Nat} (hc:st.m c = .empty) (T:TypeId) {xs:List Value} {ls:List Nat} {r:RL} {n:Nat}
  (hO:OwnR 0 (w.alloc (.cells xs.toArray T)) T (E.set ls) r.tys (.slice (some ⟨w.heap.size,0,none⟩) n n) r.rows) :
  MemOk base X w0 (E.setβ c (.slice (some ⟨w.heap.size,0,none⟩) n n)) (putF [(c,.row T ls r)] st.m) (w.alloc (.cells xs.toArray T))∧E.Le (E.setβ c (.slice (some ⟨w.heap.size,0,none⟩) n n))∧Same E.lab w (w.alloc (.cells xs.toArray T)):=by
 have hE:=Env.setβ_le (h.empty c hc).1 (.slice (some ⟨w.heap.size,0,none⟩) n n)
 have hS:Same E.lab w (w.alloc (.cells xs.toArray T)):=Same.alloc _ _ _
 refine ⟨?_,hE,hS⟩
 rw [zbw]
 refine h.take hc _ _ (by simp) (by simp) (fun b hb=>?_) ⟨rfl,rfl,rfl,by simp,fun b hb _=>Below.heap_alloc _ _ _ (Nat.lt_of_lt_of_le hb h.base)⟩ (fun b hb=>?_) hO
 ·have:b<w.heap.size:=by
   rcases hb with ⟨i,hi⟩ | ⟨t,ht⟩
   ·exact (h.lab i b hi).1
   ·exact h.lt ht
  exact Below.heap_alloc _ _ _ this
 ·simp [za4] at hb
  subst hb
  exact ⟨fun ⟨i,hi⟩=>Nat.lt_irrefl _ (h.lab i _ hi).1,fun t ht=>Nat.lt_irrefl _ (h.lt ht),.inl h.base⟩
def znD (z:Value) (n:Nat):List SV:=(List.range n).map fun j=>ofC (z.cells[j % z.cells.size]!)
def cLit (P:Program) (st:St) (c:Nat) (T:TypeId) (len:Nat) (parts:Array (Nat×Operand)):Option Upd:=
 match zbe P T with
 | some e=>match (P.info? e).bind (·.zero),zbi P e,RL.ofT e with
  | some z,some k,some r0=>if 0<len*k∧len*k≤16777216∧len≤1000000 then (match zh9 (fun i=>some (i*k,k)) (znD z (len*k)) (zbf st parts.toList).1 with
   | some out=>match zfl k len out r0 [] with
    | some (r,ls)=>if k=r0.tys.length∧st.free c=true∧out.length=len*k then some ⟨(zbf st parts.toList).2,.own c,[(c,.row e ls r)]⟩ else none
    | none=>none
   | none=>none) else none
  | _,_,_=>none
 | none=>none
theorem znv (o:Oper) (c:Nat) (T:TypeId) (len:Nat) (parts:Array (Nat×Operand)) (ho:o.op = .buildSlice T len parts) {u:Upd} (hu:cLit P st c T len parts=some u):Does P base X w0 st o u:=by
 unfold cLit at hu
 split at hu
 case h_2=>simp at hu
 rename_i e he
 split at hu
 case h_2=>simp at hu
 rename_i z k r0 hz hk hr0
 split at hu
 case isFalse=>simp at hu
 rename_i hb
 obtain ⟨hb0,hb1,hb2⟩:=hb
 split at hu
 case h_2=>simp at hu
 rename_i out hout
 split at hu
 case h_2=>simp at hu
 rename_i r ls hrow
 split at hu
 case isFalse=>simp at hu
 rename_i hc
 obtain ⟨hkr,hfree,hol⟩:=hc
 simp only [Option.some.injEq] at hu
 subst hu
 have hcE:=St.of_free hfree
 intro E a w K Q h hn hK
 have hp:=zdL h parts.toList hn
 obtain ⟨zr,hr,hd⟩:=zeQ (E:=E) (w:=w) (zs:=(Array.range (len*k)).map (fun j=>z.cells[j % z.cells.size]!)) (vals:=zdB a parts.toList) hout (by
  have:=zeB E w ((List.range (len*k)).map fun j=>z.cells[j % z.cells.size]!)
  simpa [znD,Function.comp_def] using this) (by rw [hp.1];simp [zdB]) (fun i hi=>hp.2 i (by rw [hp.1] at hi;exact hi))
 obtain ⟨q1,_,ds,q3,q4,q5⟩:=zfk (E:=E) (w:=w) len out zr.toList r0 [] r ls hrow hd
 rw [RL.ofT_ok hr0,List.nil_append] at q4
 have hzl:zr.toList.length=len*k:=by rw [hd.len,hol]
 have hO:OwnR 0 (w.alloc (.cells zr.toList.toArray e)) e (E.set ls) r.tys (.slice (some ⟨w.heap.size,0,none⟩) len len) r.rows:=by
  refine ⟨zr.toList,⟨by rw [q4,q3,q1,← hkr];exact hzl,.inr ⟨w.heap.size,len,zr.toList.toArray,by rw [q4,q3],Nat.zero_le _,heap_alloc_new _ _,by rw [q4,q3];exact Nat.le_refl _,by unfold maxLen;omega,by rw [q1,← hkr];simpa using hzl,?_⟩⟩,fun i hi=>?_⟩
  ·rw [q4,q3,q1,← hkr];rw [List.take_of_length_le];rw [← hzl];exact Nat.le_refl _
  ·rw [q4,q3] at hi
   rw [q4,q1,← hkr]
   have:=q5 i hi
   have h2:RdL w (fun b=>(E.set ls b∧Value.ownBlock (.slice (some ⟨w.heap.size,0,none⟩) len len)≠some b)) r0.tys ((zr.toList.drop (i*k)).take k) (ds.getD i []):=this.mono fun b hb hs=>⟨hs,fun e2=>by
    simp only [Value.ownBlock,Option.some.injEq] at e2;omega⟩
   exact h2.same (Same.alloc _ _ _)
 obtain ⟨m1,m2,m3⟩:=ze4 (st:=st) h.mem hcE e hO
 refine zaM (v:= .slice (some ⟨w.heap.size,0,none⟩) len len) (w':=w.alloc (.cells zr.toList.toArray e)) ?_ (hK _ _ _ m2 m3 ⟨if_pos rfl,rfl⟩ m1)
 cases hi:P.info? e with
 | none=>simp [hi] at hz
 | some inf=>
  simp [hi] at hz
  have hrr:Instr.fill (fun i=>some (i*k,k)) ((Array.range (len*k)).map (fun j=>z.cells[j % z.cells.size]!)) (parts.map fun (i,x)=>(i,a.eval x)).toList=some zr:=by
   have e2:(parts.map fun (i,x)=>(i,a.eval x)).toList=zdB a parts.toList:=by simp [zdB]
   rw [e2];exact hr
  have hnz:¬ (len*k=0):=by omega
  have hng:¬ (len*k>2 ^ 24):=by omega
  simp only [execOp,ho,Instr.buildSlice,zeroValue,typeInfo,Sem.run_bind,run_program,hi,hz,Result.andThen,Sem.run_pure,run_underlying (zao he),zav hk,hng,hnz,if_false,hrr,newRow]
  rfl
end ops
end Go.Proofs.Ytfccndnnpkiajaa
namespace Go.Proofs.Ytfccndnnpkiajaa
open Go.RowKit Go.ChangeShapes Go.WideShapes Go.Deep
theorem Sl.cutX {w:World} {S:Nat→Prop} {fs:List Ty} {b off n c d:Nat} {rows:List (List D)} (h:Sl w S fs (some ⟨b,off,none⟩) n c rows) (hd:d<n):Sl w S fs (some ⟨b,off+d*fs.length,none⟩) (n-d) (c-d) (rows.drop d):=by
 cases h with
 | emp _ _=>omega
 | row vals h1 h2 h3 h4 h5 h6 h7 h8 h9 h10 h11=>
  have e:∀ i,(rows.drop d).getD i []=rows.getD (d+i) []:=fun i=>by simp [List.getD]
  refine .row (fun i j=>vals (d+i) j) (by omega) (by simp;omega) (by omega) (by unfold maxLen at *;omega) (by omega) h6 h7 (fun i j hi hj=>?_) (fun i hi=>?_) (fun i j hi hj=>?_) (fun i j hi hj=>?_)
  ·have:=h8 (d+i) j (by omega) hj
   rw [Nat.add_mul] at this
   rw [← this];congr 2;omega
  ·rw [e];exact h9 _ (by omega)
  ·rw [e];exact h10 _ _ (by omega) hj
  ·have:=h11 (d+i) j (by omega) hj
   rw [Nat.add_mul] at this
   rw [← this];congr 2;omega
theorem Sl.cutMX {w:World} {S:Nat→Prop} {fs:List Ty} {a:Option Addr} {n c d:Nat} {rows:List (List D)} (h:Sl w S fs a n c rows) (hd:d≤n) (hc:d<c):Sl w S fs (a.map fun x=>x.add (d*fs.length)) (n-d) (c-d) (rows.drop d):=by
 have hb:=h.bd
 have hl:=h.len
 rcases Nat.lt_or_ge d n with h1 | h1
 ·obtain ⟨b,off,rfl⟩:=h.addr (by omega)
  have:=h.cutX h1
  simpa [Go.WideShapes.add_plain] using this
 ·have e:n-d=0:=by omega
  have e2:rows.drop d=[]:=List.drop_eq_nil_of_le (by omega)
  rw [e,e2]
  refine .emp (fun h0=>?_) (by obtain ⟨g1,g2,g3,g4⟩:=hb;unfold maxLen at *;omega)
  rcases a with _ | a
  ·have:=hb.2.2.2 rfl;omega
  ·simp at h0
section ops
variable {P : Program} {base : Nat} {X : Cx} {w0 : World} {st : St}
end ops
end Go.Proofs.Ytfccndnnpkiajaa
namespace Go.Proofs.Ytfccndnnpkiajaa
open Go.RowKit Go.ChangeShapes Go.WideShapes Go.Deep
section ops
variable {P : Program} {base : Nat} {X : Cx} {w0 : World} {st : St}
def zns (st:St) (f:FuncId) (xs:List Operand):Upd:=
 match xs with
 | []=>⟨[],.fn f,[]⟩
 | x::r=>⟨(evL st (x::r)).2,.clo f (evL st (x::r)).1,[]⟩
theorem zlg (o:Oper) (f:FuncId) (xs:Array Operand) (ho:o.op = .makeFunc (.func f) #[] xs):Does P base X w0 st o (zns st f xs.toList):=by
 obtain ⟨xs⟩:=xs
 cases xs with
 | nil=>exact Does.pure fun E a w h hn=>⟨_,by simp [execOp,ho,Instr.makeFunc],rfl⟩
 | cons x r=>
  refine Does.pure fun E a w h hn=>?_
  have:=zfB h (x::r) hn
  exact ⟨.func (.func f) #[] ((x::r).map a.eval).toArray,by simp [execOp,ho,Instr.makeFunc],_,rfl,this⟩
def zli (P:Program) (st:St) (c:Nat) (T:TypeId) (x y:Operand):Option Upd:=
 match zbe P T,zag (st.ev x),zag (st.ev y) with
 | some e,(.int k n,n1),(.int k' m,n2)=>match RL.ofT e,(P.info? e).bind (·.zero) with
  | some (.rInts _),some (.int .i64 (.ofNat 0))=>if zh2 P e 1=true∧st.free c=true then some ⟨n1++n2++[n=m,0≤n,n≤274877906944],.own c,[(c,.row e [] (.rInts (List.replicate n.toNat 0)))]⟩ else none
  | _,_=>none
 | _,_,_=>none
theorem zlh (o:Oper) (c:Nat) (T:TypeId) (x y:Operand) (ho:o.op = .makeSlice T x y) {u:Upd} (hu:zli P st c T x y=some u):Does P base X w0 st o u:=by
 unfold zli at hu
 split at hu
 case h_2=>simp at hu
 rename_i e k n n1 k' m n2 e0 e1 e2
 split at hu
 case h_2=>simp at hu
 rename_i l0 hr0 hz
 split at hu
 case isFalse=>simp at hu
 rename_i hc
 obtain ⟨hinfo,hfree⟩:=hc
 simp only [Option.some.injEq] at hu
 subst hu
 have hcE:=St.of_free hfree
 intro E a w K Q h hn hK
 have hx:=zab (h.ev x) (fun p hp=>hn p (by rw [e1] at hp;simp [hp]))
 have hy:=zab (h.ev y) (fun p hp=>hn p (by rw [e2] at hp;simp [hp]))
 rw [e1] at hx
 rw [e2] at hy
 obtain ⟨hx,_⟩:=hx
 obtain ⟨hy,_⟩:=hy
 have h1:n=m:=hn _ (by simp)
 have h2:0≤n:=hn _ (by simp)
 have h3:n≤274877906944:=hn _ (by simp)
 subst h1
 obtain ⟨N,rfl⟩:∃ N:Nat,n=(N:Int):=⟨n.toNat,by omega⟩
 obtain ⟨bytes,hb,i,z,i1,i2,i3,i4,i5⟩:=zeM hinfo
 have hz':z = .int .i64 0:=by
  rw [i1] at hz
  simp only [Option.bind_some,i2,Option.some.injEq] at hz
  exact hz
 subst hz'
 have hNN:N≤274877906944:=by omega
 have hbb:(i.bytes:Int)*(N:Int)≤281474976710656:=by
  have:i.bytes*N≤1024*274877906944:=Nat.mul_le_mul (by omega) hNN
  have h':((i.bytes*N:Nat):Int)≤281474976710656:=by omega
  rwa [Int.natCast_mul] at h'
 have hrun:=run_make (P:=P) w T e i (.int .i64 0) (zao e0) i1 i2 k k' N N (by omega) (Int.le_refl _) hbb (by omega)
 have hcells:madeCells (Value.int .i64 0).cells ((N:Int).toNat*i.size)=((List.replicate N (0:Int)).map (Value.int .i64)).toArray:=by
  rw [i3]
  apply Array.ext
  ·simp [madeCells,Value.cells]
  ·intro j hj1 hj2
   simp [madeCells,Value.cells,Nat.mod_one]
 rw [hcells] at hrun
 simp only [Int.toNat_natCast] at hrun
 have hO:OwnR 0 (w.alloc (.cells ((List.replicate N (0:Int)).map (Value.int .i64)).toArray e)) e (E.set []) (RL.rInts (List.replicate N (0:Int))).tys (.slice (some ⟨w.heap.size,0,none⟩) N N) (RL.rInts (List.replicate N (0:Int))).rows:=by
  refine ⟨(List.replicate N (0:Int)).map (Value.int .i64),⟨by simp [RL.rows,RL.tys,ints],.inr ⟨w.heap.size,N,((List.replicate N (0:Int)).map (Value.int .i64)).toArray,by simp [RL.rows,ints],Nat.zero_le _,heap_alloc_new _ _,by simp [RL.rows,ints],by unfold maxLen;omega,by simp [RL.tys],by simp [RL.rows,RL.tys,ints]⟩⟩,fun j hj=>?_⟩
  have hj:j<N:=by simpa [RL.rows,ints] using hj
  have e3:(((List.replicate N (0:Int)).map (Value.int .i64)).drop (j*1)).take 1=[.int .i64 0]:=by
   rw [Nat.mul_one,List.drop_eq_getElem_cons (by simpa using hj)];simp
  have e4:(RL.rInts (List.replicate N (0:Int))).rows.getD j []=[.int 0]:=by simp [RL.rows,ints,List.getD,hj]
  rw [e4]
  show RdL _ _ [.int .i64] ((((List.replicate N (0:Int)).map (Value.int .i64)).drop (j*1)).take 1) _
  rw [e3]
  exact ⟨.int (by decide),trivial⟩
 obtain ⟨m1,m2,m3⟩:=ze4 (st:=st) h.mem hcE e hO
 refine zaM (v:= .slice (some ⟨w.heap.size,0,none⟩) N N) (w':=w.alloc (.cells ((List.replicate N (0:Int)).map (Value.int .i64)).toArray e)) ?_ (hK _ _ _ m2 m3 ⟨if_pos rfl,rfl⟩ m1)
 simp only [execOp,ho,hx,hy,Sem.run_bind,hrun,Result.andThen,Sem.run_pure]
def nilU (st:St):SV→Option SV
 | .nil=>some (.bool true)
 | .sl _ r=>some (.ub r.nilP True)
 | .own t=>match st.m t with
  | .row _ _ r=>some (.ub r.nilP True)
  | _=>none
 | _=>none
def notU:SV→SV
 | .bool b=> .bool !b
 | .ub p q=> .ub q p
 | _=> .any
def cEqN (P:Program) (st:St) (op:BinOp) (T:TypeId) (x y:Operand):Option Upd:=
 match zbe P T,zag (st.ev y),op with
 | some _,(.nil,n2),.eql=>match nilU st (zag (st.ev x)).1 with
  | some s=>some ⟨(zag (st.ev x)).2++n2,s,[]⟩
  | none=>none
 | some _,(.nil,n2),.neq=>match nilU st (zag (st.ev x)).1 with
  | some s=>some ⟨(zag (st.ev x)).2++n2,notU s,[]⟩
  | none=>none
 | _,_,_=>none
theorem RL.nilP_of {r:RL} (h:r.rows=[]):r.nilP:=by
 cases r<;>simpa [RL.rows,RL.nilP,ints,strs,zbk] using h
theorem zi6 {E:Env} {a:Act} {w:World} (h:st.Ok base X w0 E a w) {s t:SV} (hs:nilU st s=some t) {v:Value} (hv:DenV E w s v):∃ ad n c,v = .slice ad n c∧DenV E w t (.bool ad.isNone)∧DenV E w (notU t) (.bool (!ad.isNone)):=by
 cases s
 case nil=>
  simp only [nilU,Option.some.injEq] at hs
  subst hs
  have:v = .slice none 0 0:=hv
  exact ⟨none,0,0,this,rfl,rfl⟩
 case sl ls r=>
  simp only [nilU,Option.some.injEq] at hs
  subst hs
  have hv:Rd w (E.set ls) (.sl r.tys) v (.sl r.rows):=hv
  obtain ⟨ad,c,rfl,hsl⟩:=hv.sl'
  have hk:ad.isNone=true→r.nilP:=fun e=>RL.nilP_of (by
   have:ad=none:=by simpa using e
   exact List.eq_nil_of_length_eq_zero (hsl.bd.2.2.2 this).1)
  exact ⟨ad,_,c,rfl,⟨_,rfl,hk,fun _=>trivial⟩,_,rfl,fun _=>trivial,fun e=>hk (by simpa using e)⟩
 case own t2=>
  simp only [nilU] at hs
  split at hs
  case h_2=>simp at hs
  rename_i Tb ls r hm
  simp only [Option.some.injEq] at hs
  subst hs
  obtain ⟨v',h1,ho⟩:=h.mem.row t2 _ _ _ hm
  have h2:=hv.1
  rw [h1] at h2
  simp only [Option.some.injEq] at h2
  subst h2
  obtain ⟨cells,hoR,_⟩:=ho
  rcases hoR.2 with ⟨rfl,hn⟩ | ⟨g,cap,cur,rfl,_⟩
  ·have hk:r.nilP:=RL.nilP_of (List.eq_nil_of_length_eq_zero hn)
   exact ⟨none,0,0,rfl,⟨_,rfl,fun _=>hk,fun _=>trivial⟩,_,rfl,fun _=>trivial,fun _=>hk⟩
  ·exact ⟨_,_,_,rfl,⟨_,rfl,fun e=>(by simp at e),fun _=>trivial⟩,_,rfl,fun _=>trivial,fun e=>(by simp at e)⟩
 all_goals simp [nilU] at hs
theorem znz (o:Oper) (op:BinOp) (T T2:TypeId) (x y:Operand) (ho:o.op = .binOp op T x y T2) {u:Upd} (hu:cEqN P st op T x y=some u):Does P base X w0 st o u:=by
 unfold cEqN at hu
 split at hu
 ·rename_i e n2 he e2
  split at hu
  case h_2=>simp at hu
  rename_i s hs
  simp only [Option.some.injEq] at hu
  subst hu
  refine Does.pure fun E a w h hn=>?_
  have hx:=zab (h.ev x) (fun p hp=>hn p (by simp [hp]))
  have hy:=zab (h.ev y) (fun p hp=>hn p (by rw [e2] at hp;simp [hp]))
  rw [e2] at hy
  have hy:a.eval y = .slice none 0 0:=hy
  obtain ⟨ad,n,c,hv,h1,h2⟩:=zi6 h hs hx
  refine ⟨_,?_,h1⟩
  have hr:=Lib.run_eql_slice_nil (P:=P) w T e ad n c 0 0 (zao he)
  simp only [execOp,ho,hv,hy,eqGuard,Sem.run_bind,Sem.run_pure,Result.andThen]
  simp [Sem.run_bind,Result.andThen]
  rw [hr]
 ·rename_i e n2 he e2
  split at hu
  case h_2=>simp at hu
  rename_i s hs
  simp only [Option.some.injEq] at hu
  subst hu
  refine Does.pure fun E a w h hn=>?_
  have hx:=zab (h.ev x) (fun p hp=>hn p (by simp [hp]))
  have hy:=zab (h.ev y) (fun p hp=>hn p (by rw [e2] at hp;simp [hp]))
  rw [e2] at hy
  have hy:a.eval y = .slice none 0 0:=hy
  obtain ⟨ad,n,c,hv,h1,h2⟩:=zi6 h hs hx
  refine ⟨_,?_,h2⟩
  have hr:(Op.equalIn 10000 T (.slice ad n c) (.slice none 0 0)).run P w = .ok ad.isNone w:=Lib.run_equalIn_slice_nil (P:=P) w 9999 T e ad n c 0 0 (zao he)
  simp only [execOp,ho,hv,hy,eqGuard,Sem.run_bind,Sem.run_pure,Result.andThen,binOp,Op.equal,Op.maxDepth]
  simp [Sem.run_bind,Result.andThen]
  rw [hr]
  cases ad<;>rfl
 ·simp at hu
def zlm (P:Program) (st:St) (c:Nat) (T:TypeId) (len:Nat) (parts:Array (Nat×Operand)):Option Upd:=
 match zbe P T with
 | some e=>match RL.ofT e,zbi P e with
  | some r0,some _=>if len=0∧parts.size=0∧st.free c=true then some ⟨[],.own c,[(c,.row e [] r0)]⟩ else none
  | _,_=>none
 | none=>none
theorem zll (o:Oper) (c:Nat) (T:TypeId) (len:Nat) (parts:Array (Nat×Operand)) (ho:o.op = .buildSlice T len parts) {u:Upd} (hu:zlm P st c T len parts=some u):Does P base X w0 st o u:=by
 unfold zlm at hu
 split at hu
 case h_2=>simp at hu
 rename_i e he
 split at hu
 case h_2=>simp at hu
 rename_i r0 k hr0 hk
 split at hu
 case isFalse=>simp at hu
 rename_i hc
 obtain ⟨rfl,hps,hfree⟩:=hc
 have hps:parts = #[]:=by simpa using hps
 subst hps
 simp only [Option.some.injEq] at hu
 subst hu
 have hcE:=St.of_free hfree
 intro E a w K Q h hn hK
 have hrows:=RL.ofT_ok hr0
 have hO:OwnR 0 (w.alloc (.cells ([]:List Value).toArray e)) e (E.set []) r0.tys (.slice (some ⟨w.heap.size,0,none⟩) 0 0) r0.rows:=by
  rw [hrows]
  refine ⟨[],⟨by simp,.inr ⟨w.heap.size,0,([]:List Value).toArray,rfl,Nat.zero_le _,heap_alloc_new _ _,Nat.le_refl _,by unfold maxLen;omega,by simp,by simp⟩⟩,fun i hi=>absurd hi (by simp)⟩
 obtain ⟨m1,m2,m3⟩:=ze4 (st:=st) h.mem hcE e hO
 refine zaM (v:= .slice (some ⟨w.heap.size,0,none⟩) 0 0) (w':=w.alloc (.cells ([]:List Value).toArray e)) ?_ (hK _ _ _ m2 m3 ⟨if_pos rfl,rfl⟩ m1)
 simp [execOp,ho,Instr.buildSlice,Sem.run_bind,Result.andThen,Sem.run_pure,run_underlying (zao he),zav hk,newRow,Instr.fill,Array.range_zero']
end ops
def ptrT (P:Program) (T:TypeId):Bool:=match P.underlying T with
 | some (.pointer _)=>true
 | _=>false
theorem zm3 {P:Program} {T:TypeId} (h:ptrT P T=true):∃ e,P.underlying T=some (.pointer e):=by
 unfold ptrT at h
 split at h
 ·exact ⟨_,by assumption⟩
 ·cases h
def ptrB:SV→Option Bool
 | .np=>some true
 | .ptr _ _=>some false
 | .rp _ _ _ _=>some false
 | .ro _ _=>some false
 | _=>none
def cEqP (P:Program) (st:St) (op:BinOp) (T:TypeId) (x y:Operand):Option Upd:=
 match ptrT P T,zag (st.ev y),op with
 | true,(.np,n2),.eql=>match ptrB (zag (st.ev x)).1 with
  | some b=>some ⟨(zag (st.ev x)).2++n2,.bool b,[]⟩
  | none=>none
 | true,(.np,n2),.neq=>match ptrB (zag (st.ev x)).1 with
  | some b=>some ⟨(zag (st.ev x)).2++n2,.bool (!b),[]⟩
  | none=>none
 | _,_,_=>none
theorem zm4 {E:Env} {w:World} {s:SV} {b:Bool} (hs:ptrB s=some b) {v:Value} (hv:DenV E w s v):∃ a,v = .pointer a∧a.isNone=b:=by
 cases s<;>simp only [ptrB,Option.some.injEq,reduceCtorEq] at hs
 case np=>subst hs;exact ⟨none,hv,rfl⟩
 case ptr=>obtain ⟨b',_,e⟩:=hv;subst hs;exact ⟨_,e,rfl⟩
 case rp=>obtain ⟨b',xs,e,_⟩:=hv;subst hs;exact ⟨_,e,rfl⟩
 case ro=>obtain ⟨b',F,e,_⟩:=hv;subst hs;exact ⟨_,e,rfl⟩
theorem zms {P:Program} {T e:TypeId} (h:P.underlying T=some (.pointer e)) (a:Option Addr) (w:World):(Op.equal T (.pointer a) (.pointer none)).run P w = .ok a.isNone w:=by
 obtain ⟨d,hd⟩:∃ d,Op.maxDepth=d+1:=⟨_,rfl⟩
 unfold Op.equal
 rw [hd]
 cases a<;>simp only [Op.equalIn,Sem.run_bind,run_underlying h,Result.andThen]<;>rfl
section
variable {P : Program} {base : Nat} {X : Cx} {w0 : World} {st : St}
theorem zny (o:Oper) (op:BinOp) (T T2:TypeId) (x y:Operand) (ho:o.op = .binOp op T x y T2) {u:Upd} (hu:cEqP P st op T x y=some u):Does P base X w0 st o u:=by
 unfold cEqP at hu
 split at hu
 case h_3=>simp at hu
 all_goals
  rename_i n2 hT e2
  split at hu
  case h_2=>simp at hu
  rename_i bb hb
  simp only [Option.some.injEq] at hu
  subst hu
  obtain ⟨el,hT⟩:=zm3 hT
  refine Does.pure fun E a w h hn=>?_
  have hx:=zab (h.ev x) (fun p hp=>hn p (by simp [hp]))
  have hy:=zab (h.ev y) (fun p hp=>hn p (by rw [e2] at hp;simp [hp]))
  rw [e2] at hy
  have hy:a.eval y = .pointer none:=hy
  obtain ⟨ad,hv,rfl⟩:=zm4 hb hx
  refine ⟨_,?_,rfl⟩
  have hr:=zms hT ad w
  simp only [execOp,ho,hv,hy,eqGuard,Sem.run_bind,Sem.run_pure,Result.andThen]
  simp [Sem.run_bind,Result.andThen,binOp,hr]
end
end Go.Proofs.Ytfccndnnpkiajaa
namespace Go.Proofs.Ytfccndnnpkiajaa
open Go.RowKit Go.ChangeShapes Go.WideShapes Go.Deep
theorem OwnR.intsC {w:World} {T:TypeId} {S:Nat→Prop} {v:Value} {l:List Int} (h:OwnR 0 w T S [.int .i64] v (ints l)):w.ownsRow 0 T 1 v l.length (l.map (Value.int .i64))∧∀ x∈l,I64 x:=by
 obtain ⟨cells,ho,hr⟩:=h
 rw [zay] at ho hr
 have hl:cells.length=l.length:=by have:=ho.1;simpa using this
 have hat:∀ i,(hi:i<l.length)→cells[i]? = some (.int .i64 l[i])∧I64 l[i]:=by
  intro i hi
  have:=hr i hi
  have e2:(ints l).getD i []=[.int l[i]]:=by simp [ints,List.getD,hi]
  rw [e2] at this
  have e3:(cells.drop (i*[Ty.int .i64].length)).take [Ty.int .i64].length=[cells[i]'(by omega)]:=by
   show (cells.drop (i*1)).take 1=_
   rw [Nat.mul_one,List.drop_eq_getElem_cons (by omega),List.take_succ_cons,List.take_zero]
  rw [e3] at this
  obtain ⟨e4,h5⟩:=this.1.i64
  exact ⟨by rw [List.getElem?_eq_getElem (by omega),e4],h5⟩
 have e:cells=l.map (Value.int .i64):=by
  apply List.ext_getElem?
  intro i
  by_cases hi:i<l.length
  ·rw [(hat i hi).1];simp [hi]
  ·rw [List.getElem?_eq_none (by omega),List.getElem?_eq_none (by simp;omega)]
 refine ⟨by rw [← e];exact ho,fun x hx=>?_⟩
 obtain ⟨i,hi,rfl⟩:=List.mem_iff_getElem.1 hx
 exact (hat i hi).2
theorem OwnR.ofC {w:World} {T:TypeId} {S:Nat→Prop} {v:Value} {l:List Int} (h:w.ownsRow 0 T 1 v l.length (l.map (Value.int .i64))) (hx:∀ x∈l,I64 x):OwnR 0 w T S [.int .i64] v (ints l):=by
 refine ⟨l.map (Value.int .i64),by rw [zay];exact h,fun i hi=>?_⟩
 rw [zay] at hi
 have e1:(((l.map (Value.int .i64)).drop (i*1)).take 1)=[.int .i64 (l[i])]:=by
  rw [Nat.mul_one,List.drop_eq_getElem_cons (by simpa using hi)];simp
 have e2:(ints l).getD i []=[.int l[i]]:=by simp [ints,List.getD,hi]
 show RdL _ _ [.int .i64] (((l.map (Value.int .i64)).drop (i*1)).take 1) _
 rw [e1,e2]
 exact ⟨.ofI64 (hx _ (List.getElem_mem hi)),trivial⟩
theorem Sl.takeX {w:World} {S:Nat→Prop} {fs:List Ty} {a:Option Addr} {n c k:Nat} {rows:List (List D)} (h:Sl w S fs a n c rows) (hk:k≤n):Sl w S fs a k c (rows.take k):=by
 have hb:=h.bd
 by_cases h0:k=0
 ·subst h0
  rw [List.take_zero]
  refine .emp (fun e=>(hb.2.2.2 e).2) (by unfold maxLen;omega)
 ·cases h with
  | emp _ _=>omega
  | row vals h1 h2 h3 h4 h5 h6 h7 h8 h9 h10 h11=>
   have e:∀ i,i<k→(rows.take k).getD i []=rows.getD i []:=fun i hi=>by simp [List.getD,List.getElem?_take,hi]
   exact .row vals (by omega) (by simp;omega) (by omega) h4 (by omega) h6 h7 (fun i j hi hj=>h8 i j (by omega) hj) (fun i hi=>by rw [e i hi];exact h9 i (by omega)) (fun i j hi hj=>by rw [e i hi];exact h10 i j (by omega) hj) (fun i j hi hj=>h11 i j (by omega) hj)
section ops
variable {P : Program} {base : Nat} {X : Cx} {w0 : World} {st : St}
def RL.over:RL→RL→Option RL
 | .rInts l,.rInts m=>some (.rInts (m.take l.length++l.drop m.length))
 | _,_=>none
theorem ziz {l m:List Int} (h:Nat.min m.length l.length=0):m.take l.length++l.drop m.length=l:=by
 have:m.length=0∨l.length=0:=by have h:min m.length l.length=0:=h;omega
 rcases this with h | h
 ·rw [List.eq_nil_of_length_eq_zero h];simp
 ·rw [List.eq_nil_of_length_eq_zero h];simp
def zls (P:Program) (st:St) (T:TypeId) (x y:Operand):Option Upd:=
 match zbe P T,zag (st.ev x) with
 | some e,(.own t,n1)=>match st.m t with
  | .row Tb ls r=>match zbN st r (zag (st.ev y)).1 with
   | some (su,ms,q)=>if zlZ (some t) su=true∧zbi P e=some 1 then (match r.over q with
    | some r2=>some ⟨n1++(zag (st.ev y)).2++[q.len≤140737488355328],.int .i64 (Nat.min q.len r.len:Nat),[(t,.row Tb ls r2)]⟩
    | none=>none) else none
   | none=>none
  | _=>none
 | _,_=>none
theorem zkb {E:Env} {w:World} (hm:MemOk base X w0 E st.m w) {l m:List Int} {s:SV} {su:Option Nat} {ms:List Nat} (h:zbN st (.rInts l) s=some (su,ms,.rInts m)) (hq:m.length≤140737488355328) {v:Value} (hv:DenV E w s v):∃ ad c,v = .slice ad m.length c∧∃ S,SlI w S ad m.length c m:=by
 cases s
 case own t=>
  simp only [zbN] at h
  split at h
  case h_2=>simp at h
  rename_i Tb ls2 r2 hmt
  simp only [Option.some.injEq,Prod.mk.injEq] at h
  obtain ⟨rfl,rfl,rfl⟩:=h
  obtain ⟨v',hβ,ho⟩:=hm.row t _ _ _ hmt
  have hv1:=hv.1
  rw [hβ] at hv1
  simp only [Option.some.injEq] at hv1
  subst hv1
  have hll:(RL.rInts m).rows.length=m.length:=by simp [RL.rows,ints]
  obtain ⟨a,c,e,hs⟩:=ho.slO (fun _=>True) (fun _ _=>trivial) (fun _ _ _=>trivial) (by rw [hll];exact hq)
  rw [hll] at e hs
  exact ⟨a,c,e,_,hs⟩
 case sl ls r=>
  simp only [zbN,Option.some.injEq,Prod.mk.injEq] at h
  obtain ⟨rfl,rfl,rfl⟩:=h
  have hv:Rd w (E.set ls) (.sl [.int .i64]) v (.sl (ints m)):=hv
  obtain ⟨ad,c,rfl,hsl⟩:=hv.sl'
  rw [zay] at hsl ⊢
  exact ⟨ad,c,rfl,_,hsl⟩
 case nil=>
  simp only [zbN,RL.emp,Option.some.injEq,Prod.mk.injEq] at h
  obtain ⟨rfl,rfl,e⟩:=h
  have e:m=[]:=by simpa using e.symm
  subst e
  have:v = .slice none 0 0:=hv
  exact ⟨none,0,this,fun _=>True,.emp (fun _=>rfl) (by decide)⟩
 all_goals simp [zbN] at h
theorem zlr (o:Oper) (T T2:TypeId) (x y:Operand) (ho:o.op = .call {callee:= .builtin .copy,args:= #[x,y],argTypes:= #[T,T2]}) {u:Upd} (hu:zls P st T x y=some u):Does P base X w0 st o u:=by
 unfold zls at hu
 split at hu
 case h_2=>simp at hu
 rename_i e t n1 he e1
 split at hu
 case h_2=>simp at hu
 rename_i Tb ls r hm
 split at hu
 case h_2=>simp at hu
 rename_i su ms q hsrc
 split at hu
 case isFalse=>simp at hu
 rename_i hc
 obtain ⟨hap,hsz⟩:=hc
 split at hu
 case h_2=>simp at hu
 rename_i r2 hov
 simp only [Option.some.injEq] at hu
 subst hu
 have hr:∃ l,r = .rInts l:=by cases r<;>simp [RL.over] at hov;exact ⟨_,rfl⟩
 obtain ⟨l,rfl⟩:=hr
 have hq:∃ m,q = .rInts m:=by cases q<;>simp [RL.over] at hov;exact ⟨_,rfl⟩
 obtain ⟨m,rfl⟩:=hq
 simp only [RL.over,Option.some.injEq] at hov
 subst hov
 intro E a w K Q h hn hK
 have hx:=zab (h.ev x) (fun p hp=>hn p (by rw [e1] at hp;simp [hp]))
 have hy:=zab (h.ev y) (fun p hp=>hn p (by simp [hp]))
 have hml:m.length≤140737488355328:=hn _ (by simp [RL.len])
 rw [e1] at hx
 obtain ⟨sa,sc,hsv,S,hS⟩:=zkb h.mem hsrc hml hy
 obtain ⟨v,hβ,hO⟩:=h.mem.row t _ _ _ hm
 have hx1:=hx.1
 rw [hβ] at hx1
 simp only [Option.some.injEq] at hx1
 subst hx1
 have hO:OwnR 0 w Tb (E.set ls) [.int .i64] (a.eval x) (ints l):=hO
 obtain ⟨hc,hi⟩:=hO.intsC
 obtain ⟨va,hva⟩:∃ va,a.eval x=va:=⟨_,rfl⟩
 rw [hva] at hO hc hβ
 have hlive:(st.m t).live=true:=by rw [hm];rfl
 have hsz1:(P.info? e).map (·.size)=some 1:=hsz
 have hdform:∃ da dc,va = .slice da l.length dc:=by
  obtain ⟨a2,c2,e2⟩:=hO.form
  rw [zay] at e2
  exact ⟨a2,c2,e2⟩
 obtain ⟨da,dc,rfl⟩:=hdform
 have hlb:l.length≤9223372036854775807:=by
  rcases hc.2 with ⟨e5,e6⟩ | ⟨g,cap,cur,e5,_,_,h6,h7,_⟩
  ·omega
  ·unfold maxLen at h7;omega
 have hwf:(Lit.int .i64 (Nat.min m.length l.length:Nat)).wf=true:=by
  apply zds
  have:Nat.min m.length l.length≤l.length:=Nat.min_le_right _ _
  omega
 by_cases h0:Nat.min m.length l.length=0
 ·have hrun:=run_copy_none (P:=P) w T T2 o.type e da sa l.length dc m.length sc (zao he) hsz1 h0
  refine zaM (v:=goInt 0) (w':=w) ?_ (hK E w _ (Env.Le.refl E) Same.rfl' ⟨by show goInt 0=_;simp only [RL.len,h0];rfl,by simpa [RL.len] using hwf⟩ ?_)
  ·simp [execOp,ho,resolve,invoke,builtin,hva,hsv,hrun,Result.andThen]
  ·rw [zbw,ziz h0]
   have:upd st.m t (.row Tb ls (.rInts l))=st.m:=by
    funext u
    by_cases hu:u=t
    ·subst hu;rw [zaG,hm]
    ·rw [zaH _ _ hu]
   rw [this];exact h.mem
 ·have hml0:0<m.length∧0<l.length:=by have h0:¬ min m.length l.length=0:=h0;omega
  rcases hc.2 with ⟨e5,e6⟩ | ⟨g,cap,cur,e5,_,hg,hnc,hcm,hcs,htake⟩
  ·omega
  simp only [Value.slice.injEq] at e5
  obtain ⟨rfl,_,rfl⟩:=e5
  obtain ⟨b,off,rfl⟩:=hS.addr hml0.1
  have hlen:((m.take l.length).map (Value.int .i64)).length=Nat.min m.length l.length:=by
   simp only [List.length_map,List.length_take];exact Nat.min_comm _ _
  have hrun:=run_copy_row (P:=P) w T T2 o.type e g 0 l.length dc ⟨b,off,none⟩ m.length sc cur Tb ((m.take l.length).map (Value.int .i64)) (zao he) hsz1 hg hlen (fun j u hj=>by
   have hj2:j<m.length:=by
    have:=(List.getElem?_eq_some_iff.1 hj).1
    simp at this;omega
   have:=(SlI.cell hS hj2).2.1
   rw [Go.WideShapes.add_plain,this]
   rw [List.getElem?_map,List.getElem?_take] at hj
   split at hj
   ·rw [List.getElem?_eq_getElem hj2] at hj
    simp only [Option.map_some,Option.some.injEq] at hj
    rw [← hj];simp [nu,List.getD,hj2]
   ·simp at hj) (by
    have:Nat.min m.length l.length≤l.length:=Nat.min_le_right _ _
    rw [hlen];omega) (fun u hu=>by obtain ⟨i,_,rfl⟩:=List.mem_map.1 hu;rfl)
  have hHas:Has E st.m t g:=Has.row hm hβ rfl
  have hsep:=(h.mem.sep t g hHas).1
  rw [hlen] at hrun
  generalize hw':w.setRow g (cur.toList.take 0++(m.take l.length).map (Value.int .i64)++cur.toList.drop (0+Nat.min m.length l.length)).toArray=w' at hrun
  have hSm:Same E.lab w w':=by
   rw [← hw']
   exact ⟨by simp,fun g2 hg2 _=>setRow_other w g g2 _ (fun e=>hsep (e▸hg2))⟩
  refine zaM (v:=goInt (Nat.min m.length l.length)) (w':=w') ?_ (hK E w' _ (Env.Le.refl E) hSm ⟨rfl,hwf⟩ ?_)
  ·simp [execOp,ho,resolve,invoke,builtin,hva,hsv,hrun,Result.andThen]
  ·rw [zbw]
   refine h.mem.poke hlive hβ _ rfl (by rw [← hw'];simp) (fun g2 hg' _=>by rw [← hw'];exact setRow_other w g g2 _ (fun e=>hg' (by simp [za4,e]))) (by rw [← hw'];exact ⟨rfl,rfl,rfl⟩) ?_
   show OwnR 0 w' Tb (E.set ls) [.int .i64] _ (ints _)
   have hll:(m.take l.length++l.drop m.length).length=l.length:=by simp;omega
   have hcur:cur.toList.length=cur.size:=Array.length_toList
   have hmin:Nat.min m.length l.length≤l.length:=Nat.min_le_right _ _
   refine OwnR.ofC ?_ (fun z hz=>?_)
   ·rw [hll]
    refine ⟨by simp;omega,.inr ⟨g,dc,(cur.toList.take 0++(m.take l.length).map (Value.int .i64)++cur.toList.drop (0+Nat.min m.length l.length)).toArray,rfl,Nat.zero_le _,by rw [← hw'];exact setRow_heap w g _ _ Tb _ hg,hnc,hcm,?_,?_⟩⟩
    ·simp only [List.take_zero,List.nil_append,Nat.zero_add,List.size_toArray,List.length_append,hlen,List.length_drop]
     omega
    ·simp only [List.take_zero,List.nil_append,Nat.zero_add,Nat.mul_one]
     apply List.ext_getElem?
     intro i
     rw [List.getElem?_take]
     have hc2:∀ i,i<l.length→cur.toList[i]? = some (.int .i64 (l.getD i 0)):=by
      intro i hi2
      have:(cur.toList.take (l.length*1))[i]? = (l.map (Value.int .i64))[i]? := by rw [htake]
      rw [List.getElem?_take,if_pos (by omega)] at this
      rw [this];simp [List.getD,hi2]
     by_cases hi2:i<l.length
     ·rw [if_pos hi2]
      by_cases hi3:i<Nat.min m.length l.length
      ·rw [List.getElem?_append_left (by rw [hlen];exact hi3),List.map_append,List.getElem?_append_left (by rw [hlen];exact hi3)]
      ·have hml2:m.length≤i:=by have hi3:¬ i<min m.length l.length:=hi3;omega
       have hmm:Nat.min m.length l.length=m.length:=by show min m.length l.length=m.length;omega
       rw [List.getElem?_append_right (by rw [hlen];omega),List.map_append,List.getElem?_append_right (by rw [hlen];omega),hlen,hmm,List.getElem?_drop,List.getElem?_map,List.getElem?_drop,show m.length+(i-m.length)=i by omega,hc2 i hi2]
       simp [List.getD,hi2]
     ·rw [if_neg hi2,List.getElem?_eq_none]
      simp;omega
   ·rcases List.mem_append.1 hz with hz | hz
    ·exact SlI.i64 hS z (List.mem_of_mem_take hz)
    ·exact hi z (List.mem_of_mem_drop hz)
def optI (st:St):Option Operand→Option (Option Int×List Prop)
 | none=>some (none,[])
 | some x=>match zag (st.ev x) with
  | (.int _ n,ns)=>some (some n,ns)
  | _=>none
def hiOf (len:Nat):Option Int→Int
 | none=>len
 | some n=>n
def loOf:Option Int→Int
 | none=>0
 | some n=>n
def BdIs (a:Act):Option Operand→Option Int→Prop
 | none,none=>True
 | some x,some n=>∃ k,a.eval x = .int k n
 | _,_=>False
theorem zbW {E:Env} {a:Act} {w:World} (h:st.Ok base X w0 E a w) {x:Option Operand} {l:Option Int} {n:List Prop} (hx:optI st x=some (l,n)) (hn:∀ p∈n,p):BdIs a x l:=by
 cases x with
 | none=>
  simp only [optI,Option.some.injEq,Prod.mk.injEq] at hx
  obtain ⟨rfl,_⟩:=hx
  trivial
 | some x=>
  simp only [optI] at hx
  split at hx
  case h_2=>simp at hx
  rename_i k m ns e
  simp only [Option.some.injEq,Prod.mk.injEq] at hx
  obtain ⟨rfl,rfl⟩:=hx
  have:=zab (h.ev x) (fun p hp=>hn p (by rw [e] at hp;exact hp))
  rw [e] at this
  exact ⟨k,this.1⟩
theorem zdz {T e:TypeId} (he:P.underlying T=some (.slice e)) {sz:Nat} (hsz:zbi P e=some sz) (w:World) {a:Act} {lo hi:Option Operand} {l h:Option Int} (hl:BdIs a lo l) (hh:BdIs a hi h) (ad:Option Addr) (len cap:Nat) (hlc:len≤cap) (h0:0≤loOf l) (h1:loOf l≤hiOf len h) (h2:hiOf len h≤(len:Int)) :
  (Instr.sliceAt T (.slice ad len cap) (lo.map a.eval) (hi.map a.eval) none).run P w = .ok (.slice (if cap=(loOf l).toNat then ad else ad.map (·.add ((loOf l).toNat*sz))) ((hiOf len h).toNat-(loOf l).toNat) (cap-(loOf l).toNat)) w:=by
 have hb:∀ (k:IntKind) (n:Int) (y:Nat) code,0≤n→n≤(y:Int)→(Instr.sliceBound (.int k n) y code).run P w = .ok n.toNat w:=fun k n y code g0 g1=>run_sliceBound _ _ _ _ _ g0 g1
 cases lo with
 | none=>
  cases l with
  | some _=>exact hl.elim
  | none=>
   cases hi with
   | none=>
    cases h with
    | some _=>exact hh.elim
    | none=>simp [Instr.sliceAt,Instr.slice,Instr.sliceBounds,Sem.run_bind,run_underlying he,zav hsz,Result.andThen,Sem.run_pure,loOf,hiOf]
   | some y=>
    cases h with
    | none=>exact hh.elim
    | some n=>
     obtain ⟨k,hk⟩:=hh
     have:=hb k n cap .sliceAcap (by simp only [loOf,hiOf] at h0 h1;omega) (by simp only [hiOf] at h2;omega)
     simp [Instr.sliceAt,Instr.slice,Instr.sliceBounds,Sem.run_bind,run_underlying he,zav hsz,Result.andThen,Sem.run_pure,loOf,hiOf,hk,this]
 | some x=>
  cases l with
  | none=>exact hl.elim
  | some m=>
   obtain ⟨k2,hk2⟩:=hl
   cases hi with
   | none=>
    cases h with
    | some _=>exact hh.elim
    | none=>
     have:=hb k2 m len .sliceB h0 h1
     simp [Instr.sliceAt,Instr.slice,Instr.sliceBounds,Sem.run_bind,run_underlying he,zav hsz,Result.andThen,Sem.run_pure,loOf,hiOf,hk2,this]
     rfl
   | some y=>
    cases h with
    | none=>exact hh.elim
    | some n=>
     obtain ⟨k,hk⟩:=hh
     have g1:=hb k n cap .sliceAcap (by simp only [loOf,hiOf] at h0 h1;omega) (by simp only [hiOf] at h2;omega)
     have g2:=hb k2 m n.toNat .sliceB h0 (by simp only [loOf,hiOf] at h1;omega)
     simp [Instr.sliceAt,Instr.slice,Instr.sliceBounds,Sem.run_bind,run_underlying he,zav hsz,Result.andThen,Sem.run_pure,loOf,hiOf,hk,hk2,g1,g2]
     rfl
def zoo (ls:List Nat) (r:RL) (l h:Option Int):SV:= .sl ls ((r.take (hiOf r.len h).toNat).drop (loOf l).toNat)
def zlq (P:Program) (st:St) (c:Nat) (T:TypeId) (x:Operand) (lo hi:Option Operand):Option Upd:=
 match zbe P T,optI st lo,optI st hi with
 | some e,some (l,n2),some (h,n3)=>match zag (st.ev x) with
  | (.sl ls r,n1)=>if zbi P e=some r.tys.length then some ⟨n1++n2++n3++[0≤loOf l,loOf l≤hiOf r.len h,hiOf r.len h≤(r.len:Int)],zoo ls r l h,[]⟩ else none
  | (.nil,n1)=>if (zbi P e).isSome=true then some ⟨n1++n2++n3++[loOf l=0,hiOf 0 h=0],.nil,[]⟩ else none
  | (.own t,n1)=>match st.m t with
   | .row Tb ls r=>if zbi P e=some r.tys.length∧st.free c=true then (match l with
    | none=>some ⟨n1++n2++n3++[0≤hiOf r.len h,hiOf r.len h≤(r.len:Int)],.own c,[(t,.dead),(c,.row Tb ls (r.take (hiOf r.len h).toNat))]⟩
    | some l=>some ⟨n1++n2++n3++[0≤l,l≤hiOf r.len h,hiOf r.len h≤(r.len:Int),r.len≤140737488355328],zoo (c::ls) r (some l) h,[(t,.dead),(c,.dead)]⟩) else none
   | _=>none
  | _=>none
 | _,_,_=>none
theorem zop {w:World} {S:Nat→Prop} {r:RL} {ad:Option Addr} {c:Nat} {l h:Option Int} (hs:Sl w S r.tys ad r.len c r.rows) (h0:0≤loOf l) (h1:loOf l≤hiOf r.len h) (h2:hiOf r.len h≤(r.len:Int)) :
  Rd w S (.sl ((r.take (hiOf r.len h).toNat).drop (loOf l).toNat).tys) (.slice (if c=(loOf l).toNat then ad else ad.map (·.add ((loOf l).toNat*r.tys.length))) ((hiOf r.len h).toNat-(loOf l).toNat) (c-(loOf l).toNat)) (.sl ((r.take (hiOf r.len h).toNat).drop (loOf l).toNat).rows):=by
 have hb:=hs.bd
 rw [(RL.drop_ok _ _).1,(RL.drop_ok _ _).2.1,(RL.take_ok _ _).1,(RL.take_ok _ _).2.1]
 have ht:=hs.takeX (k:=(hiOf r.len h).toNat) (by omega)
 have hbt:=ht.bd
 by_cases hc:c=(loOf l).toNat
 ·rw [if_pos hc]
  have e:(hiOf r.len h).toNat-(loOf l).toNat=0:=by omega
  rw [e,List.drop_eq_nil_of_le (by have:=ht.len;omega)]
  exact .emp (fun e2=>by have:=(hb.2.2.2 e2).2;omega) (by unfold maxLen;omega)
 ·rw [if_neg hc]
  exact ht.cutMX (by omega) (by omega)
theorem MemOk.freeze {E:Env} {w:World} {m:Nat→BE} (h:MemOk base X w0 E m w) {t c:Nat} (hl:(m t).live=true) (hc:m c = .empty) :
  ∃ E',E.Le E'∧(∀ b,Has E m t b→E'.σ c b)∧MemOk base X w0 E' (putF [(t,.dead),(c,.dead)] m) w:=by
 have htc:t≠c:=by intro e;subst e;rw [hc] at hl;cases hl
 have hcnl:X.nl≤c:=by
  rcases Nat.lt_or_ge c X.nl with hlt | hge
  ·exact absurd hc (h.low c hlt)
  ·exact hge
 have hnc:∀ b,¬ E.σ c b:=(h.empty c hc).2
 have hm:∀ u,putF [(t,.dead),(c,.dead)] m u=if u=t then .dead else if u=c then .dead else m u:=fun u=>rfl
 refine ⟨⟨E.β,fun i b=>E.σ i b∨(i=c∧Has E m t b),E.φ⟩,⟨fun _ _ x=>x,fun _ _ x=> .inl x⟩,fun b hb=> .inr ⟨rfl,hb⟩,?_⟩
 have hhas:∀ u b,Has (⟨E.β,fun i b=>E.σ i b∨(i=c∧Has E m t b),E.φ⟩:Env) (putF [(t,.dead),(c,.dead)] m) u b→Has E m u b∧u≠t:=by
  intro u b ⟨g1,g2⟩
  rw [hm] at g1 g2
  by_cases hu:u=t
  ·rw [if_pos hu] at g1;cases g1
  ·rw [if_neg hu] at g1 g2
   by_cases hu2:u=c
   ·rw [if_pos hu2] at g1;cases g1
   ·rw [if_neg hu2] at g1 g2;exact ⟨⟨g1,g2⟩,hu⟩
 refine h.go ⟨fun _ _ x=>x,fun _ _ x=> .inl x⟩ Same.rfl' (fun u=>u=t∨u=c) (fun u hu=>⟨by rw [hm,if_neg (fun e=>hu (.inl e)),if_neg (fun e=>hu (.inr e))],rfl,rfl⟩)
  (fun u hu he b hb=>hb.elim ((h.empty u he).2 b) (fun g=>hu (.inr g.1))) (fun _ _ _ _=>rfl) (fun u hu=>?_) (fun i b hb=>?_) (fun i j b hi hj=>?_) (fun u b hb=>?_) (fun i b hi hb=>?_) (fun u v b h1 h2=>?_) (BelowX.refl _ _ _)
 ·have:putF [(t,.dead),(c,.dead)] m u = .dead:=by
   rw [hm]
   rcases hu with rfl | rfl
   ·rw [if_pos rfl]
   ·split<;>simp
  rw [this]
  exact ⟨by simp,fun g=>by cases g⟩
 ·rcases hb with hb | ⟨rfl,hb⟩
  ·exact h.lab i b hb
  ·exact ⟨h.lt hb,fun _=>(h.sep t b hb).2⟩
 ·rcases hi with hi | ⟨rfl,hi⟩<;>rcases hj with hj | ⟨rfl,hj⟩
  ·exact h.dis i j b hi hj
  ·exact absurd ⟨i,hi⟩ (h.sep t b hj).1
  ·exact absurd ⟨j,hj⟩ (h.sep t b hi).1
  ·rfl
 ·obtain ⟨g1,g2⟩:=hhas u b hb
  refine ⟨fun ⟨i,hi⟩=>?_,(h.sep u b g1).2⟩
  rcases hi with hi | ⟨_,hi⟩
  ·exact (h.sep u b g1).1 ⟨i,hi⟩
  ·exact g2 (h.inj u t b g1 hi)
 ·rcases hb with hb | ⟨rfl,_⟩
  ·exact h.old i b hi hb
  ·omega
 ·exact h.inj u v b (hhas u b h1).1 (hhas v b h2).1
theorem zlp (o:Oper) (c:Nat) (T:TypeId) (x:Operand) (lo hi:Option Operand) (ho:o.op = .slice T x lo hi none) {u:Upd} (hu:zlq P st c T x lo hi=some u):Does P base X w0 st o u:=by
 unfold zlq at hu
 split at hu
 case h_2=>simp at hu
 rename_i e l n2 h n3 he e2 e3
 split at hu
 case h_4=>simp at hu
 ·rename_i ls r n1 e1
  split at hu
  case isFalse=>simp at hu
  rename_i hsz
  simp only [Option.some.injEq] at hu
  subst hu
  refine Does.pure fun E a w hk hn=>?_
  have hx:=zab (hk.ev x) (fun p hp=>hn p (by rw [e1] at hp;simp [hp]))
  rw [e1] at hx
  have hl:=zbW hk e2 (fun p hp=>hn p (by simp [hp]))
  have hh:=zbW hk e3 (fun p hp=>hn p (by simp [hp]))
  have g0:0≤loOf l:=hn _ (by simp)
  have g1:loOf l≤hiOf r.len h:=hn _ (by simp)
  have g2:hiOf r.len h≤(r.len:Int):=hn _ (by simp)
  have hx:Rd w (E.set ls) (.sl r.tys) (a.eval x) (.sl r.rows):=hx
  obtain ⟨ad,cc,hv,hsl⟩:=hx.sl'
  rw [r.rows_len] at hv hsl
  refine ⟨_,?_,zop hsl g0 g1 g2⟩
  have hr:=zdz (P:=P) (zao he) hsz w hl hh ad r.len cc hsl.bd.1 g0 g1 g2
  simp only [execOp,ho,hv,Option.map_none,Sem.run_bind,hr,Result.andThen,Sem.run_pure]
 ·rename_i n1 e1
  split at hu
  case isFalse=>simp at hu
  rename_i hsz
  simp only [Option.some.injEq] at hu
  subst hu
  refine Does.pure fun E a w hk hn=>?_
  have hx:=zab (hk.ev x) (fun p hp=>hn p (by rw [e1] at hp;simp [hp]))
  rw [e1] at hx
  have hl:=zbW hk e2 (fun p hp=>hn p (by simp [hp]))
  have hh:=zbW hk e3 (fun p hp=>hn p (by simp [hp]))
  have g0:loOf l=0:=hn _ (by simp)
  have g1:hiOf 0 h=0:=hn _ (by simp)
  have hv:a.eval x = .slice none 0 0:=hx
  obtain ⟨sz,hsz⟩:=Option.isSome_iff_exists.1 hsz
  refine ⟨_,?_,(rfl:Value.slice none 0 0=_)⟩
  have hr:=zdz (P:=P) (zao he) hsz w hl hh none 0 0 (Nat.le_refl _) (by omega) (by rw [g0,g1];decide) (by rw [g1];decide)
  simp only [execOp,ho,hv,Option.map_none,Sem.run_bind,hr,Result.andThen,Sem.run_pure,g0,g1]
  rfl
 ·rename_i t n1 e1
  split at hu
  case h_2=>simp at hu
  rename_i Tb ls r hm
  split at hu
  case isFalse=>simp at hu
  rename_i hc
  obtain ⟨hsz,hfree⟩:=hc
  have hcE:=St.of_free hfree
  have hlive:(st.m t).live=true:=by rw [hm];rfl
  split at hu
  ·simp only [Option.some.injEq] at hu
   subst hu
   intro E a w K Q hk hn hK
   have hx:=zab (hk.ev x) (fun p hp=>hn p (by rw [e1] at hp;simp [hp]))
   rw [e1] at hx
   have hl:=zbW hk e2 (fun p hp=>hn p (by simp [hp]))
   have hh:=zbW hk e3 (fun p hp=>hn p (by simp [hp]))
   have g1:0≤hiOf r.len h:=hn _ (by simp)
   have g2:hiOf r.len h≤(r.len:Int):=hn _ (by simp)
   obtain ⟨v,hβ,hO⟩:=hk.mem.row t _ _ _ hm
   have hx1:=hx.1
   rw [hβ] at hx1
   simp only [Option.some.injEq] at hx1
   obtain ⟨ad,cc,hv⟩:=hO.form
   rw [r.rows_len] at hv
   have hcl:r.len≤cc:=by
    obtain ⟨cells,hoR,_⟩:=hO
    rcases hoR.2 with ⟨e5,e6⟩ | ⟨g,cap,cur,e5,_,_,h6,_⟩
    ·rw [e5] at hv;simp at hv;omega
    ·rw [e5] at hv;simp only [Value.slice.injEq] at hv;rw [r.rows_len] at h6;omega
   have hr:=zdz (P:=P) (zao he) hsz w hl hh ad r.len cc hcl (Int.le_refl _) g1 g2
   have hr2:(Instr.sliceAt T (a.eval x) (lo.map a.eval) (hi.map a.eval) none).run P w = .ok (.slice ad (hiOf r.len h).toNat cc) w:=by
    rw [← hx1,hv,hr]
    have:(if cc=(loOf none).toNat then ad else ad.map (·.add ((loOf none).toNat*r.tys.length)))=ad:=by
     have e9:(loOf none).toNat*r.tys.length=0:=by simp [loOf]
     rw [e9]
     cases ad with
     | none=>simp
     | some ad=>simp [Addr.add]
    rw [this];simp [loOf]
   have hcut:OwnR 0 w Tb (E.set ls) (r.take (hiOf r.len h).toNat).tys (.slice ad (hiOf r.len h).toNat cc) (r.take (hiOf r.len h).toNat).rows:=by
    rw [(RL.take_ok _ _).1,(RL.take_ok _ _).2.1]
    obtain ⟨cells,hoR,hrow⟩:=hO
    have hkl:(r.rows.take (hiOf r.len h).toNat).length=(hiOf r.len h).toNat:=by rw [List.length_take,r.rows_len];omega
    have hcl2:cells.length=r.rows.length*r.tys.length:=hoR.1
    have hmul:(hiOf r.len h).toNat*r.tys.length≤r.rows.length*r.tys.length:=Nat.mul_le_mul_right _ (by rw [r.rows_len];omega)
    refine ⟨cells.take ((hiOf r.len h).toNat*r.tys.length),⟨by rw [hkl,List.length_take];omega,?_⟩,fun i hi=>?_⟩
    ·rcases hoR.2 with ⟨e5,e6⟩ | ⟨g,cap,cur,e5,g3,g4,g5,g6,g7,g8⟩
     ·rw [e5] at hv
      simp only [Value.slice.injEq] at hv
      obtain ⟨rfl,h0,rfl⟩:=hv
      left
      rw [hkl]
      have:(hiOf r.len h).toNat=0:=by omega
      exact ⟨by rw [this],this⟩
     ·right
      rw [e5] at hv
      simp only [Value.slice.injEq] at hv
      obtain ⟨rfl,h0,rfl⟩:=hv
      refine ⟨g,cap,cur,by rw [hkl],g3,g4,by rw [hkl];omega,g6,g7,?_⟩
      rw [hkl,← g8,List.take_take,Nat.min_eq_left hmul]
    ·rw [hkl] at hi
     have e7:(r.rows.take (hiOf r.len h).toNat).getD i []=r.rows.getD i []:=by simp [List.getD,List.getElem?_take,hi]
     have e8:((cells.take ((hiOf r.len h).toNat*r.tys.length)).drop (i*r.tys.length)).take r.tys.length=(cells.drop (i*r.tys.length)).take r.tys.length:=by
      have:(i+1)*r.tys.length≤(hiOf r.len h).toNat*r.tys.length:=Nat.mul_le_mul_right _ hi
      rw [Nat.add_mul,Nat.one_mul] at this
      apply List.ext_getElem?
      intro j
      simp only [List.getElem?_take,List.getElem?_drop]
      by_cases hj:j<r.tys.length
      ·rw [if_pos hj,if_pos hj,if_pos (by omega)]
      ·rw [if_neg hj,if_neg hj]
     rw [e7,e8]
     have hvo:Value.ownBlock (.slice ad (hiOf r.len h).toNat cc)=v.ownBlock:=by rw [hv];cases ad<;>rfl
     rw [hvo]
     exact hrow i (by rw [r.rows_len];omega)
   have hE:=Env.setβ_le (hk.mem.empty c hcE).1 (.slice ad (hiOf r.len h).toNat cc)
   refine zaM (w':=w) ?_ (hK (E.setβ c (.slice ad (hiOf r.len h).toNat cc)) w (.slice ad (hiOf r.len h).toNat cc) hE Same.rfl' ⟨if_pos rfl,rfl⟩ ?_)
   ·simp only [execOp,ho,Option.map_none,Sem.run_bind,hr2,Result.andThen,Sem.run_pure]
   ·have htc:t≠c:=by intro e5;subst e5;rw [hcE] at hm;cases hm
    have hk2:=hk.mem.kill t
    have:=hk2.take (c:=c) (w':=w) (by rw [zaH _ _ (Ne.symm htc)];exact hcE) (.slice ad (hiOf r.len h).toNat cc) (.row Tb ls (r.take (hiOf r.len h).toNat)) (by simp) (Nat.le_refl _) (fun _ _=>rfl) (BelowX.refl _ _ _) (fun b hb=>?_) hcut
    ·have e9:putF [(t,.dead),(c,.row Tb ls (r.take (hiOf r.len h).toNat))] st.m=upd (upd st.m t .dead) c (.row Tb ls (r.take (hiOf r.len h).toNat)):=by
      rw [zc9,zbw];exact (zgw _ _ _ htc).symm
     rw [e9];exact this
    ·have hb2:za4 v=some b:=by rw [hv];cases ad<;>exact hb
     have hH:Has E st.m t b:=Has.row hm hβ hb2
     refine ⟨(hk.mem.sep t b hH).1,fun u hu=>?_,(hk.mem.sep t b hH).2⟩
     by_cases hut:u=t
     ·subst hut;have:=hu.1;rw [zaG] at this;cases this
     ·exact hut (hk.mem.inj u t b ⟨by have:=hu.1;rwa [zaH _ _ hut] at this,by have:=hu.2;rwa [zaH _ _ hut] at this⟩ hH)
  ·rename_i l2
   simp only [Option.some.injEq] at hu
   subst hu
   intro E a w K Q hk hn hK
   have hx:=zab (hk.ev x) (fun p hp=>hn p (by rw [e1] at hp;simp [hp]))
   rw [e1] at hx
   have hl:=zbW hk e2 (fun p hp=>hn p (by simp [hp]))
   have hh:=zbW hk e3 (fun p hp=>hn p (by simp [hp]))
   have g0:0≤l2:=hn _ (by simp)
   have g1:l2≤hiOf r.len h:=hn _ (by simp)
   have g2:hiOf r.len h≤(r.len:Int):=hn _ (by simp)
   have g3:r.len≤140737488355328:=hn _ (by simp)
   obtain ⟨v,hβ,hO⟩:=hk.mem.row t _ _ _ hm
   have hx1:=hx.1
   rw [hβ] at hx1
   simp only [Option.some.injEq] at hx1
   obtain ⟨E',hE,hσ,hM⟩:=hk.mem.freeze hlive hcE
   obtain ⟨ad,cc,hv,hsl⟩:=hO.slO (E'.set (c::ls)) (fun b ⟨i,hi,hs⟩=>⟨i,List.mem_cons_of_mem _ hi,hE.σ i b hs⟩) (fun b _ hb=>⟨c,List.mem_cons_self ..,hσ b (Has.row hm hβ (by
    obtain ⟨a5,c5,e5⟩:=hO.form
    rw [← zaq ⟨a5,_,c5,e5⟩];exact hb))⟩) (by rw [r.rows_len];exact g3)
   rw [r.rows_len] at hv hsl
   have hr:=zdz (P:=P) (zao he) hsz w hl hh ad r.len cc hsl.bd.1 g0 g1 g2
   rw [← hv,hx1] at hr
   refine zaM (w':=w) ?_ (hK E' w _ hE Same.rfl' (zop (l:=some l2) (h:=h) hsl g0 g1 g2) hM)
   simp only [execOp,ho,Option.map_none,Sem.run_bind,hr,Result.andThen,Sem.run_pure]
end ops
end Go.Proofs.Ytfccndnnpkiajaa
namespace Go.Proofs.Ytfccndnnpkiajaa
open Go.RowKit Go.ChangeShapes Go.WideShapes Go.Deep
def bytesOf (s:ByteArray):List Int:=s.data.toList.map fun b=>(b.toNat:Int)
theorem zbL (s:ByteArray):(bytesOf s).length=s.size:=by simp [bytesOf]
theorem zeY (s:ByteArray):Lib.strCells s=(bytesOf s).map (Value.int .u8):=by simp [Lib.strCells,bytesOf,Function.comp_def]
theorem u8_wf {b:UInt8}:(Lit.int .u8 (b.toNat:Int)).wf=true:=by
 have:=b.toNat_lt
 simp only [Lit.wf,Bool.and_eq_true,decide_eq_true_eq]
 show (0:Int)≤_∧_≤(255:Int)
 omega
theorem OwnR.bytesC {w:World} {T:TypeId} {S:Nat→Prop} {v:Value} {l:List Int} (h:OwnR 0 w T S [.int .u8] v (ints l)):w.ownsRow 0 T 1 v l.length (l.map (Value.int .u8))∧∀ x∈l,(Lit.int .u8 x).wf=true:=by
 obtain ⟨cells,ho,hr⟩:=h
 rw [zay] at ho hr
 have hl:cells.length=l.length:=by have:=ho.1;simpa using this
 have hat:∀ i,(hi:i<l.length)→cells[i]? = some (.int .u8 l[i])∧(Lit.int .u8 l[i]).wf=true:=by
  intro i hi
  have:=hr i hi
  have e2:(ints l).getD i []=[.int l[i]]:=by simp [ints,List.getD,hi]
  rw [e2] at this
  have e3:(cells.drop (i*[Ty.int .u8].length)).take [Ty.int .u8].length=[cells[i]'(by omega)]:=by
   show (cells.drop (i*1)).take 1=_
   rw [Nat.mul_one,List.drop_eq_getElem_cons (by omega),List.take_succ_cons,List.take_zero]
  rw [e3] at this
  obtain ⟨n,e4,e5,h5⟩:=this.1.int_inv
  cases e5
  exact ⟨by rw [List.getElem?_eq_getElem (by omega),e4],h5⟩
 have e:cells=l.map (Value.int .u8):=by
  apply List.ext_getElem?
  intro i
  by_cases hi:i<l.length
  ·rw [(hat i hi).1];simp [hi]
  ·rw [List.getElem?_eq_none (by omega),List.getElem?_eq_none (by simp;omega)]
 refine ⟨by rw [← e];exact ho,fun x hx=>?_⟩
 obtain ⟨i,hi,rfl⟩:=List.mem_iff_getElem.1 hx
 exact (hat i hi).2
theorem OwnR.ofBytes {w:World} {T:TypeId} {S:Nat→Prop} {v:Value} {l:List Int} (h:w.ownsRow 0 T 1 v l.length (l.map (Value.int .u8))) (hx:∀ x∈l,(Lit.int .u8 x).wf=true):OwnR 0 w T S [.int .u8] v (ints l):=by
 refine ⟨l.map (Value.int .u8),by rw [zay];exact h,fun i hi=>?_⟩
 rw [zay] at hi
 have e1:(((l.map (Value.int .u8)).drop (i*1)).take 1)=[.int .u8 (l[i])]:=by
  rw [Nat.mul_one,List.drop_eq_getElem_cons (by simpa using hi),List.take_succ_cons,List.take_zero];simp
 have e2:(ints l).getD i []=[.int l[i]]:=by simp [ints,List.getD,hi]
 show RdL _ _ [.int .u8] (((l.map (Value.int .u8)).drop (i*1)).take 1) _
 rw [e1,e2]
 exact ⟨.int (hx _ (List.getElem_mem hi)),trivial⟩
theorem zkg {P:Program} {w:World} {t u ty e:TypeId} {i:TypeInfo} (ht:P.underlying t=some (.slice e)) (hu:P.underlying u=some .string) (hi:P.info? e=some i) (hz:i.zero=some (.int .u8 0)) (hsize:i.size=1) (hby:i.bytes=1)
  {v:Value} {n:Nat} {xs:List Value} (hown:w.ownsRow 0 e 1 v n xs) (s:ByteArray) (hbytes:n+s.size≤140737488355328) :
  ∃ v' w',(Builtin.append_ #[t,u] ty #[v,.string s]).run P w = .ok v' w'∧w'.ownsRow 0 e 1 v' (n+s.size) (xs++Lib.strCells s)∧w.grownBy w' v.ownBlock∧(v'.ownBlock=v.ownBlock∨v'.ownBlock=some w.heap.size):=by
 have h63:n+s.size≤maxLen:=by unfold maxLen;omega
 obtain ⟨v',w',hr,h2,h3,h4⟩:=Lib.run_append_own_string (P:=P) w 0 t u ty e i ht hu hi hz hsize hby v n xs hown s h63 hbytes (Nat.zero_le _)
 refine ⟨v',w',hr,h2,h3,?_⟩
 have hxl:xs.length=n:=by simpa using hown.1
 rcases hown.2 with ⟨rfl,rfl⟩ | ⟨g,cap,cur,rfl,hbg,hg,hnc,hcm,hcs,htake⟩
 ·by_cases hm:s.size=0
  ·left;rw [h4.2 ⟨rfl,hm⟩]
  ·right
   have:=run_append_nil_string (P:=P) w t u ty e i (.int .u8 0) ht hu hi hz s (by omega) (by omega) (by rw [hby];omega)
   rw [hr] at this
   simp only [Result.ok.injEq] at this
   rw [this.1];rfl
 ·by_cases hroom:n+s.size≤cap
  ·left
   have hcs':cur.size=cap:=by simpa using hcs
   have:=Lib.run_append_room_string (P:=P) w t u ty e i ht hu hi hsize g n cap cur hg s hroom (by omega)
   rw [hr] at this
   simp only [Result.ok.injEq] at this
   rw [this.1];rfl
  ·right
   have holds:∀ j u,xs[j]? = some u→w.cell? ((⟨g,0,none⟩:Addr).add j)=some u:=hown.cells (g:=g) rfl
   have:=Lib.run_append_grow_string (P:=P) w t u ty e i (.int .u8 0) ht hu hi hz ⟨g,0,none⟩ n cap xs (by rw [hsize];simpa using hxl) holds s (by omega) (by omega) (by rw [hby];exact growslice_fits (by omega) (by omega))
   rw [hr] at this
   simp only [Result.ok.injEq] at this
   rw [this.1];rfl
section ops
variable {P : Program} {base : Nat} {X : Cx} {w0 : World} {st : St}
def zmP (P:Program) (e:TypeId):Bool:=match P.info? e with
 | some i=>match i.zero with
  | some (.int .u8 (.ofNat 0))=>i.size==1&&i.bytes==1
  | _=>false
 | none=>false
theorem zkF {e:TypeId} (h:zmP P e=true):∃ i,P.info? e=some i∧i.zero=some (.int .u8 0)∧i.size=1∧i.bytes=1:=by
 unfold zmP at h
 split at h
 case h_2=>cases h
 rename_i i hi
 split at h
 case h_2=>cases h
 rename_i hz
 simp at h
 exact ⟨i,hi,hz,h.1,h.2⟩
def zlx (P:Program) (st:St) (c:Nat) (T T2:TypeId) (x y:Operand):Option Upd:=
 match zbe P T,P.underlying T2 with
 | some e,some .string=>match zdX st e (zag (st.ev x)).1,zag (st.ev y) with
  | some (dt,ls,.rBytes l),(.str s,n2)=>if st.free c=true∧zmP P e=true then some ⟨(zag (st.ev x)).2++n2++[l.length+s.size≤140737488355328],.own c,ziK dt++[(c,.row e [] (.rBytes (l++bytesOf s)))]⟩ else none
  | _,_=>none
 | _,_=>none
theorem zlw (o:Oper) (c:Nat) (T T2:TypeId) (x y:Operand) (ho:o.op = .call {callee:= .builtin .append,args:= #[x,y],argTypes:= #[T,T2]}) {u:Upd} (hu:zlx P st c T T2 x y=some u):Does P base X w0 st o u:=by
 unfold zlx at hu
 split at hu
 case h_2=>simp at hu
 rename_i e he h2
 split at hu
 case h_2=>simp at hu
 rename_i dt ls l s n2 hdst e2
 split at hu
 case isFalse=>simp at hu
 rename_i hc
 obtain ⟨hfree,hinfo⟩:=hc
 simp only [Option.some.injEq] at hu
 subst hu
 have hcE:=St.of_free hfree
 intro E a w K Q h hn hK
 have hx:=zab (h.ev x) (fun p hp=>hn p (by simp [hp]))
 have hy:=zab (h.ev y) (fun p hp=>hn p (by rw [e2] at hp;simp [hp]))
 rw [e2] at hy
 obtain ⟨hy,_⟩:=hy
 have hbd:l.length+s.size≤140737488355328:=hn _ (by simp)
 obtain ⟨o1,hHas,hlive⟩:=zgW h.mem hdst hx
 obtain ⟨i,i1,i2,i3,i4⟩:=zkF hinfo
 have o1:OwnR 0 w e (E.set ls) [.int .u8] (a.eval x) (ints l):=o1
 obtain ⟨c1,c2⟩:=o1.bytesC
 obtain ⟨v',w',hrun,hown,hgr,hat⟩:=zkg (P:=P) (ty:=o.type) (zao he) h2 i1 i2 i3 i4 c1 s hbd
 have hO:OwnR 0 w' e (E.set []) (RL.rBytes (l++bytesOf s)).tys v' (RL.rBytes (l++bytesOf s)).rows:=by
  refine OwnR.ofBytes (l:=l++bytesOf s) ?_ (fun x hx=>?_)
  ·rw [List.length_append,zbL,List.map_append,← zeY];exact hown
  ·rcases List.mem_append.1 hx with hx | hx
   ·exact c2 x hx
   ·obtain ⟨b,_,rfl⟩:=List.mem_map.1 hx
    exact u8_wf
 obtain ⟨hS,hE,hone,hm'⟩:=zjL h.mem hcE hHas hlive hO hgr hat
 refine zaM (v:=v') (w':=w') ?_ (hK (E.setβ c v') w' v' hE hS ⟨if_pos rfl,hone⟩ hm')
 simp only [execOp,ho,resolve,invoke,builtin,Sem.run_bind,Sem.run_pure,Result.andThen_ok,List.map_toArray,List.map_cons,List.map_nil]
 rw [hy,hrun];rfl
end ops
end Go.Proofs.Ytfccndnnpkiajaa
namespace Go.Proofs.Ytfccndnnpkiajaa
open Go.RowKit Go.ChangeShapes Go.WideShapes Go.Deep
def zmN (P:Program) (t:TypeId):Bool:=match P.underlying t with
 | some (.int .i64)=>true
 | _=>false
theorem zkD {P:Program} {t:TypeId} (h:zmN P t=true):P.underlying t=some (.int .i64):=by
 unfold zmN at h
 split at h
 ·assumption
 ·cases h
def intF (P:Program):Nat→List Field→Bool
 | _,[]=>true
 | j, f :: fs => !(f.name == "_") && Nat.beq f.offset j && zmN P f.type && P.plainKey f.type && intF P (j + 1) fs
def isI:SV→Bool
 | .int .i64 _=>true
 | _=>false
def eqI:List SV→List SV→Bool
 | .int _ a::r,.int _ b::q=>if a=b then eqI r q else false
 | _,_=>true
theorem zlE {s:SV} (h:isI s=true):∃ n,s = .int .i64 n:=by
 unfold isI at h
 split at h
 ·exact ⟨_,rfl⟩
 ·cases h
theorem zjc {P:Program} {E:Env} {w:World} {X Y:Array Value} {d:Nat}:∀ (fs:List Field) (j:Nat) (vs us:List SV),intF P j fs=true→vs.all isI=true→us.all isI=true→vs.length=fs.length→us.length=fs.length→DenL E w vs (X.toList.drop j)→DenL E w us (Y.toList.drop j) →
  (Op.eqFields (d+1) X Y fs).run P w = .ok (eqI vs us) w
 | [],j,[],[],_,_,_,_,_,_,_=>by simp [Op.eqFields,eqI]
 | f::fs,j,s::vs,t::us,hF,hv,hu,hl,hl2,hdx,hdy=>by
  simp only [intF,Bool.and_eq_true,Bool.not_eq_true'] at hF
  obtain ⟨⟨⟨⟨h1,h2⟩,h3⟩,h4⟩,h5⟩:=hF
  rw [List.all_cons,Bool.and_eq_true] at hv hu
  obtain ⟨a,rfl⟩:=zlE hv.1
  obtain ⟨b,rfl⟩:=zlE hu.1
  have hoff:=Nat.eq_of_beq_eq_true h2
  have key:∀ {Z:Array Value} {c:Int} {ws:List SV},DenL E w (.int .i64 c::ws) (Z.toList.drop j)→Z[j]? = some (.int .i64 c)∧DenL E w ws (Z.toList.drop (j+1)):=by
   intro Z c ws hd
   cases hz:Z.toList.drop j with
   | nil=>rw [hz] at hd;exact hd.elim
   | cons z zs=>
    rw [hz] at hd
    have hlt:j<Z.toList.length:=by
     have:=congrArg List.length hz
     simp at this ⊢;omega
    have e:=List.drop_eq_getElem_cons hlt
    rw [hz] at e
    simp only [List.cons.injEq] at e
    obtain ⟨e1,e2⟩:=e
    have hzv:z = .int .i64 c:=hd.1.1
    refine ⟨?_,by rw [← e2];exact hd.2⟩
    rw [← hzv,e1]
    simp
  obtain ⟨kx,rx⟩:=key hdx
  obtain ⟨ky,ry⟩:=key hdy
  rw [← hoff] at kx ky
  have hne : f.name ≠ "_" := by simpa using h1
  have ih:=zjc (d:=d) fs (j+1) vs us h5 hv.2 hu.2 (by simpa using hl) (by simpa using hl2) rx ry
  simp only [Op.eqFields,if_pos hne,Sem.run_bind,run_part_plain w h4 kx,run_part_plain w h4 ky,Result.andThen_ok,run_equalIn_int w d f.type .i64 .i64 a b (zkD h3),Sem.run_ite]
  by_cases hab:a=b
  ·have e:(a==b)=true:=by simpa using hab
   simp only [e,Bool.not_true,Bool.false_eq_true,if_false,ih,eqI,if_pos hab]
  ·have e:(a==b)=false:=by simpa using hab
   simp only [e,Bool.not_false,if_true,Sem.run_pure,eqI,if_neg hab]
 | [],_,_::_,_,_,_,_,h,_,_,_=>by simp at h
 | [],_,[],_::_,_,_,_,_,h,_,_=>by simp at h
 | _::_,_,[],_,_,_,_,h,_,_,_=>by simp at h
 | _::_,_,_::_,[],_,_,_,_,h,_,_=>by simp at h
def cEqA (P:Program) (st:St) (op:BinOp) (T:TypeId) (x y:Operand):Option Upd:=
 match zag (st.ev x),zag (st.ev y) with
 | (.agg vs,n1),(.agg us,n2)=>
  if isStr P T&&intF P 0 (P.fieldsOf T).toList&&!P.stoodInHeld T&&!P.eqGuardType P.depth T&&vs.all isI&&us.all isI&&Nat.beq vs.length (P.fieldsOf T).toList.length&&Nat.beq us.length (P.fieldsOf T).toList.length then
   (match op with
   | .eql=>some ⟨n1++n2,.bool (eqI vs us),[]⟩
   | .neq=>some ⟨n1++n2,.bool !(eqI vs us),[]⟩
   | _=>none) else none
 | _,_=>none
where isStr (P:Program) (T:TypeId):Bool:=match P.underlying T with
 | some (.struct _)=>true
 | _=>false
section
variable {P : Program} {base : Nat} {X : Cx} {w0 : World} {st : St}
theorem zn0 (o:Oper) (op:BinOp) (T T2:TypeId) (x y:Operand) (ho:o.op = .binOp op T x y T2) {u:Upd} (hu:cEqA P st op T x y=some u):Does P base X w0 st o u:=by
 unfold cEqA at hu
 split at hu
 case h_2=>simp at hu
 rename_i vs n1 us n2 e1 e2
 split at hu
 case isFalse=>simp at hu
 rename_i hck
 simp only [Bool.and_eq_true,Bool.not_eq_true'] at hck
 obtain ⟨⟨⟨⟨⟨⟨⟨c1,c2⟩,c3⟩,c4⟩,c5⟩,c6⟩,c7⟩,c8⟩:=hck
 have hT:P.underlying T=some (.struct (P.fieldsOf T)):=by
  unfold cEqA.isStr at c1
  split at c1
  ·rename_i fs e;simp only [Program.fieldsOf,e]
  ·cases c1
 have run:∀ E a w,st.Ok base X w0 E a w→(∀ p∈n1++n2,p)→∃ xs ys:List Value,a.eval x = .agg xs.toArray∧a.eval y = .agg ys.toArray∧(Op.equalIn 10000 T (.agg xs.toArray) (.agg ys.toArray)).run P w = .ok (eqI vs us) w:=by
  intro E a w h hn
  have hx:=zab (h.ev x) (fun p hp=>hn p (by rw [e1] at hp;simp [hp]))
  have hy:=zab (h.ev y) (fun p hp=>hn p (by rw [e2] at hp;simp [hp]))
  rw [e1] at hx
  rw [e2] at hy
  obtain ⟨xs,hx1,hx2⟩:=hx
  obtain ⟨ys,hy1,hy2⟩:=hy
  refine ⟨xs,ys,hx1,hy1,?_⟩
  rw [run_equalIn_agg w 9999 T xs.toArray ys.toArray hT c3]
  exact zjc (E:=E) (d:=9998) _ 0 vs us c2 c5 c6 (Nat.eq_of_beq_eq_true c7) (Nat.eq_of_beq_eq_true c8) (by simpa using hx2) (by simpa using hy2)
 split at hu
 ·simp only [Option.some.injEq] at hu
  subst hu
  refine Does.pure fun E a w h hn=>?_
  obtain ⟨xs,ys,h1,h2,h3⟩:=run E a w h hn
  refine ⟨.bool (eqI vs us),?_,rfl⟩
  simp only [execOp,ho,h1,h2,Sem.run_bind,run_eqGuard_agg w .eql T x y _ _ c4,Result.andThen_ok,run_eql_struct,h3,Sem.run_pure]
 ·simp only [Option.some.injEq] at hu
  subst hu
  refine Does.pure fun E a w h hn=>?_
  obtain ⟨xs,ys,h1,h2,h3⟩:=run E a w h hn
  refine ⟨.bool (!eqI vs us),?_,rfl⟩
  simp only [execOp,ho,h1,h2,Sem.run_bind,run_eqGuard_agg w .neq T x y _ _ c4,Result.andThen_ok,run_neq_struct,h3,Sem.run_pure]
 ·simp at hu
end
end Go.Proofs.Ytfccndnnpkiajaa
namespace Go.Proofs.Ytfccndnnpkiajaa
open Go.RowKit Go.ChangeShapes Go.WideShapes Go.Deep
theorem MemOk.lay {base:Nat} {X:Cx} {w0 w w':World} {E:Env} {m:Nat→BE} (h:MemOk base X w0 E m w) {c:Nat} (hc:m c = .empty) (hB:Below w.heap.size w w') :
  ∃ E',E.Le E'∧(∀ b,w.heap.size≤b→b<w'.heap.size→E'.σ c b)∧Same E.lab w w'∧MemOk base X w0 E' (upd m c .dead) w':=by
 have hcnl:X.nl≤c:=by
  rcases Nat.lt_or_ge c X.nl with hlt | hge
  ·exact absurd hc (h.low c hlt)
  ·exact hge
 have hnc:∀ b,¬ E.σ c b:=(h.empty c hc).2
 have hS:Same E.lab w w':=Same.below hB
 have hh:∀ u b,Has (⟨E.β,fun i b=>E.σ i b∨(i=c∧w.heap.size≤b∧b<w'.heap.size),E.φ⟩:Env) (upd m c .dead) u b→Has E m u b:=by
  intro u b ⟨g1,g2⟩
  by_cases hu:u=c
  ·subst hu;rw [zaG] at g1;cases g1
  ·rw [zaH _ _ hu] at g1 g2;exact ⟨g1,g2⟩
 refine ⟨⟨E.β,fun i b=>E.σ i b∨(i=c∧w.heap.size≤b∧b<w'.heap.size),E.φ⟩,⟨fun _ _ x=>x,fun _ _ x=> .inl x⟩,fun b h1 h2=> .inr ⟨rfl,h1,h2⟩,hS,?_⟩
 refine h.go ⟨fun _ _ x=>x,fun _ _ x=> .inl x⟩ hS (fun u=>u=c) (fun u hu=>⟨zaH _ _ hu,rfl,rfl⟩) (fun u hu he b hb=>hb.elim ((h.empty u he).2 b) (fun g=>hu g.1)) (fun u b _ hx=>hB.block b (h.lt hx))
  (fun u hu=>by subst hu;rw [zaG];exact ⟨by simp,fun g=>by cases g⟩) (fun i b hb=>?_) (fun i j b hi hj=>?_) (fun u b hb=>?_) (fun i b hi hb=>?_) (fun u v b h1 h2=>h.inj u v b (hh u b h1) (hh v b h2))
  ⟨hB.os,hB.tape,hB.output,hB.size,fun x hx _=>hB.block x (Nat.lt_of_lt_of_le hx h.base)⟩
 ·rcases hb with hb | ⟨rfl,h1,h2⟩
  ·exact ⟨Nat.lt_of_lt_of_le (h.lab i b hb).1 hB.size,(h.lab i b hb).2⟩
  ·exact ⟨h2,fun _=> .inl (Nat.le_trans h.base h1)⟩
 ·rcases hi with hi | ⟨rfl,h1,_⟩<;>rcases hj with hj | ⟨rfl,h2,_⟩
  ·exact h.dis i j b hi hj
  ·exact absurd (h.lab i b hi).1 (by omega)
  ·exact absurd (h.lab j b hj).1 (by omega)
  ·rfl
 ·have g1:=hh u b hb
  refine ⟨fun ⟨i,hi⟩=>?_,(h.sep u b g1).2⟩
  rcases hi with hi | ⟨_,h1,_⟩
  ·exact (h.sep u b g1).1 ⟨i,hi⟩
  ·have:=h.lt g1;omega
 ·rcases hb with hb | ⟨rfl,_⟩
  ·exact h.old i b hi hb
  ·omega
def zc3 (l:List Int):ByteArray:=⟨(l.map fun n=>UInt8.ofNat n.toNat).toArray⟩
theorem zhn (l:List Int):(zc3 l).size=l.length:=by simp [zc3,ByteArray.size]
theorem zf6:∀ (ns:List Int) (s:ByteArray),ns.foldl (fun r n=>r.push (UInt8.ofNat n.toNat)) s=⟨s.data++(ns.map fun n=>UInt8.ofNat n.toNat).toArray⟩
 | [],s=>by simp
 | n::ns,s=>by
  rw [List.foldl_cons,zf6 ns]
  simp [ByteArray.push]
theorem zei (l:List Int):l.foldl (fun r n=>r.push (UInt8.ofNat n.toNat)) ByteArray.empty=zc3 l:=by
 rw [zf6]
 show ByteArray.mk (#[]++_)=_
 simp [zc3]
section ops
variable {P : Program} {base : Nat} {X : Cx} {w0 : World} {st : St}
def xorI (k:IntKind) (x y:Int):Int:=k.wrap ((BitVec.ofInt k.bits x ^^^ BitVec.ofInt k.bits y).toNat:Int)
def binX (op:BinOp):SV→SV→Option SV
 | .str x,.str y=>match op with
  | .lss=>some (.bool (zb3 x y))
  | .leq=>some (.bool (zb3 x y||x.toList==y.toList))
  | .gtr=>some (.bool !(zb3 x y||x.toList==y.toList))
  | .geq=>some (.bool !(zb3 x y))
  | _=>none
 | .int k x,.int k' y=>if k=k' then (match op with
  | .xor=>some (.int k (xorI k x y))
  | _=>none) else none
 | _,_=>none
theorem zn7 {E:Env} {w:World} {op:BinOp} {s t r:SV} (h:binX op s t=some r) {v u:Value} (hv:DenV E w s v) (hu:DenV E w t u) (T:TypeId) (x y:Operand) :
  ∃ z,(do eqGuard op T x y v u;binOp op T v u:Sem Value).run P w = .ok z w∧DenV E w r z:=by
 unfold binX at h
 split at h
 ·rename_i a b
  obtain ⟨rfl,ha⟩:=hv
  obtain ⟨rfl,hb⟩:=hu
  split at h<;>simp only [Option.some.injEq,reduceCtorEq] at h
  all_goals subst h
  all_goals
   refine ⟨_,by simp only [eqGuard,binOp,Op.stringOp,Sem.run_bind,Sem.run_pure,Result.andThen];rfl,?_⟩
   rfl
 ·rename_i k a k' b
  split at h
  case isFalse=>simp at h
  rename_i hk
  subst hk
  obtain ⟨rfl,_⟩:=hv
  obtain ⟨rfl,_⟩:=hu
  split at h<;>simp only [Option.some.injEq,reduceCtorEq] at h
  subst h
  refine ⟨_,by simp [eqGuard,binOp,Op.intBits];rfl,?_⟩
  exact ⟨rfl,wf_wrap _ _⟩
 ·simp at h
def zlv (st:St) (op:BinOp) (x y:Operand):Option Upd:=
 match binX op (zag (st.ev x)).1 (zag (st.ev y)).1 with
 | some r=>some ⟨(zag (st.ev x)).2++(zag (st.ev y)).2,r,[]⟩
 | none=>none
theorem zlu (o:Oper) (op:BinOp) (T T2:TypeId) (x y:Operand) (ho:o.op = .binOp op T x y T2) {u:Upd} (hu:zlv st op x y=some u):Does P base X w0 st o u:=by
 unfold zlv at hu
 split at hu
 case h_2=>simp at hu
 rename_i r hb
 simp only [Option.some.injEq] at hu
 subst hu
 refine Does.pure fun E a w h hn=>?_
 have hx:=zab (h.ev x) (fun p hp=>hn p (by simp [hp]))
 have hy:=zab (h.ev y) (fun p hp=>hn p (by simp [hp]))
 obtain ⟨z,h1,h2⟩:=zn7 (P:=P) hb hx hy T x y
 exact ⟨z,by rw [execOp,ho];simp only [Sem.run_bind] at h1 ⊢;rw [h1];rfl,h2⟩
def sGet (s:ByteArray) (i:Int):Int:=((s.data.toList.getD i.toNat 0).toNat:Int)
def zlo (P:Program) (st:St) (T:TypeId) (x i:Operand):Option Upd:=
 match P.underlying T,zag (st.ev x),zag (st.ev i) with
 | some .string,(.str s,n1),(.int .i64 j,n2)=>some ⟨n1++n2++[0≤j,j<(s.size:Int)],.int .u8 (sGet s j),[]⟩
 | _,_,_=>none
theorem zfS (s:ByteArray) (i:Int):0≤sGet s i∧sGet s i≤255:=by
 unfold sGet
 have:=(s.data.toList.getD i.toNat 0).toNat_lt
 omega
theorem zl2 {n:Int} (h:0≤n∧n≤255):(Lit.int .u8 n).wf=true:=by
 simp only [Lit.wf,Bool.and_eq_true,decide_eq_true_eq];exact h
theorem zln (o:Oper) (T:TypeId) (x i:Operand) (ho:o.op = .index T x i) {u:Upd} (hu:zlo P st T x i=some u):Does P base X w0 st o u:=by
 unfold zlo at hu
 split at hu
 case h_2=>simp at hu
 rename_i s n1 j n2 hT e1 e2
 simp only [Option.some.injEq] at hu
 subst hu
 refine Does.pure fun E a w h hn=>?_
 have hx:=zab (h.ev x) (fun p hp=>hn p (by rw [e1] at hp;simp [hp]))
 have hi:=zab (h.ev i) (fun p hp=>hn p (by rw [e2] at hp;simp [hp]))
 rw [e1] at hx
 rw [e2] at hi
 obtain ⟨hx,_⟩:=hx
 obtain ⟨hi,_⟩:=hi
 have h0:0≤j:=hn _ (by simp)
 have h1:j<(s.size:Int):=hn _ (by simp)
 have hlt:j.toNat<s.size:=by omega
 have hg:s[j.toNat]? = some s[j.toNat]:=by rw [getElem?_pos s j.toNat hlt]
 have he:s[j.toNat].toNat=(s.data.toList.getD j.toNat 0).toNat:=by
  have:j.toNat<s.data.toList.length:=by simpa using hlt
  rw [List.getD_eq_getElem?_getD,List.getElem?_eq_getElem this]
  rfl
 refine ⟨.int .u8 (sGet s j),?_,rfl,zl2 (zfS s j)⟩
 have:sGet s j=(s[j.toNat].toNat:Int):=by unfold sGet;rw [he]
 rw [this]
 simp [execOp,ho,hx,hi,Instr.index,asIntOf,run_underlying hT,h0,hg,Result.andThen]
def rowU (st:St):SV→Option (List Int)
 | .sl _ (.rBytes l)=>some l
 | .own t=>match st.m t with
  | .row _ _ (.rBytes l)=>some l
  | _=>none
 | .nil=>some []
 | _=>none
theorem zmw {E:Env} {a:Act} {w:World} (h:st.Ok base X w0 E a w) {s:SV} {l:List Int} (hs:rowU st s=some l) {v:Value} (hv:DenV E w s v):(l=[]∧∃ ad c,v = .slice ad 0 c)∨(∃ b off c,v = .slice (some ⟨b,off,none⟩) l.length c∧∀ i,i<l.length→w.cell? ⟨b,off+i,none⟩=some (.int .u8 (l.getD i 0))):=by
 have key:∀ (S:Nat→Prop) (v:Value),Rd w S (.sl [.int .u8]) v (.sl (ints l))→(l=[]∧∃ ad c,v = .slice ad 0 c)∨(∃ b off c,v = .slice (some ⟨b,off,none⟩) l.length c∧∀ i,i<l.length→w.cell? ⟨b,off+i,none⟩=some (.int .u8 (l.getD i 0))):=by
  intro S v hr
  obtain ⟨ad,c,rfl,hsl⟩:=hr.sl'
  rw [zay] at hsl ⊢
  by_cases h0:l.length=0
  ·have:l=[]:=List.eq_nil_of_length_eq_zero h0
   subst this
   exact .inl ⟨rfl,ad,c,rfl⟩
  ·obtain ⟨b,off,rfl,_,_,vals,hc,hr⟩:=hsl.rowAt (by omega)
   refine .inr ⟨b,off,c,rfl,fun i hi=>?_⟩
   have h1:=hc i 0 hi (by simp)
   have h2:=(hr i hi).2 0 (by simp)
   have e:(ints l).getD i []=[.int (l.getD i 0)]:=by simp [ints,List.getD,hi]
   rw [e] at h2
   have h2:Rd w S (.int .u8) (vals i 0) (.int (l.getD i 0)):=h2
   rw [h2.u8.1] at h1
   simpa using h1
 unfold rowU at hs
 split at hs
 ·simp only [Option.some.injEq] at hs
  subst hs
  exact key _ _ hv
 ·rename_i t
  split at hs
  case h_2=>simp at hs
  rename_i T ls l2 hm
  simp only [Option.some.injEq] at hs
  subst hs
  obtain ⟨v',h1,h2⟩:=h.mem.row t _ _ _ hm
  have:=hv.1
  rw [h1] at this
  simp only [Option.some.injEq] at this
  subst this
  obtain ⟨cells,ho,hr⟩:=h2
  have h3:OwnR 0 w T (E.set ls) [.int .u8] v' (ints l2):=⟨cells,ho,hr⟩
  obtain ⟨ad,c,e⟩:=h3.form
  rw [zay] at e
  by_cases h0:l2.length=0
  ·have:l2=[]:=List.eq_nil_of_length_eq_zero h0
   subst this
   exact .inl ⟨rfl,ad,c,e⟩
  ·obtain ⟨c1,c2⟩:=h3.bytesC
   have e2:=e
   rcases c1.2 with ⟨hv0,_⟩ | ⟨g,cap,cur,hv1,hg,hh,hsz,hxs⟩
   ·rw [hv0] at e;simp at e;omega
   ·rw [hv1] at e
    refine .inr ⟨g,0,cap,hv1,fun i hi=>?_⟩
    have:=c1.cells (g:=g) (by rw [hv1];rfl) i (.int .u8 (l2.getD i 0)) (by simp [List.getD,hi])
    have e3:(⟨g,0,none⟩:Addr).add i=⟨g,0+i,none⟩:=by simp [Addr.add];intro e;simp [e]
    rw [e3] at this
    exact this
 ·simp only [Option.some.injEq] at hs
  subst hs
  have:v = .slice none 0 0:=hv
  exact .inl ⟨rfl,none,0,this⟩
 ·simp at hs
def cB2S (P:Program) (st:St) (src dst:TypeId) (x:Operand):Option Upd:=
 match zbe P src,P.underlying dst with
 | some e,some .string=>match P.underlying e,rowU st (zag (st.ev x)).1 with
  | some (.int .u8),some l=>some ⟨(zag (st.ev x)).2++[l.length≤140737488355328],.str (zc3 l),[]⟩
  | _,_=>none
 | _,_=>none
theorem zn4 (o:Oper) (src dst:TypeId) (x:Operand) (ho:o.op = .convert src dst x) {u:Upd} (hu:cB2S P st src dst x=some u):Does P base X w0 st o u:=by
 unfold cB2S at hu
 split at hu
 case h_2=>simp at hu
 rename_i e he hd
 split at hu
 case h_2=>simp at hu
 rename_i l hu8 hl
 simp only [Option.some.injEq] at hu
 subst hu
 refine Does.pure fun E a w h hn=>?_
 have hx:=zab (h.ev x) (fun p hp=>hn p (by simp [hp]))
 have hbd:l.length≤140737488355328:=hn _ (by simp)
 have hsz:(zc3 l).size≤140737488355328:=by rw [zhn];omega
 refine ⟨.string (zc3 l),?_,rfl,hsz⟩
 rcases zmw h hl hx with ⟨rfl,ad,c,hv⟩ | ⟨b,off,c,hv,hc⟩
 ·cases ad with
  | none=>
   rw [show zc3 []=ByteArray.empty from rfl]
   simp only [execOp,ho,hv,Sem.run_bind,run_convert_bytes_string w src dst e _ _ _ (zao he) hu8 hd,Conv.bytesToString,Sem.run_pure,Result.andThen]
  | some ad=>
   have h1:=run_bytesToString (P:=P) w ad 0 c [] (by have:=run_loadCells (P:=P) (w:=w) ad 0 (fun _=>undef) (fun j hj=>absurd hj (Nat.not_lt_zero _));simpa using this)
   simp only [execOp,ho,hv,Sem.run_bind,run_convert_bytes_string w src dst e _ _ _ (zao he) hu8 hd,h1,Result.andThen,Sem.run_pure]
   rfl
 ·have h1:=run_bytesToString (P:=P) w ⟨b,off,none⟩ l.length c l (by
   have:=run_loadCells_list (P:=P) w ⟨b,off,none⟩ (l.map (Value.int .u8)) (fun j v hj=>by
    rw [List.getElem?_map] at hj
    have hlt:j<l.length:=by
     rcases Nat.lt_or_ge j l.length with h | h
     ·exact h
     ·rw [List.getElem?_eq_none h] at hj;cases hj
    rw [List.getElem?_eq_getElem hlt] at hj
    simp only [Option.map_some,Option.some.injEq] at hj
    subst hj
    have:=hc j hlt
    have e3:(⟨b,off,none⟩:Addr).add j=⟨b,off+j,none⟩:=by
     cases j with
     | zero=>rfl
     | succ j=>rfl
    rw [e3,this]
    simp [List.getD,hlt])
   simpa using this)
  rw [zei] at h1
  simp only [execOp,ho,hv,Sem.run_bind,run_convert_bytes_string w src dst e _ _ _ (zao he) hu8 hd,h1,Result.andThen,Sem.run_pure]
def cS2B (P:Program) (st:St) (c:Nat) (src dst:TypeId) (x:Operand):Option Upd:=
 match P.underlying src,zbe P dst with
 | some .string,some e=>match P.underlying e,zag (st.ev x) with
  | some (.int .u8),(.str s,n)=>if st.free c then some ⟨n++[s.size≤140737488355328],.sl [c] (.rBytes (bytesOf s)),[(c,.dead)]⟩ else none
  | _,_=>none
 | _,_=>none
theorem znp (o:Oper) (c:Nat) (src dst:TypeId) (x:Operand) (ho:o.op = .convert src dst x) {u:Upd} (hu:cS2B P st c src dst x=some u):Does P base X w0 st o u:=by
 unfold cS2B at hu
 split at hu
 case h_2=>simp at hu
 rename_i e hsrc he
 split at hu
 case h_2=>simp at hu
 rename_i s n hu8 e2
 split at hu
 case isFalse=>simp at hu
 rename_i hfree
 simp only [Option.some.injEq] at hu
 subst hu
 intro E a w K Q h hn hK
 have hx:=zab (h.ev x) (fun p hp=>hn p (by rw [e2] at hp;simp [hp]))
 rw [e2] at hx
 obtain ⟨hx,_⟩:=hx
 have hbd:s.size≤140737488355328:=hn _ (by simp)
 have hB:Below w.heap.size w (Lib.bytesWorld w e s):=⟨rfl,rfl,rfl,by rw [Lib.bytesWorld_size];omega,fun j hj=>Lib.bytesWorld_at_old w e s j hj⟩
 obtain ⟨E',g1,g2,g3,g4⟩:=h.mem.lay (St.of_free hfree) hB
 have hrun:=Lib.run_convert_string_bytes (P:=P) w src dst e s hsrc (zao he) hu8
 have hcap:=grownCap_ge w s.size 0 e
 have hcap2:=grownCap_le_maxLen w s.size 0 e (by unfold maxLen;omega)
 refine zaM (v:= .slice (some ⟨w.heap.size,0,none⟩) s.size (grownCap w s.size 0 e)) (w':=Lib.bytesWorld w e s) ?_ (hK E' _ _ g1 g3 ?_ (by rw [zbw];exact g4))
 ·simp only [execOp,ho,hx,Sem.run_bind,hrun,Result.andThen,Sem.run_pure]
 ·show Rd _ (E'.set [c]) (.sl [.int .u8]) _ (.sl (ints (bytesOf s)))
  have hlt:w.heap.size<(Lib.bytesWorld w e s).heap.size:=by rw [Lib.bytesWorld_size];omega
  by_cases h0:s.size=0
  ·rw [h0]
   have:bytesOf s=[]:=List.eq_nil_of_length_eq_zero (by rw [zbL];exact h0)
   rw [this]
   rw [h0] at hcap2
   exact .emp (fun e=>by cases e) hcap2
  ·have hn2:=Lib.bytesWorld_at_new w e s
   have hbs:(Lib.bytesCells w e s).size=s.size+(grownCap w s.size 0 e-s.size):=by simp [Lib.bytesCells]
   refine .row (fun i _=> .int .u8 ((s.data.toList.getD i 0).toNat:Int)) (by omega) (by rw [zay,zbL]) hcap hcap2 hbd ⟨c,by simp,g2 _ (Nat.le_refl _) hlt⟩ hlt (fun i j hi hj=>?_) (fun i hi=>?_) (fun i j hi hj=>?_) (fun i j hi hj=>?_)
   ·have:j=0:=by simpa using hj
    subst this
    have:=Lib.bytesWorld_cell w e s i hi
    simpa using this
   ·have:i<(bytesOf s).length:=by rw [zbL];exact hi
    simp [ints,List.getD,this]
   ·have:j=0:=by simpa using hj
    subst this
    have hi2:i<s.data.toList.length:=by simpa using hi
    have e1:(ints (bytesOf s)).getD i []=[.int ((s.data.toList.getD i 0).toNat:Int)]:=by
     have hi3:i<s.data.size:=by simpa using hi2
     have hg:s.data[i]? = some s.data[i]:=Array.getElem?_eq_getElem hi3
     simp [ints,bytesOf,List.getD,hg]
    rw [e1]
    exact .int (zl2 (by have:=(s.data.toList.getD i 0).toNat_lt;omega))
   ·have:j=0:=by simpa using hj
    subst this
    simp [World.frozen?,hn2]
    omega
end ops
end Go.Proofs.Ytfccndnnpkiajaa
namespace Go.Proofs.Ytfccndnnpkiajaa
open Go.RowKit Go.ChangeShapes Go.WideShapes Go.Deep
theorem zbj:∀ (l:List File) (n:ByteArray),-1≤zaj l n∧zaj l n<l.length
 | [],_=>⟨Int.le_refl _,by show (-1:Int)<0;decide⟩
 | x::l,n=>by
  have h:=zbj l n
  simp only [zaj,List.length_cons]
  split
  ·omega
  ·split<;>omega
theorem zf9:∀ {l:List File} {n:ByteArray} {j:Nat},j<l.length→(∀ i,i<j→eqN (l.getD i default).name n=false)→eqN (l.getD j default).name n=true→zaj l n=j
 | x::l,n,0,_,_,h=>by
  have h:eqN x.name n=true:=h
  simp [zaj,h]
 | x::l,n,j+1,hj,h0,h=>by
  have hx:eqN x.name n=false:=h0 0 (by omega)
  have:=zf9 (l:=l) (n:=n) (j:=j) (by simpa using hj) (fun i hi=>by simpa using h0 (i+1) (by omega)) (by simpa using h)
  simp only [zaj,hx,this]
  split
  ·simp at *
  ·split<;>omega
theorem zeq:∀ {l:List File} {n:ByteArray},(∀ i,i<l.length→eqN (l.getD i default).name n=false)→zaj l n = -1
 | [],n,_=>rfl
 | x::l,n,h=>by
  have hx:eqN x.name n=false:=h 0 (by simp)
  have:=zeq (l:=l) (n:=n) (fun i hi=>by simpa using h (i+1) (by simpa using hi))
  simp [zaj,hx,this]
theorem zaK (old:List Int) (n:Nat) (b:List Int):(zaB old n b).length=max old.length (n+b.length):=by
 simp only [zaB,List.length_append,List.length_map,List.length_range,List.length_drop]
 omega
theorem zcO {α:Type} {l:List α} {j:Nat} {d:α} (h:j<l.length):l.drop j=l.getD j d::l.drop (j+1):=by
 rw [List.drop_eq_getElem_cons h]
 simp [List.getD,h]
theorem zl7 {b:Bool} {x f:File} (h:zac (!b) (zb3 f.name x.name||f.name.toList==x.name.toList) false=true):b=false∧leN f.name x.name=true:=by
 cases b
 ·exact ⟨rfl,h⟩
 ·cases h
theorem zeo {x n:ByteArray} (h:eqN x n=true):leN n x=true:=by
 have:x.toList=n.toList:=eq_of_beq h
 unfold leN
 rw [this]
 simp
theorem zix {x f:File} {out r:List File} (hle:leN f.name x.name=true) (h:(!(x.name.toList==f.name.toList))=true) :
  (out++[f]++[x])++(if true=true then za6 r f.name else zap f r)=out++(if false=true then za6 (x::r) f.name else zap f (x::r)):=by
 rw [if_pos rfl,if_neg (by decide)]
 unfold zap za6
 rw [if_pos hle,List.filter_cons,if_pos (show (!eqN x.name f.name)=true from h)]
 simp
theorem ziw {x f:File} {out r:List File} (hle:leN f.name x.name=true) (h:(!(x.name.toList==f.name.toList))=false) :
  (out++[f])++(if true=true then za6 r f.name else zap f r)=out++(if false=true then za6 (x::r) f.name else zap f (x::r)):=by
 rw [if_pos rfl,if_neg (by decide)]
 unfold zap za6
 rw [if_pos hle,List.filter_cons,if_neg (show ¬ (!eqN x.name f.name)=true from by rw [show (!eqN x.name f.name)=false from h];decide)]
 simp
theorem ziv {b:Bool} {x f:File} {out r:List File} (hle:zac (!b) (zb3 f.name x.name||f.name.toList==x.name.toList) false=false) (h:(!(x.name.toList==f.name.toList))=true) :
  (out++[x])++(if b=true then za6 r f.name else zap f r)=out++(if b=true then za6 (x::r) f.name else zap f (x::r)):=by
 cases b
 ·rw [if_neg (by decide),if_neg (by decide)]
  have hle:leN f.name x.name=false:=hle
  conv=>rhs;unfold zap
  rw [if_neg (by rw [hle];decide)]
  simp
 ·rw [if_pos rfl,if_pos rfl]
  unfold za6
  rw [List.filter_cons,if_pos (show (!eqN x.name f.name)=true from h)]
  simp
theorem ziu {b:Bool} {x f:File} (hle:zac (!b) (zb3 f.name x.name||f.name.toList==x.name.toList) false=false) (h:(!(x.name.toList==f.name.toList))=false):b=true:=by
 cases b
 ·have h1:leN f.name x.name=false:=hle
  have h2:eqN x.name f.name=true:=by
   have:(!eqN x.name f.name)=false:=h
   simpa using this
  rw [zeo h2] at h1
  cases h1
 ·rfl
theorem zit {x f:File} {out r:List File} (h:(!(x.name.toList==f.name.toList))=false) :
  out++(if true=true then za6 r f.name else zap f r)=out++(if true=true then za6 (x::r) f.name else zap f (x::r)):=by
 rw [if_pos rfl,if_pos rfl]
 unfold za6
 rw [List.filter_cons,if_neg (show ¬ (!eqN x.name f.name)=true from by rw [show (!eqN x.name f.name)=false from h];decide)]
theorem zhI {x:File} {n:ByteArray} {out r:List File} (h:(!(x.name.toList==n.toList))=true):(out++[x])++za6 r n=out++za6 (x::r) n:=by
 unfold za6
 rw [List.filter_cons,if_pos (show (!eqN x.name n)=true from h)]
 simp
theorem zhH {x:File} {n:ByteArray} {out r:List File} (h:(!(x.name.toList==n.toList))=false):out++za6 r n=out++za6 (x::r) n:=by
 unfold za6
 rw [List.filter_cons,if_neg (show ¬ (!eqN x.name n)=true from by rw [show (!eqN x.name n)=false from h];decide)]
theorem zkw {l:List Int} {j:Nat}:zbc (decide ((j:Int)<(l.length:Int))) (l.getD j 0) 0=l.getD j 0:=by
 by_cases h:j<l.length
 ·rw [decide_eq_true (by omega)];rfl
 ·rw [decide_eq_false (by omega),List.getD_eq_getElem?_getD,List.getElem?_eq_none (by omega)];rfl
theorem zbz {a b:Bool} (h:zac a true b=false):a=false∧b=false:=by cases a<;>simp_all [zac]
theorem zbU {a b:Bool} (h:zac a true b=true):a=true∨b=true:=by cases a<;>simp_all [zac]
theorem zda {a b:Bool} (h:zac a b false=true):a=true∧b=true:=by cases a<;>simp_all [zac]
theorem zcs {j n:Nat} (h:j<n):n-(j+1)<n-j:=by omega
def ChOk (l:List File) (c:DChange):Prop:=l.length≤10000∧0≤c.at_∧c.at_≤10000000∧c.bytes.length≤10000000∧(zaf l c.file).length≤100000000
def nmB (c:Int):Bool:=(decide (97≤c)&&decide (c≤122))||(decide (48≤c)&&decide (c≤57))||c==95
def zaT (s:ByteArray):Bool:=decide (1≤s.size)&&decide (s.size≤16)&&(decide (97≤sGet s 0)&&decide (sGet s 0≤122))&&(List.range s.size).all fun i=>nmB (sGet s i)
def zbh (d:RDisk):RDisk:={d with left:=if d.stops then IntKind.i64.wrap (d.left-1) else d.left,down:=if d.stops then decide (IntKind.i64.wrap (d.left-1)≤0) else d.down}
def chgD (d:RDisk) (c:DChange):RDisk:=zbh {d with changes:=d.changes++[c]}
def sumF (l:List File):Int:=l.foldl (fun s x=>s+x.bytes.length) 0
def wrD (d:RDisk) (file:ByteArray) (at_:Int) (b:List Int):RDisk×Int:=
 if d.down then (d,120) else if zaT file=false then (d,122)
 else if at_<0∨at_>(zaf (zaa d) file).length then (d,123)
 else if sumF (zad (zaa d) ⟨1,file,at_,b⟩)>d.room∨((zad (zaa d) ⟨1,file,at_,b⟩).length:Int)>16 then (d,121)
 else (chgD d ⟨1,file,at_,b⟩,0)
def cutD (d:RDisk) (file:ByteArray) (n:Int):RDisk×Int:=
 if d.down then (d,120) else if zaj (zaa d) file<0 then (d,122)
 else if n<0∨n>(zaf (zaa d) file).length then (d,123)
 else (chgD d ⟨2,file,n,[]⟩,0)
def rmD (d:RDisk) (file:ByteArray):RDisk×Int:=
 if d.down then (d,120) else if zaj (zaa d) file<0 then (d,122) else (chgD d ⟨3,file,0,[]⟩,0)
def ofF (file:ByteArray) (c:DChange):Bool:=eqN c.file file
def syD (d:RDisk) (file:ByteArray):RDisk×Int:=
 if d.down then (d,120) else if zaT file=false then (d,122)
 else (zbh {d with lasts:=(d.changes.filter (ofF file)).foldl zad d.lasts,changes:=d.changes.filter (fun c=>!ofF file c)},0)
def zaw (d:RDisk) (file:ByteArray):List Int×Int:=if zaj (zaa d) file<0 then ([],122) else (zaf (zaa d) file,0)
def zal (d:RDisk):List ByteArray:=(zaa d).map (·.name)
def zby (d:RDisk) (n:Int):RDisk×Int:=
 if d.down then (d,120) else if n<0∨n>1000000000 then (d,1) else ({d with stops:=true,left:=n,down:=n==0},0)
def za8:List DChange→List Bool→List DChange
 | c::cs,b::bs=>if b then c::za8 cs bs else za8 cs bs
 | _,_=>[]
def zbF (c:DChange) (torn:Int):Option DChange:=
 if c.kind=1∧0≤torn∧torn<c.bytes.length then (if torn=0 then none else some {c with bytes:=c.bytes.take torn.toNat}) else some c
def zcQ (torn:Int):List DChange→List File→List File
 | [],l=>l
 | [c],l=>match zbF c torn with
  | some c=>zad l c
  | none=>l
 | c::cs,l=>zcQ torn cs (zad l c)
def crD (d:RDisk) (keep:List Bool) (torn:Int):RDisk:={d with lasts:=zcQ torn (za8 d.changes keep) d.lasts,changes:=[],down:=false,stops:=false}
def zaA (b:List Int) (at_:Nat) (y:Int):List Int:=b.set at_ (xorI .u8 (b.getD at_ 0) y)
def spC (file:ByteArray) (at_ y:Int) (c:DChange):DChange:=if c.kind=1∧eqN c.file file=true∧at_≥c.at_∧at_-c.at_<c.bytes.length then {c with bytes:=zaA c.bytes (at_-c.at_).toNat y} else c
def spD (d:RDisk) (file:ByteArray) (at_ y:Int):RDisk×Int:=
 if zaj (zaa d) file<0 then (d,122) else if at_<0∨at_≥(zaf (zaa d) file).length then (d,123)
 else ({d with lasts:=if 0≤zaj d.lasts file∧at_<(zaf d.lasts file).length then zap ⟨file,zaA (zaf d.lasts file) at_.toNat y⟩ d.lasts else d.lasts,changes:=d.changes.map (spC file at_ y)},0)
theorem zbs (f:File):∀ l:List File,(zap f l).length≤l.length+1
 | []=>Nat.le_refl _
 | x::l=>by
  unfold zap
  split
  ·have:=List.length_filter_le (fun y=>!eqN y.name f.name) (x::l)
   simp only [List.length_cons] at this ⊢
   omega
  ·have:=zbs f l
   simp only [List.length_cons]
   omega
theorem zaL {f:File}:∀ {l:List File} {x:File},x∈zap f l→x=f∨x∈l
 | [],x,h=>by
  rw [show zap f []=[f] from rfl,List.mem_singleton] at h
  exact .inl h
 | y::l,x,h=>by
  unfold zap at h
  split at h
  ·rcases List.mem_cons.1 h with e | h
   ·exact .inl e
   ·exact .inr (List.mem_filter.1 h).1
  ·rcases List.mem_cons.1 h with e | h
   ·exact .inr (e▸List.mem_cons_self ..)
   ·exact (zaL h).imp id (List.mem_cons_of_mem _)
theorem zia (l:List File) (x:File):sumF (l++[x])=sumF l+x.bytes.length:=by
 unfold sumF
 rw [List.foldl_append]
 rfl
theorem zic {M:Nat} (l:List File):(∀ x∈l,x.bytes.length≤M)→0≤sumF l∧sumF l≤((l.length*M:Nat):Int):=by
 have key:∀ (l:List File) (a:Int),(∀ x∈l,x.bytes.length≤M)→0≤a→a≤l.foldl (fun (s:Int) x=>s+((x.bytes.length:Nat):Int)) a∧l.foldl (fun (s:Int) x=>s+((x.bytes.length:Nat):Int)) a≤a+((l.length*M:Nat):Int):=by
  intro l
  induction l with
  | nil=>intro a _ _;simp
  | cons x l ih=>
   intro a h ha
   have h1:=h x (List.mem_cons_self ..)
   obtain ⟨g1,g2⟩:=ih (a+((x.bytes.length:Nat):Int)) (fun y hy=>h y (List.mem_cons_of_mem _ hy)) (by omega)
   rw [List.foldl_cons,List.length_cons,Nat.succ_mul]
   omega
 intro h
 have:=key l 0 h (Int.le_refl 0)
 unfold sumF
 omega
def zau (keep:List Bool):Nat→Int
 | 0=> -1
 | j+1=>if keep.getD j false then (j:Int) else zau keep j
theorem zd1 (keep:List Bool):∀ j,-1≤zau keep j∧zau keep j<j
 | 0=>⟨Int.le_refl _,by show (-1:Int)<0;decide⟩
 | j+1=>by
  have:=zd1 keep j
  unfold zau
  split<;>omega
theorem zdP {keep:List Bool}:∀ {j k:Nat},zau keep j=k→keep.getD k false=true∧k<j∧∀ i,k<i→i<j→keep.getD i false=false
 | 0,k,h=>by
  have:(-1:Int)=k:=h
  omega
 | j+1,k,h=>by
  unfold zau at h
  split at h
  ·rename_i hk
   have:j=k:=by omega
   subst this
   exact ⟨hk,Nat.lt_succ_self _,fun i h1 h2=>by omega⟩
  ·rename_i hk
   obtain ⟨h1,h2,h3⟩:=zdP h
   refine ⟨h1,by omega,fun i g1 g2=>?_⟩
   by_cases e:i=j
   ·subst e;simpa using hk
   ·exact h3 i g1 (by omega)
theorem zgL {keep:List Bool}:∀ {j:Nat},zau keep j = -1→∀ i,i<j→keep.getD i false=false
 | j+1,h,i,hi=>by
  unfold zau at h
  split at h
  ·omega
  ·rename_i hk
   by_cases e:i=j
   ·subst e;simpa using hk
   ·exact zgL h i (by omega)
theorem zbl:∀ (cs:List DChange) (keep:List Bool) (j:Nat),j<cs.length→za8 (cs.take (j+1)) keep=if keep.getD j false then za8 (cs.take j) keep++[cs.getD j default] else za8 (cs.take j) keep
 | c::cs,[],j,hj=>by
  have e1:∀ l:List DChange,za8 l []=[]:=fun l=>by cases l<;>rfl
  simp [e1,List.getD]
 | c::cs,b::bs,0,hj=>by
  have e1:∀ l:List Bool,za8 [] l=[]:=fun l=>by cases l<;>rfl
  cases b<;>simp [za8,e1,List.getD]
 | c::cs,b::bs,j+1,hj=>by
  have ih:=zbl cs bs j (by simpa using hj)
  simp only [List.take_succ_cons,za8,List.getD_cons_succ]
  rw [ih]
  generalize bs.getD j false=v
  cases v<;>cases b<;>rfl
 | [],_,_,hj=>by simp at hj
theorem zcg (cs:List DChange) (keep:List Bool) {a:Nat}:∀ (k:Nat),a+k≤cs.length→(∀ i,a≤i→i<a+k→keep.getD i false=false)→za8 (cs.take (a+k)) keep=za8 (cs.take a) keep
 | 0,_,_=>rfl
 | k+1,h,hk=>by
  rw [show a+(k+1)=a+k+1 by omega,zbl cs keep (a+k) (by omega),hk (a+k) (by omega) (by omega),zcg cs keep k (by omega) fun i h1 h2=>hk i h1 (by omega)]
  rfl
theorem zf2 (cs:List DChange) (keep:List Bool) {n:Nat} (hn:n=min cs.length keep.length):za8 cs keep=za8 (cs.take n) keep:=by
 by_cases h:cs.length≤n
 ·rw [List.take_of_length_le h]
 ·have e:cs=cs.take (n+(cs.length-n)):=by rw [show n+(cs.length-n)=cs.length by omega,List.take_length]
  conv=>lhs;rw [e]
  refine zcg cs keep _ (by omega) fun i h1 h2=>?_
  have:keep.length≤i:=by omega
  rw [List.getD_eq_getElem?_getD,List.getElem?_eq_none this];rfl
theorem zdQ:∀ (cs:List DChange) (keep:List Bool),(za8 cs keep).Sublist cs
 | [],_=>by cases ‹List Bool› <;> exact List.Sublist.refl _
 | c::cs,[]=>List.nil_sublist _
 | c::cs,b::bs=>by
  unfold za8
  split
  ·exact List.Sublist.cons_cons _ (zdQ cs bs)
  ·exact (zdQ cs bs).cons _
theorem zdY (torn:Int):∀ (ks:List DChange) (c:DChange) (l:List File),zcQ torn (ks++[c]) l=match zbF c torn with
  | some c=>zad (ks.foldl zad l) c
  | none=>ks.foldl zad l
 | [],c,l=>rfl
 | k::ks,c,l=>by
  have ih:=zdY torn ks c (zad l k)
  cases ks with
  | nil=>exact ih
  | cons a b=>exact ih
theorem eqN_iff {x y:ByteArray}:eqN x y=true↔x=y:=by
 unfold eqN
 rw [beq_iff_eq,Lib.toList_data,Lib.toList_data]
 constructor
 ·intro h
  cases x;cases y
  simp only [ByteArray.mk.injEq]
  exact Array.toList_inj.1 h
 ·rintro rfl;rfl
theorem za7 (x:ByteArray):eqN x x=true:=eqN_iff.2 rfl
theorem eqN_no {x y:ByteArray}:eqN x y=false↔x≠y:=by
 rw [← Bool.not_eq_true,eqN_iff]
theorem sLess_iff {x y:ByteArray}:zb3 x y=true↔x.toList<y.toList:=by
 unfold zb3
 rw [bytesLess_eq,decide_eq_true_iff]
theorem zdF (x:ByteArray):zb3 x x=false:=by
 rw [← Bool.not_eq_true,sLess_iff]
 exact List.lt_irrefl _
theorem zg9 {x y z:ByteArray} (h:zb3 x y=true) (h':zb3 y z=true):zb3 x z=true:=sLess_iff.2 (List.lt_trans (sLess_iff.1 h) (sLess_iff.1 h'))
theorem zbG {x y:ByteArray} (h:zb3 x y=true):x≠y:=fun e=>by rw [e,zdF] at h;cases h
theorem zc5 {x y:ByteArray} (h:leN x y=false):zb3 y x=true:=by
 unfold leN at h
 simp only [Bool.or_eq_false_iff] at h
 have h2:x≠y:=eqN_no.1 h.2
 have h1:¬ x.toList<y.toList:=fun e=>by rw [sLess_iff.2 e] at h;cases h.1
 refine sLess_iff.2 ?_
 have h3:y.toList≤x.toList:=List.not_lt.1 h1
 rcases List.le_iff_lt_or_eq.1 h3 with h4 | h4
 ·exact h4
 ·exact absurd (eqN_iff.1 (by unfold eqN;rw [h4];exact beq_self_eq_true _)) h2
theorem zf0 {x y:ByteArray} (h:leN x y=true):zb3 x y=true∨x=y:=by
 unfold leN at h
 rw [Bool.or_eq_true] at h
 exact h.imp id fun e=>eqN_iff.1 e
theorem zaE:∀ (l:List File) (n:ByteArray),(zaj l n<0↔zae l n=none)∧(0≤zaj l n→(l.getD (zaj l n).toNat default).bytes=(zae l n).getD [])
 | [],n=>⟨⟨fun _=>rfl,fun _=>by show (-1:Int)<0;decide⟩,fun h=>absurd (show (0:Int) ≤ -1 from h) (by decide)⟩
 | x::l,n=>by
  have ih:=zaE l n
  have hb:=zbj l n
  unfold zaj zae
  split
  ·exact ⟨⟨fun h=>absurd h (by decide),fun h=>by cases h⟩,fun _=>rfl⟩
  ·split
   ·rename_i h
    exact ⟨⟨fun _=>ih.1.1 (by omega),fun _=>by decide⟩,fun h=>absurd h (by decide)⟩
   ·rename_i h
    refine ⟨⟨fun g=>by omega,fun g=>?_⟩,fun _=>?_⟩
    ·have:=ih.1.2 g
     omega
    ·have h0:0≤zaj l n:=by omega
     rw [← ih.2 h0]
     have:(zaj l n+1).toNat=(zaj l n).toNat+1:=by omega
     rw [this]
     rfl
theorem za0 (l:List File) (n:ByteArray):zaf l n=(zae l n).getD []:=by
 unfold zaf
 split
 ·rename_i h
  rw [(zaE l n).1.1 h];rfl
 ·rename_i h
  exact (zaE l n).2 (by omega)
theorem zb9:∀ {l:List File} {n:ByteArray} {b:List Int},zae l n=some b→⟨n,b⟩∈l
 | x::l,n,b,h=>by
  unfold zae at h
  split at h
  ·rename_i e
   have:=eqN_iff.1 e
   subst this
   simp only [Option.some.injEq] at h
   subst h
   exact List.mem_cons_self ..
  ·exact List.mem_cons_of_mem _ (zb9 h)
theorem SortF.look {l:List File} (h:SortF l) {x:File} (hx:x∈l):zae l x.name=some x.bytes:=by
 induction l with
 | nil=>cases hx
 | cons y l ih=>
  unfold zae
  rcases List.mem_cons.1 hx with e | hx
  ·subst e
   rw [if_pos (za7 _)]
  ·have h1:=(List.pairwise_cons.1 h).1 x hx
   rw [if_neg (by rw [Bool.not_eq_true];exact eqN_no.2 (zbG h1))]
   exact ih (List.pairwise_cons.1 h).2 hx
theorem zdl (l:List File) (n m:ByteArray):zae (l.filter fun y=>!eqN y.name n) m=if eqN n m then none else zae l m:=by
 induction l with
 | nil=>simp [zae]
 | cons x l ih=>
  rw [List.filter_cons]
  cases h:eqN x.name n
  ·simp only [Bool.not_false,if_true]
   unfold zae
   rw [ih]
   cases h2:eqN x.name m
   ·simp
   ·have:eqN n m=false:=eqN_no.2 fun e=>by
     have:=eqN_iff.1 h2
     rw [e,← this,za7] at h
     cases h
    rw [this];simp
  ·simp only [Bool.not_true,Bool.false_eq_true,if_false]
   rw [ih]
   conv=>rhs;unfold zae
   have e:=eqN_iff.1 h
   rw [e]
   cases eqN n m<;>simp
theorem zen (l:List File) (n m:ByteArray):zae (za6 l n) m=if eqN n m then none else zae l m:=zdl l n m
theorem zb8 (f:File):∀ (l:List File) (m:ByteArray),zae (zap f l) m=if eqN f.name m then some f.bytes else zae l m
 | [],m=>rfl
 | x::l,m=>by
  unfold zap
  split
  ·rename_i h
   show (if eqN f.name m then some f.bytes else zae ((x::l).filter fun y=>!eqN y.name f.name) m)=_
   rw [zdl]
   cases eqN f.name m<;>simp
  ·rename_i h
   show (if eqN x.name m then some x.bytes else zae (zap f l) m)=_
   rw [zb8 f l m]
   conv=>rhs;unfold zae
   cases h2:eqN x.name m
   ·simp
   ·have:eqN f.name m=false:=eqN_no.2 fun e=>by
     have:=eqN_iff.1 h2
     rw [Bool.not_eq_true] at h
     have h3:=zbG (zc5 h)
     exact h3 (this.trans e.symm)
    rw [this];simp
theorem SortF.drop {l:List File} (h:SortF l) (n:ByteArray):SortF (za6 l n):=List.Pairwise.filter _ h
theorem SortF.put {l:List File} (f:File) (h:SortF l):SortF (zap f l):=by
 induction l with
 | nil=>exact List.pairwise_singleton _ _
 | cons x l ih=>
  obtain ⟨h1,h2⟩:=List.pairwise_cons.1 h
  unfold zap
  split
  ·rename_i hle
   refine List.pairwise_cons.2 ⟨fun y hy=>?_,List.Pairwise.filter _ h⟩
   obtain ⟨hy1,hy2⟩:=List.mem_filter.1 hy
   have hne:y.name≠f.name:=eqN_no.1 (by simpa using hy2)
   rcases List.mem_cons.1 hy1 with e | hy1
   ·subst e
    rcases zf0 hle with h | h
    ·exact h
    ·exact absurd h.symm hne
   ·have:=h1 y hy1
    rcases zf0 hle with h | h
    ·exact zg9 h this
    ·rw [h];exact this
  ·rename_i hle
   rw [Bool.not_eq_true] at hle
   refine List.pairwise_cons.2 ⟨fun y hy=>?_,ih h2⟩
   rcases zaL hy with e | hy
   ·subst e;exact zc5 hle
   ·exact h1 y hy
theorem SortF.drop_len {l:List File} (h:SortF l) (n:ByteArray):(za6 l n).length=if (zae l n).isSome then l.length-1 else l.length:=by
 induction l with
 | nil=>rfl
 | cons x l ih=>
  obtain ⟨h1,h2⟩:=List.pairwise_cons.1 h
  have ih:=ih h2
  unfold za6 zae
  rw [List.filter_cons]
  cases e:eqN x.name n
  ·simp only [Bool.not_false,if_true,Bool.false_eq_true,if_false]
   unfold za6 at ih
   rw [List.length_cons,ih]
   split
   ·rename_i hs
    obtain ⟨b,hb⟩:=Option.isSome_iff_exists.1 hs
    have:=List.length_pos_of_mem (zb9 hb)
    rw [List.length_cons]
    omega
   ·rfl
  ·simp only [Bool.not_true,Bool.false_eq_true,if_false,if_true,Option.isSome_some,List.length_cons]
   have hx:=eqN_iff.1 e
   rw [List.filter_eq_self.2 fun y hy=>by
    have:=zbG (h1 y hy)
    rw [hx] at this
    simp [eqN_no.2 (Ne.symm this)]]
   omega
theorem SortF.put_len {l:List File} (f:File) (h:SortF l):(zap f l).length=if (zae l f.name).isSome then l.length else l.length+1:=by
 induction l with
 | nil=>rfl
 | cons x l ih=>
  obtain ⟨h1,h2⟩:=List.pairwise_cons.1 h
  have ih:=ih h2
  unfold zap
  split
  ·rename_i hle
   have:=h.drop_len f.name
   unfold za6 at this
   rw [List.length_cons,this]
   split
   ·rw [List.length_cons];omega
   ·rfl
  ·rename_i hle
   rw [Bool.not_eq_true] at hle
   have hne:=zbG (zc5 hle)
   have e:zae (x::l) f.name=zae l f.name:=by
    conv=>lhs;unfold zae
    rw [if_neg (by rw [Bool.not_eq_true];exact eqN_no.2 hne)]
   rw [e,List.length_cons,ih]
   split<;>simp
theorem SortF.ext:∀ {l l':List File},SortF l→SortF l'→(∀ n,zae l n=zae l' n)→l=l'
 | [],[],_,_,_=>rfl
 | [],y::l',_,_,h=>by
  have:=h y.name
  unfold zae at this
  rw [if_pos (za7 _)] at this
  cases this
 | x::l,[],_,_,h=>by
  have:=h x.name
  unfold zae at this
  rw [if_pos (za7 _)] at this
  cases this
 | x::l,y::l',hl,hl',h=>by
  obtain ⟨a1,a2⟩:=List.pairwise_cons.1 hl
  obtain ⟨b1,b2⟩:=List.pairwise_cons.1 hl'
  have hx:zae (y::l') x.name=some x.bytes:=by rw [← h];exact hl.look (List.mem_cons_self ..)
  have hy:zae (x::l) y.name=some y.bytes:=by rw [h];exact hl'.look (List.mem_cons_self ..)
  have e:x.name=y.name:=by
   rcases List.mem_cons.1 (zb9 hx) with e1 | e1
   ·rw [← e1]
   ·rcases List.mem_cons.1 (zb9 hy) with e2 | e2
    ·rw [← e2]
    ·have c1:=b1 _ e1
     have c2:=a1 _ e2
     exact absurd (zg9 c1 c2) (by rw [zdF];decide)
  have e2:x=y:=by
   have:x.bytes=y.bytes:=by
    unfold zae at hx
    rw [if_pos (by rw [e];exact za7 _)] at hx
    exact (Option.some.inj hx).symm
   cases x;cases y
   simp only at e this
   rw [e,this]
  subst e2
  rw [SortF.ext a2 b2 fun n=>?_]
  have h3:=h n
  unfold zae at h3
  cases h4:eqN x.name n
  ·rw [h4] at h3
   simpa using h3
  ·have h5:=eqN_iff.1 h4
   have no:∀ {k:List File},(∀ z∈k,zb3 x.name z.name=true)→zae k n=none:=fun {k} hk=>by
    cases e:zae k n with
    | none=>rfl
    | some b=>
     have:=hk _ (zb9 e)
     rw [h5,zdF] at this
     cases this
   rw [no a1,no b1]
def zcP (c:DChange) (o:Option (List Int)):Option (List Int):=
 if c.kind=1 then some (zaB (o.getD []) c.at_.toNat c.bytes) else if c.kind=2 then (if ((o.getD []).length:Int)≤c.at_ then o else o.map fun b=>b.take c.at_.toNat) else none
theorem zbA (l:List File) (c:DChange) (m:ByteArray):zae (zad l c) m=if eqN c.file m then zcP c (zae l c.file) else zae l m:=by
 unfold zad zcP
 split
 ·rw [zb8,za0]
 ·split
  ·rw [za0]
   have h1:=(zaE l c.file).1
   split
   ·rename_i h
    cases e:eqN c.file m
    ·simp
    ·have:=eqN_iff.1 e
     subst this
     simp only [if_true]
     rcases h with h | h
     ·rw [h1.1 h];split<;>rfl
     ·rw [if_pos h]
   ·rename_i h
    have h2:¬ zaj l c.file<0∧¬ (((zae l c.file).getD []).length:Int)≤c.at_:=⟨fun g=>h (.inl g),fun g=>h (.inr g)⟩
    rw [zb8,if_neg h2.2]
    cases e:eqN c.file m
    ·simp
    ·simp only [if_true]
     cases e2:zae l c.file with
     | none=>exact absurd (h1.2 e2) h2.1
     | some b=>rfl
  ·rw [zen]
theorem SortF.done {l:List File} (h:SortF l) (c:DChange):SortF (zad l c):=by
 unfold zad
 split
 ·exact h.put _
 ·split
  ·split
   ·exact h
   ·exact h.put _
  ·exact h.drop _
theorem SortF.dones {l:List File} (h:SortF l) (cs:List DChange):SortF (cs.foldl zad l):=by
 induction cs generalizing l with
 | nil=>exact h
 | cons c cs ih=>exact ih (h.done c)
theorem zaV (cs:List DChange) (l:List File) (m:ByteArray):zae (cs.foldl zad l) m=(cs.filter (ofF m)).foldl (fun o c=>zcP c o) (zae l m):=by
 induction cs generalizing l with
 | nil=>rfl
 | cons c cs ih=>
  rw [List.foldl_cons,ih,zbA,List.filter_cons]
  unfold ofF
  cases e:eqN c.file m
  ·simp
  ·have:=eqN_iff.1 e
   subst this
   simp
theorem zcL {α:Type} (l:List α):l.filter (fun _=>false)=[]:=by
 induction l with
 | nil=>rfl
 | cons x l ih=>simp [List.filter_cons]
theorem zhm {l:List File} (h:SortF l) (cs:List DChange) (n:ByteArray):(cs.filter (fun c=>!ofF n c)).foldl zad ((cs.filter (ofF n)).foldl zad l)=cs.foldl zad l:=by
 refine SortF.ext ((h.dones _).dones _) (h.dones _) fun m=>?_
 rw [zaV,zaV,zaV,← List.foldl_append]
 congr 1
 rw [List.filter_filter,List.filter_filter]
 by_cases e:m=n
 ·subst e
  have e1:∀ c,(ofF m c&&!ofF m c)=false:=fun c=>by cases ofF m c<;>rfl
  simp only [e1,Bool.and_self,zcL,List.append_nil]
 ·have h1:∀ c,ofF m c=true→ofF n c=false:=fun c hc=>by
   have:=eqN_iff.1 hc
   exact eqN_no.2 fun e2=>e (this.symm.trans e2)
  have e1:∀ c,(ofF m c&&ofF n c)=false:=fun c=>by
   cases hc:ofF m c
   ·rfl
   ·rw [h1 c hc];rfl
  have e2:∀ c,(ofF m c&&!ofF n c)=ofF m c:=fun c=>by
   cases hc:ofF m c
   ·rfl
   ·rw [h1 c hc];rfl
  simp only [e1,e2,zcL,List.nil_append]
structure Turn (F:Nat→Prop) (w w':World):Prop where
 os:w'.os=w.os
 tape:w'.tape=w.tape
 output:w'.output=w.output
 size:w.heap.size≤w'.heap.size
 block:∀ b,b<w.heap.size→¬ F b→w'.heap[b]? = w.heap[b]?
theorem Turn.refl (F:Nat→Prop) (w:World):Turn F w w:=⟨rfl,rfl,rfl,Nat.le_refl _,fun _ _ _=>rfl⟩
theorem Turn.set {F:Nat→Prop} {w w':World} (h:Turn F w w') {p:Addr} (hp:F p.block∨w.heap.size≤p.block) (u:Value):Turn F w (w'.setCell p u):=
 ⟨h.os,h.tape,h.output,by have:=h.size;simpa [World.setCell] using this,fun k hk hn=>by
  rw [Below.heap_setCell w' p u k (fun e=>by
   subst e
   rcases hp with hp | hp
   ·exact hn hp
   ·omega)]
  exact h.block k hk hn⟩
theorem Turn.mono {F G:Nat→Prop} {w w':World} (h:Turn F w w') (hf:∀ x,F x→G x):Turn G w w':=⟨h.os,h.tape,h.output,h.size,fun b hb hn=>h.block b hb fun g=>hn (hf b g)⟩
theorem Turn.trans {F G:Nat→Prop} {w w' w'':World} (h:Turn F w w') (k:Turn G w' w'') (hg:∀ x,x<w.heap.size→G x→F x):Turn F w w'' :=
 ⟨k.os.trans h.os,k.tape.trans h.tape,k.output.trans h.output,Nat.le_trans h.size k.size,fun b hb hn=>(k.block b (Nat.lt_of_lt_of_le hb h.size) (fun g=>hn (hg b hb g))).trans (h.block b hb hn)⟩
theorem Turn.alloc {F:Nat→Prop} {w w':World} (h:Turn F w w') (o:Obj):Turn F w (w'.alloc o):=
 ⟨h.os,h.tape,h.output,by have:=h.size;simp;omega,fun b hb hn=>by rw [Below.heap_alloc _ _ _ (Nat.lt_of_lt_of_le hb h.size)];exact h.block b hb hn⟩
theorem Turn.below {F:Nat→Prop} {w w':World} (h:Below w.heap.size w w'):Turn F w w':=⟨h.os,h.tape,h.output,h.size,fun b hb _=>h.block b hb⟩
theorem Turn.grown {F:Nat→Prop} {w w':World} {row:Option Nat} (h:w.grownBy w' row) (hr:∀ x,row=some x→F x∨w.heap.size≤x):Turn F w w' :=
 ⟨h.os,h.tape,h.output,h.size,fun b hb hn=>h.block b hb fun e=>by
  rcases hr b e.symm with g | g
  ·exact hn g
  ·omega⟩
theorem Turn.same {F S:Nat→Prop} {w w':World} (h:Turn F w w') (hs:∀ x,S x→¬ F x):Same S w w':=⟨h.size,fun b hb hl=>h.block b hl (hs b hb)⟩
theorem Turn.keep {F:Nat→Prop} {w w':World} (h:Turn F w w') {b:Nat} {o:Obj} (hb:w.heap[b]? = some o) (hn:¬ F b):w'.heap[b]? = some o:=
 (h.block b (Array.getElem?_eq_some_iff.1 hb).1 hn).trans hb
theorem BRd.nil (w:World) (S:Nat→Prop):BRd w S (.slice none 0 0) []:= .emp (fun _=>rfl) (by simp [maxLen])
theorem BRd.shape {w:World} {S:Nat→Prop} {v:Value} {bs:List Int} (h:BRd w S v bs):∃ a c,v = .slice a bs.length c∧Sl w S [.int .u8] a bs.length c (ints bs):=by
 obtain ⟨a,c,e,h⟩:=h.sl'
 rw [zay] at e h
 exact ⟨a,c,e,h⟩
theorem zod {a b:ByteArray} (h:kS a=kS b):a=b:=by
 simp only [kS,Lit.string.injEq] at h
 cases a;cases b
 simp only [ByteArray.mk.injEq]
 exact Array.toList_inj.1 h
theorem zmL {a b:ByteArray} (h:a≠b):kS a≠kS b:=fun e=>h (zod e)
theorem ziL (s:ByteArray):WideAt.IsKeyLit (kS s):=by simp [kS,WideAt.IsKeyLit]
theorem undF:Try.prog.underlying TFi=some (.map TSt TBy):=by kernel_rfl
theorem keyS:Maps.Keyed Try.prog TSt:=Maps.string_keyed undS
theorem zkC {s:ByteArray} (h:NmOk s):keyOf Try.prog TSt (.string s)=some (kS s):=by
 have h:s.size≤maxLen:=by have h:s.size≤140737488355328:=h;unfold maxLen;omega
 simp [keyOf,undS,mapKey,h,kS]
theorem zlD {key:Value} {kl:Lit} (h:keyOf Try.prog TSt key=some kl):∃ s,key = .string s∧kl=kS s:=by
 simp only [keyOf,undS,mapKey] at h
 cases key<;>simp at h
 exact ⟨_,rfl,h.2.symm⟩
theorem znF (w:World):(zeroValue TBy).run Try.prog w = .ok (.slice none 0 0) w:=by kernel_rfl
theorem zfo {P:Program} {w:World} {k:TypeId} {R:Value→Option (DataW Value×List MemPlace)} {b n:Nat} {D:DataW Value} (h:w.ownsMap P k R b n D):w.ownsMap P k R b (Maps.size D) D:=by
 obtain ⟨es,clock,hb,F,hs,rfl⟩:=h
 refine ⟨es,clock,hb,F,?_,rfl⟩
 simp [Maps.size,length_sorted]
theorem FilesAt.made (w:World) (S:Nat→Prop):FilesAt (w.alloc (.map #[] 0)) S w.heap.size []:=
 ⟨.map [],World.ownsMap_made w Try.prog TSt RV,rfl,fun n=>⟨rfl,fun bs h=>by cases h⟩⟩
theorem FilesAt.look {w:World} {S:Nat→Prop} {mb:Nat} {M:List File} (h:FilesAt w S mb M) {n:ByteArray} (hn:NmOk n) :
  ∃ v,(Instr.lookup TFi (.map (some mb)) (.string n) true).run Try.prog w = .ok (.tuple #[v,.bool (zae M n).isSome]) w∧(Instr.lookup TFi (.map (some mb)) (.string n) false).run Try.prog w = .ok v w∧BRd w S v ((zae M n).getD []):=by
 obtain ⟨D,ho,hsz,hk⟩:=h.D
 obtain ⟨v,ps,r1,r2⟩:=ho.look_ok keyS undF (znF w) (zd:= .held (.slice none 0 0)) (zp:=[]) rfl (zkC hn)
 obtain ⟨v2,ps2,r3,r4⟩:=ho.lookup keyS undF (znF w) (zd:= .held (.slice none 0 0)) (zp:=[]) rfl (zkC hn)
 have e1:D.atKey (kS n) (.held (.slice none 0 0)) = .held v:=by
  unfold RV at r2
  simp only [Option.some.injEq,Prod.mk.injEq] at r2
  exact r2.1.symm
 have e2:v2=v:=by
  rw [e1] at r4
  unfold RV at r4
  simp only [Option.some.injEq,Prod.mk.injEq,DataW.held.injEq] at r4
  exact r4.1
 subst e2
 rw [(hk n).1] at r1
 refine ⟨v2,r1,r3,?_⟩
 cases e:zae M n with
 | none=>
  have e3:=Maps.atKey_of_not_has (D:=D) (k:=kS n) (by rw [(hk n).1,e];rfl) (.held (.slice none 0 0))
  rw [e1] at e3
  simp only [DataW.held.injEq] at e3
  rw [e3]
  exact BRd.nil _ _
 | some bs=>
  obtain ⟨u,g1,g2⟩:=(hk n).2 bs e
  have e3:=g1 (.held (.slice none 0 0))
  rw [e1] at e3
  simp only [DataW.held.injEq] at e3
  rw [e3]
  exact g2
theorem FilesAt.put {w:World} {S:Nat→Prop} {mb:Nat} {M:List File} (h:FilesAt w S mb M) (hM:SortF M) (hl:M.length≤100000) {n:ByteArray} (hn:NmOk n) {v:Value} {bs:List Int} (hv:BRd w S v bs) (hmb:¬ S mb) :
  ∃ w',(Instr.mapUpdate TFi (.map (some mb)) (.string n) v).run Try.prog w = .ok () w'∧FilesAt w' S mb (zap ⟨n,bs⟩ M)∧w.grownBy w' (some mb):=by
 obtain ⟨D,ho,hsz,hk⟩:=h.D
 have hD:=ho.tidy keyS
 obtain ⟨w',r1,r2,r3⟩:=ho.update keyS undF (by unfold maxLen;omega) (zkC hn) (show RV v=some (.held v,[]) from rfl)
 have hs:Same S w w':=Same.of_grown r3 fun b hb e=>by
  have:=Option.some.inj e
  exact hmb (this▸hb)
 have hsz2:Maps.size (D.put (kS n) (.held v))=(zap ⟨n,bs⟩ M).length:=by
  rw [Maps.size_put hD,(hk n).1,hM.put_len,hsz]
 refine ⟨w',r1,⟨D.put (kS n) (.held v),by rw [← hsz2];exact zfo r2,hsz2,fun m=>?_⟩,r3⟩
 rw [zb8]
 by_cases e:n=m
 ·subst e
  rw [za7,Maps.has_put_same hD.isMap (ziL _)]
  refine ⟨rfl,fun bs' hb=>⟨v,fun z=>Maps.atKey_put_same hD.isMap (ziL _) _ _,?_⟩⟩
  have:bs=bs':=Option.some.inj hb
  subst this
  exact hv.same hs
 ·have e2:eqN n m=false:=eqN_no.2 e
  have e3:=zmL (Ne.symm e)
  simp only [e2,Bool.false_eq_true,if_false]
  rw [Maps.has_put_other e3]
  refine ⟨(hk m).1,fun bs' hb=>?_⟩
  obtain ⟨u,g1,g2⟩:=(hk m).2 bs' hb
  exact ⟨u,fun z=>by rw [Maps.atKey_put_other e3];exact g1 z,g2.same hs⟩
theorem FilesAt.drop {w:World} {S:Nat→Prop} {mb:Nat} {M:List File} (h:FilesAt w S mb M) (hM:SortF M) {n:ByteArray} (hn:NmOk n) (hmb:¬ S mb) (ty:TypeId) :
  ∃ w',(Builtin.delete_ #[TFi,TSt] ty #[.map (some mb),.string n]).run Try.prog w = .ok (.tuple #[]) w'∧FilesAt w' S mb (za6 M n)∧w.grownBy w' (some mb):=by
 obtain ⟨D,ho,hsz,hk⟩:=h.D
 have hD:=ho.tidy keyS
 obtain ⟨w',r1,r2,r3⟩:=ho.drop keyS undF (zkC hn) ty
 have r3:=r3.grown
 have hs:Same S w w':=Same.of_grown r3 fun b hb e=>by
  have:=Option.some.inj e
  exact hmb (this▸hb)
 have hsz2:Maps.size (D.del (kS n))=(za6 M n).length:=by
  have:=Maps.size_del (k:=kS n) hD
  rw [(hk n).1,hsz] at this
  rw [hM.drop_len]
  split
  ·rename_i e
   rw [e] at this
   simp only [if_true] at this
   omega
  ·rename_i e
   rw [Bool.not_eq_true] at e
   rw [e] at this
   simpa using this
 refine ⟨w',r1,⟨D.del (kS n),by rw [← hsz2];exact zfo r2,hsz2,fun m=>?_⟩,r3⟩
 rw [zen]
 by_cases e:n=m
 ·subst e
  rw [za7,Maps.has_del_same]
  exact ⟨rfl,fun bs' hb=>by cases hb⟩
 ·have e2:eqN n m=false:=eqN_no.2 e
  have e3:=zmL (Ne.symm e)
  simp only [e2,Bool.false_eq_true,if_false]
  rw [Maps.has_del_other e3]
  refine ⟨(hk m).1,fun bs' hb=>?_⟩
  obtain ⟨u,g1,g2⟩:=(hk m).2 bs' hb
  exact ⟨u,fun z=>by rw [Maps.atKey_del_other e3];exact g1 z,g2.same hs⟩
abbrev TU:TypeId:=5
theorem undB:Try.prog.underlying TBy=some (.slice TU):=by kernel_rfl
theorem zof:(Try.prog.info? TU).map (fun i=>(i.zero,i.size,i.bytes))=some (some (.int .u8 0),1,1):=by kernel_rfl
theorem zdm:∃ i,Try.prog.info? TU=some i∧i.zero=some (.int .u8 0)∧i.size=1∧i.bytes=1:=by
 have h:=zof
 cases e:Try.prog.info? TU with
 | none=>rw [e] at h;cases h
 | some i=>
  rw [e] at h
  simp only [Option.map_some,Option.some.injEq,Prod.mk.injEq] at h
  exact ⟨i,rfl,h.1,h.2.1,h.2.2⟩
def u8s (bs:List Int):List Value:=bs.map (Value.int .u8)
theorem zaI (bs:List Int):(u8s bs).length=bs.length:=by simp [u8s]
theorem zfQ (bs:List Int):∀ v∈u8s bs,v.oneCell'=true:=by
 intro v hv;obtain ⟨x,_,rfl⟩:=List.mem_map.1 hv;rfl
abbrev By (bs:List Int):Prop:=∀ x∈bs,0≤x∧x≤255
theorem BRd.row {w:World} {S:Nat→Prop} {a:Option Addr} {n c:Nat} {bs:List Int} (h:BRd w S (.slice a n c) bs) (hp:0<n) :
  ∃ b off,a=some ⟨b,off,none⟩∧S b∧b<w.heap.size∧n≤c∧c≤maxLen∧bs.length=n∧(∀ i,i<n→w.cell? ⟨b,off+i,none⟩=some (.int .u8 (bs.getD i 0))∧w.frozen? ⟨b,off+i,none⟩=false∧0≤bs.getD i 0∧bs.getD i 0≤255):=by
 have hl:bs.length=n:=by have:=Sl.len h;rwa [zay] at this
 obtain ⟨rows,hr⟩:∃ rows,ints bs=rows:=⟨_,rfl⟩
 have h:Rd w S (.sl [.int .u8]) (.slice a n c) (.sl rows):=hr▸h
 cases h with
 | emp _ _=>omega
 | row vals h1 h2 h3 h4 h5 h6 h7 h8 h9 h10 h11=>
  refine ⟨_,_,rfl,h6,h7,h3,h4,hl,fun i hi=>?_⟩
  have e1:(rows.getD i []).getD 0 default = .int (bs.getD i 0):=by rw [← hr];simp [ints,List.getD,show i<bs.length by omega]
  have g:=h10 i 0 hi (by decide)
  rw [e1] at g
  obtain ⟨e2,e3⟩:=Rd.u8 g
  have c1:=h8 i 0 hi (by decide)
  have f1:=h11 i 0 hi (by decide)
  simp only [List.length_cons,List.length_nil,Nat.zero_add,Nat.mul_one,Nat.add_zero] at c1 f1
  exact ⟨by rw [c1,e2],f1,e3⟩
theorem BRd.by {w:World} {S:Nat→Prop} {v:Value} {bs:List Int} (h:BRd w S v bs):By bs:=by
 intro x hx
 obtain ⟨a,c,rfl,h⟩:=h.shape
 obtain ⟨i,hi,rfl⟩:=List.mem_iff_getElem.1 hx
 obtain ⟨b,off,_,_,_,_,_,_,hc⟩:=BRd.row h (by omega)
 have:=(hc i hi).2.2
 simpa [List.getD,hi] using this
theorem BRd.of_row {w:World} {S:Nat→Prop} {b off n c:Nat} {bs:List Int} (hn:n=bs.length) (hc:n≤c) (hm:c≤maxLen) (hl:n≤140737488355328) (hS:S b) (hb:b<w.heap.size) (hB:By bs)
  (h:∀ i,i<n→w.cell? ⟨b,off+i,none⟩=some (.int .u8 (bs.getD i 0))∧w.frozen? ⟨b,off+i,none⟩=false):BRd w S (.slice (some ⟨b,off,none⟩) n c) bs:=by
 by_cases hp:0<n
 ·refine Rd.row (fun i _=>Value.int .u8 (bs.getD i 0)) hp (by rw [zay];exact hn) hc hm hl hS hb (fun i j hi hj=>?_) (fun i hi=>?_) (fun i j hi hj=>?_) (fun i j hi hj=>?_)
  ·have:j=0:=by simp at hj;omega
   subst this
   simp only [List.length_cons,List.length_nil,Nat.zero_add,Nat.mul_one,Nat.add_zero]
   exact (h i hi).1
  ·simp [ints,List.getD,show i<bs.length by omega]
  ·have:j=0:=by simp at hj;omega
   subst this
   have e1:((ints bs).getD i []).getD 0 default = .int (bs.getD i 0):=by simp [ints,List.getD,show i<bs.length by omega]
   rw [e1]
   have hi2:i<bs.length:=by omega
   have e2:bs.getD i 0=bs[i]:=by simp [List.getD,hi2]
   exact Rd.ofU8 (by rw [e2];exact hB _ (List.getElem_mem hi2))
  ·have:j=0:=by simp at hj;omega
   subst this
   simp only [List.length_cons,List.length_nil,Nat.zero_add,Nat.mul_one,Nat.add_zero]
   exact (h i hi).2
 ·have e:bs=[]:=List.eq_nil_of_length_eq_zero (by omega)
  have e2:n=0:=by omega
  subst e2;subst e
  exact Rd.emp (fun e=>by cases e) hm
theorem BRd.of_blk {w:World} {S:Nat→Prop} {g n c:Nat} {vs:List Value} {bs:List Int} (h:w.heap[g]? = some (.cells vs.toArray TU (0,0))) (hn:n=bs.length) (hc:n≤c) (hm:c≤maxLen) (hl:n≤140737488355328) (hS:S g) (hB:By bs)
  (hv:∀ i,i<n→vs[i]? = some (.int .u8 (bs.getD i 0))):BRd w S (.slice (some ⟨g,0,none⟩) n c) bs:=
 BRd.of_row hn hc hm hl hS (Array.getElem?_eq_some_iff.1 h).1 hB fun i hi=>by
  rw [Nat.zero_add]
  exact ⟨by simp [World.cell?,h,hv i hi],by simp [World.frozen?,h]⟩
theorem zg5 {w:World} {b off n:Nat} {bs:List Int} (hl:bs.length=n) (h:∀ i,i<n→w.cell? ⟨b,off+i,none⟩=some (.int .u8 (bs.getD i 0))) :
  ∀ j v,(u8s bs)[j]? = some v→w.cell? ((⟨b,off,none⟩:Addr).add j)=some v:=by
 intro j v hj
 unfold u8s at hj
 rw [List.getElem?_map] at hj
 by_cases h2:j<bs.length
 ·rw [List.getElem?_eq_getElem h2] at hj
  simp only [Option.map_some,Option.some.injEq] at hj
  rw [WideShapes.add_plain,h j (by omega),← hj]
  simp [h2,List.getD]
 ·rw [List.getElem?_eq_none (by omega)] at hj;simp at hj
theorem zdI {w:World} {base:Nat} {e:TypeId} {g n:Nat} {l:List Value} (h:w.ownsRow base e 1 (.slice (some ⟨g,0,none⟩) n n) n l):w.heap[g]? = some (.cells l.toArray e (0,0)):=by
 obtain ⟨h1,h2 | ⟨g',cap,cur,hv,hb,hh,hl,hm,hs,ht⟩⟩:=h
 ·simp at h2
 ·simp only [Value.slice.injEq,Option.some.injEq,Addr.mk.injEq,and_true] at hv
  obtain ⟨rfl,_,rfl⟩:=hv
  rw [hh,← ht,List.take_of_length_le (by simp [hs])]
theorem ziC (n:Nat):(madeCells (Value.int .u8 0).cells (n*1)).toList=List.replicate n (Value.int .u8 0):=by
 rw [Nat.mul_one];exact toList_madeCells_one (Value.int .u8 0) n
def NewB (w:World) (bs:List Int) (e:Ending) (w':World):Prop:=∃ v,e = .returned v∧Below w.heap.size w w'∧BRd w' (fun x=>w.heap.size≤x) v bs
theorem zcW {α:Type} {cur cs:List α} {off i:Nat} (h:off+cs.length≤cur.length):(Go.splice cur off cs)[i]? = if i<off then cur[i]? else if i<off+cs.length then cs[i-off]? else cur[i]? := by
 unfold Go.splice
 by_cases h1:i<off
 ·rw [List.getElem?_append_left (by rw [List.length_take];omega),List.getElem?_take_of_lt h1,if_pos h1]
 ·rw [List.getElem?_append_right (by rw [List.length_take];omega),List.length_take,Nat.min_eq_left (by omega),if_neg h1]
  by_cases h2:i<off+cs.length
  ·rw [List.getElem?_append_left (by omega),if_pos h2]
  ·rw [List.getElem?_append_right (by omega),if_neg h2,List.getElem?_drop]
   congr 1
   omega
theorem zcV {α:Type} {cur cs:List α} {off:Nat} (h:off+cs.length≤cur.length):(Go.splice cur off cs).length=cur.length:=by
 unfold Go.splice
 simp only [List.length_append,List.length_take,List.length_drop]
 omega
theorem zdC {bs:List Int} {i:Nat} (h:i<bs.length):(u8s bs)[i]? = some (.int .u8 (bs.getD i 0)):=by
 unfold u8s
 simp [h,List.getD]
theorem ziJ {old b:List Int} {n i:Nat} (h:i<(zaB old n b).length):(zaB old n b).getD i 0=if n≤i∧i<n+b.length then b.getD (i-n) 0 else old.getD i 0:=by
 rw [zaK] at h
 unfold zaB
 simp only [List.getD_eq_getElem?_getD]
 rw [List.append_assoc]
 by_cases h1:i<n
 ·rw [List.getElem?_append_left (by simpa using h1),if_neg (by omega)]
  simp [h1]
 ·rw [List.getElem?_append_right (by simp;omega)]
  simp only [List.length_map,List.length_range]
  by_cases h2:i<n+b.length
  ·rw [List.getElem?_append_left (by omega),if_pos (by omega)]
  ·rw [List.getElem?_append_right (by omega),if_neg (by omega),List.getElem?_drop]
   congr 2
   omega
theorem zmJ {old b:List Int} {n:Nat} (h1:By old) (h2:By b):By (zaB old n b):=by
 intro x hx
 unfold zaB at hx
 rcases List.mem_append.1 hx with hx | hx
 ·rcases List.mem_append.1 hx with hx | hx
  ·obtain ⟨i,_,rfl⟩:=List.mem_map.1 hx
   by_cases hi:i<old.length
   ·have e:old.getD i 0=old[i]:=by simp [List.getD,hi]
    rw [e];exact h1 _ (List.getElem_mem hi)
   ·rw [List.getD_eq_getElem?_getD,List.getElem?_eq_none (by omega)]
    simp
  ·exact h2 x hx
 ·exact h1 x (List.mem_of_mem_drop hx)
set_option maxRecDepth 100000 in
theorem ziH {w:World} {S:Nat→Prop} {a1 a2:Option Addr} {lo c1 lb c2 k n:Nat} {old bs:List Int} (hO:BRd w S (.slice a1 lo c1) old) (hBB:BRd w S (.slice a2 lb c2) bs) (hlo:old.length=lo) (hlb:bs.length=lb) (hmx:max (lo:Int) ((k:Int)+(lb:Int))=(n:Int)) (hN:lo≤n∧k+lb≤n∧n≤200000000) :
  Calls Try.prog 50 #[.slice a1 lo c1,.int .i64 k,.slice a2 lb c2] w (NewB w (zaB old k bs)):=by
 obtain ⟨i0,hi,hz0,hz1,hz2⟩:=zdm
 have hi1:(Try.prog.info? TU).map (·.size)=some 1:=by rw [hi];simp [hz1]
 have hB:=Lib.hid (zmJ (n:=k) hO.by hBB.by)
 have HO:=Lib.hid hO
 have HB:=Lib.hid hBB
 have hnn:(0:Int)≤k∧(k:Int)≤n:=by omega
 have hkn:k≤n:=by omega
 have hlo2:=hlo
 have hlb2:=hlb
 have hg1:∀ w1:World,w1.ownsRow w.heap.size TU 1 (.slice (some ⟨w.heap.size,0,none⟩) n n) n (madeCells (Value.int IntKind.u8 0).cells (n*1)).toList→w1.heap[w.heap.size]? = some (.cells (List.replicate n (.int .u8 0)).toArray TU (0,0)):=fun w1 hown=>by
  rw [← ziC];exact zdI hown
 have hn1:(u8s old).length=Nat.min lo n:=by rw [zaI,hlo];show lo=min lo n;omega
 have hp1:∀ w1:World,w.grownBy w1 none→0<(u8s old).length→some (⟨w.heap.size,0,none⟩:Addr)=some ⟨w.heap.size,0,none⟩∧∃ ad,a1=some ad∧∀ j v,(u8s old)[j]? = some v→w1.cell? (ad.add j)=some v:=fun w1 hgrow hp=>by
  rw [zaI,hlo] at hp
  obtain ⟨b,off,rfl,hS,hlt,_,_,hl,hc⟩:=BRd.row hO hp
  exact ⟨rfl,_,rfl,zg5 hl fun i hi=>hgrow.cell ((hc i hi).1) (by simp)⟩
 have hf1:0+(u8s old).length≤(List.replicate n (Value.int .u8 0)).length:=by rw [zaI,hlo,List.length_replicate];omega
 have hb1:∀ w1:World,w.grownBy w1 none→Below w.heap.size w w1:=fun w1 hgrow=>(Below.refl _ _).grown hgrow (Nat.le_refl _) (fun k h=>by cases h)
 have hn2:(u8s bs).length=Nat.min lb (n-k):=by rw [zaI,hlb];show lb=min lb (n-k);omega
 have hp2:∀ w2:World,Below w.heap.size w w2→0<(u8s bs).length→(if n=k then some (⟨w.heap.size,0,none⟩:Addr) else some ⟨w.heap.size,k,none⟩)=some ⟨w.heap.size,k,none⟩∧∃ ad,a2=some ad∧∀ j v,(u8s bs)[j]? = some v→w2.cell? (ad.add j)=some v:=fun w2 hbel hp=>by
  rw [zaI,hlb] at hp
  obtain ⟨b,off,rfl,hS,hlt,_,_,hl,hc⟩:=BRd.row hBB hp
  refine ⟨if_neg (by omega),_,rfl,zg5 hl fun i hi=>?_⟩
  rw [World.cell?_of_block (hbel.block b hlt)]
  exact (hc i hi).1
 have hf2:k+(u8s bs).length≤(Go.splice (List.replicate n (Value.int .u8 0)) 0 (u8s old)).length:=by
  rw [zaI,hlb,zcV hf1,List.length_replicate];omega
 have hfin:∀ w3:World,Hid (w3.heap[w.heap.size]? = some (.cells (Go.splice (Go.splice (List.replicate n (Value.int .u8 0)) 0 (u8s old)) k (u8s bs)).toArray TU (0,0)))→Below w.heap.size w w3→NewB w (zaB old k bs) (.returned (.slice (some ⟨w.heap.size,0,none⟩) n n)) w3:=fun w3 hrow3 hbel3=>by
  have hL:(zaB old k bs).length=n:=by rw [zaK,hlo,hlb];omega
  refine ⟨_,rfl,hbel3,BRd.of_blk hrow3.out hL.symm (Nat.le_refl _) (by unfold maxLen;omega) (by omega) (Nat.le_refl _) hB.out fun i hi=>?_⟩
  have h0:(Go.splice (List.replicate n (Value.int .u8 0)) 0 (u8s old)).length=n:=by rw [zcV (by rw [zaI,hlo,List.length_replicate];omega),List.length_replicate]
  rw [ziJ (by rw [hL];exact hi),zcW (by rw [zaI,hlb,h0];omega),zaI,hlb]
  by_cases h1:i<k
  ·rw [if_pos h1,if_neg (by omega),zcW (by rw [zaI,hlo,List.length_replicate];omega),if_neg (by omega),zaI,hlo]
   by_cases h2:i<0+lo
   ·rw [if_pos h2,Nat.sub_zero,zdC (by omega)]
   ·rw [if_neg h2,List.getElem?_replicate,if_pos hi,List.getD_eq_getElem?_getD,List.getElem?_eq_none (by omega)]
    rfl
  ·rw [if_neg h1]
   by_cases h2:i<k+lb
   ·rw [if_pos h2,if_pos ⟨by omega,h2⟩,zdC (by omega)]
   ·rw [if_neg h2,if_neg (by omega),zcW (by rw [zaI,hlo,List.length_replicate];omega),if_neg (by omega),zaI,hlo]
    have h3:i<0+lo:=by omega
    rw [if_pos h3,Nat.sub_zero,zdC (by omega)]
 have HFi:=Lib.hid hfin
 clear hfin
 have HG1:=Lib.hid hg1
 have HN1:=Lib.hid hn1
 have HP1:=Lib.hid hp1
 have HF1:=Lib.hid hf1
 have HB1:=Lib.hid hb1
 have HN2:=Lib.hid hn2
 have HP2:=Lib.hid hp2
 have HF2:=Lib.hid hf2
 have HN:=Lib.hid hN
 clear hO hBB hN hg1 hn1 hp1 hf1 hb1 hn2 hp2 hf2
 have hn2:n≤200000000:=HN.out.2.2
 go_enter Try.func50,Try.ntmps50
 go_wp2_with (first | (at_make;refine wpList_make_full _ rfl (.tmp 14) (.tmp 14) 30 rfl w.heap.size TU i0 (.int .u8 0) 1 undB hi hz0 hz1 .i64 .i64 (n:Int) (n:Int) n rfl rfl (by omega) (by omega) (by rw [hz2];omega) (by unfold maxLen;omega) (Nat.le_refl _) ?_;intro w1 hown hgrow) | (refine wpList_copy_splice rfl (.tmp 16) (.tmp 17) 30 30 rfl TU undB hi1 (some ⟨w.heap.size,0,none⟩) a1 n n lo c1 rfl rfl w.heap.size 0 (List.replicate n (.int .u8 0)) TU (HG1.out _ hown) (u8s old) HN1.out (HP1.out _ hgrow) HF1.out (zfQ old) w.heap.size w (HB1.out _ hgrow) (Nat.le_refl _) ?_;intro w2 hrow hbel) | (refine wpList_copy_splice rfl (.tmp 21) (.tmp 22) 30 30 rfl TU undB hi1 (if n=k then some ⟨w.heap.size,0,none⟩ else some ⟨w.heap.size,k,none⟩) a2 (n-k) (n-k) lb c2 rfl rfl w.heap.size k (Go.splice (List.replicate n (.int .u8 0)) 0 (u8s old)) TU hrow.out (u8s bs) HN2.out (HP2.out _ hbel) HF2.out (zfQ bs) w.heap.size w hbel (Nat.le_refl _) ?_;intro w3 hrow3 hbel3))
 all_goals (go_ret;first | exact HFi.out _ hrow3 hbel3 | (subst h;exact HFi.out _ hrow3 hbel3))
theorem zgN {w:World} {S:Nat→Prop} {ov bv:Value} {old bs:List Int} {at_:Int} (ho:BRd w S ov old) (hb:BRd w S bv bs) (h0:0≤at_) (h1:at_≤100000000) (h2:bs.length≤100000000) (h3:old.length≤100000000) :
  Calls Try.prog 50 #[ov,.int .i64 at_,bv] w (NewB w (zaB old at_.toNat bs)):=by
 obtain ⟨k,rfl⟩:∃ k:Nat,at_=k:=⟨at_.toNat,by omega⟩
 obtain ⟨a1,c1,rfl,_⟩:=ho.shape
 obtain ⟨a2,c2,rfl,_⟩:=hb.shape
 have hk:((k:Int).toNat)=k:=by omega
 rw [hk]
 exact ziH (n:=max old.length (k+bs.length)) ho hb rfl rfl (by omega) (by omega)
def orU (a b:Option Upd):Option Upd:=match a with
 | some u=>some u
 | none=>b
theorem zcB {a b:Option Upd} {u:Upd} (h:orU a b=some u):a=some u∨b=some u:=by
 cases a with
 | none=>exact .inr h
 | some x=>exact .inl h
def zhz (P:Program) (c:Nat) (st:St) (ty:TypeId):Op→Option Upd
 | .store T x y=>cPut P st T x y
 | .binOp op T x y _=>orU (cEqP P st op T x y) (orU (cEqN P st op T x y) (orU (cEqA P st op T x y) (zlv st op x y)))
 | .index T x i=>zlo P st T x i
 | .convert s d x=>orU (cB2S P st s d x) (cS2B P st c s d x)
 | .call ⟨.builtin .min,⟨[x,y]⟩,_⟩=>cMin st x y
 | .call ⟨.builtin .max,⟨[x,y]⟩,_⟩=>cMax st x y
 | .call ⟨.builtin .append,⟨[x,y]⟩,⟨[T,T2]⟩⟩=>if T=T2 then cApp P st c T x y else zlx P st c T T2 x y
 | .call ⟨.builtin .copy,⟨[x,y]⟩,⟨[T,_]⟩⟩=>zls P st T x y
 | .buildSlice T len ps=>orU (cLit P st c T len ps) (zlm P st c T len ps)
 | .slice T x lo hi none=>zlq P st c T x lo hi
 | .makeSlice T x y=>zli P st c T x y
 | .makeFunc (.func f) ⟨[]⟩ xs=>some (zns st f xs.toList)
 | _=>none
theorem zk1 (P:Program):zct P (zhz P):=by
 intro c st o u base X w0 h
 have key:∀ op,o.op=op→zhz P c st o.type op=some u→Does P base X w0 st o u:=by
  intro op ho h
  unfold zhz at h
  split at h
  ·exact znq o _ _ _ ho h
  ·rcases zcB h with h | h
   ·exact zny o _ _ _ _ _ ho h
   ·rcases zcB h with h | h
    ·exact znz o _ _ _ _ _ ho h
    ·rcases zcB h with h | h
     ·exact zn0 o _ _ _ _ _ ho h
     ·exact zlu o _ _ _ _ _ ho h
  ·exact zln o _ _ _ ho h
  ·rcases zcB h with h | h
   ·exact zn4 o _ _ _ ho h
   ·exact znp o c _ _ _ ho h
  ·exact znt o _ _ _ ho h
  ·exact znu o _ _ _ ho h
  ·split at h
   ·rename_i hT;subst hT;exact zn5 o c _ _ _ ho h
   ·exact zlw o c _ _ _ _ ho h
  ·exact zlr o _ _ _ _ ho h
  ·rcases zcB h with h | h
   ·exact znv o c _ _ _ ho h
   ·exact zll o c _ _ _ ho h
  ·exact zlp o c _ _ _ _ ho h
  ·exact zlh o c _ _ _ ho h
  ·simp only [Option.some.injEq] at h;subst h;exact zlg o _ _ ho
  ·simp at h
 exact key _ rfl h
theorem zkQ {a b:St} {e:TypeId} {s:SV} (h:∀ t,t∈zai s→a.m t=b.m t):zdX a e s=zdX b e s:=by
 cases s
 case own t=>simp only [zdX,h t (by simp [zai])]
 all_goals rfl
theorem zg6 {a b:St} {r:RL} {s:SV} (h:∀ t,t∈zai s→a.m t=b.m t):zbN a r s=zbN b r s:=by
 cases s
 case own t=>simp only [zbN,h t (by simp [zai])]
 all_goals rfl
theorem zmB {a b:St} {s:SV} (h:∀ t,t∈zai s→a.m t=b.m t):nilU a s=nilU b s:=by
 cases s
 case own t=>simp only [nilU,h t (by simp [zai])]
 all_goals rfl
theorem zmx {a b:St} {s:SV} (h:∀ t,t∈zai s→a.m t=b.m t):rowU a s=rowU b s:=by
 cases s
 case own t=>simp only [rowU,h t (by simp [zai])]
 case sl ls r=>cases r<;>rfl
 all_goals rfl
theorem zi4 {a b:St} {x:Option Operand} (h:∀ y,y∈x.toList→a.ev y=b.ev y):optI a x=optI b x:=by
 cases x with
 | none=>rfl
 | some y=>simp only [optI,h y (by simp)]
theorem zi9 (P:Program):zca (zhz P):=by
 intro c a b ty op h
 unfold zhz
 split
 ·rename_i T x y
  have hx:=h.ev x (by simp [Op.operands])
  have ht:=fun t=>h.tag (x:=x) (by simp [Op.operands]) (t:=t)
  simp only [cPut,h.ev y (by simp [Op.operands])]
  rw [← hx]
  rcases hs:zag (a.ev x) with ⟨s,n⟩
  rw [hs] at ht
  cases s
  case oel t sz i off=>
   have e2:=ht t (by simp [zai])
   rcases zag (b.ev y) with ⟨s2,n2⟩
   cases zbi P T with
   | none=>rfl
   | some k=>simp only [e2]
  all_goals rfl
 ·rename_i op T x y T2
  have hx:=h.ev x (by simp [Op.operands])
  have ht:=fun t=>h.tag (x:=x) (by simp [Op.operands]) (t:=t)
  simp only [cEqP,cEqN,cEqA,zlv,h.ev y (by simp [Op.operands]),← hx]
  rw [zmB (fun t g=>ht t g)]
 ·rename_i T x i;simp only [zlo,h.ev x (by simp [Op.operands]),h.ev i (by simp [Op.operands])]
 ·rename_i s d x
  have hx:=h.ev x (by simp [Op.operands])
  have ht:=fun t=>h.tag (x:=x) (by simp [Op.operands]) (t:=t)
  simp only [cB2S,cS2B,h.free (zbQ _),← hx]
  rw [zmx (fun t g=>ht t g)]
 ·rename_i x y ts;simp only [cMin,h.ev x (by simp [Op.operands,Call.operands]),h.ev y (by simp [Op.operands,Call.operands])]
 ·rename_i x y ts;simp only [cMax,h.ev x (by simp [Op.operands,Call.operands]),h.ev y (by simp [Op.operands,Call.operands])]
 ·rename_i x y T T2
  have hx:=h.ev x (by simp [Op.operands,Call.operands])
  have hy:=h.ev y (by simp [Op.operands,Call.operands])
  have tx:=fun t=>h.tag (x:=x) (by simp [Op.operands,Call.operands]) (t:=t)
  have ty:=fun t=>h.tag (x:=y) (by simp [Op.operands,Call.operands]) (t:=t)
  simp only [cApp,zlx,h.free (zbQ _)]
  rw [← hx,← hy]
  have hd:∀ e,zdX a e (zag (a.ev x)).1=zdX b e (zag (a.ev x)).1:=fun e=>zkQ tx
  have hs:∀ r,zbN a r (zag (a.ev y)).1=zbN b r (zag (a.ev y)).1:=fun r=>zg6 ty
  simp only [hd,hs]
 ·rename_i x y T T2
  have hx:=h.ev x (by simp [Op.operands,Call.operands])
  have hy:=h.ev y (by simp [Op.operands,Call.operands])
  have tx:=fun t=>h.tag (x:=x) (by simp [Op.operands,Call.operands]) (t:=t)
  have ty:=fun t=>h.tag (x:=y) (by simp [Op.operands,Call.operands]) (t:=t)
  have hs:∀ r,zbN a r (zag (a.ev y)).1=zbN b r (zag (a.ev y)).1:=fun r=>zg6 ty
  simp only [zls]
  rw [← hx,← hy]
  simp only [hs]
  rcases hs:zag (a.ev x) with ⟨s,n⟩
  rw [hs] at tx
  cases zbe P T with
  | none=>rfl
  | some e=>
   cases s
   case own t=>
    have e2:=tx t (by simp [zai])
    simp only [e2]
   all_goals rfl
 ·rename_i T len ps
  simp only [cLit,zlm,h.free (zbQ _)]
  rw [zbV ps.toList (fun x hx=>h.ev x (by simpa [Op.operands] using hx))]
 ·rename_i T x lo hi
  have hx:=h.ev x (by simp [Op.operands])
  have tx:=fun t=>h.tag (x:=x) (by simp [Op.operands]) (t:=t)
  simp only [zlq,h.free (zbQ _)]
  rw [zi4 (x:=lo) (fun y hy=>h.ev y (by simp only [Op.operands,Array.toList_append,List.mem_append];simp at hy;simp [hy])),zi4 (x:=hi) (fun y hy=>h.ev y (by simp only [Op.operands,Array.toList_append,List.mem_append];simp at hy;simp [hy]))]
  rw [← hx]
  rcases hs:zag (a.ev x) with ⟨s,n⟩
  rw [hs] at tx
  cases s
  case own t=>
   have e2:=tx t (by simp [zai])
   simp only [e2]
  all_goals rfl
 ·rename_i T x y
  simp only [zli,h.ev x (by simp [Op.operands]),h.ev y (by simp [Op.operands]),h.free (zbQ _)]
 ·rename_i f xs
  have e:=zcM (a:=a) (b:=b) xs.toList (fun x hx=>h.ev x (by simp [Op.operands,hx]))
  obtain ⟨xs⟩:=xs
  cases xs with
  | nil=>rfl
  | cons x r=>simp only [zns,e]
 ·rfl
end Go.Proofs.Ytfccndnnpkiajaa
namespace Go.Proofs.Ytfccndnnpkiajaa
open Go.RowKit Go.ChangeShapes Go.WideShapes Go.Deep
theorem mD2 (t:Nat):mOf D2 t=if t<2 then .dead else .empty:=by
 match t with
 | 0=>rfl
 | 1=>rfl
 | t+2=>rw [zcv];simp [List.getD]
theorem zdj {E:Env} {t b:Nat}:¬ Has E (mOf D2) t b:=by
 intro h
 have:=h.1
 rw [mD2] at this
 split at this<;>cases this
def Env.zero (E:Env):Prop:=∀ i b,E.σ i b→i=0
theorem zmb {E:Env} {w:World} (hm:MemOk w.heap.size (cxIn E D2 1) w E (mOf D2) w):E.zero:=by
 intro i b h
 apply Classical.byContradiction
 intro hi
 have h1:=hm.lab i b h
 rcases h1.2 (show (1:Nat)≤i by omega) with h2 | ⟨t,ht⟩
 ·omega
 ·exact zdj ht
theorem Env.zero.set {E:Env} (h:E.zero) {ls:List Nat} {b:Nat} (hb:E.set ls b):E.set [0] b:=by
 obtain ⟨i,_,hi⟩:=hb
 have:=h i b hi
 subst this
 exact ⟨0,by simp,hi⟩
theorem FnC.pre {P:Program} {f:FuncId} {ins ins':List SV} {out:SV} {mo:List BE} (h:FnC P f ins out mo) (hd:∀ E w vals,Env.zero E→DenL E w ins' vals→DenL E w ins vals):FnC P f ins' out mo:=
 ⟨h.1,fun w E vals hm hv=>h.2 w E vals hm (hd E w vals (zmb hm) hv)⟩
theorem ziA {E:Env} {w w':World} (hm:MemOk w.heap.size (cxIn E D2 1) w E (mOf D2) w) (hb:Below w.heap.size w w') :
  MemOk w.heap.size (cxIn E D2 1) w ⟨E.β,fun i b=>E.σ i b∨(i=1∧w.heap.size≤b∧b<w'.heap.size),E.φ⟩ (mOf D2) w':=by
 have hl:∀ t,(mOf D2 t).live=false:=by intro t;rw [mD2];split<;>rfl
 have hno:∀ {E:Env} {t b:Nat},¬ Has E (mOf D2) t b:=zdj
 refine ⟨fun t ht=>⟨(hm.empty t ht).1,fun b hb'=>?_⟩,fun t T vs ht=>?_,fun t T ls r ht=>?_,fun i b hb'=>?_,fun i j b hi hj=>?_,hm.low,fun t b hh=>absurd hh hno,fun i b hi hb'=>?_,fun t u b h1=>absurd h1 hno,hm.keep,⟨hb.os,hb.tape,hb.output,hb.size,fun b h1 _=>hb.block b h1⟩,hb.size,fun t o ht=>by have:=hl t;rw [ht] at this;cases this⟩
 ·rcases hb' with h | ⟨rfl,_⟩
  ·exact (hm.empty t ht).2 b h
  ·rw [mD2] at ht;simp at ht
 ·have:=hl t;rw [ht] at this;cases this
 ·have:=hl t;rw [ht] at this;cases this
 ·rcases hb' with h | ⟨rfl,h1,h2⟩
  ·exact ⟨Nat.lt_of_lt_of_le (hm.lab i b h).1 hb.size,(hm.lab i b h).2⟩
  ·exact ⟨h2,fun _=> .inl h1⟩
 ·rcases hi with hi | ⟨rfl,h1,h2⟩<;>rcases hj with hj | ⟨rfl,h3,h4⟩
  ·exact hm.dis i j b hi hj
  ·have:=(hm.lab i b hi).1;omega
  ·have:=(hm.lab j b hj).1;omega
  ·rfl
 ·rcases hb' with h | ⟨rfl,_⟩
  ·exact h
  ·simp [cxIn] at hi
theorem FnC.of_below {P:Program} {f:FuncId} {ins:List SV} {out:SV} (hB:FnB P f)
  (h:∀ (w:World) (E:Env) (vals:List Value),DenL E w ins vals→Calls P f vals.toArray w (fun e w'=>∃ v,e = .returned v∧Below w.heap.size w w'∧∀ E':Env,E.Le E'→(∀ b,w.heap.size≤b→b<w'.heap.size→E'.σ 1 b)→DenV E' w' out v)):FnC P f ins out D2:=by
 refine ⟨hB,fun w E vals hm hd=>(h w E vals hd).mono ?_⟩
 rintro e w' ⟨v,rfl,hb,hv⟩
 exact ⟨v,⟨E.β,fun i b=>E.σ i b∨(i=1∧w.heap.size≤b∧b<w'.heap.size),E.φ⟩,rfl,hv _ ⟨fun _ _ x=>x,fun _ _ x=> .inl x⟩ (fun b h1 h2=> .inr ⟨rfl,h1,h2⟩),ziA hm hb⟩
theorem FnC.of_int {P:Program} {f:FuncId} {ins:List SV} {n:Int} (hB:FnB P f) (h:∀ (w:World) (E:Env) (vals:List Value),DenL E w ins vals→I64 n∧Calls P f vals.toArray w (fun e w'=>e = .returned (.int .i64 n)∧Below w.heap.size w w')):FnC P f ins (.int .i64 n) D2:=
 FnC.of_below hB fun w E vals hd=>(h w E vals hd).2.mono (by rintro e w' ⟨rfl,hb⟩;exact ⟨_,rfl,hb,fun _ _ _=>⟨rfl,zds (h w E vals hd).1⟩⟩)
theorem zm9 {E:Env} {w:World} {s:SV} {vals:List Value} (h:DenL E w [s] vals):∃ v,vals=[v]∧DenV E w s v:=by
 match vals,h with
 | [v],h=>exact ⟨v,rfl,h.1⟩
theorem zmh {E:Env} {w:World} {s t:SV} {vals:List Value} (h:DenL E w [s,t] vals):∃ v u,vals=[v,u]∧DenV E w s v∧DenV E w t u:=by
 match vals,h with
 | [v,u],h=>exact ⟨v,u,rfl,h.1,h.2.1⟩
theorem zeO {α:Type} {l:List α} {i:Nat} {d:α} (h:i<l.length):l.getD i d=l[i]:=by simp [List.getD,h]
theorem zaX {α:Type} {l:List α} {i:Nat} {d:α} (h:i<l.length):l.getD i d∈l:=by rw [zeO h];exact List.getElem_mem _
theorem za5 {α:Type} {l:List α} {i:Nat} {d:α} (h:i<l.length):l.take (i+1)=l.take i++[l.getD i d]:=by rw [zeO h,List.take_succ_eq_append_getElem h]
theorem zjR {n:Int} (h:I64 n):IntKind.i64.wrap n=n:=IntWalk.i64_in _ h
theorem zb2 {i:Nat} (h:i≤9223372036854775806):IntKind.i64.wrap ((i:Int)+1)=(i:Int)+1:=zjR ⟨by omega,by omega⟩
structure Dec (α:Type) where
 dec:SV→Option α
 can:α→SV
 Okp:α→Prop
 okp:∀ x E w v,DenV E w (can x) v→Okp x
 ok:∀ s x,dec s=some x→∀ E w v,Env.zero E→DenV E w s v→DenV E w (can x) v
def dInt:Dec Int where
 dec:=fun s=>match s with | .int .i64 n=>some n | _=>none
 can:=fun n=> .int .i64 n
 Okp:=fun n=>I64 n
 okp:=fun n E w v h=>lit_bd h.2
 ok:=by
  intro s x h E w v _ hd
  split at h
  ·simp only [Option.some.injEq] at h;subst h;exact hd
  ·simp at h
def dStr:Dec ByteArray where
 dec:=fun s=>match s with | .str n=>some n | _=>none
 can:=fun n=> .str n
 Okp:=fun n=>n.size≤140737488355328
 okp:=fun n E w v h=>h.2
 ok:=by
  intro s x h E w v _ hd
  split at h
  ·simp only [Option.some.injEq] at h;subst h;exact hd
  ·simp at h
theorem zd9 {E:Env} {w:World} {m:List Nat} {r:RL} {v:Value} (hz:E.zero) (h:DenV E w (.sl m r) v):DenV E w (.sl [0] r) v:=Rd.mono h (fun b _ hb=>hz.set hb)
def dFiles:Dec (List File) where
 dec:=fun s=>match s.asFile with | some (l,_)=>some l | none=>none
 can:=fun l=> .sl [0] (.rFile l)
 Okp:=fun l=>l.length≤140737488355328∧∀ x,x∈l→x.Ok
 okp:=fun l E w v h=>by
  have h:Rd w (E.set [0]) (.sl File.ty) v (.sl (l.map File.enc)):=h
  obtain ⟨a,c,rfl,hs⟩:=h.sl'
  exact zdH hs (fun _ _ hr=>File.ok_of hr)
 ok:=by
  intro s x h E w v hz hd
  split at h
  ·rename_i l m e;simp only [Option.some.injEq] at h;subst h;exact zd9 hz (SV.asFile_ok e (fun i hi=>hi) hd)
  ·simp at h
def dDOps:Dec (List DOp) where
 dec:=fun s=>match s.asDOp with | some (l,_)=>some l | none=>none
 can:=fun l=> .sl [0] (.rDOp l)
 Okp:=fun l=>l.length≤140737488355328∧∀ x,x∈l→x.Ok
 okp:=fun l E w v h=>by
  have h:Rd w (E.set [0]) (.sl DOp.ty) v (.sl (l.map DOp.enc)):=h
  obtain ⟨a,c,rfl,hs⟩:=h.sl'
  exact zdH hs (fun _ _ hr=>DOp.ok_of hr)
 ok:=by
  intro s x h E w v hz hd
  split at h
  ·rename_i l m e;simp only [Option.some.injEq] at h;subst h;exact zd9 hz (SV.asDOp_ok e (fun i hi=>hi) hd)
  ·simp at h
def dFile:Dec File where
 dec:=fun s=>match s with | .agg cs=>(match File.of cs with | some (x,_)=>some x | none=>none) | _=>none
 can:=fun x=> .agg (x.svs [0])
 Okp:=fun x=>x.Ok
 okp:=fun x E w v ⟨xs,_,hl⟩=>File.ok_of (File.svs_rd hl)
 ok:=by
  intro s x h E w v hz hd
  split at h
  case h_2=>simp at h
  split at h
  case h_2=>simp at h
  rename_i cs _ y m e
  simp only [Option.some.injEq] at h
  subst h
  obtain ⟨xs,hv,hl⟩:=hd
  exact ⟨xs,hv,File.svs_of (RdL.mono (fun b _ hb=>hz.set hb) (File.svs_rd (File.of_ok e hl)))⟩
def dDChange:Dec DChange where
 dec:=fun s=>match s with | .agg cs=>(match DChange.of cs with | some (x,_)=>some x | none=>none) | _=>none
 can:=fun x=> .agg (x.svs [0])
 Okp:=fun x=>x.Ok
 okp:=fun x E w v ⟨xs,_,hl⟩=>DChange.ok_of (DChange.svs_rd hl)
 ok:=by
  intro s x h E w v hz hd
  split at h
  case h_2=>simp at h
  split at h
  case h_2=>simp at h
  rename_i cs _ y m e
  simp only [Option.some.injEq] at h
  subst h
  obtain ⟨xs,hv,hl⟩:=hd
  exact ⟨xs,hv,DChange.svs_of (RdL.mono (fun b _ hb=>hz.set hb) (DChange.svs_rd (DChange.of_ok e hl)))⟩
def dDOp:Dec DOp where
 dec:=fun s=>match s with | .agg cs=>(match DOp.of cs with | some (x,_)=>some x | none=>none) | _=>none
 can:=fun x=> .agg (x.svs [0])
 Okp:=fun x=>x.Ok
 okp:=fun x E w v ⟨xs,_,hl⟩=>DOp.ok_of (DOp.svs_rd hl)
 ok:=by
  intro s x h E w v hz hd
  split at h
  case h_2=>simp at h
  split at h
  case h_2=>simp at h
  rename_i cs _ y m e
  simp only [Option.some.injEq] at h
  subst h
  obtain ⟨xs,hv,hl⟩:=hd
  exact ⟨xs,hv,DOp.svs_of (RdL.mono (fun b _ hb=>hz.set hb) (DOp.svs_rd (DOp.of_ok e hl)))⟩
section
variable {P : Program} {α β γ δ ε : Type}
abbrev R3:=List Prop×SV×List BE
def isD2:List BE→Bool
 | [.dead,.dead]=>true
 | _=>false
theorem zeL {m:List BE} (h:isD2 m=true):m=D2:=by
 unfold isD2 at h;split at h
 ·rfl
 ·cases h
def go0 (r:R3) (ins:List SV) (mi:List BE):Option R3:=match isD2 mi,ins with
 | true,[]=>some r
 | _,_=>none
theorem FnG.given {f:FuncId} {nl:Nat} {mi mo:List BE} {ins:List SV} {out:SV} {F:Prop} (hB:FnB P f) (hF:∀ E w vals,DenL E w ins vals→F) (h:F→FnG P f nl mi ins out mo):FnG P f nl mi ins out mo:=
 ⟨hB,fun w E vals hm hd=>(h (hF E w vals hd)).2 w E vals hm hd⟩
theorem FnC.g1 {f:FuncId} {mo:List BE} {out:SV} (a:Dec α) (x:α) (hB:FnB P f) (h:a.Okp x→FnC P f [a.can x] out mo):FnC P f [a.can x] out mo:=
 FnG.given hB (fun E w vals hd=>by obtain ⟨v,rfl,h1⟩:=zm9 hd;exact a.okp _ _ _ _ h1) h
theorem FnC.g2 {f:FuncId} {mo:List BE} {out:SV} (a:Dec α) (b:Dec β) (x:α) (y:β) (hB:FnB P f) (h:a.Okp x→b.Okp y→FnC P f [a.can x,b.can y] out mo):FnC P f [a.can x,b.can y] out mo:=
 FnG.given (F:=a.Okp x∧b.Okp y) hB (fun E w vals hd=>by obtain ⟨v,u,rfl,h1,h2⟩:=zmh hd;exact ⟨a.okp _ _ _ _ h1,b.okp _ _ _ _ h2⟩) (fun hh=>h hh.1 hh.2)
def ent0 (f:FuncId) (r:R3):Ent:=⟨f,false,[],[],1,[],go0 r⟩
def go1 (a:Dec α) (r:α→R3) (ins:List SV) (mi:List BE):Option R3:=match isD2 mi,ins with
 | true,[s]=>match a.dec s with
  | some x=>some (r x)
  | none=>none
 | _,_=>none
def ent1 (f:FuncId) (a:Dec α) (r:α→R3):Ent:=⟨f,false,[0],[],1,[],go1 a r⟩
def go2 (a:Dec α) (b:Dec β) (r:α→β→R3) (ins:List SV) (mi:List BE):Option R3:=match isD2 mi,ins with
 | true,[s,t]=>match a.dec s,b.dec t with
  | some x,some y=>some (r x y)
  | _,_=>none
 | _,_=>none
def ent2 (f:FuncId) (a:Dec α) (b:Dec β) (r:α→β→R3):Ent:=⟨f,false,[0,0],[],1,[],go2 a b r⟩
def go3 (a:Dec α) (b:Dec β) (c:Dec γ) (r:α→β→γ→R3) (ins:List SV) (mi:List BE):Option R3:=match isD2 mi,ins with
 | true,[s,t,u]=>match a.dec s,b.dec t,c.dec u with
  | some x,some y,some z=>some (r x y z)
  | _,_,_=>none
 | _,_=>none
def ent3 (f:FuncId) (a:Dec α) (b:Dec β) (c:Dec γ) (r:α→β→γ→R3):Ent:=⟨f,false,[0,0,0],[],1,[],go3 a b c r⟩
theorem zmW {f:FuncId} {r:R3} (hB:FnB P f) (h:(∀ p∈r.1,p)→FnC P f [] r.2.1 r.2.2):zar P (ent0 f r):=by
 refine ⟨hB,fun ins mi n out mo hg hn=>?_⟩
 change go0 r ins mi=some (n,out,mo) at hg
 unfold go0 at hg
 split at hg
 case h_2=>simp at hg
 rename_i e
 obtain rfl:=zeL e
 simp only [Option.some.injEq] at hg
 subst hg
 exact h hn
theorem zbt {f:FuncId} {a:Dec α} {r:α→R3} (hB:FnB P f) (h:∀ x,(∀ p∈(r x).1,p)→FnC P f [a.can x] (r x).2.1 (r x).2.2):zar P (ent1 f a r):=by
 refine ⟨hB,fun ins mi n out mo hg hn=>?_⟩
 change go1 a r ins mi=some (n,out,mo) at hg
 unfold go1 at hg
 split at hg
 case h_2=>simp at hg
 rename_i s e
 obtain rfl:=zeL e
 split at hg
 case h_2=>simp at hg
 rename_i x ex
 simp only [Option.some.injEq] at hg
 have:=h x (by rw [hg];exact hn)
 rw [hg] at this
 refine this.pre fun E w vals hz hd=>?_
 match vals,hd with
 | [v],hd=>exact ⟨a.ok _ _ ex E w v hz hd.1,trivial⟩
theorem zbJ {f:FuncId} {a:Dec α} {b:Dec β} {r:α→β→R3} (hB:FnB P f) (h:∀ x y,(∀ p∈(r x y).1,p)→FnC P f [a.can x,b.can y] (r x y).2.1 (r x y).2.2):zar P (ent2 f a b r):=by
 refine ⟨hB,fun ins mi n out mo hg hn=>?_⟩
 change go2 a b r ins mi=some (n,out,mo) at hg
 unfold go2 at hg
 split at hg
 case h_2=>simp at hg
 rename_i s t e
 obtain rfl:=zeL e
 split at hg
 case h_2=>simp at hg
 rename_i x y ex ey
 simp only [Option.some.injEq] at hg
 have:=h x y (by rw [hg];exact hn)
 rw [hg] at this
 refine this.pre fun E w vals hz hd=>?_
 match vals,hd with
 | [v,u],hd=>exact ⟨a.ok _ _ ex E w v hz hd.1,b.ok _ _ ey E w u hz hd.2.1,trivial⟩
theorem zmV {f:FuncId} {a:Dec α} {b:Dec β} {c:Dec γ} {r:α→β→γ→R3} (hB:FnB P f) (h:∀ x y z,(∀ p∈(r x y z).1,p)→FnC P f [a.can x,b.can y,c.can z] (r x y z).2.1 (r x y z).2.2):zar P (ent3 f a b c r):=by
 refine ⟨hB,fun ins mi n out mo hg hn=>?_⟩
 change go3 a b c r ins mi=some (n,out,mo) at hg
 unfold go3 at hg
 split at hg
 case h_2=>simp at hg
 rename_i s t u e
 obtain rfl:=zeL e
 split at hg
 case h_2=>simp at hg
 rename_i x y z ex ey ez
 simp only [Option.some.injEq] at hg
 have:=h x y z (by rw [hg];exact hn)
 rw [hg] at this
 refine this.pre fun E w vals hz hd=>?_
 match vals,hd with
 | [v1,v2,v3],hd=>exact ⟨a.ok _ _ ex E w v1 hz hd.1,b.ok _ _ ey E w v2 hz hd.2.1,c.ok _ _ ez E w v3 hz hd.2.2.1,trivial⟩
end
theorem zjQ {E:Env} {mi:List BE} {w:World} (hm:MemOk w.heap.size (cxIn E mi 1) w E (mOf mi) w):E.zero:=by
 intro i b h
 apply Classical.byContradiction
 intro hi
 have h1:=hm.lab i b h
 rcases h1.2 (show (1:Nat)≤i by omega) with h2 | ⟨t,ht⟩
 ·omega
 ·exact (hm.sep t b ht).1 ⟨i,h⟩
theorem FnG.pre1 {P:Program} {f:FuncId} {mi:List BE} {ins ins':List SV} {out:SV} {mo:List BE} (h:FnG P f 1 mi ins out mo) (hd:∀ E w vals,Env.zero E→DenL E w ins' vals→DenL E w ins vals):FnG P f 1 mi ins' out mo:=
 ⟨h.1,fun w E vals hm hv=>h.2 w E vals hm (hd E w vals (zjQ hm) hv)⟩
structure Mem (σ:Type) where
 mi:σ→List BE
 dec:List BE→Option σ
 ok:∀ m x,dec m=some x→m=mi x
section
variable {P : Program} {σ α β γ : Type}
def goM0 (M:Mem σ) (r:σ→R3) (ins:List SV) (mi:List BE):Option R3:=match M.dec mi,ins with
 | some s,[.ptr 2 0]=>some (r s)
 | _,_=>none
def goM1 (M:Mem σ) (a:Dec α) (r:σ→α→R3) (ins:List SV) (mi:List BE):Option R3:=match M.dec mi,ins with
 | some s,[.ptr 2 0,x]=>match a.dec x with
  | some x=>some (r s x)
  | none=>none
 | _,_=>none
def zok (f:FuncId) (M:Mem σ) (a:Dec α) (vr:List (Nat×TypeId×RL)) (gl:List Nat) (r:σ→α→R3):Ent:=⟨f,true,[0,0],gl,1,vr,goM1 M a r⟩
theorem zkL {f:FuncId} {M:Mem σ} {a:Dec α} {vr:List (Nat×TypeId×RL)} {gl:List Nat} {r:σ→α→R3} (hB:FnB P f) (h:∀ s x,(∀ p∈(r s x).1,p)→FnG P f 1 (M.mi s) [.ptr 2 0,a.can x] (r s x).2.1 (r s x).2.2):zar P (zok f M a vr gl r):=by
 refine ⟨hB,fun ins mi n out mo hg hn=>?_⟩
 change goM1 M a r ins mi=some (n,out,mo) at hg
 unfold goM1 at hg
 split at hg
 case h_2=>simp at hg
 rename_i s x e
 have e:=M.ok _ _ e
 subst e
 split at hg
 case h_2=>simp at hg
 rename_i y ey
 simp only [Option.some.injEq] at hg
 have:=h s y (by rw [hg];exact hn)
 rw [hg] at this
 refine this.pre1 fun E w vals hz hd=>?_
 match vals,hd with
 | [v,u],hd=>exact ⟨hd.1,a.ok _ _ ey E w u hz hd.2.1,trivial⟩
end
theorem fnB {P : Program} {f : FuncId} {fn : Func} (h : P.funcs[f]? = some fn) (h1 : fn.name ≠ "runtime.NumGoroutine") (h2 : fn.body.isSome = true) : FnB P f := ⟨fn, h, h1, h2⟩
theorem zas {P:Program}:∀ e∈([]:List Ent),zar P e:=fun _ h=>by cases h
theorem zah {P:Program} {e:Ent} {tab:List Ent} (h:zar P e) (ht:∀ e∈tab,zar P e):∀ x∈e::tab,zar P x:=by
 intro x hx
 rcases List.mem_cons.1 hx with rfl | hx
 ·exact h
 ·exact ht x hx
theorem zax {tab:List Ent} (h:∀ e∈tab,zar Try.prog e) (kd:TypeId→Option RL):World.Fits Try.prog ⟨kd,orcT tab,fun _ _ _=>none⟩ (zhz Try.prog):=⟨by kernel_rfl,zm7 h kd _,zky tab kd _,zk1 _,zi9 _,fun _ _ _ _ _ _ h=>by cases h⟩
end Go.Proofs.Ytfccndnnpkiajaa
namespace Go.Proofs.Ytfccndnnpkiajaa
open Go.RowKit Go.ChangeShapes Go.WideShapes Go.Deep
def Env.only (E:Env):Env:=⟨E.β,fun i b=>i=0∧E.σ i b,E.φ⟩
theorem Env.only_zero (E:Env):E.only.zero:=fun i b h=>h.1
theorem Env.only_le (E:Env):E.only.Le E:=⟨fun _ _ h=>h,fun _ _ h=>h.2⟩
def o0:SV→Bool
 | .any=>true
 | .int _ _=>true
 | .bool _=>true
 | .str _=>true
 | .nil=>true
 | .sl ls _=>ls.all (Nat.beq 0)
 | _=>false
def o1:SV→Bool
 | .agg vs=>vs.all o0
 | s=>o0 s
section
variable {E : Env} {w : World}
theorem znT {s:SV} {v:Value} (h:o0 s=true) (hd:DenV E w s v):DenV E.only w s v:=by
 cases s with
 | sl ls r=>
  exact Rd.mono hd (fun b _ ⟨i,hi,hs⟩=>⟨i,hi,(Nat.eq_of_beq_eq_true (List.all_eq_true.1 h i hi)).symm,hs⟩)
 | any=>exact hd
 | int k n=>exact hd
 | bool b=>exact hd
 | str s=>exact hd
 | nil=>exact hd
 | _=>simp [o0] at h
theorem zl9:∀ {ss:List SV} {vs:List Value},ss.all o0=true→DenL E w ss vs→DenL E.only w ss vs
 | [],[],_,_=>trivial
 | s::ss,v::vs,h,hd=>by
  rw [List.all_cons,Bool.and_eq_true] at h
  exact ⟨znT h.1 hd.1,zl9 h.2 hd.2⟩
 | [],_::_,_,hd=>hd.elim
 | _::_,[],_,hd=>hd.elim
theorem o1_ok {s:SV} {v:Value} (h:o1 s=true) (hd:DenV E w s v):DenV E.only w s v:=by
 cases s with
 | agg vs=>
  obtain ⟨xs,hv,hl⟩:=hd
  exact ⟨xs,hv,zl9 h hl⟩
 | _=>exact znT h hd
end
section
variable {P : Program} {σ α β γ δ : Type}
def Dec.strict (a:Dec α) (s:SV):Option α:=bif o1 s then a.dec s else none
theorem Dec.strict_ok (a:Dec α) {s:SV} {x:α} (h:a.strict s=some x) {E:Env} {w:World} {v:Value} (hd:DenV E w s v):DenV E w (a.can x) v:=by
 unfold Dec.strict at h
 cases ho:o1 s
 ·rw [ho] at h;cases h
 ·rw [ho] at h
  exact DenV.mono E.only_le (Same.refl _ _) _ _ (a.ok s x h E.only w v E.only_zero (o1_ok ho hd))
theorem FnG.preN {f:FuncId} {nl:Nat} {mi:List BE} {ins ins':List SV} {out:SV} {mo:List BE} (h:FnG P f nl mi ins out mo) (hd:∀ E w vals,DenL E w ins' vals→DenL E w ins vals):FnG P f nl mi ins' out mo:=
 ⟨h.1,fun w E vals hm hv=>h.2 w E vals hm (hd E w vals hv)⟩
def goN0 (M:Mem σ) (r:σ→R3) (ins:List SV) (mi:List BE):Option R3:=match M.dec mi,ins with
 | some s,[.ptr 2 0]=>some (r s)
 | _,_=>none
def goN1 (M:Mem σ) (a:Dec α) (r:σ→α→R3) (ins:List SV) (mi:List BE):Option R3:=match M.dec mi,ins with
 | some s,[.ptr 2 0,x]=>match a.strict x with
  | some x=>some (r s x)
  | none=>none
 | _,_=>none
def goN2 (M:Mem σ) (a:Dec α) (b:Dec β) (r:σ→α→β→R3) (ins:List SV) (mi:List BE):Option R3:=match M.dec mi,ins with
 | some s,[.ptr 2 0,x,y]=>match a.strict x,b.strict y with
  | some x,some y=>some (r s x y)
  | _,_=>none
 | _,_=>none
def goN3 (M:Mem σ) (a:Dec α) (b:Dec β) (c:Dec γ) (r:σ→α→β→γ→R3) (ins:List SV) (mi:List BE):Option R3:=match M.dec mi,ins with
 | some s,[.ptr 2 0,x,y,z]=>match a.strict x,b.strict y,c.strict z with
  | some x,some y,some z=>some (r s x y z)
  | _,_,_=>none
 | _,_=>none
variable {f : FuncId} {M : Mem σ} {a : Dec α} {b : Dec β} {c : Dec γ} {nl : Nat} {al gl : List Nat} {vr : List (Nat × TypeId × RL)}
def zmU (f:FuncId) (nl:Nat) (M:Mem σ) (vr:List (Nat×TypeId×RL)) (al gl:List Nat) (r:σ→R3):Ent:=⟨f,true,al,gl,nl,vr,goN0 M r⟩
def zgf (f:FuncId) (nl:Nat) (M:Mem σ) (a:Dec α) (vr:List (Nat×TypeId×RL)) (al gl:List Nat) (r:σ→α→R3):Ent:=⟨f,true,al,gl,nl,vr,goN1 M a r⟩
def zmT (f:FuncId) (nl:Nat) (M:Mem σ) (a:Dec α) (b:Dec β) (vr:List (Nat×TypeId×RL)) (al gl:List Nat) (r:σ→α→β→R3):Ent:=⟨f,true,al,gl,nl,vr,goN2 M a b r⟩
def zmS (f:FuncId) (nl:Nat) (M:Mem σ) (a:Dec α) (b:Dec β) (c:Dec γ) (vr:List (Nat×TypeId×RL)) (al gl:List Nat) (r:σ→α→β→γ→R3):Ent:=⟨f,true,al,gl,nl,vr,goN3 M a b c r⟩
theorem zgU {r:σ→R3} (hB:FnB P f) (h:∀ s,(∀ p∈(r s).1,p)→FnG P f nl (M.mi s) [.ptr 2 0] (r s).2.1 (r s).2.2):zar P (zmU f nl M vr al gl r):=by
 refine ⟨hB,fun ins mi n out mo hg hn=>?_⟩
 change goN0 M r ins mi=some (n,out,mo) at hg
 unfold goN0 at hg
 split at hg
 case h_2=>simp at hg
 rename_i s e
 have e:=M.ok _ _ e
 subst e
 simp only [Option.some.injEq] at hg
 have:=h s (by rw [hg];exact hn)
 rwa [hg] at this
theorem zck {r:σ→α→R3} (hB:FnB P f) (h:∀ s x,(∀ p∈(r s x).1,p)→FnG P f nl (M.mi s) [.ptr 2 0,a.can x] (r s x).2.1 (r s x).2.2):zar P (zgf f nl M a vr al gl r):=by
 refine ⟨hB,fun ins mi n out mo hg hn=>?_⟩
 change goN1 M a r ins mi=some (n,out,mo) at hg
 unfold goN1 at hg
 split at hg
 case h_2=>simp at hg
 rename_i s x e
 have e:=M.ok _ _ e
 subst e
 split at hg
 case h_2=>simp at hg
 rename_i y ey
 simp only [Option.some.injEq] at hg
 have:=h s y (by rw [hg];exact hn)
 rw [hg] at this
 refine this.preN fun E w vals hd=>?_
 match vals,hd with
 | [v,u],hd=>exact ⟨hd.1,a.strict_ok ey hd.2.1,trivial⟩
theorem zgT {r:σ→α→β→R3} (hB:FnB P f) (h:∀ s x y,(∀ p∈(r s x y).1,p)→FnG P f nl (M.mi s) [.ptr 2 0,a.can x,b.can y] (r s x y).2.1 (r s x y).2.2):zar P (zmT f nl M a b vr al gl r):=by
 refine ⟨hB,fun ins mi n out mo hg hn=>?_⟩
 change goN2 M a b r ins mi=some (n,out,mo) at hg
 unfold goN2 at hg
 split at hg
 case h_2=>simp at hg
 rename_i s x y e
 have e:=M.ok _ _ e
 subst e
 split at hg
 case h_2=>simp at hg
 rename_i p q ep eq
 simp only [Option.some.injEq] at hg
 have:=h s p q (by rw [hg];exact hn)
 rw [hg] at this
 refine this.preN fun E w vals hd=>?_
 match vals,hd with
 | [v,u,t],hd=>exact ⟨hd.1,a.strict_ok ep hd.2.1,b.strict_ok eq hd.2.2.1,trivial⟩
theorem zgS {r:σ→α→β→γ→R3} (hB:FnB P f) (h:∀ s x y z,(∀ p∈(r s x y z).1,p)→FnG P f nl (M.mi s) [.ptr 2 0,a.can x,b.can y,c.can z] (r s x y z).2.1 (r s x y z).2.2):zar P (zmS f nl M a b c vr al gl r):=by
 refine ⟨hB,fun ins mi n out mo hg hn=>?_⟩
 change goN3 M a b c r ins mi=some (n,out,mo) at hg
 unfold goN3 at hg
 split at hg
 case h_2=>simp at hg
 rename_i s x y z e
 have e:=M.ok _ _ e
 subst e
 split at hg
 case h_2=>simp at hg
 rename_i p q t ep eq et
 simp only [Option.some.injEq] at hg
 have:=h s p q t (by rw [hg];exact hn)
 rw [hg] at this
 refine this.preN fun E w vals hd=>?_
 match vals,hd with
 | [v,u,t,k],hd=>exact ⟨hd.1,a.strict_ok ep hd.2.1,b.strict_ok eq hd.2.2.1,c.strict_ok et hd.2.2.2.1,trivial⟩
end
end Go.Proofs.Ytfccndnnpkiajaa
namespace Go.Proofs.Ytfccndnnpkiajaa
open Go.RowKit Go.ChangeShapes Go.WideShapes Go.Deep
end Go.Proofs.Ytfccndnnpkiajaa
namespace Go.Proofs.Ytfccndnnpkiajaa
open Go.RowKit Go.ChangeShapes Go.WideShapes Go.Deep
set_option maxRecDepth 100000
def dByte:Dec Int where
 dec:=fun s=>match s with | .int .u8 n=>some n | _=>none
 can:=fun n=> .int .u8 n
 Okp:=fun n=>0≤n∧n≤255
 okp:=fun n E w v h=>by
  have:=h.2
  simp only [Lit.wf,Bool.and_eq_true,decide_eq_true_eq] at this
  exact this
 ok:=by
  intro s x h E w v _ hd
  split at h
  ·simp only [Option.some.injEq] at h;subst h;exact hd
  ·simp at h
def dBytes:Dec (List Int) where
 dec:=fun s=>match s.asBytes with | some (l,_)=>some l | none=>none
 can:=fun l=> .sl [0] (.rBytes l)
 Okp:=fun l=>zec l
 okp:=fun l E w v h=>by
  have h:Rd w (E.set [0]) (.sl [.int .u8]) v (.sl (ints l)):=h
  obtain ⟨a,c,rfl,hs⟩:=h.sl'
  exact zd7 hs
 ok:=by
  intro s x h E w v hz hd
  split at h
  ·rename_i l m e;simp only [Option.some.injEq] at h;subst h;exact zd9 hz (SV.asBytes_ok e (fun i hi=>hi) hd)
  ·simp at h
def dBools:Dec (List Bool) where
 dec:=fun s=>match s.asBools with | some (l,_)=>some l | none=>none
 can:=fun l=> .sl [0] (.rBools l)
 Okp:=fun l=>l.length≤140737488355328
 okp:=fun l E w v h=>by
  have h:Rd w (E.set [0]) (.sl [.bool]) v (.sl (zbk l)):=h
  obtain ⟨a,c,rfl,hs⟩:=h.sl'
  exact zhd hs
 ok:=by
  intro s x h E w v hz hd
  split at h
  ·rename_i l m e;simp only [Option.some.injEq] at h;subst h;exact zd9 hz (SV.asBools_ok e (fun i hi=>hi) hd)
  ·simp at h
def dStrs:Dec (List ByteArray) where
 dec:=fun s=>match s.asStrs with | some (l,_)=>some l | none=>none
 can:=fun l=> .sl [0] (.rStrs l)
 Okp:=fun l=>zma l
 okp:=fun l E w v h=>by
  have h:Rd w (E.set [0]) (.sl [.str]) v (.sl (strs l)):=h
  obtain ⟨a,c,rfl,hs⟩:=h.sl'
  exact zmo hs
 ok:=by
  intro s x h E w v hz hd
  split at h
  ·rename_i l m e;simp only [Option.some.injEq] at h;subst h;exact zd9 hz (SV.asStrs_ok e (fun i hi=>hi) hd)
  ·simp at h
theorem zko (l:List File) (n:ByteArray):FnC Try.prog 60 [dFiles.can l,dStr.can n] (.int .i64 (zaj l n)) D2:=by
 refine FnC.g2 dFiles dStr l n (fnB Try.func60 (by decide) rfl) fun hl _=>?_
 refine FnG.of_vc (zax zas fun _=>none) Try.func60 rfl (by decide) rfl 300 (p:=fun (V:List PE→Prop)=>True∧True∧V []) (by kernel_rfl) ?_
 have hlen:=hl.1
 simp only [true_and,and_true]
 refine LoopG.head (zax zas fun _=>none) 0 (A:=Nat) (fun j=>j≤l.length∧∀ i,i<j→eqN (l.getD i default).name n=false) (fun j=>[(5,.int .i64 j)]) (fun _=>[]) (fun j=>l.length-j) 0 ⟨Nat.zero_le _,fun i h=>absurd h (by omega)⟩ (p0:=(0:Int)=(↑(0:Nat):Int)∧l=l∧n=n∧True) (by kernel_rfl) ?_ 300 (p:=fun (z:Nat) (V:List PE→Prop)=>let v0:=(↑z:Int);let v1:=(↑(l.length):Int);let v2:=ByteArray.toList (File.name (List.getD l z default))==ByteArray.toList n;let v3:=decide (v0<v1);True∧True∧(v3=true→((0:Int)≤v0∧v0<v1∧True)∧True∧(v2=true→True∧v0=zaj l n∧True)∧(v2=false→True∧V [PE.a,PE.b]))∧(v3=false→True∧(-1:Int)=zaj l n∧True)) (by intro z;kernel_rfl) ?_
 ·simp
 ·rintro j ⟨hj,h0⟩
  simp only [true_and,and_true,decide_eq_true_eq,decide_eq_false_iff_not]
  refine ⟨fun h1=>⟨by omega,fun h2=>?_,fun h2=>?_⟩,fun h1=>?_⟩
  ·exact (zf9 (by omega) h0 h2).symm
  ·refine Back.mk (j+1) ⟨by omega,fun i hi=>?_⟩ (by omega) (p0:=IntKind.wrap IntKind.i64 ((↑j:Int)+(1:Int))=(↑(j+(1:Nat)):Int)∧l=l∧n=n∧True) (by kernel_rfl) ?_
   ·by_cases h:i=j
    ·subst h;exact h2
    ·exact h0 i (by omega)
   ·simp [zb2 (i:=j) (by omega)]
  ·exact (zeq fun i hi=>h0 i (by omega)).symm
noncomputable def zhD:Ent:=ent2 60 dFiles dStr fun l n=>([],.int .i64 (zaj l n),D2)
theorem zcN:zar Try.prog zhD:=zbJ (fnB Try.func60 (by decide) rfl) fun l n _=>zko l n
theorem zmu (l:List File) (f:File) (hl:l.length≤100000):FnC Try.prog 65 [dFiles.can l,dFile.can f] (.sl [0,1] (.rFile (zap f l))) D2:=by
 refine FnG.of_vc (zax zas fun _=>none) Try.func65 rfl (by decide) rfl 300 (p:=fun (V:List PE→Prop)=>True∧True∧True∧True∧V []) (by kernel_rfl) ?_
 simp only [true_and,and_true]
 refine LoopG.head (zax zas fun _=>none) 0 (A:=Nat×Bool×List File) (fun s=>s.1≤l.length∧s.2.2.length≤2*s.1∧s.2.2++(if s.2.1 then za6 (l.drop s.1) f.name else zap f (l.drop s.1))=zap f l) (fun s=>[(7,.int .i64 s.1),(6,.bool s.2.1),(5,.own 901)]) (fun s=>[(901,.row 89 [0] (.rFile s.2.2))]) (fun s=>l.length-s.1) (0,false,[]) ⟨Nat.zero_le _,Nat.zero_le _,rfl⟩ (p0:=(0:Int)=(↑(0:Nat):Int)∧false=false∧l=l∧zoj File∧File.name f=File.name f∧File.bytes f=File.bytes f∧True) (by kernel_rfl) ?_ 300 (p:=fun (z:Nat×Bool×List File) (V:List PE→Prop)=>let v0:=ByteArray.toList (File.name f);let v1:=(↑(l.length):Int);let v2:=(↑(Prod.fst z):Int);let v3:=Prod.snd (Prod.snd z);let v4:=!Prod.fst (Prod.snd z);let v5:=v3.length;let v6:=List.getD l (Prod.fst z) default;let v7:=File.name v6;let v8:=ByteArray.toList v7;let v9:=List.length [v6];let v10:=!v8==v0;let v11:=v3++[f];let v12:=v11.length;let v13:=decide (v2<v1);let v14:=zac v4 (zb3 (File.name f) v7||v0==v8) false;True∧True∧(v13=true→((v4=true→v4=true)∧(v4=true→v4=true)∧(v4=true→v4=true)∧(v4=true→(0:Int)≤v2)∧(v4=true→v2<v1)∧(v4=true→v4=true)∧(v4=true→v4=true)∧(v4=true→v4=true)∧(v4=true→v4=true)∧(v4=true→v4=true)∧True)∧True∧(v14=true→((v5+List.length [f])*(1024:Nat)≤140737488355328∧True)∧True∧((0:Int)≤v2∧v2<v1∧True)∧True∧(v10=true→((0:Int)≤v2∧v2<v1∧(v12+v9)*(1024:Nat)≤140737488355328∧True)∧True∧V [PE.a,PE.a,PE.a])∧(v10=false→True∧V [PE.a,PE.a,PE.b]))∧(v14=false→((0:Int)≤v2∧v2<v1∧True)∧True∧(v10=true→((0:Int)≤v2∧v2<v1∧(v5+v9)*(1024:Nat)≤140737488355328∧True)∧True∧V [PE.a,PE.b,PE.a])∧(v10=false→True∧V [PE.a,PE.b,PE.b])))∧(v13=false→True∧True∧(v4=true→((v5+List.length [f])*(1024:Nat)≤140737488355328∧True)∧True∧v11=zap f l∧v12≤140737488355328∧True)∧(v4=false→True∧v3=zap f l∧v5≤140737488355328∧True))) (by intro z;kernel_rfl) ?_
 ·exact ⟨rfl,rfl,rfl,rfl,rfl,rfl,trivial⟩
 rintro ⟨j,b,out⟩ ⟨hj,ho,he⟩
 dsimp only at hj ho he
 intros
 have e:j<l.length→IntKind.i64.wrap ((j:Int)+1)=((j+1:Nat):Int):=fun h=>zb2 (i:=j) (by omega)
 have e12:(out++[f]).length=out.length+1:=by simp
 refine ⟨trivial,trivial,fun h13=>?_,fun h13=>?_⟩
 ·have hj':j<l.length:=by
   have:(j:Int)<(l.length:Int):=of_decide_eq_true h13
   omega
  have hd:=zcO (d:=default) hj'
  have b1:(0:Int)≤(j:Int):=Int.natCast_nonneg j
  have b2:(j:Int)<(l.length:Int):=by omega
  rw [hd] at he
  refine ⟨⟨id,id,id,fun _=>b1,fun _=>b2,id,id,id,id,id,trivial⟩,trivial,fun h14=>⟨⟨by show (out.length+1)*1024≤_;omega,trivial⟩,trivial,⟨b1,b2,trivial⟩,trivial,fun h10=>⟨⟨b1,b2,by show ((out++[f]).length+1)*1024≤_;omega,trivial⟩,trivial,?_⟩,fun h10=>⟨trivial,?_⟩⟩,fun h14=>⟨⟨b1,b2,trivial⟩,trivial,fun h10=>⟨⟨b1,b2,by show (out.length+1)*1024≤_;omega,trivial⟩,trivial,?_⟩,fun h10=>⟨trivial,?_⟩⟩⟩
  ·obtain ⟨hb,hle⟩:=zl7 h14
   subst hb
   refine Back.mk (j+1,true,out++[f]++[l.getD j default]) ⟨hj',by show (out++[f]++[l.getD j default]).length≤2*(j+1);simp;omega,?_⟩ (zcs hj') (p0:=let v0:=out++[f]++[List.getD l j default];IntKind.wrap IntKind.i64 ((↑j:Int)+(1:Int))=(↑(j+(1:Nat)):Int)∧true=true∧l=l∧v0=v0∧File.name f=File.name f∧File.bytes f=File.bytes f∧True) (by kernel_rfl) ?_
   ·rw [← he]
    exact zix hle h10
   ·have e:=e hj'
    intros
    repeat' apply And.intro
    all_goals first | trivial | exact e | rfl
  ·obtain ⟨hb,hle⟩:=zl7 h14
   subst hb
   refine Back.mk (j+1,true,out++[f]) ⟨hj',by show (out++[f]).length≤2*(j+1);simp;omega,?_⟩ (zcs hj') (p0:=IntKind.wrap IntKind.i64 ((↑j:Int)+(1:Int))=(↑(j+(1:Nat)):Int)∧true=true∧l=l∧out++[f]=out++[f]∧File.name f=File.name f∧File.bytes f=File.bytes f∧True) (by kernel_rfl) ?_
   ·rw [← he]
    exact ziw hle h10
   ·have e:=e hj'
    intros
    repeat' apply And.intro
    all_goals first | trivial | exact e | rfl
  ·refine Back.mk (j+1,b,out++[l.getD j default]) ⟨hj',by show (out++[l.getD j default]).length≤2*(j+1);simp;omega,?_⟩ (zcs hj') (p0:=let v0:=out++[List.getD l j default];IntKind.wrap IntKind.i64 ((↑j:Int)+(1:Int))=(↑(j+(1:Nat)):Int)∧b=b∧l=l∧v0=v0∧File.name f=File.name f∧File.bytes f=File.bytes f∧True) (by kernel_rfl) ?_
   ·rw [← he]
    exact ziv h14 h10
   ·have e:=e hj'
    intros
    repeat' apply And.intro
    all_goals first | trivial | exact e | rfl
  ·have hb:b=true:=ziu h14 h10
   subst hb
   refine Back.mk (j+1,true,out) ⟨hj',by show out.length≤2*(j+1);omega,?_⟩ (zcs hj') (p0:=IntKind.wrap IntKind.i64 ((↑j:Int)+(1:Int))=(↑(j+(1:Nat)):Int)∧true=true∧l=l∧out=out∧File.name f=File.name f∧File.bytes f=File.bytes f∧True) (by kernel_rfl) ?_
   ·rw [← he]
    exact zit h10
   ·have e:=e hj'
    intros
    repeat' apply And.intro
    all_goals first | trivial | exact e | rfl
 ·have hj':j=l.length:=by
   have:¬ (j:Int)<(l.length:Int):=of_decide_eq_false h13
   omega
  subst hj'
  rw [List.drop_length] at he
  refine ⟨trivial,trivial,fun h4=>⟨⟨by show (out.length+1)*1024≤_;omega,trivial⟩,trivial,?_,by show (out++[f]).length≤_;omega,trivial⟩,fun h4=>⟨trivial,?_,by show out.length≤_;omega,trivial⟩⟩
  ·have hb:b=false:=by have h4:(!b)=true:=h4;simpa using h4
   subst hb
   exact he
  ·have hb:b=true:=by have h4:(!b)=false:=h4;simpa using h4
   subst hb
   rw [← he]
   show out=out++[]
   simp
noncomputable def ePut:Ent:=ent2 65 dFiles dFile fun l f=>([l.length≤100000],.sl [0,1] (.rFile (zap f l)),D2)
theorem zgi:zar Try.prog ePut:=zbJ (fnB Try.func65 (by decide) rfl) fun l f h=>zmu l f (h _ (by simp))
theorem zfT (l:List File) (n:ByteArray) (hl:l.length≤100000):FnC Try.prog 71 [dFiles.can l,dStr.can n] (.sl [0,1] (.rFile (za6 l n))) D2:=by
 refine FnG.of_vc (zax zas fun _=>none) Try.func71 rfl (by decide) rfl 300 (p:=fun (V:List PE→Prop)=>True∧True∧True∧V []) (by kernel_rfl) ?_
 simp only [true_and,and_true]
 refine LoopG.head (zax zas fun _=>none) 0 (A:=Nat×List File) (fun s=>s.1≤l.length∧s.2.length≤s.1∧s.2++za6 (l.drop s.1) n=za6 l n) (fun s=>[(6,.int .i64 s.1),(5,.own 901)]) (fun s=>[(901,.row 89 [0] (.rFile s.2))]) (fun s=>l.length-s.1) (0,[]) ⟨Nat.zero_le _,Nat.zero_le _,rfl⟩ (p0:=(0:Int)=(↑(0:Nat):Int)∧l=l∧n=n∧zoj File∧True) (by kernel_rfl) ?_ 300 (p:=fun (z:Nat×List File) (V:List PE→Prop)=>let v0:=(↑(l.length):Int);let v1:=List.length (Prod.snd z);let v2:=(↑(Prod.fst z):Int);let v3:=List.getD l (Prod.fst z) default;let v4:=!ByteArray.toList (File.name v3)==ByteArray.toList n;let v5:=decide (v2<v0);True∧True∧(v5=true→((0:Int)≤v2∧v2<v0∧True)∧True∧(v4=true→((0:Int)≤v2∧v2<v0∧(v1+List.length [v3])*(1024:Nat)≤140737488355328∧True)∧True∧V [PE.a,PE.a])∧(v4=false→True∧V [PE.a,PE.b]))∧(v5=false→True∧Prod.snd z=za6 l n∧v1≤140737488355328∧True)) (by intro z;kernel_rfl) ?_
 ·exact ⟨rfl,rfl,rfl,rfl,trivial⟩
 rintro ⟨j,out⟩ ⟨hj,ho,he⟩
 dsimp only at hj ho he
 intros
 have b1:(0:Int)≤(j:Int):=Int.natCast_nonneg j
 refine ⟨trivial,trivial,fun h5=>?_,fun h5=>?_⟩
 ·have hj':j<l.length:=by
   have:(j:Int)<(l.length:Int):=of_decide_eq_true h5
   omega
  have e:=zb2 (i:=j) (by omega)
  have hd:=zcO (d:=default) hj'
  have b2:(j:Int)<(l.length:Int):=by omega
  rw [hd] at he
  refine ⟨⟨b1,b2,trivial⟩,trivial,fun h4=>⟨⟨b1,b2,by show (out.length+1)*1024≤_;omega,trivial⟩,trivial,?_⟩,fun h4=>⟨trivial,?_⟩⟩
  ·refine Back.mk (j+1,out++[l.getD j default]) ⟨hj',by show (out++[l.getD j default]).length≤j+1;simp;omega,?_⟩ (zcs hj') (p0:=let v0:=out++[List.getD l j default];IntKind.wrap IntKind.i64 ((↑j:Int)+(1:Int))=(↑(j+(1:Nat)):Int)∧l=l∧n=n∧v0=v0∧True) (by kernel_rfl) ?_
   ·rw [← he]
    exact zhI h4
   ·intros
    repeat' apply And.intro
    all_goals first | trivial | exact e | rfl
  ·refine Back.mk (j+1,out) ⟨hj',by show out.length≤j+1;omega,?_⟩ (zcs hj') (p0:=IntKind.wrap IntKind.i64 ((↑j:Int)+(1:Int))=(↑(j+(1:Nat)):Int)∧l=l∧n=n∧out=out∧True) (by kernel_rfl) ?_
   ·rw [← he]
    exact zhH h4
   ·intros
    repeat' apply And.intro
    all_goals first | trivial | exact e | rfl
 ·have hj':j=l.length:=by
   have:¬ (j:Int)<(l.length:Int):=of_decide_eq_false h5
   omega
  subst hj'
  rw [List.drop_length] at he
  exact ⟨trivial,by rw [← he];show out=out++[];simp,by show out.length≤_;omega,trivial⟩
noncomputable def zgV:Ent:=ent2 71 dFiles dStr fun l n=>([l.length≤100000],.sl [0,1] (.rFile (za6 l n)),D2)
theorem zgg:zar Try.prog zgV:=zbJ (fnB Try.func71 (by decide) rfl) fun l n h=>zfT l n (h _ (by simp))
noncomputable def tabDa:List Ent:=[zhD,ePut,zgV]
theorem ze7:∀ e∈tabDa,zar Try.prog e:=zah zcN (zah zgi (zah zgg zas))
theorem zkr (l:List File) (c:DChange) (hl:l.length≤10000) (h0:0≤c.at_) (h1:c.at_≤10000000) (h2:c.bytes.length≤10000000) (h3:(zaf l c.file).length≤100000000):FnC Try.prog 62 [dFiles.can l,dDChange.can c] (.sl [0,1] (.rFile (zad l c))) D2:=by
 refine FnG.of_vc (zax ze7 fun _=>none) Try.func62 rfl (by decide) rfl 300 (p:=fun (V:List PE→Prop)=>let v0:=DChange.at_ c;let v1:=DChange.file c;let v2:=zaj l v1;let v3:=(0:Int);let v4:=DChange.kind c==2;let v5:=DChange.kind c==1;let v6:=decide (v2<v3);let v7:=decide (v2≥v3);let v8:=if v7=true then File.bytes (List.getD l (Int.toNat v2) default) else [];let v9:=(↑(v8.length):Int);let v10:=zac v6 true (decide (v9≤v0));True∧True∧True∧True∧((v7=true→v3≤v2)∧(v7=true→v2<(↑(l.length):Int))∧True)∧True∧True∧True∧(v5=true→True∧True∧V [PE.a])∧(v5=false→True∧True∧(v4=true→(((!v6)=true→(!v6)=true)∧((!v6)=true→(!v6)=true)∧((!v6)=true→(!v6)=true)∧((!v6)=true→(!v6)=true)∧(v6=false→(!v6)=true)∧True)∧True∧(v10=true→True∧l=zad l c∧True)∧(v10=false→(v3≤loOf none∧loOf none≤v0∧v0≤v9∧l.length≤100000∧True)∧zap (File.mk v1 (List.drop (Int.toNat (loOf none)) (List.take (Int.toNat v0) v8))) l=zad l c∧True))∧(v4=false→(l.length≤100000∧True)∧za6 l v1=zad l c∧True))) (by kernel_rfl) ?_
 have e8:(if decide (zaj l c.file≥0)=true then (l.getD (zaj l c.file).toNat default).bytes else [])=zaf l c.file:=by
  unfold zaf
  by_cases h:zaj l c.file<0
  ·rw [if_pos h,if_neg (by rw [decide_eq_false (by omega)];decide)]
  ·rw [if_neg h,if_pos (decide_eq_true (by omega))]
 have hf:=zbj l c.file
 simp only [e8]
 intros
 refine ⟨trivial,trivial,trivial,trivial,⟨of_decide_eq_true,fun _=>hf.2,trivial⟩,trivial,trivial,trivial,fun h4=>⟨trivial,trivial,?_⟩,fun h4=>⟨trivial,trivial,fun h5=>⟨⟨id,id,id,id,fun h=>by rw [h];rfl,trivial⟩,trivial,fun h10=>⟨trivial,?_,trivial⟩,fun h10=>⟨⟨?_,?_,?_,by omega,trivial⟩,?_,trivial⟩⟩,fun h5=>⟨⟨by omega,trivial⟩,?_,trivial⟩⟩⟩
 ·have hk:c.kind=1:=eq_of_beq h4
  have hd:zad l c=zap ⟨c.file,zaB (zaf l c.file) c.at_.toNat c.bytes⟩ l:=by unfold zad;rw [if_pos hk]
  rw [hd]
  clear hd
  refine LoopG.head (zax ze7 fun _=>none) 0 (A:=Nat) (fun j=>(j:Int)≤c.at_) (fun j=>[(8,.int .i64 j),(7,.own 901)]) (fun j=>[(901,.row 5 [] (.rBytes ((List.range j).map fun i=>(zaf l c.file).getD i 0)))]) (fun j=>c.at_.toNat-j) 0 h0 (p0:=let v0:=DChange.file c;let v1:=zaj l v0;let v2:=(0:Int);let v3:=decide (v1≥v2);let v4:=if v3=true then File.bytes (List.getD l (Int.toNat v1) default) else [];v2=(↑(0:Nat):Int)∧v4=v4∧l=l∧List.map (fun (i:Nat)=>List.getD (zaf l v0) i v2) (List.range (0:Nat))=[]∧DChange.kind c=DChange.kind c∧v0=v0∧DChange.at_ c=DChange.at_ c∧DChange.bytes c=DChange.bytes c∧True) (by kernel_rfl) ?_ 300 (p:=fun (z:Nat) (V:List PE→Prop)=>let v0:=(↑z:Int);let v1:=zaj l (DChange.file c);let v2:=(0:Int);let v3:=decide (v0<DChange.at_ c);let v4:=List.length (List.map (fun (i:Nat)=>List.getD (zaf l (DChange.file c)) i v2) (List.range z));let v5:=decide (v1≥v2);let v6:=if v5=true then File.bytes (List.getD l (Int.toNat v1) default) else [];let v7:=(↑(v6.length):Int);let v8:=decide (v0<v7);True∧True∧(v3=true→True∧True∧((v8=true→v2≤v0)∧(v8=true→v0<v7)∧True)∧((v4+List.length [zbc v8 (List.getD v6 z v2) v2])*(1024:Nat)≤140737488355328∧True)∧True∧V [PE.a])∧(v3=false→((v4+List.length (DChange.bytes c))*(1024:Nat)≤140737488355328∧True)∧True∧V [PE.b])) (by intro z;kernel_rfl) ?_
  ·intros
   repeat' apply And.intro
   all_goals first | trivial | rfl
  rintro j hj
  have ha:(c.at_.toNat:Int)=c.at_:=by omega
  have hlj:((List.range j).map fun i=>(zaf l c.file).getD i 0).length=j:=by simp
  intros
  refine ⟨trivial,trivial,fun h3=>⟨trivial,trivial,⟨fun _=>Int.natCast_nonneg _,of_decide_eq_true,trivial⟩,⟨by show (((List.range j).map fun i=>(zaf l c.file).getD i 0).length+1)*1024≤_;omega,trivial⟩,trivial,?_⟩,fun h3=>⟨⟨by show (((List.range j).map fun i=>(zaf l c.file).getD i 0).length+c.bytes.length)*1024≤_;omega,trivial⟩,trivial,?_⟩⟩
  ·have hj':(j:Int)<c.at_:=of_decide_eq_true h3
   have e:=zb2 (i:=j) (by omega)
   have er:((List.range (j+1)).map fun i=>(zaf l c.file).getD i 0)=((List.range j).map fun i=>(zaf l c.file).getD i 0)++[zbc (decide ((j:Int)<((zaf l c.file).length:Int))) ((zaf l c.file).getD j 0) 0]:=by
    rw [zkw,List.range_succ,List.map_append]
    rfl
   rw [← e8] at er
   refine Back.mk (j+1) (by show ((j+1:Nat):Int)≤c.at_;omega) (by show c.at_.toNat-(j+1)<c.at_.toNat-j;omega) (p0:=let v0:=DChange.file c;let v1:=zaj l v0;let v2:=zaf l v0;let v3:=(↑j:Int);let v4:=(0:Int);let v5:=decide (v1≥v4);let v6:=if v5=true then File.bytes (List.getD l (Int.toNat v1) default) else [];let v7:=(↑(v6.length):Int);IntKind.wrap IntKind.i64 (v3+(1:Int))=(↑(j+(1:Nat)):Int)∧v6=v6∧l=l∧List.map (fun (i:Nat)=>List.getD v2 i v4) (List.range j)++[zbc (decide (v3<v7)) (List.getD v6 j v4) v4]=List.map (fun (i:Nat)=>List.getD v2 i v4) (List.range (j+(1:Nat)))∧DChange.kind c=DChange.kind c∧v0=v0∧DChange.at_ c=DChange.at_ c∧DChange.bytes c=DChange.bytes c∧True) (by kernel_rfl) ?_
   simp only [e8] at er ⊢
   intros
   repeat' apply And.intro
   all_goals first | trivial | exact e | exact er.symm | rfl
  ·have hj':j=c.at_.toNat:=by
    have:¬ (j:Int)<c.at_:=of_decide_eq_false h3
    omega
   subst hj'
   obtain ⟨m,hm⟩:∃ m:List Int,((List.range c.at_.toNat).map fun i=>(zaf l c.file).getD i 0)++c.bytes=m:=⟨_,rfl⟩
   have hml:m.length=c.at_.toNat+c.bytes.length:=by rw [← hm];simp
   have hlaid:zaB (zaf l c.file) c.at_.toNat c.bytes=m++(zaf l c.file).drop m.length:=by rw [hml,← hm];rfl
   rw [hlaid]
   refine LoopG.head (zax ze7 fun _=>none) 1 (A:=Nat) (fun k=>m.length+k≤max m.length (zaf l c.file).length) (fun k=>[(10,.int .i64 ((m.length+k:Nat):Int)),(7,.own 902)]) (fun k=>[(902,.row 5 [] (.rBytes (m++((zaf l c.file).drop m.length).take k)))]) (fun k=>(zaf l c.file).length+1-k) 0 (by omega) (p0:=let v0:=DChange.file c;let v1:=DChange.bytes c;let v2:=DChange.at_ c;let v3:=zaj l v0;let v4:=zaf l v0;let v5:=decide (v3≥0);let v6:=List.map (fun (i:Nat)=>List.getD v4 i (0:Int)) (List.range (Int.toNat v2))++v1;let v7:=if v5=true then File.bytes (List.getD l (Int.toNat v3) default) else [];(↑(v6.length):Int)=(↑(m.length+(0:Nat)):Int)∧v7=v7∧l=l∧v6=m++List.take (0:Nat) (List.drop m.length v4)∧DChange.kind c=DChange.kind c∧v0=v0∧v2=v2∧v1=v1∧True) (by kernel_rfl) ?_ 300 (p:=fun (z:Nat) (V:List PE→Prop)=>let v0:=DChange.file c;let v1:=zaj l v0;let v2:=(0:Int);let v3:=List.drop m.length (zaf l v0);let v4:=m.length+z;let v5:=(↑v4:Int);let v6:=decide (v1≥v2);let v7:=m++List.take z v3;let v8:=v7.length;let v9:=if v6=true then File.bytes (List.getD l (Int.toNat v1) default) else [];let v10:=(↑(v9.length):Int);let v11:=decide (v5<v10);True∧True∧(v11=true→(v2≤v5∧v5<v10∧(v8+List.length [List.getD v9 v4 v2])*(1024:Nat)≤140737488355328∧True)∧True∧V [PE.a])∧(v11=false→(v8≤140737488355328∧l.length≤100000∧True)∧zap (File.mk v0 v7) l=zap (File.mk v0 (m++v3)) l∧True)) (by intro z;kernel_rfl) ?_
   ·intros
    refine ⟨by show ((List.length (((List.range c.at_.toNat).map fun i=>(zaf l c.file).getD i 0)++c.bytes):Nat):Int)=((m.length+0:Nat):Int);rw [hm];rfl,rfl,rfl,by rw [List.take_zero,List.append_nil];exact hm,rfl,rfl,rfl,rfl,trivial⟩
   rintro k hk
   have hk:m.length+k≤max m.length (zaf l c.file).length:=hk
   have hlk:(m++((zaf l c.file).drop m.length).take k).length≤200000000:=by
    rw [List.length_append,List.length_take,List.length_drop];omega
   simp only [e8]
   intros
   refine ⟨trivial,trivial,fun h=>?_,fun h=>⟨⟨by show (m++((zaf l c.file).drop m.length).take k).length≤_;omega,by omega,trivial⟩,?_,trivial⟩⟩
   ·have hk':m.length+k<(zaf l c.file).length:=by
     have:((m.length+k:Nat):Int)<((zaf l c.file).length:Int):=of_decide_eq_true h
     omega
    have e:=zb2 (i:=m.length+k) (by omega)
    have er:m++((zaf l c.file).drop m.length).take (k+1)=m++((zaf l c.file).drop m.length).take k++[(zaf l c.file).getD (m.length+k) 0]:=by
     rw [za5 (d:=0) (by rw [List.length_drop];omega),List.append_assoc]
     congr 2
     simp [List.getD,List.getElem?_drop]
    rw [← e8] at er
    refine ⟨⟨Int.natCast_nonneg _,by show ((m.length+k:Nat):Int)<((zaf l c.file).length:Int);omega,by show ((m++((zaf l c.file).drop m.length).take k).length+1)*1024≤_;omega,trivial⟩,trivial,?_⟩
    refine Back.mk (k+1) (by show m.length+(k+1)≤max m.length (zaf l c.file).length;omega) (by show (zaf l c.file).length+1-(k+1)<(zaf l c.file).length+1-k;omega) (p0:=let v0:=DChange.file c;let v1:=m.length;let v2:=zaj l v0;let v3:=List.drop v1 (zaf l v0);let v4:=v1+k;let v5:=decide (v2≥0);let v6:=if v5=true then File.bytes (List.getD l (Int.toNat v2) default) else [];IntKind.wrap IntKind.i64 ((↑v4:Int)+(1:Int))=(↑(v1+(k+(1:Nat))):Int)∧v6=v6∧l=l∧m++List.take k v3++[List.getD v6 v4 (0:Int)]=m++List.take (k+(1:Nat)) v3∧DChange.kind c=DChange.kind c∧v0=v0∧DChange.at_ c=DChange.at_ c∧DChange.bytes c=DChange.bytes c∧True) (by kernel_rfl) ?_
    simp only [e8] at er ⊢
    intros
    repeat' apply And.intro
    all_goals first | trivial | exact e | exact er.symm | rfl
   ·have hk':¬ m.length+k<(zaf l c.file).length:=by
     have:¬ ((m.length+k:Nat):Int)<((zaf l c.file).length:Int):=of_decide_eq_false h
     omega
    show zap ⟨c.file,m++((zaf l c.file).drop m.length).take k⟩ l=zap ⟨c.file,m++(zaf l c.file).drop m.length⟩ l
    rw [List.take_of_length_le (by rw [List.length_drop];omega)]
 ·have hk:c.kind≠1:=fun e=>by
   have:(c.kind==1)=false:=h4
   rw [e] at this;cases this
  have hk2:c.kind=2:=eq_of_beq h5
  unfold zad
  rw [if_neg hk,if_pos hk2,if_pos]
  have h10:zac (decide (zaj l c.file<0)) true (decide (((zaf l c.file).length:Int)≤c.at_))=true:=h10
  by_cases h:zaj l c.file<0
  ·exact .inl h
  ·rw [decide_eq_false h] at h10
   exact .inr (of_decide_eq_true h10)
 ·exact Int.le_refl _
 ·exact h0
 ·have h10:zac (decide (zaj l c.file<0)) true (decide (((zaf l c.file).length:Int)≤c.at_))=false:=h10
  by_cases h:zaj l c.file<0
  ·rw [decide_eq_true h] at h10;cases h10
  ·rw [decide_eq_false h] at h10
   have:=of_decide_eq_false h10
   show c.at_≤((zaf l c.file).length:Int)
   omega
 ·have hk:c.kind≠1:=fun e=>by
   have:(c.kind==1)=false:=h4
   rw [e] at this;cases this
  have hk2:c.kind=2:=eq_of_beq h5
  have h10:zac (decide (zaj l c.file<0)) true (decide (((zaf l c.file).length:Int)≤c.at_))=false:=h10
  unfold zad
  rw [if_neg hk,if_pos hk2,if_neg]
  ·rfl
  ·by_cases h:zaj l c.file<0
   ·rw [decide_eq_true h] at h10;cases h10
   ·rw [decide_eq_false h] at h10
    have:=of_decide_eq_false h10
    omega
 ·have hk:c.kind≠1:=fun e=>by
   have:(c.kind==1)=false:=h4
   rw [e] at this;cases this
  have hk2:c.kind≠2:=fun e=>by
   have:(c.kind==2)=false:=h5
   rw [e] at this;cases this
  unfold zad
  rw [if_neg hk,if_neg hk2]
noncomputable def zkM:Ent:=ent2 62 dFiles dDChange fun l c=>([ChOk l c],.sl [0,1] (.rFile (zad l c)),D2)
theorem zeS:zar Try.prog zkM:=zbJ (fnB Try.func62 (by decide) rfl) fun l c h=>by
 obtain ⟨h1,h2,h3,h4,h5⟩:=h (ChOk l c) (by simp)
 exact zkr l c h1 h2 h3 h4 h5
theorem zhW (b:List Int) (at_ y:Int) (h0:0≤at_) (h1:at_<b.length) (h2:b.length≤100000000):FnC Try.prog 66 [dBytes.can b,dInt.can at_,dByte.can y] (.sl [1] (.rBytes (zaA b at_.toNat y))) D2:=by
 refine FnG.of_vc (zax zas fun _=>none) Try.func66 rfl (by decide) rfl 300 (p:=fun (V:List PE→Prop)=>let v0:=Int.toNat at_;let v1:=b.length;let v2:=List.set b v0 (xorI IntKind.u8 (List.getD b v0 (0:Int)) y);True∧True∧(((0:Nat)+v1)*(1024:Nat)≤140737488355328∧True)∧((0:Int)≤at_∧at_<(↑v1:Int)∧v0<v1∧(0:Int)≤at_∧at_<(↑v1:Int)∧v0<v1∧True)∧True∧v2=zaA b v0 y∧v2.length≤140737488355328∧True) (by kernel_rfl) ?_
 intros
 have h3:at_.toNat<b.length:=by omega
 exact ⟨trivial,trivial,⟨by omega,trivial⟩,⟨h0,h1,h3,h0,h1,h3,trivial⟩,trivial,rfl,by show (b.set _ _).length≤_;rw [List.length_set];omega,trivial⟩
noncomputable def zgh:Ent:=ent3 66 dBytes dInt dByte fun b a y=>([0≤a,a<b.length,b.length≤100000000],.sl [1] (.rBytes (zaA b a.toNat y)),D2)
theorem zes:zar Try.prog zgh:=zmV (fnB Try.func66 (by decide) rfl) fun b a y h=>zhW b a y (h (0≤a) (by simp)) (h (a<(b.length:Int)) (by simp)) (h (b.length≤100000000) (by simp))
end Go.Proofs.Ytfccndnnpkiajaa
