/- Parts of the proof, joined: the symbolic walk and what it is told of each function. Condition: as each theorem says. -/
import Derived.Lib.SliceRun
import Derived.Laws.OwnMore
import Derived.Laws.CopyOwn
import Derived.Lib.AppendStr
import Derived.Laws.StructEq
import Derived.ChangeKeysEq
import Derived.Deep.RegionHeld3
import Derived.StillTailTactics
import Derived.WalkSpells
import Derived.Deep.DeepCutAuto
import Derived.IntWalk
import Derived.Test.YtjfphnegcelbpaaLz2
set_option linter.unusedVariables false
set_option linter.unusedSimpArgs false
set_option linter.unusedSectionVars false
namespace Go.Proofs.Ytjfphnegcelbpaa
open Go.RowKit Go.ChangeShapes Go.WideShapes Go.Deep
theorem zdl {f:Nat→Nat→BE} {m:Nat→BE} {rest:List (Nat×BE)}:∀ (L:List Nat) (k:Nat),zaB L=true→(∀ i t,L[i]? = some t→putF (asg f k L++rest) m t=f (k+i) t)∧(∀ t,t∉L→putF (asg f k L++rest) m t=putF rest m t)
 | [],k,_=>⟨fun i t h=>by simp at h,fun t _=>rfl⟩
 | a::r,k,hn=>by
  simp only [zaB,Bool.and_eq_true,Bool.not_eq_true'] at hn
  obtain ⟨h1,h2⟩:=zdl (f:=f) (m:=m) (rest:=rest) r (k+1) hn.2
  have har:a∉r:=by have:=hn.1;simpa using this
  have e:∀ t,putF (asg f k (a::r)++rest) m t=if t=a then f k a else putF (asg f (k+1) r++rest) m t:=fun t=>rfl
  refine ⟨fun i t h=>?_,fun t h=>?_⟩
  ·cases i with
   | zero=>
    simp only [List.getElem?_cons_zero,Option.some.injEq] at h
    subst h
    rw [e,if_pos rfl,Nat.add_zero]
   | succ i=>
    have h:=h
    simp only [List.getElem?_cons_succ] at h
    have hne:t≠a:=fun e2=>har (e2▸List.mem_of_getElem? h)
    rw [e,if_neg hne,h1 i t h,show k+1+i=k+(i+1) by omega]
  ·simp only [List.mem_cons,not_or] at h
   rw [e,if_neg h.1,h2 t h.2]
theorem zhv:∀ (n c j:Nat),j<n→(blkN c n)[j]? = some (c+j)
 | n+1,c,0,_=>rfl
 | n+1,c,j+1,h=>by rw [blkN,List.getElem?_cons_succ,zhv n (c+1) j (by omega),show c+1+j=c+(j+1) by omega]
 | 0,_,_,h=>by omega
theorem zde:∀ (n c:Nat),zaB (blkN c n)=true
 | 0,_=>rfl
 | n+1,c=>by
  rw [blkN,zaB,Bool.and_eq_true]
  refine ⟨?_,zde n (c+1)⟩
  cases h:(blkN (c+1) n).contains c
  ·rfl
  ·have:=(zaU n (c+1) c).1 (by simpa using h)
   omega
theorem zhL (a b:List (Nat×BE)) (m:Nat→BE):putF (a++b) m=putF a (putF b m):=by
 induction a with
 | nil=>rfl
 | cons x a ih=>obtain ⟨t,e⟩:=x;funext u;show (if u=t then e else putF (a++b) m u)=(if u=t then e else putF a (putF b m) u);rw [ih]
section
variable {P : Program} {base : Nat} {X : Cx} {w0 : World}
theorem Cl.mi_at (q:Cl) {k u:Nat} (h:q.V.T[k]? = some u):mOf q.mi (k+2)=(vwB q.V (q.gl.getD k 0) (q.V.m u)).1:=by
 rw [zbW]
 show ((q.bV.map (·.1))).getD k .empty=_
 have:=zbi (f:=fun l t=>vwB q.V l (q.V.m t)) (ls:=q.gl) h
 have e:q.bV[k]? = some (vwB q.V (q.gl.getD k 0) (q.V.m u)):=this
 simp [List.getD,e]
theorem Cl.mi_out (q:Cl) {k:Nat} (h:q.V.T[k]? = none):mOf q.mi (k+2) = .empty:=by
 rw [zbW]
 show ((q.bV.map (·.1))).getD k .empty=_
 have:q.V.T.length≤k:=by simpa using h
 have hl:q.bV.length=q.V.T.length:=zcj _ _
 simp [List.getD,List.getElem?_eq_none (show q.bV.length≤k by omega)]
theorem ziI {V:Vw} {l:Nat} (e:BE):(vwB V l e).1 ≠ .empty:=by cases e<;>simp [vwB]
theorem Cl.mi_len (q:Cl):q.mi.length=2+q.V.T.length:=by
 have:q.bV.length=q.V.T.length:=zcj _ _
 simp [Cl.mi,this];omega
structure Cl.Good (q:Cl):Prop where
 nd:zaB q.V.T=true
 fl:∀ i i' j,(i,j)∈q.LP→(i',j)∈q.LP→i=i'
 fo:∀ i i' j,(i,j)∈q.OP→(i',j)∈q.OP→i=i'
 bl:∀ i j,(i,j)∈q.LP→i<q.nl
 bo:∀ i j,(i,j)∈q.OP→i<q.nl∧j∉q.V.T
 nl:q.nl≤2+q.V.T.length
 lv:∀ u,u∈q.V.T→(q.V.m u).live=true
 ft:∀ e,e∈q.bV→∀ T vs,e.1 = .cells T vs→vs.all SV.flat=true
theorem ziV {l:List (Nat×Nat)} (h:fnP l=true) {i i' j:Nat} (h1:(i,j)∈l) (h2:(i',j)∈l):i=i':=by
 have:=List.all_eq_true.1 (List.all_eq_true.1 h _ h1) _ h2
 simp only [Bool.or_eq_true,Bool.not_eq_true'] at this
 rcases this with h3 | h3
 ·simp at h3
 ·exact Nat.eq_of_beq_eq_true h3
theorem Cl.good {q:Cl} (h:q.ok=true):q.Good:=by
 simp only [Cl.ok,Bool.and_eq_true] at h
 obtain ⟨⟨⟨⟨⟨⟨⟨h1,h2⟩,h3⟩,h4⟩,h5⟩,h6⟩,h7⟩,h8⟩:=h
 refine ⟨h1,fun i i' j=>ziV h2,fun i i' j=>ziV h3,fun i j hp=>?_,fun i j hp=>?_,Nat.le_of_ble_eq_true h6,fun u hu=>List.all_eq_true.1 h7 u hu,fun e he T vs e2=>?_⟩
 ·have:=List.all_eq_true.1 h4 _ hp
  simp [Nat.blt] at this;omega
 ·have:=List.all_eq_true.1 h5 _ hp
  simp only [Bool.and_eq_true,Bool.not_eq_true'] at this
  exact ⟨by have:=this.1;simp [Nat.blt] at this;omega,by simpa using this.2⟩
 ·have:=List.all_eq_true.1 h8 _ he
  rw [e2] at this;exact this
theorem zjj (V:Vw) (l:Nat) (e:BE):(vwB V l e).1.isO=e.isO:=by cases e<;>rfl
section one
variable {q : Cl} {E : Env} {w : World} (hm : MemOk base X w0 E q.V.m w)
include hm
theorem Cl.hasT (hg:q.Good) {t b:Nat} (h:Has (q.env E) (mOf q.mi) t b):∃ k u,t=k+2∧q.V.T[k]? = some u∧Has E q.V.m u b:=by
 obtain ⟨hl,v,hv,hvb⟩:=h
 match t,hl,hv with
 | 0,hl,_=>cases hl
 | 1,hl,_=>cases hl
 | k+2,hl,hv=>
  have hvb:Fo (q.env E) (k+2) v (mOf q.mi (k+2)) b:=hvb
  have hv:(match q.V.T[k]? with | some u=>E.β u | none=>none)=some v:=hv
  cases hk:q.V.T[k]? with
  | none=>rw [hk] at hv;cases hv
  | some u=>
   rw [hk] at hv
   refine ⟨k,u,rfl,hk,hg.lv u (List.mem_of_getElem? hk),v,hv,?_⟩
   rw [q.mi_at hk] at hvb
   have hvb:=Fo.iff (e:=q.V.m u) (zjj _ _ _) hvb
   cases hmu:q.V.m u with
   | obj o=>
    rw [hmu] at hvb
    have h5:(match q.V.T[k]? with | some u=>E.φ u b | none=>False):=hvb
    rw [hk] at h5;exact h5
   | _=>rw [hmu] at hvb;exact hvb
theorem Cl.memIn (hg:q.Good) (hn:∀ p∈q.needs,p):MemOk w.heap.size (cxIn (q.env E) q.mi q.nl) w (q.env E) (mOf q.mi) w:=by
  have hbV:∀ k u,q.V.T[k]? = some u→vwB q.V (q.gl.getD k 0) (q.V.m u)∈q.bV:=fun k u h=>List.mem_of_getElem? (zbi (f:=fun l t=>vwB q.V l (q.V.m t)) (ls:=q.gl) h)
  have hbn:∀ k u,q.V.T[k]? = some u→∀ p∈(vwB q.V (q.gl.getD k 0) (q.V.m u)).2,p:=fun k u h p hp=>hn p (List.mem_append_right _ (List.mem_flatMap.2 ⟨_,hbV k u h,hp⟩))
  have hbl:∀ k u,q.V.T[k]? = some u→∀ p∈lpB q.V (q.gl.getD k 0) (q.V.m u),p∈q.LP:=fun k u h p hp=>List.mem_append_right _ (List.mem_flatMap.2 ⟨_,List.mem_of_getElem? (zbi (f:=fun l t=>lpB q.V l (q.V.m t)) (ls:=q.gl) h),hp⟩)
  have hbo:∀ k u,q.V.T[k]? = some u→∀ p∈opB q.V (q.gl.getD k 0) (q.V.m u),p∈q.OP:=fun k u h p hp=>List.mem_append_right _ (List.mem_flatMap.2 ⟨_,List.mem_of_getElem? (zbi (f:=fun l t=>opB q.V l (q.V.m t)) (ls:=q.gl) h),hp⟩)
  have hT:∀ t e,mOf q.mi t=e→e ≠ .dead→e ≠ .empty→∃ k u,t=k+2∧q.V.T[k]? = some u∧(vwB q.V (q.gl.getD k 0) (q.V.m u)).1=e:=by
    intro t e he h1 h2
    match t,he with
    | 0,he=>exact absurd he.symm h1
    | 1,he=>exact absurd he.symm h1
    | k+2,he=>
      cases hk:q.V.T[k]? with
      | none=>rw [q.mi_out hk] at he;exact absurd he.symm h2
      | some u=>rw [q.mi_at hk] at he;exact ⟨k,u,rfl,hk,he⟩
  have hβ:∀ k u,q.V.T[k]? = some u→(q.env E).β (k+2)=E.β u:=fun k u hk=>by
    show (match q.V.T[k]? with | some u=>E.β u | none=>none)=_
    rw [hk]
  refine ⟨fun t ht=>?_,fun t T vs ht=>?_,fun t T ls r ht=>?_,fun i b hb=>?_,fun i j b h1 h2=>?_,fun i hi he=>?_,fun t b hb=>?_,fun i b hi hb=>hb,fun t u b h1 h2=>?_,fun t v hv=>?_,BelowX.refl _ _ _,Nat.le_refl _,fun t o ht=>?_⟩
  · match t,ht with
    | 0,ht=>cases ht
    | 1,ht=>cases ht
    | k+2,ht=>
      cases hk:q.V.T[k]? with
      | some u=>rw [q.mi_at hk] at ht;exact absurd ht (ziI _)
      | none=>
        have hlen:q.V.T.length≤k:=by simpa using hk
        refine ⟨?_,fun b hb=>?_⟩
        · show (match q.V.T[k]? with | some u=>E.β u | none=>none)=none
          rw [hk]
        · have:=hg.nl
          rcases hb with ⟨j,hj,_⟩ | ⟨j,hj,_⟩
          · have:=hg.bl _ _ hj;omega
          · have:=(hg.bo _ _ hj).1;omega
  · obtain ⟨k,u,rfl,hk,he⟩:=hT t _ ht (by simp) (by simp)
    cases hmu:q.V.m u with
    | cells T' us=>
      rw [hmu] at he
      simp only [vwB,BE.cells.injEq] at he
      obtain ⟨rfl,rfl⟩:=he
      obtain ⟨b,xs,c1,c2,c3,c4⟩:=hm.cells u _ _ hmu
      have n1:=hbn k u hk;have n2:=hbl k u hk;have n3:=hbo k u hk
      rw [hmu] at n1 n2 n3
      refine ⟨b,xs,(hβ k u hk).trans c1,c2,zcO us xs (fun s hs v hv hp=>Cl.den0 hm (fun p hp=>n2 p (List.mem_flatMap.2 ⟨s,hs,hp⟩)) (fun p hp=>n3 p (List.mem_flatMap.2 ⟨s,hs,hp⟩)) hv hp) c3 n1,?_⟩
      exact hg.ft _ (hbV k u hk) T' _ (by rw [hmu];rfl)
    | row T' ls r=>rw [hmu] at he;simp [vwB] at he
    | obj o=>rw [hmu] at he;simp [vwB] at he
    | dead=>rw [hmu] at he;simp [vwB] at he
    | empty=>rw [hmu] at he;simp [vwB] at he
  · obtain ⟨k,u,rfl,hk,he⟩:=hT t _ ht (by simp) (by simp)
    cases hmu:q.V.m u with
    | row T' ls' r' =>
      rw [hmu] at he
      simp only [vwB,BE.row.injEq] at he
      obtain ⟨rfl,rfl,rfl⟩:=he
      obtain ⟨v,c1,c2⟩:=hm.row u _ _ _ hmu
      have n2:=hbl k u hk
      rw [hmu] at n2
      exact ⟨v,(hβ k u hk).trans c1,c2.mono (Nat.le_refl _) (fun b hb=>Cl.set1 hm (fun i hi=>n2 _ (List.mem_map.2 ⟨i,hi,rfl⟩)) hb)⟩
    | cells T' us=>rw [hmu] at he;simp [vwB] at he
    | obj o=>rw [hmu] at he;simp [vwB] at he
    | dead=>rw [hmu] at he;simp [vwB] at he
    | empty=>rw [hmu] at he;simp [vwB] at he
  · rcases hb with ⟨j,hj,hs⟩ | ⟨t,ht,hh⟩
    · refine ⟨(hm.lab j b hs).1,fun hi=>?_⟩
      have:=hg.bl _ _ hj
      have hi:q.nl≤i:=hi
      omega
    · refine ⟨hm.lt hh,fun hi=>?_⟩
      have:=(hg.bo _ _ ht).1
      have hi:q.nl≤i:=hi
      omega
  · rcases h1 with ⟨j1,hj1,hs1⟩ | ⟨t1,ht1,hh1⟩
    · rcases h2 with ⟨j2,hj2,hs2⟩ | ⟨t2,ht2,hh2⟩
      · have:=hm.dis j1 j2 b hs1 hs2
        subst this
        exact hg.fl _ _ _ hj1 hj2
      · exact absurd ⟨j1,hs1⟩ (hm.sep t2 b hh2).1
    · rcases h2 with ⟨j2,hj2,hs2⟩ | ⟨t2,ht2,hh2⟩
      · exact absurd ⟨j2,hs2⟩ (hm.sep t1 b hh1).1
      · have:=hm.inj t1 t2 b hh1 hh2
        subst this
        exact hg.fo _ _ _ ht1 ht2
  · have hi:i<q.nl:=hi
    have:=hg.nl
    match i,hi,he with
    | 0,_,he=>cases he
    | 1,_,he=>cases he
    | k+2,hi,he=>
      cases hk:q.V.T[k]? with
      | none => have : q.V.T.length ≤ k := by simpa using hk
                omega
      | some u=>rw [q.mi_at hk] at he;exact ziI _ he
  · refine ⟨fun ⟨i,hi⟩=>?_,.inr ⟨t,hb⟩⟩
    obtain ⟨k,u,rfl,hk,hh⟩:=Cl.hasT hm hg hb
    rcases hi with ⟨j,hj,hs⟩ | ⟨t2,ht2,hh2⟩
    · exact (hm.sep u b hh).1 ⟨j,hs⟩
    · have:=hm.inj u t2 b hh hh2
      subst this
      exact (hg.bo _ _ ht2).2 (List.mem_of_getElem? hk)
  · obtain ⟨k1,u1,rfl,hk1,hh1⟩:=Cl.hasT hm hg h1
    obtain ⟨k2,u2,rfl,hk2,hh2⟩:=Cl.hasT hm hg h2
    have:=hm.inj u1 u2 b hh1 hh2
    subst this
    rw [zdo hg.nd hk1 hk2]
  · have hv:(if t<q.mi.length then (q.env E).β t else none)=some v:=hv
    split at hv
    · exact hv
    · cases hv
  · obtain ⟨k,u,rfl,hk,he⟩:=hT t _ ht (by simp) (by simp)
    cases hmu:q.V.m u with
    | obj o' =>
      rw [hmu] at he
      have he:BE.obj o'=BE.obj o:=he
      injection he with he
      subst he
      obtain ⟨b,c1,c2⟩:=hm.obj u _ hmu
      have e:(q.env E).φ (k+2)=E.φ u:=by
        funext x
        show (match q.V.T[k]? with | some u=>E.φ u x | none=>False)=_
        rw [hk]
      exact ⟨b,(hβ k u hk).trans c1,by rw [e];exact c2⟩
    | row T' ls r=>rw [hmu] at he;simp [vwB] at he
    | cells T' us=>rw [hmu] at he;simp [vwB] at he
    | dead=>rw [hmu] at he;simp [vwB] at he
    | empty=>rw [hmu] at he;simp [vwB] at he
end one
end
end Go.Proofs.Ytjfphnegcelbpaa
namespace Go.Proofs.Ytjfphnegcelbpaa
open Go.RowKit Go.ChangeShapes Go.WideShapes Go.Deep
def Cl.back (q:Cl) (E E':Env) (c n:Nat):Env where
 β:=fun t=>if c≤t∧t<c+16 then (if t-c<n-(2+q.V.T.length) then E'.β (2+q.V.T.length+(t-c)) else none) else E.β t
 σ:=fun i b=>if c≤i∧i<c+16 then E'.σ (q.nl+(i-c)) b else E.σ i b
 φ:=fun t=>if c≤t∧t<c+16 then E'.φ (2+q.V.T.length+(t-c)) else (match idxO q.V.T t with
  | some k=>E'.φ (2+k)
  | none=>E.φ t)
theorem zdI {E E':Env} {w:World} {f:SV→SV}:∀ (ss:List SV) (vs:List Value),(∀ s,s∈ss→∀ v,DenV E w s v→DenV E' w (f s) v)→DenL E w ss vs→DenL E' w (ss.map f) vs
 | [],[],_,_=>trivial
 | s::ss,v::vs,hf,h=>⟨hf s (List.mem_cons_self ..) v h.1,zdI ss vs (fun s hs=>hf s (List.mem_cons_of_mem _ hs)) h.2⟩
 | [],_::_,_,h=>h.elim
 | _::_,[],_,h=>h.elim
theorem zhI {q:Cl} {c:Nat} {vs:List SV} (h:vs.all SV.flat=true):(vs.map (rel0 q c)).all SV.flat=true:=by
 simp only [List.all_eq_true,List.mem_map] at *
 rintro x ⟨s,hs,rfl⟩
 have:=h s hs
 cases s<;>first | exact this | rfl
theorem zgr {q:Cl} {c:Nat} (e:BE):relB q c e ≠ .empty:=by cases e<;>simp [relB]
section
variable {P : Program} {base : Nat} {X : Cx} {w0 : World}
theorem Cl.call {q:Cl} {E:Env} {w:World} (hm:MemOk base X w0 E q.V.m w) (hg:q.Good) (hn:∀ p∈q.needs,p) {c:Nat} (hfree:∀ t,c≤t→t<c+16→q.V.m t = .empty) {f:FuncId} {out:SV} {mo:List BE} (hF:FnG P f q.nl q.mi q.ins out mo) (hO:q.okO out mo=true)
    {vals:List Value} (hd:DenL E w q.svs vals):Calls P f vals.toArray w (fun e w'=>∃ v E',e = .returned v∧E.Le E'∧Same E.lab w w'∧DenV E' w' (relV q c out) v∧MemOk base X w0 E' (putF (q.upds c mo) q.V.m) w'):=by
  simp only [Cl.okO,Bool.and_eq_true] at hO
  obtain ⟨⟨⟨hO1,hO2⟩,hO3⟩,hO4⟩:=hO
  have hO3:=Nat.le_of_ble_eq_true hO3
  have hO4:=Nat.le_of_ble_eq_true hO4
  have hin:=Cl.memIn hm hg hn
  have hda:DenL (q.env E) w q.ins vals:=Cl.denA hm q.svs q.al vals (fun p hp=>List.mem_append_left _ hp) (fun p hp=>List.mem_append_left _ hp) hd (fun p hp=>hn p (List.mem_append_left _ hp))
  refine Calls.mono (hF.2 w (q.env E) vals hin hda) ?_
  rintro e' w' ⟨v,E',rfl,hv,hm'⟩
  -- tags of the caller's
  have hlive:∀ u,u∈q.V.T→¬ (c≤u∧u<c+16):=fun u hu ⟨h1,h2⟩=>by
    have:=hg.lv u hu
    rw [hfree u h1 h2] at this;cases this
  have hβE:∀ t,c≤t∧t<c+16→E.β t=none:=fun t h=>(hm.empty t (hfree t h.1 h.2)).1
  have hσE:∀ t b,c≤t∧t<c+16→¬ E.σ t b:=fun t b h=>(hm.empty t (hfree t h.1 h.2)).2 b
  have hbβ:∀ t,¬ (c≤t∧t<c+16)→(q.back E E' c mo.length).β t=E.β t:=fun t h=>by
    show (if _ then _ else E.β t)=_
    rw [if_neg h]
  have hbβn:∀ j,2+q.V.T.length+j<mo.length→(q.back E E' c mo.length).β (c+j)=E'.β (2+q.V.T.length+j):=fun j h=>by
    show (if c≤c+j∧c+j<c+16 then (if c+j-c<mo.length-(2+q.V.T.length) then E'.β (2+q.V.T.length+(c+j-c)) else none) else E.β (c+j))=_
    rw [if_pos ⟨by omega,by omega⟩,if_pos (by omega),show c+j-c=j by omega]
  have hbσ:∀ i b,¬ (c≤i∧i<c+16)→((q.back E E' c mo.length).σ i b↔E.σ i b):=fun i b h=>by
    show (if _ then _ else E.σ i b)↔_
    rw [if_neg h]
  have hbσn:∀ j b,j<16→((q.back E E' c mo.length).σ (c+j) b↔E'.σ (q.nl+j) b):=fun j b h=>by
    show (if c≤c+j∧c+j<c+16 then E'.σ (q.nl+(c+j-c)) b else E.σ (c+j) b)↔_
    rw [if_pos ⟨by omega,by omega⟩,show c+j-c=j by omega]
  have hkeep:∀ k u,q.V.T[k]? = some u→∃ x,E.β u=some x∧E'.β (2+k)=some x:=fun k u hk=>by
    obtain ⟨x,hx,_⟩:=hm.holds (hg.lv u (List.mem_of_getElem? hk))
    refine ⟨x,hx,hm'.keep (2+k) x ?_⟩
    show (if 2+k<q.mi.length then (q.env E).β (2+k) else none)=some x
    have hlt:k<q.V.T.length:=(List.getElem?_eq_some_iff.1 hk).1
    rw [if_pos (by rw [q.mi_len];omega),Nat.add_comm 2 k]
    show (match q.V.T[k]? with | some u=>E.β u | none=>none)=_
    rw [hk];exact hx
  -- a tag of the callee's, as the caller has it
  have htag:∀ t,1<t→t<mo.length→∀ x,E'.β t=some x→(q.back E E' c mo.length).β (relT q c t)=some x:=by
    intro t h1 h2 x hx
    unfold relT
    rw [zci]
    split
    · rename_i hlt
      obtain ⟨k,rfl⟩:∃ k,t=2+k:=⟨t-2,by omega⟩
      have hk:q.V.T[k]? = some (q.V.T[k]'(by omega)):=List.getElem?_eq_getElem (by omega)
      obtain ⟨y,h3,h4⟩:=hkeep k _ hk
      rw [h4] at hx
      have e:q.V.T.getD (2+k-2) 0=q.V.T[k]'(by omega):=by rw [show 2+k-2=k by omega];simp [List.getD,hk]
      rw [e,hbβ _ (hlive _ (List.mem_of_getElem? hk)),h3];exact hx
    · rename_i hge
      have:=hbβn (t-(2+q.V.T.length)) (by omega)
      rw [show 2+q.V.T.length+(t-(2+q.V.T.length))=t by omega] at this
      rw [this];exact hx
  have hset:∀ ls,okLs q ls=true→∀ b,E'.set ls b→(q.back E E' c mo.length).set (relL q c ls) b:=by
    intro ls hls b ⟨i,hi,hs⟩
    have h1:=List.all_eq_true.1 hls i hi
    rw [zci] at h1
    split at h1
    · rename_i hlt
      rcases hm'.old i b hlt hs with ⟨j,hj,hjs⟩ | ⟨t,ht,_⟩
      · refine ⟨j,List.mem_flatMap.2 ⟨i,hi,?_⟩,?_⟩
        · rw [zci,if_pos hlt]
          exact List.mem_map.2 ⟨(i,j),List.mem_filter.2 ⟨hj,by simp⟩,rfl⟩
        · rw [hbσ j b (fun h=>hσE j b h hjs)];exact hjs
      · exfalso
        have h2:(q.OP.any fun p=>Nat.beq p.1 i)=true:=List.any_eq_true.2 ⟨(i,t),ht,by simp⟩
        rw [h2] at h1;cases h1
    · rename_i hge
      have h2:i-q.nl<16:=by simp [Nat.blt] at h1;omega
      refine ⟨c+(i-q.nl),List.mem_flatMap.2 ⟨i,hi,?_⟩,?_⟩
      · rw [zci,if_neg hge];simp
      · rw [hbσn _ b h2,show q.nl+(i-q.nl)=i by omega];exact hs
  have hden0:∀ s,ok0 q mo.length s=true→∀ v,DenV E' w' s v→DenV (q.back E E' c mo.length) w' (rel0 q c s) v:=by
    intro s hs v hv
    cases s
    case sl ls r=>exact Rd.mono hv (fun b _ hb=>hset ls hs b hb)
    case own t=>
      simp only [ok0,Bool.and_eq_true] at hs
      have h1:1<t:=by have:=hs.1;simp [Nat.blt] at this;omega
      have h2:t<mo.length:=by have:=hs.2;simp [Nat.blt] at this;omega
      exact ⟨htag t h1 h2 v hv.1,hv.2⟩
    case ptr t o=>
      simp only [ok0,Bool.and_eq_true] at hs
      have h1:1<t:=by have:=hs.1;simp [Nat.blt] at this;omega
      have h2:t<mo.length:=by have:=hs.2;simp [Nat.blt] at this;omega
      obtain ⟨b,h3,h4⟩:=hv
      exact ⟨b,htag t h1 h2 _ h3,h4⟩
    all_goals first | exact hv | trivial
  have hden1:∀ s,ok1 q mo.length s=true→∀ v,DenV E' w' s v→DenV (q.back E E' c mo.length) w' (rel1 q c s) v:=by
    intro s hs v hv
    cases s
    case agg vs=>
      obtain ⟨xs,h1,h2⟩:=hv
      exact ⟨xs,h1,zdI vs xs (fun s h v hv=>hden0 s (List.all_eq_true.1 hs s h) v hv) h2⟩
    case clo f vs=>
      obtain ⟨xs,h1,h2⟩:=hv
      exact ⟨xs,h1,zdI vs xs (fun s h v hv=>hden0 s (List.all_eq_true.1 hs s h) v hv) h2⟩
    all_goals
      have h2:=fun h=>hden0 _ h v hv
      exact h2 hs
  have hdenV:DenV (q.back E E' c mo.length) w' (relV q c out) v:=by
    cases out
    case tup vs=>
      obtain ⟨xs,h1,h2⟩:=hv
      exact ⟨xs,h1,zdI vs xs (fun s h v hv=>hden1 s (List.all_eq_true.1 hO1 s h) v hv) h2⟩
    all_goals
      have h2:=fun h=>hden1 _ h v hv
      exact h2 hO1
  have hle:E.Le (q.back E E' c mo.length):=⟨fun t x hx=>by
      rw [hbβ t (fun h=>by rw [hβE t h] at hx;cases hx)];exact hx,fun i b hs=>(hbσ i b (fun h=>hσE i b h hs)).2 hs⟩
  have hbx:=hm'.below
  -- blocks that may have been written
  have hX:∀ b,(cxIn (q.env E) q.mi q.nl).X b→∃ u,u∈q.V.T∧Has E q.V.m u b:=by
    rintro b ⟨t,ht⟩
    obtain ⟨k,u,_,hk,hh⟩:=Cl.hasT hm hg ht
    exact ⟨u,List.mem_of_getElem? hk,hh⟩
  have hSame:Same E.lab w w':=⟨hbx.size,fun b hl hlt=>hbx.block b hlt (fun hx=>by
    obtain ⟨u,_,hh⟩:=hX b hx
    exact (hm.sep u b hh).1 hl)⟩
  refine ⟨v,_,rfl,hle,hSame,hdenV,?_⟩
  -- the memory
  have hp1:=zdl (f:=fun k _=>relB q c (mo.getD (2+k) .dead)) (m:=q.V.m) (rest:=asg (fun j _=>relB q c (mo.getD (2+q.V.T.length+j) .dead)) 0 (blkN c 16)) q.V.T 0 hg.nd
  have hp2:=zdl (f:=fun j _=>relB q c (mo.getD (2+q.V.T.length+j) .dead)) (m:=q.V.m) (rest:=[]) (blkN c 16) 0 (zde 16 c)
  rw [List.append_nil] at hp2
  have hmT:∀ k u,q.V.T[k]? = some u→putF (q.upds c mo) q.V.m u=relB q c (mo.getD (2+k) .dead):=fun k u hk=>by
    have:=hp1.1 k u hk
    rw [Nat.zero_add] at this;exact this
  have hmN:∀ j,j<16→putF (q.upds c mo) q.V.m (c+j)=relB q c (mo.getD (2+q.V.T.length+j) .dead):=fun j hj=>by
    have h1:=hp1.2 (c+j) (fun h=>hlive _ h ⟨by omega,by omega⟩)
    have h2:=hp2.1 j (c+j) (zhv 16 c j hj)
    rw [Nat.zero_add] at h2
    exact h1.trans h2
  have hmO:∀ t,t∉q.V.T→¬ (c≤t∧t<c+16)→putF (q.upds c mo) q.V.m t=q.V.m t:=fun t h1 h2=>
    (hp1.2 t h1).trans (hp2.2 t (fun h=>h2 ((zaU 16 c t).1 h)))
  have hrT:∀ k u,q.V.T[k]? = some u→relT q c (2+k)=u:=fun k u hk=>by
    have hlt:k<q.V.T.length:=(List.getElem?_eq_some_iff.1 hk).1
    unfold relT
    rw [zci,if_pos (by omega),show 2+k-2=k by omega]
    simp [List.getD,hk]
  have hrN:∀ j,relT q c (2+q.V.T.length+j)=c+j:=fun j=>by
    unfold relT
    rw [zci,if_neg (by omega),show 2+q.V.T.length+j-(2+q.V.T.length)=j by omega]
  have hφ:∀ t,1<t→t<mo.length→(q.back E E' c mo.length).φ (relT q c t)=E'.φ t:=fun t h1 h2=>by
    by_cases hlt:t<2+q.V.T.length
    · obtain ⟨k,rfl⟩:∃ k,t=2+k:=⟨t-2,by omega⟩
      have hk:q.V.T[k]? = some (q.V.T[k]'(by omega)):=List.getElem?_eq_getElem (by omega)
      generalize q.V.T[k]'(by omega)=u at hk
      rw [hrT k u hk]
      show (if c≤u∧u<c+16 then _ else (match idxO q.V.T u with | some k=>E'.φ (2+k) | none=>E.φ u))=_
      rw [if_neg (hlive u (List.mem_of_getElem? hk))]
      cases hi:idxO q.V.T u with
      | none=>exact absurd (List.mem_of_getElem? hk) (zdM hi)
      | some k'=>rw [zdo hg.nd (zdu hi) hk]
    · obtain ⟨j,rfl⟩:∃ j,t=2+q.V.T.length+j:=⟨t-(2+q.V.T.length),by omega⟩
      rw [hrN j]
      show (if c≤c+j∧c+j<c+16 then E'.φ (2+q.V.T.length+(c+j-c)) else _)=_
      rw [if_pos ⟨by omega,by omega⟩,show c+j-c=j by omega]
  have hφo:∀ t,t∉q.V.T→¬ (c≤t∧t<c+16)→(q.back E E' c mo.length).φ t=E.φ t:=fun t h1 h2=>by
    show (if c≤t∧t<c+16 then _ else (match idxO q.V.T t with | some k=>E'.φ (2+k) | none=>E.φ t))=_
    rw [if_neg h2]
    cases hi:idxO q.V.T t with
    | none=>rfl
    | some k=>exact absurd (List.mem_of_getElem? (zdu hi)) h1
  have hmo:∀ t,t<mo.length→mOf mo t=mo.getD t .dead:=fun t h2=>by
    have hat:mo[t]? = some (mo[t]'h2):=List.getElem?_eq_getElem h2
    rw [zbW];simp [List.getD,hat]
  have hFo:∀ t,1<t→t<mo.length→∀ x b,Fo (q.back E E' c mo.length) (relT q c t) x (relB q c (mo.getD t .dead)) b→(relB q c (mo.getD t .dead)).live=true→Fo E' t x (mOf mo t) b:=by
    intro t h1 h2 x b hf hl
    rw [hmo t h2]
    generalize mo.getD t .dead=e at *
    cases e with
    | empty=>cases hl
    | dead=>cases hl
    | cells T vs=>exact hf
    | row T ls r=>exact hf
    | obj o => have hf : (q.back E E' c mo.length).φ (relT q c t) b := hf
               rw [hφ t h1 h2] at hf;exact hf
  -- what a callee's entry says, in the caller's names
  have hHold:∀ t,1<t→t<mo.length→(relB q c (mo.getD t .dead)).live=true→∃ x,E'.β t=some x∧Holds (q.back E E' c mo.length) w' (relT q c t) x (relB q c (mo.getD t .dead))∧(mOf mo t).live=true:=by
    intro t h1 h2 hl
    have hat:mo[t]? = some (mo[t]'h2):=List.getElem?_eq_getElem h2
    have e1:mo.getD t .dead=mo[t]'h2:=by simp [List.getD,hat]
    have e2:mOf mo t=mo[t]'h2:=by rw [zbW];simp [List.getD,hat]
    rw [e1] at hl ⊢
    rw [e2]
    have hok:okB q mo.length (mo[t]'h2)=true:=List.all_eq_true.1 hO2 _ (List.mem_of_getElem? hat)
    generalize mo[t]'h2=e at *
    cases e with
    | empty=>cases hl
    | dead=>cases hl
    | cells T vs=>
      obtain ⟨b,xs,c1,c2,c3,c4⟩:=hm'.cells t T vs e2
      exact ⟨_,c1,⟨b,xs,rfl,c2,zdI vs xs (fun s hs v hv=>hden0 s (List.all_eq_true.1 hok s hs) v hv) c3,zhI c4⟩,rfl⟩
    | row T ls r=>
      obtain ⟨x,c1,c2⟩:=hm'.row t T ls r e2
      exact ⟨x,c1,c2.mono (Nat.le_refl _) (fun b hb=>hset ls hok b hb),rfl⟩
    | obj o=>
      obtain ⟨b,c1,c2⟩:=hm'.obj t o e2
      exact ⟨_,c1,⟨b,rfl,by rw [hφ t h1 h2];exact c2⟩,rfl⟩
  -- whose block it is
  have hcase:∀ t b,Has (q.back E E' c mo.length) (putF (q.upds c mo) q.V.m) t b→(∃ t',1<t'∧t'<mo.length∧Has E' (mOf mo) t' b∧t=relT q c t')∨(t∉q.V.T∧¬ (c≤t∧t<c+16)∧Has E q.V.m t b):=by
    intro t b ⟨hl,x,hx,hxb⟩
    by_cases ht:t∈q.V.T
    · obtain ⟨k,hk,e⟩:=List.getElem_of_mem ht
      have hk2:q.V.T[k]? = some t:=by rw [← e];exact List.getElem?_eq_getElem hk
      rw [hmT k t hk2] at hl hxb
      obtain ⟨y,h1,_,h3⟩:=hHold (2+k) (by omega) (by omega) hl
      obtain ⟨z,h4,h5⟩:=hkeep k t hk2
      rw [hbβ t (hlive t ht),h4] at hx
      simp only [Option.some.injEq] at hx
      subst hx
      exact .inl ⟨2+k,by omega,by omega,⟨h3,_,h5,hFo (2+k) (by omega) (by omega) _ b (by rw [hrT k t hk2];exact hxb) hl⟩,(hrT k t hk2).symm⟩
    · by_cases hc:c≤t∧t<c+16
      · obtain ⟨j,rfl⟩:∃ j,t=c+j:=⟨t-c,by omega⟩
        rw [hmN j (by omega)] at hl hxb
        have hlt:2+q.V.T.length+j<mo.length:=by
          rcases Nat.lt_or_ge (2+q.V.T.length+j) mo.length with h | h
          · exact h
          · simp [List.getD,List.getElem?_eq_none h,relB,BE.live] at hl
        obtain ⟨y,h1,_,h3⟩:=hHold _ (by omega) hlt hl
        rw [hbβn j hlt,h1] at hx
        simp only [Option.some.injEq] at hx
        subst hx
        exact .inl ⟨_,by omega,hlt,⟨h3,_,h1,hFo _ (by omega) hlt _ b (by rw [hrN j];exact hxb) hl⟩,(hrN j).symm⟩
      · rw [hmO t ht hc] at hl hxb
        rw [hbβ t hc] at hx
        refine .inr ⟨ht,hc,hl,x,hx,?_⟩
        cases hmt:q.V.m t with
        | obj o=>
          rw [hmt] at hxb
          have hxb:(q.back E E' c mo.length).φ t b:=hxb
          rw [hφo t ht hc] at hxb;exact hxb
        | _=>rw [hmt] at hxb;exact hxb
  have hbl:∀ i b,(q.back E E' c mo.length).σ i b→(c≤i∧i<c+16∧E'.σ (q.nl+(i-c)) b)∨(¬ (c≤i∧i<c+16)∧E.σ i b):=fun i b hs=>by
    by_cases hc:c≤i∧i<c+16
    · obtain ⟨j,rfl⟩:∃ j,i=c+j:=⟨i-c,by omega⟩
      rw [hbσn j b (by omega)] at hs
      exact .inl ⟨hc.1,hc.2,by rw [show c+j-c=j by omega];exact hs⟩
    · exact .inr ⟨hc,(hbσ i b hc).1 hs⟩
  -- a block that the callee names is new or handed in
  have hnewL:∀ j b,q.nl≤j→E'.σ j b→w.heap.size≤b∨∃ u,u∈q.V.T∧Has E q.V.m u b:=fun j b hj hs=>((hm'.lab j b hs).2 hj).imp id (hX b)
  have hnewT:∀ t b,Has E' (mOf mo) t b→w.heap.size≤b∨∃ u,u∈q.V.T∧Has E q.V.m u b:=fun t b hh=>((hm'.sep t b hh).2).imp id (hX b)
  refine hm.go hle hSame (fun t=>t∈q.V.T∨(c≤t∧t<c+16)) (fun t ht=>?_) (fun t ht hmt b hs=>?_) (fun t b ht hh=>hbx.block b (hm.lt hh) (fun hx=>?_)) (fun t ht=>?_) (fun i b hs=>?_) (fun i j b h1 h2=>?_) (fun t b hh=>?_) (fun i b hi hs=>?_) (fun t u b h1 h2=>?_)
    ⟨hbx.os,hbx.tape,hbx.output,hbx.size,fun b hlt hnx=>hbx.block b (Nat.lt_of_lt_of_le hlt hm.base) (fun hx=>?_)⟩
  · simp only [not_or] at ht
    exact ⟨hmO t ht.1 ht.2,hbβ t ht.2,hφo t ht.1 ht.2⟩
  · simp only [not_or] at ht
    exact (hm.empty t hmt).2 b ((hbσ t b ht.2).1 hs)
  · simp only [not_or] at ht
    obtain ⟨u,hu,hh2⟩:=hX b hx
    exact ht.1 (hm.inj t u b hh hh2▸hu)
  · by_cases hT:t∈q.V.T
    · obtain ⟨k,hk,e⟩:=List.getElem_of_mem hT
      have hk2:q.V.T[k]? = some t:=by rw [← e];exact List.getElem?_eq_getElem hk
      rw [hmT k t hk2]
      refine ⟨zgr _,fun hl=>?_⟩
      obtain ⟨y,h1,h2,_⟩:=hHold (2+k) (by omega) (by omega) hl
      obtain ⟨z,h4,h5⟩:=hkeep k t hk2
      rw [h5] at h1
      simp only [Option.some.injEq] at h1
      subst h1
      exact ⟨z,by rw [hbβ t (hlive t hT)];exact h4,by rw [hrT k t hk2] at h2;exact h2⟩
    · have hc:=ht.resolve_left hT
      obtain ⟨j,rfl⟩:∃ j,t=c+j:=⟨t-c,by omega⟩
      rw [hmN j (by omega)]
      refine ⟨zgr _,fun hl=>?_⟩
      have hlt:2+q.V.T.length+j<mo.length:=by
        rcases Nat.lt_or_ge (2+q.V.T.length+j) mo.length with h | h
        · exact h
        · simp [List.getD,List.getElem?_eq_none h,relB,BE.live] at hl
      obtain ⟨y,h1,h2,_⟩:=hHold _ (by omega) hlt hl
      exact ⟨y,by rw [hbβn j hlt];exact h1,by rw [hrN j] at h2;exact h2⟩
  · rcases hbl i b hs with ⟨h1,h2,h3⟩ | ⟨h1,h3⟩
    · refine ⟨(hm'.lab _ b h3).1,fun _=>?_⟩
      rcases hnewL _ b (by omega) h3 with h4 | ⟨u,hu,hh⟩
      · exact .inl (Nat.le_trans hm.base h4)
      · exact (hm.sep u b hh).2
    · exact ⟨Nat.lt_of_lt_of_le (hm.lab i b h3).1 hbx.size,(hm.lab i b h3).2⟩
  · have cross:∀ j b,∀ i',E'.σ (q.nl+j) b→E.σ i' b→False:=fun j b i' h3 h4=>by
      rcases hnewL _ b (by omega) h3 with h5 | ⟨u,hu,hh⟩
      · have:=(hm.lab i' b h4).1;omega
      · exact (hm.sep u b hh).1 ⟨i',h4⟩
    rcases hbl i b h1 with ⟨h3,h4,h5⟩ | ⟨h3,h5⟩
    · rcases hbl j b h2 with ⟨h6,h7,h8⟩ | ⟨h6,h8⟩
      · have:=hm'.dis _ _ b h5 h8;omega
      · exact (cross _ b j h5 h8).elim
    · rcases hbl j b h2 with ⟨h6,h7,h8⟩ | ⟨h6,h8⟩
      · exact (cross _ b i h8 h5).elim
      · exact hm.dis i j b h5 h8
  · rcases hcase t b hh with ⟨t',h1,h2,h3,h4⟩ | ⟨h1,h2,h3⟩
    · refine ⟨fun ⟨i,hi⟩=>?_,?_⟩
      · rcases hbl i b hi with ⟨_,_,h5⟩ | ⟨_,h5⟩
        · exact (hm'.sep t' b h3).1 ⟨_,h5⟩
        · rcases hnewT t' b h3 with h6 | ⟨u,hu,hh2⟩
          · have:=(hm.lab i b h5).1;omega
          · exact (hm.sep u b hh2).1 ⟨i,h5⟩
      · rcases hnewT t' b h3 with h6 | ⟨u,hu,hh2⟩
        · exact .inl (Nat.le_trans hm.base h6)
        · exact (hm.sep u b hh2).2
    · refine ⟨fun ⟨i,hi⟩=>?_,(hm.sep t b h3).2⟩
      rcases hbl i b hi with ⟨_,_,h5⟩ | ⟨_,h5⟩
      · rcases hnewL _ b (by omega) h5 with h6 | ⟨u,hu,hh2⟩
        · have:=hm.lt h3;omega
        · exact h1 (hm.inj t u b h3 hh2▸hu)
      · exact (hm.sep t b h3).1 ⟨i,h5⟩
  · rcases hbl i b hs with ⟨h1,h2,_⟩ | ⟨_,h3⟩
    · exact absurd (hfree i h1 h2) (hm.low i hi)
    · exact hm.old i b hi h3
  · rcases hcase t b h1 with ⟨t',a1,a2,a3,a4⟩ | ⟨a1,a2,a3⟩
    · rcases hcase u b h2 with ⟨u',b1,b2,b3,b4⟩ | ⟨b1,b2,b3⟩
      · rw [a4,b4,hm'.inj t' u' b a3 b3]
      · exfalso
        rcases hnewT t' b a3 with h6 | ⟨z,hz,hh2⟩
        · have:=hm.lt b3;omega
        · exact b1 (hm.inj u z b b3 hh2▸hz)
    · rcases hcase u b h2 with ⟨u',b1,b2,b3,b4⟩ | ⟨b1,b2,b3⟩
      · exfalso
        rcases hnewT u' b b3 with h6 | ⟨z,hz,hh2⟩
        · have:=hm.lt a3;omega
        · exact a1 (hm.inj t z b a3 hh2▸hz)
      · exact hm.inj t u b a3 b3
  · obtain ⟨u,_,hh⟩:=hX b hx
    rcases (hm.sep u b hh).2 with h1 | h1
    · omega
    · exact hnx h1
end
end Go.Proofs.Ytjfphnegcelbpaa
namespace Go.Proofs.Ytjfphnegcelbpaa
open Go.RowKit Go.ChangeShapes Go.WideShapes Go.Deep
def zic:BE→Bool
 | .row .. => true
 | _=>false
def za5:BE→List Nat
 | .cells _ vs=>vs.flatMap zaf
 | _=>[]
def zcQ (m:Nat→BE) (svs:List SV):List Nat:=
 dedN [] (svs.flatMap za0++((svs.flatMap za0).flatMap fun t=>za5 (m t)).filter fun t=>zic (m t))
def nrmS:Nat→List (Nat×TypeId×RL)→List SV→List SV×List (Nat×BE)
 | _,[],vs=>(vs,[])
 | c,(i,T,r)::q,vs=>match vs[i]? with
  | some .nil=>((nrmS (c+1) q (vs.set i (.own c))).1,(c,.row T [] r.emp)::(nrmS (c+1) q (vs.set i (.own c))).2)
  | _=>nrmS (c+1) q vs
def zbm:List SV→Option Nat
 | []=>none
 | .ptr t _::_=>some t
 | _::r=>zbm r
def nrm (vr:List (Nat×TypeId×RL)) (c:Nat) (m:Nat→BE) (svs:List SV):List (Nat×BE):=
 match zbm svs with
 | some t=>match m t with
  | .cells T vs=>match (nrmS c vr vs).2 with
   | []=>[]
   | U=>(t,.cells T (nrmS c vr vs).1)::U
  | _=>[]
 | none=>[]
def clOf (e:Ent) (m1:Nat→BE) (svs:List SV):Cl:=⟨⟨m1,match e.wr with | true=>zcQ m1 svs | false=>[]⟩,e.al,e.gl,e.nl,svs⟩
def orcE (e:Ent) (c:Nat) (st:St) (svs:List SV) (U:List (Nat×BE)) (q:Cl):Option Upd:=
 if q.ok&&(blkN c 24).all st.free&&Nat.ble e.vr.length 8 then (match e.go q.ins q.mi with
  | some (n,out,mo)=>if q.okO out mo then some ⟨q.needs++n,relV q (c+8) out,q.upds (c+8) mo++U⟩ else none
  | none=>none) else none
def orcT (tab:List Ent) (c:Nat) (f:FuncId) (st:St) (svs:List SV):Option Upd:=
 match zfH tab f with
 | none=>none
 | some e=>orcE e c st svs (nrm e.vr c st.m svs) (clOf e (putF (nrm e.vr c st.m svs) st.m) svs)
section
variable {P : Program} {base : Nat} {X : Cx} {w0 : World}
theorem zbe:∀ (vr:List (Nat×TypeId×RL)) (c:Nat) (vs:List SV),∀ t e,(t,e)∈(nrmS c vr vs).2→c≤t∧t<c+vr.length∧zic e=true
 | [],c,vs,t,e,h=>by simp [nrmS] at h
 | (i,T,r)::q,c,vs,t,e,h=>by
  simp only [nrmS] at h
  split at h
  ·rcases List.mem_cons.1 h with h1 | h1
   ·cases h1;exact ⟨Nat.le_refl _,by simp,rfl⟩
   ·have:=zbe q (c+1) _ t e h1
    exact ⟨by omega,by simp;omega,this.2.2⟩
  ·have:=zbe q (c+1) _ t e h
   exact ⟨by omega,by simp;omega,this.2.2⟩
theorem zb8 {l:List (Nat×BE)} {m:Nat→BE} {t:Nat} (h:∀ e,(t,e)∉l):putF l m t=m t:=by
 induction l with
 | nil=>rfl
 | cons x l ih=>
  obtain ⟨k,e⟩:=x
  show (if t=k then e else putF l m t)=_
  have hk:t≠k:=fun e2=>h e (by rw [e2];exact List.mem_cons_self ..)
  rw [if_neg hk,ih (fun e he=>h e (List.mem_cons_of_mem _ he))]
theorem zeR {l:List (Nat×BE)} {m:Nat→BE} {t:Nat}:putF l m t=m t∨(t,putF l m t)∈l:=by
 induction l with
 | nil=>exact .inl rfl
 | cons x l ih=>
  obtain ⟨k,e⟩:=x
  show (if t=k then e else putF l m t)=_∨(t,if t=k then e else putF l m t)∈_
  by_cases hk:t=k
  ·rw [if_pos hk];subst hk;exact .inr (List.mem_cons_self ..)
  ·rw [if_neg hk];exact ih.imp id (fun h=>List.mem_cons_of_mem _ h)
theorem zii {vs:List SV} {i:Nat} {s:SV} (h:vs.all SV.flat=true) (hs:s.flat=true):(vs.set i s).all SV.flat=true:=by
 simp only [List.all_eq_true] at *
 intro x hx
 rcases List.mem_or_eq_of_mem_set hx with h1 | h1
 ·exact h x h1
 ·rw [h1];exact hs
theorem DenL.setN {E:Env} {w:World}:∀ {vs:List SV} {xs:List Value} {i c:Nat},DenL E w vs xs→vs[i]? = some .nil→E.β c=some (.slice none 0 0)→DenL E w (vs.set i (.own c)) xs
 | s::vs,x::xs,0,c,h,hi,hc=>by
  simp only [List.getElem?_cons_zero,Option.some.injEq] at hi
  subst hi
  have:x = .slice none 0 0:=h.1
  subst this
  exact ⟨⟨hc,rfl⟩,h.2⟩
 | s::vs,x::xs,i+1,c,h,hi,hc=>⟨h.1,DenL.setN (vs:=vs) (xs:=xs) h.2 (by simpa using hi) hc⟩
 | [],_,_,_,_,hi,_=>by simp at hi
 | _::_,[],_,_,h,_,_=>h.elim
theorem zem {T0:TypeId} {t0:Nat} {w:World}:∀ (vr:List (Nat×TypeId×RL)) (c:Nat) (vs:List SV) (E:Env) (m:Nat→BE),MemOk base X w0 E m w→m t0 = .cells T0 vs→(∀ t,c≤t→t<c+vr.length→m t = .empty) →
  ∃ E',E.Le E'∧(∀ i b,E'.σ i b→E.σ i b)∧MemOk base X w0 E' (putF ((t0,.cells T0 (nrmS c vr vs).1)::(nrmS c vr vs).2) m) w
 | [],c,vs,E,m,hm,ht,hf=>by
  refine ⟨E,Env.Le.refl E,fun _ _ h=>h,?_⟩
  have:putF ((t0,.cells T0 (nrmS c [] vs).1)::(nrmS c [] vs).2) m=m:=by
   funext u
   show (if u=t0 then _ else m u)=m u
   by_cases h:u=t0
   ·subst h;rw [if_pos rfl,ht];rfl
   ·rw [if_neg h]
  rw [this];exact hm
 | (i,T,r)::q,c,vs,E,m,hm,ht,hf=>by
  simp only [nrmS]
  split
  ·rename_i hi
   have hce:m c = .empty:=hf c (Nat.le_refl _) (by simp)
   have hct:t0≠c:=fun e=>by rw [e,hce] at ht;cases ht
   have hβc:=(hm.empty c hce).1
   have hm1:=hm.take (w':=w) hce (.slice none 0 0) (.row T [] r.emp) (by simp) (Nat.le_refl _) (fun _ _=>rfl) (BelowX.refl _ _ _) (fun b hb=>by simp [zar] at hb) (by show OwnR _ _ _ _ _ _ _;rw [r.emp_ok.1];exact OwnR.nil _ _ _ _ _)
   have hm2:MemOk base X w0 (E.setβ c (.slice none 0 0)) (upd (upd m c (.row T [] r.emp)) t0 (.cells T0 (vs.set i (.own c)))) w:=by
    refine hm1.weak fun t=>?_
    by_cases h:t=t0
    ·subst h
     rw [zat,zax _ _ hct,ht]
     refine .inr (.inr ⟨rfl,rfl,rfl,fun v hv=>?_⟩)
     obtain ⟨b,xs,h1,h2,h3,h4⟩:=hv
     exact ⟨b,xs,h1,h2,DenL.setN h3 hi (if_pos rfl),zii h4 rfl⟩
    ·rw [zax _ _ h];exact .inl rfl
   obtain ⟨E',h1,h2,h3⟩:=zem q (c+1) (vs.set i (.own c)) _ _ hm2 (zat _ _ _) (fun t h1 h2=>by
    have hne:t≠t0:=fun e=>by
     have:=hf t (by omega) (by simp;omega)
     rw [e,ht] at this;cases this
    rw [zax _ _ hne,zax _ _ (by omega)]
    exact hf t (by omega) (by simp;omega))
   refine ⟨E',(Env.setβ_le hβc _).trans h1,h2,?_⟩
   have e:putF ((t0,.cells T0 (nrmS (c+1) q (vs.set i (.own c))).1)::(nrmS (c+1) q (vs.set i (.own c))).2) (upd (upd m c (.row T [] r.emp)) t0 (.cells T0 (vs.set i (.own c))))=putF ((t0,.cells T0 (nrmS (c+1) q (vs.set i (.own c))).1)::(c,.row T [] r.emp)::(nrmS (c+1) q (vs.set i (.own c))).2) m:=by
    funext u
    show (if u=t0 then _ else _)=(if u=t0 then _ else if u=c then _ else _)
    by_cases hu:u=t0
    ·rw [if_pos hu,if_pos hu]
    ·rw [if_neg hu,if_neg hu]
     by_cases hc:u=c
     ·subst hc
      rw [if_pos rfl,zb8 (fun e he=>by have:=(zbe q (u+1) _ u e he).1;omega),zax _ _ hu,zat]
     ·rw [if_neg hc]
      rcases zeR (l:=(nrmS (c+1) q (vs.set i (.own c))).2) (m:=m) (t:=u) with h5 | h5
      ·by_cases hk:∃ e,(u,e)∈(nrmS (c+1) q (vs.set i (.own c))).2
       ·have key:∀ (l:List (Nat×BE)) (m m2:Nat→BE),(∃ e,(u,e)∈l)→putF l m u=putF l m2 u:=by
         intro l m m2 ⟨e,he⟩
         exact zc3 l m m2 u (List.mem_map.2 ⟨_,he,rfl⟩)
        exact key _ _ _ hk
       ·rw [h5,zb8 (fun e he=>hk ⟨e,he⟩),zax _ _ hu,zax _ _ hc]
      ·exact zc3 _ _ _ u (List.mem_map.2 ⟨_,h5,rfl⟩)
   rw [← e];exact h3
  ·obtain ⟨E',h1,h2,h3⟩:=zem q (c+1) vs E m hm ht (fun t h1 h2=>hf t (by omega) (by simp;omega))
   exact ⟨E',h1,h2,h3⟩
theorem zkG {vr:List (Nat×TypeId×RL)} {c:Nat} {svs:List SV} {w:World} {E:Env} {m:Nat→BE} (hm:MemOk base X w0 E m w) (hf:∀ t,c≤t→t<c+vr.length→m t = .empty) :
  ∃ E',E.Le E'∧(∀ i b,E'.σ i b→E.σ i b)∧MemOk base X w0 E' (putF (nrm vr c m svs) m) w:=by
 unfold nrm
 have h0:∃ E',E.Le E'∧(∀ i b,E'.σ i b→E.σ i b)∧MemOk base X w0 E' (putF [] m) w:=⟨E,Env.Le.refl E,fun _ _ h=>h,hm⟩
 split
 ·split
  ·rename_i T vs ht
   split
   ·exact h0
   ·exact zem vr c vs E m hm ht hf
  ·exact h0
 ·exact h0
theorem zj0 {tab:List Ent} (ht:∀ e∈tab,zak P e) (kd:TypeId→Option RL) (ow:FuncId→St→List SV→Option (List Prop×List Nat×SV)):zcM P ⟨kd,orcT tab,ow⟩:=by
 intro c f st svs u hu
 have hu2:orcT tab c f st svs=some u:=hu
 clear hu
 have hu:=hu2
 clear hu2
 unfold orcT at hu
 split at hu
 case h_1=>simp at hu
 rename_i e he
 obtain ⟨hin,rfl⟩:=zdS he
 obtain ⟨hB,hE⟩:=ht e hin
 refine ⟨hB,fun base X w0 E w vals hm hd hn=>?_⟩
 unfold orcE at hu
 split at hu
 case isFalse=>simp at hu
 rename_i hck
 simp only [Bool.and_eq_true] at hck
 obtain ⟨⟨hok,hfr⟩,hvr⟩:=hck
 split at hu
 case h_2=>simp at hu
 rename_i n out mo hgo
 split at hu
 case isFalse=>simp at hu
 rename_i hO
 simp only [Option.some.injEq] at hu
 subst hu
 have hfree:∀ t,c≤t→t<c+24→st.m t = .empty:=fun t h1 h2=>St.of_free (List.all_eq_true.1 hfr t ((zaU 24 c t).2 ⟨h1,h2⟩))
 have hvl:=Nat.le_of_ble_eq_true hvr
 obtain ⟨E1,hE1,hσ1,hm1⟩:=zkG (vr:=e.vr) (svs:=svs) hm (fun t h1 h2=>hfree t h1 (by omega))
 have hS1:Same E.lab w w:=Same.rfl'
 have hnk:∀ t,c+8≤t→t<c+24→putF (nrm e.vr c st.m svs) st.m t = .empty:=by
  intro t h1 h2
  rw [zb8]
  ·exact hfree t (by omega) h2
  ·intro e' he'
   unfold nrm at he'
   split at he'
   ·split at he'
    ·rename_i t0 _ T vs hmt
     split at he'
     ·cases he'
     ·rcases List.mem_cons.1 he' with h3 | h3
      ·cases h3
       have:=hfree t (by omega) h2
       rw [hmt] at this;cases this
      ·have:=zbe e.vr c vs t e' h3;omega
    ·cases he'
   ·cases he'
 have hcall:=Cl.call (q:=clOf e (putF (nrm e.vr c st.m svs) st.m) svs) hm1 (Cl.good hok) (fun p hp=>hn p (List.mem_append_left _ hp)) (c:=c+8) (fun t h1 h2=>hnk t h1 (by omega)) (hE _ _ n out mo hgo (fun p hp=>hn p (List.mem_append_right _ hp))) hO (DenL.mono hE1 hS1 _ _ hd)
 refine Calls.mono hcall ?_
 rintro e' w' ⟨v,E',h1,h2,h3,h4,h5⟩
 refine ⟨v,E',h1,hE1.trans h2,⟨h3.size,fun b hl=>h3.block b (by obtain ⟨i,hi⟩:=hl;exact ⟨i,hE1.σ i b hi⟩)⟩,h4,?_⟩
 rw [zhL];exact h5
theorem zeA {m m':Nat→BE} {T:List Nat} {l:Nat} {s:SV} (h:∀ t,t∈zaf s→m t=m' t):vw0 ⟨m,T⟩ l s=vw0 ⟨m',T⟩ l s∧lp0 ⟨m,T⟩ l s=lp0 ⟨m',T⟩ l s∧op0 ⟨m,T⟩ l s=op0 ⟨m',T⟩ l s:=by
 cases s
 case own t=>simp only [vw0,lp0,op0,h t (by simp [zaf])];refine ⟨?_,?_,?_⟩<;>first | rfl | trivial
 all_goals exact ⟨rfl,rfl,rfl⟩
theorem zfT {f g:SV→SV×List Prop}:∀ (ss:List SV),(∀ s,s∈ss→f s=g s)→vwL f ss=vwL g ss
 | [],_=>rfl
 | s::ss,h=>by rw [vwL,vwL,h s (List.mem_cons_self ..),zfT ss (fun s hs=>h s (List.mem_cons_of_mem _ hs))]
theorem zaF {α β:Type} {f g:α→List β}:∀ (ss:List α),(∀ s,s∈ss→f s=g s)→ss.flatMap f=ss.flatMap g
 | [],_=>rfl
 | s::ss,h=>by rw [List.flatMap_cons,List.flatMap_cons,h s (List.mem_cons_self ..),zaF ss (fun s hs=>h s (List.mem_cons_of_mem _ hs))]
theorem ze9 {m m':Nat→BE} {T:List Nat} {l:Nat} (vs:List SV) (h:∀ t,t∈vs.flatMap zaf→m t=m' t):vwL (vw0 ⟨m,T⟩ l) vs=vwL (vw0 ⟨m',T⟩ l) vs∧vs.flatMap (lp0 ⟨m,T⟩ l)=vs.flatMap (lp0 ⟨m',T⟩ l)∧vs.flatMap (op0 ⟨m,T⟩ l)=vs.flatMap (op0 ⟨m',T⟩ l):=by
 have key:∀ s,s∈vs→∀ t,t∈zaf s→m t=m' t:=fun s hs t ht=>h t (List.mem_flatMap.2 ⟨s,hs,ht⟩)
 exact ⟨zfT vs (fun s hs=>(zeA (key s hs)).1),zaF vs (fun s hs=>(zeA (key s hs)).2.1),zaF vs (fun s hs=>(zeA (key s hs)).2.2)⟩
def Deep (m m':Nat→BE) (ts:List Nat):Prop:=∀ t,t∈ts→m t=m' t∧∀ u,u∈za5 (m t)→m u=m' u
theorem ze8 {m m':Nat→BE} {T:List Nat} {l:Nat} {s:SV} (h:Deep m m' (svR s)):vwR ⟨m,T⟩ l s=vwR ⟨m',T⟩ l s∧lpR ⟨m,T⟩ l s=lpR ⟨m',T⟩ l s∧opR ⟨m,T⟩ l s=opR ⟨m',T⟩ l s:=by
 have k0:∀ s,(∀ V l,vwR V l s=vw0 V l s∧lpR V l s=lp0 V l s∧opR V l s=op0 V l s)→svR s=zaf s→Deep m m' (svR s)→vwR ⟨m,T⟩ l s=vwR ⟨m',T⟩ l s∧lpR ⟨m,T⟩ l s=lpR ⟨m',T⟩ l s∧opR ⟨m,T⟩ l s=opR ⟨m',T⟩ l s:=by
  intro s h1 h2 h3
  obtain ⟨a1,a2,a3⟩:=h1 ⟨m,T⟩ l
  obtain ⟨b1,b2,b3⟩:=h1 ⟨m',T⟩ l
  rw [a1,a2,a3,b1,b2,b3]
  exact zeA (fun t ht=>(h3 t (h2▸ht)).1)
 cases s
 case ptr t o=>
  obtain ⟨h1,h2⟩:=h t (by simp [svR,zaf])
  simp only [vwR,lpR,opR,← h1]
  cases idxO T t with
  | some k=>exact ⟨rfl,rfl,rfl⟩
  | none=>
   cases hm:m t with
   | cells Tb vs=>
    rw [hm] at h2
    obtain ⟨e1,e2,e3⟩:=ze9 (T:=T) (l:=l) vs h2
    simp only [e1,e2,e3];exact ⟨trivial,trivial,trivial⟩
   | _=>exact ⟨rfl,rfl,rfl⟩
 case rp ls Tb vs o=>
  obtain ⟨e1,e2,e3⟩:=ze9 (m:=m) (m':=m') (T:=T) (l:=l) vs (fun t ht=>(h t ht).1)
  simp only [vwR,lpR,opR,e1,e2,e3];exact ⟨trivial,trivial,trivial⟩
 case ro ls ob=>exact ⟨rfl,rfl,rfl⟩
 all_goals exact k0 _ (fun V l=>⟨rfl,rfl,rfl⟩) rfl h
theorem zfV {m m':Nat→BE} {T:List Nat} {l:Nat} {s:SV} (h:Deep m m' (za0 s)):vw1 ⟨m,T⟩ l s=vw1 ⟨m',T⟩ l s∧lp1 ⟨m,T⟩ l s=lp1 ⟨m',T⟩ l s∧op1 ⟨m,T⟩ l s=op1 ⟨m',T⟩ l s:=by
 have k0:∀ s,(∀ V l,vw1 V l s=vwR V l s∧lp1 V l s=lpR V l s∧op1 V l s=opR V l s)→za0 s=svR s→Deep m m' (za0 s)→vw1 ⟨m,T⟩ l s=vw1 ⟨m',T⟩ l s∧lp1 ⟨m,T⟩ l s=lp1 ⟨m',T⟩ l s∧op1 ⟨m,T⟩ l s=op1 ⟨m',T⟩ l s:=by
  intro s h1 h2 h3
  obtain ⟨a1,a2,a3⟩:=h1 ⟨m,T⟩ l
  obtain ⟨b1,b2,b3⟩:=h1 ⟨m',T⟩ l
  rw [a1,a2,a3,b1,b2,b3]
  exact ze8 (h2▸h3)
 cases s
 case agg vs=>
  obtain ⟨e1,e2,e3⟩:=ze9 (m:=m) (m':=m') (T:=T) (l:=l) vs (fun t ht=>(h t ht).1)
  simp only [vw1,lp1,op1,e1,e2,e3];exact ⟨trivial,trivial,trivial⟩
 case clo f vs=>
  have key:∀ s,s∈vs→Deep m m' (svR s):=fun s hs t ht=>h t (List.mem_flatMap.2 ⟨s,hs,ht⟩)
  have e1:=zfT vs (fun s hs=>(ze8 (T:=T) (l:=l) (key s hs)).1)
  have e2:=zaF vs (fun s hs=>(ze8 (T:=T) (l:=l) (key s hs)).2.1)
  have e3:=zaF vs (fun s hs=>(ze8 (T:=T) (l:=l) (key s hs)).2.2)
  simp only [vw1,lp1,op1,e1,e2,e3];exact ⟨trivial,trivial,trivial⟩
 case gd g s=>exact ⟨rfl,rfl,rfl⟩
 all_goals exact k0 _ (fun V l=>⟨rfl,rfl,rfl⟩) rfl h
theorem zfU {m m':Nat→BE} {T:List Nat} {l t:Nat} (h:m t=m' t) (h2:∀ u,u∈za5 (m t)→m u=m' u):vwB ⟨m,T⟩ l (m t)=vwB ⟨m',T⟩ l (m' t)∧lpB ⟨m,T⟩ l (m t)=lpB ⟨m',T⟩ l (m' t)∧opB ⟨m,T⟩ l (m t)=opB ⟨m',T⟩ l (m' t):=by
 rw [← h]
 cases hm:m t with
 | cells Tb vs=>
  rw [hm] at h2
  obtain ⟨e1,e2,e3⟩:=ze9 (T:=T) (l:=l) vs h2
  simp only [vwB,lpB,opB,e1,e2,e3];exact ⟨trivial,trivial,trivial⟩
 | _=>exact ⟨rfl,rfl,rfl⟩
theorem zaX {α β:Type} {f g:Nat→α→β}:∀ (xs:List α) (ls:List Nat),(∀ l x,x∈xs→f l x=g l x)→zipL f xs ls=zipL g xs ls
 | [],_,_=>rfl
 | x::r,[],h=>by rw [zipL,zipL,h 0 x (List.mem_cons_self ..),zaX r [] (fun l y hy=>h l y (List.mem_cons_of_mem _ hy))]
 | x::r,l::ls,h=>by rw [zipL,zipL,h l x (List.mem_cons_self ..),zaX r ls (fun l y hy=>h l y (List.mem_cons_of_mem _ hy))]
theorem zd0:∀ (l seen:List Nat) (t:Nat),t∈dedN seen l→t∈l
 | [],_,_,h=>by simp [dedN] at h
 | a::r,seen,t,h=>by
  rw [dedN] at h
  cases hc:seen.contains a
  ·rw [hc] at h
   simp only [cond_false] at h
   rcases List.mem_cons.1 h with h1 | h1
   ·rw [h1];exact List.mem_cons_self ..
   ·exact List.mem_cons_of_mem _ (zd0 r _ t h1)
  ·rw [hc] at h
   exact List.mem_cons_of_mem _ (zd0 r _ t h)
theorem zkd {e:Ent} {m m':Nat→BE} {svs:List SV} (h:Deep m m' (svs.flatMap za0)):(clOf e m svs).V.T=(clOf e m' svs).V.T∧(clOf e m svs).aV=(clOf e m' svs).aV∧(clOf e m svs).bV=(clOf e m' svs).bV∧(clOf e m svs).LP=(clOf e m' svs).LP∧(clOf e m svs).OP=(clOf e m' svs).OP∧(∀ u,u∈(clOf e m svs).V.T→m u=m' u):=by
 have hT2:((svs.flatMap za0).flatMap fun t=>za5 (m t))=((svs.flatMap za0).flatMap fun t=>za5 (m' t)):=zaF _ (fun t ht=>by rw [(h t ht).1])
 have hin:∀ u,u∈((svs.flatMap za0).flatMap fun t=>za5 (m t))→m u=m' u:=fun u hu=>by
  obtain ⟨t,ht,h2⟩:=List.mem_flatMap.1 hu
  exact (h t ht).2 u h2
 have hfil:(((svs.flatMap za0).flatMap fun t=>za5 (m t)).filter fun t=>zic (m t))=(((svs.flatMap za0).flatMap fun t=>za5 (m' t)).filter fun t=>zic (m' t)):=by
  rw [← hT2]
  refine List.filter_congr fun u hu=>?_
  rw [hin u hu]
 have hT:zcQ m svs=zcQ m' svs:=by unfold zcQ;rw [hfil]
 -- a tag of T
 have hmT:∀ u,u∈zcQ m svs→m u=m' u∧∀ x,x∈za5 (m u)→m x=m' x:=by
  intro u hu
  rcases List.mem_append.1 (zd0 _ _ u hu) with h1 | h1
  ·exact h u h1
  ·obtain ⟨h2,h3⟩:=List.mem_filter.1 h1
   refine ⟨hin u h2,fun x hx=>?_⟩
   cases hm:m u with
   | row=>rw [hm] at hx;cases hx
   | _=>rw [hm] at h3;cases h3
 have hV:(clOf e m svs).V.T=(clOf e m' svs).V.T:=by
  unfold clOf
  cases e.wr with
  | false=>rfl
  | true=>exact hT
 have hmV:∀ u,u∈(clOf e m svs).V.T→m u=m' u∧∀ x,x∈za5 (m u)→m x=m' x:=by
  intro u hu
  have hu:u∈(match e.wr with | true=>zcQ m svs | false=>[]):=hu
  cases hw:e.wr with
  | false=>rw [hw] at hu;cases hu
  | true=>rw [hw] at hu;exact hmT u hu
 have e1:(clOf e m' svs).V=⟨m',(clOf e m svs).V.T⟩:=by rw [hV];rfl
 have e0:(clOf e m svs).V=⟨m,(clOf e m svs).V.T⟩:=rfl
 have hd:∀ s,s∈svs→Deep m m' (za0 s):=fun s hs t ht=>h t (List.mem_flatMap.2 ⟨s,hs,ht⟩)
 have a1:∀ l s,s∈svs→vw1 (clOf e m svs).V l s=vw1 (clOf e m' svs).V l s:=fun l s hs=>by rw [e1,e0];exact (zfV (hd s hs)).1
 have a2:∀ l s,s∈svs→lp1 (clOf e m svs).V l s=lp1 (clOf e m' svs).V l s:=fun l s hs=>by rw [e1,e0];exact (zfV (hd s hs)).2.1
 have a3:∀ l s,s∈svs→op1 (clOf e m svs).V l s=op1 (clOf e m' svs).V l s:=fun l s hs=>by rw [e1,e0];exact (zfV (hd s hs)).2.2
 have b1:∀ l t,t∈(clOf e m svs).V.T→vwB (clOf e m svs).V l (m t)=vwB (clOf e m' svs).V l (m' t):=fun l t ht=>by rw [e1,e0];exact (zfU (hmV t ht).1 (hmV t ht).2).1
 have b2:∀ l t,t∈(clOf e m svs).V.T→lpB (clOf e m svs).V l (m t)=lpB (clOf e m' svs).V l (m' t):=fun l t ht=>by rw [e1,e0];exact (zfU (hmV t ht).1 (hmV t ht).2).2.1
 have b3:∀ l t,t∈(clOf e m svs).V.T→opB (clOf e m svs).V l (m t)=opB (clOf e m' svs).V l (m' t):=fun l t ht=>by rw [e1,e0];exact (zfU (hmV t ht).1 (hmV t ht).2).2.2
 refine ⟨hV,zaX _ _ a1,?_,?_,?_,fun u hu=>(hmV u hu).1⟩
 ·show zipL (fun l t=>vwB (clOf e m svs).V l (m t)) (clOf e m svs).V.T e.gl=zipL (fun l t=>vwB (clOf e m' svs).V l (m' t)) (clOf e m' svs).V.T e.gl
  rw [← hV];exact zaX _ _ b1
 ·show (zipL (fun l s=>lp1 (clOf e m svs).V l s) svs e.al).flatMap id++(zipL (fun l t=>lpB (clOf e m svs).V l (m t)) (clOf e m svs).V.T e.gl).flatMap id=(zipL (fun l s=>lp1 (clOf e m' svs).V l s) svs e.al).flatMap id++(zipL (fun l t=>lpB (clOf e m' svs).V l (m' t)) (clOf e m' svs).V.T e.gl).flatMap id
  rw [← hV,zaX _ _ a2,zaX _ _ b2]
 ·show (zipL (fun l s=>op1 (clOf e m svs).V l s) svs e.al).flatMap id++(zipL (fun l t=>opB (clOf e m svs).V l (m t)) (clOf e m svs).V.T e.gl).flatMap id=(zipL (fun l s=>op1 (clOf e m' svs).V l s) svs e.al).flatMap id++(zipL (fun l t=>opB (clOf e m' svs).V l (m' t)) (clOf e m' svs).V.T e.gl).flatMap id
  rw [← hV,zaX _ _ a3,zaX _ _ b3]
theorem zj1 {e:Ent} {c:Nat} {a b:St} {svs:List SV} {U:List (Nat×BE)} {q q':Cl} (hf:(blkN c 24).all a.free=(blkN c 24).all b.free) (h1:q.V.T=q'.V.T) (h2:q.aV=q'.aV) (h3:q.bV=q'.bV) (h4:q.LP=q'.LP) (h5:q.OP=q'.OP) (h6:∀ u,u∈q.V.T→q.V.m u=q'.V.m u) (h7:q.nl=q'.nl) :
  orcE e c a svs U q=orcE e c b svs U q':=by
 have k1:q.ok=q'.ok:=by
  unfold Cl.ok
  rw [h1,h3,h4,h5,h7]
  have:(q'.V.T.all fun u=>(q.V.m u).live)=(q'.V.T.all fun u=>(q'.V.m u).live):=by
   rw [Bool.eq_iff_iff,List.all_eq_true,List.all_eq_true]
   exact ⟨fun h u hu=>by rw [← h6 u (h1▸hu)];exact h u hu,fun h u hu=>by rw [h6 u (h1▸hu)];exact h u hu⟩
  rw [this]
 have k2:q.ins=q'.ins:=by unfold Cl.ins;rw [h2]
 have k3:q.mi=q'.mi:=by unfold Cl.mi;rw [h3]
 have k4:q.needs=q'.needs:=by unfold Cl.needs;rw [h2,h3]
 have r1:∀ c ls,relL q c ls=relL q' c ls:=fun c ls=>by unfold relL;rw [h4,h7]
 have r2:∀ c t,relT q c t=relT q' c t:=fun c t=>by unfold relT;rw [h1]
 have r3:∀ c,rel0 q c=rel0 q' c:=fun c=>by funext s;cases s<;>simp only [rel0,r1,r2]
 have r4:∀ c,rel1 q c=rel1 q' c:=fun c=>by
  funext s
  unfold rel1
  rw [r3]
 have r5:∀ c,relV q c=relV q' c:=fun c=>by
  funext s
  unfold relV
  rw [r4]
 have r6:∀ c,relB q c=relB q' c:=fun c=>by
  funext s
  cases s<;>simp only [relB,r3,r1]
 have o1:okLs q=okLs q':=by funext ls;unfold okLs;rw [h5,h7]
 have o2:ok0 q=ok0 q':=by funext n s;cases s<;>simp only [ok0,o1]
 have o3:ok1 q=ok1 q':=by funext n s;unfold ok1;rw [o2]
 have o4:okV q=okV q':=by funext n s;unfold okV;rw [o3]
 have o5:okB q=okB q':=by funext n s;cases s<;>simp only [okB,o1,o2]
 have o6:∀ out mo,q.okO out mo=q'.okO out mo:=fun out mo=>by unfold Cl.okO;rw [o4,o5,h1]
 have u1:∀ c mo,q.upds c mo=q'.upds c mo:=fun c mo=>by unfold Cl.upds;rw [h1,r6]
 unfold orcE
 rw [k1,hf,k2,k3]
 simp only [o6,k4,r5,u1]
theorem zce:∀ {svs:List SV} {t:Nat},zbm svs=some t→t∈svs.flatMap za0
 | [],_,h=>by simp [zbm] at h
 | s::r,t,h=>by
  unfold zbm at h
  split at h
  ·cases h
  ·rename_i t2 o r2 e
   simp only [Option.some.injEq] at h
   subst h
   cases e
   exact List.mem_flatMap.2 ⟨_,List.mem_cons_self ..,by simp [za0,svR,zaf]⟩
  ·rename_i x r2 hx e
   cases e
   obtain ⟨s2,h1,h2⟩:=List.mem_flatMap.1 (zce h)
   exact List.mem_flatMap.2 ⟨s2,List.mem_cons_of_mem _ h1,h2⟩
theorem zc5:∀ (vr:List (Nat×TypeId×RL)) (c:Nat) (vs:List SV) (u:Nat),u∈(nrmS c vr vs).1.flatMap zaf→u∈vs.flatMap zaf∨(c≤u∧u<c+vr.length)
 | [],c,vs,u,h=> .inl h
 | (i,T,r)::q,c,vs,u,h=>by
  simp only [nrmS] at h
  split at h
  ·rcases zc5 q (c+1) _ u h with h1 | h1
   ·obtain ⟨s,h2,h3⟩:=List.mem_flatMap.1 h1
    rcases List.mem_or_eq_of_mem_set h2 with h4 | h4
    ·exact .inl (List.mem_flatMap.2 ⟨s,h4,h3⟩)
    ·subst h4
     simp only [zaf,List.mem_singleton] at h3
     subst h3
     exact .inr ⟨Nat.le_refl _,by simp⟩
   ·exact .inr ⟨by omega,by simp;omega⟩
  ·rcases zc5 q (c+1) _ u h with h1 | h1
   ·exact .inl h1
   ·exact .inr ⟨by omega,by simp;omega⟩
theorem zhP (tab:List Ent) (kd:TypeId→Option RL) (ow:FuncId→St→List SV→Option (List Prop×List Nat×SV)):zdg ⟨kd,orcT tab,ow⟩:=by
 intro c f a b svs hl h
 show orcT tab c f a svs=orcT tab c f b svs
 unfold orcT
 cases zfH tab f with
 | none=>rfl
 | some e=>
  simp only
  have hfree:(blkN c 24).all a.free=(blkN c 24).all b.free:=by
   have:∀ t,t∈blkN c 24→a.free t=b.free t:=fun t ht=>by simp only [St.free,h t (.inl ht)]
   rw [Bool.eq_iff_iff,List.all_eq_true,List.all_eq_true]
   exact ⟨fun h2 t ht=>by rw [← this t ht];exact h2 t ht,fun h2 t ht=>by rw [this t ht];exact h2 t ht⟩
  by_cases hv:Nat.ble e.vr.length 8=true
  ·have hvl:=Nat.le_of_ble_eq_true hv
   have h1:∀ t,t∈svs.flatMap za0→a.m t=b.m t:=fun t ht=>h t (.inr (List.mem_append_left _ ht))
   have h2:∀ t,t∈svs.flatMap za0→∀ u,u∈za5 (a.m t)→a.m u=b.m u:=fun t ht u hu=>h u (.inr (List.mem_append_right _ (List.mem_flatMap.2 ⟨t,ht,by
    unfold za5 at hu
    split at hu
    ·rename_i e2;rw [e2];exact hu
    ·cases hu⟩)))
   have hU:nrm e.vr c a.m svs=nrm e.vr c b.m svs:=by
    unfold nrm
    cases hp:zbm svs with
    | none=>rfl
    | some t=>simp only;rw [h1 t (zce hp)]
   rw [← hU]
   have hag:∀ t,(a.m t=b.m t)→putF (nrm e.vr c a.m svs) a.m t=putF (nrm e.vr c a.m svs) b.m t:=by
    intro t ht
    by_cases hk:∃ e',(t,e')∈nrm e.vr c a.m svs
    ·obtain ⟨e',he'⟩:=hk
     exact zc3 _ _ _ t (List.mem_map.2 ⟨_,he',rfl⟩)
    ·rw [zb8 (fun e' he'=>hk ⟨e',he'⟩),zb8 (fun e' he'=>hk ⟨e',he'⟩)];exact ht
   have hblk:∀ t,c≤t→t<c+24→a.m t=b.m t:=fun t h3 h4=>h t (.inl ((zaU 24 c t).2 ⟨h3,h4⟩))
   have hdeep:Deep (putF (nrm e.vr c a.m svs) a.m) (putF (nrm e.vr c a.m svs) b.m) (svs.flatMap za0):=by
    intro t ht
    refine ⟨hag t (h1 t ht),fun u hu=>hag u ?_⟩
    rcases zeR (l:=nrm e.vr c a.m svs) (m:=a.m) (t:=t) with h3 | h3
    ·rw [h3] at hu;exact h2 t ht u hu
    ·generalize putF (nrm e.vr c a.m svs) a.m t=y at h3 hu
     unfold nrm at h3
     split at h3
     ·rename_i t0 hp
      split at h3
      ·rename_i T vs hmt
       split at h3
       ·cases h3
       ·rcases List.mem_cons.1 h3 with h4 | h4
        ·cases h4
         rcases zc5 e.vr c vs u hu with h5 | h5
         ·exact h2 t ht u (by rw [hmt];exact h5)
         ·exact hblk u h5.1 (by omega)
        ·have:=(zbe e.vr c vs t y h4).2.2
         cases y with
         | row=>cases hu
         | _=>cases this
      ·cases h3
     ·cases h3
   obtain ⟨k1,k2,k3,k4,k5,k6⟩:=zkd (e:=e) hdeep
   exact zj1 hfree k1 k2 k3 k4 k5 k6 rfl
  ·unfold orcE
   have:Nat.ble e.vr.length 8=false:=by cases hb:Nat.ble e.vr.length 8<;>simp_all
   rw [this];simp
end
end Go.Proofs.Ytjfphnegcelbpaa
namespace Go.Proofs.Ytjfphnegcelbpaa
open Go.RowKit Go.ChangeShapes Go.WideShapes Go.Deep
section ops
variable {P : Program} {base : Nat} {X : Cx} {w0 : World} {st : St}
theorem OwnR.put {w:World} {T:TypeId} {S S2:Nat→Prop} {fs:List Ty} {g n c:Nat} {rows:List (List D)} (h:OwnR 0 w T S fs (.slice (some ⟨g,0,none⟩) n c) rows) {i off:Nat} (hi:i<rows.length) {xs zs:List Value} {ds:List D} {cur:Array Value} (hg:w.heap[g]? = some (.cells cur T (0,0)))
  (hx:xs=(cur.toList.drop (i*fs.length)).take fs.length) (ho:off+zs.length≤fs.length) (hd:RdL w (fun b=>S2 b∧b≠g) fs (xs.take off++zs++xs.drop (off+zs.length)) ds) :
  OwnR 0 (w.setRow g (cur.toList.take (i*fs.length+off)++zs++cur.toList.drop (i*fs.length+off+zs.length)).toArray) T (fun b=>S b∨S2 b) fs (.slice (some ⟨g,0,none⟩) n c) (rows.set i ds):=by
 obtain ⟨cells,ho2,hr⟩:=h
 rcases ho2.2 with ⟨e,_⟩ | ⟨g2,cap,cur2,e,_,hg2,hnc,hcm,hcs,htake⟩
 ·simp at e
 simp only [Value.slice.injEq,Option.some.injEq,Addr.mk.injEq,and_true] at e
 obtain ⟨rfl,rfl,rfl⟩:=e
 rw [hg] at hg2
 simp only [Option.some.injEq,Obj.cells.injEq,and_true,true_and] at hg2
 subst hg2
 have hkey:∀ j,j<rows.length→j*fs.length+fs.length≤rows.length*fs.length:=fun j hj=>by
  have:(j+1)*fs.length≤rows.length*fs.length:=Nat.mul_le_mul_right _ hj
  rwa [Nat.add_mul,Nat.one_mul] at this
 have hcl:cells.length=rows.length*fs.length:=ho2.1
 have hcurl:rows.length*fs.length≤cur.toList.length:=by
  have h0:cur.toList.length=cur.size:=Array.length_toList
  rw [h0,hcs];exact Nat.mul_le_mul_right _ hnc
 generalize hN:(cur.toList.take (i*fs.length+off)++zs++cur.toList.drop (i*fs.length+off+zs.length))=N
 have hk:=hkey i hi
 have hNl:N.length=cur.toList.length:=by rw [← hN];simp;simp at hcurl;omega
 -- the cells anew
 have hat:∀ m,N[m]? = if m<i*fs.length+off then cur.toList[m]? else if m<i*fs.length+off+zs.length then zs[m-(i*fs.length+off)]? else cur.toList[m]? := by
  intro m
  have hll:(cur.toList.take (i*fs.length+off)).length=i*fs.length+off:=by simp;simp at hcurl;omega
  rw [← hN,List.append_assoc]
  by_cases h1:m<i*fs.length+off
  ·rw [if_pos h1,List.getElem?_append_left (by omega),List.getElem?_take,if_pos h1]
  ·rw [if_neg h1,List.getElem?_append_right (by omega),hll]
   by_cases h2:m<i*fs.length+off+zs.length
   ·rw [if_pos h2,List.getElem?_append_left (by omega)]
   ·rw [if_neg h2,List.getElem?_append_right (by omega),List.getElem?_drop]
    congr 1;omega
 have hS:Same (fun b=>b≠g) w (w.setRow g N.toArray):=⟨by simp,fun b hb _=>setRow_other w g b _ hb⟩
 refine ⟨N.take (rows.length*fs.length),⟨?_,.inr ⟨g,c,N.toArray,by simp,Nat.zero_le _,setRow_heap w g cur _ T _ hg,by simpa using hnc,hcm,by simp [hNl,hcs],by simp⟩⟩,fun j hj=>?_⟩
 ·simp [hNl];simp at hcurl;omega
 ·rw [List.length_set] at hj
  have hkj:=hkey j hj
  have e1:((N.take (rows.length*fs.length)).drop (j*fs.length)).take fs.length=(N.drop (j*fs.length)).take fs.length:=by
   apply List.ext_getElem?
   intro m
   simp only [List.getElem?_take,List.getElem?_drop]
   by_cases hm:m<fs.length
   ·rw [if_pos hm,if_pos hm,if_pos (by omega)]
   ·rw [if_neg hm,if_neg hm]
  rw [e1]
  by_cases hji:j=i
  ·subst hji
   have e2:(rows.set j ds).getD j []=ds:=by simp [List.getD,hj]
   have e3:(N.drop (j*fs.length)).take fs.length=xs.take off++zs++xs.drop (off+zs.length):=by
    apply List.ext_getElem?
    intro m
    have hxl:xs.length=fs.length:=by rw [hx];simp;simp at hcurl;omega
    rw [List.getElem?_take,List.getElem?_drop,hat,List.append_assoc]
    have hxa:∀ m,m<fs.length→xs[m]? = cur.toList[j*fs.length+m]? := fun m hm=>by rw [hx,List.getElem?_take,if_pos hm,List.getElem?_drop]
    by_cases hm:m<fs.length
    ·rw [if_pos hm]
     by_cases h1:m<off
     ·rw [if_pos (by omega),List.getElem?_append_left (by simp;omega),List.getElem?_take,if_pos h1,hxa m hm]
     ·rw [if_neg (by omega),List.getElem?_append_right (by simp;omega)]
      have hll:(xs.take off).length=off:=by simp;omega
      rw [hll]
      by_cases h2:m<off+zs.length
      ·rw [if_pos (by omega),List.getElem?_append_left (by omega)];congr 1;omega
      ·rw [if_neg (by omega),List.getElem?_append_right (by omega),List.getElem?_drop,show off+zs.length+(m-off-zs.length)=m by omega,hxa m hm]
    ·rw [if_neg hm,List.getElem?_eq_none]
     simp;omega
   rw [e2,e3]
   exact (hd.mono (fun b _ hb=>(⟨.inr hb.1,fun e=>hb.2 (by simpa [Value.ownBlock] using e.symm)⟩:(S b∨S2 b)∧Value.ownBlock (.slice (some ⟨g,0,none⟩) rows.length c)≠some b))).same (hS.mono fun b hb e=>hb.2 (by subst e;rfl))
  ·have hne:¬ i=j:=fun e=>hji e.symm
   have e2:(rows.set i ds).getD j []=rows.getD j []:=by simp [List.getD,List.getElem?_set,hne]
   have e3:(N.drop (j*fs.length)).take fs.length=(cells.drop (j*fs.length)).take fs.length:=by
    apply List.ext_getElem?
    intro m
    simp only [List.getElem?_take,List.getElem?_drop]
    by_cases hm:m<fs.length
    ·rw [if_pos hm,if_pos hm,← htake,List.getElem?_take,if_pos (show j*fs.length+m<rows.length*fs.length by omega),hat]
     rcases Nat.lt_or_gt_of_ne hji with h1 | h1
     ·have:(j+1)*fs.length≤i*fs.length:=Nat.mul_le_mul_right _ h1
      rw [Nat.add_mul,Nat.one_mul] at this
      rw [if_pos (by omega)]
     ·have:(i+1)*fs.length≤j*fs.length:=Nat.mul_le_mul_right _ h1
      rw [Nat.add_mul,Nat.one_mul] at this
      rw [if_neg (by omega),if_neg (by omega)]
    ·rw [if_neg hm,if_neg hm]
   rw [e2,e3]
   exact ((hr j hj).mono (fun b _ hb=>(⟨.inl hb.1,hb.2⟩:(S b∨S2 b)∧Value.ownBlock (.slice (some ⟨g,0,none⟩) rows.length c)≠some b))).same (hS.mono fun b hb e=>hb.2 (by subst e;rfl))
def cPut (P:Program) (st:St) (T:TypeId) (x y:Operand):Option Upd:=
 match zad (st.ev x),zad (st.ev y),zaD P T with
 | (.oel t sz i off,n1),(s,n2),some k=>match st.m t with
  | .row Tb ls r=>if sz=r.tys.length then (if s.cells.all SV.flat then (if s.cells.length=k then (if off+k≤sz then (match r.put i (zc1 (r.elem ls i) s.cells off) with
   | some (r2,m)=>some ⟨n1++n2++[i<r.len],.any,[(t,.row Tb (ls++m) r2)]⟩
   | none=>none) else none) else none) else none) else none
  | _=>none
 | _,_,_=>none
theorem zkl (o:Oper) (T:TypeId) (x y:Operand) (ho:o.op = .store T x y) {u:Upd} (hu:cPut P st T x y=some u):Does P base X w0 st o u:=by
 unfold cPut at hu
 split at hu
 case h_2=>simp at hu
 rename_i t sz i off n1 s n2 k e1 e2 e3
 split at hu
 case h_2=>simp at hu
 rename_i Tb ls r hm
 split at hu
 case isFalse=>simp at hu
 split at hu
 case isFalse=>simp at hu
 split at hu
 case isFalse=>simp at hu
 split at hu
 case isFalse=>simp at hu
 split at hu
 case h_2=>simp at hu
 rename_i hsz hf hk hl _ r2 m hput
 simp only [Option.some.injEq] at hu
 subst hu
 subst hsz
 intro E a w K Q h hn hK
 have h1:=zac (h.ev x) (fun p hp=>hn p (by rw [e1] at hp;simp [hp]))
 have h2:=zac (h.ev y) (fun p hp=>hn p (by rw [e2] at hp;simp [hp]))
 have hi:i<r.len:=hn (i<r.len) (by simp)
 rw [e1] at h1
 rw [e2] at h2
 obtain ⟨zs,hz,hzd⟩:=zcr hf h2
 obtain ⟨b,q,c,hb,hx⟩:=h1
 obtain ⟨v',c1,c2⟩:=h.mem.row t _ _ _ hm
 rw [c1] at hb
 simp only [Option.some.injEq] at hb
 subst hb
 have hzl:zs.length=k:=by rw [hzd.len];exact hk
 have hrl:r.rows.length=r.len:=r.rows_len
 obtain ⟨cells,hoR,hrow⟩:=c2
 rcases hoR.2 with ⟨e,_⟩ | ⟨g,cap,cur,e,_,hg,hnc,hcm,hcs,htake⟩
 ·simp at e
 simp only [Value.slice.injEq,Option.some.injEq,Addr.mk.injEq,and_true] at e
 obtain ⟨rfl,rfl,rfl⟩:=e
 have hki:i*r.tys.length+r.tys.length≤cur.size:=by
  rw [hcs]
  have h3:(i+1)*r.tys.length≤r.rows.length*r.tys.length:=Nat.mul_le_mul_right _ (by omega)
  have h4:r.rows.length*r.tys.length≤c*r.tys.length:=Nat.mul_le_mul_right _ hnc
  rw [Nat.add_mul,Nat.one_mul] at h3
  omega
 have hrun:=zb6 (P:=P) e3 hz hzl (xs:=cur.toList) (b:=b) (off:=i*r.tys.length+off) (Tb:=Tb) (by simpa using hg) (by have h0:cur.toList.length=cur.size:=Array.length_toList;omega) (DenL.ones hf hzd)
 have hHas:Has E st.m t b:=Has.row hm c1 rfl
 have hsep:=(h.mem.sep t b hHas).1
 have hne:∀ g,zar (.slice (some ⟨b,0,none⟩) r.rows.length c)≠some g→g≠b:=by intro g hg e;exact hg (by simp [zar,e])
 generalize hw':w.setRow b (cur.toList.take (i*r.tys.length+off)++zs++cur.toList.drop (i*r.tys.length+off+zs.length)).toArray=w' at hrun
 have hS:Same E.lab w w':=by
  rw [← hw']
  exact ⟨by simp,fun g hg _=>setRow_other w b g _ (fun e=>hsep (e▸hg))⟩
 -- the element's cells
 have hL:RdL w (E.set ls) r.tys ((cells.drop (i*r.tys.length)).take r.tys.length) (r.rows.getD i []):=(hrow i (by omega)).mono fun b _ hb=>hb.1
 have hcx:(cells.drop (i*r.tys.length)).take r.tys.length=(cur.toList.drop (i*r.tys.length)).take r.tys.length:=by
  rw [← htake]
  apply List.ext_getElem?
  intro m
  simp only [List.getElem?_take,List.getElem?_drop]
  have h3:(i+1)*r.tys.length≤r.rows.length*r.tys.length:=Nat.mul_le_mul_right _ (by omega)
  rw [Nat.add_mul,Nat.one_mul] at h3
  by_cases hm2:m<r.tys.length
  ·rw [if_pos hm2,if_pos hm2,if_pos (by omega)]
  ·rw [if_neg hm2,if_neg hm2]
 have hel:=RL.elem_ok hi hL
 have hsp:=zc0 hel hzd off
 obtain ⟨ht2,hl2,ds,hrows,hds⟩:=RL.put_ok i hput
 have hD:=hds E w _ hsp
 have hput2:=OwnR.put (S:=E.set ls) (S2:=E.set m) ⟨cells,hoR,hrow⟩ (i:=i) (off:=off) (by omega) hg hcx (by omega) (hD.mono fun b2 _ hb2=>⟨hb2,fun e=>hsep (e▸Env.set_lab hb2)⟩)
 rw [hw'] at hput2
 refine zck (w':=w') ?_ (hK E _ _ (Env.Le.refl E) hS trivial ?_)
 ·simp only [execOp,ho,Instr.storeAt,hx,Instr.sureAddr,Sem.run_bind,Sem.run_pure,Result.andThen,hrun]
 ·rw [zaE]
  refine h.mem.poke (by show (st.m t).live=true;rw [hm];rfl) c1 _ rfl (by rw [← hw'];simp) (fun g hg' _=>by rw [← hw'];exact setRow_other w b g _ (hne g hg')) (by rw [← hw'];exact ⟨rfl,rfl,rfl⟩) ?_
  show OwnR 0 w' Tb (E.set (ls++m)) r2.tys _ r2.rows
  rw [ht2,hrows]
  exact hput2.mono (Nat.le_refl _) (fun b2 hb2=>hb2.elim (Env.set_mono (fun i hi=>List.mem_append_left _ hi) b2) (Env.set_mono (fun i hi=>List.mem_append_right _ hi) b2))
def cMin (st:St) (x y:Operand):Option Upd:=
 match zad (st.ev x),zad (st.ev y) with
 | (.int k a,n),(.int k' b,m)=>if k=k' then some ⟨n++m,.int k (if b<a then b else a),[]⟩ else none
 | _,_=>none
def cMax (st:St) (x y:Operand):Option Upd:=
 match zad (st.ev x),zad (st.ev y) with
 | (.int k a,n),(.int k' b,m)=>if k=k' then some ⟨n++m,.int k (if b>a then b else a),[]⟩ else none
 | _,_=>none
theorem zko (o:Oper) (x y:Operand) (ts:Array TypeId) (ho:o.op = .call {callee:= .builtin .min,args:= #[x,y],argTypes:=ts}) {u:Upd} (hu:cMin st x y=some u):Does P base X w0 st o u:=by
 unfold cMin at hu
 split at hu
 case h_2=>simp at hu
 rename_i k a n k' b m e1 e2
 split at hu
 case isFalse=>simp at hu
 rename_i hk
 subst hk
 simp only [Option.some.injEq] at hu
 subst hu
 refine Does.pure fun E ac w h hn=>?_
 have hx:=zac (h.ev x) (fun p hp=>hn p (by rw [e1] at hp;simp [hp]))
 have hy:=zac (h.ev y) (fun p hp=>hn p (by rw [e2] at hp;simp [hp]))
 rw [e1] at hx
 rw [e2] at hy
 obtain ⟨hx,wx⟩:=hx
 obtain ⟨hy,wy⟩:=hy
 refine ⟨.int k (if b<a then b else a),?_,rfl,by split<;>assumption⟩
 simp [execOp,ho,resolve,invoke,builtin,Builtin.min_,hx,hy,Builtin.min2]
theorem zkp (o:Oper) (x y:Operand) (ts:Array TypeId) (ho:o.op = .call {callee:= .builtin .max,args:= #[x,y],argTypes:=ts}) {u:Upd} (hu:cMax st x y=some u):Does P base X w0 st o u:=by
 unfold cMax at hu
 split at hu
 case h_2=>simp at hu
 rename_i k a n k' b m e1 e2
 split at hu
 case isFalse=>simp at hu
 rename_i hk
 subst hk
 simp only [Option.some.injEq] at hu
 subst hu
 refine Does.pure fun E ac w h hn=>?_
 have hx:=zac (h.ev x) (fun p hp=>hn p (by rw [e1] at hp;simp [hp]))
 have hy:=zac (h.ev y) (fun p hp=>hn p (by rw [e2] at hp;simp [hp]))
 rw [e1] at hx
 rw [e2] at hy
 obtain ⟨hx,wx⟩:=hx
 obtain ⟨hy,wy⟩:=hy
 refine ⟨.int k (if b>a then b else a),?_,rfl,by split<;>assumption⟩
 simp [execOp,ho,resolve,invoke,builtin,Builtin.max_,hx,hy,Builtin.max2]
end ops
end Go.Proofs.Ytjfphnegcelbpaa
namespace Go.Proofs.Ytjfphnegcelbpaa
open Go.RowKit Go.ChangeShapes Go.WideShapes Go.Deep
section ops
variable {P : Program} {base : Nat} {X : Cx} {w0 : World} {st : St}
def zfF (P:Program) (E:TypeId) (k:Nat):Bool:=
 match P.info? E with
 | some i=>match i.zero with
  | some z=>i.size==k&&Nat.ble i.bytes 1024&&z.cells.size==k
  | none=>false
 | none=>false
theorem zdt {E:TypeId} {k:Nat} (h:zfF P E k=true):∃ bytes,bytes≤1024∧Info P E k bytes:=by
 unfold zfF at h
 split at h
 case h_2=>simp at h
 rename_i i hi
 split at h
 case h_2=>simp at h
 rename_i z hz
 simp only [Bool.and_eq_true,beq_iff_eq,Nat.ble_eq] at h
 exact ⟨i.bytes,h.1.2,i,z,hi,hz,h.1.1,rfl,h.2⟩
theorem zhG {w:World} {t ty E:TypeId} {S:Nat→Prop} {fs:List Ty} (hk0:0<fs.length) (hkb:fs.length≤64) (ht:P.underlying t=some (.slice E)) (hi:zfF P E fs.length=true)
  {v xv:Value} {rows ds:List (List D)} {T2:TypeId} {S2:Nat→Prop} (hown:OwnR 0 w E S fs v rows) (hx:OwnR 0 w T2 S2 fs xv ds) (hS:∀ b,S2 b→S b∧v.ownBlock≠some b) (hb:(rows.length+ds.length)*1024≤140737488355328) :
  ∃ v' w',(Builtin.append_ #[t,t] ty #[v,xv]).run P w = .ok v' w'∧OwnR 0 w' E S fs v' (rows++ds)∧w.grownBy w' v.ownBlock∧(v'.ownBlock=v.ownBlock∨v'.ownBlock=some w.heap.size):=by
 obtain ⟨bytes,hbb,hI⟩:=zdt hi
 obtain ⟨cells,⟨hl,⟨rfl,hn⟩ | ⟨g,cap,cur,rfl,hg,hh,hc,hm,hs,htk⟩⟩,hr⟩:=hx
 ·have hnil:ds=[]:=List.eq_nil_of_length_eq_zero hn
  subst hnil
  obtain ⟨i,z,e1,e2,e3,e4,e5⟩:=hI
  obtain ⟨cells,hoc,hr⟩:=hown
  refine ⟨v,w,?_,by rw [List.append_nil];exact ⟨cells,hoc,hr⟩,World.grownBy.refl _ _,.inl rfl⟩
  rcases hoc.2 with ⟨rfl,h2⟩ | ⟨g,cap,cur,rfl,_,_,hnc,_⟩
  ·simp [Builtin.append_,run_underlying ht,sizeOf,typeInfo,e1,Builtin.lenOf,Builtin.firstCells]
  ·simp [Builtin.append_,run_underlying ht,sizeOf,typeInfo,e1,Builtin.lenOf,Builtin.firstCells,hnc,storeCells]
 refine zeh rfl hk0 hkb hbb ht hI hown (Below.refl _ _) ⟨g,0,none⟩ ds.length cap cells ds rfl hl (fun j u hu=>?_) (fun u hu=>?_) (fun i hi=>(hr i hi).mono fun b _ hb=>hS b hb.1) hb (Nat.zero_le _)
 ·rw [← htk] at hu
  have hlt:j<ds.length*fs.length:=by
   rw [htk] at hu
   have:=(List.getElem?_eq_some_iff.1 hu).1
   omega
  rw [List.getElem?_take,if_pos hlt] at hu
  rw [WideShapes.add_plain,Nat.zero_add]
  simp only [World.cell?,hh]
  rw [← Array.getElem?_toList];exact hu
 ·obtain ⟨j,hj,e⟩:=List.getElem_of_mem hu
  have hjd:j / fs.length<ds.length:=Nat.div_lt_of_lt_mul (by rw [Nat.mul_comm];omega)
  have hm1:=Nat.mod_lt j hk0
  have hm2:=Nat.div_add_mod j fs.length
  rw [Nat.mul_comm] at hm2
  refine RdL.ones (hr (j / fs.length) hjd) u ?_
  refine List.mem_of_getElem? (i:=j % fs.length) ?_
  rw [List.getElem?_take,if_pos hm1,List.getElem?_drop,hm2,List.getElem?_eq_getElem hj,e]
theorem zeN {w:World} {t ty E:TypeId} {S:Nat→Prop} {fs:List Ty} (hk0:0<fs.length) (hkb:fs.length≤64) (ht:P.underlying t=some (.slice E)) (hi:zfF P E fs.length=true)
  {v:Value} {rows ds:List (List D)} {T:Nat→Prop} {ax:Option Addr} {m c:Nat} (hown:OwnR 0 w E S fs v rows) (hd:Sl w T fs ax m c ds) (hS:∀ b,T b→S b∧v.ownBlock≠some b) (hb:(rows.length+ds.length)*1024≤140737488355328) :
  ∃ v' w',(Builtin.append_ #[t,t] ty #[v,.slice ax m c]).run P w = .ok v' w'∧OwnR 0 w' E S fs v' (rows++ds)∧w.grownBy w' v.ownBlock∧(v'.ownBlock=v.ownBlock∨v'.ownBlock=some w.heap.size):=by
 obtain ⟨bytes,hbb,hI⟩:=zdt hi
 have hlen:=hd.len
 rw [hlen] at hb
 rcases ax with _ | ad
 ·obtain ⟨h0,h0'⟩:=hd.bd.2.2.2 rfl
  subst h0;subst h0'
  have hnil:ds=[]:=List.eq_nil_of_length_eq_zero hlen
  subst hnil
  obtain ⟨i,z,e1,e2,e3,e4,e5⟩:=hI
  obtain ⟨cells,hoc,hr⟩:=hown
  refine ⟨v,w,?_,by rw [List.append_nil];exact ⟨cells,hoc,hr⟩,World.grownBy.refl _ _,.inl rfl⟩
  rcases hoc.2 with ⟨rfl,h2⟩ | ⟨g,cap,cur,rfl,_,_,hnc,_⟩
  ·simp [Builtin.append_,run_underlying ht,sizeOf,typeInfo,e1,Builtin.lenOf,Builtin.firstCells]
  ·simp [Builtin.append_,run_underlying ht,sizeOf,typeInfo,e1,Builtin.lenOf,Builtin.firstCells,hnc,storeCells]
 ·by_cases hp:0<m
  ·obtain ⟨b,off,e,hS',hbl,vals,hc,hr⟩:=hd.rowAt hp
   cases e
   exact zeh (P:=P) rfl hk0 hkb hbb ht hI hown (Below.refl _ _) ⟨b,off,none⟩ m c ((List.range m).flatMap fun i=>(List.range fs.length).map (vals i)) ds hlen (zbZ _ _ _)
    (fun j u hj=>by
     obtain ⟨i,jj,h1,h2,rfl,rfl⟩:=zfa _ _ _ _ _ hj
     rw [WideShapes.add_plain,← Nat.add_assoc]
     exact hc i jj h1 h2)
    (fun u hu=>by
     obtain ⟨j,hj⟩:=List.getElem?_of_mem hu
     obtain ⟨i,jj,h1,h2,_,rfl⟩:=zfa _ _ _ _ _ hj
     exact ((hr i h1).2 jj (by omega)).one)
    (fun i hi=>by
     rw [zgS _ _ _ i (by omega)]
     exact RdL.of_at _ (hr i (by omega)).1 (fun j hj=>Rd.mono ((hr i (by omega)).2 j hj) (fun b _ hb=>hS b hb))) hb (Nat.zero_le _)
  ·have h0:m=0:=by omega
   subst h0
   have hnil:ds=[]:=List.eq_nil_of_length_eq_zero hlen
   subst hnil
   exact zeh (P:=P) rfl hk0 hkb hbb ht hI hown (Below.refl _ _) ad 0 c [] [] rfl (by simp) (fun j u hj=>by simp at hj) (fun u hu=>by simp at hu) (fun i hi=>by simp at hi) hb (Nat.zero_le _)
def zcG (st:St) (e:TypeId):SV→Option (Option Nat×List Nat×RL)
 | .own t=>match st.m t with
  | .row Tb ls r=>if Tb=e then some (some t,ls,r) else none
  | _=>none
 | .nil=>match RL.ofT e with
  | some r=>some (none,[],r)
  | none=>none
 | _=>none
def zaW (st:St) (r:RL):SV→Option (Option Nat×List Nat×RL)
 | .own u=>match st.m u with
  | .row _ ms q=>some (some u,ms,q)
  | _=>none
 | .sl ms q=>some (none,ms,q)
 | .nil=>some (none,[],r.emp)
 | _=>none
def zje:Option Nat→Option Nat→Bool
 | some t,some u=>!(Nat.beq t u)
 | _,_=>true
def zgB:Option Nat→List (Nat×BE)
 | some t=>[(t,.dead)]
 | none=>[]
theorem RdL.flat {w:World} {S T:Nat→Prop}:∀ {fs:List Ty} {vs:List Value} {ds:List D},fs.all Ty.flat=true→RdL w S fs vs ds→RdL w T fs vs ds
 | [],[],[],_,_=>trivial
 | t::ts,v::vs,d::ds,hf,h=>by
  simp only [List.all_cons,Bool.and_eq_true] at hf
  exact ⟨h.1.any hf.1,RdL.flat hf.2 h.2⟩
 | _::_,[],_,_,h=>h.elim
 | _::_,_::_,[],_,h=>h.elim
 | [],_::_,_,_,h=>h.elim
 | [],[],_::_,_,h=>h.elim
theorem OwnR.flat {b:Nat} {w:World} {T:TypeId} {S S2:Nat→Prop} {fs:List Ty} {v:Value} {rows:List (List D)} (h:OwnR b w T S fs v rows) (hf:fs.all Ty.flat=true):OwnR b w T S2 fs v rows:=by
 obtain ⟨cells,ho,hr⟩:=h
 exact ⟨cells,ho,fun i hi=>RdL.flat hf (hr i hi)⟩
def labA (r:RL) (ls ms:List Nat):List Nat:=if r.tys.all Ty.flat=true then [] else ls++ms
def cApp (P:Program) (st:St) (c:Nat) (T:TypeId) (x y:Operand):Option Upd:=
 match zaK P T with
 | none=>none
 | some e=>match zcG st e (zad (st.ev x)).1 with
  | none=>none
  | some (dt,ls,r)=>match zaW st r (zad (st.ev y)).1 with
   | none=>none
   | some (su,ms,q)=>if zje dt su=true then (if st.free c=true then (if zfF P e r.tys.length=true then (match r.app q with
    | some r2=>some ⟨(zad (st.ev x)).2++(zad (st.ev y)).2++[(r.len+q.len)*1024≤140737488355328],.own c,zgB dt++[(c,.row e (labA r ls ms) r2)]⟩
    | none=>none) else none) else none) else none
theorem zfj {E:Env} {w:World} (hm:MemOk base X w0 E st.m w) {e:TypeId} {s:SV} {dt:Option Nat} {ls:List Nat} {r:RL} (h:zcG st e s=some (dt,ls,r)) {v:Value} (hv:DenV E w s v) :
  OwnR 0 w e (E.set ls) r.tys v r.rows∧(∀ b,v.ownBlock=some b→∃ t,dt=some t∧Has E st.m t b)∧(∀ t,dt=some t→(st.m t).live=true∧E.β t=some v):=by
 cases s
 case own t=>
  simp only [zcG] at h
  split at h
  case h_2=>simp at h
  rename_i Tb ls2 r2 hmt
  split at h
  case isFalse=>simp at h
  rename_i hT
  subst hT
  simp only [Option.some.injEq,Prod.mk.injEq] at h
  obtain ⟨rfl,rfl,rfl⟩:=h
  obtain ⟨v',hβ,ho⟩:=hm.row t _ _ _ hmt
  have hv1:=hv.1
  rw [hβ] at hv1
  simp only [Option.some.injEq] at hv1
  subst hv1
  obtain ⟨a,cc,ef⟩:=ho.form
  refine ⟨ho,fun b hb=>⟨t,rfl,Has.row hmt hβ (by rw [← zan ⟨a,_,cc,ef⟩];exact hb)⟩,fun t2 ht2=>?_⟩
  cases ht2
  exact ⟨by rw [hmt];rfl,hβ⟩
 case nil=>
  simp only [zcG] at h
  split at h
  case h_2=>simp at h
  rename_i r2 hr
  simp only [Option.some.injEq,Prod.mk.injEq] at h
  obtain ⟨rfl,rfl,rfl⟩:=h
  have:v = .slice none 0 0:=hv
  subst this
  refine ⟨by rw [RL.ofT_ok hr];exact OwnR.nil _ _ _ _ _,fun b hb=>?_,fun t ht=>?_⟩
  ·cases hb
  ·cases ht
 all_goals simp [zcG] at h
theorem zhw {E:Env} {w w':World} (hm:MemOk base X w0 E st.m w) {c:Nat} (hcE:st.m c = .empty) {dt:Option Nat} {v v':Value} (hHas:∀ b,v.ownBlock=some b→∃ t,dt=some t∧Has E st.m t b) (hlive:∀ t,dt=some t→(st.m t).live=true∧E.β t=some v)
  {e:TypeId} {lb:List Nat} {r2:RL} (hO:OwnR 0 w' e (E.set lb) r2.tys v' r2.rows) (hgr:w.grownBy w' v.ownBlock) (hat:v'.ownBlock=v.ownBlock∨v'.ownBlock=some w.heap.size) :
  Same E.lab w w'∧E.Le (E.setβ c v')∧v'.oneCell'=true∧MemOk base X w0 (E.setβ c v') (putF (zgB dt++[(c,.row e lb r2)]) st.m) w':=by
 have hnl:∀ b,E.lab b→v.ownBlock≠some b:=fun b hb e=>by
  obtain ⟨t,_,hh⟩:=hHas b e
  exact (hm.sep t b hh).1 hb
 have hnv:∀ b,E.lab b→some b≠v.ownBlock:=fun b hb e=>hnl b hb e.symm
 have hS:Same E.lab w w':=Same.of_grown hgr hnv
 have hE:=Env.setβ_le (hm.empty c hcE).1 v'
 have hv'f:∃ a n c,v' = .slice a n c:=by obtain ⟨a,c,e⟩:=hO.form;exact ⟨a,_,c,e⟩
 obtain ⟨m1,hm1,hk,hm1c,hm1h⟩:∃ m1,m1=putF (zgB dt) st.m∧MemOk base X w0 E m1 w∧m1 c = .empty∧(∀ s b,Has E m1 s b→Has E st.m s b∧v.ownBlock≠some b):=by
  cases dt with
  | none=>
   refine ⟨st.m,rfl,hm,hcE,fun s b hh=>⟨hh,fun e=>?_⟩⟩
   obtain ⟨t,ht,_⟩:=hHas b e
   cases ht
  | some t=>
   have hct:c≠t:=fun e=>by
    have:=(hlive t rfl).1
    rw [← e,hcE] at this;cases this
   refine ⟨upd st.m t .dead,rfl,hm.kill t,by rw [zax _ _ hct];exact hcE,fun s b hh=>?_⟩
   have hst:s≠t:=fun e2=>by subst e2;have:=hh.1;rw [zat] at this;cases this
   have hs2:Has E st.m s b:=⟨by have:=hh.1;rwa [zax _ _ hst] at this,by have:=hh.2;rwa [zax _ _ hst] at this⟩
   refine ⟨hs2,fun e=>?_⟩
   obtain ⟨t2,ht2,hh2⟩:=hHas b e
   cases ht2
   exact hst (hm.inj s t b hs2 hh2)
 have hm':MemOk base X w0 (E.setβ c v') (upd m1 c (.row e lb r2)) w':=by
  refine hk.take hm1c v' _ (by simp) hgr.size (fun b hb=>?_) ⟨hgr.os,hgr.tape,hgr.output,hgr.size,fun b hb hX=>?_⟩ (fun b hb=>?_) hO
  ·have hlt:b<w.heap.size:=by
    rcases hb with ⟨i,hi⟩ | ⟨s,hs⟩
    ·exact (hk.lab i b hi).1
    ·exact hk.lt hs
   refine hgr.block b hlt ?_
   rcases hb with hb | ⟨s,hs⟩
   ·exact hnv b hb
   ·exact fun e=>(hm1h s b hs).2 e.symm
  ·refine hgr.block b (Nat.lt_of_lt_of_le hb hm.base) (fun e=>?_)
   obtain ⟨t,_,hh⟩:=hHas b e.symm
   rcases (hm.sep t b hh).2 with h3 | h3
   ·omega
   ·exact hX h3
  ·have hb:v'.ownBlock=some b:=by rw [zan hv'f];exact hb
   rcases hat with e | e
   ·rw [e] at hb
    obtain ⟨t,_,hh⟩:=hHas b hb
    exact ⟨(hm.sep t b hh).1,fun s hs=>(hm1h s b hs).2 hb,(hm.sep t b hh).2⟩
   ·rw [e] at hb
    simp only [Option.some.injEq] at hb
    subst hb
    exact ⟨fun ⟨i,hi⟩=>Nat.lt_irrefl _ (hm.lab i _ hi).1,fun s hs=>Nat.lt_irrefl _ (hk.lt hs),.inl hm.base⟩
 refine ⟨hS,hE,by obtain ⟨a,n,c,e⟩:=hv'f;rw [e];rfl,?_⟩
 have e4:putF (zgB dt++[(c,.row e lb r2)]) st.m=upd m1 c (.row e lb r2):=by
  rw [hm1]
  cases dt with
  | none=>rfl
  | some t=>
   have hct:t≠c:=fun e=>by
    have:=(hlive t rfl).1
    rw [e,hcE] at this;cases this
   show upd (upd st.m c _) t .dead=upd (upd st.m t .dead) c _
   exact (zeC _ _ _ hct).symm
 rw [e4];exact hm'
theorem zkz (o:Oper) (c:Nat) (T:TypeId) (x y:Operand) (ho:o.op = .call {callee:= .builtin .append,args:= #[x,y],argTypes:= #[T,T]}) {u:Upd} (hu:cApp P st c T x y=some u):Does P base X w0 st o u:=by
 unfold cApp at hu
 split at hu
 case h_1=>simp at hu
 rename_i e he
 split at hu
 case h_1=>simp at hu
 rename_i dt ls r hdst
 split at hu
 case h_1=>simp at hu
 rename_i su ms q hsrc
 split at hu
 case isFalse=>simp at hu
 rename_i hap
 split at hu
 case isFalse=>simp at hu
 rename_i hfree
 split at hu
 case isFalse=>simp at hu
 rename_i hinfo
 split at hu
 case h_2=>simp at hu
 rename_i r2 hr2
 simp only [Option.some.injEq] at hu
 subst hu
 intro E a w K Q h hn hK
 have hx:=zac (h.ev x) (fun p hp=>hn p (by simp [hp]))
 have hy:=zac (h.ev y) (fun p hp=>hn p (by simp [hp]))
 have hbd:(r.len+q.len)*1024≤140737488355328:=hn _ (by simp)
 obtain ⟨o1,hHas,hlive⟩:=zfj h.mem hdst hx
 obtain ⟨b1,b2,b3,b4⟩:=RL.app_ok hr2
 have hrl:r.rows.length=r.len:=r.rows_len
 have hql:q.rows.length=q.len:=q.rows_len
 have hcE:=St.of_free hfree
 obtain ⟨v,hav⟩:∃ v,a.eval x=v:=⟨_,rfl⟩
 rw [hav] at hx o1 hHas hlive
 have hform:∃ a n c,v = .slice a n c:=by obtain ⟨a,c,e⟩:=o1.form;exact ⟨a,_,c,e⟩
 have hvo:v.ownBlock=zar v:=zan hform
 have hnl:∀ b,E.lab b→v.ownBlock≠some b:=fun b hb e=>by
  obtain ⟨t,_,hh⟩:=hHas b e
  exact (h.mem.sep t b hh).1 hb
 have hrun:∃ v' w',(Builtin.append_ #[T,T] o.type #[v,a.eval y]).run P w = .ok v' w'∧OwnR 0 w' e (E.set (ls++ms)) r.tys v' (r.rows++q.rows)∧w.grownBy w' v.ownBlock∧(v'.ownBlock=v.ownBlock∨v'.ownBlock=some w.heap.size):=by
  have o1':=o1.mono (T:=E.set (ls++ms)) (Nat.le_refl _) (fun b hb=>Env.set_mono (fun i hi=>List.mem_append_left _ hi) b hb)
  have hS:∀ b,E.set ms b→E.set (ls++ms) b∧v.ownBlock≠some b:=fun b hb=>⟨Env.set_mono (fun i hi=>List.mem_append_right _ hi) b hb,hnl b (Env.set_lab hb)⟩
  cases hs:(zad (st.ev y)).1 with
  | own u=>
   rw [hs] at hsrc hy
   simp only [zaW] at hsrc
   split at hsrc
   case h_2=>simp at hsrc
   rename_i Tu ms2 q2 hmu
   simp only [Option.some.injEq,Prod.mk.injEq] at hsrc
   obtain ⟨rfl,rfl,rfl⟩:=hsrc
   obtain ⟨xv,hβ,ho2⟩:=h.mem.row u _ _ _ hmu
   have hv1:=hy.1
   rw [hβ] at hv1
   simp only [Option.some.injEq] at hv1
   rw [b3] at ho2
   rw [← hv1]
   exact zhG (RL.tys_pos r).1 (RL.tys_pos r).2 (zam he) hinfo o1' ho2 hS (by rw [hrl,hql];exact hbd)
  | sl ms2 q2=>
   rw [hs] at hsrc hy
   simp only [zaW,Option.some.injEq,Prod.mk.injEq] at hsrc
   obtain ⟨rfl,rfl,rfl⟩:=hsrc
   have hy:Rd w (E.set ms2) (.sl q2.tys) (a.eval y) (.sl q2.rows):=hy
   obtain ⟨ad,cc,e1,e2⟩:=hy.sl'
   rw [b3] at e2
   rw [e1]
   exact zeN (RL.tys_pos r).1 (RL.tys_pos r).2 (zam he) hinfo o1' e2 hS (by rw [hrl,hql];exact hbd)
  | nil=>
   rw [hs] at hsrc hy
   simp only [zaW,Option.some.injEq,Prod.mk.injEq] at hsrc
   obtain ⟨rfl,rfl,rfl⟩:=hsrc
   have hy:DenV E w (.sl [] r.emp) (a.eval y):=zj2 hy
   have hy:Rd w (E.set []) (.sl r.emp.tys) (a.eval y) (.sl r.emp.rows):=hy
   obtain ⟨ad,cc,e1,e2⟩:=hy.sl'
   rw [b3] at e2
   rw [e1]
   exact zeN (RL.tys_pos r).1 (RL.tys_pos r).2 (zam he) hinfo o1' e2 hS (by rw [hrl,hql];exact hbd)
  | _=>rw [hs] at hsrc;simp [zaW] at hsrc
 obtain ⟨v',w',hrun,hO,hgr,hat⟩:=hrun
 have hO2:OwnR 0 w' e (E.set (labA r ls ms)) r2.tys v' r2.rows:=by
  rw [b1,b2]
  unfold labA
  by_cases hf:r.tys.all Ty.flat=true
  ·rw [if_pos hf];exact hO.flat hf
  ·rw [if_neg hf];exact hO
 obtain ⟨hS,hE,hone,hm'⟩:=zhw h.mem hcE hHas hlive hO2 hgr hat
 refine za1 (v:=v') (w':=w') ?_ (hK (E.setβ c v') w' v' hE hS ⟨if_pos rfl,hone⟩ hm')
 simp only [execOp,ho,resolve,invoke,builtin,Sem.run_bind,Sem.run_pure,Result.andThen_ok,List.map_toArray,List.map_cons,List.map_nil]
 rw [hav,hrun];rfl
end ops
end Go.Proofs.Ytjfphnegcelbpaa
namespace Go.Proofs.Ytjfphnegcelbpaa
open Go.RowKit Go.ChangeShapes Go.WideShapes Go.Deep
section ops
variable {P : Program} {base : Nat} {X : Cx} {w0 : World} {st : St}
def zdB (k:Nat):Nat→List SV→RL→List Nat→Option (RL×List Nat)
 | 0,_,r,ms=>some (r,ms)
 | n+1,out,r,ms=>match r.snoc (out.take k) with
  | some (r2,m)=>zdB k n (out.drop k) r2 (ms++m)
  | none=>none
theorem zdA {E:Env} {w:World} {k:Nat}:∀ (n:Nat) (out:List SV) (zs:List Value) (r:RL) (ms:List Nat) (r2:RL) (ls:List Nat),zdB k n out r ms=some (r2,ls)→DenL E w out zs →
  r2.tys=r.tys∧(∀ i,i∈ms→i∈ls)∧∃ ds,ds.length=n∧r2.rows=r.rows++ds∧∀ i,i<n→RdL w (E.set ls) r.tys ((zs.drop (i*k)).take k) (ds.getD i [])
 | 0,out,zs,r,ms,r2,ls,h,hd=>by
  simp only [zdB,Option.some.injEq,Prod.mk.injEq] at h
  obtain ⟨rfl,rfl⟩:=h
  exact ⟨rfl,fun i hi=>hi,[],rfl,by simp,fun i hi=>absurd hi (by omega)⟩
 | n+1,out,zs,r,ms,r2,ls,h,hd=>by
  simp only [zdB] at h
  split at h
  case h_2=>simp at h
  rename_i r1 m e
  obtain ⟨g1,g2,d,g3,g4⟩:=RL.snoc_ok e
  obtain ⟨q1,q2,ds,q3,q4,q5⟩:=zdA n _ (zs.drop k) r1 _ r2 ls h (hd.drop k)
  refine ⟨q1.trans g1,fun i hi=>q2 i (List.mem_append_left _ hi),d::ds,by simp [q3],by rw [q4,g3];simp,fun i hi=>?_⟩
  cases i with
  | zero=>
   have:=g4 E w _ (hd.take k)
   simp only [Nat.zero_mul,List.drop_zero,List.getD_cons_zero]
   exact this.mono fun b _ hb=>Env.set_mono (fun i hi=>q2 i (List.mem_append_right _ hi)) b hb
  | succ i=>
   have:=q5 i (by omega)
   rw [List.drop_drop,g1] at this
   rw [List.getD_cons_succ,show (i+1)*k=k+i*k by rw [Nat.add_mul];omega]
   exact this
theorem zdi {E:Env} {w:World} (h:MemOk base X w0 E st.m w) {c:Nat} (hc:st.m c = .empty) (T:TypeId) {xs:List Value} {ls:List Nat} {r:RL} {n:Nat}
  (hO:OwnR 0 (w.alloc (.cells xs.toArray T)) T (E.set ls) r.tys (.slice (some ⟨w.heap.size,0,none⟩) n n) r.rows) :
  MemOk base X w0 (E.setβ c (.slice (some ⟨w.heap.size,0,none⟩) n n)) (putF [(c,.row T ls r)] st.m) (w.alloc (.cells xs.toArray T))∧E.Le (E.setβ c (.slice (some ⟨w.heap.size,0,none⟩) n n))∧Same E.lab w (w.alloc (.cells xs.toArray T)):=by
 have hE:=Env.setβ_le (h.empty c hc).1 (.slice (some ⟨w.heap.size,0,none⟩) n n)
 have hS:Same E.lab w (w.alloc (.cells xs.toArray T)):=Same.alloc _ _ _
 refine ⟨?_,hE,hS⟩
 rw [zaE]
 refine h.take hc _ _ (by simp) (by simp) (fun b hb=>?_) ⟨rfl,rfl,rfl,by simp,fun b hb _=>Below.heap_alloc _ _ _ (Nat.lt_of_lt_of_le hb h.base)⟩ (fun b hb=>?_) hO
 ·have:b<w.heap.size:=by
   rcases hb with ⟨i,hi⟩ | ⟨t,ht⟩
   ·exact (h.lab i b hi).1
   ·exact h.lt ht
  exact Below.heap_alloc _ _ _ this
 ·simp [zar] at hb
  subst hb
  exact ⟨fun ⟨i,hi⟩=>Nat.lt_irrefl _ (h.lab i _ hi).1,fun t ht=>Nat.lt_irrefl _ (h.lt ht),.inl h.base⟩
def zk4 (z:Value) (n:Nat):List SV:=(List.range n).map fun j=>ofC (z.cells[j % z.cells.size]!)
def cLit (P:Program) (st:St) (c:Nat) (T:TypeId) (len:Nat) (parts:Array (Nat×Operand)):Option Upd:=
 match zaK P T with
 | some e=>match (P.info? e).bind (·.zero),zaD P e,RL.ofT e with
  | some z,some k,some r0=>if 0<len*k∧len*k≤16777216∧len≤1000000 then (match zfI (fun i=>some (i*k,k)) (zk4 z (len*k)) (zaA st parts.toList).1 with
   | some out=>match zdB k len out r0 [] with
    | some (r,ls)=>if k=r0.tys.length∧st.free c=true∧out.length=len*k then some ⟨(zaA st parts.toList).2,.own c,[(c,.row e ls r)]⟩ else none
    | none=>none
   | none=>none) else none
  | _,_,_=>none
 | none=>none
theorem zkq (o:Oper) (c:Nat) (T:TypeId) (len:Nat) (parts:Array (Nat×Operand)) (ho:o.op = .buildSlice T len parts) {u:Upd} (hu:cLit P st c T len parts=some u):Does P base X w0 st o u:=by
 unfold cLit at hu
 split at hu
 case h_2=>simp at hu
 rename_i e he
 split at hu
 case h_2=>simp at hu
 rename_i z k r0 hz hk hr0
 split at hu
 case isFalse=>simp at hu
 rename_i hb
 obtain ⟨hb0,hb1,hb2⟩:=hb
 split at hu
 case h_2=>simp at hu
 rename_i out hout
 split at hu
 case h_2=>simp at hu
 rename_i r ls hrow
 split at hu
 case isFalse=>simp at hu
 rename_i hc
 obtain ⟨hkr,hfree,hol⟩:=hc
 simp only [Option.some.injEq] at hu
 subst hu
 have hcE:=St.of_free hfree
 intro E a w K Q h hn hK
 have hp:=zc4 h parts.toList hn
 obtain ⟨zr,hr,hd⟩:=zdw (E:=E) (w:=w) (zs:=(Array.range (len*k)).map (fun j=>z.cells[j % z.cells.size]!)) (vals:=zcv a parts.toList) hout (by
  have:=zdn E w ((List.range (len*k)).map fun j=>z.cells[j % z.cells.size]!)
  simpa [zk4,Function.comp_def] using this) (by rw [hp.1];simp [zcv]) (fun i hi=>hp.2 i (by rw [hp.1] at hi;exact hi))
 obtain ⟨q1,_,ds,q3,q4,q5⟩:=zdA (E:=E) (w:=w) len out zr.toList r0 [] r ls hrow hd
 rw [RL.ofT_ok hr0,List.nil_append] at q4
 have hzl:zr.toList.length=len*k:=by rw [hd.len,hol]
 have hO:OwnR 0 (w.alloc (.cells zr.toList.toArray e)) e (E.set ls) r.tys (.slice (some ⟨w.heap.size,0,none⟩) len len) r.rows:=by
  refine ⟨zr.toList,⟨by rw [q4,q3,q1,← hkr];exact hzl,.inr ⟨w.heap.size,len,zr.toList.toArray,by rw [q4,q3],Nat.zero_le _,heap_alloc_new _ _,by rw [q4,q3];exact Nat.le_refl _,by unfold maxLen;omega,by rw [q1,← hkr];simpa using hzl,?_⟩⟩,fun i hi=>?_⟩
  ·rw [q4,q3,q1,← hkr];rw [List.take_of_length_le];rw [← hzl];exact Nat.le_refl _
  ·rw [q4,q3] at hi
   rw [q4,q1,← hkr]
   have:=q5 i hi
   have h2:RdL w (fun b=>(E.set ls b∧Value.ownBlock (.slice (some ⟨w.heap.size,0,none⟩) len len)≠some b)) r0.tys ((zr.toList.drop (i*k)).take k) (ds.getD i []):=this.mono fun b hb hs=>⟨hs,fun e2=>by
    simp only [Value.ownBlock,Option.some.injEq] at e2;omega⟩
   exact h2.same (Same.alloc _ _ _)
 obtain ⟨m1,m2,m3⟩:=zdi (st:=st) h.mem hcE e hO
 refine za1 (v:= .slice (some ⟨w.heap.size,0,none⟩) len len) (w':=w.alloc (.cells zr.toList.toArray e)) ?_ (hK _ _ _ m2 m3 ⟨if_pos rfl,rfl⟩ m1)
 cases hi:P.info? e with
 | none=>simp [hi] at hz
 | some inf=>
  simp [hi] at hz
  have hrr:Instr.fill (fun i=>some (i*k,k)) ((Array.range (len*k)).map (fun j=>z.cells[j % z.cells.size]!)) (parts.map fun (i,x)=>(i,a.eval x)).toList=some zr:=by
   have e2:(parts.map fun (i,x)=>(i,a.eval x)).toList=zcv a parts.toList:=by simp [zcv]
   rw [e2];exact hr
  have hnz:¬ (len*k=0):=by omega
  have hng:¬ (len*k>2 ^ 24):=by omega
  simp only [execOp,ho,Instr.buildSlice,zeroValue,typeInfo,Sem.run_bind,run_program,hi,hz,Result.andThen,Sem.run_pure,run_underlying (zam he),zal hk,hng,hnz,if_false,hrr,newRow]
  rfl
end ops
end Go.Proofs.Ytjfphnegcelbpaa
namespace Go.Proofs.Ytjfphnegcelbpaa
open Go.RowKit Go.ChangeShapes Go.WideShapes Go.Deep
theorem Sl.cutX {w:World} {S:Nat→Prop} {fs:List Ty} {b off n c d:Nat} {rows:List (List D)} (h:Sl w S fs (some ⟨b,off,none⟩) n c rows) (hd:d<n):Sl w S fs (some ⟨b,off+d*fs.length,none⟩) (n-d) (c-d) (rows.drop d):=by
 cases h with
 | emp _ _=>omega
 | row vals h1 h2 h3 h4 h5 h6 h7 h8 h9 h10 h11=>
  have e:∀ i,(rows.drop d).getD i []=rows.getD (d+i) []:=fun i=>by simp [List.getD]
  refine .row (fun i j=>vals (d+i) j) (by omega) (by simp;omega) (by omega) (by unfold maxLen at *;omega) (by omega) h6 h7 (fun i j hi hj=>?_) (fun i hi=>?_) (fun i j hi hj=>?_) (fun i j hi hj=>?_)
  ·have:=h8 (d+i) j (by omega) hj
   rw [Nat.add_mul] at this
   rw [← this];congr 2;omega
  ·rw [e];exact h9 _ (by omega)
  ·rw [e];exact h10 _ _ (by omega) hj
  ·have:=h11 (d+i) j (by omega) hj
   rw [Nat.add_mul] at this
   rw [← this];congr 2;omega
theorem Sl.cutMX {w:World} {S:Nat→Prop} {fs:List Ty} {a:Option Addr} {n c d:Nat} {rows:List (List D)} (h:Sl w S fs a n c rows) (hd:d≤n) (hc:d<c):Sl w S fs (a.map fun x=>x.add (d*fs.length)) (n-d) (c-d) (rows.drop d):=by
 have hb:=h.bd
 have hl:=h.len
 rcases Nat.lt_or_ge d n with h1 | h1
 ·obtain ⟨b,off,rfl⟩:=h.addr (by omega)
  have:=h.cutX h1
  simpa [Go.WideShapes.add_plain] using this
 ·have e:n-d=0:=by omega
  have e2:rows.drop d=[]:=List.drop_eq_nil_of_le (by omega)
  rw [e,e2]
  refine .emp (fun h0=>?_) (by obtain ⟨g1,g2,g3,g4⟩:=hb;unfold maxLen at *;omega)
  rcases a with _ | a
  ·have:=hb.2.2.2 rfl;omega
  ·simp at h0
section ops
variable {P : Program} {base : Nat} {X : Cx} {w0 : World} {st : St}
end ops
end Go.Proofs.Ytjfphnegcelbpaa
namespace Go.Proofs.Ytjfphnegcelbpaa
open Go.RowKit Go.ChangeShapes Go.WideShapes Go.Deep
section ops
variable {P : Program} {base : Nat} {X : Cx} {w0 : World} {st : St}
def zkn (st:St) (f:FuncId) (xs:List Operand):Upd:=
 match xs with
 | []=>⟨[],.fn f,[]⟩
 | x::r=>⟨(evL st (x::r)).2,.clo f (evL st (x::r)).1,[]⟩
theorem ziy (o:Oper) (f:FuncId) (xs:Array Operand) (ho:o.op = .makeFunc (.func f) #[] xs):Does P base X w0 st o (zkn st f xs.toList):=by
 obtain ⟨xs⟩:=xs
 cases xs with
 | nil=>exact Does.pure fun E a w h hn=>⟨_,by simp [execOp,ho,Instr.makeFunc],rfl⟩
 | cons x r=>
  refine Does.pure fun E a w h hn=>?_
  have:=zdT h (x::r) hn
  exact ⟨.func (.func f) #[] ((x::r).map a.eval).toArray,by simp [execOp,ho,Instr.makeFunc],_,rfl,this⟩
def zi0 (P:Program) (st:St) (c:Nat) (T:TypeId) (x y:Operand):Option Upd:=
 match zaK P T,zad (st.ev x),zad (st.ev y) with
 | some e,(.int k n,n1),(.int k' m,n2)=>match RL.ofT e,(P.info? e).bind (·.zero) with
  | some (.rInts _),some (.int .i64 (.ofNat 0))=>if zfF P e 1=true∧st.free c=true then some ⟨n1++n2++[n=m,0≤n,n≤274877906944],.own c,[(c,.row e [] (.rInts (List.replicate n.toNat 0)))]⟩ else none
  | _,_=>none
 | _,_,_=>none
theorem ziz (o:Oper) (c:Nat) (T:TypeId) (x y:Operand) (ho:o.op = .makeSlice T x y) {u:Upd} (hu:zi0 P st c T x y=some u):Does P base X w0 st o u:=by
 unfold zi0 at hu
 split at hu
 case h_2=>simp at hu
 rename_i e k n n1 k' m n2 e0 e1 e2
 split at hu
 case h_2=>simp at hu
 rename_i l0 hr0 hz
 split at hu
 case isFalse=>simp at hu
 rename_i hc
 obtain ⟨hinfo,hfree⟩:=hc
 simp only [Option.some.injEq] at hu
 subst hu
 have hcE:=St.of_free hfree
 intro E a w K Q h hn hK
 have hx:=zac (h.ev x) (fun p hp=>hn p (by rw [e1] at hp;simp [hp]))
 have hy:=zac (h.ev y) (fun p hp=>hn p (by rw [e2] at hp;simp [hp]))
 rw [e1] at hx
 rw [e2] at hy
 obtain ⟨hx,_⟩:=hx
 obtain ⟨hy,_⟩:=hy
 have h1:n=m:=hn _ (by simp)
 have h2:0≤n:=hn _ (by simp)
 have h3:n≤274877906944:=hn _ (by simp)
 subst h1
 obtain ⟨N,rfl⟩:∃ N:Nat,n=(N:Int):=⟨n.toNat,by omega⟩
 obtain ⟨bytes,hb,i,z,i1,i2,i3,i4,i5⟩:=zdt hinfo
 have hz':z = .int .i64 0:=by
  rw [i1] at hz
  simp only [Option.bind_some,i2,Option.some.injEq] at hz
  exact hz
 subst hz'
 have hNN:N≤274877906944:=by omega
 have hbb:(i.bytes:Int)*(N:Int)≤281474976710656:=by
  have:i.bytes*N≤1024*274877906944:=Nat.mul_le_mul (by omega) hNN
  have h':((i.bytes*N:Nat):Int)≤281474976710656:=by omega
  rwa [Int.natCast_mul] at h'
 have hrun:=run_make (P:=P) w T e i (.int .i64 0) (zam e0) i1 i2 k k' N N (by omega) (Int.le_refl _) hbb (by omega)
 have hcells:madeCells (Value.int .i64 0).cells ((N:Int).toNat*i.size)=((List.replicate N (0:Int)).map (Value.int .i64)).toArray:=by
  rw [i3]
  apply Array.ext
  ·simp [madeCells,Value.cells]
  ·intro j hj1 hj2
   simp [madeCells,Value.cells,Nat.mod_one]
 rw [hcells] at hrun
 simp only [Int.toNat_natCast] at hrun
 have hO:OwnR 0 (w.alloc (.cells ((List.replicate N (0:Int)).map (Value.int .i64)).toArray e)) e (E.set []) (RL.rInts (List.replicate N (0:Int))).tys (.slice (some ⟨w.heap.size,0,none⟩) N N) (RL.rInts (List.replicate N (0:Int))).rows:=by
  refine ⟨(List.replicate N (0:Int)).map (Value.int .i64),⟨by simp [RL.rows,RL.tys,ints],.inr ⟨w.heap.size,N,((List.replicate N (0:Int)).map (Value.int .i64)).toArray,by simp [RL.rows,ints],Nat.zero_le _,heap_alloc_new _ _,by simp [RL.rows,ints],by unfold maxLen;omega,by simp [RL.tys],by simp [RL.rows,RL.tys,ints]⟩⟩,fun j hj=>?_⟩
  have hj:j<N:=by simpa [RL.rows,ints] using hj
  have e3:(((List.replicate N (0:Int)).map (Value.int .i64)).drop (j*1)).take 1=[.int .i64 0]:=by
   rw [Nat.mul_one,List.drop_eq_getElem_cons (by simpa using hj)];simp
  have e4:(RL.rInts (List.replicate N (0:Int))).rows.getD j []=[.int 0]:=by simp [RL.rows,ints,List.getD,hj]
  rw [e4]
  show RdL _ _ [.int .i64] ((((List.replicate N (0:Int)).map (Value.int .i64)).drop (j*1)).take 1) _
  rw [e3]
  exact ⟨.int (by decide),trivial⟩
 obtain ⟨m1,m2,m3⟩:=zdi (st:=st) h.mem hcE e hO
 refine za1 (v:= .slice (some ⟨w.heap.size,0,none⟩) N N) (w':=w.alloc (.cells ((List.replicate N (0:Int)).map (Value.int .i64)).toArray e)) ?_ (hK _ _ _ m2 m3 ⟨if_pos rfl,rfl⟩ m1)
 simp only [execOp,ho,hx,hy,Sem.run_bind,hrun,Result.andThen,Sem.run_pure]
def nilU (st:St):SV→Option SV
 | .nil=>some (.bool true)
 | .sl _ r=>some (.ub r.nilP True)
 | .own t=>match st.m t with
  | .row _ _ r=>some (.ub r.nilP True)
  | _=>none
 | _=>none
def notU:SV→SV
 | .bool b=> .bool !b
 | .ub p q=> .ub q p
 | _=> .any
def cEqN (P:Program) (st:St) (op:BinOp) (T:TypeId) (x y:Operand):Option Upd:=
 match zaK P T,zad (st.ev y),op with
 | some _,(.nil,n2),.eql=>match nilU st (zad (st.ev x)).1 with
  | some s=>some ⟨(zad (st.ev x)).2++n2,s,[]⟩
  | none=>none
 | some _,(.nil,n2),.neq=>match nilU st (zad (st.ev x)).1 with
  | some s=>some ⟨(zad (st.ev x)).2++n2,notU s,[]⟩
  | none=>none
 | _,_,_=>none
theorem RL.nilP_of {r:RL} (h:r.rows=[]):r.nilP:=by
 cases r<;>simpa [RL.rows,RL.nilP,ints] using h
theorem zgx {E:Env} {a:Act} {w:World} (h:st.Ok base X w0 E a w) {s t:SV} (hs:nilU st s=some t) {v:Value} (hv:DenV E w s v):∃ ad n c,v = .slice ad n c∧DenV E w t (.bool ad.isNone)∧DenV E w (notU t) (.bool (!ad.isNone)):=by
 cases s
 case nil=>
  simp only [nilU,Option.some.injEq] at hs
  subst hs
  have:v = .slice none 0 0:=hv
  exact ⟨none,0,0,this,rfl,rfl⟩
 case sl ls r=>
  simp only [nilU,Option.some.injEq] at hs
  subst hs
  have hv:Rd w (E.set ls) (.sl r.tys) v (.sl r.rows):=hv
  obtain ⟨ad,c,rfl,hsl⟩:=hv.sl'
  have hk:ad.isNone=true→r.nilP:=fun e=>RL.nilP_of (by
   have:ad=none:=by simpa using e
   exact List.eq_nil_of_length_eq_zero (hsl.bd.2.2.2 this).1)
  exact ⟨ad,_,c,rfl,⟨_,rfl,hk,fun _=>trivial⟩,_,rfl,fun _=>trivial,fun e=>hk (by simpa using e)⟩
 case own t2=>
  simp only [nilU] at hs
  split at hs
  case h_2=>simp at hs
  rename_i Tb ls r hm
  simp only [Option.some.injEq] at hs
  subst hs
  obtain ⟨v',h1,ho⟩:=h.mem.row t2 _ _ _ hm
  have h2:=hv.1
  rw [h1] at h2
  simp only [Option.some.injEq] at h2
  subst h2
  obtain ⟨cells,hoR,_⟩:=ho
  rcases hoR.2 with ⟨rfl,hn⟩ | ⟨g,cap,cur,rfl,_⟩
  ·have hk:r.nilP:=RL.nilP_of (List.eq_nil_of_length_eq_zero hn)
   exact ⟨none,0,0,rfl,⟨_,rfl,fun _=>hk,fun _=>trivial⟩,_,rfl,fun _=>trivial,fun _=>hk⟩
  ·exact ⟨_,_,_,rfl,⟨_,rfl,fun e=>(by simp at e),fun _=>trivial⟩,_,rfl,fun _=>trivial,fun e=>(by simp at e)⟩
 all_goals simp [nilU] at hs
theorem zku (o:Oper) (op:BinOp) (T T2:TypeId) (x y:Operand) (ho:o.op = .binOp op T x y T2) {u:Upd} (hu:cEqN P st op T x y=some u):Does P base X w0 st o u:=by
 unfold cEqN at hu
 split at hu
 ·rename_i e n2 he e2
  split at hu
  case h_2=>simp at hu
  rename_i s hs
  simp only [Option.some.injEq] at hu
  subst hu
  refine Does.pure fun E a w h hn=>?_
  have hx:=zac (h.ev x) (fun p hp=>hn p (by simp [hp]))
  have hy:=zac (h.ev y) (fun p hp=>hn p (by rw [e2] at hp;simp [hp]))
  rw [e2] at hy
  have hy:a.eval y = .slice none 0 0:=hy
  obtain ⟨ad,n,c,hv,h1,h2⟩:=zgx h hs hx
  refine ⟨_,?_,h1⟩
  have hr:=Lib.run_eql_slice_nil (P:=P) w T e ad n c 0 0 (zam he)
  simp only [execOp,ho,hv,hy,eqGuard,Sem.run_bind,Sem.run_pure,Result.andThen]
  simp [Sem.run_bind,Result.andThen]
  rw [hr]
 ·rename_i e n2 he e2
  split at hu
  case h_2=>simp at hu
  rename_i s hs
  simp only [Option.some.injEq] at hu
  subst hu
  refine Does.pure fun E a w h hn=>?_
  have hx:=zac (h.ev x) (fun p hp=>hn p (by simp [hp]))
  have hy:=zac (h.ev y) (fun p hp=>hn p (by rw [e2] at hp;simp [hp]))
  rw [e2] at hy
  have hy:a.eval y = .slice none 0 0:=hy
  obtain ⟨ad,n,c,hv,h1,h2⟩:=zgx h hs hx
  refine ⟨_,?_,h2⟩
  have hr:(Op.equalIn 10000 T (.slice ad n c) (.slice none 0 0)).run P w = .ok ad.isNone w:=Lib.run_equalIn_slice_nil (P:=P) w 9999 T e ad n c 0 0 (zam he)
  simp only [execOp,ho,hv,hy,eqGuard,Sem.run_bind,Sem.run_pure,Result.andThen,binOp,Op.equal,Op.maxDepth]
  simp [Sem.run_bind,Result.andThen]
  rw [hr]
  cases ad<;>rfl
 ·simp at hu
def zi4 (P:Program) (st:St) (c:Nat) (T:TypeId) (len:Nat) (parts:Array (Nat×Operand)):Option Upd:=
 match zaK P T with
 | some e=>match RL.ofT e,zaD P e with
  | some r0,some _=>if len=0∧parts.size=0∧st.free c=true then some ⟨[],.own c,[(c,.row e [] r0)]⟩ else none
  | _,_=>none
 | none=>none
theorem zi3 (o:Oper) (c:Nat) (T:TypeId) (len:Nat) (parts:Array (Nat×Operand)) (ho:o.op = .buildSlice T len parts) {u:Upd} (hu:zi4 P st c T len parts=some u):Does P base X w0 st o u:=by
 unfold zi4 at hu
 split at hu
 case h_2=>simp at hu
 rename_i e he
 split at hu
 case h_2=>simp at hu
 rename_i r0 k hr0 hk
 split at hu
 case isFalse=>simp at hu
 rename_i hc
 obtain ⟨rfl,hps,hfree⟩:=hc
 have hps:parts = #[]:=by simpa using hps
 subst hps
 simp only [Option.some.injEq] at hu
 subst hu
 have hcE:=St.of_free hfree
 intro E a w K Q h hn hK
 have hrows:=RL.ofT_ok hr0
 have hO:OwnR 0 (w.alloc (.cells ([]:List Value).toArray e)) e (E.set []) r0.tys (.slice (some ⟨w.heap.size,0,none⟩) 0 0) r0.rows:=by
  rw [hrows]
  refine ⟨[],⟨by simp,.inr ⟨w.heap.size,0,([]:List Value).toArray,rfl,Nat.zero_le _,heap_alloc_new _ _,Nat.le_refl _,by unfold maxLen;omega,by simp,by simp⟩⟩,fun i hi=>absurd hi (by simp)⟩
 obtain ⟨m1,m2,m3⟩:=zdi (st:=st) h.mem hcE e hO
 refine za1 (v:= .slice (some ⟨w.heap.size,0,none⟩) 0 0) (w':=w.alloc (.cells ([]:List Value).toArray e)) ?_ (hK _ _ _ m2 m3 ⟨if_pos rfl,rfl⟩ m1)
 simp [execOp,ho,Instr.buildSlice,Sem.run_bind,Result.andThen,Sem.run_pure,run_underlying (zam he),zal hk,newRow,Instr.fill,Array.range_zero']
end ops
def ptrT (P:Program) (T:TypeId):Bool:=match P.underlying T with
 | some (.pointer _)=>true
 | _=>false
theorem zjt {P:Program} {T:TypeId} (h:ptrT P T=true):∃ e,P.underlying T=some (.pointer e):=by
 unfold ptrT at h
 split at h
 ·exact ⟨_,by assumption⟩
 ·cases h
def ptrB:SV→Option Bool
 | .np=>some true
 | .ptr _ _=>some false
 | .rp _ _ _ _=>some false
 | .ro _ _=>some false
 | _=>none
def cEqP (P:Program) (st:St) (op:BinOp) (T:TypeId) (x y:Operand):Option Upd:=
 match ptrT P T,zad (st.ev y),op with
 | true,(.np,n2),.eql=>match ptrB (zad (st.ev x)).1 with
  | some b=>some ⟨(zad (st.ev x)).2++n2,.bool b,[]⟩
  | none=>none
 | true,(.np,n2),.neq=>match ptrB (zad (st.ev x)).1 with
  | some b=>some ⟨(zad (st.ev x)).2++n2,.bool (!b),[]⟩
  | none=>none
 | _,_,_=>none
theorem zju {E:Env} {w:World} {s:SV} {b:Bool} (hs:ptrB s=some b) {v:Value} (hv:DenV E w s v):∃ a,v = .pointer a∧a.isNone=b:=by
 cases s<;>simp only [ptrB,Option.some.injEq,reduceCtorEq] at hs
 case np=>subst hs;exact ⟨none,hv,rfl⟩
 case ptr=>obtain ⟨b',_,e⟩:=hv;subst hs;exact ⟨_,e,rfl⟩
 case rp=>obtain ⟨b',xs,e,_⟩:=hv;subst hs;exact ⟨_,e,rfl⟩
 case ro=>obtain ⟨b',F,e,_⟩:=hv;subst hs;exact ⟨_,e,rfl⟩
theorem zjo {P:Program} {T e:TypeId} (h:P.underlying T=some (.pointer e)) (a:Option Addr) (w:World):(Op.equal T (.pointer a) (.pointer none)).run P w = .ok a.isNone w:=by
 obtain ⟨d,hd⟩:∃ d,Op.maxDepth=d+1:=⟨_,rfl⟩
 unfold Op.equal
 rw [hd]
 cases a<;>simp only [Op.equalIn,Sem.run_bind,run_underlying h,Result.andThen]<;>rfl
section
variable {P : Program} {base : Nat} {X : Cx} {w0 : World} {st : St}
theorem zkt (o:Oper) (op:BinOp) (T T2:TypeId) (x y:Operand) (ho:o.op = .binOp op T x y T2) {u:Upd} (hu:cEqP P st op T x y=some u):Does P base X w0 st o u:=by
 unfold cEqP at hu
 split at hu
 case h_3=>simp at hu
 all_goals
  rename_i n2 hT e2
  split at hu
  case h_2=>simp at hu
  rename_i bb hb
  simp only [Option.some.injEq] at hu
  subst hu
  obtain ⟨el,hT⟩:=zjt hT
  refine Does.pure fun E a w h hn=>?_
  have hx:=zac (h.ev x) (fun p hp=>hn p (by simp [hp]))
  have hy:=zac (h.ev y) (fun p hp=>hn p (by rw [e2] at hp;simp [hp]))
  rw [e2] at hy
  have hy:a.eval y = .pointer none:=hy
  obtain ⟨ad,hv,rfl⟩:=zju hb hx
  refine ⟨_,?_,rfl⟩
  have hr:=zjo hT ad w
  simp only [execOp,ho,hv,hy,eqGuard,Sem.run_bind,Sem.run_pure,Result.andThen]
  simp [Sem.run_bind,Result.andThen,binOp,hr]
end
end Go.Proofs.Ytjfphnegcelbpaa
namespace Go.Proofs.Ytjfphnegcelbpaa
open Go.RowKit Go.ChangeShapes Go.WideShapes Go.Deep
theorem OwnR.intsC {w:World} {T:TypeId} {S:Nat→Prop} {v:Value} {l:List Int} (h:OwnR 0 w T S [.int .i64] v (ints l)):w.ownsRow 0 T 1 v l.length (l.map (Value.int .i64))∧∀ x∈l,I64 x:=by
 obtain ⟨cells,ho,hr⟩:=h
 rw [zay] at ho hr
 have hl:cells.length=l.length:=by have:=ho.1;simpa using this
 have hat:∀ i,(hi:i<l.length)→cells[i]? = some (.int .i64 l[i])∧I64 l[i]:=by
  intro i hi
  have:=hr i hi
  have e2:(ints l).getD i []=[.int l[i]]:=by simp [ints,List.getD,hi]
  rw [e2] at this
  have e3:(cells.drop (i*[Ty.int .i64].length)).take [Ty.int .i64].length=[cells[i]'(by omega)]:=by
   show (cells.drop (i*1)).take 1=_
   rw [Nat.mul_one,List.drop_eq_getElem_cons (by omega),List.take_succ_cons,List.take_zero]
  rw [e3] at this
  obtain ⟨e4,h5⟩:=this.1.i64
  exact ⟨by rw [List.getElem?_eq_getElem (by omega),e4],h5⟩
 have e:cells=l.map (Value.int .i64):=by
  apply List.ext_getElem?
  intro i
  by_cases hi:i<l.length
  ·rw [(hat i hi).1];simp [hi]
  ·rw [List.getElem?_eq_none (by omega),List.getElem?_eq_none (by simp;omega)]
 refine ⟨by rw [← e];exact ho,fun x hx=>?_⟩
 obtain ⟨i,hi,rfl⟩:=List.mem_iff_getElem.1 hx
 exact (hat i hi).2
theorem OwnR.ofC {w:World} {T:TypeId} {S:Nat→Prop} {v:Value} {l:List Int} (h:w.ownsRow 0 T 1 v l.length (l.map (Value.int .i64))) (hx:∀ x∈l,I64 x):OwnR 0 w T S [.int .i64] v (ints l):=by
 refine ⟨l.map (Value.int .i64),by rw [zay];exact h,fun i hi=>?_⟩
 rw [zay] at hi
 have e1:(((l.map (Value.int .i64)).drop (i*1)).take 1)=[.int .i64 (l[i])]:=by
  rw [Nat.mul_one,List.drop_eq_getElem_cons (by simpa using hi)];simp
 have e2:(ints l).getD i []=[.int l[i]]:=by simp [ints,List.getD,hi]
 show RdL _ _ [.int .i64] (((l.map (Value.int .i64)).drop (i*1)).take 1) _
 rw [e1,e2]
 exact ⟨.ofI64 (hx _ (List.getElem_mem hi)),trivial⟩
theorem Sl.takeX {w:World} {S:Nat→Prop} {fs:List Ty} {a:Option Addr} {n c k:Nat} {rows:List (List D)} (h:Sl w S fs a n c rows) (hk:k≤n):Sl w S fs a k c (rows.take k):=by
 have hb:=h.bd
 by_cases h0:k=0
 ·subst h0
  rw [List.take_zero]
  refine .emp (fun e=>(hb.2.2.2 e).2) (by unfold maxLen;omega)
 ·cases h with
  | emp _ _=>omega
  | row vals h1 h2 h3 h4 h5 h6 h7 h8 h9 h10 h11=>
   have e:∀ i,i<k→(rows.take k).getD i []=rows.getD i []:=fun i hi=>by simp [List.getD,List.getElem?_take,hi]
   exact .row vals (by omega) (by simp;omega) (by omega) h4 (by omega) h6 h7 (fun i j hi hj=>h8 i j (by omega) hj) (fun i hi=>by rw [e i hi];exact h9 i (by omega)) (fun i j hi hj=>by rw [e i hi];exact h10 i j (by omega) hj) (fun i j hi hj=>h11 i j (by omega) hj)
section ops
variable {P : Program} {base : Nat} {X : Cx} {w0 : World} {st : St}
def RL.over:RL→RL→Option RL
 | .rInts l,.rInts m=>some (.rInts (m.take l.length++l.drop m.length))
 | _,_=>none
theorem zgu {l m:List Int} (h:Nat.min m.length l.length=0):m.take l.length++l.drop m.length=l:=by
 have:m.length=0∨l.length=0:=by have h:min m.length l.length=0:=h;omega
 rcases this with h | h
 ·rw [List.eq_nil_of_length_eq_zero h];simp
 ·rw [List.eq_nil_of_length_eq_zero h];simp
def ziA (P:Program) (st:St) (T:TypeId) (x y:Operand):Option Upd:=
 match zaK P T,zad (st.ev x) with
 | some e,(.own t,n1)=>match st.m t with
  | .row Tb ls r=>match zaW st r (zad (st.ev y)).1 with
   | some (su,ms,q)=>if zje (some t) su=true∧zaD P e=some 1 then (match r.over q with
    | some r2=>some ⟨n1++(zad (st.ev y)).2++[q.len≤17592186044416],.int .i64 (Nat.min q.len r.len:Nat),[(t,.row Tb ls r2)]⟩
    | none=>none) else none
   | none=>none
  | _=>none
 | _,_=>none
theorem zhD {E:Env} {w:World} (hm:MemOk base X w0 E st.m w) {l m:List Int} {s:SV} {su:Option Nat} {ms:List Nat} (h:zaW st (.rInts l) s=some (su,ms,.rInts m)) (hq:m.length≤17592186044416) {v:Value} (hv:DenV E w s v):∃ ad c,v = .slice ad m.length c∧∃ S,SlI w S ad m.length c m:=by
 cases s
 case own t=>
  simp only [zaW] at h
  split at h
  case h_2=>simp at h
  rename_i Tb ls2 r2 hmt
  simp only [Option.some.injEq,Prod.mk.injEq] at h
  obtain ⟨rfl,rfl,rfl⟩:=h
  obtain ⟨v',hβ,ho⟩:=hm.row t _ _ _ hmt
  have hv1:=hv.1
  rw [hβ] at hv1
  simp only [Option.some.injEq] at hv1
  subst hv1
  have hll:(RL.rInts m).rows.length=m.length:=by simp [RL.rows,ints]
  obtain ⟨a,c,e,hs⟩:=ho.slO (fun _=>True) (fun _ _=>trivial) (fun _ _ _=>trivial) (by rw [hll];exact hq)
  rw [hll] at e hs
  exact ⟨a,c,e,_,hs⟩
 case sl ls r=>
  simp only [zaW,Option.some.injEq,Prod.mk.injEq] at h
  obtain ⟨rfl,rfl,rfl⟩:=h
  have hv:Rd w (E.set ls) (.sl [.int .i64]) v (.sl (ints m)):=hv
  obtain ⟨ad,c,rfl,hsl⟩:=hv.sl'
  rw [zay] at hsl ⊢
  exact ⟨ad,c,rfl,_,hsl⟩
 case nil=>
  simp only [zaW,RL.emp,Option.some.injEq,Prod.mk.injEq] at h
  obtain ⟨rfl,rfl,e⟩:=h
  have e:m=[]:=by simpa using e.symm
  subst e
  have:v = .slice none 0 0:=hv
  exact ⟨none,0,this,fun _=>True,.emp (fun _=>rfl) (by decide)⟩
 all_goals simp [zaW] at h
theorem zi9 (o:Oper) (T T2:TypeId) (x y:Operand) (ho:o.op = .call {callee:= .builtin .copy,args:= #[x,y],argTypes:= #[T,T2]}) {u:Upd} (hu:ziA P st T x y=some u):Does P base X w0 st o u:=by
 unfold ziA at hu
 split at hu
 case h_2=>simp at hu
 rename_i e t n1 he e1
 split at hu
 case h_2=>simp at hu
 rename_i Tb ls r hm
 split at hu
 case h_2=>simp at hu
 rename_i su ms q hsrc
 split at hu
 case isFalse=>simp at hu
 rename_i hc
 obtain ⟨hap,hsz⟩:=hc
 split at hu
 case h_2=>simp at hu
 rename_i r2 hov
 simp only [Option.some.injEq] at hu
 subst hu
 have hr:∃ l,r = .rInts l:=by cases r<;>simp [RL.over] at hov;exact ⟨_,rfl⟩
 obtain ⟨l,rfl⟩:=hr
 have hq:∃ m,q = .rInts m:=by cases q<;>simp [RL.over] at hov;exact ⟨_,rfl⟩
 obtain ⟨m,rfl⟩:=hq
 simp only [RL.over,Option.some.injEq] at hov
 subst hov
 intro E a w K Q h hn hK
 have hx:=zac (h.ev x) (fun p hp=>hn p (by rw [e1] at hp;simp [hp]))
 have hy:=zac (h.ev y) (fun p hp=>hn p (by simp [hp]))
 have hml:m.length≤17592186044416:=hn _ (by simp [RL.len])
 rw [e1] at hx
 obtain ⟨sa,sc,hsv,S,hS⟩:=zhD h.mem hsrc hml hy
 obtain ⟨v,hβ,hO⟩:=h.mem.row t _ _ _ hm
 have hx1:=hx.1
 rw [hβ] at hx1
 simp only [Option.some.injEq] at hx1
 subst hx1
 have hO:OwnR 0 w Tb (E.set ls) [.int .i64] (a.eval x) (ints l):=hO
 obtain ⟨hc,hi⟩:=hO.intsC
 obtain ⟨va,hva⟩:∃ va,a.eval x=va:=⟨_,rfl⟩
 rw [hva] at hO hc hβ
 have hlive:(st.m t).live=true:=by rw [hm];rfl
 have hsz1:(P.info? e).map (·.size)=some 1:=hsz
 have hdform:∃ da dc,va = .slice da l.length dc:=by
  obtain ⟨a2,c2,e2⟩:=hO.form
  rw [zay] at e2
  exact ⟨a2,c2,e2⟩
 obtain ⟨da,dc,rfl⟩:=hdform
 have hlb:l.length≤9223372036854775807:=by
  rcases hc.2 with ⟨e5,e6⟩ | ⟨g,cap,cur,e5,_,_,h6,h7,_⟩
  ·omega
  ·unfold maxLen at h7;omega
 have hwf:(Lit.int .i64 (Nat.min m.length l.length:Nat)).wf=true:=by
  apply zaJ
  have:Nat.min m.length l.length≤l.length:=Nat.min_le_right _ _
  omega
 by_cases h0:Nat.min m.length l.length=0
 ·have hrun:=run_copy_none (P:=P) w T T2 o.type e da sa l.length dc m.length sc (zam he) hsz1 h0
  refine za1 (v:=goInt 0) (w':=w) ?_ (hK E w _ (Env.Le.refl E) Same.rfl' ⟨by show goInt 0=_;simp only [RL.len,h0];rfl,by simpa [RL.len] using hwf⟩ ?_)
  ·simp [execOp,ho,resolve,invoke,builtin,hva,hsv,hrun,Result.andThen]
  ·rw [zaE,zgu h0]
   have:upd st.m t (.row Tb ls (.rInts l))=st.m:=by
    funext u
    by_cases hu:u=t
    ·subst hu;rw [zat,hm]
    ·rw [zax _ _ hu]
   rw [this];exact h.mem
 ·have hml0:0<m.length∧0<l.length:=by have h0:¬ min m.length l.length=0:=h0;omega
  rcases hc.2 with ⟨e5,e6⟩ | ⟨g,cap,cur,e5,_,hg,hnc,hcm,hcs,htake⟩
  ·omega
  simp only [Value.slice.injEq] at e5
  obtain ⟨rfl,_,rfl⟩:=e5
  obtain ⟨b,off,rfl⟩:=hS.addr hml0.1
  have hlen:((m.take l.length).map (Value.int .i64)).length=Nat.min m.length l.length:=by
   simp only [List.length_map,List.length_take];exact Nat.min_comm _ _
  have hrun:=run_copy_row (P:=P) w T T2 o.type e g 0 l.length dc ⟨b,off,none⟩ m.length sc cur Tb ((m.take l.length).map (Value.int .i64)) (zam he) hsz1 hg hlen (fun j u hj=>by
   have hj2:j<m.length:=by
    have:=(List.getElem?_eq_some_iff.1 hj).1
    simp at this;omega
   have:=(SlI.cell hS hj2).2.1
   rw [Go.WideShapes.add_plain,this]
   rw [List.getElem?_map,List.getElem?_take] at hj
   split at hj
   ·rw [List.getElem?_eq_getElem hj2] at hj
    simp only [Option.map_some,Option.some.injEq] at hj
    rw [← hj];simp [nu,List.getD,hj2]
   ·simp at hj) (by
    have:Nat.min m.length l.length≤l.length:=Nat.min_le_right _ _
    rw [hlen];omega) (fun u hu=>by obtain ⟨i,_,rfl⟩:=List.mem_map.1 hu;rfl)
  have hHas:Has E st.m t g:=Has.row hm hβ rfl
  have hsep:=(h.mem.sep t g hHas).1
  rw [hlen] at hrun
  generalize hw':w.setRow g (cur.toList.take 0++(m.take l.length).map (Value.int .i64)++cur.toList.drop (0+Nat.min m.length l.length)).toArray=w' at hrun
  have hSm:Same E.lab w w':=by
   rw [← hw']
   exact ⟨by simp,fun g2 hg2 _=>setRow_other w g g2 _ (fun e=>hsep (e▸hg2))⟩
  refine za1 (v:=goInt (Nat.min m.length l.length)) (w':=w') ?_ (hK E w' _ (Env.Le.refl E) hSm ⟨rfl,hwf⟩ ?_)
  ·simp [execOp,ho,resolve,invoke,builtin,hva,hsv,hrun,Result.andThen]
  ·rw [zaE]
   refine h.mem.poke hlive hβ _ rfl (by rw [← hw'];simp) (fun g2 hg' _=>by rw [← hw'];exact setRow_other w g g2 _ (fun e=>hg' (by simp [zar,e]))) (by rw [← hw'];exact ⟨rfl,rfl,rfl⟩) ?_
   show OwnR 0 w' Tb (E.set ls) [.int .i64] _ (ints _)
   have hll:(m.take l.length++l.drop m.length).length=l.length:=by simp;omega
   have hcur:cur.toList.length=cur.size:=Array.length_toList
   have hmin:Nat.min m.length l.length≤l.length:=Nat.min_le_right _ _
   refine OwnR.ofC ?_ (fun z hz=>?_)
   ·rw [hll]
    refine ⟨by simp;omega,.inr ⟨g,dc,(cur.toList.take 0++(m.take l.length).map (Value.int .i64)++cur.toList.drop (0+Nat.min m.length l.length)).toArray,rfl,Nat.zero_le _,by rw [← hw'];exact setRow_heap w g _ _ Tb _ hg,hnc,hcm,?_,?_⟩⟩
    ·simp only [List.take_zero,List.nil_append,Nat.zero_add,List.size_toArray,List.length_append,hlen,List.length_drop]
     omega
    ·simp only [List.take_zero,List.nil_append,Nat.zero_add,Nat.mul_one]
     apply List.ext_getElem?
     intro i
     rw [List.getElem?_take]
     have hc2:∀ i,i<l.length→cur.toList[i]? = some (.int .i64 (l.getD i 0)):=by
      intro i hi2
      have:(cur.toList.take (l.length*1))[i]? = (l.map (Value.int .i64))[i]? := by rw [htake]
      rw [List.getElem?_take,if_pos (by omega)] at this
      rw [this];simp [List.getD,hi2]
     by_cases hi2:i<l.length
     ·rw [if_pos hi2]
      by_cases hi3:i<Nat.min m.length l.length
      ·rw [List.getElem?_append_left (by rw [hlen];exact hi3),List.map_append,List.getElem?_append_left (by rw [hlen];exact hi3)]
      ·have hml2:m.length≤i:=by have hi3:¬ i<min m.length l.length:=hi3;omega
       have hmm:Nat.min m.length l.length=m.length:=by show min m.length l.length=m.length;omega
       rw [List.getElem?_append_right (by rw [hlen];omega),List.map_append,List.getElem?_append_right (by rw [hlen];omega),hlen,hmm,List.getElem?_drop,List.getElem?_map,List.getElem?_drop,show m.length+(i-m.length)=i by omega,hc2 i hi2]
       simp [List.getD,hi2]
     ·rw [if_neg hi2,List.getElem?_eq_none]
      simp;omega
   ·rcases List.mem_append.1 hz with hz | hz
    ·exact SlI.i64 hS z (List.mem_of_mem_take hz)
    ·exact hi z (List.mem_of_mem_drop hz)
def optI (st:St):Option Operand→Option (Option Int×List Prop)
 | none=>some (none,[])
 | some x=>match zad (st.ev x) with
  | (.int _ n,ns)=>some (some n,ns)
  | _=>none
def hiOf (len:Nat):Option Int→Int
 | none=>len
 | some n=>n
def loOf:Option Int→Int
 | none=>0
 | some n=>n
def BdIs (a:Act):Option Operand→Option Int→Prop
 | none,none=>True
 | some x,some n=>∃ k,a.eval x = .int k n
 | _,_=>False
theorem zbd {E:Env} {a:Act} {w:World} (h:st.Ok base X w0 E a w) {x:Option Operand} {l:Option Int} {n:List Prop} (hx:optI st x=some (l,n)) (hn:∀ p∈n,p):BdIs a x l:=by
 cases x with
 | none=>
  simp only [optI,Option.some.injEq,Prod.mk.injEq] at hx
  obtain ⟨rfl,_⟩:=hx
  trivial
 | some x=>
  simp only [optI] at hx
  split at hx
  case h_2=>simp at hx
  rename_i k m ns e
  simp only [Option.some.injEq,Prod.mk.injEq] at hx
  obtain ⟨rfl,rfl⟩:=hx
  have:=zac (h.ev x) (fun p hp=>hn p (by rw [e] at hp;exact hp))
  rw [e] at this
  exact ⟨k,this.1⟩
theorem zcl {T e:TypeId} (he:P.underlying T=some (.slice e)) {sz:Nat} (hsz:zaD P e=some sz) (w:World) {a:Act} {lo hi:Option Operand} {l h:Option Int} (hl:BdIs a lo l) (hh:BdIs a hi h) (ad:Option Addr) (len cap:Nat) (hlc:len≤cap) (h0:0≤loOf l) (h1:loOf l≤hiOf len h) (h2:hiOf len h≤(len:Int)) :
  (Instr.sliceAt T (.slice ad len cap) (lo.map a.eval) (hi.map a.eval) none).run P w = .ok (.slice (if cap=(loOf l).toNat then ad else ad.map (·.add ((loOf l).toNat*sz))) ((hiOf len h).toNat-(loOf l).toNat) (cap-(loOf l).toNat)) w:=by
 have hb:∀ (k:IntKind) (n:Int) (y:Nat) code,0≤n→n≤(y:Int)→(Instr.sliceBound (.int k n) y code).run P w = .ok n.toNat w:=fun k n y code g0 g1=>run_sliceBound _ _ _ _ _ g0 g1
 cases lo with
 | none=>
  cases l with
  | some _=>exact hl.elim
  | none=>
   cases hi with
   | none=>
    cases h with
    | some _=>exact hh.elim
    | none=>simp [Instr.sliceAt,Instr.slice,Instr.sliceBounds,Sem.run_bind,run_underlying he,zal hsz,Result.andThen,Sem.run_pure,loOf,hiOf]
   | some y=>
    cases h with
    | none=>exact hh.elim
    | some n=>
     obtain ⟨k,hk⟩:=hh
     have:=hb k n cap .sliceAcap (by simp only [loOf,hiOf] at h0 h1;omega) (by simp only [hiOf] at h2;omega)
     simp [Instr.sliceAt,Instr.slice,Instr.sliceBounds,Sem.run_bind,run_underlying he,zal hsz,Result.andThen,Sem.run_pure,loOf,hiOf,hk,this]
 | some x=>
  cases l with
  | none=>exact hl.elim
  | some m=>
   obtain ⟨k2,hk2⟩:=hl
   cases hi with
   | none=>
    cases h with
    | some _=>exact hh.elim
    | none=>
     have:=hb k2 m len .sliceB h0 h1
     simp [Instr.sliceAt,Instr.slice,Instr.sliceBounds,Sem.run_bind,run_underlying he,zal hsz,Result.andThen,Sem.run_pure,loOf,hiOf,hk2,this]
     rfl
   | some y=>
    cases h with
    | none=>exact hh.elim
    | some n=>
     obtain ⟨k,hk⟩:=hh
     have g1:=hb k n cap .sliceAcap (by simp only [loOf,hiOf] at h0 h1;omega) (by simp only [hiOf] at h2;omega)
     have g2:=hb k2 m n.toNat .sliceB h0 (by simp only [loOf,hiOf] at h1;omega)
     simp [Instr.sliceAt,Instr.slice,Instr.sliceBounds,Sem.run_bind,run_underlying he,zal hsz,Result.andThen,Sem.run_pure,loOf,hiOf,hk,hk2,g1,g2]
     rfl
def zle (ls:List Nat) (r:RL) (l h:Option Int):SV:= .sl ls ((r.take (hiOf r.len h).toNat).drop (loOf l).toNat)
def zi8 (P:Program) (st:St) (c:Nat) (T:TypeId) (x:Operand) (lo hi:Option Operand):Option Upd:=
 match zaK P T,optI st lo,optI st hi with
 | some e,some (l,n2),some (h,n3)=>match zad (st.ev x) with
  | (.sl ls r,n1)=>if zaD P e=some r.tys.length then some ⟨n1++n2++n3++[0≤loOf l,loOf l≤hiOf r.len h,hiOf r.len h≤(r.len:Int)],zle ls r l h,[]⟩ else none
  | (.nil,n1)=>if (zaD P e).isSome=true then some ⟨n1++n2++n3++[loOf l=0,hiOf 0 h=0],.nil,[]⟩ else none
  | (.own t,n1)=>match st.m t with
   | .row Tb ls r=>if zaD P e=some r.tys.length∧st.free c=true then (match l with
    | none=>some ⟨n1++n2++n3++[0≤hiOf r.len h,hiOf r.len h≤(r.len:Int)],.own c,[(t,.dead),(c,.row Tb ls (r.take (hiOf r.len h).toNat))]⟩
    | some l=>some ⟨n1++n2++n3++[0≤l,l≤hiOf r.len h,hiOf r.len h≤(r.len:Int),r.len≤17592186044416],zle (c::ls) r (some l) h,[(t,.dead),(c,.dead)]⟩) else none
   | _=>none
  | _=>none
 | _,_,_=>none
theorem zlf {w:World} {S:Nat→Prop} {r:RL} {ad:Option Addr} {c:Nat} {l h:Option Int} (hs:Sl w S r.tys ad r.len c r.rows) (h0:0≤loOf l) (h1:loOf l≤hiOf r.len h) (h2:hiOf r.len h≤(r.len:Int)) :
  Rd w S (.sl ((r.take (hiOf r.len h).toNat).drop (loOf l).toNat).tys) (.slice (if c=(loOf l).toNat then ad else ad.map (·.add ((loOf l).toNat*r.tys.length))) ((hiOf r.len h).toNat-(loOf l).toNat) (c-(loOf l).toNat)) (.sl ((r.take (hiOf r.len h).toNat).drop (loOf l).toNat).rows):=by
 have hb:=hs.bd
 rw [(RL.drop_ok _ _).1,(RL.drop_ok _ _).2.1,(RL.take_ok _ _).1,(RL.take_ok _ _).2.1]
 have ht:=hs.takeX (k:=(hiOf r.len h).toNat) (by omega)
 have hbt:=ht.bd
 by_cases hc:c=(loOf l).toNat
 ·rw [if_pos hc]
  have e:(hiOf r.len h).toNat-(loOf l).toNat=0:=by omega
  rw [e,List.drop_eq_nil_of_le (by have:=ht.len;omega)]
  exact .emp (fun e2=>by have:=(hb.2.2.2 e2).2;omega) (by unfold maxLen;omega)
 ·rw [if_neg hc]
  exact ht.cutMX (by omega) (by omega)
theorem MemOk.freeze {E:Env} {w:World} {m:Nat→BE} (h:MemOk base X w0 E m w) {t c:Nat} (hl:(m t).live=true) (hc:m c = .empty) :
  ∃ E',E.Le E'∧(∀ b,Has E m t b→E'.σ c b)∧MemOk base X w0 E' (putF [(t,.dead),(c,.dead)] m) w:=by
 have htc:t≠c:=by intro e;subst e;rw [hc] at hl;cases hl
 have hcnl:X.nl≤c:=by
  rcases Nat.lt_or_ge c X.nl with hlt | hge
  ·exact absurd hc (h.low c hlt)
  ·exact hge
 have hnc:∀ b,¬ E.σ c b:=(h.empty c hc).2
 have hm:∀ u,putF [(t,.dead),(c,.dead)] m u=if u=t then .dead else if u=c then .dead else m u:=fun u=>rfl
 refine ⟨⟨E.β,fun i b=>E.σ i b∨(i=c∧Has E m t b),E.φ⟩,⟨fun _ _ x=>x,fun _ _ x=> .inl x⟩,fun b hb=> .inr ⟨rfl,hb⟩,?_⟩
 have hhas:∀ u b,Has (⟨E.β,fun i b=>E.σ i b∨(i=c∧Has E m t b),E.φ⟩:Env) (putF [(t,.dead),(c,.dead)] m) u b→Has E m u b∧u≠t:=by
  intro u b ⟨g1,g2⟩
  rw [hm] at g1 g2
  by_cases hu:u=t
  ·rw [if_pos hu] at g1;cases g1
  ·rw [if_neg hu] at g1 g2
   by_cases hu2:u=c
   ·rw [if_pos hu2] at g1;cases g1
   ·rw [if_neg hu2] at g1 g2;exact ⟨⟨g1,g2⟩,hu⟩
 refine h.go ⟨fun _ _ x=>x,fun _ _ x=> .inl x⟩ Same.rfl' (fun u=>u=t∨u=c) (fun u hu=>⟨by rw [hm,if_neg (fun e=>hu (.inl e)),if_neg (fun e=>hu (.inr e))],rfl,rfl⟩)
  (fun u hu he b hb=>hb.elim ((h.empty u he).2 b) (fun g=>hu (.inr g.1))) (fun _ _ _ _=>rfl) (fun u hu=>?_) (fun i b hb=>?_) (fun i j b hi hj=>?_) (fun u b hb=>?_) (fun i b hi hb=>?_) (fun u v b h1 h2=>?_) (BelowX.refl _ _ _)
 ·have:putF [(t,.dead),(c,.dead)] m u = .dead:=by
   rw [hm]
   rcases hu with rfl | rfl
   ·rw [if_pos rfl]
   ·split<;>simp
  rw [this]
  exact ⟨by simp,fun g=>by cases g⟩
 ·rcases hb with hb | ⟨rfl,hb⟩
  ·exact h.lab i b hb
  ·exact ⟨h.lt hb,fun _=>(h.sep t b hb).2⟩
 ·rcases hi with hi | ⟨rfl,hi⟩<;>rcases hj with hj | ⟨rfl,hj⟩
  ·exact h.dis i j b hi hj
  ·exact absurd ⟨i,hi⟩ (h.sep t b hj).1
  ·exact absurd ⟨j,hj⟩ (h.sep t b hi).1
  ·rfl
 ·obtain ⟨g1,g2⟩:=hhas u b hb
  refine ⟨fun ⟨i,hi⟩=>?_,(h.sep u b g1).2⟩
  rcases hi with hi | ⟨_,hi⟩
  ·exact (h.sep u b g1).1 ⟨i,hi⟩
  ·exact g2 (h.inj u t b g1 hi)
 ·rcases hb with hb | ⟨rfl,_⟩
  ·exact h.old i b hi hb
  ·omega
 ·exact h.inj u v b (hhas u b h1).1 (hhas v b h2).1
theorem zi7 (o:Oper) (c:Nat) (T:TypeId) (x:Operand) (lo hi:Option Operand) (ho:o.op = .slice T x lo hi none) {u:Upd} (hu:zi8 P st c T x lo hi=some u):Does P base X w0 st o u:=by
 unfold zi8 at hu
 split at hu
 case h_2=>simp at hu
 rename_i e l n2 h n3 he e2 e3
 split at hu
 case h_4=>simp at hu
 ·rename_i ls r n1 e1
  split at hu
  case isFalse=>simp at hu
  rename_i hsz
  simp only [Option.some.injEq] at hu
  subst hu
  refine Does.pure fun E a w hk hn=>?_
  have hx:=zac (hk.ev x) (fun p hp=>hn p (by rw [e1] at hp;simp [hp]))
  rw [e1] at hx
  have hl:=zbd hk e2 (fun p hp=>hn p (by simp [hp]))
  have hh:=zbd hk e3 (fun p hp=>hn p (by simp [hp]))
  have g0:0≤loOf l:=hn _ (by simp)
  have g1:loOf l≤hiOf r.len h:=hn _ (by simp)
  have g2:hiOf r.len h≤(r.len:Int):=hn _ (by simp)
  have hx:Rd w (E.set ls) (.sl r.tys) (a.eval x) (.sl r.rows):=hx
  obtain ⟨ad,cc,hv,hsl⟩:=hx.sl'
  rw [r.rows_len] at hv hsl
  refine ⟨_,?_,zlf hsl g0 g1 g2⟩
  have hr:=zcl (P:=P) (zam he) hsz w hl hh ad r.len cc hsl.bd.1 g0 g1 g2
  simp only [execOp,ho,hv,Option.map_none,Sem.run_bind,hr,Result.andThen,Sem.run_pure]
 ·rename_i n1 e1
  split at hu
  case isFalse=>simp at hu
  rename_i hsz
  simp only [Option.some.injEq] at hu
  subst hu
  refine Does.pure fun E a w hk hn=>?_
  have hx:=zac (hk.ev x) (fun p hp=>hn p (by rw [e1] at hp;simp [hp]))
  rw [e1] at hx
  have hl:=zbd hk e2 (fun p hp=>hn p (by simp [hp]))
  have hh:=zbd hk e3 (fun p hp=>hn p (by simp [hp]))
  have g0:loOf l=0:=hn _ (by simp)
  have g1:hiOf 0 h=0:=hn _ (by simp)
  have hv:a.eval x = .slice none 0 0:=hx
  obtain ⟨sz,hsz⟩:=Option.isSome_iff_exists.1 hsz
  refine ⟨_,?_,(rfl:Value.slice none 0 0=_)⟩
  have hr:=zcl (P:=P) (zam he) hsz w hl hh none 0 0 (Nat.le_refl _) (by omega) (by rw [g0,g1];decide) (by rw [g1];decide)
  simp only [execOp,ho,hv,Option.map_none,Sem.run_bind,hr,Result.andThen,Sem.run_pure,g0,g1]
  rfl
 ·rename_i t n1 e1
  split at hu
  case h_2=>simp at hu
  rename_i Tb ls r hm
  split at hu
  case isFalse=>simp at hu
  rename_i hc
  obtain ⟨hsz,hfree⟩:=hc
  have hcE:=St.of_free hfree
  have hlive:(st.m t).live=true:=by rw [hm];rfl
  split at hu
  ·simp only [Option.some.injEq] at hu
   subst hu
   intro E a w K Q hk hn hK
   have hx:=zac (hk.ev x) (fun p hp=>hn p (by rw [e1] at hp;simp [hp]))
   rw [e1] at hx
   have hl:=zbd hk e2 (fun p hp=>hn p (by simp [hp]))
   have hh:=zbd hk e3 (fun p hp=>hn p (by simp [hp]))
   have g1:0≤hiOf r.len h:=hn _ (by simp)
   have g2:hiOf r.len h≤(r.len:Int):=hn _ (by simp)
   obtain ⟨v,hβ,hO⟩:=hk.mem.row t _ _ _ hm
   have hx1:=hx.1
   rw [hβ] at hx1
   simp only [Option.some.injEq] at hx1
   obtain ⟨ad,cc,hv⟩:=hO.form
   rw [r.rows_len] at hv
   have hcl:r.len≤cc:=by
    obtain ⟨cells,hoR,_⟩:=hO
    rcases hoR.2 with ⟨e5,e6⟩ | ⟨g,cap,cur,e5,_,_,h6,_⟩
    ·rw [e5] at hv;simp at hv;omega
    ·rw [e5] at hv;simp only [Value.slice.injEq] at hv;rw [r.rows_len] at h6;omega
   have hr:=zcl (P:=P) (zam he) hsz w hl hh ad r.len cc hcl (Int.le_refl _) g1 g2
   have hr2:(Instr.sliceAt T (a.eval x) (lo.map a.eval) (hi.map a.eval) none).run P w = .ok (.slice ad (hiOf r.len h).toNat cc) w:=by
    rw [← hx1,hv,hr]
    have:(if cc=(loOf none).toNat then ad else ad.map (·.add ((loOf none).toNat*r.tys.length)))=ad:=by
     have e9:(loOf none).toNat*r.tys.length=0:=by simp [loOf]
     rw [e9]
     cases ad with
     | none=>simp
     | some ad=>simp [Addr.add]
    rw [this];simp [loOf]
   have hcut:OwnR 0 w Tb (E.set ls) (r.take (hiOf r.len h).toNat).tys (.slice ad (hiOf r.len h).toNat cc) (r.take (hiOf r.len h).toNat).rows:=by
    rw [(RL.take_ok _ _).1,(RL.take_ok _ _).2.1]
    obtain ⟨cells,hoR,hrow⟩:=hO
    have hkl:(r.rows.take (hiOf r.len h).toNat).length=(hiOf r.len h).toNat:=by rw [List.length_take,r.rows_len];omega
    have hcl2:cells.length=r.rows.length*r.tys.length:=hoR.1
    have hmul:(hiOf r.len h).toNat*r.tys.length≤r.rows.length*r.tys.length:=Nat.mul_le_mul_right _ (by rw [r.rows_len];omega)
    refine ⟨cells.take ((hiOf r.len h).toNat*r.tys.length),⟨by rw [hkl,List.length_take];omega,?_⟩,fun i hi=>?_⟩
    ·rcases hoR.2 with ⟨e5,e6⟩ | ⟨g,cap,cur,e5,g3,g4,g5,g6,g7,g8⟩
     ·rw [e5] at hv
      simp only [Value.slice.injEq] at hv
      obtain ⟨rfl,h0,rfl⟩:=hv
      left
      rw [hkl]
      have:(hiOf r.len h).toNat=0:=by omega
      exact ⟨by rw [this],this⟩
     ·right
      rw [e5] at hv
      simp only [Value.slice.injEq] at hv
      obtain ⟨rfl,h0,rfl⟩:=hv
      refine ⟨g,cap,cur,by rw [hkl],g3,g4,by rw [hkl];omega,g6,g7,?_⟩
      rw [hkl,← g8,List.take_take,Nat.min_eq_left hmul]
    ·rw [hkl] at hi
     have e7:(r.rows.take (hiOf r.len h).toNat).getD i []=r.rows.getD i []:=by simp [List.getD,List.getElem?_take,hi]
     have e8:((cells.take ((hiOf r.len h).toNat*r.tys.length)).drop (i*r.tys.length)).take r.tys.length=(cells.drop (i*r.tys.length)).take r.tys.length:=by
      have:(i+1)*r.tys.length≤(hiOf r.len h).toNat*r.tys.length:=Nat.mul_le_mul_right _ hi
      rw [Nat.add_mul,Nat.one_mul] at this
      apply List.ext_getElem?
      intro j
      simp only [List.getElem?_take,List.getElem?_drop]
      by_cases hj:j<r.tys.length
      ·rw [if_pos hj,if_pos hj,if_pos (by omega)]
      ·rw [if_neg hj,if_neg hj]
     rw [e7,e8]
     have hvo:Value.ownBlock (.slice ad (hiOf r.len h).toNat cc)=v.ownBlock:=by rw [hv];cases ad<;>rfl
     rw [hvo]
     exact hrow i (by rw [r.rows_len];omega)
   have hE:=Env.setβ_le (hk.mem.empty c hcE).1 (.slice ad (hiOf r.len h).toNat cc)
   refine za1 (w':=w) ?_ (hK (E.setβ c (.slice ad (hiOf r.len h).toNat cc)) w (.slice ad (hiOf r.len h).toNat cc) hE Same.rfl' ⟨if_pos rfl,rfl⟩ ?_)
   ·simp only [execOp,ho,Option.map_none,Sem.run_bind,hr2,Result.andThen,Sem.run_pure]
   ·have htc:t≠c:=by intro e5;subst e5;rw [hcE] at hm;cases hm
    have hk2:=hk.mem.kill t
    have:=hk2.take (c:=c) (w':=w) (by rw [zax _ _ (Ne.symm htc)];exact hcE) (.slice ad (hiOf r.len h).toNat cc) (.row Tb ls (r.take (hiOf r.len h).toNat)) (by simp) (Nat.le_refl _) (fun _ _=>rfl) (BelowX.refl _ _ _) (fun b hb=>?_) hcut
    ·have e9:putF [(t,.dead),(c,.row Tb ls (r.take (hiOf r.len h).toNat))] st.m=upd (upd st.m t .dead) c (.row Tb ls (r.take (hiOf r.len h).toNat)):=by
      rw [zdE,zaE];exact (zeC _ _ _ htc).symm
     rw [e9];exact this
    ·have hb2:zar v=some b:=by rw [hv];cases ad<;>exact hb
     have hH:Has E st.m t b:=Has.row hm hβ hb2
     refine ⟨(hk.mem.sep t b hH).1,fun u hu=>?_,(hk.mem.sep t b hH).2⟩
     by_cases hut:u=t
     ·subst hut;have:=hu.1;rw [zat] at this;cases this
     ·exact hut (hk.mem.inj u t b ⟨by have:=hu.1;rwa [zax _ _ hut] at this,by have:=hu.2;rwa [zax _ _ hut] at this⟩ hH)
  ·rename_i l2
   simp only [Option.some.injEq] at hu
   subst hu
   intro E a w K Q hk hn hK
   have hx:=zac (hk.ev x) (fun p hp=>hn p (by rw [e1] at hp;simp [hp]))
   rw [e1] at hx
   have hl:=zbd hk e2 (fun p hp=>hn p (by simp [hp]))
   have hh:=zbd hk e3 (fun p hp=>hn p (by simp [hp]))
   have g0:0≤l2:=hn _ (by simp)
   have g1:l2≤hiOf r.len h:=hn _ (by simp)
   have g2:hiOf r.len h≤(r.len:Int):=hn _ (by simp)
   have g3:r.len≤17592186044416:=hn _ (by simp)
   obtain ⟨v,hβ,hO⟩:=hk.mem.row t _ _ _ hm
   have hx1:=hx.1
   rw [hβ] at hx1
   simp only [Option.some.injEq] at hx1
   obtain ⟨E',hE,hσ,hM⟩:=hk.mem.freeze hlive hcE
   obtain ⟨ad,cc,hv,hsl⟩:=hO.slO (E'.set (c::ls)) (fun b ⟨i,hi,hs⟩=>⟨i,List.mem_cons_of_mem _ hi,hE.σ i b hs⟩) (fun b _ hb=>⟨c,List.mem_cons_self ..,hσ b (Has.row hm hβ (by
    obtain ⟨a5,c5,e5⟩:=hO.form
    rw [← zan ⟨a5,_,c5,e5⟩];exact hb))⟩) (by rw [r.rows_len];exact g3)
   rw [r.rows_len] at hv hsl
   have hr:=zcl (P:=P) (zam he) hsz w hl hh ad r.len cc hsl.bd.1 g0 g1 g2
   rw [← hv,hx1] at hr
   refine za1 (w':=w) ?_ (hK E' w _ hE Same.rfl' (zlf (l:=some l2) (h:=h) hsl g0 g1 g2) hM)
   simp only [execOp,ho,Option.map_none,Sem.run_bind,hr,Result.andThen,Sem.run_pure]
end ops
end Go.Proofs.Ytjfphnegcelbpaa
namespace Go.Proofs.Ytjfphnegcelbpaa
open Go.RowKit Go.ChangeShapes Go.WideShapes Go.Deep
def bytesOf (s:ByteArray):List Int:=s.data.toList.map fun b=>(b.toNat:Int)
theorem ze4 (s:ByteArray):(bytesOf s).length=s.size:=by simp [bytesOf]
theorem zd3 (s:ByteArray):Lib.strCells s=(bytesOf s).map (Value.int .u8):=by simp [Lib.strCells,bytesOf,Function.comp_def]
theorem u8_wf {b:UInt8}:(Lit.int .u8 (b.toNat:Int)).wf=true:=by
 have:=b.toNat_lt
 simp only [Lit.wf,Bool.and_eq_true,decide_eq_true_eq]
 show (0:Int)≤_∧_≤(255:Int)
 omega
theorem OwnR.bytesC {w:World} {T:TypeId} {S:Nat→Prop} {v:Value} {l:List Int} (h:OwnR 0 w T S [.int .u8] v (ints l)):w.ownsRow 0 T 1 v l.length (l.map (Value.int .u8))∧∀ x∈l,(Lit.int .u8 x).wf=true:=by
 obtain ⟨cells,ho,hr⟩:=h
 rw [zay] at ho hr
 have hl:cells.length=l.length:=by have:=ho.1;simpa using this
 have hat:∀ i,(hi:i<l.length)→cells[i]? = some (.int .u8 l[i])∧(Lit.int .u8 l[i]).wf=true:=by
  intro i hi
  have:=hr i hi
  have e2:(ints l).getD i []=[.int l[i]]:=by simp [ints,List.getD,hi]
  rw [e2] at this
  have e3:(cells.drop (i*[Ty.int .u8].length)).take [Ty.int .u8].length=[cells[i]'(by omega)]:=by
   show (cells.drop (i*1)).take 1=_
   rw [Nat.mul_one,List.drop_eq_getElem_cons (by omega),List.take_succ_cons,List.take_zero]
  rw [e3] at this
  obtain ⟨n,e4,e5,h5⟩:=this.1.int_inv
  cases e5
  exact ⟨by rw [List.getElem?_eq_getElem (by omega),e4],h5⟩
 have e:cells=l.map (Value.int .u8):=by
  apply List.ext_getElem?
  intro i
  by_cases hi:i<l.length
  ·rw [(hat i hi).1];simp [hi]
  ·rw [List.getElem?_eq_none (by omega),List.getElem?_eq_none (by simp;omega)]
 refine ⟨by rw [← e];exact ho,fun x hx=>?_⟩
 obtain ⟨i,hi,rfl⟩:=List.mem_iff_getElem.1 hx
 exact (hat i hi).2
theorem OwnR.ofBytes {w:World} {T:TypeId} {S:Nat→Prop} {v:Value} {l:List Int} (h:w.ownsRow 0 T 1 v l.length (l.map (Value.int .u8))) (hx:∀ x∈l,(Lit.int .u8 x).wf=true):OwnR 0 w T S [.int .u8] v (ints l):=by
 refine ⟨l.map (Value.int .u8),by rw [zay];exact h,fun i hi=>?_⟩
 rw [zay] at hi
 have e1:(((l.map (Value.int .u8)).drop (i*1)).take 1)=[.int .u8 (l[i])]:=by
  rw [Nat.mul_one,List.drop_eq_getElem_cons (by simpa using hi),List.take_succ_cons,List.take_zero];simp
 have e2:(ints l).getD i []=[.int l[i]]:=by simp [ints,List.getD,hi]
 show RdL _ _ [.int .u8] (((l.map (Value.int .u8)).drop (i*1)).take 1) _
 rw [e1,e2]
 exact ⟨.int (hx _ (List.getElem_mem hi)),trivial⟩
theorem zhH {P:Program} {w:World} {t u ty e:TypeId} {i:TypeInfo} (ht:P.underlying t=some (.slice e)) (hu:P.underlying u=some .string) (hi:P.info? e=some i) (hz:i.zero=some (.int .u8 0)) (hsize:i.size=1) (hby:i.bytes=1)
  {v:Value} {n:Nat} {xs:List Value} (hown:w.ownsRow 0 e 1 v n xs) (s:ByteArray) (hbytes:n+s.size≤140737488355328) :
  ∃ v' w',(Builtin.append_ #[t,u] ty #[v,.string s]).run P w = .ok v' w'∧w'.ownsRow 0 e 1 v' (n+s.size) (xs++Lib.strCells s)∧w.grownBy w' v.ownBlock∧(v'.ownBlock=v.ownBlock∨v'.ownBlock=some w.heap.size):=by
 have h63:n+s.size≤maxLen:=by unfold maxLen;omega
 obtain ⟨v',w',hr,h2,h3,h4⟩:=Lib.run_append_own_string (P:=P) w 0 t u ty e i ht hu hi hz hsize hby v n xs hown s h63 hbytes (Nat.zero_le _)
 refine ⟨v',w',hr,h2,h3,?_⟩
 have hxl:xs.length=n:=by simpa using hown.1
 rcases hown.2 with ⟨rfl,rfl⟩ | ⟨g,cap,cur,rfl,hbg,hg,hnc,hcm,hcs,htake⟩
 ·by_cases hm:s.size=0
  ·left;rw [h4.2 ⟨rfl,hm⟩]
  ·right
   have:=run_append_nil_string (P:=P) w t u ty e i (.int .u8 0) ht hu hi hz s (by omega) (by omega) (by rw [hby];omega)
   rw [hr] at this
   simp only [Result.ok.injEq] at this
   rw [this.1];rfl
 ·by_cases hroom:n+s.size≤cap
  ·left
   have hcs':cur.size=cap:=by simpa using hcs
   have:=Lib.run_append_room_string (P:=P) w t u ty e i ht hu hi hsize g n cap cur hg s hroom (by omega)
   rw [hr] at this
   simp only [Result.ok.injEq] at this
   rw [this.1];rfl
  ·right
   have holds:∀ j u,xs[j]? = some u→w.cell? ((⟨g,0,none⟩:Addr).add j)=some u:=hown.cells (g:=g) rfl
   have:=Lib.run_append_grow_string (P:=P) w t u ty e i (.int .u8 0) ht hu hi hz ⟨g,0,none⟩ n cap xs (by rw [hsize];simpa using hxl) holds s (by omega) (by omega) (by rw [hby];exact growslice_fits (by omega) (by omega))
   rw [hr] at this
   simp only [Result.ok.injEq] at this
   rw [this.1];rfl
section ops
variable {P : Program} {base : Nat} {X : Cx} {w0 : World} {st : St}
def zjF (P:Program) (e:TypeId):Bool:=match P.info? e with
 | some i=>match i.zero with
  | some (.int .u8 (.ofNat 0))=>i.size==1&&i.bytes==1
  | _=>false
 | none=>false
theorem zid {e:TypeId} (h:zjF P e=true):∃ i,P.info? e=some i∧i.zero=some (.int .u8 0)∧i.size=1∧i.bytes=1:=by
 unfold zjF at h
 split at h
 case h_2=>cases h
 rename_i i hi
 split at h
 case h_2=>cases h
 rename_i hz
 simp at h
 exact ⟨i,hi,hz,h.1,h.2⟩
def ziD (P:Program) (st:St) (c:Nat) (T T2:TypeId) (x y:Operand):Option Upd:=
 match zaK P T,P.underlying T2 with
 | some e,some .string=>match zcG st e (zad (st.ev x)).1,zad (st.ev y) with
  | some (dt,ls,.rBytes l),(.str s,n2)=>if st.free c=true∧zjF P e=true then some ⟨(zad (st.ev x)).2++n2++[l.length+s.size≤140737488355328],.own c,zgB dt++[(c,.row e [] (.rBytes (l++bytesOf s)))]⟩ else none
  | _,_=>none
 | _,_=>none
theorem ziC (o:Oper) (c:Nat) (T T2:TypeId) (x y:Operand) (ho:o.op = .call {callee:= .builtin .append,args:= #[x,y],argTypes:= #[T,T2]}) {u:Upd} (hu:ziD P st c T T2 x y=some u):Does P base X w0 st o u:=by
 unfold ziD at hu
 split at hu
 case h_2=>simp at hu
 rename_i e he h2
 split at hu
 case h_2=>simp at hu
 rename_i dt ls l s n2 hdst e2
 split at hu
 case isFalse=>simp at hu
 rename_i hc
 obtain ⟨hfree,hinfo⟩:=hc
 simp only [Option.some.injEq] at hu
 subst hu
 have hcE:=St.of_free hfree
 intro E a w K Q h hn hK
 have hx:=zac (h.ev x) (fun p hp=>hn p (by simp [hp]))
 have hy:=zac (h.ev y) (fun p hp=>hn p (by rw [e2] at hp;simp [hp]))
 rw [e2] at hy
 obtain ⟨hy,_⟩:=hy
 have hbd:l.length+s.size≤140737488355328:=hn _ (by simp)
 obtain ⟨o1,hHas,hlive⟩:=zfj h.mem hdst hx
 obtain ⟨i,i1,i2,i3,i4⟩:=zid hinfo
 have o1:OwnR 0 w e (E.set ls) [.int .u8] (a.eval x) (ints l):=o1
 obtain ⟨c1,c2⟩:=o1.bytesC
 obtain ⟨v',w',hrun,hown,hgr,hat⟩:=zhH (P:=P) (ty:=o.type) (zam he) h2 i1 i2 i3 i4 c1 s hbd
 have hO:OwnR 0 w' e (E.set []) (RL.rBytes (l++bytesOf s)).tys v' (RL.rBytes (l++bytesOf s)).rows:=by
  refine OwnR.ofBytes (l:=l++bytesOf s) ?_ (fun x hx=>?_)
  ·rw [List.length_append,ze4,List.map_append,← zd3];exact hown
  ·rcases List.mem_append.1 hx with hx | hx
   ·exact c2 x hx
   ·obtain ⟨b,_,rfl⟩:=List.mem_map.1 hx
    exact u8_wf
 obtain ⟨hS,hE,hone,hm'⟩:=zhw h.mem hcE hHas hlive hO hgr hat
 refine za1 (v:=v') (w':=w') ?_ (hK (E.setβ c v') w' v' hE hS ⟨if_pos rfl,hone⟩ hm')
 simp only [execOp,ho,resolve,invoke,builtin,Sem.run_bind,Sem.run_pure,Result.andThen_ok,List.map_toArray,List.map_cons,List.map_nil]
 rw [hy,hrun];rfl
end ops
end Go.Proofs.Ytjfphnegcelbpaa
namespace Go.Proofs.Ytjfphnegcelbpaa
open Go.RowKit Go.ChangeShapes Go.WideShapes Go.Deep
def zib (P:Program) (t:TypeId):Bool:=match P.underlying t with
 | some (.int .i64)=>true
 | _=>false
theorem zeW {P:Program} {t:TypeId} (h:zib P t=true):P.underlying t=some (.int .i64):=by
 unfold zib at h
 split at h
 ·assumption
 ·cases h
def intF (P:Program):Nat→List Field→Bool
 | _,[]=>true
 | j, f :: fs => !(f.name == "_") && Nat.beq f.offset j && zib P f.type && P.plainKey f.type && intF P (j + 1) fs
def isI:SV→Bool
 | .int .i64 _=>true
 | _=>false
def eqI:List SV→List SV→Bool
 | .int _ a::r,.int _ b::q=>if a=b then eqI r q else false
 | _,_=>true
theorem ziR {s:SV} (h:isI s=true):∃ n,s = .int .i64 n:=by
 unfold isI at h
 split at h
 ·exact ⟨_,rfl⟩
 ·cases h
theorem zgW {P:Program} {E:Env} {w:World} {X Y:Array Value} {d:Nat}:∀ (fs:List Field) (j:Nat) (vs us:List SV),intF P j fs=true→vs.all isI=true→us.all isI=true→vs.length=fs.length→us.length=fs.length→DenL E w vs (X.toList.drop j)→DenL E w us (Y.toList.drop j) →
  (Op.eqFields (d+1) X Y fs).run P w = .ok (eqI vs us) w
 | [],j,[],[],_,_,_,_,_,_,_=>by simp [Op.eqFields,eqI]
 | f::fs,j,s::vs,t::us,hF,hv,hu,hl,hl2,hdx,hdy=>by
  simp only [intF,Bool.and_eq_true,Bool.not_eq_true'] at hF
  obtain ⟨⟨⟨⟨h1,h2⟩,h3⟩,h4⟩,h5⟩:=hF
  rw [List.all_cons,Bool.and_eq_true] at hv hu
  obtain ⟨a,rfl⟩:=ziR hv.1
  obtain ⟨b,rfl⟩:=ziR hu.1
  have hoff:=Nat.eq_of_beq_eq_true h2
  have key:∀ {Z:Array Value} {c:Int} {ws:List SV},DenL E w (.int .i64 c::ws) (Z.toList.drop j)→Z[j]? = some (.int .i64 c)∧DenL E w ws (Z.toList.drop (j+1)):=by
   intro Z c ws hd
   cases hz:Z.toList.drop j with
   | nil=>rw [hz] at hd;exact hd.elim
   | cons z zs=>
    rw [hz] at hd
    have hlt:j<Z.toList.length:=by
     have:=congrArg List.length hz
     simp at this ⊢;omega
    have e:=List.drop_eq_getElem_cons hlt
    rw [hz] at e
    simp only [List.cons.injEq] at e
    obtain ⟨e1,e2⟩:=e
    have hzv:z = .int .i64 c:=hd.1.1
    refine ⟨?_,by rw [← e2];exact hd.2⟩
    rw [← hzv,e1]
    simp
  obtain ⟨kx,rx⟩:=key hdx
  obtain ⟨ky,ry⟩:=key hdy
  rw [← hoff] at kx ky
  have hne : f.name ≠ "_" := by simpa using h1
  have ih:=zgW (d:=d) fs (j+1) vs us h5 hv.2 hu.2 (by simpa using hl) (by simpa using hl2) rx ry
  simp only [Op.eqFields,if_pos hne,Sem.run_bind,run_part_plain w h4 kx,run_part_plain w h4 ky,Result.andThen_ok,run_equalIn_int w d f.type .i64 .i64 a b (zeW h3),Sem.run_ite]
  by_cases hab:a=b
  ·have e:(a==b)=true:=by simpa using hab
   simp only [e,Bool.not_true,Bool.false_eq_true,if_false,ih,eqI,if_pos hab]
  ·have e:(a==b)=false:=by simpa using hab
   simp only [e,Bool.not_false,if_true,Sem.run_pure,eqI,if_neg hab]
 | [],_,_::_,_,_,_,_,h,_,_,_=>by simp at h
 | [],_,[],_::_,_,_,_,_,h,_,_=>by simp at h
 | _::_,_,[],_,_,_,_,h,_,_,_=>by simp at h
 | _::_,_,_::_,[],_,_,_,_,h,_,_=>by simp at h
def cEqA (P:Program) (st:St) (op:BinOp) (T:TypeId) (x y:Operand):Option Upd:=
 match zad (st.ev x),zad (st.ev y) with
 | (.agg vs,n1),(.agg us,n2)=>
  if isStr P T&&intF P 0 (P.fieldsOf T).toList&&!P.stoodInHeld T&&!P.eqGuardType P.depth T&&vs.all isI&&us.all isI&&Nat.beq vs.length (P.fieldsOf T).toList.length&&Nat.beq us.length (P.fieldsOf T).toList.length then
   (match op with
   | .eql=>some ⟨n1++n2,.bool (eqI vs us),[]⟩
   | .neq=>some ⟨n1++n2,.bool !(eqI vs us),[]⟩
   | _=>none) else none
 | _,_=>none
where isStr (P:Program) (T:TypeId):Bool:=match P.underlying T with
 | some (.struct _)=>true
 | _=>false
section
variable {P : Program} {base : Nat} {X : Cx} {w0 : World} {st : St}
theorem zkv (o:Oper) (op:BinOp) (T T2:TypeId) (x y:Operand) (ho:o.op = .binOp op T x y T2) {u:Upd} (hu:cEqA P st op T x y=some u):Does P base X w0 st o u:=by
 unfold cEqA at hu
 split at hu
 case h_2=>simp at hu
 rename_i vs n1 us n2 e1 e2
 split at hu
 case isFalse=>simp at hu
 rename_i hck
 simp only [Bool.and_eq_true,Bool.not_eq_true'] at hck
 obtain ⟨⟨⟨⟨⟨⟨⟨c1,c2⟩,c3⟩,c4⟩,c5⟩,c6⟩,c7⟩,c8⟩:=hck
 have hT:P.underlying T=some (.struct (P.fieldsOf T)):=by
  unfold cEqA.isStr at c1
  split at c1
  ·rename_i fs e;simp only [Program.fieldsOf,e]
  ·cases c1
 have run:∀ E a w,st.Ok base X w0 E a w→(∀ p∈n1++n2,p)→∃ xs ys:List Value,a.eval x = .agg xs.toArray∧a.eval y = .agg ys.toArray∧(Op.equalIn 10000 T (.agg xs.toArray) (.agg ys.toArray)).run P w = .ok (eqI vs us) w:=by
  intro E a w h hn
  have hx:=zac (h.ev x) (fun p hp=>hn p (by rw [e1] at hp;simp [hp]))
  have hy:=zac (h.ev y) (fun p hp=>hn p (by rw [e2] at hp;simp [hp]))
  rw [e1] at hx
  rw [e2] at hy
  obtain ⟨xs,hx1,hx2⟩:=hx
  obtain ⟨ys,hy1,hy2⟩:=hy
  refine ⟨xs,ys,hx1,hy1,?_⟩
  rw [run_equalIn_agg w 9999 T xs.toArray ys.toArray hT c3]
  exact zgW (E:=E) (d:=9998) _ 0 vs us c2 c5 c6 (Nat.eq_of_beq_eq_true c7) (Nat.eq_of_beq_eq_true c8) (by simpa using hx2) (by simpa using hy2)
 split at hu
 ·simp only [Option.some.injEq] at hu
  subst hu
  refine Does.pure fun E a w h hn=>?_
  obtain ⟨xs,ys,h1,h2,h3⟩:=run E a w h hn
  refine ⟨.bool (eqI vs us),?_,rfl⟩
  simp only [execOp,ho,h1,h2,Sem.run_bind,run_eqGuard_agg w .eql T x y _ _ c4,Result.andThen_ok,run_eql_struct,h3,Sem.run_pure]
 ·simp only [Option.some.injEq] at hu
  subst hu
  refine Does.pure fun E a w h hn=>?_
  obtain ⟨xs,ys,h1,h2,h3⟩:=run E a w h hn
  refine ⟨.bool (!eqI vs us),?_,rfl⟩
  simp only [execOp,ho,h1,h2,Sem.run_bind,run_eqGuard_agg w .neq T x y _ _ c4,Result.andThen_ok,run_neq_struct,h3,Sem.run_pure]
 ·simp at hu
end
end Go.Proofs.Ytjfphnegcelbpaa
namespace Go.Proofs.Ytjfphnegcelbpaa
open Go.RowKit Go.ChangeShapes Go.WideShapes Go.Deep
theorem MemOk.objNew {base:Nat} {X:Cx} {w0 w w':World} {E:Env} {m:Nat→BE} (h:MemOk base X w0 E m w) {c:Nat} (hc:m c = .empty) (o:OD) {b:Nat} (hb:w.heap.size≤b)
  (hsz:w.heap.size≤w'.heap.size) (hw:∀ x,x<w.heap.size→w'.heap[x]? = w.heap[x]?) (hos:w'.os=w.os∧w'.tape=w.tape∧w'.output=w.output) (ho:o.pr w' (fun x=>x=b) b) :
  ∃ E',E.Le E'∧E'.β c=some (.pointer (some ⟨b,0,none⟩))∧(∀ x,E'.lab x→E.lab x)∧MemOk base X w0 E' (upd m c (.obj o)) w':=by
 let E':Env:=⟨fun t=>if t=c then some (.pointer (some ⟨b,0,none⟩)) else E.β t,E.σ,fun t x=>if t=c then x=b else E.φ t x⟩
 have hE:E.Le E':=⟨fun u v hv=>(Env.setβ_le (h.empty c hc).1 (.pointer (some ⟨b,0,none⟩))).β u v hv,fun _ _ h=>h⟩
 have hβ:E'.β c=some (.pointer (some ⟨b,0,none⟩)):=if_pos rfl
 have hfo:∀ x,(E'.φ c x)=(x=b):=fun x=>if_pos rfl
 have hh:∀ u x,u≠c→Has E' (upd m c (.obj o)) u x→Has E m u x:=by
  intro u x hu ⟨hl,v,hv,hxb⟩
  rw [zax _ _ hu] at hl hxb
  have hv:E.β u=some v:=by have:(if u=c then _ else E.β u)=some v:=hv;rwa [if_neg hu] at this
  refine ⟨hl,v,hv,?_⟩
  cases hmu:m u with
  | obj o' =>
   rw [hmu] at hxb
   have hxb:(if u=c then x=b else E.φ u x):=hxb
   rw [if_neg hu] at hxb
   exact hxb
  | _=>rw [hmu] at hxb;exact hxb
 have hcb:∀ x,Has E' (upd m c (.obj o)) c x→x=b:=by
  intro x ⟨_,v,hv,hxb⟩
  rw [zat] at hxb
  have hxb:(if c=c then x=b else E.φ c x):=hxb
  rwa [if_pos rfl] at hxb
 refine ⟨E',hE,hβ,fun x hx=>hx,?_⟩
 refine h.go hE ⟨hsz,fun x hx hl=>hw x hl⟩ (fun u=>u=c) (fun u hu=>⟨zax _ _ hu,if_neg hu,by funext x;exact if_neg hu⟩) (fun u hu hm=>(h.empty u hm).2) (fun u x hu hx=>hw x (h.lt hx))
  (fun u hu=>by
   subst hu
   rw [zat]
   refine ⟨(by simp),fun _=>⟨_,hβ,b,rfl,?_⟩⟩
   have:E'.φ u=fun x=>x=b:=by funext x;exact hfo x
   rw [this]
   exact ho)
  (fun i x hx=>⟨Nat.lt_of_lt_of_le (h.lab i x hx).1 hsz,(h.lab i x hx).2⟩) h.dis (fun u x hx=>?_) h.old (fun u v x h1 h2=>?_) ⟨hos.1,hos.2.1,hos.2.2,hsz,fun x hx _=>hw x (Nat.lt_of_lt_of_le hx h.base)⟩
 ·by_cases e2:u=c
  ·subst e2
   have:=hcb x hx
   subst this
   exact ⟨fun ⟨i,hi⟩=>absurd (h.lab i x hi).1 (by omega),.inl (Nat.le_trans h.base hb)⟩
  ·exact h.sep u x (hh u x e2 hx)
 ·have hno:∀ t,t≠c→Has E' (upd m c (.obj o)) t b→False:=fun t ht h3=>absurd (h.lt (hh t b ht h3)) (by omega)
  by_cases e2:u=c
  ·by_cases e3:v=c
   ·rw [e2,e3]
   ·subst e2;rw [hcb x h1] at h2;exact (hno v e3 h2).elim
  ·by_cases e3:v=c
   ·subst e3;rw [hcb x h2] at h1;exact (hno u e2 h1).elim
   ·exact h.inj u v x (hh u x e2 h1) (hh v x e3 h2)
theorem MemOk.objPut {base:Nat} {X:Cx} {w0 w w':World} {E:Env} {m:Nat→BE} (h:MemOk base X w0 E m w) {t:Nat} {o o':OD} (hm:m t = .obj o) {b:Nat} (hβ:E.β t=some (.pointer (some ⟨b,0,none⟩)))
  (hg:w.grownBy w' (some b)) (hbF:E.φ t b) (ho:o'.pr w' (E.φ t) b):Same E.lab w w'∧MemOk base X w0 E (upd m t (.obj o')) w':=by
 have hHas:Has E m t b:=⟨by rw [hm];rfl,_,hβ,by rw [hm];exact hbF⟩
 have hh:∀ u x,Has E (upd m t (.obj o')) u x→Has E m u x:=by
  intro u x ⟨h1,v,h2,h3⟩
  by_cases e2:u=t
  ·subst e2
   rw [zat] at h3
   exact ⟨by rw [hm];rfl,v,h2,by rw [hm];exact h3⟩
  ·rw [zax _ _ e2] at h1 h3;exact ⟨h1,v,h2,h3⟩
 have hS:Same E.lab w w':=⟨hg.size,fun x hx hl=>hg.block x hl (fun e=>by
  have e:some b=some x:=e.symm
  cases e
  exact (h.sep t b hHas).1 hx)⟩
 refine ⟨hS,?_⟩
 refine h.go (Env.Le.refl E) hS (fun u=>u=t) (fun u hu=>⟨zax _ _ hu,rfl,rfl⟩) (fun u hu hm=>(h.empty u hm).2)
  (fun u x hu hx=>hg.block x (h.lt hx) (fun e=>by have e:some b=some x:=e.symm;cases e;exact hu (h.inj u t b hx hHas)))
  (fun u hu=>by subst hu;rw [zat];exact ⟨(by simp),fun _=>⟨_,hβ,b,rfl,ho⟩⟩)
  (fun i x hx=>⟨Nat.lt_of_lt_of_le (h.lab i x hx).1 hg.size,(h.lab i x hx).2⟩) h.dis (fun u x hx=>h.sep u x (hh u x hx)) h.old (fun u v x h1 h2=>h.inj u v x (hh u x h1) (hh v x h2))
  ⟨hg.os,hg.tape,hg.output,hg.size,fun x hx hX=>hg.block x (Nat.lt_of_lt_of_le hx h.base) (fun e=>?_)⟩
 have e:some b=some x:=e.symm
 cases e
 rcases (h.sep t b hHas).2 with h1 | h1
 ·omega
 ·exact absurd h1 hX
def imT (P:Program) (T:TypeId):Bool:=match P.underlying T with
 | some (.map k e)=>zib P k&&(match P.info? e with
  | some i=>(match i.zero with | some (.int .i64 0)=>true | _=>false)
  | none=>false)
 | _=>false
theorem zgH {P:Program} {T:TypeId} (h:imT P T=true):∃ k e,P.underlying T=some (.map k e)∧P.underlying k=some (.int .i64)∧∀ w,(zeroValue e).run P w = .ok (.int .i64 0) w:=by
 unfold imT at h
 split at h
 ·rename_i k e ht
  rw [Bool.and_eq_true] at h
  refine ⟨k,e,ht,zeW h.1,fun w=>?_⟩
  obtain ⟨_,h2⟩:=h
  split at h2
  ·rename_i i hi
   split at h2
   ·rename_i hz
    simp only [zeroValue,typeInfo,Sem.run_bind,run_program,hi,hz,Result.andThen,Sem.run_pure]
   ·cases h2
  ·cases h2
 ·cases h
section ops
variable {P : Program} {base : Nat} {X : Cx} {w0 : World} {st : St}
def zfq (P:Program) (st:St) (c:Nat) (T:TypeId):Option Upd:=if st.free c then (if imT P T then some ⟨[],.mp c,[(c,.obj (.imap []))]⟩ else none) else none
theorem zhq (o:Oper) (c:Nat) (T:TypeId) (ho:o.op = .makeMap T none) {u:Upd} (hu:zfq P st c T=some u):Does P base X w0 st o u:=by
 unfold zfq at hu
 split at hu
 case isFalse=>simp at hu
 rename_i hfree
 split at hu
 case isFalse=>simp at hu
 rename_i hT
 simp only [Option.some.injEq] at hu
 subst hu
 obtain ⟨k,e,h1,h2,h3⟩:=zgH hT
 intro E a w K Q h hn hK
 obtain ⟨E',g1,g2,g3,g4⟩:=h.mem.objNew (St.of_free hfree) (.imap []) (b:=w.heap.size) (w':=w.alloc (.map #[] 0)) (Nat.le_refl _) (by simp) (fun x hx=>Below.heap_alloc _ _ _ hx) ⟨rfl,rfl,rfl⟩ ⟨ImOk.made h2 w,fun _=>Iff.rfl⟩
 refine za1 (v:= .map (some w.heap.size)) (w':=w.alloc (.map #[] 0)) ?_ (hK E' _ _ g1 (Same.alloc _ _ _) ⟨_,g2,rfl⟩ (by rw [zaE];exact g4))
 simp only [execOp,ho]
 rfl
def ziv (P:Program) (st:St) (T:TypeId) (m x v:Operand):Option Upd:=
 match zad (st.ev m),zad (st.ev x),zad (st.ev v) with
 | (.mp t,n1),(.int .i64 a,n2),(.int .i64 c,n3)=>(match st.m t with
  | .obj (.imap M)=>if imT P T then some ⟨(M.length<1000000)::(n1++n2++n3),.any,[(t,.obj (.imap ((a,c)::M)))]⟩ else none
  | _=>none)
 | _,_,_=>none
theorem ziu (o:Oper) (T:TypeId) (m x v:Operand) (ho:o.op = .mapUpdate T m x v) {u:Upd} (hu:ziv P st T m x v=some u):Does P base X w0 st o u:=by
 unfold ziv at hu
 split at hu
 case h_2=>simp at hu
 rename_i t n1 a n2 c n3 e1 e2 e3
 split at hu
 case h_2=>simp at hu
 rename_i M hm
 split at hu
 case isFalse=>simp at hu
 rename_i hT
 simp only [Option.some.injEq] at hu
 subst hu
 obtain ⟨k,e,i1,i2,i3⟩:=zgH hT
 intro E ac w K Q h hn hK
 have h1:=zac (h.ev m) (fun p hp=>hn p (by rw [e1] at hp;simp [hp]))
 have h2:=zac (h.ev x) (fun p hp=>hn p (by rw [e2] at hp;simp [hp]))
 have h3:=zac (h.ev v) (fun p hp=>hn p (by rw [e3] at hp;simp [hp]))
 rw [e1] at h1;rw [e2] at h2;rw [e3] at h3
 have hM:M.length<1000000:=hn _ (by simp)
 obtain ⟨b,hb,hx⟩:=h1
 obtain ⟨h2,j2⟩:=h2
 obtain ⟨h3,j3⟩:=h3
 obtain ⟨b',c1,c2,c3⟩:=h.mem.obj t _ hm
 rw [c1] at hb
 simp only [Option.some.injEq,Value.pointer.injEq,Addr.mk.injEq,and_true] at hb
 subst hb
 obtain ⟨w',r1,r2,r3⟩:=c2.put i1 i2 (by unfold maxLen;omega) j2 j3
 obtain ⟨hS,hmem⟩:=h.mem.objPut hm c1 r3 ((c3 _).2 rfl) (o' := .imap ((a,c)::M)) ⟨r2,c3⟩
 refine zck (w':=w') ?_ (hK E _ _ (Env.Le.refl E) hS trivial (by rw [zaE];exact hmem))
 simp only [execOp,ho,hx,h2,h3,Sem.run_bind,r1,Result.andThen,Sem.run_pure]
def zi6 (P:Program) (st:St) (T:TypeId) (m x:Operand):Option Upd:=
 match zad (st.ev m),zad (st.ev x) with
 | (.mp t,n1),(.int .i64 a,n2)=>(match st.m t with
  | .obj (.imap M)=>if imT P T then some ⟨n1++n2,.tup [.int .i64 ((M.lookup a).getD 0),.bool (M.lookup a).isSome],[]⟩ else none
  | _=>none)
 | _,_=>none
theorem zi5 (o:Oper) (T:TypeId) (m x:Operand) (ho:o.op = .lookup T m x true) {u:Upd} (hu:zi6 P st T m x=some u):Does P base X w0 st o u:=by
 unfold zi6 at hu
 split at hu
 case h_2=>simp at hu
 rename_i t n1 a n2 e1 e2
 split at hu
 case h_2=>simp at hu
 rename_i M hm
 split at hu
 case isFalse=>simp at hu
 rename_i hT
 simp only [Option.some.injEq] at hu
 subst hu
 obtain ⟨k,e,i1,i2,i3⟩:=zgH hT
 refine Does.pure fun E ac w h hn=>?_
 have h1:=zac (h.ev m) (fun p hp=>hn p (by rw [e1] at hp;simp [hp]))
 have h2:=zac (h.ev x) (fun p hp=>hn p (by rw [e2] at hp;simp [hp]))
 rw [e1] at h1;rw [e2] at h2
 obtain ⟨b,hb,hx⟩:=h1
 obtain ⟨h2,j2⟩:=h2
 obtain ⟨b',c1,c2,c3⟩:=h.mem.obj t _ hm
 rw [c1] at hb
 simp only [Option.some.injEq,Value.pointer.injEq,Addr.mk.injEq,and_true] at hb
 subst hb
 obtain ⟨r1,r2⟩:=c2.get i1 i2 (i3 w) j2
 refine ⟨.tuple #[.int .i64 ((M.lookup a).getD 0),.bool (M.lookup a).isSome],?_,⟨[.int .i64 ((M.lookup a).getD 0),.bool (M.lookup a).isSome],rfl,⟨rfl,r2⟩,rfl,trivial⟩⟩
 simp only [execOp,ho,hx,h2,Sem.run_bind,r1,Result.andThen,Sem.run_pure]
end ops
end Go.Proofs.Ytjfphnegcelbpaa
namespace Go.Proofs.Ytjfphnegcelbpaa
open Go.RowKit Go.ChangeShapes Go.WideShapes Go.Deep
def orU (a b:Option Upd):Option Upd:=match a with
 | some u=>some u
 | none=>b
theorem zdm {a b:Option Upd} {u:Upd} (h:orU a b=some u):a=some u∨b=some u:=by
 cases a with
 | none=>exact .inr h
 | some x=>exact .inl h
def zfB (P:Program) (c:Nat) (st:St) (ty:TypeId):Op→Option Upd
 | .store T x y=>cPut P st T x y
 | .binOp op T x y _=>orU (cEqP P st op T x y) (orU (cEqN P st op T x y) (cEqA P st op T x y))
 | .call ⟨.builtin .min,⟨[x,y]⟩,_⟩=>cMin st x y
 | .call ⟨.builtin .max,⟨[x,y]⟩,_⟩=>cMax st x y
 | .call ⟨.builtin .append,⟨[x,y]⟩,⟨[T,T2]⟩⟩=>if T=T2 then cApp P st c T x y else ziD P st c T T2 x y
 | .call ⟨.builtin .copy,⟨[x,y]⟩,⟨[T,_]⟩⟩=>ziA P st T x y
 | .buildSlice T len ps=>orU (cLit P st c T len ps) (zi4 P st c T len ps)
 | .slice T x lo hi none=>zi8 P st c T x lo hi
 | .makeSlice T x y=>zi0 P st c T x y
 | .makeFunc (.func f) ⟨[]⟩ xs=>some (zkn st f xs.toList)
 | .makeMap T none=>zfq P st c T
 | .mapUpdate T m x v=>ziv P st T m x v
 | .lookup T m x true=>zi6 P st T m x
 | _=>none
theorem zhS (P:Program):zbR P (zfB P):=by
 intro c st o u base X w0 h
 have key:∀ op,o.op=op→zfB P c st o.type op=some u→Does P base X w0 st o u:=by
  intro op ho h
  unfold zfB at h
  split at h
  ·exact zkl o _ _ _ ho h
  ·rcases zdm h with h | h
   ·exact zkt o _ _ _ _ _ ho h
   ·rcases zdm h with h | h
    ·exact zku o _ _ _ _ _ ho h
    ·exact zkv o _ _ _ _ _ ho h
  ·exact zko o _ _ _ ho h
  ·exact zkp o _ _ _ ho h
  ·split at h
   ·rename_i hT;subst hT;exact zkz o c _ _ _ ho h
   ·exact ziC o c _ _ _ _ ho h
  ·exact zi9 o _ _ _ _ ho h
  ·rcases zdm h with h | h
   ·exact zkq o c _ _ _ ho h
   ·exact zi3 o c _ _ _ ho h
  ·exact zi7 o c _ _ _ _ ho h
  ·exact ziz o c _ _ _ ho h
  ·simp only [Option.some.injEq] at h;subst h;exact ziy o _ _ ho
  ·exact zhq o c _ ho h
  ·exact ziu o _ _ _ _ ho h
  ·exact zi5 o _ _ _ ho h
  ·simp at h
 exact key _ rfl h
theorem zip {a b:St} {e:TypeId} {s:SV} (h:∀ t,t∈zaf s→a.m t=b.m t):zcG a e s=zcG b e s:=by
 cases s
 case own t=>simp only [zcG,h t (by simp [zaf])]
 all_goals rfl
theorem zeM {a b:St} {r:RL} {s:SV} (h:∀ t,t∈zaf s→a.m t=b.m t):zaW a r s=zaW b r s:=by
 cases s
 case own t=>simp only [zaW,h t (by simp [zaf])]
 all_goals rfl
theorem zj3 {a b:St} {s:SV} (h:∀ t,t∈zaf s→a.m t=b.m t):nilU a s=nilU b s:=by
 cases s
 case own t=>simp only [nilU,h t (by simp [zaf])]
 all_goals rfl
theorem zgv {a b:St} {x:Option Operand} (h:∀ y,y∈x.toList→a.ev y=b.ev y):optI a x=optI b x:=by
 cases x with
 | none=>rfl
 | some y=>simp only [optI,h y (by simp)]
theorem zg0 (P:Program):zcc (zfB P):=by
 intro c a b ty op h
 unfold zfB
 split
 ·rename_i T x y
  have hx:=h.ev x (by simp [Op.operands])
  have ht:=fun t=>h.tag (x:=x) (by simp [Op.operands]) (t:=t)
  simp only [cPut,h.ev y (by simp [Op.operands])]
  rw [← hx]
  rcases hs:zad (a.ev x) with ⟨s,n⟩
  rw [hs] at ht
  cases s
  case oel t sz i off=>
   have e2:=ht t (by simp [zaf])
   rcases zad (b.ev y) with ⟨s2,n2⟩
   cases zaD P T with
   | none=>rfl
   | some k=>simp only [e2]
  all_goals rfl
 ·rename_i op T x y T2
  have hx:=h.ev x (by simp [Op.operands])
  have ht:=fun t=>h.tag (x:=x) (by simp [Op.operands]) (t:=t)
  simp only [cEqP,cEqN,cEqA,h.ev y (by simp [Op.operands]),← hx]
  rw [zj3 (fun t g=>ht t g)]
 ·rename_i x y ts;simp only [cMin,h.ev x (by simp [Op.operands,Call.operands]),h.ev y (by simp [Op.operands,Call.operands])]
 ·rename_i x y ts;simp only [cMax,h.ev x (by simp [Op.operands,Call.operands]),h.ev y (by simp [Op.operands,Call.operands])]
 ·rename_i x y T T2
  have hx:=h.ev x (by simp [Op.operands,Call.operands])
  have hy:=h.ev y (by simp [Op.operands,Call.operands])
  have tx:=fun t=>h.tag (x:=x) (by simp [Op.operands,Call.operands]) (t:=t)
  have ty:=fun t=>h.tag (x:=y) (by simp [Op.operands,Call.operands]) (t:=t)
  simp only [cApp,ziD,h.free (zaY _)]
  rw [← hx,← hy]
  have hd:∀ e,zcG a e (zad (a.ev x)).1=zcG b e (zad (a.ev x)).1:=fun e=>zip tx
  have hs:∀ r,zaW a r (zad (a.ev y)).1=zaW b r (zad (a.ev y)).1:=fun r=>zeM ty
  simp only [hd,hs]
 ·rename_i x y T T2
  have hx:=h.ev x (by simp [Op.operands,Call.operands])
  have hy:=h.ev y (by simp [Op.operands,Call.operands])
  have tx:=fun t=>h.tag (x:=x) (by simp [Op.operands,Call.operands]) (t:=t)
  have ty:=fun t=>h.tag (x:=y) (by simp [Op.operands,Call.operands]) (t:=t)
  have hs:∀ r,zaW a r (zad (a.ev y)).1=zaW b r (zad (a.ev y)).1:=fun r=>zeM ty
  simp only [ziA]
  rw [← hx,← hy]
  simp only [hs]
  rcases hs:zad (a.ev x) with ⟨s,n⟩
  rw [hs] at tx
  cases zaK P T with
  | none=>rfl
  | some e=>
   cases s
   case own t=>
    have e2:=tx t (by simp [zaf])
    simp only [e2]
   all_goals rfl
 ·rename_i T len ps
  simp only [cLit,zi4,h.free (zaY _)]
  rw [zbc ps.toList (fun x hx=>h.ev x (by simpa [Op.operands] using hx))]
 ·rename_i T x lo hi
  have hx:=h.ev x (by simp [Op.operands])
  have tx:=fun t=>h.tag (x:=x) (by simp [Op.operands]) (t:=t)
  simp only [zi8,h.free (zaY _)]
  rw [zgv (x:=lo) (fun y hy=>h.ev y (by simp only [Op.operands,Array.toList_append,List.mem_append];simp at hy;simp [hy])),zgv (x:=hi) (fun y hy=>h.ev y (by simp only [Op.operands,Array.toList_append,List.mem_append];simp at hy;simp [hy]))]
  rw [← hx]
  rcases hs:zad (a.ev x) with ⟨s,n⟩
  rw [hs] at tx
  cases s
  case own t=>
   have e2:=tx t (by simp [zaf])
   simp only [e2]
  all_goals rfl
 ·rename_i T x y
  simp only [zi0,h.ev x (by simp [Op.operands]),h.ev y (by simp [Op.operands]),h.free (zaY _)]
 ·rename_i f xs
  have e:=zbN (a:=a) (b:=b) xs.toList (fun x hx=>h.ev x (by simp [Op.operands,hx]))
  obtain ⟨xs⟩:=xs
  cases xs with
  | nil=>rfl
  | cons x r=>simp only [zkn,e]
 ·simp only [zfq,h.free (zaY _)]
 ·rename_i T m x v
  have hm:=h.ev m (by simp [Op.operands])
  have ht:=fun t=>h.tag (x:=m) (by simp [Op.operands]) (t:=t)
  simp only [ziv,h.ev x (by simp [Op.operands]),h.ev v (by simp [Op.operands])]
  rw [← hm]
  rcases hs:zad (a.ev m) with ⟨s,n⟩
  rw [hs] at ht
  cases s
  case mp t=>
   have e2:=ht t (by simp [zaf])
   rcases zad (b.ev x) with ⟨s2,n2⟩
   rcases zad (b.ev v) with ⟨s3,n3⟩
   cases s2<;>try rfl
   rename_i k _
   cases k<;>try rfl
   cases s3<;>try rfl
   rename_i k2 _
   cases k2<;>try rfl
   simp only [e2]
  all_goals rfl
 ·rename_i T m x
  have hm:=h.ev m (by simp [Op.operands])
  have ht:=fun t=>h.tag (x:=m) (by simp [Op.operands]) (t:=t)
  simp only [zi6,h.ev x (by simp [Op.operands])]
  rw [← hm]
  rcases hs:zad (a.ev m) with ⟨s,n⟩
  rw [hs] at ht
  cases s
  case mp t=>
   have e2:=ht t (by simp [zaf])
   rcases zad (b.ev x) with ⟨s2,n2⟩
   cases s2<;>try rfl
   rename_i k _
   cases k<;>try rfl
   simp only [e2]
  all_goals rfl
 ·rfl
end Go.Proofs.Ytjfphnegcelbpaa
namespace Go.Proofs.Ytjfphnegcelbpaa
open Go.RowKit Go.ChangeShapes Go.WideShapes Go.Deep
theorem mD2 (t:Nat):mOf D2 t=if t<2 then .dead else .empty:=by
 match t with
 | 0=>rfl
 | 1=>rfl
 | t+2=>rw [zbW];simp [List.getD]
theorem zfS {E:Env} {t b:Nat}:¬ Has E (mOf D2) t b:=by
 intro h
 have:=h.1
 rw [mD2] at this
 split at this<;>cases this
def Env.zero (E:Env):Prop:=∀ i b,E.σ i b→i=0
theorem zjh {E:Env} {w:World} (hm:MemOk w.heap.size (cxIn E D2 1) w E (mOf D2) w):E.zero:=by
 intro i b h
 apply Classical.byContradiction
 intro hi
 have h1:=hm.lab i b h
 rcases h1.2 (show (1:Nat)≤i by omega) with h2 | ⟨t,ht⟩
 ·omega
 ·exact zfS ht
theorem Env.zero.set {E:Env} (h:E.zero) {ls:List Nat} {b:Nat} (hb:E.set ls b):E.set [0] b:=by
 obtain ⟨i,_,hi⟩:=hb
 have:=h i b hi
 subst this
 exact ⟨0,by simp,hi⟩
theorem FnC.pre {P:Program} {f:FuncId} {ins ins':List SV} {out:SV} {mo:List BE} (h:FnC P f ins out mo) (hd:∀ E w vals,Env.zero E→DenL E w ins' vals→DenL E w ins vals):FnC P f ins' out mo:=
 ⟨h.1,fun w E vals hm hv=>h.2 w E vals hm (hd E w vals (zjh hm) hv)⟩
theorem zg1 {E:Env} {w w':World} (hm:MemOk w.heap.size (cxIn E D2 1) w E (mOf D2) w) (hb:Below w.heap.size w w') :
  MemOk w.heap.size (cxIn E D2 1) w ⟨E.β,fun i b=>E.σ i b∨(i=1∧w.heap.size≤b∧b<w'.heap.size),E.φ⟩ (mOf D2) w':=by
 have hl:∀ t,(mOf D2 t).live=false:=by intro t;rw [mD2];split<;>rfl
 have hno:∀ {E:Env} {t b:Nat},¬ Has E (mOf D2) t b:=zfS
 refine ⟨fun t ht=>⟨(hm.empty t ht).1,fun b hb'=>?_⟩,fun t T vs ht=>?_,fun t T ls r ht=>?_,fun i b hb'=>?_,fun i j b hi hj=>?_,hm.low,fun t b hh=>absurd hh hno,fun i b hi hb'=>?_,fun t u b h1=>absurd h1 hno,hm.keep,⟨hb.os,hb.tape,hb.output,hb.size,fun b h1 _=>hb.block b h1⟩,hb.size,fun t o ht=>by have:=hl t;rw [ht] at this;cases this⟩
 ·rcases hb' with h | ⟨rfl,_⟩
  ·exact (hm.empty t ht).2 b h
  ·rw [mD2] at ht;simp at ht
 ·have:=hl t;rw [ht] at this;cases this
 ·have:=hl t;rw [ht] at this;cases this
 ·rcases hb' with h | ⟨rfl,h1,h2⟩
  ·exact ⟨Nat.lt_of_lt_of_le (hm.lab i b h).1 hb.size,(hm.lab i b h).2⟩
  ·exact ⟨h2,fun _=> .inl h1⟩
 ·rcases hi with hi | ⟨rfl,h1,h2⟩<;>rcases hj with hj | ⟨rfl,h3,h4⟩
  ·exact hm.dis i j b hi hj
  ·have:=(hm.lab i b hi).1;omega
  ·have:=(hm.lab j b hj).1;omega
  ·rfl
 ·rcases hb' with h | ⟨rfl,_⟩
  ·exact h
  ·simp [cxIn] at hi
theorem FnC.of_below {P:Program} {f:FuncId} {ins:List SV} {out:SV} (hB:FnB P f)
  (h:∀ (w:World) (E:Env) (vals:List Value),DenL E w ins vals→Calls P f vals.toArray w (fun e w'=>∃ v,e = .returned v∧Below w.heap.size w w'∧∀ E':Env,E.Le E'→(∀ b,w.heap.size≤b→b<w'.heap.size→E'.σ 1 b)→DenV E' w' out v)):FnC P f ins out D2:=by
 refine ⟨hB,fun w E vals hm hd=>(h w E vals hd).mono ?_⟩
 rintro e w' ⟨v,rfl,hb,hv⟩
 exact ⟨v,⟨E.β,fun i b=>E.σ i b∨(i=1∧w.heap.size≤b∧b<w'.heap.size),E.φ⟩,rfl,hv _ ⟨fun _ _ x=>x,fun _ _ x=> .inl x⟩ (fun b h1 h2=> .inr ⟨rfl,h1,h2⟩),zg1 hm hb⟩
theorem FnC.of_int {P:Program} {f:FuncId} {ins:List SV} {n:Int} (hB:FnB P f) (h:∀ (w:World) (E:Env) (vals:List Value),DenL E w ins vals→I64 n∧Calls P f vals.toArray w (fun e w'=>e = .returned (.int .i64 n)∧Below w.heap.size w w')):FnC P f ins (.int .i64 n) D2:=
 FnC.of_below hB fun w E vals hd=>(h w E vals hd).2.mono (by rintro e w' ⟨rfl,hb⟩;exact ⟨_,rfl,hb,fun _ _ _=>⟨rfl,zaJ (h w E vals hd).1⟩⟩)
theorem FnC.of_bool {P:Program} {f:FuncId} {ins:List SV} {b:Bool} (hB:FnB P f) (h:∀ (w:World) (E:Env) (vals:List Value),DenL E w ins vals→Calls P f vals.toArray w (fun e w'=>e = .returned (.bool b)∧Below w.heap.size w w')):FnC P f ins (.bool b) D2:=
 FnC.of_below hB fun w E vals hd=>(h w E vals hd).mono (by rintro e w' ⟨rfl,hb⟩;exact ⟨_,rfl,hb,fun _ _ _=>rfl⟩)
theorem zgw {E:Env} {w:World} {s:SV} {vals:List Value} (h:DenL E w [s] vals):∃ v,vals=[v]∧DenV E w s v:=by
 match vals,h with
 | [v],h=>exact ⟨v,rfl,h.1⟩
theorem zga {E:Env} {w:World} {s t:SV} {vals:List Value} (h:DenL E w [s,t] vals):∃ v u,vals=[v,u]∧DenV E w s v∧DenV E w t u:=by
 match vals,h with
 | [v,u],h=>exact ⟨v,u,rfl,h.1,h.2.1⟩
theorem zgP {α:Type} {l:List α} {i:Nat} {d:α} (h:i<l.length):l.getD i d=l[i]:=by simp [List.getD,h]
theorem zeZ {α:Type} {l:List α} {i:Nat} {d:α} (h:i<l.length):l.getD i d∈l:=by rw [zgP h];exact List.getElem_mem _
theorem zcw {α:Type} {l:List α} {i:Nat} {d:α} (h:i<l.length):l.take (i+1)=l.take i++[l.getD i d]:=by rw [zgP h,List.take_succ_eq_append_getElem h]
theorem zbt {n:Int} (h:I64 n):IntKind.i64.wrap n=n:=IntWalk.i64_in _ h
theorem zby {i:Nat} (h:i≤9223372036854775806):IntKind.i64.wrap ((i:Int)+1)=(i:Int)+1:=zbt ⟨by omega,by omega⟩
structure Dec (α:Type) where
 dec:SV→Option α
 can:α→SV
 Okp:α→Prop
 okp:∀ x E w v,DenV E w (can x) v→Okp x
 ok:∀ s x,dec s=some x→∀ E w v,Env.zero E→DenV E w s v→DenV E w (can x) v
def dInt:Dec Int where
 dec:=fun s=>match s with | .int .i64 n=>some n | _=>none
 can:=fun n=> .int .i64 n
 Okp:=fun n=>I64 n
 okp:=fun n E w v h=>lit_bd h.2
 ok:=by
  intro s x h E w v _ hd
  split at h
  ·simp only [Option.some.injEq] at h;subst h;exact hd
  ·simp at h
theorem zdh {E:Env} {w:World} {m:List Nat} {r:RL} {v:Value} (hz:E.zero) (h:DenV E w (.sl m r) v):DenV E w (.sl [0] r) v:=Rd.mono h (fun b _ hb=>hz.set hb)
def dInts:Dec (List Int) where
 dec:=fun s=>match s.asInts with | some (l,_)=>some l | none=>none
 can:=fun l=> .sl [0] (.rInts l)
 Okp:=zjg
 okp:=fun l E w v h=>by
  have h:Rd w (E.set [0]) (.sl [.int .i64]) v (.sl (ints l)):=h
  obtain ⟨a,c,rfl,hs⟩:=h.sl'
  exact zjD hs
 ok:=by
  intro s x h E w v hz hd
  split at h
  ·rename_i l m e;simp only [Option.some.injEq] at h;subst h;exact zdh hz (SV.asInts_ok e (fun i hi=>hi) hd)
  ·simp at h
def dSents:Dec (List Sent) where
 dec:=fun s=>match s.asSent with | some (l,_)=>some l | none=>none
 can:=fun l=> .sl [0] (.rSent l)
 Okp:=fun l=>l.length≤17592186044416∧∀ x,x∈l→x.Ok
 okp:=fun l E w v h=>by
  have h:Rd w (E.set [0]) (.sl Sent.ty) v (.sl (l.map Sent.enc)):=h
  obtain ⟨a,c,rfl,hs⟩:=h.sl'
  exact zdk hs (fun _ _ hr=>Sent.ok_of hr)
 ok:=by
  intro s x h E w v hz hd
  split at h
  ·rename_i l m e;simp only [Option.some.injEq] at h;subst h;exact zdh hz (SV.asSent_ok e (fun i hi=>hi) hd)
  ·simp at h
def dWaits:Dec (List Wait) where
 dec:=fun s=>match s.asWait with | some (l,_)=>some l | none=>none
 can:=fun l=> .sl [0] (.rWait l)
 Okp:=fun l=>l.length≤17592186044416∧∀ x,x∈l→x.Ok
 okp:=fun l E w v h=>by
  have h:Rd w (E.set [0]) (.sl Wait.ty) v (.sl (l.map Wait.enc)):=h
  obtain ⟨a,c,rfl,hs⟩:=h.sl'
  exact zdk hs (fun _ _ hr=>Wait.ok_of hr)
 ok:=by
  intro s x h E w v hz hd
  split at h
  ·rename_i l m e;simp only [Option.some.injEq] at h;subst h;exact zdh hz (SV.asWait_ok e (fun i hi=>hi) hd)
  ·simp at h
def dLeases:Dec (List Lease) where
 dec:=fun s=>match s.asLease with | some (l,_)=>some l | none=>none
 can:=fun l=> .sl [0] (.rLease l)
 Okp:=fun l=>l.length≤17592186044416∧∀ x,x∈l→x.Ok
 okp:=fun l E w v h=>by
  have h:Rd w (E.set [0]) (.sl Lease.ty) v (.sl (l.map Lease.enc)):=h
  obtain ⟨a,c,rfl,hs⟩:=h.sl'
  exact zdk hs (fun _ _ hr=>Lease.ok_of hr)
 ok:=by
  intro s x h E w v hz hd
  split at h
  ·rename_i l m e;simp only [Option.some.injEq] at h;subst h;exact zdh hz (SV.asLease_ok e (fun i hi=>hi) hd)
  ·simp at h
def dSent:Dec Sent where
 dec:=fun s=>match s with | .agg cs=>(match Sent.of cs with | some (x,_)=>some x | none=>none) | _=>none
 can:=fun x=> .agg (x.svs [0])
 Okp:=fun x=>x.Ok
 okp:=fun x E w v ⟨xs,_,hl⟩=>Sent.ok_of (Sent.svs_rd hl)
 ok:=by
  intro s x h E w v hz hd
  split at h
  case h_2=>simp at h
  split at h
  case h_2=>simp at h
  rename_i cs _ y m e
  simp only [Option.some.injEq] at h
  subst h
  obtain ⟨xs,hv,hl⟩:=hd
  exact ⟨xs,hv,Sent.svs_of (RdL.mono (fun b _ hb=>hz.set hb) (Sent.svs_rd (Sent.of_ok e hl)))⟩
def dHolder:Dec Holder where
 dec:=fun s=>match s with | .agg cs=>(match Holder.of cs with | some (x,_)=>some x | none=>none) | _=>none
 can:=fun x=> .agg (x.svs [0])
 Okp:=fun x=>x.Ok
 okp:=fun x E w v ⟨xs,_,hl⟩=>Holder.ok_of (Holder.svs_rd hl)
 ok:=by
  intro s x h E w v hz hd
  split at h
  case h_2=>simp at h
  split at h
  case h_2=>simp at h
  rename_i cs _ y m e
  simp only [Option.some.injEq] at h
  subst h
  obtain ⟨xs,hv,hl⟩:=hd
  exact ⟨xs,hv,Holder.svs_of (RdL.mono (fun b _ hb=>hz.set hb) (Holder.svs_rd (Holder.of_ok e hl)))⟩
section
variable {P : Program} {α β γ δ ε : Type}
abbrev R3:=List Prop×SV×List BE
def isD2:List BE→Bool
 | [.dead,.dead]=>true
 | _=>false
theorem zds {m:List BE} (h:isD2 m=true):m=D2:=by
 unfold isD2 at h;split at h
 ·rfl
 ·cases h
def go0 (r:R3) (ins:List SV) (mi:List BE):Option R3:=match isD2 mi,ins with
 | true,[]=>some r
 | _,_=>none
theorem FnG.given {f:FuncId} {nl:Nat} {mi mo:List BE} {ins:List SV} {out:SV} {F:Prop} (hB:FnB P f) (hF:∀ E w vals,DenL E w ins vals→F) (h:F→FnG P f nl mi ins out mo):FnG P f nl mi ins out mo:=
 ⟨hB,fun w E vals hm hd=>(h (hF E w vals hd)).2 w E vals hm hd⟩
theorem FnC.g1 {f:FuncId} {mo:List BE} {out:SV} (a:Dec α) (x:α) (hB:FnB P f) (h:a.Okp x→FnC P f [a.can x] out mo):FnC P f [a.can x] out mo:=
 FnG.given hB (fun E w vals hd=>by obtain ⟨v,rfl,h1⟩:=zgw hd;exact a.okp _ _ _ _ h1) h
theorem FnC.g2 {f:FuncId} {mo:List BE} {out:SV} (a:Dec α) (b:Dec β) (x:α) (y:β) (hB:FnB P f) (h:a.Okp x→b.Okp y→FnC P f [a.can x,b.can y] out mo):FnC P f [a.can x,b.can y] out mo:=
 FnG.given (F:=a.Okp x∧b.Okp y) hB (fun E w vals hd=>by obtain ⟨v,u,rfl,h1,h2⟩:=zga hd;exact ⟨a.okp _ _ _ _ h1,b.okp _ _ _ _ h2⟩) (fun hh=>h hh.1 hh.2)
def ent0 (f:FuncId) (r:R3):Ent:=⟨f,false,[],[],1,[],go0 r⟩
def go1 (a:Dec α) (r:α→R3) (ins:List SV) (mi:List BE):Option R3:=match isD2 mi,ins with
 | true,[s]=>match a.dec s with
  | some x=>some (r x)
  | none=>none
 | _,_=>none
def ent1 (f:FuncId) (a:Dec α) (r:α→R3):Ent:=⟨f,false,[0],[],1,[],go1 a r⟩
def go2 (a:Dec α) (b:Dec β) (r:α→β→R3) (ins:List SV) (mi:List BE):Option R3:=match isD2 mi,ins with
 | true,[s,t]=>match a.dec s,b.dec t with
  | some x,some y=>some (r x y)
  | _,_=>none
 | _,_=>none
def ent2 (f:FuncId) (a:Dec α) (b:Dec β) (r:α→β→R3):Ent:=⟨f,false,[0,0],[],1,[],go2 a b r⟩
def go3 (a:Dec α) (b:Dec β) (c:Dec γ) (r:α→β→γ→R3) (ins:List SV) (mi:List BE):Option R3:=match isD2 mi,ins with
 | true,[s,t,u]=>match a.dec s,b.dec t,c.dec u with
  | some x,some y,some z=>some (r x y z)
  | _,_,_=>none
 | _,_=>none
def ent3 (f:FuncId) (a:Dec α) (b:Dec β) (c:Dec γ) (r:α→β→γ→R3):Ent:=⟨f,false,[0,0,0],[],1,[],go3 a b c r⟩
theorem zcE {f:FuncId} {r:R3} (hB:FnB P f) (h:(∀ p∈r.1,p)→FnC P f [] r.2.1 r.2.2):zak P (ent0 f r):=by
 refine ⟨hB,fun ins mi n out mo hg hn=>?_⟩
 change go0 r ins mi=some (n,out,mo) at hg
 unfold go0 at hg
 split at hg
 case h_2=>simp at hg
 rename_i e
 obtain rfl:=zds e
 simp only [Option.some.injEq] at hg
 subst hg
 exact h hn
theorem zaT {f:FuncId} {a:Dec α} {r:α→R3} (hB:FnB P f) (h:∀ x,(∀ p∈(r x).1,p)→FnC P f [a.can x] (r x).2.1 (r x).2.2):zak P (ent1 f a r):=by
 refine ⟨hB,fun ins mi n out mo hg hn=>?_⟩
 change go1 a r ins mi=some (n,out,mo) at hg
 unfold go1 at hg
 split at hg
 case h_2=>simp at hg
 rename_i s e
 obtain rfl:=zds e
 split at hg
 case h_2=>simp at hg
 rename_i x ex
 simp only [Option.some.injEq] at hg
 have:=h x (by rw [hg];exact hn)
 rw [hg] at this
 refine this.pre fun E w vals hz hd=>?_
 match vals,hd with
 | [v],hd=>exact ⟨a.ok _ _ ex E w v hz hd.1,trivial⟩
theorem zcD {f:FuncId} {a:Dec α} {b:Dec β} {r:α→β→R3} (hB:FnB P f) (h:∀ x y,(∀ p∈(r x y).1,p)→FnC P f [a.can x,b.can y] (r x y).2.1 (r x y).2.2):zak P (ent2 f a b r):=by
 refine ⟨hB,fun ins mi n out mo hg hn=>?_⟩
 change go2 a b r ins mi=some (n,out,mo) at hg
 unfold go2 at hg
 split at hg
 case h_2=>simp at hg
 rename_i s t e
 obtain rfl:=zds e
 split at hg
 case h_2=>simp at hg
 rename_i x y ex ey
 simp only [Option.some.injEq] at hg
 have:=h x y (by rw [hg];exact hn)
 rw [hg] at this
 refine this.pre fun E w vals hz hd=>?_
 match vals,hd with
 | [v,u],hd=>exact ⟨a.ok _ _ ex E w v hz hd.1,b.ok _ _ ey E w u hz hd.2.1,trivial⟩
theorem zew {f:FuncId} {a:Dec α} {b:Dec β} {c:Dec γ} {r:α→β→γ→R3} (hB:FnB P f) (h:∀ x y z,(∀ p∈(r x y z).1,p)→FnC P f [a.can x,b.can y,c.can z] (r x y z).2.1 (r x y z).2.2):zak P (ent3 f a b c r):=by
 refine ⟨hB,fun ins mi n out mo hg hn=>?_⟩
 change go3 a b c r ins mi=some (n,out,mo) at hg
 unfold go3 at hg
 split at hg
 case h_2=>simp at hg
 rename_i s t u e
 obtain rfl:=zds e
 split at hg
 case h_2=>simp at hg
 rename_i x y z ex ey ez
 simp only [Option.some.injEq] at hg
 have:=h x y z (by rw [hg];exact hn)
 rw [hg] at this
 refine this.pre fun E w vals hz hd=>?_
 match vals,hd with
 | [v1,v2,v3],hd=>exact ⟨a.ok _ _ ex E w v1 hz hd.1,b.ok _ _ ey E w v2 hz hd.2.1,c.ok _ _ ez E w v3 hz hd.2.2.1,trivial⟩
end
theorem zh1 {E:Env} {mi:List BE} {w:World} (hm:MemOk w.heap.size (cxIn E mi 1) w E (mOf mi) w):E.zero:=by
 intro i b h
 apply Classical.byContradiction
 intro hi
 have h1:=hm.lab i b h
 rcases h1.2 (show (1:Nat)≤i by omega) with h2 | ⟨t,ht⟩
 ·omega
 ·exact (hm.sep t b ht).1 ⟨i,h⟩
theorem FnG.pre1 {P:Program} {f:FuncId} {mi:List BE} {ins ins':List SV} {out:SV} {mo:List BE} (h:FnG P f 1 mi ins out mo) (hd:∀ E w vals,Env.zero E→DenL E w ins' vals→DenL E w ins vals):FnG P f 1 mi ins' out mo:=
 ⟨h.1,fun w E vals hm hv=>h.2 w E vals hm (hd E w vals (zh1 hm) hv)⟩
structure Mem (σ:Type) where
 mi:σ→List BE
 dec:List BE→Option σ
 ok:∀ m x,dec m=some x→m=mi x
section
variable {P : Program} {σ α β γ : Type}
def goM0 (M:Mem σ) (r:σ→R3) (ins:List SV) (mi:List BE):Option R3:=match M.dec mi,ins with
 | some s,[.ptr 2 0]=>some (r s)
 | _,_=>none
def goM1 (M:Mem σ) (a:Dec α) (r:σ→α→R3) (ins:List SV) (mi:List BE):Option R3:=match M.dec mi,ins with
 | some s,[.ptr 2 0,x]=>match a.dec x with
  | some x=>some (r s x)
  | none=>none
 | _,_=>none
def goM2 (M:Mem σ) (a:Dec α) (b:Dec β) (r:σ→α→β→R3) (ins:List SV) (mi:List BE):Option R3:=match M.dec mi,ins with
 | some s,[.ptr 2 0,x,y]=>match a.dec x,b.dec y with
  | some x,some y=>some (r s x y)
  | _,_=>none
 | _,_=>none
def zkW (f:FuncId) (M:Mem σ) (vr:List (Nat×TypeId×RL)) (gl:List Nat) (r:σ→R3):Ent:=⟨f,true,[0],gl,1,vr,goM0 M r⟩
def zjL (f:FuncId) (M:Mem σ) (a:Dec α) (vr:List (Nat×TypeId×RL)) (gl:List Nat) (r:σ→α→R3):Ent:=⟨f,true,[0,0],gl,1,vr,goM1 M a r⟩
def zkV (f:FuncId) (M:Mem σ) (a:Dec α) (b:Dec β) (vr:List (Nat×TypeId×RL)) (gl:List Nat) (r:σ→α→β→R3):Ent:=⟨f,true,[0,0,0],gl,1,vr,goM2 M a b r⟩
theorem zik {f:FuncId} {M:Mem σ} {vr:List (Nat×TypeId×RL)} {gl:List Nat} {r:σ→R3} (hB:FnB P f) (h:∀ s,(∀ p∈(r s).1,p)→FnG P f 1 (M.mi s) [.ptr 2 0] (r s).2.1 (r s).2.2):zak P (zkW f M vr gl r):=by
 refine ⟨hB,fun ins mi n out mo hg hn=>?_⟩
 change goM0 M r ins mi=some (n,out,mo) at hg
 unfold goM0 at hg
 split at hg
 case h_2=>simp at hg
 rename_i s e
 have e:=M.ok _ _ e
 subst e
 simp only [Option.some.injEq] at hg
 have:=h s (by rw [hg];exact hn)
 rwa [hg] at this
theorem zfd {f:FuncId} {M:Mem σ} {a:Dec α} {vr:List (Nat×TypeId×RL)} {gl:List Nat} {r:σ→α→R3} (hB:FnB P f) (h:∀ s x,(∀ p∈(r s x).1,p)→FnG P f 1 (M.mi s) [.ptr 2 0,a.can x] (r s x).2.1 (r s x).2.2):zak P (zjL f M a vr gl r):=by
 refine ⟨hB,fun ins mi n out mo hg hn=>?_⟩
 change goM1 M a r ins mi=some (n,out,mo) at hg
 unfold goM1 at hg
 split at hg
 case h_2=>simp at hg
 rename_i s x e
 have e:=M.ok _ _ e
 subst e
 split at hg
 case h_2=>simp at hg
 rename_i y ey
 simp only [Option.some.injEq] at hg
 have:=h s y (by rw [hg];exact hn)
 rw [hg] at this
 refine this.pre1 fun E w vals hz hd=>?_
 match vals,hd with
 | [v,u],hd=>exact ⟨hd.1,a.ok _ _ ey E w u hz hd.2.1,trivial⟩
theorem zij {f:FuncId} {M:Mem σ} {a:Dec α} {b:Dec β} {vr:List (Nat×TypeId×RL)} {gl:List Nat} {r:σ→α→β→R3} (hB:FnB P f) (h:∀ s x y,(∀ p∈(r s x y).1,p)→FnG P f 1 (M.mi s) [.ptr 2 0,a.can x,b.can y] (r s x y).2.1 (r s x y).2.2):zak P (zkV f M a b vr gl r):=by
 refine ⟨hB,fun ins mi n out mo hg hn=>?_⟩
 change goM2 M a b r ins mi=some (n,out,mo) at hg
 unfold goM2 at hg
 split at hg
 case h_2=>simp at hg
 rename_i s x y e
 have e:=M.ok _ _ e
 subst e
 split at hg
 case h_2=>simp at hg
 rename_i x2 y2 ex ey
 simp only [Option.some.injEq] at hg
 have:=h s x2 y2 (by rw [hg];exact hn)
 rw [hg] at this
 refine this.pre1 fun E w vals hz hd=>?_
 match vals,hd with
 | [v1,v2,v3],hd=>exact ⟨hd.1,a.ok _ _ ex E w v2 hz hd.2.1,b.ok _ _ ey E w v3 hz hd.2.2.1,trivial⟩
end
theorem fnB {P : Program} {f : FuncId} {fn : Func} (h : P.funcs[f]? = some fn) (h1 : fn.name ≠ "runtime.NumGoroutine") (h2 : fn.body.isSome = true) : FnB P f := ⟨fn, h, h1, h2⟩
theorem zap {P:Program}:∀ e∈([]:List Ent),zak P e:=fun _ h=>by cases h
theorem zae {P:Program} {e:Ent} {tab:List Ent} (h:zak P e) (ht:∀ e∈tab,zak P e):∀ x∈e::tab,zak P x:=by
 intro x hx
 rcases List.mem_cons.1 hx with rfl | hx
 ·exact h
 ·exact ht x hx
theorem zaz {tab:List Ent} (h:∀ e∈tab,zak Try.prog e) (kd:TypeId→Option RL):World.Fits Try.prog ⟨kd,orcT tab,fun _ _ _=>none⟩ (zfB Try.prog):=⟨by kernel_rfl,zj0 h kd _,zhP tab kd _,zhS _,zg0 _,fun _ _ _ _ _ _ h=>by cases h⟩
end Go.Proofs.Ytjfphnegcelbpaa
namespace Go.Proofs.Ytjfphnegcelbpaa
open Go.RowKit Go.ChangeShapes Go.WideShapes Go.Deep
def o0:SV→Bool
 | .any=>true
 | .int _ _=>true
 | .bool _=>true
 | .str _=>true
 | .nil=>true
 | .sl ls _=>ls.all (Nat.beq 0)
 | _=>false
def o1:SV→Bool
 | .agg vs=>vs.all o0
 | s=>o0 s
section
variable {E : Env} {w : World}
end
section
variable {P : Program} {σ α β γ δ : Type}
variable {f : FuncId} {M : Mem σ} {a : Dec α} {b : Dec β} {c : Dec γ} {nl : Nat} {al gl : List Nat} {vr : List (Nat × TypeId × RL)}
end
end Go.Proofs.Ytjfphnegcelbpaa
namespace Go.Proofs.Ytjfphnegcelbpaa
open Go.RowKit Go.ChangeShapes Go.WideShapes Go.Deep
end Go.Proofs.Ytjfphnegcelbpaa
namespace Go.Proofs.Ytjfphnegcelbpaa
open Go.RowKit Go.ChangeShapes Go.WideShapes Go.Deep
set_option maxRecDepth 100000
def wiS (n m:Int):Bool:=decide (n≥0)&&decide (n≤m)
theorem zd5 (n m:Int):FnC Try.prog 27 [dInt.can n,dInt.can m] (.bool (wiS n m)) D2:=by
 refine FnG.of_vc (zaz zap fun _=>none) Try.func27 rfl (by decide) rfl 300 (p:=fun (V:List PE→Prop)=>let v0:=decide (n≥0);True∧((v0=true→v0=true)∧(v0=true→v0=true)∧(v0=true→v0=true)∧True)∧zab v0 (decide (n≤m)) false=wiS n m∧True) (by kernel_rfl) ?_
 simp only [imp_self,implies_true,true_and,and_true,zaM,zaG]
 rfl
noncomputable def eWi:Ent:=ent2 27 dInt dInt fun n m=>([],.bool (wiS n m),D2)
theorem ziW:zak Try.prog eWi:=zcD (zd5 0 0).1 fun n m _=>zd5 n m
theorem zch (l:List Sent) (hl:l.length≤1000000):FnC Try.prog 42 [dSents.can l] (.own 2) [.dead,.dead,.row 51 [] (.rSent l)]:=by
 refine FnG.of_vc (zaz zap fun _=>none) Try.func42 rfl (by decide) rfl 300 (p:=fun (V:List PE→Prop)=>True∧True∧True∧(l=[]→True∧l=[]∧True)∧(True→(((0:Nat)+l.length)*(1024:Nat)≤140737488355328∧True)∧l=l∧True)) (by kernel_rfl) ?_
 simp;omega
noncomputable def zhg:Ent:=ent1 42 dSents fun l=>([l.length≤1000000],.own 2,[.dead,.dead,.row 51 [] (.rSent l)])
theorem zfK:zak Try.prog zhg:=zaT (zch [] (by decide)).1 fun l h=>zch l (h _ (by simp))
noncomputable def tabLa:List Ent:=[eWi]
theorem zeJ:∀ e∈tabLa,zak Try.prog e:=zae ziW zap
def hdH (h:Holder):Bool:=((((((wiS (IntKind.i64.wrap (h.node-11)) 2&&wiS h.now 1000000000)&&wiS h.ask 1000000000)&&wiS h.seq 1000000000)&&wiS h.at_ h.now)&&(h.seq != 0||h.at_==0))&&decide ((h.sent.length:Int)≤16))
def Holder.sq (h:Holder) (i:Nat):Sent:=h.sent.getD i default
def zel (h:Holder):Nat→Int
 | 0=>0
 | i+1=>(h.sq i).ask
def zb5 (h:Holder):Nat→Bool
 | 0=>true
 | j+1=>zb5 h j&&(decide ((h.sq j).ask>zel h j)&&decide ((h.sq j).ask≤h.ask)&&wiS (h.sq j).at_ h.now)
def ckH (h:Holder):Bool:=hdH h&&zb5 h h.sent.length
theorem zfo (h:Holder):FnC Try.prog 8 [dHolder.can h] (.int .i64 (if ckH h then 0 else 1)) D2:=by
 refine FnC.g1 dHolder h (fnB Try.func8 (by decide) rfl) fun hk=>?_
 have hlen:=hk.sent.1
 refine FnG.of_vc (zaz zeJ fun _=>none) Try.func8 rfl (by decide) rfl 300 (p:=fun (V:List PE→Prop)=>let v0:=(1000000000:Int);let v1:=Holder.seq h != 0;let v2:=wiS (IntKind.wrap IntKind.i64 (Holder.node h-(11:Int))) (2:Int);let v3:=zab v2 (wiS (Holder.now h) v0) false;let v4:=zab v3 (wiS (Holder.ask h) v0) false;let v5:=zab v4 (wiS (Holder.seq h) v0) false;let v6:=zab v5 (wiS (Holder.at_ h) (Holder.now h)) false;True∧((v2=true→v2=true)∧(v2=true→v2=true)∧(v2=true→v2=true)∧(v3=true→v3=true)∧(v3=true→v3=true)∧(v3=true→v3=true)∧(v4=true→v4=true)∧(v4=true→v4=true)∧(v4=true→v4=true)∧True)∧((v5=true→v5=true)∧(v5=true→v5=true)∧(v5=true→v5=true)∧(v5=true→v5=true)∧(v5=true→v5=true)∧(v6=true→v6=true)∧(v6=true→v6=true)∧(v6=true→v6=true)∧((v6&&!v1)=true→(v6&&!v1)=true)∧((v6&&!v1)=true→(v6&&!v1)=true)∧(v6=true→v6=true)∧(v6=true→v1=false→(v6&&!v1)=true)∧(v6=true→v6=true)∧(zab v6 (zab v1 true (Holder.at_ h==0)) false=true→zab v6 (zab v1 true (Holder.at_ h==0)) false=true)∧(zab v6 (zab v1 true (Holder.at_ h==0)) false=true→zab v6 (zab v1 true (Holder.at_ h==0)) false=true)∧(zab v6 (zab v1 true (Holder.at_ h==0)) false=true→zab v6 (zab v1 true (Holder.at_ h==0)) false=true)∧(zab v6 (zab v1 true (Holder.at_ h==0)) false=true→zab v6 (zab v1 true (Holder.at_ h==0)) false=true)∧True)∧True∧True∧V []) (by kernel_rfl) ?_
 intros
 refine ⟨trivial,?_,?_⟩
 ·repeat' apply And.intro
  all_goals first | trivial | exact fun h=>h
 repeat' apply And.intro
 all_goals first | trivial | exact fun h=>h | (intro a b;rw [a,b];rfl) | skip
 refine LoopG.head (zaz zeJ fun _=>none) 0 (A:=Nat) (fun j=>j≤h.sent.length) (fun j=>[(53,.int .i64 j),(4,.int .i64 (zel h j)),(3,.bool (hdH h&&zb5 h j))]) (fun j=>[]) (fun j=>h.sent.length-j) 0 (Nat.zero_le _) (p0:=let v0:=Holder.seq h;let v1:=Holder.at_ h;let v2:=Holder.sent h;let v3:=Holder.ask h;let v4:=Holder.node h;let v5:=Holder.now h;let v6:=(1000000000:Int);let v7:=(0:Int);let v8:=(↑(v2.length):Int);v7=(↑(0:Nat):Int)∧v7=zel h (0:Nat)∧zab (zab (zab (zab (zab (zab (wiS (IntKind.wrap IntKind.i64 (v4-(11:Int))) (2:Int)) (wiS v5 v6) false) (wiS v3 v6) false) (wiS v0 v6) false) (wiS v1 v5) false) (zab (v0 != v7) true (v1==v7)) false) (decide (v8≤16)) false=(hdH h&&zb5 h (0:Nat))∧v8=v8∧v2=v2∧v7=v7∧v4=v4∧v5=v5∧v3=v3∧v2=v2∧v0=v0∧v1=v1∧True) (by kernel_rfl) ?_ 300 (p:=fun (y:Nat) (V:List PE→Prop)=>let v0:=(↑y:Int);let v1:=hdH h&&zb5 h y;let v2:=!v1;let v3:=(↑(List.length (Holder.sent h)):Int);let v4:=Sent.ask (List.getD (Holder.sent h) y default);let v5:=if ckH h=true then (0:Int) else (1:Int);let v6:=decide (v0<v3);let v7:=zab v1 (decide (v4>zel h y)) false;True∧True∧(v6=true→((0:Int)≤v0∧v0<v3∧True)∧((v1=true→v1=true)∧(v1=true→v1=true)∧(v1=true→v1=true)∧(v1=true→v1=true)∧(v7=true→v7=true)∧(v7=true→v7=true)∧(v7=true→v7=true)∧(v7=true→v7=true)∧(v7=true→v7=true)∧(zab v7 (decide (v4≤Holder.ask h)) false=true→zab v7 (decide (v4≤Holder.ask h)) false=true)∧(zab v7 (decide (v4≤Holder.ask h)) false=true→zab v7 (decide (v4≤Holder.ask h)) false=true)∧(zab v7 (decide (v4≤Holder.ask h)) false=true→zab v7 (decide (v4≤Holder.ask h)) false=true)∧(zab v7 (decide (v4≤Holder.ask h)) false=true→zab v7 (decide (v4≤Holder.ask h)) false=true)∧(zab v7 (decide (v4≤Holder.ask h)) false=true→zab v7 (decide (v4≤Holder.ask h)) false=true)∧True)∧True∧True∧V [PE.a])∧(v6=false→True∧True∧(v2=true→True∧(1:Int)=v5∧True)∧(v2=false→True∧(0:Int)=v5∧True))) (by intro y;kernel_rfl) ?_
 ·intros
  have e:zab (zab (zab (zab (zab (zab (wiS (IntKind.i64.wrap (h.node-11)) 2) (wiS h.now 1000000000) false) (wiS h.ask 1000000000) false) (wiS h.seq 1000000000) false) (wiS h.at_ h.now) false) (zab (h.seq != 0) true (h.at_==0)) false) (decide ((h.sent.length:Int)≤16)) false=(hdH h&&zb5 h 0):=by
   simp only [zaM,zaG,hdH,zb5,Bool.and_true]
  repeat' apply And.intro
  all_goals first | trivial | rfl | exact e
 rintro j hj
 simp only [imp_self,implies_true,true_and,and_true,zaM,zaG]
 refine ⟨fun h6=>?_,fun h6=>⟨fun h3=>?_,fun h3=>?_⟩⟩
 ·have hj':j<h.sent.length:=by
   have:(j:Int)<(h.sent.length:Int):=of_decide_eq_true h6
   omega
  refine ⟨⟨by omega,by omega⟩,?_⟩
  have e:IntKind.i64.wrap ((j:Int)+1)=((j+1:Nat):Int):=zby (by omega)
  refine Back.mk (j+1) hj' (by omega) (p0:=let v0:=Holder.sent h;let v1:=Holder.ask h;let v2:=Holder.now h;let v3:=(↑(v0.length):Int);let v4:=List.getD v0 j default;let v5:=Sent.ask v4;let v6:=j+(1:Nat);IntKind.wrap IntKind.i64 ((↑j:Int)+(1:Int))=(↑v6:Int)∧v5=zel h v6∧zab (zab (zab (hdH h&&zb5 h j) (decide (v5>zel h j)) false) (decide (v5≤v1)) false) (wiS (Sent.at_ v4) v2) false=(hdH h&&zb5 h v6)∧v3=v3∧v0=v0∧(0:Int)=0∧Holder.node h=Holder.node h∧v2=v2∧v1=v1∧v0=v0∧Holder.seq h=Holder.seq h∧Holder.at_ h=Holder.at_ h∧True) (by kernel_rfl) ?_
  simp only [e,zaM]
  repeat' apply And.intro
  all_goals first | trivial | rfl | (simp only [zb5,Holder.sq,Bool.and_assoc];done) | (simp only [zb5,Holder.sq,Bool.and_assoc];rfl)
 all_goals
  have e:j=h.sent.length:=by
   have:¬ ((j:Int)<(h.sent.length:Int)):=of_decide_eq_false h6
   omega
  subst e
  have h3:(!ckH h)=_:=h3
  cases hc:ckH h<;>rw [hc] at h3<;>first | rfl | cases h3
noncomputable def eCk:Ent:=ent1 8 dHolder fun h=>([],.int .i64 (if ckH h then 0 else 1),D2)
theorem zfi:zak Try.prog eCk:=zaT (zfo default).1 fun h _=>zfo h
noncomputable def tabLb:List Ent:=[zhg]
theorem zeI:∀ e∈tabLb,zak Try.prog e:=zae zfK zap
theorem zgJ (h:Holder) (hl:h.sent.length≤1000000):FnC Try.prog 28 [dHolder.can h] (.agg (h.svs [1])) D2:=by
 refine FnG.of_vc (zaz zeI fun _=>none) Try.func28 rfl (by decide) rfl 300 (p:=fun (V:List PE→Prop)=>let v0:=Holder.sent h;let v1:=v0.length;True∧(v1≤1000000∧True)∧True∧Holder.node h=Holder.node h∧Holder.now h=Holder.now h∧Holder.ask h=Holder.ask h∧v0=v0∧v1≤17592186044416∧Holder.seq h=Holder.seq h∧Holder.at_ h=Holder.at_ h∧True) (by kernel_rfl) ?_
 intros
 exact ⟨trivial,⟨hl,trivial⟩,trivial,rfl,rfl,rfl,rfl,Nat.le_trans hl (by decide),rfl,rfl,trivial⟩
noncomputable def zjS:Ent:=ent1 28 dHolder fun h=>([h.sent.length≤1000000],.agg (h.svs [1]),D2)
theorem zfh:zak Try.prog zjS:=zaT (zgJ default (by decide)).1 fun h k=>zgJ h (k _ (by simp))
theorem zeY (h:Holder) (hl:h.sent.length≤1000000):FnC Try.prog 28 [dHolder.can h] (.agg [.int .i64 h.node,.int .i64 h.now,.int .i64 h.ask,.own 2,.int .i64 h.seq,.int .i64 h.at_]) [.dead,.dead,.row 51 [] (.rSent h.sent)]:=by
 refine FnG.of_vc (zaz zeI fun _=>none) Try.func28 rfl (by decide) rfl 300 (p:=fun (V:List PE→Prop)=>let v0:=Holder.sent h;True∧(v0.length≤1000000∧True)∧True∧Holder.node h=Holder.node h∧Holder.now h=Holder.now h∧Holder.ask h=Holder.ask h∧Holder.seq h=Holder.seq h∧Holder.at_ h=Holder.at_ h∧v0=v0∧True) (by kernel_rfl) ?_
 intros
 repeat' apply And.intro
 all_goals first | trivial | rfl | exact hl
noncomputable def ziY:Ent:=ent1 28 dHolder fun h=>([h.sent.length≤1000000],.agg [.int .i64 h.node,.int .i64 h.now,.int .i64 h.ask,.own 2,.int .i64 h.seq,.int .i64 h.at_],[.dead,.dead,.row 51 [] (.rSent h.sent)])
theorem zha:zak Try.prog ziY:=zaT (zeY default (by decide)).1 fun h k=>zeY h (k _ (by simp))
noncomputable def tabLd:List Ent:=[eCk,ziY]
theorem zhC:∀ e∈tabLd,zak Try.prog e:=zae zfi (zae zha zap)
noncomputable def tabLc:List Ent:=[eCk,zjS]
theorem zeH:∀ e∈tabLc,zak Try.prog e:=zae zfi (zae zfh zap)
theorem zlg {h:Holder} (k:ckH h=true):h.sent.length≤16:=by
 unfold ckH hdH at k
 simp only [Bool.and_eq_true] at k
 have:=of_decide_eq_true k.1.2
 omega
theorem wiS_iff {n m:Int}:wiS n m=true↔0≤n∧n≤m:=by simp [wiS]
theorem zjb {h:Holder} (k:ckH h=true):(0≤h.now∧h.now≤1000000000)∧(0≤h.ask∧h.ask≤1000000000)∧(0≤h.seq∧h.seq≤1000000000)∧(0≤h.at_∧h.at_≤h.now):=by
 unfold ckH hdH at k
 simp only [Bool.and_eq_true,wiS_iff] at k
 exact ⟨k.1.1.1.1.1.1.2,k.1.1.1.1.1.2,k.1.1.1.1.2,k.1.1.1.2⟩
def tkH (h:Holder):Holder:={h with now:=h.now+1}
theorem zjk (h:Holder) (hc:ckH h=true) (hn:h.now<1000000000):FnC Try.prog 9 [dHolder.can h] (.tup [.agg ((tkH h).svs [1]),.int .i64 0]) D2:=by
 refine FnG.of_vc (zaz zeH fun _=>none) Try.func9 rfl (by decide) rfl 300 (p:=fun (V:List PE→Prop)=>let v0:=Holder.now h;let v1:=Holder.at_ (tkH h);let v2:=Holder.node (tkH h);let v3:=Holder.ask (tkH h);let v4:=Holder.now (tkH h);let v5:=Holder.seq (tkH h);let v6:=Holder.sent (tkH h);let v7:=(1000000000:Int);let v8:=(0:Int);let v9:=decide (v0≥v7);let v10:=(if ckH h=true then v8 else (1:Int)) != v8;True∧True∧True∧(v10=true→True∧v8=v2∧v8=v4∧v8=v3∧v6=[]∧v8=v5∧v8=v1∧(1:Int)=v8∧True)∧(v10=false→True∧True∧(v9=true→True∧v8=v2∧v8=v4∧v8=v3∧v6=[]∧v8=v5∧v8=v1∧(2:Int)=v8∧True)∧(v9=false→(List.length (Holder.sent h)≤1000000∧True)∧True∧True∧Holder.node h=v2∧IntKind.wrap IntKind.i64 (v0+(1:Int))=v4∧Holder.ask h=v3∧Holder.sent h=v6∧Holder.seq h=v5∧Holder.at_ h=v1∧v8=v8∧True))) (by kernel_rfl) ?_
 have hl:=zlg hc
 have hb:=zjb hc
 have e:IntKind.i64.wrap (h.now+1)=h.now+1:=zbt ⟨by omega,by omega⟩
 simp only [hc,imp_self,implies_true,true_and,and_true,zaM,zaG]
 exact ⟨fun k=>absurd k (by decide),fun _=>⟨fun k=>absurd (of_decide_eq_true k) (by omega),fun _=>⟨by omega,rfl,e,rfl,rfl,rfl,rfl⟩⟩⟩
def zaR (h:Holder):Bool:=ckH h&&(h.seq != 0&&decide (IntKind.i64.wrap (h.now-h.at_)<8))
theorem zgO (h:Holder):FnC Try.prog 13 [dHolder.can h] (.bool (zaR h)) D2:=by
 refine FnG.of_vc (zaz zeH fun _=>none) Try.func13 rfl (by decide) rfl 300 (p:=fun (V:List PE→Prop)=>let v0:=IntKind.wrap IntKind.i64 (Holder.now h-Holder.at_ h);let v1:=(if ckH h=true then (0:Int) else (1:Int))==0;let v2:=zab v1 (Holder.seq h != 0) false;True∧((v1=true→v1=true)∧(v1=true→v1=true)∧(v1=true→v1=true)∧(v2=true→v2=true)∧(v2=true→v2=true)∧(v2=true→v2=true)∧(v2=true→v2=true)∧(v2=true→v2=true)∧(v2=true→v2=true)∧True)∧zab v2 (decide (v0<8)) false=zaR h∧True) (by kernel_rfl) ?_
 simp only [imp_self,implies_true,true_and,and_true,zaM,zaG]
 unfold zaR
 rw [Bool.and_assoc]
 cases ckH h<;>rfl
def askL (h:Holder):Holder:={h with ask:=h.ask+1,sent:=h.sent++[⟨h.ask+1,h.now⟩]}
theorem zlk (h:Holder) (hc:ckH h=true) (hn:h.ask<1000000000) (hl:h.sent.length≤15):FnC Try.prog 16 [dHolder.can h] (.tup [.agg ((askL h).svs [1]),.int .i64 (h.ask+1),.int .i64 0]) D2:=by
 refine FnG.of_vc (zaz zhC fun _=>none) Try.func16 rfl (by decide) rfl 300 (p:=fun (V:List PE→Prop)=>let v0:=askL h;let v1:=Holder.ask h;let v2:=Holder.node v0;let v3:=Holder.seq v0;let v4:=Holder.sent v0;let v5:=Holder.at_ v0;let v6:=Holder.now v0;let v7:=Holder.ask v0;let v8:=List.length (Holder.sent h);let v9:=(1000000000:Int);let v10:=(0:Int);let v11:=v1+(1:Int);let v12:=IntKind.wrap IntKind.i64 v11;let v13:=decide (v1≥v9);let v14:=[Sent.mk v12 (Holder.now h)];let v15:=(if ckH h=true then v10 else (1:Int)) != v10;let v16:=Holder.sent h++v14;let v17:=v16.length;let v18:=(↑v17:Int);let v19:=IntKind.wrap IntKind.i64 (v18-(16:Int));let v20:=if v19>v10 then v19 else v10;True∧True∧True∧(v15=true→True∧v10=v2∧v10=v6∧v10=v7∧v4=[]∧v10=v3∧v10=v5∧v10=v11∧(1:Int)=v10∧True)∧(v15=false→True∧True∧(v13=true→True∧v10=v2∧v10=v6∧v10=v7∧v4=[]∧v10=v3∧v10=v5∧v10=v11∧(2:Int)=v10∧True)∧(v13=false→(v8≤1000000∧True)∧True∧((v8+v14.length)*(1024:Nat)≤140737488355328∧True)∧(v10≤v20∧v20≤v18∧v18≤v18∧v17≤17592186044416∧True)∧True∧Holder.node h=v2∧Holder.now h=v6∧v12=v7∧List.drop (Int.toNat v20) (List.take v17 v16)=v4∧Holder.seq h=v3∧Holder.at_ h=v5∧v12=v11∧v10=v10∧True))) (by kernel_rfl) ?_
 have hb:=zjb hc
 have e1:IntKind.i64.wrap (h.ask+1)=h.ask+1:=zbt ⟨by omega,by omega⟩
 have e0:(h.sent++[(⟨h.ask+1,h.now⟩:Sent)]).length=h.sent.length+1:=by simp
 have e2:IntKind.i64.wrap (((h.sent.length+1:Nat):Int)-16)=((h.sent.length+1:Nat):Int)-16:=zbt ⟨by omega,by omega⟩
 have e3:¬ (((h.sent.length+1:Nat):Int)-16>0):=by omega
 simp only [hc,e1,e0,e2,e3,if_false,imp_self,implies_true,true_and,and_true,zaM,zaG]
 refine ⟨fun k=>absurd k (by decide),fun _=>⟨fun k=>absurd (of_decide_eq_true k) (by omega),fun _=>⟨by omega,by simp;omega,⟨by omega,by omega,by omega,by omega⟩,rfl,rfl,rfl,?_,rfl,rfl⟩⟩⟩
 rw [show Int.toNat 0=0 from rfl,List.drop_zero,← e0,List.take_length]
 rfl
noncomputable def zjN:Ent:=ent1 9 dHolder fun h=>([ckH h=true,h.now<1000000000],.tup [.agg ((tkH h).svs [1]),.int .i64 0],D2)
theorem zff:zak Try.prog zjN:=zaT (fnB Try.func9 (by decide) rfl) fun h k=>zjk h (k _ (by simp)) (k _ (by simp))
noncomputable def zhd:Ent:=ent1 13 dHolder fun h=>([],.bool (zaR h),D2)
theorem zdX:zak Try.prog zhd:=zaT (zgO default).1 fun h _=>zgO h
noncomputable def eAsk:Ent:=ent1 16 dHolder fun h=>([ckH h=true,h.ask<1000000000,h.sent.length≤15],.tup [.agg ((askL h).svs [1]),.int .i64 (h.ask+1),.int .i64 0],D2)
theorem zhh:zak Try.prog eAsk:=zaT (fnB Try.func16 (by decide) rfl) fun h k=>zlk h (k _ (by simp)) (k _ (by simp)) (k _ (by simp))
end Go.Proofs.Ytjfphnegcelbpaa
namespace Go.Proofs.Ytjfphnegcelbpaa
open Go.RowKit Go.ChangeShapes Go.WideShapes Go.Deep Hp
theorem hasId_at {Q:List It} {id:Int}:za4 Q id=true↔∃ k,k<Q.length∧(at' Q k).1=id:=by
 rw [hasId_iff]
 constructor
 ·rintro ⟨x,hx,e⟩
  obtain ⟨k,hk,e2⟩:=ziL hx
  exact ⟨k,hk,by rw [e2];exact e⟩
 ·rintro ⟨k,hk,e⟩
  exact ⟨_,zeb hk,e⟩
theorem zdd {a b:Bool} (h:a=true↔b=true):a=b:=by cases a<;>cases b<;>simp_all
theorem zh2 (w:World):(zeroValue TP).run Try.prog w = .ok (.pointer none) w:=by kernel_rfl
theorem zkN (x:It) (k:Nat) (t:Int):(itC x k).setIfInBounds 1 (.int .i64 t)=itC (x.1,t) k:=by simp [itC]
theorem QOk.timed {w:World} {b:Nat} {v mv:Value} {ps:List Nat} {Q:List It} (h:QOk w b v mv ps Q) {k:Nat} (hk:k<Q.length) {t:Int} (ht:I64 t) :
  QOk (w.setCell ⟨ps.getD k 0,1,none⟩ (.int .i64 t)) b v mv ps (Q.set k ((at' Q k).1,t)):=by
 refine ⟨?_,?_,by rw [List.length_set];exact h.len,fun j hj=>?_,fun x hx=>?_,by rw [List.length_set];exact h.small⟩
 ·rw [zas (Ne.symm (h.ne_b hk))];exact h.blk
 ·rw [List.length_set]
  exact ownsRow_setCell_other h.row (a:=⟨ps.getD k 0,1,none⟩) (fun e=>h.ne_row e hk rfl) _
 ·rw [List.length_set] at hj
  rw [zcJ hk]
  by_cases e:j=k
  ·subst e
   rw [if_pos rfl,zbT (h.it j hj),zkN]
  ·rw [if_neg e,zas (fun e2=>e (h.inj hj hk e2))]
   exact h.it j hj
 ·rcases List.mem_or_eq_of_mem_set hx with hx | rfl
  ·exact h.i64 x hx
  ·exact ⟨(h.i64 _ (zeb hk)).1,ht⟩
def zcL (w:World) (b:Nat) (L':List It) (F:Nat→Prop) (r:Int) (e:Ending) (w':World):Prop:=
 e = .returned (.int .i64 r)∧∃ F',CkOk w' b L' F'∧(∀ x,F' x→F x∨w.heap.size≤x)∧Turn F w w'
theorem zgM {Q:List It} {k:Nat} {t:Int} (hk:k<Q.length) (id:Int):za4 (Q.set k ((at' Q k).1,t)) id=za4 Q id:=by
 apply zdd
 rw [hasId_at,hasId_at]
 constructor
 ·rintro ⟨j,hj,e⟩
  rw [List.length_set] at hj
  rw [zcJ hk] at e
  refine ⟨j,hj,?_⟩
  by_cases h:j=k
  ·subst h;rw [if_pos rfl] at e;exact e
  ·rw [if_neg h] at e;exact e
 ·rintro ⟨j,hj,e⟩
  refine ⟨j,by rw [List.length_set];exact hj,?_⟩
  rw [zcJ hk]
  by_cases h:j=k
  ·subst h;rw [if_pos rfl];exact e
  ·rw [if_neg h];exact e
theorem zke {w w1 w2:World} {b mb k:Nat} {L:List It} {F:Nat→Prop} {v:Value} {ps:List Nat} {Q:List It} {t:Int} (hq:QOk w b v (.map (some mb)) ps Q) (hh:HeapOf Q L) (hm:MOk w mb ps Q) (hF:∀ x,F x↔QF b v ps x∨x=mb) (hk:k<Q.length)
  (h1:w1.heap=(w.setCell ⟨ps.getD k 0,1,none⟩ (.int .i64 t)).heap) (h1t:Turn (QF b v ps) w w1) (hs:Same' w1 w2 b v (.map (some mb)) ps (Q.set k ((at' Q k).1,t)) (fix (Q.set k ((at' Q k).1,t)) k (Q.set k ((at' Q k).1,t)).length)) :
  ∃ F',CkOk w2 b (setL L (at' Q k).1 t) F'∧(∀ x,F' x→F x∨w.heap.size≤x)∧Turn F w w2:=by
 obtain ⟨⟨ps2,hq2,hP⟩,ht2⟩:=hs
 have hT:Turn (QF b v ps) w w2:=h1t.trans ht2
 have hh2:=hh.turn (t:=t) hk
 rw [List.length_set] at hq2 hP
 obtain ⟨Q2,hQ2⟩:∃ Q2,fix (Q.set k ((at' Q k).1,t)) k Q.length=Q2:=⟨_,rfl⟩
 have hl2:Q2.length=Q.length:=by rw [← hQ2,zeu,List.length_set]
 have hperm:Q2.Perm (Q.set k ((at' Q k).1,t)):=by rw [← hQ2];exact zdv (by rw [List.length_set];exact Nat.le_refl _) hk
 rw [hQ2] at hq2 hP hh2
 have hmap:w2.heap[mb]? = w.heap[mb]? := by
  obtain ⟨es,c,hb⟩:=hm.blk
  exact hT.block mb (Array.getElem?_eq_some_iff.1 hb).1 (hq.not_map hb)
 obtain ⟨D,hown,hsz,hhas,hat⟩:=(hm.kept hmap).D
 refine ⟨F,⟨v,mb,ps2,Q2,hq2,hh2,⟨D,by rw [hl2];exact hown,by rw [hl2];exact hsz,fun id=>?_,fun k' hk' z=>?_⟩,fun x=>(hF x).trans (or_congr (QF.iff hP.mem x).symm Iff.rfl)⟩,fun x hx=> .inl hx,hT.mono fun x hx=>(hF x).2 (.inl hx)⟩
 ·rw [hhas,za3 hperm,zgM hk]
 ·obtain ⟨j,hj,e1,e2⟩:=hP.pair k' hk'
  rw [List.length_set] at hj
  have e3:(at' Q2 k').1=(at' Q j).1:=by
   rw [e2,zcJ hk]
   by_cases h:j=k
   ·subst h;rw [if_pos rfl]
   ·rw [if_neg h]
  rw [e3,e1]
  exact hat j hj z
theorem zgh {w:World} {b:Nat} {L:List It} {F:Nat→Prop} {id t:Int} (h:CkOk w b L F) (hi:I64 id) (ht:I64 t) (hb:za4 L id=true) :
  Calls Try.prog 38 #[.pointer (some ⟨b,0,none⟩),.int .i64 id,.int .i64 t] w (zcL w b (setL L id t) F 0):=by
 obtain ⟨v,mb,ps,Q,hq,hh,hm,hF⟩:=h.q
 obtain ⟨D,hown,hsz,hhas,hat⟩:=hm.D
 have hbq:za4 Q id=true:=by rw [za3 hh.perm];exact hb
 obtain ⟨k,hk,hkid⟩:=hasId_at.1 hbq
 obtain ⟨p,hp⟩:∃ p,ps.getD k 0=p:=⟨_,rfl⟩
 have hkey:keyOf Try.prog TN (.int .i64 id)=some (kI id):=Maps.keyOf_int_mk (q:= .i64) (by kernel_rfl) (zaJ hi)
 obtain ⟨vv,pp,hrun,hv⟩:=hown.look_ok keyI (t:=TM) (e:=TP) (by kernel_rfl) (zh2 w) (zd:= .lit (.bool false)) (zp:=[]) rfl hkey
 have hatk:=hat k hk (.lit (.bool false))
 rw [hkid] at hatk
 rw [hatk,hp] at hv
 obtain rfl:=zjf hv
 rw [hhas,hbq] at hrun
 have c1:w.cell? ⟨b,1,none⟩=some (.map (some mb)):=zag hq.blk 1
 have i1:=zag (hq.it k hk) 1
 have f1:=zbl (hq.it k hk) 1
 have hq1:=hq.timed hk ht
 have i2:=zag (hq1.it k (by rw [List.length_set];exact hk)) 2
 have hFx:∀ wx:World,wx.heap=(w.setCell ⟨ps.getD k 0,1,none⟩ (.int .i64 t)).heap→Calls Try.prog 43 #[qPtr b,.int .i64 (k:Int)] wx (zhz wx b v (.map (some mb)) ps (Q.set k ((at' Q k).1,t)) (fix (Q.set k ((at' Q k).1,t)) k (Q.set k ((at' Q k).1,t)).length)):=fun wx e=>zjJ (hq1.kept fun x _=>by rw [e]) (i:=k) (by rw [List.length_set];exact hk)
 have hFx:=Lib.hid hFx
 rw [hp] at i1 f1 i2
 rw [hp,hkid] at hFx
 simp only [itC] at i1 i2
 simp at i1 i2
 have HQ:=Lib.hid hq
 have HH:=Lib.hid hh
 have HM:=Lib.hid hm
 have HFF:=Lib.hid hF
 have HA:=Lib.hid hat
 clear hq hh hm hF hown hhas hat hatk hv hq1 h hsz
 unfold ptrV at hrun
 go_enter Try.func38,Try.ntmps38
 go_wp2_with fail
 go_region_with (go_at_call 43;refine Calls.mono (hFx.out ((w.setCell ⟨p,1,none⟩ (.int .i64 t)).drew) rfl) ?_;rintro e w' ⟨rfl,hs⟩)
 go_wp2
 go_ret
 have h1t:Turn (QF b v ps) w (w.setCell ⟨p,1,none⟩ (.int .i64 t)).drew:=((Turn.refl _ w).set (.inr (.inr (hp▸HQ.out.mem hk))) _).drew
 have:=zke HQ.out HH.out HM.out HFF.out hk (t:=t) (w1:=(w.setCell ⟨p,1,none⟩ (.int .i64 t)).drew) (w2:=w') (by rw [hp];rfl) h1t (by rw [hkid];exact hs)
 rw [hkid] at this
 exact ⟨rfl,this⟩
theorem zgN {Q:List It} {x:It} {id:Int}:za4 (Q++[x]) id=(za4 Q id||x.1==id):=by simp [za4]
theorem zkg {w w2 w3:World} {b mb p:Nat} {L:List It} {F:Nat→Prop} {v:Value} {ps:List Nat} {Q:List It} {id t:Int} {D:DataW Unit} (hq:QOk w b v (.map (some mb)) ps Q) (hh:HeapOf Q L) (hF:∀ x,F x↔QF b v ps x∨x=mb)
  (hmb:∃ es c,w.heap[mb]? = some (.map es c)) (hsz:Maps.size D=Q.length) (hhas:∀ id,Maps.has D (kI id)=za4 Q id) (hat:∀ k,k<Q.length→∀ z,D.atKey (kI (at' Q k).1) z = .lit (.int .u64 (ps.getD k 0:Nat))) (hD:Maps.Tidy D)
  (hn:za4 L id=false) (hp:w.heap.size≤p) (h2:Turn (fun x=>x=mb∨x=p) w w2) (hown:w2.ownsMap Try.prog TN RP mb (Q.length+1) (D.put (kI id) (.lit (.int .u64 (p:Int)))))
  {e:Ending} (hs:zcN w2 b p v (.map (some mb)) ps Q (id,t) e w3):e = .returned (.tuple #[])∧∃ F',CkOk w3 b (setL L id t) F'∧(∀ x,F' x→F x∨w.heap.size≤x)∧Turn F w w3:=by
 obtain ⟨rfl,v3,ps3,hq3,hP,ht3,hv3⟩:=hs
 obtain ⟨Q3,hQ3⟩:∃ Q3,up (Q++[(id,t)]) Q.length=Q3:=⟨_,rfl⟩
 have hh3:=hh.push (id:=id) (t:=t) hn
 have hperm:Q3.Perm (Q++[(id,t)]):=by rw [← hQ3];exact zee (by simp)
 have hl3:Q3.length=Q.length+1:=by rw [hperm.length_eq];simp
 rw [hQ3] at hq3 hP hh3
 have hnq:za4 Q id=false:=by rw [za3 hh.perm];exact hn
 have hlp:=hq.len
 obtain ⟨es,c,hb⟩:=hmb
 have hmlt:=(Array.getElem?_eq_some_iff.1 hb).1
 have hmq:=hq.not_map hb
 have hown3:w3.ownsMap Try.prog TN RP mb (Q.length+1) (D.put (kI id) (.lit (.int .u64 (p:Int)))):=by
  obtain ⟨es2,c2,hb2,r⟩:=hown
  refine ⟨es2,c2,?_,r⟩
  rw [ht3.block mb (Nat.lt_of_lt_of_le hmlt h2.size) (fun g=>g.elim hmq (fun e=>by omega))]
  exact hb2
 have hnk:Maps.has D (kI id)=false:=by rw [hhas];exact hnq
 refine ⟨rfl,fun x=>QF b v3 ps3 x∨x=mb,⟨v3,mb,ps3,Q3,hq3,hh3,⟨D.put (kI id) (.lit (.int .u64 (p:Int))),by rw [hl3];exact hown3,?_,fun id'=>?_,fun k' hk' z=>?_⟩,fun x=>Iff.rfl⟩,?_,?_⟩
 ·rw [Maps.size_put hD,hnk,hsz,hl3];rfl
 ·rw [za3 hperm,zgN]
  by_cases e:id'=id
  ·subst e
   rw [Maps.has_put_same hD.isMap (ziP _)];simp
  ·rw [Maps.has_put_other (zia e),hhas]
   simp [Ne.symm e]
 ·obtain ⟨j,hj,e1,e2⟩:=hP.pair k' hk'
  rw [List.length_append,List.length_singleton] at hj
  rw [e2,e1]
  by_cases h:j=Q.length
  ·subst h
   have a1:at' (Q++[(id,t)]) Q.length=(id,t):=by simp [at',List.getD]
   have a2:(ps++[p]).getD Q.length 0=p:=by rw [← hlp];simp [List.getD]
   rw [a1,a2,Maps.atKey_put_same hD.isMap (ziP _)]
  ·have hj2:j<Q.length:=by omega
   have a1:at' (Q++[(id,t)]) j=at' Q j:=by unfold at';rw [List.getD_eq_getElem?_getD,List.getD_eq_getElem?_getD,List.getElem?_append_left hj2]
   have a2:(ps++[p]).getD j 0=ps.getD j 0:=by rw [List.getD_eq_getElem?_getD,List.getD_eq_getElem?_getD,List.getElem?_append_left (by omega)]
   have hne:(at' Q j).1≠id:=fun e=>by
    have:=hasId_at.2 ⟨j,hj2,e⟩
    rw [hnq] at this;cases this
   rw [a1,a2,Maps.atKey_put_other (zia hne)]
   exact hat j hj2 z
 ·rintro x ((e | e | e) | e)
  ·exact .inl ((hF x).2 (.inl (.inl e)))
  ·rcases hv3 with e1 | ⟨g,e1,hge⟩
   ·exact .inl ((hF x).2 (.inl (.inr (.inl (by rw [← e1];exact e)))))
   ·rw [e1] at e
    have:=Option.some.inj e
    have:=h2.size
    exact .inr (by omega)
  ·rcases List.mem_append.1 ((hP.mem x).1 e) with e | e
   ·exact .inl ((hF x).2 (.inl (.inr (.inr e))))
   ·rw [List.mem_singleton] at e;subst e;exact .inr hp
  ·exact .inl ((hF x).2 (.inr e))
 ·refine Turn.trans' (F:=F) (G:=fun y=>QF b v ps y∨y=p) ?_ ht3 fun x hx g=>?_
  ·exact ⟨h2.os,h2.tape,h2.output,h2.size,fun x hx hnF=>h2.block x hx fun g=>g.elim (fun e=>hnF ((hF x).2 (.inr e))) (fun e=>by omega)⟩
  ·rcases g with g | g
   ·exact (hF x).2 (.inl g)
   ·omega
theorem zjm {w:World} {b:Nat} {L:List It} {F:Nat→Prop} {id t:Int} (h:CkOk w b L F) (hi:I64 id) (ht:I64 t) (hb:za4 L id=false) (hn:L.length<1000000) :
  Calls Try.prog 38 #[.pointer (some ⟨b,0,none⟩),.int .i64 id,.int .i64 t] w (zcL w b (setL L id t) F 0):=by
 obtain ⟨v,mb,ps,Q,hq,hh,hm,hF⟩:=h.q
 obtain ⟨D,hown,hsz,hhas,hat⟩:=hm.D
 have hbq:za4 Q id=false:=by rw [za3 hh.perm];exact hb
 have hlq:Q.length<1000000:=by rw [hh.len];exact hn
 have hkey:keyOf Try.prog TN (.int .i64 id)=some (kI id):=Maps.keyOf_int_mk (q:= .i64) (by kernel_rfl) (zaJ hi)
 obtain ⟨vv,pp,hrun,hv⟩:=hown.look_ok keyI (t:=TM) (e:=TP) (by kernel_rfl) (zh2 w) (zd:= .lit (.bool false)) (zp:=[]) rfl hkey
 rw [hhas,hbq] at hrun
 have hD:=hown.tidy keyI
 have hmlt:=hown.lt
 obtain ⟨w2,hup,hown2,hg2⟩:=(hown.alloc (.cells (itC (id,t) 0) TI (0,0))).update keyI (t:=TM) (e:=TP) (by kernel_rfl) (by unfold maxLen;omega) (key:= .int .i64 id) (val:=ptrV w.heap.size) hkey (RP_mk _)
 have hsz1:(w.alloc (.cells (itC (id,t) 0) TI (0,0))).heap.size=w.heap.size+1:=by simp
 have h2:Turn (fun x=>x=mb∨x=w.heap.size) w w2:=by
  refine ⟨hg2.os,hg2.tape,hg2.output,by have:=hg2.size;omega,fun x hx hnx=>?_⟩
  rw [hg2.block x (by omega) (fun e=>hnx (.inl (Option.some.inj e))),Below.heap_alloc _ _ _ hx]
 have hmne:mb≠w.heap.size:=by omega
 have hp2:w2.heap[w.heap.size]? = some (.cells (itC (id,t) 0) TI (0,0)):=by
  rw [hg2.block _ (by omega) (fun e=>hmne (Option.some.inj e).symm)]
  exact heap_alloc_new w _
 obtain ⟨es,cc,hmbk⟩:=hm.blk
 have hnm:=hq.not_map hmbk
 have hq2:QOk w2 b v (.map (some mb)) ps Q:=hq.kept fun x hx=>h2.block x (hq.lt hx) (fun g=>g.elim (fun e=>hnm (e▸hx)) (fun e=>by have:=hq.lt hx;omega))
 have hpn:w.heap.size∉ps:=fun hx=>by have:=hq.lt (.inr (.inr hx));omega
 have hPu:=Lib.hid (zgI hq2 hp2 hpn (x:=(id,t)) ⟨hi,ht⟩ hlq)
 have c1:w.cell? ⟨b,1,none⟩=some (.map (some mb)):=zag hq.blk 1
 have hfin:∀ e w3,zcN w2 b w.heap.size v (.map (some mb)) ps Q (id,t) e w3→e = .returned (.tuple #[])∧∃ F',CkOk w3 b (setL L id t) F'∧(∀ x,F' x→F x∨w.heap.size≤x)∧Turn F w w3:=
  fun e w3 hs=>zkg hq hh hF hm.blk hsz hhas hat hD hb (Nat.le_refl _) h2 hown2 hs
 have HF:=Lib.hid hfin
 have hbs:b<w.heap.size:=hq.lt (.inl rfl)
 have c2:(w.alloc (.cells (itC (id,t) 0) TI (0,0))).cell? ⟨b,1,none⟩=some (.map (some mb)):=zag ((Below.heap_alloc _ _ _ hbs).trans hq.blk) 1
 clear hfin hq hh hm hF hown hhas hat hv h hsz hq2 hp2 hg2 hown2 h2 hD hmbk hnm hpn
 have h00:((0:Nat):Int)=0:=rfl
 simp only [itC,h00] at hup c2
 unfold ptrV at hup hPu
 go_enter Try.func38,Try.ntmps38
 go_wp2_with fail
 refine hPu.out.mono ?_
 rintro e w3 hs
 obtain ⟨rfl,hfin⟩:=HF.out _ _ hs
 clear hs
 have hfin:=Lib.hid hfin
 go_wp2
 go_ret
 exact ⟨rfl,hfin.out⟩
theorem zjn {w:World} {b:Nat} {L:List It} {F:Nat→Prop} {id t:Int} (h:CkOk w b L F) (hi:I64 id) (ht:I64 t) (hn:L.length<1000000) :
  Calls Try.prog 38 #[.pointer (some ⟨b,0,none⟩),.int .i64 id,.int .i64 t] w (zcL w b (setL L id t) F 0):=by
 cases hb:za4 L id
 ·exact zjm h hi ht hb hn
 ·exact zgh h hi ht hb
theorem zfG {L:List It} {id id':Int}:za4 (zao L id) id'=(za4 L id'&&!(id'==id)):=by
 apply zdd
 rw [Bool.and_eq_true,hasId_iff,hasId_iff]
 constructor
 ·rintro ⟨x,hx,rfl⟩
  obtain ⟨h1,h2⟩:=mem_drop.1 hx
  exact ⟨⟨x,h1,rfl⟩,by simp [h2]⟩
 ·rintro ⟨⟨x,hx,rfl⟩,h2⟩
  exact ⟨x,mem_drop.2 ⟨hx,by simpa using h2⟩,rfl⟩
theorem zkh {w w1 w2 w3:World} {b mb k:Nat} {L:List It} {F:Nat→Prop} {v v':Value} {ps ps':List Nat} {Q:List It} {D:DataW Unit} (hq:QOk w b v (.map (some mb)) ps Q) (hh:HeapOf Q L) (hF:∀ x,F x↔QF b v ps x∨x=mb) (hk:k<Q.length)
  (hmb:∃ es c,w.heap[mb]? = some (.map es c)) (hsz:Maps.size D=Q.length) (hhas:∀ id,Maps.has D (kI id)=za4 Q id) (hat:∀ k,k<Q.length→∀ z,D.atKey (kI (at' Q k).1) z = .lit (.int .u64 (ps.getD k 0:Nat))) (hD:Maps.Tidy D)
  (h1:Turn (QF b v ps) w w1) (ht2:Turn (QF b v ps) w1 w2) (hq2:QOk w2 b v' (.map (some mb)) ps' ((rem1 Q k).take (Q.length-1))) (hsub:∀ y,y∈ps'→y∈ps)
  (hpair:∀ k',k'<((rem1 Q k).take (Q.length-1)).length→∃ j,j<Q.length∧ps'.getD k' 0=ps.getD j 0∧at' ((rem1 Q k).take (Q.length-1)) k'=at' Q j) (hv:v'.ownBlock=v.ownBlock)
  (hown:w3.ownsMap Try.prog TN RP mb Q.length (D.del (kI (at' Q k).1))) (ht3:w2.mapTurned w3 mb):∃ F',CkOk w3 b (zao L (at' Q k).1) F'∧(∀ x,F' x→F x∨w.heap.size≤x)∧Turn F w w3:=by
 have hh3:=hh.gone hk
 obtain ⟨Q3,hQ3⟩:∃ Q3,(rem1 Q k).take (Q.length-1)=Q3:=⟨_,rfl⟩
 obtain ⟨id,hid⟩:∃ id,(at' Q k).1=id:=⟨_,rfl⟩
 have hl3:Q3.length=Q.length-1:=by rw [← hQ3,List.length_take,zcn];omega
 rw [hQ3] at hq2 hpair hh3
 rw [hid] at hh3 hown ⊢
 have hhk:za4 Q id=true:=hasId_at.2 ⟨k,hk,hid⟩
 have hg3:=ht3.grown
 obtain ⟨es,c,hb⟩:=hmb
 have hmq:=hq.not_map hb
 have hmlt:=(Array.getElem?_eq_some_iff.1 hb).1
 have hmb2:w2.heap[mb]? = some (.map es c):=by
  rw [(h1.trans ht2).block mb hmlt hmq];exact hb
 have hnm2:=hq2.not_map hmb2
 have hq3:QOk w3 b v' (.map (some mb)) ps' Q3:=hq2.kept fun x hx=>hg3.block x (hq2.lt hx) (fun e=>hnm2 ((Option.some.inj e)▸hx))
 have hsize:Maps.size (D.del (kI id))=Q3.length:=by
  have:=Maps.size_del (k:=kI id) hD
  rw [hhas,hhk,hsz] at this
  simp only [if_true] at this
  omega
 have hown3:=zgt hown
 rw [hsize] at hown3
 refine ⟨fun x=>QF b v' ps' x∨x=mb,⟨v',mb,ps',Q3,hq3,hh3,⟨D.del (kI id),hown3,hsize,fun id'=>?_,fun k' hk' z=>?_⟩,fun x=>Iff.rfl⟩,?_,?_⟩
 ·rw [za3 hh3.perm,zfG]
  by_cases e:id'=id
  ·subst e;rw [Maps.has_del_same];simp
  ·rw [Maps.has_del_other (zia e),hhas,za3 hh.perm];simp [e]
 ·obtain ⟨j,hj,e1,e2⟩:=hpair k' hk'
  have hne:(at' Q j).1≠id:=by
   rw [← e2]
   exact (mem_drop.1 (hh3.perm.mem_iff.1 (zeb hk'))).2
  rw [e2,e1,Maps.atKey_del_other (zia hne)]
  exact hat j hj z
 ·rintro x ((e | e | e) | e)
  ·exact .inl ((hF x).2 (.inl (.inl e)))
  ·exact .inl ((hF x).2 (.inl (.inr (.inl (by rw [← hv];exact e)))))
  ·exact .inl ((hF x).2 (.inl (.inr (.inr (hsub x e)))))
  ·exact .inl ((hF x).2 (.inr e))
 ·refine Turn.trans ((h1.trans ht2).mono fun x hx=>(hF x).2 (.inl hx)) ⟨hg3.os,hg3.tape,hg3.output,hg3.size,fun x hx hn=>hg3.block x hx fun e=>hn ((hF x).2 (.inr (Option.some.inj e)))⟩
theorem ze1 {w:World} {b:Nat} {L:List It} {F:Nat→Prop} {id:Int} (h:CkOk w b L F) (hi:I64 id) (hb:za4 L id=false) :
  Calls Try.prog 46 #[.pointer (some ⟨b,0,none⟩),.int .i64 id] w fun e w'=>e = .returned (.int .i64 50)∧Drw w w':=by
 obtain ⟨v,mb,ps,Q,hq,hh,hm,hF⟩:=h.q
 obtain ⟨D,hown,hsz,hhas,hat⟩:=hm.D
 have hbq:za4 Q id=false:=by rw [za3 hh.perm];exact hb
 have hkey:keyOf Try.prog TN (.int .i64 id)=some (kI id):=Maps.keyOf_int_mk (q:= .i64) (by kernel_rfl) (zaJ hi)
 obtain ⟨vv,pp,hrun,hv⟩:=hown.look_ok keyI (t:=TM) (e:=TP) (by kernel_rfl) (zh2 w) (zd:= .lit (.bool false)) (zp:=[]) rfl hkey
 rw [hhas,hbq] at hrun
 have c1:w.cell? ⟨b,1,none⟩=some (.map (some mb)):=zag hq.blk 1
 clear hq hh hm hF hown hhas hat hv hsz h
 go_enter Try.func46,Try.ntmps46
 go_wp2
 go_ret
 exact ⟨rfl,Drw.refl _⟩
theorem zfN {w:World} {b:Nat} {L:List It} {F:Nat→Prop} {id:Int} (h:CkOk w b L F) (hi:I64 id) (hb:za4 L id=false) :
  Calls Try.prog 46 #[.pointer (some ⟨b,0,none⟩),.int .i64 id] w (zcL w b (zao L id) F 50):=by
 have hd:zao L id=L:=zbO fun x hx e=>by
  have:=hasId_iff.2 ⟨x,hx,e⟩
  rw [hb] at this;cases this
 rw [hd]
 exact Calls.mono (ze1 h hi hb) fun e w' ⟨he,hdr⟩=>⟨he,F,h.kept fun x _=>by rw [hdr.heap],fun x hx=> .inl hx,hdr.turn _⟩
theorem ze0 {w:World} {b:Nat} {L:List It} {F:Nat→Prop} {id:Int} (h:CkOk w b L F) (hi:I64 id) (hb:za4 L id=true) :
  Calls Try.prog 46 #[.pointer (some ⟨b,0,none⟩),.int .i64 id] w (zcL w b (zao L id) F 0):=by
 obtain ⟨v,mb,ps,Q,hq,hh,hm,hF⟩:=h.q
 obtain ⟨D,hown,hsz,hhas,hat⟩:=hm.D
 have hbq:za4 Q id=true:=by rw [za3 hh.perm];exact hb
 obtain ⟨k,hk,hkid⟩:=hasId_at.1 hbq
 obtain ⟨p,hp⟩:∃ p,ps.getD k 0=p:=⟨_,rfl⟩
 have hkey:keyOf Try.prog TN (.int .i64 id)=some (kI id):=Maps.keyOf_int_mk (q:= .i64) (by kernel_rfl) (zaJ hi)
 obtain ⟨vv,pp,hrun,hv⟩:=hown.look_ok keyI (t:=TM) (e:=TP) (by kernel_rfl) (zh2 w) (zd:= .lit (.bool false)) (zp:=[]) rfl hkey
 have hatk:=hat k hk (.lit (.bool false))
 rw [hkid] at hatk
 rw [hatk,hp] at hv
 obtain rfl:=zjf hv
 rw [hhas,hbq] at hrun
 have hD:=hown.tidy keyI
 have c1:w.cell? ⟨b,1,none⟩=some (.map (some mb)):=zag hq.blk 1
 have i2:=zag (hq.it k hk) 2
 rw [hp] at i2
 simp only [itC] at i2
 simp at i2
 have hRm:∀ wx:World,wx.heap=w.heap→Calls Try.prog 52 #[qPtr b,.int .i64 (k:Int)] wx (zhy wx b v (.map (some mb)) ps Q ((rem1 Q k).take (Q.length-1))):=fun wx e=>zjs (hq.kept fun x _=>by rw [e]) hk
 have hRm:=Lib.hid hRm
 have hfin:∀ (w1 w2 w3:World) (v':Value) (ps':List Nat),Turn (QF b v ps) w w1→Turn (QF b v ps) w1 w2→QOk w2 b v' (.map (some mb)) ps' ((rem1 Q k).take (Q.length-1))→(∀ y,y∈ps'→y∈ps) →
   (∀ k',k'<((rem1 Q k).take (Q.length-1)).length→∃ j,j<Q.length∧ps'.getD k' 0=ps.getD j 0∧at' ((rem1 Q k).take (Q.length-1)) k'=at' Q j)→v'.ownBlock=v.ownBlock →
   w3.ownsMap Try.prog TN RP mb Q.length (D.del (kI id))→w2.mapTurned w3 mb→∃ F',CkOk w3 b (zao L id) F'∧(∀ x,F' x→F x∨w.heap.size≤x)∧Turn F w w3:=fun w1 w2 w3 v' ps' a1 a2 a3 a4 a5 a6 a7 a8=>by
  have:=zkh hq hh hF hk hm.blk hsz hhas hat hD a1 a2 a3 a4 a5 a6 (by rw [hkid];exact a7) a8
  rw [hkid] at this;exact this
 have hfin:=Lib.hid hfin
 have hownk:∀ w2:World,Turn (QF b v ps) w w2→w2.ownsMap Try.prog TN RP mb Q.length D:=fun w2 ht=>by
  obtain ⟨es,c,hb2,r⟩:=hown
  exact ⟨es,c,by rw [ht.block mb (Array.getElem?_eq_some_iff.1 hb2).1 (hq.not_map hb2)];exact hb2,r⟩
 have hownk:=Lib.hid hownk
 clear hq hh hm hF hown hhas hat hatk hv hsz h
 unfold ptrV at hrun
 go_enter Try.func46,Try.ntmps46
 go_wp2_with fail
 go_region_with (go_at_call 52;refine Calls.mono (hRm.out w.drew rfl) ?_;rintro e w2 ⟨r,v2,ps2,rfl,hq2,hsub,hpair,ht2,hv2⟩)
 have ht2':Turn (QF b v ps) w.drew w2:=ht2
 have hT:Turn (QF b v ps) w w2:=(Turn.refl _ w).drew.trans ht2'
 have c2:w2.cell? ⟨b,1,none⟩=some (.map (some mb)):=zag hq2.blk 1
 obtain ⟨w3,hdr,hown3,hmt⟩:=(hownk.out w2 hT).drop keyI (t:=TM) (e:=TP) (by kernel_rfl) hkey 0
 have hres:=Lib.hid (hfin.out w.drew w2 w3 v2 ps2 (Turn.refl _ w).drew ht2' hq2 hsub hpair hv2 hown3 hmt)
 clear hq2 hsub hpair ht2 ht2' hv2 hown3 hmt hT
 go_wp2
 go_ret
 exact ⟨rfl,hres.out⟩
def ckM (L:List It):List BE:=[.dead,.dead,.obj (.clock L)]
theorem mck (L:List It) (t:Nat):mOf (ckM L) t=if t<2 then .dead else if t=2 then .obj (.clock L) else .empty:=by
 match t with
 | 0=>rfl
 | 1=>rfl
 | 2=>rfl
 | t+3=>rw [zbW,if_neg (by omega),if_neg (by omega)];simp [ckM,List.getD]
theorem zaL {L:List It} {t:Nat} (h:(mOf (ckM L) t).live=true):t=2:=by
 rw [mck] at h
 by_cases h1:t<2
 ·rw [if_pos h1] at h;cases h
 ·rw [if_neg h1] at h
  by_cases h2:t=2
  ·exact h2
  ·rw [if_neg h2] at h;cases h
theorem ziT {E:Env} {L:List It} {b:Nat} (h:Has E (mOf (ckM L)) 2 b):E.φ 2 b:=by
 obtain ⟨_,v,_,hf⟩:=h
 exact hf
theorem zjc {E:Env} {L:List It} {b:Nat} {v:Value} (hv:E.β 2=some v) (h:E.φ 2 b):Has E (mOf (ckM L)) 2 b:=⟨rfl,v,hv,h⟩
theorem zki {E:Env} {w w':World} {L L':List It} {b:Nat} {F':Nat→Prop} (hm:MemOk w.heap.size (cxIn E (ckM L) 1) w E (mOf (ckM L)) w) (hb:E.β 2=some (.pointer (some ⟨b,0,none⟩))) (hc:CkOk w' b L' F') (hF:∀ x,F' x→E.φ 2 x∨w.heap.size≤x) (ht:Turn (E.φ 2) w w') :
  MemOk w.heap.size (cxIn E (ckM L) 1) w ⟨E.β,E.σ,fun t=>if t=2 then F' else E.φ t⟩ (mOf (ckM L')) w':=by
 have hlab:∀ i x,E.σ i x→x<w.heap.size:=fun i x h=>(hm.lab i x h).1
 have hh:∀ {t x:Nat},Has (⟨E.β,E.σ,fun t=>if t=2 then F' else E.φ t⟩:Env) (mOf (ckM L')) t x→t=2∧F' x:=fun {t x} h=>by
  have e:=zaL h.1
  subst e
  have:=ziT h
  exact ⟨rfl,by simpa using this⟩
 refine ⟨fun t hte=>?_,fun t T vs hte=>?_,fun t T ls r hte=>?_,fun i x h=>⟨Nat.lt_of_lt_of_le (hlab i x h) ht.size,(hm.lab i x h).2⟩,hm.dis,fun i hi=>?_,fun t x h=>?_,hm.old,fun t u x h1 h2=>(hh h1).1.trans (hh h2).1.symm,hm.keep,⟨ht.os,ht.tape,ht.output,ht.size,fun x hx hn=>ht.block x hx fun g=>hn ⟨2,zjc hb g⟩⟩,ht.size,fun t o hte=>?_⟩
 ·have:mOf (ckM L) t = .empty:=by
   rw [mck] at hte ⊢
   by_cases h1:t<2
   ·rw [if_pos h1] at hte;cases hte
   ·rw [if_neg h1] at hte ⊢
    by_cases h2:t=2
    ·rw [if_pos h2] at hte;cases hte
    ·rw [if_neg h2]
  exact hm.empty t this
 ·have:=zaL (L:=L') (t:=t) (by rw [hte];rfl)
  subst this;cases hte
 ·have:=zaL (L:=L') (t:=t) (by rw [hte];rfl)
  subst this;cases hte
 ·have:i=0:=by
   have:i<1:=hi
   omega
  subst this
  rw [mck];simp
 ·obtain ⟨rfl,hx⟩:=hh h
  rcases hF x hx with g | g
  ·exact hm.sep 2 x (zjc hb g)
  ·exact ⟨fun ⟨i,hi⟩=>by have:=hlab i x hi;omega,.inl g⟩
 ·have:=zaL (L:=L') (t:=t) (by rw [hte];rfl)
  subst this
  have e:BE.obj (.clock L') = .obj o:=hte
  cases e
  refine ⟨b,hb,?_⟩
  show CkOk w' b L' (if 2=2 then F' else E.φ 2)
  rw [if_pos rfl];exact hc
theorem FnG.of_ck {f:FuncId} {L L':List It} {rest:List SV} {out:SV} (hB:FnB Try.prog f)
  (h:∀ (w:World) (b:Nat) (F:Nat→Prop) (E:Env) (vals:List Value),CkOk w b L F→DenL E w rest vals→Calls Try.prog f ((.pointer (some ⟨b,0,none⟩)::vals:List Value)).toArray w fun e w'=>∃ v F',e = .returned v∧(∀ E2 w2,DenV E2 w2 out v)∧CkOk w' b L' F'∧(∀ x,F' x→F x∨w.heap.size≤x)∧Turn F w w') :
  FnG Try.prog f 1 (ckM L) (.ptr 2 0::rest) out (ckM L'):=by
 refine ⟨hB,fun w E vals hm hd=>?_⟩
 match vals,hd with
 | v::vals,hd=>
  obtain ⟨b,hb,rfl⟩:=hd.1
  obtain ⟨b',hb',hc⟩:=hm.obj 2 _ rfl
  rw [hb] at hb'
  cases hb'
  refine Calls.mono (h w b (E.φ 2) E vals hc hd.2) ?_
  rintro e w' ⟨v,F',rfl,hv,hc',hF,ht⟩
  exact ⟨v,_,rfl,hv _ _,zki hm hb hc' hF ht⟩
theorem zjZ {E:Env} {w:World} {n:Int} {v:Value} (h:DenV E w (.int .i64 n) v):v = .int .i64 n∧I64 n:=by
 exact ⟨h.1,dInt.okp _ _ _ _ h⟩
theorem zkA {L:List It} (id t:Int) (hn:L.length<1000000):FnG Try.prog 38 1 (ckM L) [.ptr 2 0,.int .i64 id,.int .i64 t] (.int .i64 0) (ckM (setL L id t)):=
 FnG.of_ck (fnB Try.func38 (by decide) rfl) fun w b F E vals hc hd=>by
  match vals,hd with
  | [u,v],hd=>
   obtain ⟨rfl,h1⟩:=zjZ hd.1
   obtain ⟨rfl,h2⟩:=zjZ hd.2.1
   exact Calls.mono (zjn hc h1 h2 hn) fun e w' ⟨he,F',h3,h4,h5⟩=>⟨_,F',he,fun _ _=>⟨rfl,by decide⟩,h3,h4,h5⟩
theorem zit {L:List It} (id:Int):FnG Try.prog 46 1 (ckM L) [.ptr 2 0,.int .i64 id] (.int .i64 (if za4 L id then 0 else 50)) (ckM (zao L id)):=
 FnG.of_ck (fnB Try.func46 (by decide) rfl) fun w b F E vals hc hd=>by
  match vals,hd with
  | [u],hd=>
   obtain ⟨rfl,h1⟩:=zjZ hd.1
   cases hb:za4 L id
   ·exact Calls.mono (zfN hc h1 hb) fun e w' ⟨he,F',h3,h4,h5⟩=>⟨_,F',he,fun _ _=>⟨rfl,by decide⟩,h3,h4,h5⟩
   ·exact Calls.mono (ze0 hc h1 hb) fun e w' ⟨he,F',h3,h4,h5⟩=>⟨_,F',he,fun _ _=>⟨rfl,by decide⟩,h3,h4,h5⟩
theorem clen_fn {L:List It} (hn:L.length≤1000000):FnG Try.prog 88 1 (ckM L) [.ptr 2 0] (.int .i64 L.length) (ckM L):=
 FnG.of_ck (fnB Try.func88 (by decide) rfl) fun w b F E vals hc hd=>by
  match vals,hd with
  | [],hd=>
   exact Calls.mono (zis hc) fun e w' ⟨he,hdr⟩=>⟨_,F,he,fun _ _=>⟨rfl,zaJ ⟨by omega,by omega⟩⟩,hc.kept fun x _=>by rw [hdr.heap],fun x hx=> .inl hx,hdr.turn _⟩
def zf9 (L:List It):Int:=match L with | []=>0 | x::_=>x.1
def zf8 (L:List It):Int:=match L with | []=>0 | x::_=>x.2
def zfA (L:List It):Int:=match L with | []=>50 | _::_=>0
theorem CkOk.i64 {w:World} {b:Nat} {L:List It} {F:Nat→Prop} (h:CkOk w b L F):∀ x∈L,I64 x.1∧I64 x.2:=by
 obtain ⟨v,mb,ps,Q,hq,hh,_⟩:=h.q
 exact fun x hx=>hq.i64 x (hh.perm.mem_iff.2 hx)
theorem zj4 {L:List It}:FnG Try.prog 45 1 (ckM L) [.ptr 2 0] (.tup [.int .i64 (zf9 L),.int .i64 (zf8 L),.int .i64 (zfA L)]) (ckM L):=
 FnG.of_ck (fnB Try.func45 (by decide) rfl) fun w b F E vals hc hd=>by
  match vals,hd with
  | [],hd=>
   refine Calls.mono (zhR hc) fun e w' ⟨he,hdr⟩=>⟨_,F,he,fun _ _=>?_,hc.kept fun x _=>by rw [hdr.heap],fun x hx=> .inl hx,hdr.turn _⟩
   cases L with
   | nil=>exact ⟨_,rfl,⟨rfl,by decide⟩,⟨rfl,by decide⟩,⟨rfl,by decide⟩,trivial⟩
   | cons x L=>
    have:=hc.i64 x (List.mem_cons_self ..)
    exact ⟨_,rfl,⟨rfl,zaJ this.1⟩,⟨rfl,zaJ this.2⟩,⟨rfl,by show (Lit.int .i64 0).wf=true;decide⟩,trivial⟩
def dCk:Dec (List It) where
 dec:=fun s=>match s with | .ro _ (.clock L)=>some L | _=>none
 can:=fun L=> .ro [0] (.clock L)
 Okp:=fun _=>True
 okp:=fun _ _ _ _ _=>trivial
 ok:=by
  intro s x h E w v hz hd
  split at h
  ·simp only [Option.some.injEq] at h;subst h
   obtain ⟨b,F,h1,h2,h3⟩:=hd
   exact ⟨b,F,h1,h2,fun y hy=>by
    obtain ⟨i,_,hs⟩:=h3 y hy
    exact ⟨0,by simp,(hz i y hs)▸hs⟩⟩
  ·simp at h
theorem new_fn:FnC Try.prog 37 [] (.ptr 2 0) (ckM []):=by
 refine ⟨fnB Try.func37 (by decide) rfl,fun w E vals hm hd=>?_⟩
 match vals,hd with
 | [],hd=>
  refine Calls.mono (zj5 w) ?_
  rintro e w' ⟨b,rfl,hb,hc,hB⟩
  have hlab:∀ i x,E.σ i x→x<w.heap.size:=fun i x h=>(hm.lab i x h).1
  have hF:∀ x,(x=b∨x=w.heap.size)→w.heap.size≤x:=fun x hx=>by omega
  refine ⟨_,⟨fun t=>if t=2 then some (.pointer (some ⟨b,0,none⟩)) else E.β t,E.σ,fun t=>if t=2 then (fun x=>x=b∨x=w.heap.size) else E.φ t⟩,rfl,⟨b,rfl,rfl⟩,?_⟩
  have hno:∀ {E:Env} {t x:Nat},¬ Has E (mOf D2) t x:=fun h=>zfS h
  have hh:∀ {t x:Nat},Has (⟨fun t=>if t=2 then some (.pointer (some ⟨b,0,none⟩)) else E.β t,E.σ,fun t=>if t=2 then (fun x=>x=b∨x=w.heap.size) else E.φ t⟩:Env) (mOf (ckM [])) t x→t=2∧(x=b∨x=w.heap.size):=fun {t x} h=>by
   have e:=zaL h.1
   subst e
   have:=ziT h
   exact ⟨rfl,by simpa using this⟩
  refine ⟨fun t hte=>?_,fun t T vs hte=>?_,fun t T ls r hte=>?_,fun i x h=>⟨Nat.lt_of_lt_of_le (hlab i x h) hB.size,(hm.lab i x h).2⟩,hm.dis,fun i hi=>?_,fun t x h=>?_,hm.old,fun t u x h1 h2=>(hh h1).1.trans (hh h2).1.symm,fun t v hk=>?_,⟨hB.os,hB.tape,hB.output,hB.size,fun x hx _=>hB.block x hx⟩,hB.size,fun t o hte=>?_⟩
  ·have h3:¬ t=2:=fun e=>by subst e;cases hte
   have:mOf D2 t = .empty:=by
    rw [mck] at hte
    by_cases h1:t<2
    ·rw [if_pos h1] at hte;cases hte
    ·rw [mD2,if_neg h1]
   have h4:=hm.empty t this
   exact ⟨by show (if t=2 then _ else E.β t)=none;rw [if_neg h3];exact h4.1,h4.2⟩
  ·have:=zaL (L:=[]) (t:=t) (by rw [hte];rfl)
   subst this;cases hte
  ·have:=zaL (L:=[]) (t:=t) (by rw [hte];rfl)
   subst this;cases hte
  ·have:i=0:=by
    have:i<1:=hi
    omega
   subst this
   rw [mck];simp
  ·obtain ⟨rfl,hx⟩:=hh h
   have:=hF x hx
   exact ⟨fun ⟨i,hi⟩=>by have:=hlab i x hi;omega,.inl this⟩
  ·have hk2:=hm.keep t v hk
   have hk:(if t<2 then E.β t else none)=some v:=hk
   have h3:¬ t=2:=fun e=>by subst e;simp at hk
   show (if t=2 then _ else E.β t)=some v
   rw [if_neg h3];exact hk2
  ·have:=zaL (L:=[]) (t:=t) (by rw [hte];rfl)
   subst this
   have e:BE.obj (.clock []) = .obj o:=hte
   cases e
   refine ⟨b,by simp,?_⟩
   show CkOk w' b [] (if 2=2 then (fun x=>x=b∨x=w.heap.size) else E.φ 2)
   rw [if_pos rfl];exact hc
def zeU:Mem (List It):=⟨ckM,fun m=>match m with | [.dead,.dead,.obj (.clock L)]=>some L | _=>none,fun m x h=>by
 split at h
 ·simp only [Option.some.injEq] at h;subst h;rfl
 ·cases h⟩
noncomputable def eNew:Ent:=ent0 37 ([],.ptr 2 0,ckM [])
theorem zjT:zak Try.prog eNew:=zcE new_fn.1 fun _=>new_fn
noncomputable def eSet:Ent:=zkV 38 zeU dInt dInt [] [] fun L i t=>([L.length<1000000],.int .i64 0,ckM (setL L i t))
theorem zjP:zak Try.prog eSet:=zij (fnB Try.func38 (by decide) rfl) fun L i t h=>zkA i t (h _ (by simp))
noncomputable def zja:Ent:=zjL 46 zeU dInt [] [] fun L i=>([],.int .i64 (if za4 L i then 0 else 50),ckM (zao L i))
theorem zhf:zak Try.prog zja:=zfd (fnB Try.func46 (by decide) rfl) fun L i h=>zit i
noncomputable def zkZ:Ent:=zkW 45 zeU [] [] fun L=>([],.tup [.int .i64 (zf9 L),.int .i64 (zf8 L),.int .i64 (zfA L)],ckM L)
theorem zim:zak Try.prog zkZ:=zik (fnB Try.func45 (by decide) rfl) fun L h=>zj4
end Go.Proofs.Ytjfphnegcelbpaa
namespace Go.Proofs.Ytjfphnegcelbpaa
open Go.RowKit Go.ChangeShapes Go.WideShapes Go.Deep Hp
set_option maxRecDepth 100000
def dueP (now:Int) (x:It):Bool:=decide (x.2≤now)
def dueL (L:List It) (now:Int):List Int:=(L.takeWhile (dueP now)).map (·.1)
def zjq (L:List It) (now:Int):List It:=L.dropWhile (dueP now)
def dueM (L:List It) (now:Int):List BE:=[.dead,.dead,.obj (.clock (zjq L now)),.row 3 [] (.rInts (dueL L now))]
noncomputable def tabDu:List Ent:=[zkZ,zja]
theorem zeK:∀ e∈tabDu,zak Try.prog e:=zae zim (zae zhf zap)
theorem zhi {x:It} {L:List It} (h:Ids (x::L)):zao (x::L) x.1=L:=by
 rw [zcf rfl,zbO fun y hy=>Ne.symm ((List.pairwise_cons.1 h).1 y hy)]
theorem zb0 {L:List It} {now:Int}:∀ {j:Nat},j≤L.length→(∀ k,k<j→dueP now (at' L k)=true)→(j=L.length∨dueP now (at' L j)=false)→L.takeWhile (dueP now)=L.take j∧L.dropWhile (dueP now)=L.drop j:=by
  induction L with
  | nil => intro j hj _ _; have : j = 0 := by simpa using hj
           subst this;exact ⟨rfl,rfl⟩
  | cons x L ih=>
    intro j hj h h2
    cases j with
    | zero=>
      have:dueP now x=false:=h2.resolve_left (by simp)
      simp [List.takeWhile_cons,List.dropWhile_cons,this]
    | succ j=>
      have h0:dueP now x=true:=h 0 (Nat.succ_pos _)
      have:=ih (j:=j) (by simpa using hj) (fun k hk=>h (k+1) (by omega)) (by
        rcases h2 with e | e
        · exact .inl (by simpa using e)
        · exact .inr e)
      simp [List.takeWhile_cons,List.dropWhile_cons,h0,this.1,this.2]
theorem zie {L:List It} (h:Ids L) (j:Nat):Ids (L.drop j):=List.Pairwise.sublist (List.drop_sublist j L) h
theorem zjY {L:List It} {j:Nat} (h:j<L.length):L.drop j=at' L j::L.drop (j+1):=by
 unfold at'
 rw [List.getD_eq_getElem?_getD,List.getElem?_eq_getElem h]
 exact List.drop_eq_getElem_cons h
theorem zld (L:List It) (now:Int) (hI:Ids L) (hl:L.length≤1000000):FnG Try.prog 39 1 (ckM L) [.ptr 2 0,.int .i64 now] (.own 3) (dueM L now):=by
 refine FnG.of_vc (zaz zeK fun _=>none) Try.func39 rfl (by decide) rfl 300 (p:=fun (V:List PE→Prop)=>True∧True∧V []) (by kernel_rfl) ?_
 refine ⟨trivial,trivial,?_⟩
 refine LoopG.head (zaz zeK fun _=>none) 0 (A:=Nat) (fun j=>j≤L.length∧∀ k,k<j→dueP now (at' L k)=true) (fun j=>[(5,.own 901)]) (fun j=>[(901,.row 3 [] (.rInts ((L.take j).map (·.1)))),(2,.obj (.clock (L.drop j)))]) (fun j=>L.length-j) 0 ⟨Nat.zero_le _,fun k hk=>absurd hk (Nat.not_lt_zero _)⟩ (p0:=now=now∧List.map (fun (x:It)=>Prod.fst x) (List.take (0:Nat) L)=[]∧L=List.drop (0:Nat) L∧True) (by kernel_rfl) ?_ 300 (p:=fun (x:Nat) (V:List PE→Prop)=>let v0:=List.drop x L;let v1:=zf8 v0;let v2:=List.map (fun (x:It)=>Prod.fst x) (List.take x L);let v3:=zfA v0 != 0;let v4:=zab v3 true (decide (v1>now));True∧(((!v3)=true→(!v3)=true)∧((!v3)=true→(!v3)=true)∧(v3=false→(!v3)=true)∧True)∧True∧(v4=true→True∧v0=zjq L now∧v2=dueL L now∧True)∧(v4=false→((v2.length+List.length [zf9 v0])*(1024:Nat)≤140737488355328∧True)∧True∧V [PE.b])) (by intro x;kernel_rfl) ?_
 ·exact ⟨rfl,rfl,rfl,trivial⟩
 rintro j ⟨hj,hd⟩
 have hcase:(zab (zfA (L.drop j) != 0) true (decide (zf8 (L.drop j)>now))=true→L.drop j=zjq L now∧(L.take j).map (·.1)=dueL L now) ∧
   (zab (zfA (L.drop j) != 0) true (decide (zf8 (L.drop j)>now))=false→j<L.length∧dueP now (at' L j)=true∧L.drop j=at' L j::L.drop (j+1)):=by
  by_cases hlt:j<L.length
  ·have e:=zjY hlt
   rw [e]
   have e2:zab (zfA (at' L j::L.drop (j+1)) != 0) true (decide (zf8 (at' L j::L.drop (j+1))>now))=decide ((at' L j).2>now):=by rw [zaG];rfl
   rw [e2]
   refine ⟨fun h=>?_,fun h=>⟨hlt,?_,rfl⟩⟩
   ·have h:=of_decide_eq_true h
    have:=zb0 hj hd (.inr (by unfold dueP;exact decide_eq_false (by omega)))
    rw [← e]
    exact ⟨this.2.symm,by unfold dueL;rw [this.1]⟩
   ·have h:=of_decide_eq_false h
    unfold dueP;exact decide_eq_true (by omega)
  ·have ej:j=L.length:=by omega
   have:=zb0 hj hd (.inl ej)
   refine ⟨fun _=>⟨this.2.symm,by unfold dueL;rw [this.1]⟩,fun h=>?_⟩
   subst ej
   rw [List.drop_length] at h
   rw [zaG] at h;cases h
 intros
 refine ⟨trivial,⟨fun h=>h,fun h=>h,fun h=>by rw [h];rfl,trivial⟩,trivial,fun h=>⟨trivial,(hcase.1 h).1,(hcase.1 h).2,trivial⟩,fun h=>⟨⟨?_,trivial⟩,trivial,?_⟩⟩
 ·have hlt:((L.take j).map (·.1)).length≤L.length:=by rw [List.length_map,List.length_take];omega
  show (((L.take j).map (·.1)).length+1)*1024≤_
  omega
 ·obtain ⟨h1,h2,h3⟩:=hcase.2 h
  refine Back.mk (j+1) ⟨by omega,fun k hk=>by
   by_cases e:k=j
   ·subst e;exact h2
   ·exact hd k (by omega)⟩ (by omega) (p0:=let v0:=zf9 (List.drop j L);now=now∧List.map (fun (x:It)=>Prod.fst x) (List.take j L)++[v0]=List.map (fun (x:It)=>Prod.fst x) (List.take (j+(1:Nat)) L)∧zao (List.drop j L) v0=List.drop (j+(1:Nat)) L∧True) (by kernel_rfl) ?_
  have e1:L.take (j+1)=L.take j++[at' L j]:=zcw h1
  have e2:(L.take (j+1)).map (·.1)=(L.take j).map (·.1)++[zf9 (L.drop j)]:=by rw [e1,List.map_append,h3];rfl
  have e3:zao (L.drop j) (zf9 (L.drop j))=L.drop (j+1):=by
   have hI2:=zie hI j
   rw [h3] at hI2 ⊢
   exact zhi hI2
  exact ⟨rfl,e2.symm,e3,trivial⟩
noncomputable def eDue:Ent:=zjL 39 zeU dInt [] [] fun L now=>([Ids L,L.length≤1000000],.own 3,dueM L now)
theorem zjW:zak Try.prog eDue:=zfd (fnB Try.func39 (by decide) rfl) fun L now h=>zld L now (h _ (by simp)) (h _ (by simp))
def rowM (l:List Int):List BE:=[.dead,.dead,.row 3 [0] (.rInts l)]
def zaC (p:Int→Bool):List Int→Int
 | []=> -1
 | x::l=>if p x then 0 else (if zaC p l = -1 then -1 else zaC p l+1)
theorem zcX {p:Int→Bool}:∀ {l:List Int} {j:Nat},j<l.length→(∀ i,i<j→p (l.getD i 0)=false)→p (l.getD j 0)=true→zaC p l=j
 | x::l,0,_,_,h=>by simp only [List.getD_cons_zero] at h;simp [zaC,h]
 | x::l,j+1,hj,h0,h=>by
  have hx:=h0 0 (by omega)
  simp only [List.getD_cons_zero] at hx
  have:=zcX (l:=l) (j:=j) (by simpa using hj) (fun i hi=>by simpa using h0 (i+1) (by omega)) (by simpa using h)
  simp only [zaC,hx,this]
  split
  ·simp at *
  ·split<;>omega
theorem zcB {p:Int→Bool}:∀ {l:List Int},(∀ i,i<l.length→p (l.getD i 0)=false)→zaC p l = -1
 | [],_=>rfl
 | x::l,h=>by
  have hx:=h 0 (by simp)
  simp only [List.getD_cons_zero] at hx
  have:=zcB (l:=l) (fun i hi=>by simpa using h (i+1) (by simpa using hi))
  simp [zaC,hx,this]
theorem zcY {p:Int→Bool}:∀ (l:List Int),(0≤zaC p l↔l.any p=true) ∧ -1≤zaC p l
 | []=>by simp [zaC]
 | x::l=>by
  obtain ⟨h1,h2⟩:=zcY (p:=p) l
  simp only [zaC,List.any_cons,Bool.or_eq_true,← h1]
  split
  ·rename_i hx;simp [hx]
  ·rename_i hx
   split
   ·rename_i h;simp [h,hx]
   ·rename_i h;simp only [hx,false_or];omega
theorem zgT {p:Int→Bool} (l:List Int):decide (zaC p l≥0)=l.any p:=by rw [Bool.eq_iff_iff,decide_eq_true_eq];exact (zcY l).1
theorem zfR {k:Int} (hk:k=0∨k=1) (w:World):Calls Try.prog 63 #[.int .u64 k] w fun e w'=>e = .returned (.int .i64 k)∧w'=w:=by
 rcases hk with rfl | rfl
 all_goals
  go_enter Try.func63,Try.ntmps63
  go_wp2_with fail
  go_ret
  exact ⟨by kernel_rfl,rfl⟩
theorem ziF {k:Int} (hk:k=0∨k=1) (w:World):Calls Try.prog 48 #[.int .u64 k] w fun e w'=>e = .returned (.int .i64 k)∧w'=w:=by
 have h:=zfR hk w
 go_enter Try.func48,Try.ntmps48
 go_wp2_with fail
 go_at_call 63
 refine h.mono ?_
 rintro e w' ⟨rfl,rfl⟩
 go_wp2_with fail
 go_ret
 exact ⟨rfl,rfl⟩
theorem zjE (l:List Int) (hl:l.length≤1):FnG Try.prog 53 1 (rowM l) [.own 2,.int .i64 0,.int .i64 l.length] (.tup []) (rowM l):=by
 refine FnG.of_vc (zaz zap fun _=>none) Try.func53 rfl (by decide) rfl 300 (p:=fun (V:List PE→Prop)=>True∧V []) (by kernel_rfl) ?_
 refine ⟨trivial,?_⟩
 refine LoopG.head (zaz zap fun _=>none) 0 (A:=Unit) (fun _=>True) (fun _=>[(6,.int .i64 1)]) (fun _=>[]) (fun _=>0) () trivial (p0:=let v0:=(↑(l.length):Int);IntKind.wrap IntKind.i64 ((0:Int)+(1:Int))=1∧(0:Int)=0∧v0=v0∧l=l∧True) (by kernel_rfl) ?_ 300 (p:=fun (z:Unit) (V:List PE→Prop)=>let v0:=(↑(l.length):Int);let v1:=decide ((1:Int)<v0);True∧True∧(v1=true→True∧V [PE.a])∧(v1=false→l=l∧True)) (by intro z;kernel_rfl) ?_
 ·intro v0
  exact ⟨rfl,rfl,rfl,rfl,trivial⟩
 rintro _ _
 simp only [imp_self,implies_true,true_and,and_true]
 intro h
 have:(1:Int)<(l.length:Int):=of_decide_eq_true h
 omega
theorem zeX (l:List Int) (x:Int):FnC Try.prog 49 [dInts.can l,dInt.can x] (.int .i64 (zaC (fun y=>x==y) l)) D2:=by
 refine FnC.g2 dInts dInt l x (fnB Try.func49 (by decide) rfl) fun hl _=>?_
 refine FnG.of_vc (zaz zap fun _=>none) Try.func49 rfl (by decide) rfl 300 (p:=fun (V:List PE→Prop)=>True∧True∧V []) (by kernel_rfl) ?_
 simp only [true_and,and_true]
 refine LoopG.head (zaz zap fun _=>none) 0 (A:=Nat) (fun j=>j≤l.length∧∀ i,i<j→(x==l.getD i 0)=false) (fun j=>[(8,.int .i64 j)]) (fun _=>[]) (fun j=>l.length-j) 0 ⟨Nat.zero_le _,fun i h=>absurd h (by omega)⟩ (p0:=let v0:=(↑(l.length):Int);(0:Int)=(↑(0:Nat):Int)∧v0=v0∧l=l∧x=x∧True) (by kernel_rfl) ?_ 300 (p:=fun (z:Nat) (V:List PE→Prop)=>let v0:=(↑z:Int);let v1:=(↑(l.length):Int);let v2:=zaC (fun (y:Int)=>x==y) l;let v3:=x==List.getD l z (0:Int);let v4:=decide (v0<v1);True∧True∧(v4=true→True∧((0:Int)≤v0∧v0<v1∧True)∧True∧(v3=true→True∧v0=v2∧True)∧(v3=false→True∧V [PE.a,PE.b]))∧(v4=false→True∧(-1:Int)=v2∧True)) (by intro z;kernel_rfl) ?_
 ·simp
 ·rintro j ⟨hj,h0⟩
  have hl44:=hl.1
  simp only [true_and,and_true,decide_eq_true_eq,decide_eq_false_iff_not]
  refine ⟨fun h1=>⟨by omega,fun h2=>?_,fun h2=>?_⟩,fun h1=>?_⟩
  ·exact (zcX (p:=fun y=>x==y) (by omega) h0 h2).symm
  ·refine Back.mk (j+1) ⟨by omega,fun i hi=>?_⟩ (by omega) (p0:=let v0:=(↑(l.length):Int);IntKind.wrap IntKind.i64 ((↑j:Int)+(1:Int))=(↑(j+(1:Nat)):Int)∧v0=v0∧l=l∧x=x∧True) (by kernel_rfl) ?_
   ·by_cases h:i=j
    ·subst h;exact h2
    ·exact h0 i (by omega)
   ·simp [zby (i:=j) (by omega)]
  ·exact (zcB (p:=fun y=>x==y) fun i hi=>h0 i (by omega)).symm
noncomputable def eIdx:Ent:=ent2 49 dInts dInt fun l x=>([],.int .i64 (zaC (fun y=>x==y) l),D2)
theorem zjV:zak Try.prog eIdx:=zcD (zeX [] 0).1 fun l x _=>zeX l x
noncomputable def tabLe:List Ent:=[eIdx]
theorem zhB:∀ e∈tabLe,zak Try.prog e:=zae zjV zap
theorem zcI (l:List Int) (x:Int):FnC Try.prog 41 [dInts.can l,dInt.can x] (.bool (l.any fun y=>x==y)) D2:=by
 refine FnG.of_vc (zaz zhB fun _=>none) Try.func41 rfl (by decide) rfl 300 (p:=fun (V:List PE→Prop)=>let v0:=zaC (fun (y:Int)=>x==y) l;True∧True∧(decide (v0≥0)=List.any l fun (y:Int)=>x==y)∧True) (by kernel_rfl) ?_
 simp only [imp_self,implies_true,true_and,and_true]
 exact zgT l
noncomputable def zla:Ent:=ent2 41 dInts dInt fun l x=>([],.bool (l.any fun y=>x==y),D2)
theorem zin:zak Try.prog zla:=zcD (zcI [] 0).1 fun l x _=>zcI l x
def mRow:Mem (List Int):=⟨rowM,fun m=>match m with | [.dead,.dead,.row T [0] (.rInts l)]=>if T=3 then some l else none | _=>none,fun m x h=>by
 split at h
 ·split at h
  ·rename_i e;subst e;simp only [Option.some.injEq] at h;subst h;rfl
  ·cases h
 ·cases h⟩
def zjH (r:List Int→List SV→Option R3) (ins:List SV) (mi:List BE):Option R3:=match mRow.dec mi,ins with
 | some l,.own 2::rest=>r l rest
 | _,_=>none
def zfc (f:FuncId) (k:Nat) (r:List Int→List SV→Option R3):Ent:=⟨f,true,List.replicate (k+1) 0,[0],1,[],zjH r⟩
theorem zcC {f:FuncId} {k:Nat} {r:List Int→List SV→Option R3} (hB:FnB Try.prog f) (h:∀ l rest n out mo,r l rest=some (n,out,mo)→(∀ p∈n,p)→FnG Try.prog f 1 (rowM l) (.own 2::rest) out mo):zak Try.prog (zfc f k r):=by
 refine ⟨hB,fun ins mi n out mo hg hn=>?_⟩
 change zjH r ins mi=some (n,out,mo) at hg
 unfold zjH at hg
 split at hg
 case h_2=>simp at hg
 rename_i l rest e
 have e:=mRow.ok _ _ e
 subst e
 exact h l rest n out mo hg hn
noncomputable def eIns:Ent:=zfc 53 2 fun l rest=>match rest with
 | [.int .i64 a,.int .i64 b]=>some ([a=0,b=l.length,l.length≤1],.tup [],rowM l)
 | _=>none
theorem zjU:zak Try.prog eIns:=zcC (fnB Try.func53 (by decide) rfl) fun l rest n out mo h hn=>by
 split at h
 ·rename_i a b
  simp only [Option.some.injEq,Prod.mk.injEq] at h
  obtain ⟨rfl,rfl,rfl⟩:=h
  have h1:a=0:=hn _ (by simp)
  have h2:b=(l.length:Int):=hn _ (by simp)
  subst h1;subst h2
  exact zjE l (hn _ (by simp))
 ·cases h
noncomputable def tabLf:List Ent:=[eIns]
theorem zeG:∀ e∈tabLf,zak Try.prog e:=zae zjU zap
theorem zjw (l:List Int) (lim:Int) (hl:l.length≤1):FnG Try.prog 47 1 (rowM l) [.own 2,.int .i64 0,.int .i64 l.length,.int .i64 lim] (.tup []) (rowM l):=by
 refine FnG.of_vc (zaz zeG fun _=>none) Try.func47 rfl (by decide) rfl 300 (p:=fun (V:List PE→Prop)=>True∧True∧V []) (by kernel_rfl) ?_
 refine ⟨trivial,trivial,?_⟩
 refine LoopG.head (zaz zeG fun _=>none) 0 (A:=Unit) (fun _=>True) (fun _=>[(9,.bool true),(8,.bool true),(1,.int .i64 0),(2,.int .i64 l.length),(3,.int .i64 lim)]) (fun _=>[(2,.row 3 [0] (.rInts l))]) (fun _=>0) () trivial (p0:=let v0:=(↑(l.length):Int);true=true∧true=true∧(0:Int)=0∧v0=v0∧lim=lim∧l=l∧True) (by kernel_rfl) ?_ 300 (p:=fun (z:Unit) (V:List PE→Prop)=>let v0:=(0:Int);let v1:=(↑(l.length):Int);let v2:=IntKind.wrap IntKind.i64 (v1-v0);let v3:=decide (v2≤12);True∧True∧True∧(v3=true→(v0=v0∧v1=v1∧l.length≤1∧True)∧l=l∧True)∧(v3=false→True∧True∧((lim==v0)=true→False)∧((lim==v0)=false→True∧True∧((!true)=true→False)∧((!true)=false→False)))) (by intro z;kernel_rfl) ?_
 ·intro v0
  exact ⟨rfl,rfl,rfl,rfl,rfl,rfl,trivial⟩
 rintro _ _
 have e:IntKind.i64.wrap ((l.length:Int)-0)=(l.length:Int):=(zbt ⟨by omega,by omega⟩).trans (by omega)
 have d:decide ((l.length:Int)≤12)=true:=decide_eq_true (by omega)
 simp only [e,d,reduceCtorEq,false_implies,imp_self,implies_true,true_and,and_true,true_implies]
 exact hl
noncomputable def ePdq:Ent:=zfc 47 3 fun l rest=>match rest with
 | [.int .i64 a,.int .i64 b,.int .i64 c]=>some ([a=0,b=l.length,l.length≤1],.tup [],rowM l)
 | _=>none
theorem zjR:zak Try.prog ePdq:=zcC (fnB Try.func47 (by decide) rfl) fun l rest n out mo h hn=>by
 split at h
 ·rename_i a b c
  simp only [Option.some.injEq,Prod.mk.injEq] at h
  obtain ⟨rfl,rfl,rfl⟩:=h
  have h1:a=0:=hn _ (by simp)
  have h2:b=(l.length:Int):=hn _ (by simp)
  subst h1;subst h2
  exact zjw l c (hn _ (by simp))
 ·cases h
def dU:Dec Int where
 dec:=fun s=>match s with | .int .u64 n=>some n | _=>none
 can:=fun n=> .int .u64 n
 Okp:=fun _=>True
 okp:=fun _ _ _ _ _=>trivial
 ok:=by
  intro s x h E w v hz hd
  split at h
  ·simp only [Option.some.injEq] at h;subst h;exact hd
  ·cases h
theorem zk0 {k:Int} (hk:k=0∨k=1):FnC Try.prog 48 [dU.can k] (.int .i64 k) D2:=
 FnC.of_int (fnB Try.func48 (by decide) rfl) fun w E vals hd=>by
  obtain ⟨v,rfl,h1⟩:=zgw hd
  obtain ⟨rfl,_⟩:=h1
  refine ⟨?_,(ziF hk w).mono ?_⟩
  ·rcases hk with rfl | rfl<;>decide
  ·rintro e w' ⟨rfl,rfl⟩
   exact ⟨rfl,Below.refl _ _⟩
noncomputable def zlb:Ent:=ent1 48 dU fun k=>([k=0∨k=1],.int .i64 k,D2)
theorem zio:zak Try.prog zlb:=zaT (fnB Try.func48 (by decide) rfl) fun k h=>zk0 (h _ (by simp))
noncomputable def tabLg:List Ent:=[ePdq,zlb]
theorem zhA:∀ e∈tabLg,zak Try.prog e:=zae zjR (zae zio zap)
theorem zhE (l:List Int) (hl:l.length≤1):FnG Try.prog 40 1 (rowM l) [.own 2] (.tup []) (rowM l):=by
 refine FnG.of_vc (zaz zhA fun _=>none) Try.func40 rfl (by decide) rfl 300 (p:=fun (V:List PE→Prop)=>let v0:=(↑(l.length):Int);let v1:=IntKind.wrap IntKind.u64 v0;True∧((v1=0∨v1=1)∧(0:Int)=0∧v0=v0∧l.length≤1∧True)∧l=l∧True) (by kernel_rfl) ?_
 have e:IntKind.u64.wrap (l.length:Int)=0∨IntKind.u64.wrap (l.length:Int)=1:=by
  match l,hl with
  | [],_=>exact .inl (by decide)
  | [x],_=>exact .inr (by show IntKind.u64.wrap 1=1;decide)
  | _::_::_,h=>simp at h
 intros
 exact ⟨trivial,⟨e,rfl,rfl,hl,trivial⟩,rfl,trivial⟩
noncomputable def ziX:Ent:=zfc 40 0 fun l rest=>match rest with
 | []=>some ([l.length≤1],.tup [],rowM l)
 | _=>none
theorem zgZ:zak Try.prog ziX:=zcC (fnB Try.func40 (by decide) rfl) fun l rest n out mo h hn=>by
 split at h
 ·simp only [Option.some.injEq,Prod.mk.injEq] at h
  obtain ⟨rfl,rfl,rfl⟩:=h
  exact zhE l (hn _ (by simp))
 ·cases h
theorem zhY (a b:List Int) (ha:a.length≤1000000):FnC Try.prog 35 [dInts.can a,dInts.can b] (.bool (decide (a=b))) D2:=by
 refine FnG.of_vc (zaz zap fun _=>none) Try.func35 rfl (by decide) rfl 300 (p:=fun (V:List PE→Prop)=>let v0:=(↑(a.length):Int) != (↑(b.length):Int);True∧True∧True∧(v0=true→True∧false=decide (a=b)∧True)∧(v0=false→True∧V [PE.b])) (by kernel_rfl) ?_
 simp only [imp_self,implies_true,true_and,and_true,zaM,zaG]
 refine ⟨fun h=>?_,fun h=>?_⟩
 ·have:a≠b:=fun e=>by subst e;simp at h
  rw [decide_eq_false this]
 have hl:a.length=b.length:=by
  have h:((a.length:Int) != (b.length:Int))=false:=h
  simp at h;omega
 refine LoopG.head (zaz zap fun _=>none) 0 (A:=Nat) (fun j=>j≤a.length∧∀ i,i<j→a.getD i 0=b.getD i 0) (fun j=>[(5,.int .i64 j)]) (fun j=>[]) (fun j=>a.length-j) 0 ⟨Nat.zero_le _,fun i h=>absurd h (Nat.not_lt_zero _)⟩ (p0:=(0:Int)=(↑(0:Nat):Int)∧a=a∧b=b∧True) (by kernel_rfl) ?_ 300 (p:=fun (x:Nat) (V:List PE→Prop)=>let v0:=(↑x:Int);let v1:=(↑(a.length):Int);let v2:=List.getD a x (0:Int) != List.getD b x (0:Int);let v3:=decide (v0<v1);True∧True∧(v3=true→((0:Int)≤v0∧v0<v1∧(0:Int)≤v0∧v0<(↑(b.length):Int)∧True)∧True∧(v2=true→True∧false=decide (a=b)∧True)∧(v2=false→True∧V [PE.a,PE.b]))∧(v3=false→True∧true=decide (a=b)∧True)) (by intro x;kernel_rfl) ?_
 ·simp
 rintro j ⟨hj,he⟩
 simp only [imp_self,implies_true,true_and,and_true,zaM,zaG]
 refine ⟨fun h=>?_,fun h=>?_⟩
 ·have h:(j:Int)<(a.length:Int):=of_decide_eq_true h
  refine ⟨⟨Int.natCast_nonneg _,h,by omega⟩,fun h2=>?_,fun h2=>?_⟩
  ·have h2:(a.getD j 0 != b.getD j 0)=true:=h2
   have:a≠b:=fun e=>by subst e;simp at h2
   rw [decide_eq_false this]
  ·have h2:(a.getD j 0 != b.getD j 0)=false:=h2
   have h2:a.getD j 0=b.getD j 0:=by simpa using h2
   refine Back.mk (j+1) ⟨by omega,fun i hi=>?_⟩ (by omega) (p0:=IntKind.wrap IntKind.i64 ((↑j:Int)+(1:Int))=(↑(j+(1:Nat)):Int)∧a=a∧b=b∧True) (by kernel_rfl) ?_
   ·by_cases e:i=j
    ·subst e;exact h2
    ·exact he i (by omega)
   ·simp [zby (i:=j) (by omega)]
 ·have hj2:j=a.length:=by have:=of_decide_eq_false h;omega
  have:a=b:=by
   refine List.ext_getElem? fun i=>?_
   by_cases hi:i<a.length
   ·have:=he i (by omega)
    rw [List.getD_eq_getElem?_getD,List.getD_eq_getElem?_getD,List.getElem?_eq_getElem hi,List.getElem?_eq_getElem (by omega)] at this
    rw [List.getElem?_eq_getElem hi,List.getElem?_eq_getElem (by omega)]
    exact congrArg some this
   ·rw [List.getElem?_eq_none (by omega),List.getElem?_eq_none (by omega)]
  rw [decide_eq_true this]
noncomputable def ziZ:Ent:=ent2 35 dInts dInts fun a b=>([a.length≤1000000],.bool (decide (a=b)),D2)
theorem zhc:zak Try.prog ziZ:=zcD (fnB Try.func35 (by decide) rfl) fun a b h=>zhY a b (h _ (by simp))
def zgA (l:List Int):Nat→Int
 | 0=>0
 | j+1=>l.getD j 0
theorem zgn (l:List Int) (hl:l.length≤1) (hp:∀ x∈l,0<x):FnC Try.prog 36 [dInts.can l] (.bool true) D2:=by
 refine FnG.of_vc (zaz zap fun _=>none) Try.func36 rfl (by decide) rfl 300 (p:=fun (V:List PE→Prop)=>True∧True∧True∧V []) (by kernel_rfl) ?_
 simp only [true_and,and_true]
 refine LoopG.head (zaz zap fun _=>none) 0 (A:=Nat) (fun j=>j≤l.length) (fun j=>[(8,.int .i64 j),(3,.int .i64 (zgA l j)),(2,.bool false)]) (fun j=>[]) (fun j=>l.length-j) 0 (Nat.zero_le _) (p0:=let v0:=(↑(l.length):Int);(0:Int)=(↑(0:Nat):Int)∧(0:Int)=zgA l (0:Nat)∧false=false∧v0=v0∧l=l∧l=l∧True) (by kernel_rfl) ?_ 300 (p:=fun (y:Nat) (V:List PE→Prop)=>let v0:=(↑y:Int);let v1:=(↑(l.length):Int);let v2:=List.getD l y (0:Int);let v3:=decide (v0<v1);let v4:=decide (v2≤zgA l y);True∧True∧(v3=true→((0:Int)≤v0∧v0<v1∧True)∧True∧True∧(v4=true→True∧false=true∧True)∧(v4=false→True∧True∧V [PE.a,PE.b]))∧(v3=false→True∧decide (v1≤100)=true∧True)) (by intro y;kernel_rfl) ?_
 ·intros
  exact ⟨rfl,rfl,rfl,rfl,rfl,rfl,trivial⟩
 rintro j hj
 simp only [imp_self,implies_true,true_and,and_true]
 refine ⟨fun h=>?_,fun h=>decide_eq_true (by omega)⟩
 have hj':j<l.length:=by
  have:(j:Int)<(l.length:Int):=of_decide_eq_true h
  omega
 have e0:j=0:=by omega
 have hx:0<l.getD j 0:=hp _ (zeZ hj')
 have hlast:zgA l j=0:=by rw [e0];rfl
 refine ⟨⟨by omega,by omega⟩,fun h4=>?_,fun _=>?_⟩
 ·have:=of_decide_eq_true h4
  omega
 ·have e:IntKind.i64.wrap ((j:Int)+1)=((j+1:Nat):Int):=zby (by omega)
  refine Back.mk (j+1) hj' (by omega) (p0:=let v0:=(↑(l.length):Int);IntKind.wrap IntKind.i64 ((↑j:Int)+(1:Int))=(↑(j+(1:Nat)):Int)∧List.getD l j (0:Int)=zgA l (j+(1:Nat))∧false=false∧v0=v0∧l=l∧l=l∧True) (by kernel_rfl) ?_
  intros
  repeat' apply And.intro
  all_goals first | trivial | rfl | exact e
noncomputable def eRis:Ent:=ent1 36 dInts fun l=>([l.length≤1,∀ x∈l,0<x],.bool true,D2)
theorem zjQ:zak Try.prog eRis:=zaT (fnB Try.func36 (by decide) rfl) fun l h=>zgn l (h _ (by simp)) (h _ (by simp))
noncomputable def tabLh:List Ent:=[eRis,eWi,eNew,eSet,eDue,ziX,zla]
theorem zb2:∀ e∈tabLh,zak Try.prog e:=zae zjQ (zae ziW (zae zjT (zae zjP (zae zjW (zae zgZ (zae zin zap))))))
def watW (s:Int) (w:List Wait) (now:Int):List Wait:=match w with
 | []=>[⟨s,now⟩]
 | x::_=>if now-x.at_≥36 then [⟨s,now⟩] else [⟨s,x.at_⟩]
def watD (s:Int) (w:List Wait) (now:Int):List Int:=match w with
 | []=>[]
 | x::_=>if now-x.at_≥36 then [s] else []
structure Wt (s:Int) (w:List Wait) (now:Int):Prop where
 len:w.length≤1
 seq:∀ x∈w,x.seq=s
 at_:∀ x∈w,0≤x.at_∧x.at_≤now
def mapW (w:List Wait) (j:Nat):List (Int×Int):=((w.take j).map fun y=>(y.seq,y.at_)).reverse
theorem zg4 (w:List Wait) {j:Nat} (h:j<w.length):mapW w (j+1)=((w.getD j default).seq,(w.getD j default).at_)::mapW w j:=by
 unfold mapW
 rw [zcw (d:=default) h,List.map_append,List.reverse_append]
 rfl
def ckW (s:Int) (w:List Wait) (now:Int):Nat→List It
 | 0=>[]
 | _+1=>match w with
  | []=>[]
  | y::_=>setL [] s (y.at_-now)
theorem zjX (L:List It) (now:Int):(dueL L now).length≤L.length:=by
 unfold dueL
 rw [List.length_map]
 exact (List.takeWhile_sublist _).length_le
theorem zg5 {s:Int} {w:List Wait} {now:Int} (hw:Wt s w now):(mapW w w.length).lookup s=match w with | []=>none | y::_=>some y.at_:=by
 match w,hw with
 | [],_=>rfl
 | [y],hw=>
  have:=hw.seq y (by simp)
  subst this
  show List.lookup y.seq [(y.seq,y.at_)]=some y.at_
  rw [List.lookup_cons,beq_self_eq_true]
 | _::_::_,hw=>have:=hw.len;simp at this
theorem zkj (s:Int) (w:List Wait) (now:Int):ckW s w now 1=match w with | []=>[] | y::_=>[(s,y.at_-now)]:=by
 cases w<;>rfl
theorem zho (s:Int) (w:List Wait) (now:Int) (k:Nat):(ckW s w now k).length≤1:=by
 cases k with
 | zero=>exact Nat.zero_le _
 | succ k=>cases w<;>simp [ckW,setL,zao,insL]
theorem zkk (s:Int) (w:List Wait) (now:Int) (k:Nat):Ids (ckW s w now k):=by
 have:=zho s w now k
 match h:ckW s w now k,this with
 | [],_=>exact List.Pairwise.nil
 | [y],_=>exact List.pairwise_singleton _ _
theorem zlc (s:Int) (w:List Wait) (now:Int):dueL (ckW s w now 1) (-36)=watD s w now:=by
 rw [zkj]
 cases w with
 | nil=>rfl
 | cons y w=>
  unfold watD dueL
  by_cases h:now-y.at_≥36
  ·have:dueP (-36) (s,y.at_-now)=true:=decide_eq_true (by show y.at_-now ≤ -36;omega)
   simp [h,this]
  ·have:¬ dueP (-36) (s,y.at_-now)=true:=fun k=>by
    have:y.at_-now ≤ -36:=of_decide_eq_true k
    omega
   simp [h,this]
theorem zkf {s:Int} {w:List Wait} {now:Int} (hw:Wt s w now) (hn:now≤1000000) :
  (if ((mapW w w.length).lookup s).isSome=true then setL (ckW s w now 0) s (IntKind.i64.wrap (((mapW w w.length).lookup s).getD 0-now)) else ckW s w now 0)=ckW s w now 1:=by
 rw [zg5 hw]
 cases w with
 | nil=>rfl
 | cons y w=>
  have hb:=hw.at_ y (by simp)
  show setL [] s (IntKind.i64.wrap (y.at_-now))=setL [] s (y.at_-now)
  rw [zbt ⟨by omega,by omega⟩]
theorem zh4 {s:Int} {w:List Wait} {now:Int} (hw:Wt s w now) :
  (watW s w now).take 0++[⟨s,zf6 (zab (!((mapW w w.length).lookup s).isSome) true ((dueL (ckW s w now 1) (-36)).any fun y=>s==y)) now (((mapW w w.length).lookup s).getD 0)⟩]=(watW s w now).take 1:=by
 rw [zg5 hw,zlc]
 cases w with
 | nil=>rfl
 | cons y w=>
  unfold watW watD
  by_cases h:now-y.at_≥36
  ·simp [h,zf6,zab]
  ·simp [h,zf6,zab]
theorem zji {s:Int} {w:List Wait} {now:Int}:(watW s w now).take 1=watW s w now:=by
 unfold watW
 split
 ·rfl
 ·split<;>rfl
theorem zh3 (w:List Wait) (x:Lease) (now:Int) (hs:0<x.seq) (hw:Wt x.seq w now) (hn:now≤1000000) :
  FnC Try.prog 26 [dWaits.can w,dLeases.can [x],dInt.can now] (.tup [.sl [1] (.rWait (watW x.seq w now)),.sl [1] (.rInts (watD x.seq w now)),.int .i64 0]) D2:=by
 refine FnG.of_vc (zaz zb2 fun _=>none) Try.func26 rfl (by decide) rfl 300 (p:=fun (V:List PE→Prop)=>True∧True∧True∧True∧V []) (by kernel_rfl) ?_
 refine ⟨trivial,trivial,trivial,trivial,?_⟩
 refine LoopG.head (zaz zb2 fun _=>none) 0 (A:=Nat) (fun j=>j≤w.length) (fun j=>[(30,.int .i64 j),(9,.own 901),(8,.int .i64 0),(7,.nil),(6,.nil)]) (fun j=>[(901,.row 3 [] (.rInts ((w.take j).map (·.seq)))),(7,.obj (.imap (mapW w j)))]) (fun j=>w.length-j) 0 (Nat.zero_le _) (p0:=let v0:=(↑(w.length):Int);(0:Int)=(↑(0:Nat):Int)∧(0:Int)=0∧v0=v0∧w=w∧[x]=[x]∧now=now∧List.map (fun (x:Wait)=>Wait.seq x) (List.take (0:Nat) w)=[]∧[]=mapW w (0:Nat)∧True) (by kernel_rfl) ?_ 300 (p:=fun (y:Nat) (V:List PE→Prop)=>let v0:=(↑y:Int);let v1:=(↑(w.length):Int);let v2:=List.getD w y default;let v3:=!wiS (Wait.at_ v2) now;let v4:=decide (v0<v1);True∧True∧(v4=true→((0:Int)≤v0∧v0<v1∧True)∧True∧True∧(v3=true→True∧watW (Lease.seq x) w now=[]∧watD (Lease.seq x) w now=[]∧(1:Int)=0∧True)∧(v3=false→((List.length (List.map (fun (x:Wait)=>Wait.seq x) (List.take y w))+List.length [Wait.seq v2])*(1024:Nat)≤140737488355328∧True)∧(List.length (mapW w y)<1000000∧True)∧True∧V [PE.a,PE.b]))∧(v4=false→True∧V [PE.b])) (by intro y;kernel_rfl) ?_
 ·intros
  exact ⟨rfl,rfl,rfl,rfl,rfl,rfl,rfl,rfl,trivial⟩
 rintro j hj
 have hlw:=hw.len
 have hml:(mapW w j).length≤1:=by unfold mapW;simp;omega
 simp only [imp_self,implies_true,true_and,and_true]
 refine ⟨fun h=>?_,fun h=>?_⟩
 ·have hj':j<w.length:=by
   have:(j:Int)<(w.length:Int):=of_decide_eq_true h
   omega
  have hb:=hw.at_ _ (zeZ (d:=default) hj')
  refine ⟨⟨by omega,by omega⟩,fun h3=>?_,fun _=>⟨by simp;omega,by omega,?_⟩⟩
  ·rw [wiS_iff.2 hb] at h3
   cases h3
  have e:IntKind.i64.wrap ((j:Int)+1)=((j+1:Nat):Int):=zby (by omega)
  have e2:=zg4 w hj'
  have e3:(w.take (j+1)).map (·.seq)=(w.take j).map (·.seq)++[(w.getD j default).seq]:=by rw [zcw (d:=default) hj',List.map_append];rfl
  refine Back.mk (j+1) hj' (by omega) (p0:=let v0:=(↑(w.length):Int);let v1:=List.getD w j default;let v2:=Wait.seq v1;let v3:=j+(1:Nat);IntKind.wrap IntKind.i64 ((↑j:Int)+(1:Int))=(↑v3:Int)∧(0:Int)=0∧v0=v0∧w=w∧[x]=[x]∧now=now∧List.map (fun (x:Wait)=>Wait.seq x) (List.take j w)++[v2]=List.map (fun (x:Wait)=>Wait.seq x) (List.take v3 w)∧(v2,Wait.at_ v1)::mapW w j=mapW w v3∧True) (by kernel_rfl) ?_
  intros
  repeat' apply And.intro
  all_goals first | trivial | rfl | exact e | exact e2.symm | exact e3.symm
 have hj':j=w.length:=by
  have:¬ ((j:Int)<(w.length:Int)):=of_decide_eq_false h
  omega
 subst hj'
 refine LoopG.head (zaz zb2 fun _=>none) 0 (A:=Nat) (fun k=>k≤1) (fun k=>[(52,.int .i64 k),(10,.own 902)]) (fun k=>[(902,.row 3 [] (.rInts (([x].take k).map (·.seq))))]) (fun k=>1-k) 0 (Nat.zero_le _) (p0:=let v0:=mapW w w.length;let v1:=(↑(List.length [x]):Int);let v2:=List.map (fun (x:Wait)=>Wait.seq x) (List.take w.length w);(0:Int)=(↑(0:Nat):Int)∧v1=v1∧[x]=[x]∧(0:Int)=0∧now=now∧List.map (fun (x:Lease)=>Lease.seq x) (List.take (0:Nat) [x])=[]∧v2=v2∧v0=v0∧True) (by kernel_rfl) ?_ 300 (p:=fun (y:Nat) (V:List PE→Prop)=>let v0:=(↑y:Int);let v1:=(0:Int);let v2:=zab (!true) true !true;let v3:=(↑(List.length [x]):Int);let v4:=List.map (fun (x:Wait)=>Wait.seq x) (List.take w.length w);let v5:=List.map (fun (x:Lease)=>Lease.seq x) (List.take y [x]);let v6:=v4.length;let v7:=v5.length;let v8:=decide (v0<v3);True∧True∧(v8=true→(v1≤v0∧v0<v3∧True)∧((v7+List.length [Lease.seq (List.getD [x] y default)])*(1024:Nat)≤140737488355328∧True)∧True∧V [PE.a])∧(v8=false→(v6≤17592186044416∧v6≤1∧(∀ (x:Int),x∈v4→v1<x)∧((!!true)=true→(!!true)=true)∧((!!true)=true→v7≤17592186044416)∧((!!true)=true→v7≤1)∧((!!true)=true→∀ (x:Int),x∈v5→v1<x)∧((!!true)=true→(!!true)=true)∧((!true)=false→(!!true)=true)∧True)∧True∧(v2=true→True∧watW (Lease.seq x) w now=[]∧watD (Lease.seq x) w now=[]∧(1:Int)=v1∧True)∧(v2=false→True∧True∧V [PE.b,PE.b]))) (by intro y;kernel_rfl) ?_
 ·intros
  exact ⟨rfl,rfl,rfl,rfl,rfl,rfl,rfl,rfl,trivial⟩
 rintro k hk
 have hk:k≤1:=hk
 have e2:zab (!true) true (!true)=false:=rfl
 have ew:(w.take w.length).map (·.seq)=w.map (·.seq):=by rw [List.take_length]
 have hws:∀ y∈w.map (·.seq),0<y:=fun y hy=>by
  obtain ⟨z,hz,rfl⟩:=List.mem_map.1 hy
  have:=hw.seq z hz
  show 0<z.seq
  omega
 simp only [ew,e2,List.length_map,List.length_cons,List.length_nil,List.length_take,reduceCtorEq,false_implies,true_implies,imp_self,implies_true,true_and,and_true,Bool.not_true,Bool.not_false]
 refine ⟨fun h=>?_,fun h=>?_⟩
 ·have hk':k=0:=by
   have:=of_decide_eq_true h
   omega
  subst hk'
  refine ⟨⟨by omega,by omega⟩,by omega,?_⟩
  refine Back.mk 1 (Nat.le_refl _) (by omega) (p0:=let v0:=mapW w w.length;let v1:=List.map (fun (x:Wait)=>Wait.seq x) w;let v2:=(↑(List.length [x]):Int);IntKind.wrap IntKind.i64 ((↑(0:Nat):Int)+(1:Int))=(↑(1:Nat):Int)∧v2=v2∧[x]=[x]∧(0:Int)=0∧now=now∧List.map (fun (x:Lease)=>Lease.seq x) (List.take (0:Nat) [x])++[Lease.seq (List.getD [x] (0:Nat) default)]=List.map (fun (x:Lease)=>Lease.seq x) (List.take (1:Nat) [x])∧v1=v1∧v0=v0∧True) (by kernel_rfl) ?_
  intros
  repeat' apply And.intro
  all_goals first | trivial | rfl
 have hk':k=1:=by
  have:=of_decide_eq_false h
  omega
 subst hk'
 refine ⟨⟨by omega,hlw,hws,by omega,by omega,fun y hy=>?_⟩,fun h=>absurd h (by decide),fun _=>?_⟩
 ·have hy:y∈[x.seq]:=hy
  rw [List.mem_singleton] at hy
  omega
 refine LoopG.head (zaz zb2 fun _=>none) 0 (A:=Nat) (fun k=>k≤1) (fun k=>[(73,.int .i64 k)]) (fun k=>[(79,.obj (.clock (ckW x.seq w now k)))]) (fun k=>1-k) 0 (Nat.zero_le _) (p0:=let v0:=mapW w w.length;let v1:=List.map (fun (x:Lease)=>Lease.seq x) (List.take (1:Nat) [x]);let v2:=(↑(v1.length):Int);(0:Int)=(↑(0:Nat):Int)∧v2=v2∧(0:Int)=0∧now=now∧[]=ckW (Lease.seq x) w now (0:Nat)∧v1=v1∧v0=v0∧True) (by kernel_rfl) ?_ 300 (p:=fun (y:Nat) (V:List PE→Prop)=>let v0:=(↑y:Int);let v1:=ckW (Lease.seq x) w now y;let v2:=v1.length;let v3:=List.map (fun (x:Lease)=>Lease.seq x) (List.take (1:Nat) [x]);let v4:=v3.length;let v5:=(↑v4:Int);let v6:=decide (v0<v5);True∧True∧(v6=true→((0:Int)≤v0∧v0<v5∧y<v4∧True)∧True∧True∧((Option.isSome (List.lookup (List.getD v3 y (0:Int)) (mapW w w.length))=true→v2<1000000)∧True)∧True∧V [PE.a])∧(v6=false→(Ids v1∧v2≤1000000∧True)∧(List.length (dueL v1 (-36:Int))≤1∧True)∧True∧True∧V [PE.b])) (by intro y;kernel_rfl) ?_
 ·intros
  exact ⟨rfl,rfl,rfl,rfl,rfl,rfl,rfl,trivial⟩
 rintro k hk
 have hk:k≤1:=hk
 have el:=zg5 hw
 have c1:=zho x.seq w now k
 have c2:=zkk x.seq w now k
 have c3:=zjX (ckW x.seq w now k) (-36)
 refine ⟨trivial,trivial,fun h=>?_,fun h=>?_⟩
 ·have hk':k=0:=by
   have h:(k:Int)<((1:Nat):Int):=of_decide_eq_true h
   omega
  subst hk'
  refine ⟨⟨by omega,by show (0:Int)<1;decide,Nat.one_pos,trivial⟩,trivial,trivial,⟨fun _=>by omega,trivial⟩,trivial,?_⟩
  have e5:=zkf hw hn
  refine Back.mk 1 (Nat.le_refl _) (by omega) (p0:=let v0:=(0:Int);let v1:=mapW w w.length;let v2:=ckW (Lease.seq x) w now (0:Nat);let v3:=List.map (fun (x:Lease)=>Lease.seq x) (List.take (1:Nat) [x]);let v4:=(↑(v3.length):Int);let v5:=List.getD v3 (0:Nat) v0;let v6:=List.lookup v5 v1;let v7:=Option.isSome v6;IntKind.wrap IntKind.i64 ((↑(0:Nat):Int)+(1:Int))=(↑(1:Nat):Int)∧v4=v4∧v0=v0∧now=now∧(if v7=true then setL v2 v5 (IntKind.wrap IntKind.i64 (Option.getD v6 v0-now)) else v2)=ckW (Lease.seq x) w now (1:Nat)∧v3=v3∧v1=v1∧True) (by kernel_rfl) ?_
  intros
  exact ⟨rfl,rfl,rfl,rfl,e5,rfl,rfl,trivial⟩
 have hk':k=1:=by
  have h:¬ (k:Int)<((1:Nat):Int):=of_decide_eq_false h
  omega
 subst hk'
 refine ⟨⟨c2,by omega,trivial⟩,⟨by omega,trivial⟩,trivial,trivial,?_⟩
 refine LoopG.head (zaz zb2 fun _=>none) 0 (A:=Nat) (fun k=>k≤1) (fun k=>[(97,.int .i64 k),(22,.own 903)]) (fun k=>[(903,.row 63 [] (.rWait ((watW x.seq w now).take k)))]) (fun k=>1-k) 0 (Nat.zero_le _) (p0:=let v0:=mapW w w.length;let v1:=List.map (fun (x:Lease)=>Lease.seq x) (List.take (1:Nat) [x]);let v2:=dueL (ckW (Lease.seq x) w now (1:Nat)) (-36:Int);let v3:=(↑(v1.length):Int);(0:Int)=(↑(0:Nat):Int)∧v3=v3∧(0:Int)=0∧now=now∧List.take (0:Nat) (watW (Lease.seq x) w now)=[]∧v2=v2∧v1=v1∧v0=v0∧True) (by kernel_rfl) ?_ 300 (p:=fun (y:Nat) (V:List PE→Prop)=>let v0:=Lease.seq x;let v1:=(↑y:Int);let v2:=watW v0 w now;let v3:=(0:Int);let v4:=List.take y v2;let v5:=v4.length;let v6:=List.map (fun (x:Lease)=>Lease.seq x) (List.take (1:Nat) [x]);let v7:=dueL (ckW v0 w now (1:Nat)) (-36:Int);let v8:=v6.length;let v9:=(↑v8:Int);let v10:=List.getD v6 y v3;let v11:=List.lookup v10 (mapW w w.length);let v12:=!Option.isSome v11;let v13:=decide (v1<v9);True∧True∧(v13=true→(v3≤v1∧v1<v9∧y<v8∧True)∧True∧(((!v12)=true→(!v12)=true)∧((!v12)=true→(!v12)=true)∧((!v12)=true→v7.length≤17592186044416)∧(v12=false→(!v12)=true)∧True)∧True∧((v5+List.length [Wait.mk v10 (zf6 (zab v12 true (List.any v7 fun (y:Int)=>v10==y)) now (Option.getD v11 v3))])*(1024:Nat)≤140737488355328∧True)∧True∧V [PE.a])∧(v13=false→True∧v4=v2∧v5≤17592186044416∧v7=watD v0 w now∧v7.length≤17592186044416∧v3=v3∧True)) (by intro y;kernel_rfl) ?_
 ·intros
  exact ⟨rfl,rfl,rfl,rfl,rfl,rfl,rfl,rfl,trivial⟩
 rintro k hk
 have hk:k≤1:=hk
 have e7:=zlc x.seq w now
 have hd:(dueL (ckW x.seq w now 1) (-36)).length≤1:=by omega
 have ht:((watW x.seq w now).take k).length≤1:=by rw [List.length_take];omega
 refine ⟨trivial,trivial,fun h=>?_,fun h=>?_⟩
 ·have hk':k=0:=by
   have h:(k:Int)<((1:Nat):Int):=of_decide_eq_true h
   omega
  subst hk'
  refine ⟨⟨by omega,by show (0:Int)<1;decide,Nat.one_pos,trivial⟩,trivial,⟨fun h=>h,fun h=>h,fun _=>by omega,fun h=>by rw [h];rfl,trivial⟩,trivial,⟨by show (_+1)*1024≤_;omega,trivial⟩,trivial,?_⟩
  have e5:=zh4 hw
  refine Back.mk 1 (Nat.le_refl _) (by omega) (p0:=let v0:=watW (Lease.seq x) w now;let v1:=mapW w w.length;let v2:=(0:Int);let v3:=List.map (fun (x:Lease)=>Lease.seq x) (List.take (1:Nat) [x]);let v4:=dueL (ckW (Lease.seq x) w now (1:Nat)) (-36:Int);let v5:=(↑(v3.length):Int);let v6:=List.getD v3 (0:Nat) v2;let v7:=List.lookup v6 v1;IntKind.wrap IntKind.i64 ((↑(0:Nat):Int)+(1:Int))=(↑(1:Nat):Int)∧v5=v5∧v2=v2∧now=now∧List.take (0:Nat) v0++[Wait.mk v6 (zf6 (zab (!Option.isSome v7) true (List.any v4 fun (y:Int)=>v6==y)) now (Option.getD v7 v2))]=List.take (1:Nat) v0∧v4=v4∧v3=v3∧v1=v1∧True) (by kernel_rfl) ?_
  intros
  repeat' apply And.intro
  all_goals first | trivial | rfl | exact e5
 have hk':k=1:=by
  have h:¬ (k:Int)<((1:Nat):Int):=of_decide_eq_false h
  omega
 subst hk'
 exact ⟨trivial,zji,by omega,e7,by omega,rfl,trivial⟩
noncomputable def zgY:Ent:=ent3 26 dWaits dLeases dInt fun w l now=>match l with
 | [x]=>([0<x.seq,Wt x.seq w now,now≤1000000],.tup [.sl [1] (.rWait (watW x.seq w now)),.sl [1] (.rInts (watD x.seq w now)),.int .i64 0],D2)
 | _=>([False],.any,D2)
theorem zdU:zak Try.prog zgY:=zew (fnB Try.func26 (by decide) rfl) fun w l now h=>by
 match l,h with
 | [x],h=>exact zh3 w x now (h _ (by simp)) (h _ (by simp)) (h _ (by simp))
 | [],h=>exact (h False (by simp)).elim
 | _::_::_,h=>exact (h False (by simp)).elim
end Go.Proofs.Ytjfphnegcelbpaa
namespace Go.Proofs.Ytjfphnegcelbpaa
open Go.RowKit
end Go.Proofs.Ytjfphnegcelbpaa
namespace Go.Proofs.Ytjfphnegcelbpaa
open Go.RowKit Go.ChangeShapes Go.WideShapes Go.Deep
def IPost (w:World) (n:Int) (e:Ending) (w':World):Prop:=e = .returned (.int .i64 n)∧Below w.heap.size w w'
end Go.Proofs.Ytjfphnegcelbpaa
namespace Go.Proofs.Ytjfphnegcelbpaa
open Go.RowKit
end Go.Proofs.Ytjfphnegcelbpaa
namespace Go.Proofs.Ytjfphnegcelbpaa
open Go.RowKit Go.ChangeShapes Go.WideShapes Go.Deep
end Go.Proofs.Ytjfphnegcelbpaa
namespace Go.Proofs.Ytjfphnegcelbpaa
open Go.RowKit
def h0:Holder:=⟨0,0,0,[],0,0⟩
theorem iz:I64 0:=⟨by decide,by decide⟩
end Go.Proofs.Ytjfphnegcelbpaa
