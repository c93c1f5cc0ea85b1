/- Parts of the proof, joined: the symbolic walk and what it is told of each function. Condition: as each theorem says. -/
import Derived.SizedLaws
import Derived.Test.YtfccndnnpkiajaaDu4
set_option linter.unusedVariables false
set_option linter.unusedSimpArgs false
set_option linter.unusedSectionVars false
namespace Go.Proofs.Ytfccndnnpkiajaa
open Go.RowKit Go.ChangeShapes Go.WideShapes Go.Deep
def zhf (P:Program) (ts:List Ty) (ok:TypeId→List Ty→Bool):Nat→List Field→Bool
 | o,[]=>o==ts.length
 | o,f::fs=>f.offset==o&&ok f.type ((ts.drop o).take (P.cellsOf f.type))&&decide (o+P.cellsOf f.type≤ts.length)&&zhf P ts ok (o+P.cellsOf f.type) fs
def okTy (P:Program):Nat→TypeId→List Ty→Bool
 | 0,_,_=>false
 | n+1,t,ts=>match P.underlying t with
  | some (.int k)=>match ts with | [.int k']=>decide (k=k') | _=>false
  | some .bool=>match ts with | [.bool]=>true | _=>false
  | some .string=>match ts with | [.str]=>true | _=>false
  | some (.slice e)=>match ts with | [.sl fs]=>okTy P n e fs&&P.cellsOf e==fs.length&&decide (1≤P.bytesOf e)&&decide (0<fs.length) | _=>false
  | some (.struct fs)=>P.cellsOf t==ts.length&&zhf P ts (okTy P n) 0 fs.toList
  | _=>false
theorem RdL.append {w:World} {S:Nat→Prop}:∀ {ts us:List Ty} {vs xs:List Value} {ds es:List D},RdL w S ts vs ds→RdL w S us xs es→RdL w S (ts++us) (vs++xs) (ds++es)
 | [],_,[],_,[],_,_,h=>h
 | _::ts,_,_::vs,_,_::ds,_,h,k=>⟨h.1,RdL.append (ts:=ts) (vs:=vs) (ds:=ds) h.2 k⟩
 | _::_,_,[],_,_,_,h,_=>h.elim
 | _::_,_,_::_,_,[],_,h,_=>h.elim
 | [],_,_::_,_,_,_,h,_=>h.elim
 | [],_,[],_,_::_,_,h,_=>h.elim
section
variable {H : Type} {enc : TypeId × Value → H} {P : Program} {w : World} {base : Nat} {spare : Nat → Bool} {held : Bool}
def zlA (P:Program) (t:TypeId) (d:DataW H):Prop:=∀ n∈d.weights P t,n≤reachBytes
theorem zfG (ok:TypeId→List Ty→Bool) (ts:List Ty) (cs:List Value) (hcl:cs.length=ts.length):∀ (fs:List Field) (o:Nat),o≤ts.length→zhf P ts ok o fs=true →
  (∀ f∈fs,∀ us,ok f.type us=true→∃ ds,RdL w (fun b=>b<w.heap.size) us ((cs.drop f.offset).take (P.cellsOf f.type)) ds) →
  ∃ ds,RdL w (fun b=>b<w.heap.size) (ts.drop o) (cs.drop o) ds
 | [],o,ho,h,_=>by
  simp only [zhf,beq_iff_eq] at h
  subst h
  rw [List.drop_length,List.drop_eq_nil_of_le (by omega)]
  exact ⟨[],trivial⟩
 | f::fs,o,ho,h,hf=>by
  simp only [zhf,Bool.and_eq_true,beq_iff_eq,decide_eq_true_eq] at h
  obtain ⟨⟨⟨rfl,h2⟩,h3⟩,h4⟩:=h
  obtain ⟨d1,k1⟩:=hf f (List.mem_cons_self ..) _ h2
  obtain ⟨d2,k2⟩:=zfG ok ts cs hcl fs _ h3 h4 (fun g hg=>hf g (List.mem_cons_of_mem _ hg))
  refine ⟨d1++d2,?_⟩
  have e1:ts.drop f.offset=(ts.drop f.offset).take (P.cellsOf f.type)++ts.drop (f.offset+P.cellsOf f.type):=by
   rw [← List.drop_drop,List.take_append_drop]
  have e2:cs.drop f.offset=(cs.drop f.offset).take (P.cellsOf f.type)++cs.drop (f.offset+P.cellsOf f.type):=by
   rw [← List.drop_drop,List.take_append_drop]
  rw [e1,e2]
  exact RdL.append k1 k2
theorem zdh {e:TypeId}:∀ {l:List (DataW H)} {d:DataW H},d∈l→∀ n∈d.weights P e,n∈DataW.weightsAll P e l
 | x::l,d,hd,n,hn=>by
  simp only [DataW.weightsAll,List.mem_append]
  rcases List.mem_cons.1 hd with h | h
  ·subst h;exact .inl hn
  ·exact .inr (zdh h n hn)
theorem zcA:∀ (n:Nat) (t:TypeId) (ts:List Ty) (fuel:Nat) (cs:List Value) (x:DataW H×List MemPlace),okTy P n t ts=true→DataW.trod enc P w base spare held fuel t cs=some x→zlA P t x.1→w.noneFrozen x.2 →
  ∃ ds,RdL w (fun b=>b<w.heap.size) ts cs ds
 | 0,_,_,_,_,_,h,_,_,_=>by simp [okTy] at h
 | n+1,t,ts,fuel,cs,x,h,ht,hw,hz=>by
  unfold okTy at h
  split at h
  ·rename_i k hu
   split at h
   ·rename_i k'
    have hk:k=k':=of_decide_eq_true h
    subst hk
    obtain ⟨m,rfl,_,hm⟩:=DataW.trod_int hu ht
    exact ⟨[.int m],.int hm,trivial⟩
   ·cases h
  ·rename_i hu
   split at h
   ·obtain ⟨b,rfl,_⟩:=DataW.trod_bool hu ht
    exact ⟨[.bool b],.bool,trivial⟩
   ·cases h
  ·rename_i hu
   split at h
   ·obtain ⟨s,rfl,rfl,_⟩:=DataW.trod_string hu ht
    have:=hw s.data.toList.length (by simp [DataW.weights])
    refine ⟨[.str s],.str ?_,trivial⟩
    have e:s.data.toList.length=s.size:=by rw [Array.length_toList];rfl
    rw [e] at this
    unfold reachBytes at this
    omega
   ·cases h
  ·rename_i e hu
   split at h
   ·rename_i fs
    simp only [Bool.and_eq_true,beq_iff_eq,decide_eq_true_eq] at h
    obtain ⟨⟨⟨h1,h2⟩,h3⟩,h4⟩:=h
    rcases open_slice hu ht with ⟨rfl,_⟩ | ⟨a,len,cap,m,n',Dd,Pl,rfl,hb,hl,hm,hmm,hx,hi⟩
    ·exact ⟨[.sl []],.emp (fun _=>rfl) (by simp [maxLen]),trivial⟩
    ·have hlm:len≤m:=by rw [hmm];split<;>omega
     have hx1:x.1 = .slice ((List.range len).map Dd) ((List.range (m-len)).map fun j=>Dd (len+j)):=by rw [hx]
     have hbd:len*1≤reachBytes:=by
      have:=hw ((((List.range len).map Dd).length+((List.range (m-len)).map fun j=>Dd (len+j)).length)*P.bytesOf e) (by rw [hx1];simp [DataW.weights,hu])
      simp only [List.length_map,List.length_range] at this
      exact Nat.le_trans (Nat.mul_le_mul (by omega) h3) this
     have each:∀ i,i<len→∃ cs' ds,w.cells? base (a.add (i*P.cellsOf e)) (P.cellsOf e)=some cs'∧RdL w (fun b=>b<w.heap.size) fs cs' ds:=by
      intro i hi'
      obtain ⟨cs',hc,htt⟩:=hi i (by omega)
      obtain ⟨ds,hd⟩:=zcA n e fs n' cs' _ h1 htt (fun q hq=>hw q (by
       rw [hx1]
       simp only [DataW.weights,hu,List.mem_cons,List.mem_append]
       exact .inr (.inl (zdh (List.mem_map.2 ⟨i,List.mem_range.2 hi',rfl⟩) q hq)))) (fun b off hp=>hz b off (by
       rw [hx]
       exact List.mem_append.2 (.inr (List.mem_flatMap.2 ⟨i,List.mem_range.2 (by omega),hp⟩))))
      exact ⟨cs',ds,hc,hd⟩
     by_cases hp:0<len
     ·let C:Nat→List Value:=fun i=>if hh:i<len then Classical.choose (each i hh) else []
      let DD:Nat→List D:=fun i=>if hh:i<len then Classical.choose (Classical.choose_spec (each i hh)) else []
      have hC:∀ i,i<len→w.cells? base (a.add (i*P.cellsOf e)) (P.cellsOf e)=some (C i)∧RdL w (fun b=>b<w.heap.size) fs (C i) (DD i):=by
       intro i hh
       simp only [C,DD,hh,dif_pos]
       exact Classical.choose_spec (Classical.choose_spec (each i hh))
      have hcell:∀ i j,i<len→j<fs.length→w.cell? ((a.add (i*fs.length)).add j)=some ((C i).getD j undef):=by
       intro i j hi' hj
       obtain ⟨c1,c2⟩:=hC i hi'
       rw [h2] at c1
       obtain ⟨_,hcl,hat⟩:=World.cells?_some c1
       rw [hat j hj]
       simp [List.getD,List.getElem?_eq_getElem (show j<(C i).length by omega)]
      have h00:=hcell 0 0 hp h4
      obtain ⟨b,off,spot⟩:=a
      have hspot:spot=none:=by simpa [Addr.add] using World.cell?_spot h00
      subst hspot
      have hblk:b<w.heap.size:=by
       have:=World.block_lt_of_cell? _ _ h00
       simpa [Addr.add] using this
      refine ⟨[.sl ((List.range len).map DD)],.row (fun i j=>(C i).getD j undef) hp (by simp) hl hm (by unfold reachBytes at hbd;omega) hblk hblk (fun i j hi' hj=>?_) (fun i hi'=>?_) (fun i j hi' hj=>?_) (fun i j hi' hj=>?_),trivial⟩
      ·have:=hcell i j hi' hj
       rwa [WideShapes.add_plain,WideShapes.add_plain] at this
      ·have:=(hC i hi').2.lens.2
       simpa [List.getD,hi'] using this
      ·have:=(hC i hi').2.at j hj
       simpa [List.getD,hi'] using this
      ·refine hz b _ ?_
       rw [hx]
       refine List.mem_append.2 (.inl ?_)
       unfold MemPlace.row
       refine List.mem_map.2 ⟨i*fs.length+j,List.mem_range.2 ?_,by rw [Nat.add_assoc]⟩
       rw [h2]
       have h5:(i+1)*fs.length≤m*fs.length:=Nat.mul_le_mul_right _ (by omega)
       rw [Nat.add_mul] at h5;omega
     ·have h0:len=0:=by omega
      subst h0
      exact ⟨[.sl []],.emp (fun hh=>by cases hh) hm,trivial⟩
   ·cases h
  ·rename_i fs hu
   simp only [Bool.and_eq_true,beq_iff_eq] at h
   obtain ⟨h1,h2⟩:=h
   obtain ⟨xs,n',_,hx,hcl,hxl,hall⟩:=DataW.trod_struct hu ht
   have:=zfG (P:=P) (w:=w) (okTy P n) ts cs (by omega) fs.toList 0 (Nat.zero_le _) h2 (fun f hf us hus=>by
    obtain ⟨i,hi⟩:=List.getElem?_of_mem hf
    rw [Array.getElem?_toList] at hi
    have hilt:i<fs.size:=(Array.getElem?_eq_some_iff.1 hi).1
    have h3:=hall i f hi
    rw [List.getElem?_eq_getElem (show i<xs.length by omega)] at h3
    refine zcA n f.type us n' _ _ hus h3 (fun q hq=>hw q ?_) (fun b off hp=>hz b off (by
     rw [hx]
     exact List.mem_flatMap.2 ⟨_,List.getElem_mem (show i<xs.length by omega),hp⟩))
    rw [hx]
    simp only [DataW.weights,hu]
    refine DataW.weights_mem_each (j:=i) (t:=f.type) (d:=xs[i].1) ?_ ?_ q hq
    ·rw [List.getElem?_map,Array.getElem?_toList,hi];rfl
    ·rw [List.getElem?_map,List.getElem?_eq_getElem (show i<xs.length by omega)];rfl)
   simpa using this
  ·cases h
theorem rd_arg {t:TypeId} {ts:List Ty} {v:Value} {d:DataW H} {p:List MemPlace} (n:Nat) (hok:okTy P n t ts=true) (h:DataW.Trod enc P w base spare held t v d p) (hw:zlA P t d) (hz:w.noneFrozen p):∃ ds,RdL w (fun b=>b<w.heap.size) ts v.cells.toList ds:=by
 obtain ⟨fuel,hf⟩:=h
 exact zcA n t ts fuel _ _ hok hf hw hz
theorem light_of {tys:List TypeId} {ds:List (DataW H)} (h:(DataW.weightsEach P tys ds).all (· ≤ reachBytes)=true) {j:Nat} {t:TypeId} {d:DataW H} (ht:tys[j]? = some t) (hd:ds[j]? = some d):zlA P t d:=fun n hn=>by
 simpa using List.all_eq_true.1 h n (DataW.weights_mem_each ht hd n hn)
end
end Go.Proofs.Ytfccndnnpkiajaa
