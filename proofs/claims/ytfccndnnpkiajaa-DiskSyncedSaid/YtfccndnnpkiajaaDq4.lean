/- Parts of the proof, joined: the symbolic walk and what it is told of each function. Condition: as each theorem says. -/
import Derived.Deep.RegionLaw
import Derived.StillTailTactics
import Derived.Maps.RangeWalk
import Derived.Laws.CopyRow
import Derived.Shelf.SlIter.Nil
import Derived.Shelf.SortM.Plain
import Derived.Shelf.SortM.SortNone
import Derived.Shelf.SlMaps.Clone
import Derived.Ground.GgzProg
import Derived.Ground.SlgmProg
import Derived.Ground.SlmcProg
import Derived.Test.YtfccndnnpkiajaaProg
import Derived.OwnWalkIn
import Derived.TacticsInMore
import Derived.Deep.DeepCutAuto
import Derived.Deep.CutRange
import Derived.Laws.BytesString
import Derived.Lib.SlBytesConst
import Derived.SizedLaws
import Derived.Test.YtfccndnnpkiajaaDq3
set_option linter.unusedVariables false
set_option linter.unusedSimpArgs false
set_option linter.unusedSectionVars false
namespace Go.Proofs.Ytfccndnnpkiajaa
open Go.RowKit Go.ChangeShapes Go.WideShapes Go.Deep
set_option maxRecDepth 100000
abbrev TRw:TypeId:=56
theorem undR:Try.prog.underlying TRw=some (.slice TCh):=by kernel_rfl
def zCh:Value:= .agg #[.string ⟨#[]⟩,.nilFunc,.int .i64 0,.slice none 0 0,.bool false]
theorem zlR:∃ i,Try.prog.info? TCh=some i∧i.zero=some zCh∧i.size=5∧i.bytes=64:=by
 have h:(Try.prog.info? TCh).map (fun i=>(i.zero,i.size,i.bytes))=some (some zCh,5,64):=by kernel_rfl
 cases e:Try.prog.info? TCh with
 | none=>rw [e] at h;cases h
 | some i=>
  rw [e] at h
  simp only [Option.map_some,Option.some.injEq,Prod.mk.injEq] at h
  exact ⟨i,rfl,h.1,h.2.1,h.2.2⟩
theorem DoAt.one {w:World} {S:Nat→Prop} {c:DChange} {v:Value} (h:DoAt w S c v):v.oneCell'=true:=by cases h<;>rfl
theorem ChAt.ones {w:World} {S:Nat→Prop} {c:DChange} {cs:List Value} (h:ChAt w S c cs):∀ u∈cs,u.oneCell'=true:=by
 obtain ⟨dv,bv,rfl,h1,h2⟩:=h.D
 intro u hu
 simp only [List.mem_cons,List.not_mem_nil,or_false] at hu
 rcases hu with rfl | rfl | rfl | rfl | rfl
 ·rfl
 ·exact h1.one
 ·rfl
 ·exact h2.one
 ·rfl
theorem zfK {w:World} {v:Value} {n:Nat} {xs cs:List Value} {ty:TypeId} (hr:w.ownsRow 0 TCh 5 v n xs) (hl:cs.length=5) (h1:∀ u∈cs,u.oneCell'=true) (hn:n≤100000) :
  ∃ v' w',(Builtin.append_ #[TRw,TRw] ty #[v,.slice (some ⟨w.heap.size,0,none⟩) 1 1]).run Try.prog (w.alloc (.cells cs.toArray TCh)) = .ok v' w'∧w'.ownsRow 0 TCh 5 v' (n+1) (xs++cs)∧w.grownBy w' v.ownBlock∧(v'.ownBlock=v.ownBlock∨∃ g,v'.ownBlock=some g∧w.heap.size≤g):=by
 obtain ⟨i,e1,e2,e3,e4⟩:=zlR
 have hr1:(w.alloc (.cells cs.toArray TCh)).ownsRow 0 TCh 5 v n xs:=zai hr fun g hg=>Below.heap_alloc _ _ _ (hr.lt g hg).2
 obtain ⟨v',w',q1,q2,q3,_,q5⟩:=run_append_own_at (P:=Try.prog) (w.alloc (.cells cs.toArray TCh)) 0 TRw ty TCh i zCh 5 64 undR e1 e2 e3 e4 rfl (by decide) v n xs hr1 ⟨w.heap.size,0,none⟩ 1 1 cs (by omega)
  (fun j u hj=>by rw [WideShapes.add_plain,World.cell?_alloc_at _ _ _ _ rfl];simpa using hj) h1 (by unfold maxLen;omega) (by omega) (Nat.zero_le _)
 refine ⟨v',w',q1,q2,⟨q3.os,q3.tape,q3.output,by have:=q3.size;simp at this;omega,fun b hb hne=>by rw [q3.block b (by simp;omega) hne,Below.heap_alloc _ _ _ hb]⟩,?_⟩
 rcases q5 with e | e
 ·exact .inl e
 ·exact .inr ⟨_,e,by simp⟩
theorem ze8 {ops:Array Oper} {o:Oper} {a:Act} {K:Act→World→Prop} {Q:Exit→Act→World→Prop} {E:Prop} {w:World} (hgd:o.guard=none) (s x:Operand)
  (ho:o.op = .call {callee:= .builtin .append,args:= #[s,x],argTypes:= #[TRw,TRw]}) (v:Value) (n:Nat) (xs cs:List Value) (hs:a.eval s=v) (hr:w.ownsRow 0 TCh 5 v n xs) (hl:cs.length=5) (h1:∀ u∈cs,u.oneCell'=true) (hn:n≤100000)
  (ad:Addr) (had:ad=⟨w.heap.size,0,none⟩) (hx:a.eval x = .slice (some ad) 1 1)
  (h:∀ v' w',w'.ownsRow 0 TCh 5 v' (n+1) (xs++cs)→w.grownBy w' v.ownBlock→(v'.ownBlock=v.ownBlock∨∃ g,v'.ownBlock=some g∧w.heap.size≤g)→K (a.put o.dst v') w') :
  if Region.wanted o (yielded ops a.tmps)=true then Oper.wp Try.prog o a (w.alloc (.cells cs.toArray TCh)) K Q else E:=by
 subst had
 have hw:Region.wanted o (yielded ops a.tmps)=true:=by simp [Region.wanted,hgd]
 rw [if_pos hw]
 obtain ⟨v',w',q1,q2,q3,q4⟩:=zfK (ty:=o.type) hr hl h1 hn
 exact zj9 s x TRw ho v _ hs hx (fun v' w'=>w'.ownsRow 0 TCh 5 v' (n+1) (xs++cs)∧w.grownBy w' v.ownBlock∧(v'.ownBlock=v.ownBlock∨∃ g,v'.ownBlock=some g∧w.heap.size≤g)) ⟨v',w',q1,q2,q3,q4⟩ (fun v' w' hR=>h v' w' hR.1 hR.2.1 hR.2.2)
theorem zdC:∀ (cs:List DChange) (l:List File) (c:DChange),zf2 l cs→(c.kind=1→c.at_≤((zab (cs.foldl zag l) c.file).getD []).length)→zf2 l (cs++[c])
 | [],l,c,_,h=>⟨h,trivial⟩
 | x::cs,l,c,hn,h=>⟨hn.1,zdC cs (zag l x) c hn.2 h⟩
def zd3 (d:RDisk) (c:DChange):RDisk:={d with changes:=d.changes++[c]}
theorem zft (d:RDisk) (c:DChange):zad (zd3 d c)=zag (zad d) c:=by
 unfold zad zd3
 rw [List.foldl_append];rfl
theorem DkI.more {d:RDisk} (h:DkI d) {c:DChange} (h1:0≤c.at_∧c.at_+c.bytes.length≤4194304∧NmOk c.file) (h2:c.kind=1→c.at_≤((zab (zad d) c.file).getD []).length):DkI (zd3 d c):=
 ⟨h.sl,h.fb,fun x hx=>by
  rcases List.mem_append.1 hx with hx | hx
  ·exact h.ch x hx
  ·rw [List.mem_singleton] at hx;subst hx;exact h1,h.nm,zdC _ _ _ h.np h2,h.rm,h.i64⟩
theorem zjd (l:List File) (c:DChange):(zag l c).length≤l.length+1:=by
 unfold zag
 split
 ·exact zbt _ _
 ·split
  ·split
   ·omega
   ·exact zbt _ _
  ·have:=List.length_filter_le (fun y=>!eqN y.name c.file) l
   unfold zbC
   omega
theorem zaY:∀ (cs:List DChange) (l:List File),(cs.foldl zag l).length≤l.length+cs.length
 | [],l=>by simp
 | c::cs,l=>by
  have h1:=zaY cs (zag l c)
  have h2:=zjd l c
  rw [List.foldl_cons,List.length_cons]
  omega
theorem zcC (d:RDisk):(zad d).length≤d.lasts.length+d.changes.length:=zaY _ _
theorem zaK {α:Type} {l:List α} {x d:α} {i:Nat} (h:i<l.length):(l++[x]).getD i d=l.getD i d:=by
 rw [List.getD_eq_getElem?_getD,List.getD_eq_getElem?_getD,List.getElem?_append_left h]
theorem zaL {α:Type} {l:List α} {x d:α} {i:Nat} (h:i=l.length):(l++[x]).getD i d=x:=by
 subst h
 rw [List.getD_eq_getElem?_getD,List.getElem?_append_right (Nat.le_refl _)]
 simp
theorem DkAt.more {w w2 w3:World} {b:Nat} {d:RDisk} {F:Nat→Prop} {m1 m2:Nat} {v v':Value} {rows:List (List Value)} {c:DChange} {cs:List Value} (h:DkAt w b d F m1 m2 v rows) (hc:ChAt w (SB F b m1 m2 v) c cs)
  (h1:c.at_+c.bytes.length≤4194304) (h2:c.kind=1→c.at_≤((zab (zad d) c.file).getD []).length)
  (ht:Turn (fun x=>x=m2) w w2) (hf:FilesAt w2 (fun x=>SB F b m1 m2 v x∨w.heap.size≤x) m2 (zag (zad d) c))
  (hr:w3.ownsRow 0 TCh 5 v' (d.changes.length+1) (rows.flatten++cs)) (hg:w2.grownBy w3 v.ownBlock) (hv:v'.ownBlock=v.ownBlock∨∃ g,v'.ownBlock=some g∧w2.heap.size≤g) :
  DkAt (w3.setCell ⟨b,3,none⟩ v') b (zd3 d c) (fun x=>x<w3.heap.size∧(F x∨w.heap.size≤x)) m1 m2 v' (rows++[cs])∧Turn F w (w3.setCell ⟨b,3,none⟩ v'):=by
 have hsz4:(w3.setCell ⟨b,3,none⟩ v').heap.size=w3.heap.size:=by simp [World.setCell]
 have s12:=ht.size
 have s23:=hg.size
 have hbl:=h.fl _ h.fb
 have h1l:=h.fl _ h.f1
 have h2l:=h.fl _ h.f2
 have ev:∀ x,v.ownBlock≠some x→x<w2.heap.size→v'.ownBlock≠some x:=fun x h1 h2=>by
  rcases hv with e | ⟨g,e,hg⟩
  ·rw [e];exact h1
  ·rw [e]
   intro e2
   have:=Option.some.inj e2
   omega
 -- blocks far from what is written
 have far:∀ x,x<w2.heap.size→x≠b→v.ownBlock≠some x→(w3.setCell ⟨b,3,none⟩ v').heap[x]? = w2.heap[x]? := fun x hx hb hv=>by
  rw [zak (p:=⟨b,3,none⟩) hb]
  exact hg.block x hx (fun e=>hv e.symm)
 have far0:∀ x,x<w.heap.size→x≠m2→w2.heap[x]? = w.heap[x]? := fun x hx hm=>ht.block x hx hm
 have hS:Same (SB F b m1 m2 v) w (w3.setCell ⟨b,3,none⟩ v'):=⟨by omega,fun x hx hl=>by
  rw [far x (by omega) hx.2.1 hx.2.2.2.2,far0 x hl hx.2.2.2.1]⟩
 have hT:∀ x,x<w.heap.size→SB F b m1 m2 v x→SB (fun x=>x<w3.heap.size∧(F x∨w.heap.size≤x)) b m1 m2 v' x:=fun x hx hs=>⟨⟨by omega,.inl hs.1⟩,hs.2.1,hs.2.2.1,hs.2.2.2.1,ev x hs.2.2.2.2 (by omega)⟩
 have hB2:Blk w2 b TDi (dkCs d m1 m2 v):=(far0 b hbl h.b2).trans h.blk
 have hB3:Blk w3 b TDi (dkCs d m1 m2 v):=(hg.block b (by omega) (fun e=>h.bv e.symm)).trans hB2
 refine ⟨⟨?_,?_,?_,?_,?_,fun i hi=>?_,fun x hx=>by rw [hsz4];exact hx.1,⟨by omega,.inl h.fb⟩,⟨by omega,.inl h.f1⟩,⟨by omega,.inl h.f2⟩,fun g hgv=>?_,h.mm,h.inv.more ⟨hc.at0.1,h1,hc.nm⟩ h2⟩,?_⟩
 ·have k:=hB3.set 3 v'
  simpa [dkCs,zd3] using k
 ·refine h.la.kept ?_ hS hT
  rw [far m1 (by omega) (Ne.symm h.b1) h.v1,far0 m1 h1l h.mm]
 ·rw [zft]
  refine hf.kept (far m2 (by omega) (Ne.symm h.b2) h.v2) (S:=fun x=>SB F b m1 m2 v x∨w.heap.size≤x) ⟨by omega,fun x hx hl=>?_⟩ fun x hx hs=>?_
  ·rcases hx with hs | hs
   ·exact far x hl hs.2.1 hs.2.2.2.2
   ·exact far x hl (by omega) fun e=>by have:=h.fl _ (h.fv x e);omega
  ·rcases hs with hs | hs
   ·have:=h.fl x hs.1
    exact hT x this hs
   ·exact ⟨⟨by omega,.inr hs⟩,by omega,by omega,by omega,ev x (fun e=>by have:=h.fl _ (h.fv x e);omega) hx⟩
 ·have e:(rows++[cs]).flatten=rows.flatten++cs:=by simp
  have e2:(zd3 d c).changes.length=d.changes.length+1:=by simp [zd3]
  rw [e,e2]
  refine zai hr fun g hgv=>?_
  rw [zak (p:=⟨b,3,none⟩) (fun e=>?_)]
  have e:g=b:=e
  rw [e] at hgv
  exact ev b h.bv (by omega) hgv
 ·simp [zd3,h.rl]
 ·have e2:(zd3 d c).changes.length=d.changes.length+1:=by simp [zd3]
  show ChAt _ _ ((d.changes++[c]).getD i default) ((rows++[cs]).getD i [])
  by_cases hi2:i<d.changes.length
  ·rw [zaK hi2,zaK (by rw [h.rl];exact hi2)]
   exact (h.ch i hi2).kept hS hT
  ·have:i=d.changes.length:=by omega
   subst this
   rw [zaL rfl,zaL h.rl.symm]
   exact hc.kept hS hT
 ·rcases hv with e | ⟨g',e,hge⟩
  ·rw [e] at hgv
   have:=h.fv g hgv
   have:=h.fl g this
   exact ⟨by omega,.inl (h.fv g hgv)⟩
  ·have e3:=hr.lt g hgv
   rw [e] at hgv
   have:=Option.some.inj hgv
   exact ⟨e3.2,.inr (by omega)⟩
 ·refine Turn.set ?_ (.inl h.fb) _
  refine (ht.mono (G:=F) fun x e=>?_).trans (Turn.grown (F:=fun x=>v.ownBlock=some x) hg fun x e=> .inl e) fun x hx e=>h.fv x e
  rw [e];exact h.f2
theorem DPost.after {w w4 w':World} {b:Nat} {F F1:Nat→Prop} {d':RDisk} {r:Value} {e:Ending} (hF:∀ x,F1 x→F x∨w.heap.size≤x) (ht:Turn F w w4) (h:DPost w4 b F1 d' r e w'):DPost w b F d' r e w':=by
 obtain ⟨he,F',h1,h2,h3⟩:=h
 refine ⟨he,F',h1,fun x hx=>?_,ht.trans h3 fun x hx hf=>?_⟩
 ·rcases h2 x hx with g | g
  ·exact hF x g
  ·exact .inr (Nat.le_trans ht.size g)
 ·rcases hF x hf with g | g
  ·exact g
  ·omega
theorem zkw {w:World} {v:Value} {n:Nat} {xs:List Value} (h:w.ownsRow 0 TCh 5 v (n+1) xs):∃ g cap,v = .slice (some ⟨g,0,none⟩) (n+1) cap:=by
 rcases h.2 with ⟨_,h2⟩ | ⟨g,cap,cur,rfl,_⟩
 ·omega
 ·exact ⟨g,cap,rfl⟩
theorem DkAt.drew {w:World} {b:Nat} {d:RDisk} {F:Nat→Prop} {m1 m2:Nat} {v:Value} {rows:List (List Value)} (h:DkAt w b d F m1 m2 v rows):DkAt w.drew b d F m1 m2 v rows:=
 h.kept (Nat.le_refl _) (fun _ _=>rfl) (fun _ h=>h) h.fl
theorem DkAt.below {w w':World} {b:Nat} {d:RDisk} {F:Nat→Prop} {m1 m2:Nat} {v:Value} {rows:List (List Value)} (h:DkAt w b d F m1 m2 v rows) (hb:Below w.heap.size w w'):DkAt w' b d F m1 m2 v rows:=
 h.kept hb.size (fun x hx=>hb.block x (h.fl x hx)) (fun _ h=>h) fun x hx=>Nat.lt_of_lt_of_le (h.fl x hx) hb.size
set_option maxHeartbeats 4000000 in
theorem zcF {w:World} {b:Nat} {d:RDisk} {F:Nat→Prop} {m1 m2:Nat} {v:Value} {rows:List (List Value)} {c:DChange} {cs:List Value} (h:DkAt w b d F m1 m2 v rows) (hc:ChAt w (SB F b m1 m2 v) c cs)
  (hN:d.lasts.length+d.changes.length≤5000) (h1:c.at_+c.bytes.length≤4194304) (h2:c.kind=1→c.at_≤((zab (zad d) c.file).getD []).length) :
  Calls Try.prog 47 #[ptrV b,.agg cs.toArray] w (DPost w b F (chgD d c) (.int .i64 0)):=by
 have hbb:=h.fl _ h.fb
 have hb2:=h.b2
 have hm2:=h.fl _ h.f2
 -- the worlds ahead of the call
 obtain ⟨wa,hwa⟩:∃ wa,w.alloc (.cells cs.toArray TCh)=wa:=⟨_,rfl⟩
 have hBa:Below w.heap.size w wa.drew:=by rw [← hwa];exact ((Below.refl _ w).alloc (Nat.le_refl _) _).drew
 have kx:Blk wa w.heap.size TCh cs.toArray:=by rw [← hwa];exact Blk.new w TCh cs.toArray
 have ha:DkAt wa.drew b d F m1 m2 v rows:=h.below hBa
 have hca:ChAt wa.drew (SB F b m1 m2 v) c cs:=hc.kept (Same.below hBa) fun _ _ h=>h
 have hones:=hc.ones
 obtain ⟨dv,bv,hcs,hdo,hbv⟩:=hca.D
 have hlen:=zcC d
 have hlk:=zbr h.inv.now c.file
 obtain ⟨f,cap,hdv,hB,hcall⟩:=zhU hdo ha.no ha.inv.sn (fun hs=>hs.2.2.2.1 rfl) (by omega) hc.nm hc.at0.1 hc.at0.2 hc.by0 (by omega)
 have hsz:w.heap.size<wa.heap.size:=by rw [← hwa];simp
 -- what stands behind the call
 have hmore:=fun (w2 w3:World) (v':Value) (ht:Turn (fun x=>x=m2) wa.drew w2) (hf:FilesAt w2 (fun x=>SB F b m1 m2 v x∨wa.drew.heap.size≤x) m2 (zag (zad d) c)) (hr:w3.ownsRow 0 TCh 5 v' (d.changes.length+1) (rows.flatten++cs)) (hg:w2.drew.grownBy w3 v.ownBlock) (hv:v'.ownBlock=v.ownBlock∨∃ g,v'.ownBlock=some g∧w2.heap.size≤g)=>ha.more hca h1 h2 ht hf hr ⟨hg.os,hg.tape,hg.output,hg.size,hg.block⟩ hv
 have hfin:∀ (w2 w3:World) (v':Value) (ht:Turn (fun x=>x=m2) wa.drew w2) (hf:FilesAt w2 (fun x=>SB F b m1 m2 v x∨wa.drew.heap.size≤x) m2 (zag (zad d) c)) (hr:w3.ownsRow 0 TCh 5 v' (d.changes.length+1) (rows.flatten++cs)) (hg:w2.drew.grownBy w3 v.ownBlock) (hv:v'.ownBlock=v.ownBlock∨∃ g,v'.ownBlock=some g∧w2.heap.size≤g),
   Calls Try.prog 33 #[ptrV b] (w3.setCell ⟨b,3,none⟩ v') fun e w'=>e = .returned (.tuple #[])∧DPost w b F (chgD d c) (.int .i64 0) (.returned (.int .i64 0)) w':=fun w2 w3 v' ht hf hr hg hv=>by
  obtain ⟨g1,g2⟩:=hmore w2 w3 v' ht hf hr hg hv
  refine (zdW ⟨_,_,_,_,g1⟩).mono fun e w' hp=>?_
  obtain ⟨he,F',p1,p2,p3⟩:=hp
  refine ⟨he,DPost.after (F1:=fun x=>x<w3.heap.size∧(F x∨wa.drew.heap.size≤x)) (fun x hx=>?_) ((Turn.below hBa).trans g2 fun x _ hx=>hx) ⟨rfl,F',p1,p2,p3⟩⟩
  rcases hx.2 with g | g
  ·exact .inl g
  ·exact .inr (Nat.le_trans hBa.size g)
 have HFI:=Lib.hid hfin
 have HCA:=Lib.hid hcall
 have hcf:=zau hB
 have q2:wa.cell? ⟨b,2,none⟩=some (.map (some m2)):=ha.blk.cell 2
 subst hcs
 obtain ⟨q0',q1',q2',q3',q4'⟩:=box5 kx
 have hB2:=fun (w2:World) (ht:Turn (fun x=>x=m2) wa.drew w2)=>(⟨ht.keep ha.blk hb2,ht.keep kx (by omega),zai ha.row fun g hg=>ht.block g (ha.fl _ (ha.fv g hg)) fun e=>ha.v2 (e▸hg)⟩:Blk w2 b TDi (dkCs d m1 m2 v)∧Blk w2 w.heap.size TCh #[.string c.file,dv,.int .i64 (chAt c),bv,.bool (c.kind==1)]∧w2.ownsRow 0 TCh 5 v d.changes.length rows.flatten)
 have HB2:=Lib.hid hB2
 have hbv2:=h.bv
 have hch:d.changes.length≤100000:=by omega
 have HON:=Lib.hid hones
 subst hdv
 clear hcall hfin hmore hB hB2 hdo hbv hca ha hBa hc h hones kx
 unfold ptrV at HFI ⊢
 go_enter Try.func47,Try.ntmps47
 go_wp2_with fail
 try rw [hwa]
 clear hwa
 go_still_tail 6,(by kernel_rfl)
 change wpList _ _ _ _ _ wa.drew
 go_wp2_with (first | (refine HCA.out.mono ?_;rintro e w2 ⟨rfl,ht,hf⟩))
 obtain ⟨kb,kx,hrow⟩:=HB2.out w2 ht
 obtain ⟨r0,r1,r2,r3,r4⟩:=box5 kx
 obtain ⟨s0,s1,s2,s3,s4,s5,s6⟩:=box7 kb
 obtain ⟨z0,z1,z2,z3,z4,z5,z6⟩:=zdU kb
 have HR:=Lib.hid (show w2.drew.ownsRow 0 TCh 5 v d.changes.length rows.flatten from zai hrow fun _ _=>rfl)
 have HKB:=Lib.hid kb
 have s3a:(w2.alloc (.cells #[.string c.file,.func (.func f) #[] cap.toArray,.int .i64 (chAt c),bv,.bool (c.kind==1)] 66)).cell? ⟨b,3,none⟩=some v:=(kb.alloc (.cells #[.string c.file,.func (.func f) #[] cap.toArray,.int .i64 (chAt c),bv,.bool (c.kind==1)] 66)).cell 3
 have HT:=Lib.hid ht
 have HF:=Lib.hid hf
 clear hrow kx ht hf kb
 go_region_law (first | (refine ze8 (w := w2.drew) rfl (.tmp 16) (.tmp 18) rfl v d.changes.length rows.flatten [.string c.file, .func (.func f) #[] cap.toArray, .int .i64 (chAt c), bv, .bool (c.kind == 1)] rfl HR.out rfl HON.out hch ⟨w2.heap.size, 0, none⟩ rfl rfl ?_; intro v' w3 hr3 hg3 hv3; obtain ⟨g', cap', rfl⟩ := zkw hr3; have HCL := Lib.hid (HFI.out w2 w3 _ HT.out HF.out hr3 hg3 hv3); have kb3 := HKB.out.drew.grown hg3 (fun e => hbv2 e.symm); obtain ⟨y0, y1, y2, y3, y4, y5, y6⟩ := box7 kb3; obtain ⟨x0, x1, x2, x3, x4, x5, x6⟩ := zdU kb3; clear hr3 hg3 hv3 kb3) | fail "none")
 all_goals
  go_wp2_with (go_at_call 33;refine HCL.out.mono ?_;rintro e w5 ⟨rfl,hp5⟩)
  go_ret
  exact hp5
theorem za3 (x:File) (l:List File):sumF (x::l)=x.bytes.length+sumF l:=by
 have key:∀ (l:List File) (a:Int),l.foldl (fun (s:Int) x=>s+((x.bytes.length:Nat):Int)) a=a+l.foldl (fun (s:Int) x=>s+((x.bytes.length:Nat):Int)) 0:=by
  intro l
  induction l with
  | nil=>intro a;simp
  | cons y l ih=>
   intro a
   rw [List.foldl_cons,List.foldl_cons,ih,ih (0+_)]
   omega
 unfold sumF
 rw [List.foldl_cons,key]
 omega
theorem zfC:sumF []=0:=rfl
theorem zgW (l:List File):0≤sumF l:=by
 induction l with
 | nil=>exact Int.le_refl 0
 | cons x l ih=>rw [za3];omega
theorem zi0 {M:List File} (hM:SortF M) {n:ByteArray} {bs:List Int} (hx:zab M n=some bs) (p:File→Bool) (hp:∀ y,y.name=n→p y=false):sumF (M.filter fun y=>p y||eqN y.name n)=sumF (M.filter p)+bs.length:=by
 induction M with
 | nil=>cases hx
 | cons y M ih=>
  obtain ⟨h1,h2⟩:=List.pairwise_cons.1 hM
  unfold zab at hx
  rw [List.filter_cons,List.filter_cons]
  cases e:eqN y.name n
  ·rw [e] at hx
   simp only [Bool.false_eq_true,if_false] at hx
   simp only [Bool.or_false]
   cases hpy:p y
   ·simpa using ih h2 hx
   ·simp only [if_true]
    rw [za3,za3,ih h2 hx]
    omega
  ·rw [e] at hx
   simp only [if_true,Option.some.injEq] at hx
   have en:=eqN_iff.1 e
   rw [hp y en]
   simp only [Bool.false_or,if_true,Bool.false_eq_true,if_false]
   have e2:∀ z∈M,(p z||eqN z.name n)=p z:=fun z hz=>by
    have:z.name≠n:=fun e3=>by
     have:=zbp (h1 z hz)
     exact this (en.trans e3.symm)
    rw [eqN_no.2 this,Bool.or_false]
   rw [List.filter_congr e2,za3,← hx]
   omega
theorem zfB {l:List File} (h:SortF l) (n:ByteArray):sumF (zbC l n)+((zab l n).getD []).length=sumF l:=by
 induction l with
 | nil=>rfl
 | cons x l ih=>
  obtain ⟨h1,h2⟩:=List.pairwise_cons.1 h
  have ih:=ih h2
  have el:zab (x::l) n=if eqN x.name n then some x.bytes else zab l n:=rfl
  unfold zbC at *
  rw [List.filter_cons,el]
  cases e:eqN x.name n
  ·simp only [Bool.not_false,if_true,Bool.false_eq_true,if_false]
   rw [za3,za3]
   omega
  ·simp only [Bool.not_true,Bool.false_eq_true,if_false,if_true,Option.getD_some]
   have hx:=eqN_iff.1 e
   rw [List.filter_eq_self.2 fun y hy=>by
    have:=zbp (h1 y hy)
    rw [hx] at this
    simp [eqN_no.2 (Ne.symm this)],za3]
   omega
theorem zkm {l:List File} (h:SortF l) (f:File):sumF (zax f l)+((zab l f.name).getD []).length=sumF l+f.bytes.length:=by
 induction l with
 | nil=>
  show sumF [f]+_=_
  rw [za3]
  show (f.bytes.length:Int)+sumF []+((([]:List Int).length:Nat):Int)=sumF []+f.bytes.length
  rw [zfC]
  simp
 | cons x l ih=>
  obtain ⟨h1,h2⟩:=List.pairwise_cons.1 h
  have ih:=ih h2
  unfold zax
  split
  ·have:=zfB h f.name
   unfold zbC at this
   rw [za3]
   omega
  ·rename_i hle
   rw [Bool.not_eq_true] at hle
   have hne:=zbp (zcf hle)
   have e:zab (x::l) f.name=zab l f.name:=by
    conv=>lhs;unfold zab
    rw [if_neg (by rw [Bool.not_eq_true];exact eqN_no.2 hne)]
   rw [e,za3,za3]
   omega
theorem zgN {M:List File} (h:SortF M) {n:ByteArray} {at_:Int} {b:List Int} (h0:0≤at_) (h1:at_≤((zab M n).getD []).length) :
  sumF (zag M ⟨1,n,at_,b⟩)=sumF M+(max (((zab M n).getD []).length:Int) (at_+b.length)-((zab M n).getD []).length)∧(zag M ⟨1,n,at_,b⟩).length=if (zab M n).isSome then M.length else M.length+1:=by
 have e:zag M ⟨1,n,at_,b⟩=zax ⟨n,za6 (za1 M n) at_.toNat b⟩ M:=by unfold zag;rw [if_pos rfl]
 rw [e,zap]
 have k:=zkm h ⟨n,za6 ((zab M n).getD []) at_.toNat b⟩
 have k2:=h.put_len ⟨n,za6 ((zab M n).getD []) at_.toNat b⟩
 refine ⟨?_,k2⟩
 simp only [za9] at k
 omega
theorem zkI (a b:ByteArray):(kS a).sameKey (kS b)=eqN a b:=by
 by_cases e:a=b
 ·subst e
  rw [zat]
  exact WideAt.sameKey_self (zh2 a)
 ·rw [eqN_no.2 e]
  exact Maps.sameKey_ne (zkJ e)
theorem zjD {l:List File} (h:SortF l) {n:ByteArray}:(((zab l n).getD []).length:Int)≤sumF l:=by
 have h1:=zfB h n
 have h2:=zgW (zbC l n)
 omega
theorem ziw {d:RDisk} (h:d.down=true) (n:ByteArray) (at_:Int) (b:List Int):wrD d n at_ b=(d,120):=by unfold wrD;rw [if_pos h]
theorem zl4 {d:RDisk} (hd:d.down=false) {M:List File} (hM:zad d=M) (hs:SortF M) (n:ByteArray) (at_:Int) (b:List Int) {lo:Nat} (hlo:((zab M n).getD []).length=lo) {A0 x1:Int} (hx:min at_ (lo:Int)+(b.length:Int)=x1) (hA:max (lo:Int) x1-(lo:Int)=A0) :
  wrD d n at_ b=if zb8 n=false then (d,122) else if at_<0∨at_>(lo:Int) then (d,123) else if A0+sumF M>d.room∨(((if (zab M n).isSome then M.length else M.length+1:Nat):Nat):Int)>16 then (d,121) else (chgD d ⟨1,n,at_,b⟩,0):=by
 unfold wrD
 rw [hd,hM,zap,hlo]
 simp only [Bool.false_eq_true,if_false]
 by_cases h1:zb8 n=false
 ·rw [if_pos h1,if_pos h1]
 ·rw [if_neg h1,if_neg h1]
  by_cases h2:at_<0∨at_>(lo:Int)
  ·rw [if_pos h2,if_pos h2]
  ·rw [if_neg h2,if_neg h2]
   obtain ⟨k1,k2⟩:=zgN hs (n:=n) (at_:=at_) (b:=b) (by omega) (by rw [hlo];omega)
   rw [hlo] at k1
   rw [k1,k2]
   have e:sumF M+(max (lo:Int) (at_+(b.length:Int))-(lo:Int))=A0+sumF M:=by omega
   rw [e]
theorem DkAt.grow {w:World} {b:Nat} {d:RDisk} {F:Nat→Prop} {m1 m2:Nat} {v:Value} {rows:List (List Value)} (h:DkAt w b d F m1 m2 v rows) {w0:World} (hw:w0.heap.size≤w.heap.size) (hF:∀ x,F x→x<w0.heap.size) {c:DChange} {cs:List Value} (hc:ChAt w (fun x=>w0.heap.size≤x) c cs) :
  DkAt w b d (fun x=>F x∨(w0.heap.size≤x∧x<w.heap.size)) m1 m2 v rows∧ChAt w (SB (fun x=>F x∨(w0.heap.size≤x∧x<w.heap.size)) b m1 m2 v) c cs:=by
 refine ⟨h.kept (Nat.le_refl _) (fun _ _=>rfl) (fun _ h=> .inl h) fun x hx=>?_,hc.kept (Same.refl _ _) fun x hx hs=>?_⟩
 ·rcases hx with hx | hx
  ·exact h.fl x hx
  ·exact hx.2
 ·have hs:w0.heap.size≤x:=hs
  have a1:=hF _ h.fb
  have a2:=hF _ h.f1
  have a3:=hF _ h.f2
  exact ⟨.inr ⟨hs,hx⟩,by omega,by omega,by omega,fun e=>by have:=hF _ (h.fv x e);omega⟩
set_option maxHeartbeats 4000000 in
theorem ze6 {w:World} {b:Nat} {d:RDisk} {F:Nat→Prop} (h:DkOk w b d F) (hN:d.lasts.length+d.changes.length≤5000) {S:Nat→Prop} {bv:Value} {bs:List Int} (hr:BRd w S bv bs) (hl:bs.length≤1000000) {n:ByteArray} (hn:NmOk n) {at_:Int} (hat:I64 at_) :
  Calls Try.prog 22 #[ptrV b,.string n,.int .i64 at_,bv] w (DPost w b F (wrD d n at_ bs).1 (.int .i64 (wrD d n at_ bs).2)):=by
 have hst:=Lib.hid (zaV h)
 have h0:=Lib.hid h
 obtain ⟨m1,m2,v,rows,h⟩:=h.o
 cases hd:d.down
 case true=>
  rw [hd] at hst
  rw [ziw hd]
  clear h hr
  unfold ptrV at hst ⊢
  go_enter Try.func22,Try.ntmps22
  go_wp2_with (go_at_call 29;refine hst.out.mono ?_;rintro e w1 ⟨rfl,hb1⟩)
  go_ret
  exact DPost.same h0.out hb1
 rw [hd] at hst
 have hK:=fun (w1:World) (hb:Below w.heap.size w w1)=>h.below hb
 have HK:=Lib.hid hK
 obtain ⟨a3,c3,rfl,_⟩:=hr.shape
 have HR:=Lib.hid hr
 clear hK hr
 obtain ⟨lb,hlb⟩:∃ lb,bs.length=lb:=⟨_,rfl⟩
 obtain ⟨M,hM⟩:∃ M,zad d=M:=⟨_,rfl⟩
 obtain ⟨lo,hlo⟩:∃ lo,((zab M n).getD []).length=lo:=⟨_,rfl⟩
 rw [hlb] at hl
 have hlo2:lo≤4194304:=by rw [← hlo,← hM];exact zbr h.inv.now n
 have hMl:M.length≤5000:=by rw [← hM];have:=zcC d;omega
 obtain ⟨x1,hx1⟩:∃ x1:Int,min at_ (lo:Int)+(lb:Int)=x1:=⟨_,rfl⟩
 obtain ⟨A0,hA0⟩:∃ A0:Int,max (lo:Int) x1-(lo:Int)=A0:=⟨_,rfl⟩
 have hA1:0≤A0∧A0≤1000000:=by omega
 have hw1:wrap64 (min at_ (lo:Int)+(lb:Int))=x1:=by
  have h1 : -9223372036854775808≤at_:=hat.1
  unfold wrap64;omega
 have hw2:wrap64 (max (lo:Int) x1-(lo:Int))=A0:=by unfold wrap64;omega
 have hsumb:∀ p:File→Bool,0≤sumF (M.filter p)∧sumF (M.filter p)≤30000000000:=fun p=>by
  refine ⟨zgW _,?_⟩
  have h1:=(zkn (M:=4194304) (M.filter p) (fun x hx=>by
   have:=List.mem_filter.1 hx
   exact h.inv.now x (hM▸this.1))).2
  have h2:=List.length_filter_le p M
  have h3:((M.filter p).length*4194304:Nat)≤5000*4194304:=Nat.mul_le_mul_right _ (by omega)
  omega
 have HSB:=Lib.hid hsumb
 have hsM:SortF M:=hM▸h.inv.sn
 have HSM:=Lib.hid hsM
 have HL:=Lib.hid (⟨hlo2,hMl,hA1,hx1,hA0⟩:lo≤4194304∧M.length≤5000∧(0≤A0∧A0≤1000000)∧min at_ (lo:Int)+(lb:Int)=x1∧max (lo:Int) x1-(lo:Int)=A0)
 have HI:=Lib.hid h.inv
 have HSP:=Lib.hid (zl4 hd hM hsM n at_ bs hlo (by rw [hlb];exact hx1) hA0)
 clear hsumb hlo2 hMl hx1 hA0 hA1 h hsM
 unfold ptrV at hst ⊢
 go_enter Try.func22,Try.ntmps22
 go_wp2_with (first | (go_at_call 29;refine hst.out.mono ?_;rintro e w1 ⟨rfl,hb1⟩;have k1:=HK.out w1 hb1;obtain ⟨q0,q1,q2,q3,q4,q5,q6⟩:=box7 k1.blk;obtain ⟨u,hlk,_,hu⟩:=k1.no.look hn;have hno:=k1.no;rw [hM] at hlk hu hno;obtain ⟨a2,c2,rfl,_⟩:=hu.shape;rw [hlo] at hlk;obtain ⟨D,hown,hsz,hDk⟩:=hno.D;have HOWN:=Lib.hid hown;have HSZ:=Lib.hid hsz;have HDK:=Lib.hid hDk;have HU:=Lib.hid hu;have HKK:=Lib.hid k1;have HB1:=Lib.hid hb1;clear hu k1 hb1 hown hsz hDk hno) | (at_len;refine wpList_len_own _ rfl _ 55 rfl TSt TBy undF RV m2 M.length D rfl HOWN.out ?_) | (at_range;refine wpList_range_own _ rfl _ 55 rfl TSt TBy keyS undF RV m2 M.length D rfl HOWN.out ?_;intro w2 hrg0 hg0 hs0) | fail)
 have HG0:=Lib.hid hg0
 have HRG:=Lib.hid hrg0
 clear hg0 hrg0 hs0
 go_frame
 go_loopw [12] (fun kv wr=>∃ (left:Lit→Bool) (cnt:Nat),kv = .int .i64 (A0+sumF (M.filter fun x=>!left (kS x.name)))∧Hid (wr.ranges Try.prog TSt RV m2 w1.heap.size M.length D left cnt)∧Hid (Below w.heap.size w wr)) (fun _ wr=>wr.rangeLeft m2 w1.heap.size)
 case atStart=>
  refine ⟨_,_,?_,HRG,Lib.hid (HB1.out.grown HG0.out HB1.out.size fun j hj=>by cases hj)⟩
  have e:(M.filter fun x=>!Maps.has D (kS x.name))=[]:=by
   rw [List.filter_eq_nil_iff]
   intro x hx
   rw [(HDK.out x.name).1,HSM.out.look hx]
   exact Bool.false_ne_true
  rw [e,zfC]
  simp
 case round=>
  obtain ⟨left,cnt,rfl,HRG1,HBW⟩:=hrel
  go_wp2_with (first | (at_next;refine wpList_next_ranges (w:=wr) rfl _ rfl TSt keyS RV Value.string id (fun key kl hk=>by obtain ⟨s,e,_⟩:=zjK hk;exact ⟨s,e⟩) (fun v y hv=>⟨v,rfl⟩) m2 w1.heap.size M.length D left cnt rfl HRG1.out ?_ ?_) | fail)
  ·intro hc0 hl0
   have eS:(M.filter fun x=>!left (kS x.name))=M:=List.filter_eq_self.2 fun x _=>by rw [hl0];rfl
   rw [eS]
   have kw:=HK.out wr HBW.out
   obtain ⟨q0,q1,q2,q3,q4,q5,q6⟩:=box7 kw.blk
   have HKW:=Lib.hid kw
   clear kw eS hl0 HRG1 hc0
   have hsp:=HSP.out
   rw [HSZ.out]
   obtain ⟨th,hth⟩:∃ th,(zab M n).isSome=th:=⟨_,rfl⟩
   rw [hth] at hsp ⊢
   have hml:=HL.out.2.1
   have hwm:wrap64 ((M.length:Int)+1)=(M.length:Int)+1:=by unfold wrap64;omega
   have hnm:=Lib.hid (zfR n wr hn)
   obtain ⟨SM,hSM⟩:∃ SM,sumF M=SM:=⟨_,rfl⟩
   rw [hSM] at hsp ⊢
   obtain ⟨ml,hmln⟩:∃ ml,M.length=ml:=⟨_,rfl⟩
   rw [hmln] at hsp hml hwm ⊢
   cases hnb:zb8 n
   ·rw [hnb,if_pos rfl] at hsp
    have hsp:=Lib.hid hsp
    rw [hnb] at hnm
    clear hml
    cases th
    all_goals
     go_wp2_with (first | (go_at_call 30;refine hnm.out.mono ?_;rintro e w4 ⟨rfl,hb4⟩) | fail)
     go_ret
     rw [hsp.out]
     exact DPost.same h0.out (HBW.out.trans (hb4.mono HBW.out.size))
   ·rw [hnb,if_neg (by decide)] at hsp
    rw [hnb] at hnm
    by_cases h2:at_<0∨at_>(lo:Int)
    ·rw [if_pos h2] at hsp
     have hsp:=Lib.hid hsp
     by_cases h21:at_<0
     ·have c1:decide (at_<0)=true:=decide_eq_true h21
      clear h2
      cases th
      all_goals
       go_wp2_with (first | (go_at_call 30;refine hnm.out.mono ?_;rintro e w4 ⟨rfl,hb4⟩;have k4:=HK.out w4 (HBW.out.trans (hb4.mono HBW.out.size));obtain ⟨q0,q1,q2,q3,q4,q5,q6⟩:=box7 k4.blk;have HB4:=Lib.hid (HBW.out.trans (hb4.mono HBW.out.size));clear k4 hb4) | fail)
       go_ret
       rw [hsp.out]
       exact DPost.same h0.out HB4.out
     ·have c1:decide (at_<0)=false:=decide_eq_false h21
      have c2:decide (at_>(lo:Int))=true:=decide_eq_true (by omega)
      clear h2
      cases th
      all_goals
       go_wp2_with (first | (go_at_call 30;refine hnm.out.mono ?_;rintro e w4 ⟨rfl,hb4⟩;have k4:=HK.out w4 (HBW.out.trans (hb4.mono HBW.out.size));obtain ⟨q0,q1,q2,q3,q4,q5,q6⟩:=box7 k4.blk;have HB4:=Lib.hid (HBW.out.trans (hb4.mono HBW.out.size));clear k4 hb4) | fail)
       go_ret
       rw [hsp.out]
       exact DPost.same h0.out HB4.out
    ·rw [if_neg h2] at hsp
     have c1:decide (at_<0)=false:=decide_eq_false (by omega)
     have c2:decide (at_>(lo:Int))=false:=decide_eq_false (by omega)
     have H2:=Lib.hid h2
     clear h2
     by_cases h3:A0+SM>d.room∨(((if th=true then ml else ml+1:Nat):Nat):Int)>16
     ·rw [if_pos h3] at hsp
      have hsp:=Lib.hid hsp
      by_cases h31:A0+SM>d.room
      ·have c3:decide (A0+SM>d.room)=true:=decide_eq_true h31
       clear h3
       cases th
       all_goals
        go_wp2_with (first | (go_at_call 30;refine hnm.out.mono ?_;rintro e w4 ⟨rfl,hb4⟩;have k4:=HK.out w4 (HBW.out.trans (hb4.mono HBW.out.size));obtain ⟨q0,q1,q2,q3,q4,q5,q6⟩:=box7 k4.blk;have HB4:=Lib.hid (HBW.out.trans (hb4.mono HBW.out.size));clear k4 hb4) | fail)
        go_ret
        rw [hsp.out]
        exact DPost.same h0.out HB4.out
      ·have c3:decide (A0+SM>d.room)=false:=decide_eq_false h31
       cases th
       ·have c4:decide ((ml:Int)+1>16)=true:=decide_eq_true (by have:=h3.resolve_left h31;simpa using this)
        clear h3
        go_wp2_with (first | (go_at_call 30;refine hnm.out.mono ?_;rintro e w4 ⟨rfl,hb4⟩;have k4:=HK.out w4 (HBW.out.trans (hb4.mono HBW.out.size));obtain ⟨q0,q1,q2,q3,q4,q5,q6⟩:=box7 k4.blk;have HB4:=Lib.hid (HBW.out.trans (hb4.mono HBW.out.size));clear k4 hb4) | fail)
        go_ret
        rw [hsp.out]
        exact DPost.same h0.out HB4.out
       ·have c4:decide ((ml:Int)>16)=true:=decide_eq_true (by have:=h3.resolve_left h31;simpa using this)
        clear h3
        go_wp2_with (first | (go_at_call 30;refine hnm.out.mono ?_;rintro e w4 ⟨rfl,hb4⟩;have k4:=HK.out w4 (HBW.out.trans (hb4.mono HBW.out.size));obtain ⟨q0,q1,q2,q3,q4,q5,q6⟩:=box7 k4.blk;have HB4:=Lib.hid (HBW.out.trans (hb4.mono HBW.out.size));clear k4 hb4) | fail)
        go_ret
        rw [hsp.out]
        exact DPost.same h0.out HB4.out
     ·rw [if_neg h3] at hsp
      have hsp:=Lib.hid hsp
      have c3:decide (A0+SM>d.room)=false:=decide_eq_false (by omega)
      have hfit:at_+(bs.length:Int)≤4194304:=by
       have h4:=HI.out.rm.2
       obtain ⟨_,_,_,g1,g2⟩:=HL.out
       have h5:=H2.out
       have h6:=zjD (n:=n) HSM.out
       rw [hlo,hSM] at h6
       have h7:¬ A0+SM>d.room:=fun e=>h3 (.inl e)
       rw [hlb]
       omega
      have hwr:=fun (w4:World) (hb:Below w.heap.size w w4)=>zbX (w:=w4) hn (at_:=at_) (by have:=H2.out;omega) (by have:=H2.out;have:=HL.out.1;omega) (HR.out.here.same (Same.below hb)) (by omega:bs.length≤10000000)
      have HW:=Lib.hid hwr
      have hch:=fun (w4 w5:World) (hb:Below w.heap.size w w4) (hb5:Below w4.heap.size w4 w5) (cs:List Value) (hc:ChAt w5 (fun x=>w4.heap.size≤x) ⟨1,n,at_,bs⟩ cs)=>by
       obtain ⟨g1,g2⟩:=(HK.out w5 (hb.trans (hb5.mono hb.size))).grow (w0:=w) (Nat.le_trans hb.size hb5.size) (fun x hx=>h0.out.lt hx) (hc.kept (Same.refl _ _) fun x _ hx=>Nat.le_trans hb.size hx)
       have g3:=zcF g1 g2 hN hfit (fun _=>by rw [hM,hlo];have:=H2.out;show at_≤_;omega)
       exact g3.mono fun e w6 hp=>DPost.after (w:=w) (F:=F) (fun x hx=>hx.imp id fun h=>h.1) (Turn.below (hb.trans (hb5.mono hb.size))) hp
      have HCH:=Lib.hid hch
      clear hch hwr hfit
      cases th
      ·have c4:decide ((ml:Int)+1>16)=false:=decide_eq_false (fun e=>h3 (.inr (by simpa using e)))
       clear h3
       go_wp2_with (first | (go_at_call 30;refine hnm.out.mono ?_;rintro e w4 ⟨rfl,hb4⟩;have k4:=HK.out w4 (HBW.out.trans (hb4.mono HBW.out.size));obtain ⟨q0,q1,q2,q3,q4,q5,q6⟩:=box7 k4.blk;have HB4:=Lib.hid (HBW.out.trans (hb4.mono HBW.out.size));clear k4 hb4) | (go_at_call 34;rw [← hlb];refine (HW.out _ HB4.out).mono ?_;rintro e w5 ⟨cs,rfl,hc5,hb5⟩;have HCC:=Lib.hid (HCH.out _ _ HB4.out hb5 cs hc5)) | (go_at_call 47;refine HCC.out.mono ?_;rintro e w6 ⟨rfl,hp6⟩;have HP6:=Lib.hid hp6;clear hp6) | fail)
       go_ret
       rw [hsp.out]
       exact ⟨rfl,HP6.out⟩
      ·have c4:decide ((ml:Int)>16)=false:=decide_eq_false (fun e=>h3 (.inr (by simpa using e)))
       clear h3
       go_wp2_with (first | (go_at_call 30;refine hnm.out.mono ?_;rintro e w4 ⟨rfl,hb4⟩;have k4:=HK.out w4 (HBW.out.trans (hb4.mono HBW.out.size));obtain ⟨q0,q1,q2,q3,q4,q5,q6⟩:=box7 k4.blk;have HB4:=Lib.hid (HBW.out.trans (hb4.mono HBW.out.size));clear k4 hb4) | (go_at_call 34;rw [← hlb];refine (HW.out _ HB4.out).mono ?_;rintro e w5 ⟨cs,rfl,hc5,hb5⟩;have HCC:=Lib.hid (HCH.out _ _ HB4.out hb5 cs hc5)) | (go_at_call 47;refine HCC.out.mono ?_;rintro e w6 ⟨rfl,hp6⟩;have HP6:=Lib.hid hp6;clear hp6) | fail)
       go_ret
       rw [hsp.out]
       exact ⟨rfl,HP6.out⟩
  ·intro x c kl yd yp w3 cnt3 hkey hlk2 hv hat3 hrg3 hlt3 hg3 hs3 hen
   obtain ⟨s,es,rfl⟩:=zjK hkey
   simp only [Value.string.injEq] at es
   subst es
   have ey:yd = .held c:=by
    unfold RV at hv
    simp only [Option.some.injEq,Prod.mk.injEq] at hv
    exact hv.1.symm
   subst ey
   have hhas:=Maps.has_true_of_atKey hat3
   rw [(HDK.out x).1] at hhas
   obtain ⟨b2,hb2⟩:=Option.isSome_iff_exists.1 hhas
   obtain ⟨u2,g1,g2⟩:=(HDK.out x).2 b2 hb2
   have ec:=(hat3 (.held c)).symm.trans (g1 _)
   simp only [DataW.held.injEq] at ec
   subst ec
   obtain ⟨a4,c4,rfl,_⟩:=g2.shape
   have hstep:=zi0 HSM.out hb2 (fun y=>!left (kS y.name)) (fun y e=>by rw [e,hlk2];rfl)
   have e3:(fun y:File=>!left (kS y.name)||eqN y.name x)=fun y=>!(left (kS y.name)&&!(kS y.name).sameKey (kS x)):=by
    funext y
    rw [zkI]
    cases left (kS y.name)<;>cases eqN y.name x<;>rfl
   rw [e3] at hstep
   have hb3:=HSB.out (fun y=>!(left (kS y.name)&&!(kS y.name).sameKey (kS x)))
   have hb4:=HSB.out (fun y=>!left (kS y.name))
   have hA:=HL.out.2.2.1
   obtain ⟨s1,hs1⟩:∃ s1,sumF (M.filter fun y=>!left (kS y.name))=s1:=⟨_,rfl⟩
   obtain ⟨s2,hs2⟩:∃ s2,sumF (M.filter fun y=>!(left (kS y.name)&&!(kS y.name).sameKey (kS x)))=s2:=⟨_,rfl⟩
   rw [hs1] at hb4 hstep ⊢
   rw [hs2] at hb3 hstep
   have hw3:wrap64 (A0+s1+(b2.length:Int))=A0+s2:=by unfold wrap64;omega
   have hS2:=Lib.hid hs2
   have HRG3:=Lib.hid hrg3
   have HBW3:=Lib.hid (HBW.out.grown hg3 HBW.out.size fun j hj=>by cases hj;exact HB1.out.size)
   clear hs2 hrg3 hg3 hb3 hb4 hstep e3 hat3 g1 g2 hv hA hs1
   go_wp2
   go_roundw
   case rel=>
    refine ⟨fun z=>left z&&!z.sameKey (kS x),cnt3,?_,HRG3,HBW3⟩
    rw [hS2.out,hw3]
   case measure=>rw [HRG3.out.left_eq,HRG1.out.left_eq];exact hlt3
theorem zib {d:RDisk} (n:ByteArray) (k:Int):cutD d n k=if d.down then ((d,120):RDisk×Int) else (match zab (zad d) n with | none=>(d,122) | some b=>if k<0∨k>b.length then (d,123) else (chgD d ⟨2,n,k,[]⟩,0)):=by
 unfold cutD
 have h:=(zay (zad d) n).1
 split
 ·rfl
 ·cases e:zab (zad d) n with
  | none=>rw [if_pos (h.2 e)]
  | some b=>
   rw [if_neg (fun g=>by rw [h.1 g] at e;cases e),zap,e]
   rfl
theorem zi6 {d:RDisk} (n:ByteArray):rmD d n=if d.down then ((d,120):RDisk×Int) else if (zab (zad d) n).isSome then (chgD d ⟨3,n,0,[]⟩,0) else (d,122):=by
 unfold rmD
 have h:=(zay (zad d) n).1
 split
 ·rfl
 ·cases e:zab (zad d) n with
  | none=>rw [if_pos (h.2 e)];rfl
  | some b=>rw [if_neg (fun g=>by rw [h.1 g] at e;cases e)];rfl
set_option maxHeartbeats 4000000 in
theorem zji {w:World} {b:Nat} {d:RDisk} {F:Nat→Prop} (h:DkOk w b d F) (hN:d.lasts.length+d.changes.length≤5000) {n:ByteArray} (hn:NmOk n) {k:Int} (hk:I64 k) :
  Calls Try.prog 23 #[ptrV b,.string n,.int .i64 k] w (DPost w b F (cutD d n k).1 (.int .i64 (cutD d n k).2)):=by
 have h0:=Lib.hid h
 have hsp:=zib (d:=d) n k
 have hst:=fun (w1:World) (hb:Below w.heap.size w w1)=>zaV (h.kept hb.size fun x hx=>hb.block x (h.lt hx))
 have HST:=Lib.hid hst
 clear hst
 obtain ⟨m1,m2,v,rows,h⟩:=h.o
 have hK:=fun (w1:World) (hb:Below w.heap.size w w1)=>h.below hb
 have HK:=Lib.hid hK
 clear hK
 have HI:=Lib.hid h.inv
 have hB0:Below w.heap.size w ((w.alloc (.cells #[.string n] TSt)).alloc (.cells #[.int .i64 k] TIn)):=((Below.refl _ w).alloc (Nat.le_refl _) _).alloc (by simp) _
 have HB0:=Lib.hid hB0
 clear hB0
 have HN:=Lib.hid hn
 unfold ptrV at HST ⊢
 cases hd:d.down
 case true=>
  rw [hd] at HST
  rw [hd,if_pos rfl] at hsp
  rw [hsp]
  clear h
  go_enter Try.func23,Try.ntmps23
  go_wp2_with (go_at_call 29;refine (HST.out _ HB0.out).mono ?_;rintro e w1 ⟨rfl,hb1⟩)
  go_ret
  exact DPost.same h0.out (HB0.out.trans (hb1.mono HB0.out.size))
 rw [hd] at HST
 rw [hd,if_neg (by decide)] at hsp
 have hch:=fun (w5:World) (hb:Below w.heap.size w w5) (c:DChange) (cs:List Value) (hc:ChAt w5 (fun x=>w.heap.size≤x) c cs) (h1:c.at_+c.bytes.length≤4194304) (h2:c.kind=1→c.at_≤((zab (zad d) c.file).getD []).length)=>by
  obtain ⟨g1,g2⟩:=(HK.out w5 hb).grow hb.size (fun x hx=>h0.out.lt hx) hc
  exact (zcF g1 g2 hN h1 h2).mono fun e w6 hp=>DPost.after (w:=w) (F:=F) (fun x hx=>hx.imp id fun h=>h.1) (Turn.below hb) hp
 have HCH:=Lib.hid hch
 clear hch h
 go_enter Try.func23,Try.ntmps23
 go_wp2_with (go_at_call 29;refine (HST.out _ HB0.out).mono ?_;rintro e w1 ⟨rfl,hb1⟩)
 have hbw:=HB0.out.trans (hb1.mono HB0.out.size)
 have k1:=HK.out w1 hbw
 obtain ⟨q0,q1,q2,q3,q4,q5,q6⟩:=box7 k1.blk
 obtain ⟨u,hlk,_,hu⟩:=k1.drew.no.look hn
 have kA:=((Blk.new w TSt #[.string n]).alloc (.cells #[.int .i64 k] TIn)).next hb1
 have kB:=(Blk.newAt (w.alloc (.cells #[.string n] TSt)) (w.heap.size+1) TIn #[.int .i64 k] (by simp)).next hb1
 have r0:=box1 kA
 have r1:=box1 kB
 have HKA:=Lib.hid kA
 have HKB:=Lib.hid kB
 have HBW:=Lib.hid hbw
 clear hbw k1 kA kB hb1
 obtain ⟨a2,c2,rfl,_⟩:=hu.shape
 clear hu
 cases hlf:zab (zad d) n with
 | none=>
  rw [hlf] at hlk hsp
  simp only [Option.isSome_none,Option.getD_none] at hlk
  dsimp only at hsp
  have HSP:=Lib.hid hsp
  clear hsp
  go_region_held3 (fun W=>W.cell? ⟨b,2,none⟩=some (.map (some m2))∧W.cell? ⟨w.heap.size,0,none⟩=some (.string n)) (first | exact ⟨q2,r0⟩ | fail) (first | fail)
  go_wp2
  go_ret
  rw [HSP.out]
  exact DPost.same h0.out HBW.out.drew
 | some bs=>
  rw [hlf] at hlk hsp
  simp only [Option.isSome_some,Option.getD_some] at hlk
  dsimp only at hsp
  obtain ⟨lo,hlo⟩:∃ lo,bs.length=lo:=⟨_,rfl⟩
  have hlo2:lo≤4194304:=by have:=zbr HI.out.now n;rw [hlf] at this;rw [← hlo];exact this
  rw [hlo] at hlk hsp
  by_cases h2:k<0∨k>(lo:Int)
  ·rw [if_pos h2] at hsp
   have HSP:=Lib.hid hsp
   clear hsp
   by_cases h21:k<0
   ·have c1:decide (k<0)=true:=decide_eq_true h21
    clear h2
    go_region_held3 (fun W=>W.cell? ⟨b,2,none⟩=some (.map (some m2))∧W.cell? ⟨w.heap.size,0,none⟩=some (.string n)) (first | exact ⟨q2,r0⟩ | fail) (first | fail)
    go_wp2
    go_ret
    rw [HSP.out]
    exact DPost.same h0.out HBW.out.drew
   ·have c1:decide (k<0)=false:=decide_eq_false h21
    have c2:decide (k>(lo:Int))=true:=decide_eq_true (by omega)
    clear h2
    go_region_held3 (fun W=>W.cell? ⟨b,2,none⟩=some (.map (some m2))∧W.cell? ⟨w.heap.size,0,none⟩=some (.string n)) (first | exact ⟨q2,r0⟩ | fail) (first | fail)
    go_wp2
    go_ret
    rw [HSP.out]
    exact DPost.same h0.out HBW.out.drew
  ·rw [if_neg h2] at hsp
   have HSP:=Lib.hid hsp
   clear hsp
   have c1:decide (k<0)=false:=decide_eq_false (by omega)
   have c2:decide (k>(lo:Int))=false:=decide_eq_false (by omega)
   have hca:ChAt w1.drew (fun x=>w.heap.size≤x) ⟨2,n,k,[]⟩ [.string n,.func (.func fCu) #[] #[ptrV w.heap.size,ptrV (w.heap.size+1)],.int .i64 0,.slice none 0 0,.bool false]:=
    ⟨⟨_,_,rfl,.cu rfl ⟨Nat.le_refl _,Nat.le_succ _⟩ HKA.out.drew HKB.out.drew,BRd.nil _ _⟩,HN.out,⟨by show 0≤k;omega,by show k≤_;omega⟩,by show (0:Nat)≤_;omega⟩
   have HC:=Lib.hid (HCH.out w1.drew HBW.out.drew _ _ hca (by show k+((([]:List Int).length:Nat):Int)≤_;simp;omega) (fun e=>absurd e (by show ¬ (2:Int)=1;decide)))
   unfold ptrV at HC
   clear hca h2
   go_region_held3 (fun W=>W.cell? ⟨b,2,none⟩=some (.map (some m2))∧W.cell? ⟨w.heap.size,0,none⟩=some (.string n)) (first | exact ⟨q2,r0⟩ | fail) (first | fail)
   go_wp2_with (go_at_call 47;refine HC.out.mono ?_;rintro e w6 ⟨rfl,hp6⟩;have HP6:=Lib.hid hp6;clear hp6)
   go_ret
   rw [HSP.out]
   exact ⟨rfl,HP6.out⟩
set_option maxHeartbeats 4000000 in
theorem zhT {w:World} {b:Nat} {d:RDisk} {F:Nat→Prop} (h:DkOk w b d F) (hN:d.lasts.length+d.changes.length≤5000) {n:ByteArray} (hn:NmOk n) :
  Calls Try.prog 24 #[ptrV b,.string n] w (DPost w b F (rmD d n).1 (.int .i64 (rmD d n).2)):=by
 have h0:=Lib.hid h
 have hsp:=zi6 (d:=d) n
 have hst:=fun (w1:World) (hb:Below w.heap.size w w1)=>zaV (h.kept hb.size fun x hx=>hb.block x (h.lt hx))
 have HST:=Lib.hid hst
 clear hst
 obtain ⟨m1,m2,v,rows,h⟩:=h.o
 have hK:=fun (w1:World) (hb:Below w.heap.size w w1)=>h.below hb
 have HK:=Lib.hid hK
 clear hK
 have hB0:Below w.heap.size w (w.alloc (.cells #[.string n] TSt)):=(Below.refl _ w).alloc (Nat.le_refl _) _
 have HB0:=Lib.hid hB0
 clear hB0
 have HN:=Lib.hid hn
 unfold ptrV at HST ⊢
 cases hd:d.down
 case true=>
  rw [hd] at HST
  rw [hd,if_pos rfl] at hsp
  rw [hsp]
  clear h
  go_enter Try.func24,Try.ntmps24
  go_wp2_with (go_at_call 29;refine (HST.out _ HB0.out).mono ?_;rintro e w1 ⟨rfl,hb1⟩)
  go_ret
  exact DPost.same h0.out (HB0.out.trans (hb1.mono HB0.out.size))
 rw [hd] at HST
 rw [hd,if_neg (by decide)] at hsp
 have hch:=fun (w5:World) (hb:Below w.heap.size w w5) (c:DChange) (cs:List Value) (hc:ChAt w5 (fun x=>w.heap.size≤x) c cs) (h1:c.at_+c.bytes.length≤4194304) (h2:c.kind=1→c.at_≤((zab (zad d) c.file).getD []).length)=>by
  obtain ⟨g1,g2⟩:=(HK.out w5 hb).grow hb.size (fun x hx=>h0.out.lt hx) hc
  exact (zcF g1 g2 hN h1 h2).mono fun e w6 hp=>DPost.after (w:=w) (F:=F) (fun x hx=>hx.imp id fun h=>h.1) (Turn.below hb) hp
 have HCH:=Lib.hid hch
 clear hch h
 go_enter Try.func24,Try.ntmps24
 go_wp2_with (go_at_call 29;refine (HST.out _ HB0.out).mono ?_;rintro e w1 ⟨rfl,hb1⟩)
 have hbw:=HB0.out.trans (hb1.mono HB0.out.size)
 have k1:=HK.out w1 hbw
 obtain ⟨q0,q1,q2,q3,q4,q5,q6⟩:=box7 k1.blk
 obtain ⟨u,hlk,_,hu⟩:=k1.drew.no.look hn
 have kA:=(Blk.new w TSt #[.string n]).next hb1
 have r0:=box1 kA
 have HKA:=Lib.hid kA
 have HBW:=Lib.hid hbw
 clear hbw k1 kA hb1
 obtain ⟨a2,c2,rfl,_⟩:=hu.shape
 clear hu
 obtain ⟨lo,hlo⟩:∃ lo,((zab (zad d) n).getD []).length=lo:=⟨_,rfl⟩
 rw [hlo] at hlk
 cases hlf:(zab (zad d) n).isSome
 ·rw [hlf] at hlk hsp
  rw [if_neg (by decide)] at hsp
  have HSP:=Lib.hid hsp
  clear hsp
  go_region_held3 (fun W=>W.cell? ⟨b,2,none⟩=some (.map (some m2))∧W.cell? ⟨w.heap.size,0,none⟩=some (.string n)) (first | exact ⟨q2,r0⟩ | fail) (first | fail)
  go_wp2
  go_ret
  rw [HSP.out]
  exact DPost.same h0.out HBW.out.drew
 ·rw [hlf] at hlk hsp
  rw [if_pos rfl] at hsp
  have HSP:=Lib.hid hsp
  clear hsp
  have hca:ChAt w1.drew (fun x=>w.heap.size≤x) ⟨3,n,0,[]⟩ [.string n,.func (.func fRm) #[] #[ptrV w.heap.size],.int .i64 0,.slice none 0 0,.bool false]:=
   ⟨⟨_,_,rfl,.rm rfl (Nat.le_refl _) HKA.out.drew,BRd.nil _ _⟩,HN.out,⟨Int.le_refl 0,by show (0:Int)≤10000000;decide⟩,by show (0:Nat)≤_;omega⟩
  have HC:=Lib.hid (HCH.out w1.drew HBW.out.drew _ _ hca (by show (0:Int)+((([]:List Int).length:Nat):Int)≤_;simp) (fun e=>absurd e (by show ¬ (3:Int)=1;decide)))
  unfold ptrV at HC
  clear hca
  go_region_held3 (fun W=>W.cell? ⟨b,2,none⟩=some (.map (some m2))∧W.cell? ⟨w.heap.size,0,none⟩=some (.string n)) (first | exact ⟨q2,r0⟩ | fail) (first | fail)
  go_wp2_with (go_at_call 47;refine HC.out.mono ?_;rintro e w6 ⟨rfl,hp6⟩;have HP6:=Lib.hid hp6;clear hp6)
  go_ret
  rw [HSP.out]
  exact ⟨rfl,HP6.out⟩
theorem zeY:∀ {L:List (List Value)} {i j:Nat},(∀ r∈L,r.length=5)→i<L.length→j<5→L.flatten[i*5+j]? = some ((L.getD i []).getD j undef)
 | r::L,0,j,h,_,hj=>by
  have hr:=h r (List.mem_cons_self ..)
  rw [List.flatten_cons,List.getElem?_append_left (by omega)]
  simp [List.getD,show 0*5+j<r.length by omega,show j<r.length by omega]
 | r::L,i+1,j,h,hi,hj=>by
  have hr:=h r (List.mem_cons_self ..)
  rw [List.flatten_cons,List.getElem?_append_right (by omega)]
  have e:(i+1)*5+j-r.length=i*5+j:=by omega
  rw [e,zeY (fun x hx=>h x (List.mem_cons_of_mem _ hx)) (by simpa using hi) hj]
  rfl
theorem zcv:∀ {L:List (List Value)},(∀ r∈L,r.length=5)→L.flatten.length=L.length*5
 | [],_=>rfl
 | r::L,h=>by
  rw [List.flatten_cons,List.length_append,zcv fun x hx=>h x (List.mem_cons_of_mem _ hx),h r (List.mem_cons_self ..),List.length_cons]
  omega
structure RowB (w:World) (g cap:Nat) (L:List (List Value)):Prop where
 c:∃ cur:Array Value,w.heap[g]? = some (.cells cur TCh (0,0))∧cur.size=cap*5∧cur.toList.take (L.length*5)=L.flatten
 le:L.length≤cap
 cm:cap≤maxLen
 five:∀ r∈L,r.length=5
theorem RowB.of_own {w:World} {g n cap:Nat} {L:List (List Value)} (h:w.ownsRow 0 TCh 5 (.slice (some ⟨g,0,none⟩) n cap) n L.flatten) (h5:∀ r∈L,r.length=5) (hn:L.length=n):RowB w g cap L:=by
 rcases h.2 with ⟨h2,_⟩ | ⟨g',cap',cur,hv,h3,h4,h5',h6,h7,h8⟩
 ·cases h2
 ·simp only [Value.slice.injEq,Option.some.injEq,Addr.mk.injEq,and_true,true_and] at hv
  obtain ⟨rfl,rfl⟩:=hv
  exact ⟨⟨cur,h4,h7,by rw [hn];exact h8⟩,by omega,h6,h5⟩
theorem RowB.own {w:World} {g cap:Nat} {L:List (List Value)} (h:RowB w g cap L):w.ownsRow 0 TCh 5 (.slice (some ⟨g,0,none⟩) L.length cap) L.length L.flatten:=by
 obtain ⟨cur,h1,h2,h3⟩:=h.c
 exact ⟨zcv h.five,.inr ⟨g,cap,cur,rfl,Nat.zero_le _,h1,h.le,h.cm,h2,h3⟩⟩
theorem RowB.kept {w w':World} {g cap:Nat} {L:List (List Value)} (h:RowB w g cap L) (e:w'.heap[g]? = w.heap[g]?):RowB w' g cap L:=by
 obtain ⟨cur,h1,h2⟩:=h.c
 exact ⟨⟨cur,e.trans h1,h2⟩,h.le,h.cm,h.five⟩
theorem RowB.lt {w:World} {g cap:Nat} {L:List (List Value)} (h:RowB w g cap L):g<w.heap.size:=by
 obtain ⟨cur,h1,_⟩:=h.c
 exact (Array.getElem?_eq_some_iff.1 h1).1
theorem RowB.cell {w:World} {g cap:Nat} {L:List (List Value)} (h:RowB w g cap L) {i j:Nat} (hi:i<L.length) (hj:j<5):w.cell? ⟨g,i*5+j,none⟩=some ((L.getD i []).getD j undef)∧w.frozen? ⟨g,i*5+j,none⟩=false:=by
 obtain ⟨cur,h1,h2,h3⟩:=h.c
 have e:=zeY h.five hi hj
 rw [← h3,List.getElem?_take_of_lt (by omega),Array.getElem?_toList] at e
 exact ⟨by simp [World.cell?,h1,e],by simp [World.frozen?,h1]⟩
theorem RowB.take {w:World} {g cap:Nat} {L:List (List Value)} (h:RowB w g cap L) (k:Nat):RowB w g cap (L.take k):=by
 obtain ⟨cur,h1,h2,h3⟩:=h.c
 have h5:=zcv (L:=L.take k) fun r hr=>h.five r (List.mem_of_mem_take hr)
 have e0:L.flatten=(L.take k).flatten++(L.drop k).flatten:=by rw [← List.flatten_append,List.take_append_drop]
 have e:L.flatten.take ((L.take k).length*5)=(L.take k).flatten:=by
  rw [e0]
  exact List.take_left' h5
 refine ⟨⟨cur,h1,h2,?_⟩,Nat.le_trans (by rw [List.length_take];omega) h.le,h.cm,fun r hr=>h.five r (List.mem_of_mem_take hr)⟩
 rw [← e,← h3,List.take_take]
 congr 1
 rw [List.length_take]
 omega
theorem zbG {α:Type} {l:List α} {i n:Nat} {x:α}:(l.set i x).take n=(l.take n).set i x:=by
 refine List.ext_getElem? fun k=>?_
 by_cases hk:k<n
 ·rw [List.getElem?_take_of_lt hk,List.getElem?_set,List.getElem?_set,List.getElem?_take_of_lt hk]
  simp only [List.length_take]
  by_cases e:i=k
  ·subst e
   simp only [if_true]
   congr 1
   simp only [eq_iff_iff]
   omega
  ·simp [e]
 ·rw [List.getElem?_eq_none (by simp;omega),List.getElem?_eq_none (by simp;omega)]
theorem zeX:∀ {L:List (List Value)} {i:Nat} {a0 a1 a2 a3 a4:Value},(∀ r∈L,r.length=5)→i<L.length →
  ((((L.flatten.set (i*5+0) a0).set (i*5+1) a1).set (i*5+2) a2).set (i*5+3) a3).set (i*5+4) a4=(L.set i [a0,a1,a2,a3,a4]).flatten
 | r::L,0,a0,a1,a2,a3,a4,h,_=>by
  have hr:=h r (List.mem_cons_self ..)
  match r,hr with
  | [x0,x1,x2,x3,x4],_=>rfl
 | r::L,i+1,a0,a1,a2,a3,a4,h,hi=>by
  have hr:=h r (List.mem_cons_self ..)
  have ih:=zeX (L:=L) (i:=i) (a0:=a0) (a1:=a1) (a2:=a2) (a3:=a3) (a4:=a4) (fun x hx=>h x (List.mem_cons_of_mem _ hx)) (by simpa using hi)
  rw [List.set_cons_succ,List.flatten_cons,List.flatten_cons,← ih]
  have e:∀ k,(i+1)*5+k-r.length=i*5+k:=fun k=>by omega
  rw [List.set_append_right _ _ (by omega),List.set_append_right _ _ (by omega),List.set_append_right _ _ (by omega),List.set_append_right _ _ (by omega),List.set_append_right _ _ (by omega)]
  simp only [e]
theorem RowB.set1 {w:World} {g cap:Nat} {cur:Array Value} (h1:w.heap[g]? = some (.cells cur TCh (0,0))) (k:Nat) (u:Value):(w.setCell ⟨g,k,none⟩ u).heap[g]? = some (.cells (cur.setIfInBounds k u) TCh (0,0)):=by
 simp [World.setCell,Array.getElem?_modify,h1]
theorem RowB.set {w:World} {g cap:Nat} {L:List (List Value)} (h:RowB w g cap L) {i:Nat} (hi:i<L.length) (a0 a1 a2 a3 a4:Value) :
  RowB (((((w.setCell ⟨g,i*5+0,none⟩ a0).setCell ⟨g,i*5+1,none⟩ a1).setCell ⟨g,i*5+2,none⟩ a2).setCell ⟨g,i*5+3,none⟩ a3).setCell ⟨g,i*5+4,none⟩ a4) g cap (L.set i [a0,a1,a2,a3,a4]):=by
 obtain ⟨cur,h1,h2,h3⟩:=h.c
 refine ⟨⟨_,RowB.set1 (cap:=cap) (RowB.set1 (cap:=cap) (RowB.set1 (cap:=cap) (RowB.set1 (cap:=cap) (RowB.set1 (cap:=cap) h1 _ _) _ _) _ _) _ _) _ _,by simpa using h2,?_⟩,by simpa using h.le,h.cm,fun r hr=>?_⟩
 ·simp only [Array.toList_setIfInBounds,List.length_set]
  rw [zbG,zbG,zbG,zbG,zbG,h3]
  exact zeX h.five hi
 ·rcases List.mem_or_eq_of_mem_set hr with hr | rfl
  ·exact h.five r hr
  ·rfl
theorem zlK {α:Type} {l:List α} (h:l.length=5):∃ x0 x1 x2 x3 x4,l=[x0,x1,x2,x3,x4]:=by
 match l,h with
 | [x0,x1,x2,x3,x4],_=>exact ⟨x0,x1,x2,x3,x4,rfl⟩
theorem zkl {w:World} {S:Nat→Prop} {c:DChange} {cs:List Value} {p:Nat} {n:ByteArray} (hc:ChAt w S c cs) (hp:Blk w p TSt #[.string n]) :
  Calls Try.prog 32 #[.agg cs.toArray,ptrV p] w fun e w'=>e = .returned (.bool (ofF n c))∧Below w.heap.size w w':=by
 obtain ⟨dv,bv,rfl,h1,h2⟩:=hc.D
 have hlt:=hp.lt
 have q0:=box1 (hp.alloc (.cells #[.string c.file,dv,.int .i64 (chAt c),bv,.bool (c.kind==1)] TCh))
 clear h1 h2 hc hp
 unfold ptrV
 go_enter Try.func32,Try.ntmps32
 go_wp2_with fail
 go_ret
 exact ⟨rfl,(Below.refl _ _).alloc (Nat.le_refl _) _⟩
def FirstP (p:Nat→Bool) (n:Nat) (k:Int):Prop:=(k = -1∧∀ i,i<n→p i=false)∨∃ k0:Nat,k=k0∧k0<n∧p k0=true∧∀ i,i<k0→p i=false
def zlx (w:World) (S:Nat→Prop) (gf:FuncId) (lb:List Value) (L:List (List Value)) (p:Nat→Bool):Prop:=
 ∀ (w':World) (i:Nat),Same S w w'→w.heap.size≤w'.heap.size→i<L.length→Calls Try.prog gf (.agg (L.getD i []).toArray::lb).toArray w' fun e w''=>e = .returned (.bool (p i))∧Below w'.heap.size w' w''
set_option maxHeartbeats 1000000 in
theorem zg6 {w:World} {S:Nat→Prop} {g cap:Nat} {L:List (List Value)} {gf:FuncId} {lb:List Value} {p:Nat→Bool} (h:RowB w g cap L) (hS:∀ x,S x→x<w.heap.size) (hp:zlx w S gf lb L p) (hB:FnB Try.prog gf) (hn:L.length≤1000000) :
  Calls Try.prog 53 #[.slice (some ⟨g,0,none⟩) L.length cap,.func (.func gf) #[] lb.toArray] w fun e w'=>∃ k,e = .returned (.int .i64 k)∧FirstP p L.length k∧Below w.heap.size w w':=by
 have hcf:=zau hB
 have H:=Lib.hid h
 have HP:=Lib.hid hp
 have HS:=Lib.hid hS
 have hcl:=h.le
 obtain ⟨n,hnn⟩:∃ n,L.length=n:=⟨_,rfl⟩
 rw [hnn] at hn hcl ⊢
 clear h hp hS
 go_enter Try.func53,Try.ntmps53
 go_wp2
 go_loopw [8] (fun kv wr=>∃ (k:Nat),kv = .int .i64 k∧k≤n∧(∀ i,i<k→p i=false)∧Hid (Below w.heap.size w wr)) (fun kv _=>n-(intOf kv).toNat)
 case atStart=>exact ⟨0,rfl,Nat.zero_le _,fun i hi=>absurd hi (Nat.not_lt_zero _),Lib.hid (Below.refl _ _)⟩
 case round=>
  obtain ⟨k,rfl,hk,h0,HB⟩:=hrel
  have H0:=Lib.hid h0
  clear h0
  by_cases hlt:k<n
  ·have hltz:(k:Int)<(n:Int):=by omega
   have hk0:(0:Int)≤(k:Int):=Int.natCast_nonneg k
   have hw:wrap64 ((k:Int)+1)=(k:Int)+1:=by unfold wrap64;omega
   have hrow:=H.out.kept (HB.out.block g H.out.lt)
   obtain ⟨x0,x1,x2,x3,x4,hx⟩:∃ x0 x1 x2 x3 x4,L.getD k []=[x0,x1,x2,x3,x4]:=zlK (by
    have e:L.getD k []=L[k]:=by simp [List.getD,show k<L.length by omega]
    rw [e];exact H.out.five _ (List.getElem_mem _))
   have c0:=(hrow.cell (i:=k) (j:=0) (by omega) (by omega)).1
   have c1:=(hrow.cell (i:=k) (j:=1) (by omega) (by omega)).1
   have c2:=(hrow.cell (i:=k) (j:=2) (by omega) (by omega)).1
   have c3:=(hrow.cell (i:=k) (j:=3) (by omega) (by omega)).1
   have c4:=(hrow.cell (i:=k) (j:=4) (by omega) (by omega)).1
   have hcall:=HP.out wr k ⟨HB.out.size,fun x hx hl=>HB.out.block x hl⟩ HB.out.size (by omega)
   rw [hx] at c0 c1 c2 c3 c4 hcall
   simp only [List.getD_cons_zero,List.getD_cons_succ,Nat.add_zero] at c0 c1 c2 c3 c4
   have HC:=Lib.hid hcall
   clear hrow hcall hx
   go_wp2_with fail
   refine HC.out.mono ?_
   rintro e w2 ⟨rfl,hb2⟩
   have HB2:=Lib.hid (HB.out.trans (hb2.mono HB.out.size))
   clear hb2
   cases hpk:p k
   ·go_wp2
    go_roundw
    case rel=>
     refine ⟨k+1,by first | rfl | (rw [hw];rfl) | simp [hw],by omega,fun i hi=>?_,HB2⟩
     by_cases e:i=k
     ·rw [e];exact hpk
     ·exact H0.out i (by omega)
    case measure=>simp [intOf,hw];omega
   ·go_wp2
    go_ret
    exact ⟨_,rfl,.inr ⟨k,rfl,hlt,hpk,H0.out⟩,HB2.out⟩
  ·have hltz:¬ (k:Int)<(n:Int):=by omega
   obtain rfl:k=n:=by omega
   go_wp2
   go_ret
   exact ⟨_,rfl,.inl ⟨rfl,H0.out⟩,HB.out⟩
theorem zdR {P:Program} {ops:Array Oper} {rest:List Oper} {o:Oper} {a:Act} {Q:Exit→Act→World→Prop} {w w':World} (hgd:o.guard=none) (x:Operand) (t:TypeId)
  (ho:o.op = .call {callee:= .builtin .clear,args:= #[x],argTypes:= #[t]}) (xv:Value) (hx:a.eval x=xv) (hrun:(Builtin.clear_ #[t] o.type #[xv]).run P w = .ok (.tuple #[]) w') (h:wpList P ops Q rest (a.put o.dst (.tuple #[])) w'):wpList P ops Q (o::rest) a w:=by
 refine wpList_plain hgd fun K hK=>?_
 unfold Oper.wp execOp
 simp only [ho,resolve,invoke,builtin,Sem.run_bind,Sem.run_pure,Result.andThen_ok,List.map_toArray,List.map_cons,List.map_nil,hx,hrun]
 exact hK _ _ h
theorem zl0 (w:World):(zeroValue TCh).run Try.prog w = .ok zCh w:=by kernel_rfl
theorem zgv {w:World} {g cap o n c:Nat} {L:List (List Value)} (h:RowB w g cap L) (hn:0<n) (ho:o*5+n*5≤cap*5) (hoL:o≤L.length) (ty:TypeId) :
  ∃ w',(Builtin.clear_ #[TRw] ty #[.slice (some ⟨g,o*5,none⟩) n c]).run Try.prog w = .ok (.tuple #[]) w'∧RowB w' g cap (L.take o)∧Turn (fun x=>x=g) w w':=by
 have ht:=h.take o
 obtain ⟨cur,h1,h2,h3⟩:=ht.c
 obtain ⟨m,rfl⟩:∃ m,n=m+1:=⟨n-1,by omega⟩
 obtain ⟨vs,hvs⟩:∃ vs,(Builtin.zeroCells zCh.cells (m+1)).toList=vs:=⟨_,rfl⟩
 have hvl:vs.length=(m+1)*5:=by
  rw [← hvs]
  simp [Builtin.zeroCells,zCh,Value.cells]
 have hv1:∀ u∈vs,u.oneCell'=true:=by
  intro u hu
  rw [← hvs] at hu
  simp only [Builtin.zeroCells,Array.toList_map,List.mem_map] at hu
  obtain ⟨i,_,rfl⟩:=hu
  have hi:(i % zCh.cells.size)=0∨(i % zCh.cells.size)=1∨(i % zCh.cells.size)=2∨(i % zCh.cells.size)=3∨(i % zCh.cells.size)=4:=by
   have:zCh.cells.size=5:=rfl
   rw [this];omega
  rcases hi with e | e | e | e | e
  all_goals (rw [e];rfl)
 have hst:=run_storeCells_at Try.prog g (o*5) TCh vs 0 cur w h1 (by rw [hvl,h2];omega) hv1
 obtain ⟨nw,hnw⟩:∃ nw,(cur.toList.take (o*5+0)++vs++cur.toList.drop (o*5+0+vs.length)).toArray=nw:=⟨_,rfl⟩
 rw [hnw] at hst
 refine ⟨w.setRow g nw,?_,⟨⟨nw,setRow_heap w g cur nw TCh _ h1,?_,?_⟩,ht.le,ht.cm,ht.five⟩,⟨rfl,rfl,rfl,by simp [World.setRow],fun b _ hb=>setRow_other w g b _ hb⟩⟩
 ·simp only [Builtin.clear_,Sem.run_bind,run_underlying undR,zl0,Result.andThen]
  have hvs2:(Builtin.zeroCells (Value.agg #[.string ⟨#[]⟩,.nilFunc,.int .i64 0,.slice none 0 0,.bool false]).cells (m+1)).toList=vs:=hvs
  simp [run_underlying undR,zl0,zCh]
  rw [hvs2,hst]
  rfl
 ·rw [← hnw]
  simp [h2,hvl]
  omega
 ·rw [← hnw]
  have e:(L.take o).length=o:=by rw [List.length_take];omega
  rw [e] at h3 ⊢
  simp only [Nat.add_zero,List.append_assoc]
  have h5:=zcv ht.five
  rw [e] at h5
  have hl:(cur.toList.take (o*5)).length=o*5:=by rw [h3];exact h5
  rw [List.take_left' hl]
  exact h3
def kp (L:List (List Value)) (p:Nat→Bool) (j:Nat):List (List Value):=((List.range j).filter fun t=>!p t).map fun t=>L.getD t []
theorem zei (L:List (List Value)) (p:Nat→Bool) (j:Nat):kp L p (j+1)=if p j then kp L p j else kp L p j++[L.getD j []]:=by
 unfold kp
 rw [List.range_succ,List.filter_append,List.map_append]
 cases h:p j<;>simp [h]
theorem zjJ {L:List (List Value)} {p:Nat→Bool} {j:Nat} (hj:j≤L.length) (h:∀ i,i<j→p i=false):kp L p j=L.take j:=by
 induction j with
 | zero=>simp [kp]
 | succ j ih=>
  rw [zei,h j (Nat.lt_succ_self _),ih (by omega) fun i hi=>h i (by omega)]
  simp only [Bool.false_eq_true,if_false]
  rw [zbg (d:=[]) (by omega)]
theorem zfY (p:Nat→Bool):∀ n,(∀ i,i<n→p i=false)∨∃ k,k<n∧p k=true∧∀ i,i<k→p i=false
 | 0=> .inl fun i hi=>absurd hi (Nat.not_lt_zero _)
 | n+1=>by
  rcases zfY p n with h | ⟨k,h1,h2,h3⟩
  ·cases hp:p n
   ·exact .inl fun i hi=>by
     by_cases e:i=n
     ·rw [e];exact hp
     ·exact h i (by omega)
   ·exact .inr ⟨n,Nat.lt_succ_self _,hp,h⟩
  ·exact .inr ⟨k,by omega,h2,h3⟩
theorem FirstP.none {p:Nat→Bool} {n:Nat} {k:Int} (h:FirstP p n k) (h0:∀ i,i<n→p i=false):k = -1:=by
 rcases h with ⟨e,_⟩ | ⟨k0,_,h1,h2,_⟩
 ·exact e
 ·rw [h0 k0 h1] at h2;cases h2
theorem FirstP.some {p:Nat→Bool} {n:Nat} {k:Int} (h:FirstP p n k) {k1:Nat} (h1:k1<n) (h2:p k1=true) (h3:∀ i,i<k1→p i=false):k=k1:=by
 rcases h with ⟨_,e⟩ | ⟨k0,e,g1,g2,g3⟩
 ·rw [e k1 h1] at h2;cases h2
 ·rcases Nat.lt_trichotomy k0 k1 with c | c | c
  ·rw [h3 k0 c] at g2;cases g2
  ·rw [e,c]
  ·rw [g3 k1 c] at h2;cases h2
theorem zaf {P:Program} {v:Value} (h1:v.oneCell'=true) (w:World) (a:Addr) (h:(w.cell? a).isSome=true) (hf:w.frozen? a=false):(store a v).run P w = .ok () (w.setCell a v):=by
 obtain ⟨u,hu⟩:=Option.isSome_iff_exists.1 h
 rw [run_store P w a v _ h1,hu]
 simp [hf]
def zis (w:World) (g cap:Nat) (K:List (List Value)) (e:Ending) (w':World):Prop:=e = .returned (.slice (some ⟨g,0,none⟩) K.length cap)∧RowB w' g cap K∧Turn (fun x=>x=g) w w'
set_option maxHeartbeats 4000000 in
theorem zjh {w:World} {S:Nat→Prop} {g cap:Nat} {L:List (List Value)} {gf:FuncId} {lb:List Value} {p:Nat→Bool} (h:RowB w g cap L) (hS:∀ x,S x→x<w.heap.size∧x≠g) (hp:zlx w S gf lb L p) (hB:FnB Try.prog gf) (hone:∀ r∈L,∀ u∈r,u.oneCell'=true) (hn:L.length≤1000000) :
  Calls Try.prog 31 #[.slice (some ⟨g,0,none⟩) L.length cap,.func (.func gf) #[] lb.toArray] w (zis w g cap (kp L p L.length)):=by
 have hcf:=zau hB
 have hI0:=zg6 h (fun x hx=>(hS x hx).1) hp hB hn
 have H:=Lib.hid h
 have HP:=Lib.hid hp
 have HS:=Lib.hid hS
 have HO:=Lib.hid hone
 clear hone
 have hcl:=h.le
 obtain ⟨n,hnn⟩:∃ n,L.length=n:=⟨_,rfl⟩
 rw [hnn] at hn hcl hI0 ⊢
 clear h hp hS
 rcases zfY p n with hall | ⟨k,hk,hpk,h0⟩
 ·have hI:=Lib.hid (hI0.mono (R':=fun e w'=>e = .returned (.int .i64 (-1))∧Below w.heap.size w w') fun e w' ⟨k,he,hf,hb⟩=>⟨by rw [he,hf.none hall],hb⟩)
  go_enter Try.func31,Try.ntmps31
  go_wp2_with (go_at_call 53;refine hI.out.mono ?_;rintro e w1 ⟨rfl,hb1⟩)
  go_ret
  have e:kp L p n=L:=by rw [zjJ (by omega) hall,← hnn,List.take_length]
  rw [e]
  exact ⟨by rw [hnn];rfl,H.out.kept (hb1.block g H.out.lt),Turn.below hb1⟩
 ·have hI:=Lib.hid (hI0.mono (R':=fun e w'=>e = .returned (.int .i64 k)∧Below w.heap.size w w') fun e w' ⟨k',he,hf,hb⟩=>⟨by rw [he,hf.some hk hpk h0],hb⟩)
  have hk1:((k:Int) == -1)=false:=beq_eq_false_iff_ne.2 (by omega)
  have hw0:wrap64 ((k:Int)+1)=((k+1:Nat):Int):=by unfold wrap64;omega
  have H0:=Lib.hid h0
  clear h0 hI0
  go_enter Try.func31,Try.ntmps31
  go_wp2_with (go_at_call 53;refine hI.out.mono ?_;rintro e w1 ⟨rfl,hb1⟩)
  have HB1:=Lib.hid hb1
  clear hb1
  go_loopw [5,6] (fun s5 s6 wr=>∃ (i j:Nat) (M:List (List Value)),s5 = .int .i64 i∧s6 = .int .i64 j∧i<j∧j≤n∧M.length=n∧Hid (i=(kp L p j).length∧RowB wr g cap M∧M.take i=kp L p j∧(∀ t,j≤t→t<n→M.getD t []=L.getD t [])∧Turn (fun x=>x=g) w wr)) (fun _ s6 _=>n-(intOf s6).toNat)
  case atStart=>
   have e:kp L p (k+1)=L.take k:=by
    rw [zei,hpk,if_pos rfl,zjJ (by omega) H0.out]
   refine ⟨k,k+1,L,rfl,by first | rfl | (rw [hw0];rfl) | simp [hw0],by omega,by omega,hnn,Lib.hid ⟨by rw [e,List.length_take];omega,H.out.kept (HB1.out.block g H.out.lt),by rw [e],fun t _ _=>rfl,Turn.below HB1.out⟩⟩
  case round=>
   obtain ⟨i,j,M,rfl,rfl,hij,hj,hM,HR⟩:=hrel
   by_cases hlt:j<n
   ·have hltz:(j:Int)<(n:Int):=by omega
    have hk0:(0:Int)≤(j:Int):=Int.natCast_nonneg j
    have hi0:(0:Int)≤(i:Int):=Int.natCast_nonneg i
    have hin:(i:Int)<(n:Int):=by omega
    have hw:wrap64 ((j:Int)+1)=((j+1:Nat):Int):=by unfold wrap64;omega
    have hwi:wrap64 ((i:Int)+1)=((i+1:Nat):Int):=by unfold wrap64;omega
    obtain ⟨hil,hrow,htk,hrest,htn⟩:=HR.out
    have hML:=hrest j (Nat.le_refl _) hlt
    have hmem:L.getD j []∈L:=by
     have e:L.getD j []=L[j]:=by simp [List.getD,show j<L.length by omega]
     rw [e];exact List.getElem_mem _
    obtain ⟨x0,x1,x2,x3,x4,hx⟩:∃ x0 x1 x2 x3 x4,L.getD j []=[x0,x1,x2,x3,x4]:=zlK (H.out.five _ hmem)
    have ho:=HO.out _ hmem
    rw [hx] at ho
    have s0:= @zaf Try.prog x0 (ho _ (by simp))
    have s1:= @zaf Try.prog x1 (ho _ (by simp))
    have s2:= @zaf Try.prog x2 (ho _ (by simp))
    have s3:= @zaf Try.prog x3 (ho _ (by simp))
    have s4:= @zaf Try.prog x4 (ho _ (by simp))
    have c0:=(hrow.cell (i:=j) (j:=0) (by omega) (by omega)).1
    have c1:=(hrow.cell (i:=j) (j:=1) (by omega) (by omega)).1
    have c2:=(hrow.cell (i:=j) (j:=2) (by omega) (by omega)).1
    have c3:=(hrow.cell (i:=j) (j:=3) (by omega) (by omega)).1
    have c4:=(hrow.cell (i:=j) (j:=4) (by omega) (by omega)).1
    rw [hML,hx] at c0 c1 c2 c3 c4
    simp only [List.getD_cons_zero,List.getD_cons_succ,Nat.add_zero] at c0 c1 c2 c3 c4
    have hcall:=HP.out (wr.alloc (.cells #[x0,x1,x2,x3,x4] TCh)) j ((htn.same fun x hx=>(HS.out x hx).2).trans (Same.alloc _ _ _)) (by have:=htn.size;simp;omega) (by omega)
    rw [hx] at hcall
    have HC:=Lib.hid hcall
    have HX:=Lib.hid hx
    clear hil hrow htk hrest htn hML hmem hx ho hcall
    go_wp2_with fail
    refine HC.out.mono ?_
    rintro e w2 ⟨rfl,hb2⟩
    obtain ⟨hil,hrow,htk,hrest,htn⟩:=HR.out
    have hrow2:RowB w2 g cap M:=hrow.kept ((hb2.block g (by have:=hrow.lt;simp;omega)).trans (Below.heap_alloc _ _ _ hrow.lt))
    have kx:=(Blk.new wr TCh #[x0,x1,x2,x3,x4]).next hb2
    obtain ⟨b0,b1,b2,b3,b4⟩:=box5 kx
    have ht2:Turn (fun x=>x=g) w w2:=(htn.alloc (.cells #[x0,x1,x2,x3,x4] TCh)).trans (Turn.below (F:=fun x=>x=g) hb2) fun x _ h=>h
    have HT2:=Lib.hid ht2
    have HR2:=Lib.hid hrow2
    obtain ⟨d0,e0⟩:=hrow2.cell (i:=i) (j:=0) (by omega) (by omega)
    obtain ⟨d1,e1⟩:=hrow2.cell (i:=i) (j:=1) (by omega) (by omega)
    obtain ⟨d2,e2⟩:=hrow2.cell (i:=i) (j:=2) (by omega) (by omega)
    obtain ⟨d3,e3⟩:=hrow2.cell (i:=i) (j:=3) (by omega) (by omega)
    obtain ⟨d4,e4⟩:=hrow2.cell (i:=i) (j:=4) (by omega) (by omega)
    simp only [Nat.add_zero] at d0 e0
    generalize (M.getD i []).getD 0 undef=y0 at d0
    generalize (M.getD i []).getD 1 undef=y1 at d1
    generalize (M.getD i []).getD 2 undef=y2 at d2
    generalize (M.getD i []).getD 3 undef=y3 at d3
    generalize (M.getD i []).getD 4 undef=y4 at d4
    clear hil hrow htk hrest htn hrow2 kx hb2 ht2
    cases hpj:p j
    ·go_wp2
     go_roundw
     case rel=>
      obtain ⟨hil,hrow,htk,hrest,htn⟩:=HR.out
      have ekp:kp L p (j+1)=kp L p j++[[x0,x1,x2,x3,x4]]:=by rw [zei,hpj,HX.out];rfl
      refine ⟨i+1,j+1,M.set i [x0,x1,x2,x3,x4],by first | rfl | (rw [hwi];rfl) | simp [hwi],by first | rfl | (rw [hw];rfl) | simp [hw],by omega,by omega,by rw [List.length_set];exact hM,Lib.hid ⟨by rw [ekp,List.length_append,← hil];rfl,?_,?_,fun t h1 h2=>?_,?_⟩⟩
      ·have:=HR2.out.set (i:=i) (by omega) x0 x1 x2 x3 x4
       simpa using this
      ·have hi2:i<M.length:=by omega
       rw [zbg (d:=[]) (by rw [List.length_set];exact hi2),ekp,zbG,List.set_eq_of_length_le (by rw [List.length_take];omega),htk]
       congr 2
       simp [List.getD,hi2]
      ·rw [List.getD_eq_getElem?_getD,List.getElem?_set_ne (by omega),← List.getD_eq_getElem?_getD]
       exact hrest t (by omega) h2
      ·exact ((((HT2.out.set (.inl rfl) _).set (.inl rfl) _).set (.inl rfl) _).set (.inl rfl) _).set (.inl rfl) _
     case measure=>simp [intOf,hw];omega
    ·go_wp2
     go_roundw
     case rel=>
      obtain ⟨hil,hrow,htk,hrest,htn⟩:=HR.out
      have ekp:kp L p (j+1)=kp L p j:=by rw [zei,hpj];rfl
      exact ⟨i,j+1,M,rfl,by first | rfl | (rw [hw];rfl) | simp [hw],by omega,by omega,hM,Lib.hid ⟨by rw [ekp];exact hil,HR2.out,by rw [ekp];exact htk,fun t h1 h2=>hrest t (by omega) h2,HT2.out⟩⟩
     case measure=>simp [intOf,hw];omega
   ·have hltz:¬ (j:Int)<(n:Int):=by omega
    obtain rfl:j=n:=by omega
    obtain ⟨hil,hrow,htk,hrest,htn⟩:=HR.out
    have hMt:M.take i=kp L p j:=htk
    obtain ⟨w9,hcl9,hr9,ht9⟩:=zgv (w:=wr) (g:=g) (cap:=cap) (o:=i) (n:=j-i) (c:=cap-i) hrow (by omega) (by omega) (by omega) 0
    have HF:Hid (zis w g cap (kp L p j) (.returned (.slice (some ⟨g,0,none⟩) i cap)) w9):=Lib.hid ⟨by rw [hil],by rw [← htk];exact hr9,htn.trans ht9 fun x _ h=>h⟩
    have HCL:=Lib.hid hcl9
    have hi0:(0:Int)≤(i:Int):=Int.natCast_nonneg i
    have hin:(i:Int)≤(j:Int):=by omega
    have hic:(i:Int)≤(cap:Int):=by omega
    have hne:¬ cap=i:=by omega
    clear hil hrow htk hrest htn hMt hcl9 hr9 ht9
    go_wp2_with (refine zdR rfl (.tmp 38) 56 rfl (.slice (some ⟨g,i*5,none⟩) (j-i) (cap-i)) rfl HCL.out ?_)
    go_ret
    exact HF.out
def zfe:Option (List Int)→List DChange→Prop
 | _,[]=>True
 | o,c::cs=>(c.kind=1→c.at_≤(o.getD []).length)∧zfe (zcy c o) cs
theorem zcm:∀ (cs:List DChange) (l:List File),zf2 l cs↔∀ n,zfe (zab l n) (cs.filter (ofF n))
 | [],l=>⟨fun _ _=>trivial,fun _=>trivial⟩
 | c::cs,l=>by
  have ih:=zcm cs (zag l c)
  constructor
  ·rintro ⟨h1,h2⟩ n
   have h3:=ih.1 h2 n
   rw [zbl] at h3
   rw [List.filter_cons]
   cases e:eqN c.file n
   ·rw [e] at h3
    rw [if_neg (by unfold ofF;rw [e];decide)]
    simpa using h3
   ·rw [e,if_pos rfl] at h3
    rw [if_pos (show ofF n c=true from e)]
    have:=eqN_iff.1 e
    subst this
    exact ⟨h1,h3⟩
  ·intro h
   have h1:=h c.file
   rw [List.filter_cons,if_pos (show ofF c.file c=true from zat _)] at h1
   refine ⟨h1.1,ih.2 fun n=>?_⟩
   rw [zbl]
   have h2:=h n
   rw [List.filter_cons] at h2
   cases e:eqN c.file n
   ·rw [if_neg (by unfold ofF;rw [e];decide)] at h2
    simpa using h2
   ·have:=eqN_iff.1 e
    subst this
    rw [if_pos rfl]
    exact h1.2
theorem zg9 (n m:ByteArray) (cs:List DChange):(cs.filter fun c=>!ofF n c).filter (ofF m)=if m=n then [] else cs.filter (ofF m):=by
 rw [List.filter_filter]
 split
 ·rename_i e
  subst e
  have e1:∀ c,(ofF m c&&!ofF m c)=false:=fun c=>by cases ofF m c<;>rfl
  simp only [e1,zcw]
 ·rename_i e
  refine List.filter_congr fun c _=>?_
  cases hc:ofF m c
  ·rfl
  ·have h1:ofF n c=false:=eqN_no.2 fun e2=>e ((eqN_iff.1 hc).symm.trans e2)
   rw [h1];rfl
theorem zgA (n m:ByteArray) (cs:List DChange) (h:m≠n):(cs.filter (ofF n)).filter (ofF m)=[]:=by
 rw [List.filter_filter]
 have e1:∀ c,(ofF m c&&ofF n c)=false:=fun c=>by
  cases hc:ofF m c
  ·rfl
  ·have h1:ofF n c=false:=eqN_no.2 fun e2=>h ((eqN_iff.1 hc).symm.trans e2)
   rw [h1];rfl
 simp only [e1,zcw]
theorem zgx {l:List File} {cs:List DChange} (h:zf2 l cs) (n:ByteArray):zf2 ((cs.filter (ofF n)).foldl zag l) (cs.filter fun c=>!ofF n c):=by
 rw [zcm] at h ⊢
 intro m
 rw [zg9]
 split
 ·trivial
 ·rename_i e
  rw [zav,zgA _ _ _ e]
  exact h m
theorem zkT {l:List File} {c:DChange} (hl:∀ x∈l,NmOk x.name) (hc:NmOk c.file):∀ x∈zag l c,NmOk x.name:=by
 intro x hx
 unfold zag at hx
 split at hx
 ·rcases zaE hx with e | hx
  ·subst e;exact hc
  ·exact hl x hx
 ·split at hx
  ·split at hx
   ·exact hl x hx
   ·rcases zaE hx with e | hx
    ·subst e;exact hc
    ·exact hl x hx
  ·exact hl x (List.mem_filter.1 hx).1
theorem zet:∀ (cs:List DChange) (l:List File),(∀ x∈l,NmOk x.name)→(∀ c∈cs,NmOk c.file)→∀ x∈cs.foldl zag l,NmOk x.name
 | [],l,hl,_=>hl
 | c::cs,l,hl,hc=>zet cs (zag l c) (zkT hl (hc c (List.mem_cons_self ..))) fun x hx=>hc x (List.mem_cons_of_mem _ hx)
def sy1 (d:RDisk) (n:ByteArray):RDisk:={d with lasts:=(d.changes.filter (ofF n)).foldl zag d.lasts,changes:=d.changes.filter (fun c=>!ofF n c)}
theorem zgC {d:RDisk} (h:SortF d.lasts) (n:ByteArray):zad (sy1 d n)=zad d:=zgr h d.changes n
theorem DkI.sync {d:RDisk} (h:DkI d) (n:ByteArray):DkI (sy1 d n):=
 ⟨h.sl.dones _,zaI _ _ h.fb fun c hc=>by have:=h.ch c (List.mem_filter.1 hc).1;exact ⟨this.1,this.2.1⟩,fun c hc=>h.ch c (List.mem_filter.1 hc).1,zet _ _ h.nm fun c hc=>(h.ch c (List.mem_filter.1 hc).1).2.2,zgx h.np n,h.rm,h.i64⟩
theorem zeS (cs:List DChange) (rows:List (List Value)) (n:ByteArray):(cs.filter fun c=>!ofF n c)=((List.range cs.length).filter fun t=>!ofF n (cs.getD t default)).map fun t=>cs.getD t default:=by
 have key:∀ (l:List DChange) (f:DChange→Bool),l.filter f=((List.range l.length).filter fun t=>f (l.getD t default)).map fun t=>l.getD t default:=by
  intro l f
  have e:l=(List.range l.length).map fun t=>l.getD t default:=by
   refine List.ext_getElem? fun i=>?_
   rw [List.getElem?_map]
   by_cases hi:i<l.length
   ·simp [hi,List.getD]
   ·rw [List.getElem?_eq_none (by omega),List.getElem?_eq_none (by simp;omega)]
    rfl
  conv=>lhs;rw [e]
  rw [List.filter_map]
  rfl
 exact key cs _
theorem kp_at {cs:List DChange} {rows:List (List Value)} (n:ByteArray) (hl:rows.length=cs.length) {i:Nat} (hi:i<(cs.filter fun c=>!ofF n c).length) :
  ∃ t,t<cs.length∧(cs.filter fun c=>!ofF n c).getD i default=cs.getD t default∧(kp rows (fun t=>ofF n (cs.getD t default)) cs.length).getD i []=rows.getD t []:=by
 rw [zeS cs rows n] at hi ⊢
 rw [List.length_map] at hi
 unfold kp
 have hm:=List.getElem_mem hi
 have h1:=List.mem_range.1 (List.mem_filter.1 hm).1
 refine ⟨((List.range cs.length).filter fun t=>!ofF n (cs.getD t default))[i],h1,?_,?_⟩
 ·rw [List.getD_eq_getElem?_getD,List.getElem?_map,List.getElem?_eq_getElem hi];rfl
 ·rw [List.getD_eq_getElem?_getD,List.getElem?_map,List.getElem?_eq_getElem hi];rfl
theorem zjI (cs:List DChange) (rows:List (List Value)) (n:ByteArray):(kp rows (fun t=>ofF n (cs.getD t default)) cs.length).length=(cs.filter fun c=>!ofF n c).length:=by
 rw [zeS cs rows n]
 unfold kp
 rw [List.length_map,List.length_map]
theorem zcR (cs:List DChange) (l:List File) (n:ByteArray) {j:Nat} (hj:j<cs.length):((cs.take (j+1)).filter (ofF n)).foldl zag l=if ofF n (cs.getD j default) then zag (((cs.take j).filter (ofF n)).foldl zag l) (cs.getD j default) else ((cs.take j).filter (ofF n)).foldl zag l:=by
 rw [zbg (d:=default) hj,List.filter_append]
 cases h:ofF n (cs.getD j default)
 ·rw [List.filter_cons,if_neg (by rw [h];decide)]
  simp
 ·rw [List.filter_cons,if_pos h,List.foldl_append]
  rfl
theorem DkAt.sync {w w2 w3:World} {b:Nat} {d:RDisk} {F:Nat→Prop} {m1 m2 g cap:Nat} {rows:List (List Value)} {n:ByteArray} {v v':Value} (hv:v = .slice (some ⟨g,0,none⟩) d.changes.length cap) (hv':v' = .slice (some ⟨g,0,none⟩) (sy1 d n).changes.length cap) (h:DkAt w b d F m1 m2 v rows)
  (ht:Turn (fun x=>x=m1) w w2) (hf:FilesAt w2 (fun x=>SB F b m1 m2 v x∨w.heap.size≤x) m1 (sy1 d n).lasts)
  (hr:RowB w3 g cap (kp rows (fun t=>ofF n (d.changes.getD t default)) d.changes.length)) (ht3:Turn (fun x=>x=g) w2 w3) :
  DkAt (w3.setCell ⟨b,3,none⟩ v') b (sy1 d n) (fun x=>x<w3.heap.size∧(F x∨w.heap.size≤x)) m1 m2 v' (kp rows (fun t=>ofF n (d.changes.getD t default)) d.changes.length) ∧
   Turn F w (w3.setCell ⟨b,3,none⟩ v'):=by
 have ob:v.ownBlock=some g:=by rw [hv];rfl
 have ob':v'.ownBlock=some g:=by rw [hv'];rfl
 have hbl:=h.fl _ h.fb
 have h1l:=h.fl _ h.f1
 have h2l:=h.fl _ h.f2
 have hgl:=h.fl _ (h.fv g ob)
 have hbg:b≠g:=fun e=>h.bv (by rw [ob,e])
 have h1g:m1≠g:=fun e=>h.v1 (by rw [ob,e])
 have h2g:m2≠g:=fun e=>h.v2 (by rw [ob,e])
 have s12:=ht.size
 have s23:=ht3.size
 have hsz4:(w3.setCell ⟨b,3,none⟩ v').heap.size=w3.heap.size:=by simp [World.setCell]
 have far:∀ x,x<w2.heap.size→x≠b→x≠g→(w3.setCell ⟨b,3,none⟩ v').heap[x]? = w2.heap[x]? := fun x hx hb hg=>by
  rw [zak (p:=⟨b,3,none⟩) hb]
  exact ht3.block x hx hg
 have far0:∀ x,x<w.heap.size→x≠m1→w2.heap[x]? = w.heap[x]? := fun x hx hm=>ht.block x hx hm
 have hS:Same (SB F b m1 m2 v) w (w3.setCell ⟨b,3,none⟩ v'):=⟨by omega,fun x hx hl=>by
  rw [far x (by omega) hx.2.1 (fun e=>hx.2.2.2.2 (by rw [ob,e])),far0 x hl hx.2.2.1]⟩
 have hT:∀ x,x<w.heap.size→SB F b m1 m2 v x→SB (fun x=>x<w3.heap.size∧(F x∨w.heap.size≤x)) b m1 m2 v' x:=fun x _ hs=>⟨⟨by omega,.inl hs.1⟩,hs.2.1,hs.2.2.1,hs.2.2.2.1,fun e=>hs.2.2.2.2 (by rw [ob];rw [ob'] at e;exact e)⟩
 have hB3:Blk w3 b TDi (dkCs d m1 m2 v):=(ht3.block b (by omega) hbg).trans ((far0 b hbl h.b1).trans h.blk)
 have hlen:(kp rows (fun t=>ofF n (d.changes.getD t default)) d.changes.length).length=(sy1 d n).changes.length:=zjI _ _ _
 refine ⟨⟨?_,?_,?_,?_,hlen,fun i hi=>?_,fun x hx=>by rw [hsz4];exact hx.1,⟨by omega,.inl h.fb⟩,⟨by omega,.inl h.f1⟩,⟨by omega,.inl h.f2⟩,fun g' hg'=>?_,h.mm,h.inv.sync n⟩,?_⟩
 ·have k:=hB3.set 3 v'
  simpa [dkCs,sy1] using k
 ·refine hf.kept (far m1 (by omega) (Ne.symm h.b1) h1g) (S:=fun x=>SB F b m1 m2 v x∨w.heap.size≤x) ⟨by omega,fun x hx hl=>?_⟩ fun x hx hs=>?_
  ·rcases hx with hs | hs
   ·exact far x hl hs.2.1 fun e=>hs.2.2.2.2 (by rw [ob,e])
   ·exact far x hl (by omega) (by omega)
  ·rcases hs with hs | hs
   ·exact hT x (h.fl x hs.1) hs
   ·exact ⟨⟨by omega,.inr hs⟩,by omega,by omega,by omega,by rw [ob'];intro e;have:=Option.some.inj e;omega⟩
 ·rw [zgC h.inv.sl]
  refine h.no.kept ?_ hS hT
  rw [far m2 (by omega) (Ne.symm h.b2) h2g,far0 m2 h2l (Ne.symm h.mm)]
 ·have:=hr.own
  rw [hlen,← hv'] at this
  exact zai this fun g' hg'=>by
   rw [ob'] at hg'
   have e:=Option.some.inj hg'
   subst e
   exact zak (p:=⟨b,3,none⟩) (Ne.symm hbg)
 ·obtain ⟨t,t1,t2,t3⟩:=kp_at n h.rl hi
  show ChAt _ _ ((d.changes.filter fun c=>!ofF n c).getD i default) _
  rw [t2,t3]
  exact (h.ch t t1).kept hS hT
 ·rw [ob'] at hg'
  have e:=Option.some.inj hg'
  subst e
  exact ⟨by omega,.inl (h.fv _ ob)⟩
 ·refine Turn.set ?_ (.inl h.fb) _
  refine (ht.mono (G:=F) fun x e=>?_).trans ht3 fun x hx e=>?_
  ·rw [e];exact h.f1
  ·rw [e];exact h.fv _ ob
theorem zg5 {w:World} {fv:Value}:Calls Try.prog 53 #[.slice none 0 0,fv] w fun e w'=>e = .returned (.int .i64 (-1))∧w'=w:=by
 go_enter Try.func53,Try.ntmps53
 go_wp2
 go_loopw [8] (fun kv wr=>kv = .int .i64 0∧wr=w) (fun _ _=>0)
 case atStart=>exact ⟨rfl,rfl⟩
 case round=>
  obtain ⟨rfl,rfl⟩:=hrel
  go_wp2
  go_ret
  exact ⟨rfl,rfl⟩
theorem zjg {w:World} {fv:Value}:Calls Try.prog 31 #[.slice none 0 0,fv] w fun e w'=>e = .returned (.slice none 0 0)∧w'=w:=by
 have hI:= @zg5 w fv
 go_enter Try.func31,Try.ntmps31
 go_wp2_with (go_at_call 53;refine hI.mono ?_;rintro e w1 ⟨rfl,rfl⟩)
 go_ret
 exact ⟨rfl,rfl⟩
theorem Blk.far0 {w w':World} {g:Nat} {t:TypeId} {cs:Array Value} {F:Nat→Prop} (h:Blk w g t cs) (ht:Turn F w w') (hn:¬ F g):Blk w' g t cs:=ht.keep h hn
theorem zjC (d:RDisk) (n:ByteArray):syD d n=if d.down then ((d,120):RDisk×Int) else if zb8 n=false then (d,122) else (zbR (sy1 d n),0):=rfl
set_option maxHeartbeats 8000000 in
theorem zdw {w:World} {b:Nat} {d:RDisk} {F:Nat→Prop} (h:DkOk w b d F) (hN:d.lasts.length+d.changes.length≤5000) {n:ByteArray} (hn:NmOk n) :
  Calls Try.prog 12 #[ptrV b,.string n] w (DPost w b F (syD d n).1 (.int .i64 (syD d n).2)):=by
 have h0:=Lib.hid h
 have hsp:=zjC d n
 have hst:=fun (w1:World) (hb:Below w.heap.size w w1)=>zaV (h.kept hb.size fun x hx=>hb.block x (h.lt hx))
 have HST:=Lib.hid hst
 clear hst
 obtain ⟨m1,m2,v,rows,h⟩:=h.o
 have hK:=fun (w1:World) (hb:Below w.heap.size w w1)=>h.below hb
 have HK:=Lib.hid hK
 clear hK
 have hB0:Below w.heap.size w (w.alloc (.cells #[.string n] TSt)):=(Below.refl _ w).alloc (Nat.le_refl _) _
 have HB0:=Lib.hid hB0
 clear hB0
 have HI:=Lib.hid h.inv
 unfold ptrV at HST ⊢
 cases hd:d.down
 case true=>
  rw [hd] at HST
  rw [hd,if_pos rfl] at hsp
  rw [hsp]
  clear h
  go_enter Try.func12,Try.ntmps12
  go_wp2_with (go_at_call 29;refine (HST.out _ HB0.out).mono ?_;rintro e w1 ⟨rfl,hb1⟩)
  go_ret
  exact DPost.same h0.out (HB0.out.trans (hb1.mono HB0.out.size))
 rw [hd] at HST
 rw [hd,if_neg (by decide)] at hsp
 have hnm:=fun w1=>zfR n w1 hn
 have HNM:=Lib.hid hnm
 clear hnm
 cases hnb:zb8 n
 case false=>
  rw [hnb,if_pos rfl] at hsp
  rw [hnb] at HNM
  rw [hsp]
  clear h
  go_enter Try.func12,Try.ntmps12
  go_wp2_with (first | (go_at_call 29;refine (HST.out _ HB0.out).mono ?_;rintro e w1 ⟨rfl,hb1⟩;have r0:=box1 ((Blk.new w TSt #[.string n]).next hb1);have HB1:=Lib.hid (HB0.out.trans (hb1.mono HB0.out.size));clear hb1) | (go_at_call 30;refine (HNM.out _).mono ?_;rintro e w2 ⟨rfl,hb2⟩) | fail)
  go_ret
  exact DPost.same h0.out (HB1.out.trans (hb2.mono HB1.out.size))
 rw [hnb,if_neg (by decide)] at hsp
 rw [hnb] at HNM
 have HSP:=Lib.hid hsp
 clear hsp
 rcases h.row.2 with ⟨rfl,hz⟩ | ⟨g,cap,cur,rfl,_⟩
 ·clear h
  have hnil:d.changes=[]:=List.eq_nil_of_length_eq_zero hz
  have hsy:sy1 d n=d:=by
   cases d
   simp only at hnil
   subst hnil
   rfl
  rw [hsy] at HSP
  have hdel:=fun (w:World) (fv:Value)=> @zjg w fv
  have HALL:=Lib.hid (fun (w3:World) (hb:Below w.heap.size w w3)=>by
   have h1:=HK.out w3 hb
   have h2:DkAt (w3.setCell ⟨b,3,none⟩ (.slice none 0 0)) b d F m1 m2 (.slice none 0 0) rows:=h1.scal (by simp [World.setCell]) (by
    have k:=h1.blk.set 3 (.slice none 0 0)
    simpa [dkCs] using k) (fun x _ hx=>zak hx) rfl rfl rfl h1.inv.i64
   exact (zdW ⟨_,_,_,_,h2⟩).mono (R':=fun e w'=>e = .returned (.tuple #[])∧DPost w b F (zbR d) (.int .i64 0) (.returned (.int .i64 0)) w') fun e w' hp=>by
    obtain ⟨he,F',p1,p2,p3⟩:=hp
    exact ⟨he,DPost.after (F1:=F) (fun x hx=> .inl hx) ((Turn.below hb).set (.inl h1.fb) _) ⟨rfl,F',p1,p2,p3⟩⟩)
  unfold ptrV at HALL
  rw [hz] at *
  go_enter Try.func12,Try.ntmps12
  go_wp2_with (first | (go_at_call 29;refine (HST.out _ HB0.out).mono ?_;rintro e w1 ⟨rfl,hb1⟩;have r0:=box1 ((Blk.new w TSt #[.string n]).next hb1);have HKX:=Lib.hid ((Blk.new w TSt #[.string n]).next hb1);have HB1:=Lib.hid (HB0.out.trans (hb1.mono HB0.out.size));clear hb1) | (go_at_call 30;refine (HNM.out _).mono ?_;rintro e w2 ⟨rfl,hb2⟩;have r0:=box1 (HKX.out.next hb2);have HB2:=Lib.hid (HB1.out.trans (hb2.mono HB1.out.size));clear hb2;have k2:=HK.out w2 HB2.out;obtain ⟨q0,q1,q2,q3,q4,q5,q6⟩:=box7 k2.blk;obtain ⟨z0,z1,z2,z3,z4,z5,z6⟩:=zdU k2.blk;clear k2) | fail)
  go_loopw [21] (fun kv wr=>kv = .int .i64 0∧wr=w2) (fun _ _=>0)
  case atStart=>exact ⟨rfl,rfl⟩
  case round=>
   obtain ⟨rfl,rfl⟩:=hrel
   go_wp2_with (first | (go_at_call 31;refine (hdel _ _).mono ?_;rintro e w3 ⟨rfl,rfl⟩) | (go_at_call 33;refine (HALL.out _ HB2.out).mono ?_;rintro e w6 ⟨rfl,hp6⟩) | fail)
   go_ret
   rw [HSP.out]
   exact hp6
 ·clear h
  go_enter Try.func12,Try.ntmps12
  go_wp2_with (first | (go_at_call 29;refine (HST.out _ HB0.out).mono ?_;rintro e w1 ⟨rfl,hb1⟩;have r0:=box1 ((Blk.new w TSt #[.string n]).next hb1);have HKX:=Lib.hid ((Blk.new w TSt #[.string n]).next hb1);have HB1:=Lib.hid (HB0.out.trans (hb1.mono HB0.out.size));clear hb1) | (go_at_call 30;refine (HNM.out _).mono ?_;rintro e w2 ⟨rfl,hb2⟩;have HKX2:=Lib.hid (HKX.out.next hb2);have HB2:=Lib.hid (HB1.out.trans (hb2.mono HB1.out.size));clear hb2;have k2:=HK.out w2 HB2.out;obtain ⟨q0,q1,q2,q3,q4,q5,q6⟩:=box7 k2.blk;have HK2:=Lib.hid k2;clear k2) | fail)
  try go_frame
  have hgb:g≠m1∧g≠b∧b≠m1:=⟨fun e=>HK2.out.v1 (by rw [← e];rfl),fun e=>HK2.out.bv (by rw [← e];rfl),HK2.out.b1⟩
  have hxb:w.heap.size≠m1:=fun e=>by have:=h0.out.lt (HK2.out.f1);omega
  have hrowb:RowB w2 g cap rows:=RowB.of_own HK2.out.row (fun r hr=>by
   obtain ⟨i,hi,rfl⟩:=List.mem_iff_getElem.1 hr
   have:=(HK2.out.ch i (by rw [← HK2.out.rl];exact hi)).len
   simpa [List.getD,hi] using this) HK2.out.rl
  have HRB:=Lib.hid hrowb
  have hNl:d.changes.length≤cap:=by have:=hrowb.le;rw [HK2.out.rl] at this;exact this
  clear hrowb
  go_loopw [21] (fun kv wr=>∃ (j:Nat),kv = .int .i64 j∧j≤d.changes.length∧Hid (Turn (fun x=>x=m1) w2 wr∧FilesAt wr (fun x=>SB F b m1 m2 (.slice (some ⟨g,0,none⟩) d.changes.length cap) x∨w2.heap.size≤x) m1 (((d.changes.take j).filter (ofF n)).foldl zag d.lasts))) (fun kv _=>d.changes.length-(intOf kv).toNat)
  case atStart=>exact ⟨0,rfl,Nat.zero_le _,Lib.hid ⟨Turn.refl _ _,HK2.out.la.kept rfl (Same.refl _ _) fun _ _ h=> .inl h⟩⟩
  case round=>
   obtain ⟨j,rfl,hj,HR⟩:=hrel
   by_cases hlt:j<d.changes.length
   ·have hltz:(j:Int)<(d.changes.length:Int):=by omega
    have hj0:(0:Int)≤(j:Int):=Int.natCast_nonneg j
    have hw:wrap64 ((j:Int)+1)=((j+1:Nat):Int):=by unfold wrap64;omega
    obtain ⟨htn,hfl⟩:=HR.out
    have hrow:=HRB.out.kept (htn.block g HRB.out.lt (fun e=>hgb.1 e))
    have hch:=HK2.out.ch j hlt
    obtain ⟨c,hc⟩:∃ c,d.changes.getD j default=c:=⟨_,rfl⟩
    rw [hc] at hch
    obtain ⟨dv,bv,ecs,hdo,hbv⟩:=hch.D
    have hrl:j<rows.length:=by have:=HK2.out.rl;omega
    have c0:=(hrow.cell (i:=j) (j:=0) hrl (by omega)).1
    have c1:=(hrow.cell (i:=j) (j:=1) hrl (by omega)).1
    have c2:=(hrow.cell (i:=j) (j:=2) hrl (by omega)).1
    have c3:=(hrow.cell (i:=j) (j:=3) hrl (by omega)).1
    have c4:=(hrow.cell (i:=j) (j:=4) hrl (by omega)).1
    rw [ecs] at c0 c1 c2 c3 c4
    simp only [List.getD_cons_zero,List.getD_cons_succ,Nat.add_zero] at c0 c1 c2 c3 c4
    have kbx:=HKX2.out.far0 htn hxb
    have r0:=box1 kbx
    have p1:=(htn.keep HK2.out.blk hgb.2.2)
    have bx1:=(show Blk wr b TDi _ from p1).cell 1
    have hones:=hch.ones
    rw [ecs] at hones
    have s1:= @zaf Try.prog dv (hones _ (by simp))
    have s3:= @zaf Try.prog bv (hones _ (by simp))
    have hnext:=zcR d.changes d.lasts n hlt
    rw [hc] at hnext
    obtain ⟨S1,hS1⟩:∃ S1:Nat→Prop,(fun x=>SB F b m1 m2 (.slice (some ⟨g,0,none⟩) d.changes.length cap) x∨w2.heap.size≤x)=S1:=⟨_,rfl⟩
    rw [hS1] at hfl
    have hno1:¬ S1 m1:=by
     rw [← hS1]
     rintro (hs | hs)
     ·exact hs.2.2.1 rfl
     ·have:=HK2.out.fl _ HK2.out.f1;omega
    cases hof:ofF n c
    ·rw [hof,if_neg (by decide)] at hnext
     have hof2:(c.file.toList==n.toList)=false:=hof
     have r0a:(wr.alloc (.cells #[.string c.file,dv,.int .i64 (chAt c),bv,.bool (c.kind==1)] 66)).cell? ⟨w.heap.size,0,none⟩=some (.string n):=box1 (kbx.alloc _)
     have HN2:=Lib.hid hnext
     have HFL:=Lib.hid hfl
     have HTN:=Lib.hid htn
     have HNO:=Lib.hid hno1
     clear hnext hfl htn hno1 hch hdo hbv ecs hones hrow p1 kbx
     go_wp2
     go_roundw
     case rel=>
      refine ⟨j+1,by first | rfl | (rw [hw];rfl) | simp [hw],by omega,Lib.hid ⟨HTN.out.alloc _,?_⟩⟩
      rw [HN2.out,hS1]
      exact HFL.out.kept (Below.heap_alloc _ _ _ HFL.out.lt) (Same.alloc _ _ _) fun _ _ h=>h
     case measure=>simp [intOf,hw];omega
    ·rw [hof,if_pos rfl] at hnext
     have hof2:(c.file.toList==n.toList)=true:=hof
     obtain ⟨wx,hwx⟩:∃ wx,wr.alloc (.cells #[.string c.file,dv,.int .i64 (chAt c),bv,.bool (c.kind==1)] TCh)=wx:=⟨_,rfl⟩
     have hbx:Below wr.heap.size wr wx.drew:=by rw [← hwx];exact ((Below.refl _ wr).alloc (Nat.le_refl _) _).drew
     have hSx:Same (SB F b m1 m2 (.slice (some ⟨g,0,none⟩) d.changes.length cap)) w2 wx.drew:=(htn.same fun x hx e=>hx.2.2.1 e).trans (Same.below hbx)
     have hdo1:DoAt wx.drew S1 c dv:=hdo.kept hSx fun x _ hx=>by rw [← hS1];exact .inl hx
     have hfl1:FilesAt wx.drew S1 m1 (((d.changes.take j).filter (ofF n)).foldl zag d.lasts):=hfl.kept (hbx.block _ hfl.lt) (Same.below hbx) fun _ _ h=>h
     have hmemf:∀ x∈(d.changes.take j).filter (ofF n),x∈d.changes:=fun x hx=>List.mem_of_mem_take (List.mem_filter.1 hx).1
     have hlk:=zbr (zaI (M:=4194304) ((d.changes.take j).filter (ofF n)) d.lasts HI.out.fb fun x hx=>by have:=HI.out.ch x (hmemf x hx);exact ⟨this.1,this.2.1⟩) c.file
     have hln:=zaY ((d.changes.take j).filter (ofF n)) d.lasts
     have hl2:=List.length_filter_le (ofF n) (d.changes.take j)
     have hl3:(d.changes.take j).length≤j:=by rw [List.length_take];omega
     obtain ⟨f,cap',hdv,hB,hcall⟩:=zhU hdo1 hfl1 (HI.out.sl.dones _) hno1 (by omega) hch.nm hch.at0.1 hch.at0.2 hch.by0 (by omega)
     have hcf:=zau hB
     have HC:=Lib.hid hcall
     have HN2:=Lib.hid hnext
     have HTN:=Lib.hid htn
     have HBX:=Lib.hid hbx
     have kx:Blk wx wr.heap.size TCh #[.string c.file,dv,.int .i64 (chAt c),bv,.bool (c.kind==1)]:=by rw [← hwx];exact Blk.new wr TCh _
     obtain ⟨y0,y1,y2,y3,y4⟩:=box5 kx
     have bx1x:wx.cell? ⟨b,1,none⟩=some (.map (some m1)):=(show Blk wx b TDi _ from (hbx.block b (by have:=HK2.out.fl _ HK2.out.fb;have:=htn.size;omega)).trans p1).cell 1
     have r0a:wx.cell? ⟨w.heap.size,0,none⟩=some (.string n):=by rw [← hwx];exact box1 (kbx.alloc _)
     subst hdv
     clear hnext hfl hfl1 htn hno1 hch hdo hdo1 hbv ecs hones hrow p1 hcall hbx hSx hmemf hlk hln hl2 hl3 kx kbx
     go_wp2_with fail
     try rw [hwx]
     clear hwx
     go_still_tail 6,(by kernel_rfl)
     change wpList _ _ _ _ _ wx.drew
     go_wp2_with (first | (refine HC.out.mono ?_;rintro e w5 ⟨rfl,ht5,hf5⟩))
     go_roundw
     case rel=>
      refine ⟨j+1,by first | rfl | (rw [hw];rfl) | simp [hw],by omega,Lib.hid ⟨?_,?_⟩⟩
      ·exact (HTN.out.trans (Turn.below (F:=fun x=>x=m1) HBX.out) fun x _ h=>h).trans ht5 fun x _ h=>h
      ·rw [HN2.out,hS1]
       refine hf5.kept rfl (Same.refl _ _) fun x _ hx=>?_
       rcases hx with hx | hx
       ·exact hx
       ·rw [← hS1]
        exact .inr (Nat.le_trans HTN.out.size (Nat.le_trans HBX.out.size hx))
     case measure=>simp [intOf,hw];omega
   ·have hltz:¬ (j:Int)<(d.changes.length:Int):=by omega
    obtain rfl:j=d.changes.length:=by omega
    obtain ⟨htn,hfl⟩:=HR.out
    rw [List.take_length] at hfl
    have hrow:=HRB.out.kept (htn.block g HRB.out.lt (fun e=>hgb.1 e))
    have kbx:=HKX2.out.far0 htn hxb
    have kb:=HK2.out.blk.far0 htn hgb.2.2
    obtain ⟨q0,q1,q2,q3,q4,q5,q6⟩:=box7 kb
    obtain ⟨z0,z1,z2,z3,z4,z5,z6⟩:=zdU kb
    have hsxx:Same (SB F b m1 m2 (.slice (some ⟨g,0,none⟩) d.changes.length cap)) w2 wr:=htn.same fun x hx e=>hx.2.2.1 e
    have hsay:zlx wr (fun x=>(SB F b m1 m2 (.slice (some ⟨g,0,none⟩) d.changes.length cap) x∨x=w.heap.size)∧x<wr.heap.size∧x≠g) 32 [ptrV w.heap.size] rows (fun t=>ofF n (d.changes.getD t default)):=by
     intro w' i hs hsz hi
     have hi2:i<d.changes.length:=by rw [← HK2.out.rl];exact hi
     have hc:=(HK2.out.ch i hi2).kept (T:=fun _=>True) (hsxx.trans (hs.mono fun x hx=>?_)) fun _ _ _=>trivial
     ·exact zkl hc (kbx.same hs ⟨.inr rfl,kbx.lt,fun e=>by have:=HK2.out.fl _ (HK2.out.fv g rfl);have:=h0.out.lt (HK2.out.fv g rfl);omega⟩)
     ·exact ⟨.inl hx,Nat.lt_of_lt_of_le (HK2.out.fl x hx.1) htn.size,fun e=>hx.2.2.2.2 (by rw [e];rfl)⟩
    have hdel:=zjh hrow (fun x hx=>hx.2) hsay (fnB Try.func32 (by decide) rfl) (fun r hr u hu=>by
     obtain ⟨i,hi,rfl⟩:=List.mem_iff_getElem.1 hr
     have:=(HK2.out.ch i (by rw [← HK2.out.rl];exact hi)).ones
     have e:rows.getD i []=rows[i]:=by simp [List.getD,hi]
     rw [e] at this
     exact this u hu) (by rw [HK2.out.rl];omega)
    rw [HK2.out.rl] at hdel
    have hkc:=zjI d.changes rows n
    have hfin:=fun (w3:World) (hr3:RowB w3 g cap (kp rows (fun t=>ofF n (d.changes.getD t default)) d.changes.length)) (ht3:Turn (fun x=>x=g) wr w3)=>DkAt.sync (n:=n) rfl rfl HK2.out htn hfl hr3 ht3
    have hall:=fun (w3:World) (hr3:RowB w3 g cap (kp rows (fun t=>ofF n (d.changes.getD t default)) d.changes.length)) (ht3:Turn (fun x=>x=g) wr w3)=>by
     obtain ⟨g1,g2⟩:=hfin w3 hr3 ht3
     exact (zdW ⟨_,_,_,_,g1⟩).mono (R':=fun e w'=>e = .returned (.tuple #[])∧DPost w b F (zbR (sy1 d n)) (.int .i64 0) (.returned (.int .i64 0)) w') fun e w' hp=>by
      obtain ⟨he,F',p1,p2,p3⟩:=hp
      refine ⟨he,DPost.after (F1:=fun x=>x<w3.heap.size∧(F x∨w2.heap.size≤x)) (fun x hx=>?_) ((Turn.below HB2.out).trans g2 fun x _ hx=>hx) ⟨rfl,F',p1,p2,p3⟩⟩
      rcases hx.2 with g | g
      ·exact .inl g
      ·exact .inr (Nat.le_trans HB2.out.size g)
    have HALL:=Lib.hid hall
    have HDEL:=Lib.hid hdel
    have HKB:=Lib.hid kb
    rw [show (sy1 d n).changes.length=(d.changes.filter fun c=>!ofF n c).length from rfl,← hkc] at HALL
    clear hall hdel hfin hsay hsxx kb kbx hrow htn hfl hkc HR
    unfold ptrV at HALL HDEL
    go_wp2_with (first | (go_at_call 31;refine HDEL.out.mono ?_;rintro e w3 ⟨rfl,hr3,ht3⟩;have kb3:=HKB.out.far0 ht3 (Ne.symm hgb.2.1);obtain ⟨q0,q1,q2,q3,q4,q5,q6⟩:=box7 kb3;obtain ⟨z0,z1,z2,z3,z4,z5,z6⟩:=zdU kb3;have HCL:=Lib.hid (HALL.out w3 hr3 ht3);clear kb3 hr3 ht3) | (go_at_call 33;refine HCL.out.mono ?_;rintro e w6 ⟨rfl,hp6⟩) | fail)
    go_ret
    rw [HSP.out]
    exact hp6
end Go.Proofs.Ytfccndnnpkiajaa
namespace Go.Proofs
open Go.Shelf
def Try.cloneD_ren:Go.Shelf.Ren:=⟨fun | 5=>35 | 7=>55 | n=>n,fun | 23=>55 | 25=>9 | 3=>30 | 4=>4 | 20=>20 | n=>n,fun | n=>n⟩
theorem Try.cloneD:Go.Proofs.SlLaysW.n5 Try.prog Try.cloneD_ren:={
 mixed:=by kernel_rfl
 f5:=⟨Try.f35.name,by decide,Try.func35.trans (congrArg some (by kernel_rfl))⟩
 f7:=Try.func55.trans (congrArg some (by kernel_rfl))
 t4:=Try.underlying4
 a4:=Try.isAgg4
 z4:=Try.sizeOf4
 v4:=Try.zeroValue4
 t20:=Try.underlying20
 a20:=Try.isAgg20
 z20:=Try.sizeOf20
 v20:=Try.zeroValue20
 t23:=Try.underlying55
 a23:=Try.isAgg55
 z23:=Try.sizeOf55
 v23:=Try.zeroValue55}
end Go.Proofs
namespace Go.Proofs.Ytfccndnnpkiajaa
open Go.RowKit Go.ChangeShapes Go.WideShapes Go.Deep
set_option maxRecDepth 100000
def crK (torn:Int):List DChange→List DChange
 | []=>[]
 | [c]=>(match zbY c torn with | some c=>[c] | none=>[])
 | c::cs=>c::crK torn cs
theorem zfb (torn:Int):∀ (K:List DChange) (l:List File),zdL torn K l=(crK torn K).foldl zag l
 | [],l=>rfl
 | [c],l=>by
  unfold zdL crK
  cases zbY c torn<;>rfl
 | c::x::cs,l=>by
  show zdL torn (x::cs) (zag l c)=_
  rw [zfb torn (x::cs)]
  rfl
theorem zcY (torn:Int) (c:DChange):∀ K:List DChange,crK torn (K++[c])=K++(match zbY c torn with | some c=>[c] | none=>[])
 | []=>rfl
 | [x]=>rfl
 | x::y::K=>by
  show x::crK torn ((y::K)++[c])=_
  rw [zcY torn c (y::K)]
  rfl
theorem zgp {c c':DChange} {torn:Int} (h:zbY c torn=some c'):c'=c∨(c.kind=1∧0<torn∧torn<c.bytes.length∧c'={c with bytes:=c.bytes.take torn.toNat}):=by
 unfold zbY at h
 split at h
 ·rename_i h1
  split at h
  ·cases h
  ·rename_i h2
   have:=Option.some.inj h
   exact .inr ⟨h1.1,by omega,h1.2.2,this.symm⟩
 ·exact .inl (Option.some.inj h).symm
theorem zfv (torn:Int):∀ (K:List DChange) (c':DChange),c'∈crK torn K→∃ c∈K,c'=c∨(c.kind=1∧0<torn∧torn<c.bytes.length∧c'={c with bytes:=c.bytes.take torn.toNat})
 | [],c',h=>by cases h
 | [c],c',h=>by
  unfold crK at h
  cases e:zbY c torn with
  | none=>rw [e] at h;cases h
  | some c2=>
   rw [e] at h
   have h:c'∈[c2]:=h
   rw [List.mem_singleton] at h
   subst h
   exact ⟨c,List.mem_singleton.2 rfl,zgp e⟩
 | c::x::cs,c',h=>by
  have h:c'∈c::crK torn (x::cs):=h
  rcases List.mem_cons.1 h with e | h
  ·exact ⟨c,List.mem_cons_self ..,.inl e⟩
  ·obtain ⟨c2,h1,h2⟩:=zfv torn (x::cs) c' h
   exact ⟨c2,List.mem_cons_of_mem _ h1,h2⟩
theorem zcp:∀ (cs:List DChange) (keep:List Bool) (c:DChange),c∈zaD cs keep→c∈cs
 | c0::cs,b::bs,c,h=>by
  unfold zaD at h
  cases b
  ·exact List.mem_cons_of_mem _ (zcp cs bs c (by simpa using h))
  ·rcases List.mem_cons.1 (by simpa using h:c∈c0::zaD cs bs) with e | h
   ·exact e▸List.mem_cons_self ..
   ·exact List.mem_cons_of_mem _ (zcp cs bs c h)
 | [],_,c,h=>by cases h
 | _::_,[],c,h=>by cases h
theorem zcq:∀ (cs:List DChange) (keep:List Bool),(zaD cs keep).length≤cs.length
 | c0::cs,b::bs=>by
  have:=zcq cs bs
  unfold zaD
  cases b<;>simp<;>omega
 | [],_=>by simp [zaD]
 | _::_,[]=>by simp [zaD]
theorem zfw (torn:Int):∀ K:List DChange,(crK torn K).length≤K.length
 | []=>Nat.le_refl _
 | [c]=>by
  unfold crK
  cases zbY c torn<;>simp
 | c::x::cs=>by
  show (c::crK torn (x::cs)).length≤_
  have:=zfw torn (x::cs)
  simp only [List.length_cons] at this ⊢
  omega
theorem zjY {d:RDisk} (h:DkI d) (keep:List Bool) (torn:Int):∀ c∈crK torn (zaD d.changes keep),0≤c.at_∧c.at_+c.bytes.length≤4194304∧NmOk c.file:=by
 intro c hc
 obtain ⟨c2,h1,h2⟩:=zfv torn _ c hc
 have h3:=h.ch c2 (zcp _ _ _ h1)
 rcases h2 with rfl | ⟨_,_,h4,rfl⟩
 ·exact h3
 ·refine ⟨h3.1,?_,h3.2.2⟩
  show c2.at_+((c2.bytes.take torn.toNat).length:Nat)≤4194304
  rw [List.length_take]
  have:=h3.2.1
  omega
theorem zgc (d:RDisk) (keep:List Bool) (torn:Int):crD d keep torn={d with lasts:=(crK torn (zaD d.changes keep)).foldl zag d.lasts,changes:=[],down:=false,stops:=false}:=by
 unfold crD
 rw [zfb]
theorem DkI.crash {d:RDisk} (h:DkI d) (keep:List Bool) (torn:Int):DkI (crD d keep torn):=by
 rw [zgc]
 have hk:=zjY h keep torn
 exact ⟨h.sl.dones _,zaI _ _ h.fb fun c hc=>⟨(hk c hc).1,(hk c hc).2.1⟩,fun c hc=>(by cases hc),zet _ _ h.nm fun c hc=>(hk c hc).2.2,trivial,h.rm,h.i64⟩
structure KRow (w0 wx:World) (S:Nat→Prop) (s:Value) (K:List DChange):Prop where
 r:∃ kr:List (List Value),wx.ownsRow 0 TCh 5 s K.length kr.flatten∧kr.length=K.length∧∀ i,i<K.length→ChAt wx (fun x=>S x∨(w0.heap.size≤x∧s.ownBlock≠some x)) (K.getD i default) (kr.getD i [])
 g:∀ g,s.ownBlock=some g→w0.heap.size≤g
 b:Below w0.heap.size w0 wx
theorem KRow.nil (w0:World) (S:Nat→Prop):KRow w0 w0 S (.slice none 0 0) []:=
 ⟨⟨[],World.ownsRow_nil _ _ _ _,rfl,fun i hi=>absurd hi (Nat.not_lt_zero _)⟩,fun g hg=>(by cases hg),Below.refl _ _⟩
theorem KRow.below {w0 wx w':World} {S:Nat→Prop} {s:Value} {K:List DChange} (h:KRow w0 wx S s K) (hb:Below wx.heap.size wx w'):KRow w0 w' S s K:=by
 obtain ⟨kr,h1,h2,h3⟩:=h.r
 exact ⟨⟨kr,zai h1 fun g hg=>hb.block g (h1.lt g hg).2,h2,fun i hi=>(h3 i hi).kept (Same.below hb) fun _ _ h=>h⟩,h.g,h.b.trans (hb.mono h.b.size)⟩
theorem KRow.shape {w0 wx:World} {S:Nat→Prop} {s:Value} {K:List DChange} (h:KRow w0 wx S s K):∃ a cap kr,s = .slice a K.length cap∧(0<K.length→∃ g,a=some ⟨g,0,none⟩∧RowB wx g cap kr)∧kr.length=K.length∧(∀ i,i<K.length→ChAt wx (fun x=>S x∨(w0.heap.size≤x∧s.ownBlock≠some x)) (K.getD i default) (kr.getD i [])):=by
 obtain ⟨kr,h1,h2,h3⟩:=h.r
 have h5:∀ r∈kr,r.length=5:=fun r hr=>by
  obtain ⟨i,hi,rfl⟩:=List.mem_iff_getElem.1 hr
  have:=(h3 i (by omega)).len
  simpa [List.getD,hi] using this
 have h1':=h1
 rcases h1.2 with ⟨rfl,hz⟩ | ⟨g,cap,cur,rfl,_⟩
 ·exact ⟨none,0,kr,by rw [hz],fun hp=>absurd hp (by omega),h2,h3⟩
 ·exact ⟨some ⟨g,0,none⟩,cap,kr,rfl,fun _=>⟨g,rfl,RowB.of_own h1' h5 h2⟩,h2,h3⟩
theorem KRow.app {w0 wx w1 w':World} {S:Nat→Prop} {s s':Value} {K:List DChange} {c:DChange} {cs:List Value} (h:KRow w0 wx S s K) (hS:∀ x,S x→x<w0.heap.size) (hb:Below wx.heap.size wx w1)
  (hc:ChAt w1 (fun x=>S x∨(w0.heap.size≤x∧s.ownBlock≠some x)) c cs) {kr:List (List Value)} (hkr:kr.length=K.length) (hk3:∀ i,i<K.length→ChAt wx (fun x=>S x∨(w0.heap.size≤x∧s.ownBlock≠some x)) (K.getD i default) (kr.getD i []))
  (hr:w'.ownsRow 0 TCh 5 s' (K.length+1) (kr.flatten++cs)) (hg:w1.grownBy w' s.ownBlock) (hs:s'.ownBlock=s.ownBlock∨∃ g,s'.ownBlock=some g∧w1.heap.size≤g):KRow w0 w' S s' (K++[c]):=by
 have hsz:=h.b.size
 have hsz1:=hb.size
 have hS2:Same (fun x=>S x∨(w0.heap.size≤x∧s.ownBlock≠some x)) w1 w':=⟨hg.size,fun x hx hl=>hg.block x hl fun e=>by
  rcases hx with hx | hx
  ·have:=h.g x e.symm
   have:=hS x hx
   omega
  ·exact hx.2 e.symm⟩
 have hT:∀ x,x<w1.heap.size→(S x∨(w0.heap.size≤x∧s.ownBlock≠some x))→(S x∨(w0.heap.size≤x∧s'.ownBlock≠some x)):=fun x hl hx=>by
  rcases hx with hx | hx
  ·exact .inl hx
  ·refine .inr ⟨hx.1,?_⟩
   rcases hs with e | ⟨g,e,hge⟩
   ·rw [e];exact hx.2
   ·rw [e]
    intro e2
    have:=Option.some.inj e2
    omega
 refine ⟨⟨kr++[cs],?_,by simp [hkr],fun i hi=>?_⟩,fun g hg'=>?_,?_⟩
 ·have e:(kr++[cs]).flatten=kr.flatten++cs:=by simp
  rw [e,List.length_append]
  exact hr
 ·rw [List.length_append] at hi
  by_cases hi2:i<K.length
  ·rw [zaK hi2,zaK (by rw [hkr];exact hi2)]
   exact ((hk3 i hi2).kept (Same.below hb) fun _ _ h=>h).kept hS2 hT
  ·have:i=K.length:=by simp at hi;omega
   subst this
   rw [zaL rfl,zaL hkr.symm]
   exact hc.kept hS2 hT
 ·rcases hs with e | ⟨g',e,hge⟩
  ·exact h.g g (e▸hg')
  ·rw [e] at hg'
   have:=Option.some.inj hg'
   omega
 ·refine (h.b.trans (hb.mono hsz)).grown hg (by omega) fun g hg'=>h.g g hg'
theorem KRow.init {w0 wx:World} {S:Nat→Prop} {g n cap:Nat} {K:List DChange} {c:DChange} (h:KRow w0 wx S (.slice (some ⟨g,0,none⟩) (n+1) cap) (K++[c])) (hn:K.length=n):KRow w0 wx S (.slice (some ⟨g,0,none⟩) n cap) K:=by
 obtain ⟨kr,h1,h2,h3⟩:=h.r
 have h5:∀ r∈kr,r.length=5:=fun r hr=>by
  obtain ⟨i,hi,rfl⟩:=List.mem_iff_getElem.1 hr
  have:=(h3 i (by omega)).len
  simpa [List.getD,hi] using this
 have hl:(K++[c]).length=n+1:=by simp [hn]
 rw [hl] at h1 h2
 have hB:=(RowB.of_own h1 h5 h2).take n
 have ht:(kr.take n).length=n:=by rw [List.length_take];omega
 have ho:=hB.own
 rw [ht] at ho
 refine ⟨⟨kr.take n,by rw [hn];exact ho,by rw [ht,hn],fun i hi=>?_⟩,fun g' hg'=>h.g g' hg',h.b⟩
 have:=h3 i (by rw [hl];omega)
 rw [zaK hi] at this
 have e:(kr.take n).getD i []=kr.getD i []:=by rw [List.getD_eq_getElem?_getD,List.getD_eq_getElem?_getD,List.getElem?_take_of_lt (by omega)]
 rw [e]
 exact this
theorem zfg {ops:Array Oper} {rest:List Oper} {o:Oper} {a:Act} {Q:Exit→Act→World→Prop} {w:World} (hgd:o.guard=none) (s x:Operand)
  (ho:o.op = .call {callee:= .builtin .append,args:= #[s,x],argTypes:= #[TRw,TRw]}) (v:Value) (n:Nat) (xs cs:List Value) (hs:a.eval s=v) (hr:w.ownsRow 0 TCh 5 v n xs) (hl:cs.length=5) (h1:∀ u∈cs,u.oneCell'=true) (hn:n≤100000)
  (ad:Addr) (had:ad=⟨w.heap.size,0,none⟩) (hx:a.eval x = .slice (some ad) 1 1)
  (h:∀ v' w',w'.ownsRow 0 TCh 5 v' (n+1) (xs++cs)→w.grownBy w' v.ownBlock→(v'.ownBlock=v.ownBlock∨∃ g,v'.ownBlock=some g∧w.heap.size≤g)→wpList Try.prog ops Q rest (a.put o.dst v') w') :
  wpList Try.prog ops Q (o::rest) a (w.alloc (.cells cs.toArray TCh)):=by
 subst had
 refine wpList_plain hgd fun K hK=>?_
 obtain ⟨v',w',q1,q2,q3,q4⟩:=zfK (ty:=o.type) hr hl h1 hn
 exact zj9 s x TRw ho v _ hs hx (fun v' w'=>w'.ownsRow 0 TCh 5 v' (n+1) (xs++cs)∧w.grownBy w' v.ownBlock∧(v'.ownBlock=v.ownBlock∨∃ g,v'.ownBlock=some g∧w.heap.size≤g)) ⟨v',w',q1,q2,q3,q4⟩ (fun v' w' hR=>hK _ _ (h v' w' hR.1 hR.2.1 hR.2.2))
theorem zgJ {w:World} {S:Nat→Prop} {mb:Nat} {M:List File} (h:FilesAt w S mb M):Calls Try.prog 35 #[.map (some mb)] w fun e w'=>e = .returned (.map (some w.heap.size))∧FilesAt w' S w.heap.size M∧Below w.heap.size w w':=by
 obtain ⟨D,hown,hsz,hk⟩:=h.D
 refine (AnyW.maps_Clone_owns Try.cloneD TSt RV mb M.length D w hown).mono fun e w' ⟨he,h1,h2,h3⟩=>⟨he,⟨D,h1,hsz,fun n=>⟨(hk n).1,fun bs hbs=>?_⟩⟩,h3⟩
 obtain ⟨v,g1,g2⟩:=(hk n).2 bs hbs
 exact ⟨v,g1,g2.same (Same.below h3)⟩
abbrev BlR (w:World) (S:Nat→Prop) (v:Value) (bs:List Bool):Prop:=Rd w S (.sl [.bool]) v (.sl (bs.map fun b=>[.bool b]))
theorem BlR.cells {w:World} {S:Nat→Prop} {v:Value} {bs:List Bool} (h:BlR w S v bs):∃ a c,v = .slice a bs.length c∧bs.length≤140737488355328∧(∀ i,i<bs.length→∃ g off,a=some ⟨g,off,none⟩∧S g∧g<w.heap.size∧w.cell? ⟨g,off+i,none⟩=some (.bool (bs.getD i false))):=by
 obtain ⟨a,c,e,h⟩:=h.sl'
 have hl:(bs.map fun b=>[D.bool b]).length=bs.length:=List.length_map ..
 rw [hl] at e h
 refine ⟨a,c,e,h.bd.2.2.1,fun i hi=>?_⟩
 obtain ⟨g,off,rfl,hS,hlt,vals,h1,h2⟩:=h.rowAt (by omega)
 refine ⟨g,off,rfl,hS,hlt,?_⟩
 have h3:=h1 i 0 hi (by simp)
 have h4:=(h2 i hi).2 0 (by simp)
 have e1:((bs.map fun b=>[D.bool b]).getD i []).getD 0 default = .bool (bs.getD i false):=by simp [List.getD,hi]
 rw [e1] at h4
 rw [Rd.bool' h4] at h3
 simpa using h3
theorem DkAt.crash {w wr w5:World} {b:Nat} {d:RDisk} {F:Nat→Prop} {m1 m2:Nat} {v:Value} {rows:List (List Value)} {keep:List Bool} {torn:Int} (h:DkAt w b d F m1 m2 v rows) (ht:Turn (fun x=>x=m1) w wr)
  (hf:FilesAt w5 (fun x=>(SB F b m1 m2 v x∨w.heap.size≤x)∧x<wr.heap.size) m1 (crD d keep torn).lasts) (hf3:FilesAt w5 (fun x=>(SB F b m1 m2 v x∨w.heap.size≤x)∧x<wr.heap.size) wr.heap.size (crD d keep torn).lasts) (hb5:Below wr.heap.size wr w5) :
  DPost w b F (crD d keep torn) (.int .i64 0) (.returned (.int .i64 0)) ((((w5.setCell ⟨b,2,none⟩ (.map (some wr.heap.size))).setCell ⟨b,3,none⟩ (.slice none 0 0)).setCell ⟨b,4,none⟩ (.bool false)).setCell ⟨b,5,none⟩ (.bool false)):=by
 have hbl:=h.fl _ h.fb
 have h1l:=h.fl _ h.f1
 have hsz:=ht.size
 have h3l:=hf3.lt
 obtain ⟨W,hW⟩:∃ W,((((w5.setCell ⟨b,2,none⟩ (.map (some wr.heap.size))).setCell ⟨b,3,none⟩ (.slice none 0 0)).setCell ⟨b,4,none⟩ (.bool false)).setCell ⟨b,5,none⟩ (.bool false))=W:=⟨_,rfl⟩
 have hzW:W.heap.size=w5.heap.size:=by rw [← hW];simp [World.setCell]
 have hfar:∀ x,x≠b→W.heap[x]? = w5.heap[x]? := fun x hx=>by rw [← hW,zak hx,zak hx,zak hx,zak hx]
 have hblk:Blk W b TDi (dkCs (crD d keep torn) m1 wr.heap.size (.slice none 0 0)):=by
  have k5:Blk w5 b TDi (dkCs d m1 m2 v):=(hb5.block b (by omega)).trans (ht.keep h.blk h.b1)
  have k:=(((k5.set 2 (.map (some wr.heap.size))).set 3 (.slice none 0 0)).set 4 (.bool false)).set 5 (.bool false)
  rw [hW] at k
  simpa [dkCs,crD] using k
 have hS:Same (fun x=>(SB F b m1 m2 v x∨w.heap.size≤x)∧x<wr.heap.size) w5 W:=⟨by omega,fun x hx hl=>hfar x (by
  rcases hx.1 with g | g
  ·exact g.2.1
  ·omega)⟩
 have hT:∀ x,x<w5.heap.size→((SB F b m1 m2 v x∨w.heap.size≤x)∧x<wr.heap.size)→SB (fun x=>x<W.heap.size∧(F x∨w.heap.size≤x)) b m1 wr.heap.size (.slice none 0 0) x:=fun x hl hx=>by
  refine ⟨⟨by omega,hx.1.imp (fun g=>g.1) id⟩,?_,?_,by have:=hx.2;omega,fun e=>by cases e⟩
  ·rcases hx.1 with g | g
   ·exact g.2.1
   ·omega
  ·rcases hx.1 with g | g
   ·exact g.2.2.1
   ·omega
 refine ⟨rfl,fun x=>x<W.heap.size∧(F x∨w.heap.size≤x),?_,fun x hx=>hx.2,?_⟩
 ·rw [hW]
  refine ⟨m1,wr.heap.size,.slice none 0 0,[],⟨hblk,hf.kept (hfar _ (Ne.symm h.b1)) hS hT,hf3.kept (hfar _ (by omega)) hS hT,World.ownsRow_nil _ _ _ _,rfl,fun i hi=>absurd hi (Nat.not_lt_zero _),fun x hx=>hx.1,⟨by omega,.inl h.fb⟩,⟨by omega,.inl h.f1⟩,⟨by omega,.inr hsz⟩,fun g hg=>(by cases hg),by omega,h.inv.crash keep torn⟩⟩
 ·exact (((((((ht.mono fun x e=>by rw [e];exact h.f1).trans (Turn.below (F:=F) hb5) fun x _ h=>h).set (.inl h.fb) _).set (.inl h.fb) _).set (.inl h.fb) _).set (.inl h.fb) _))
theorem zjl {K:List DChange} {l:List File} {j:Nat} (hj:j<K.length):(K.take (j+1)).foldl zag l=zag ((K.take j).foldl zag l) (K.getD j default):=by
 rw [zbg (d:=default) hj,List.foldl_append]
 rfl
theorem zgq {c:DChange} {torn:Int} (h:¬ (c.kind=1∧0≤torn∧torn<c.bytes.length)):zbY c torn=some c:=by unfold zbY;rw [if_neg h]
theorem zgo {c:DChange} (h:c.kind=1∧(0:Int)≤0∧(0:Int)<c.bytes.length):zbY c 0=none:=by unfold zbY;rw [if_pos h,if_pos rfl]
theorem zgS {c:DChange} {torn:Int} (h:c.kind=1∧0≤torn∧torn<c.bytes.length) (hp:torn≠0):zbY c torn=some {c with bytes:=c.bytes.take torn.toNat}:=by unfold zbY;rw [if_pos h,if_neg hp]
theorem DkAt.rowB {w:World} {b:Nat} {d:RDisk} {F:Nat→Prop} {m1 m2 nl cv:Nat} {av:Option Addr} {rows:List (List Value)} (h:DkAt w b d F m1 m2 (.slice av nl cv) rows) (hn:d.changes.length=nl) (hp:0<nl):∃ g,av=some ⟨g,0,none⟩∧RowB w g cv rows∧nl≤cv∧F g:=by
 have hr:=h.row
 rcases hr.2 with ⟨e,hz⟩ | ⟨g,cap,cur,e,_⟩
 ·omega
 ·simp only [Value.slice.injEq] at e
  obtain ⟨rfl,e2,rfl⟩:=e
  rw [hn] at hr
  have hr:w.ownsRow 0 TCh 5 (.slice (some ⟨g,0,none⟩) nl cv) nl rows.flatten:=hr
  have hB:=RowB.of_own hr (fun r hr=>by
   obtain ⟨i,hi,rfl⟩:=List.mem_iff_getElem.1 hr
   have:=(h.ch i (by rw [← h.rl];exact hi)).len
   simpa [List.getD,hi] using this) (h.rl.trans hn)
  refine ⟨g,rfl,hB,?_,h.fv g rfl⟩
  have:=hB.le
  rw [h.rl] at this
  omega
theorem zed {j n:Nat} (hw:wrap64 ((j:Int)+1)=((j+1:Nat):Int)) (h:j<n):n-(intOf (.int .i64 (wrap64 ((j:Int)+1)))).toNat<n-(intOf (.int .i64 (j:Int))).toNat:=by
 rw [hw]
 show n-((j+1:Nat):Int).toNat<n-(j:Int).toNat
 omega
theorem KRow.next {w0 wx w':World} {S:Nat→Prop} {s:Value} {K K':List DChange} (h:KRow w0 wx S s K) (e:K'=K) (hb:Below wx.heap.size wx w'):KRow w0 w' S s K':=e▸h.below hb
theorem KRow.last {w0 wx:World} {S:Nat→Prop} {a:Option Addr} {nk cap n0:Nat} {K K0:List DChange} {c:DChange} (h:KRow w0 wx S (.slice a nk cap) K) (hnk:K.length=nk) (hK:K=K0++[c]) (hn0:K0.length=n0) :
  ∃ g dv bv,a=some ⟨g,0,none⟩∧nk=n0+1∧nk≤cap∧(wx.cell? ⟨g,n0*5,none⟩=some (.string c.file)∧wx.cell? ⟨g,n0*5+1,none⟩=some dv∧wx.cell? ⟨g,n0*5+2,none⟩=some (.int .i64 (chAt c))∧wx.cell? ⟨g,n0*5+3,none⟩=some bv∧wx.cell? ⟨g,n0*5+4,none⟩=some (.bool (c.kind==1))) ∧
   ChAt wx (fun x=>S x∨(w0.heap.size≤x∧(Value.slice a nk cap).ownBlock≠some x)) c [.string c.file,dv,.int .i64 (chAt c),bv,.bool (c.kind==1)]∧g<wx.heap.size∧BRd wx (fun x=>S x∨(w0.heap.size≤x∧(Value.slice a nk cap).ownBlock≠some x)) bv (chBy c):=by
 have hz:nk=n0+1:=by rw [← hnk,hK,List.length_append,hn0];rfl
 obtain ⟨a',cap',kr,e,h2,h3,h4⟩:=h.shape
 simp only [Value.slice.injEq] at e
 obtain ⟨rfl,_,rfl⟩:=e
 obtain ⟨g,rfl,hB⟩:=h2 (by omega)
 have h5:=h4 n0 (by omega)
 have e1:K.getD n0 default=c:=by rw [hK];exact zaL hn0.symm
 rw [e1] at h5
 obtain ⟨dv,bv,ecs,hdo,hbv⟩:=h5.D
 have hrl:n0<kr.length:=by omega
 have c0:=(hB.cell (i:=n0) (j:=0) hrl (by omega)).1
 have c1:=(hB.cell (i:=n0) (j:=1) hrl (by omega)).1
 have c2:=(hB.cell (i:=n0) (j:=2) hrl (by omega)).1
 have c3:=(hB.cell (i:=n0) (j:=3) hrl (by omega)).1
 have c4:=(hB.cell (i:=n0) (j:=4) hrl (by omega)).1
 rw [ecs] at c0 c1 c2 c3 c4
 simp only [List.getD_cons_zero,List.getD_cons_succ,Nat.add_zero] at c0 c1 c2 c3 c4
 rw [ecs] at h5
 have hle:=hB.le
 exact ⟨g,dv,bv,rfl,hz,by omega,⟨c0,c1,c2,c3,c4⟩,h5,hB.lt,hbv⟩
def zdT (K:List DChange) (torn:Int):Bool:=match K.getLast? with
 | none=>false
 | some c=>c.kind==1&&(decide (torn≥0)&&decide (torn<c.bytes.length))
theorem zd6 (K0:List DChange) (c:DChange) (torn:Int):zdT (K0++[c]) torn=(c.kind==1&&(decide (torn≥0)&&decide (torn<c.bytes.length))):=by unfold zdT;rw [List.getLast?_concat]
theorem zkj {K:List DChange} {torn:Int} (h:zdT K torn=false):crK torn K=K:=by
 rcases List.eq_nil_or_concat K with ek | ⟨K0,c,ek⟩
 ·rw [ek];rfl
 ·rw [List.concat_eq_append] at ek
  subst ek
  rw [zd6] at h
  rw [zcY,zgq]
  rintro ⟨h1,h2,h3⟩
  rw [h1,decide_eq_true (show torn≥0 from h2),decide_eq_true h3] at h
  cases h
theorem zki {K:List DChange} {torn:Int} (h:zdT K torn=true):∃ K0 c,K=K0++[c]∧c.kind=1∧0≤torn∧torn<c.bytes.length:=by
 rcases List.eq_nil_or_concat K with ek | ⟨K0,c,ek⟩
 ·rw [ek] at h;cases h
 ·rw [List.concat_eq_append] at ek
  subst ek
  rw [zd6] at h
  simp only [Bool.and_eq_true,decide_eq_true_eq,beq_iff_eq] at h
  exact ⟨K0,c,rfl,h.1,h.2.1,h.2.2⟩
theorem KRow.cut {w0 wx w':World} {S:Nat→Prop} {g n nk cap:Nat} {K K0:List DChange} {c:DChange} (h:KRow w0 wx S (.slice (some ⟨g,0,none⟩) nk cap) K) (hK:K=K0++[c]) (hn:K0.length=n) (hk:nk=n+1) (hb:Below wx.heap.size wx w'):KRow w0 w' S (.slice (some ⟨g,0,none⟩) n cap) K0:=by
 subst hk
 subst hK
 exact (h.init hn).below hb
theorem KRow.torn {w0 wx w1 w5:World} {S:Nat→Prop} {g n0 cap:Nat} {K0:List DChange} {c:DChange} {cs:List Value} (h:KRow w0 wx S (.slice (some ⟨g,0,none⟩) n0 cap) K0) (hS:∀ x,S x→x<w0.heap.size) (hg:g<wx.heap.size) (hb1:Below wx.heap.size wx w1) (hb5:Below w1.heap.size w1 w5) (hc5:ChAt w5 (fun x=>w1.heap.size≤x) c cs) :
  ∃ kr:List (List Value),w5.ownsRow 0 TCh 5 (.slice (some ⟨g,0,none⟩) n0 cap) K0.length kr.flatten∧∀ (v':Value) (w':World),w'.ownsRow 0 TCh 5 v' (K0.length+1) (kr.flatten++cs)→w5.grownBy w' (Value.slice (some ⟨g,0,none⟩) n0 cap).ownBlock→(v'.ownBlock=(Value.slice (some ⟨g,0,none⟩) n0 cap).ownBlock∨∃ g,v'.ownBlock=some g∧w5.heap.size≤g)→KRow w0 w' S v' (K0++[c]):=by
 have hb05:Below wx.heap.size wx w5:=hb1.trans (hb5.mono hb1.size)
 obtain ⟨kr,g1,g2,g3⟩:=h.r
 refine ⟨kr,zai g1 fun g hg=>hb05.block g (g1.lt g hg).2,fun v' w' p1 p2 p3=>h.app hS hb05 (hc5.kept (Same.refl _ _) fun x hx hs=> .inr ⟨?_,fun e=>?_⟩) g2 g3 p1 p2 p3⟩
 ·have:=h.b.size
  have:=hb1.size
  have hs:w1.heap.size≤x:=hs
  omega
 ·have:=hb1.size
  have hs:w1.heap.size≤x:=hs
  have e:g=x:=Option.some.inj e
  omega
theorem zbu {w:World} {p:Addr} {v:Value} (h:w.cell? p=some v):p.block<w.heap.size:=by
 rcases Nat.lt_or_ge p.block w.heap.size with h1 | h1
 ·exact h1
 ·exfalso
  have e:w.heap[p.block]? = none:=by simp [h1]
  simp [World.cell?,e] at h
theorem zgM {w:World} {x:Nat} {f a v:Value} (h:w.cell? ⟨x,0,none⟩=some f∧w.cell? ⟨x,2,none⟩=some a∧w.cell? ⟨x,3,none⟩=some v) (o:Obj):(w.alloc o).cell? ⟨x,0,none⟩=some f∧(w.alloc o).cell? ⟨x,2,none⟩=some a∧(w.alloc o).cell? ⟨x,3,none⟩=some v:=by
 have hl:=zbu h.1
 have hb:Below w.heap.size w (w.alloc o):=(Below.refl _ _).alloc (Nat.le_refl _) _
 exact ⟨(Below.cell hb (p:=⟨x,0,none⟩) hl).trans h.1,(Below.cell hb (p:=⟨x,2,none⟩) hl).trans h.2.1,(Below.cell hb (p:=⟨x,3,none⟩) hl).trans h.2.2⟩
theorem zgL {w w':World} {row:Option Nat} {x:Nat} {f a v:Value} (h:w.cell? ⟨x,0,none⟩=some f∧w.cell? ⟨x,2,none⟩=some a∧w.cell? ⟨x,3,none⟩=some v) (hn:row≠some x) (hg:w.grownBy w' row):w'.cell? ⟨x,0,none⟩=some f∧w'.cell? ⟨x,2,none⟩=some a∧w'.cell? ⟨x,3,none⟩=some v:=by
 have hl:=zbu h.1
 have e:=hg.block x hl fun e=>hn e.symm
 exact ⟨(World.cell?_of_block e).trans h.1,(World.cell?_of_block e).trans h.2.1,(World.cell?_of_block e).trans h.2.2⟩
set_option maxHeartbeats 8000000 in
theorem zdy {w:World} {b:Nat} {d:RDisk} {F:Nat→Prop} (h:DkOk w b d F) (hN:d.lasts.length+d.changes.length≤5000) {SK:Nat→Prop} {kv:Value} {keep:List Bool} (hk:BlR w SK kv keep) {torn:Int} (htr:I64 torn) :
  Calls Try.prog 14 #[ptrV b,kv,.int .i64 torn] w (DPost w b F (crD d keep torn) (.int .i64 0)):=by
 obtain ⟨m1,m2,v,rows,h⟩:=h.o
 obtain ⟨a,cap,rfl,hkb,hkc⟩:=hk.cells
 obtain ⟨kl,hkl⟩:∃ kl,keep.length=kl:=⟨_,rfl⟩
 rw [hkl] at hkb hkc ⊢
 have HKC:=Lib.hid hkc
 have HKB:=Lib.hid hkb
 have HKL:=Lib.hid hkl
 have hK:=fun (w1:World) (hb:Below w.heap.size w w1)=>h.below hb
 have HK:=Lib.hid hK
 have H:=Lib.hid h
 have HI:=Lib.hid h.inv
 obtain ⟨q0,q1,q2,q3,q4,q5,q6⟩:=box7 h.blk
 obtain ⟨nl,hnl⟩:∃ nl,d.changes.length=nl:=⟨_,rfl⟩
 have hvs:∃ av cv,v = .slice av nl cv:=by
  rcases h.row.2 with ⟨rfl,hz⟩ | ⟨g,cap,cur,rfl,_⟩
  ·exact ⟨none,0,by rw [← hnl,hz]⟩
  ·exact ⟨_,_,by rw [← hnl]⟩
 obtain ⟨av,cv,rfl⟩:=hvs
 have HNL:=Lib.hid hnl
 have HT:=Lib.hid htr
 clear hK hk hkc hkb hkl hnl h htr
 unfold ptrV
 go_enter Try.func14,Try.ntmps14
 go_wp2_with fail
 go_loopw [7,21] (fun s7 s21 wr=>∃ j:Nat,s21 = .int .i64 j∧j≤nl∧Hid (KRow w wr (SB F b m1 m2 (.slice av nl cv)) s7 (zaD (d.changes.take j) keep))) (fun _ s21 _=>nl-(intOf s21).toNat)
 case atStart=>exact ⟨0,rfl,Nat.zero_le _,Lib.hid (by cases keep<;>exact KRow.nil _ _)⟩
 case round=>
  obtain ⟨j,rfl,hj,HR⟩:=hrel
  by_cases hlt:j<nl
  ·have hltz:(j:Int)<(nl:Int):=by omega
   have hj0:(0:Int)≤(j:Int):=Int.natCast_nonneg j
   have hw:wrap64 ((j:Int)+1)=((j+1:Nat):Int):=by have:=HNL.out;unfold wrap64;omega
   have hbw:=HR.out.b
   obtain ⟨g,rfl,hB0,hncv,hFg⟩:=H.out.rowB HNL.out (by omega)
   have hB:=hB0.kept (hbw.block g hB0.lt)
   have hch:=(H.out.ch j (by rw [HNL.out];exact hlt)).kept (Same.below hbw) fun _ _ h=>h
   obtain ⟨c,hc⟩:∃ c,d.changes.getD j default=c:=⟨_,rfl⟩
   rw [hc] at hch
   obtain ⟨dv,bv,ecs,hdo,hbv⟩:=hch.D
   have hrl:j<rows.length:=by have:=H.out.rl;have:=HNL.out;omega
   have c0:=(hB.cell (i:=j) (j:=0) hrl (by omega)).1
   have c1:=(hB.cell (i:=j) (j:=1) hrl (by omega)).1
   have c2:=(hB.cell (i:=j) (j:=2) hrl (by omega)).1
   have c3:=(hB.cell (i:=j) (j:=3) hrl (by omega)).1
   have c4:=(hB.cell (i:=j) (j:=4) hrl (by omega)).1
   rw [ecs] at c0 c1 c2 c3 c4
   simp only [List.getD_cons_zero,List.getD_cons_succ,Nat.add_zero] at c0 c1 c2 c3 c4
   have hones:=hch.ones
   rw [ecs] at hones
   have s1:= @zaf Try.prog dv (hones _ (by simp))
   have s3:= @zaf Try.prog bv (hones _ (by simp))
   have hnext:=zdF d.changes keep j (by rw [HNL.out];exact hlt)
   rw [hc] at hnext
   have HN2:=Lib.hid hnext
   have hlen:=zcq (d.changes.take j) keep
   rw [List.length_take] at hlen
   have hkll:=HKL.out
   have HBW:=Lib.hid hbw
   obtain ⟨n7,hn7⟩:∃ n7,(zaD (d.changes.take j) keep).length=n7:=⟨_,rfl⟩
   rw [ecs] at hch
   by_cases hkj:j<kl
   ·have hkz:(j:Int)<(kl:Int):=by omega
    obtain ⟨gk,ok,rfl,_,hgk,hck⟩:=HKC.out j hkj
    have hckr:(wr.alloc (.cells #[.string c.file,dv,.int .i64 (chAt c),bv,.bool (c.kind==1)] TCh)).cell? ⟨gk,ok+j,none⟩=some (.bool (keep.getD j false)):=by
     rw [← hck];exact Below.cell (hbw.alloc hbw.size _) hgk
    cases hb:keep.getD j false
    ·rw [hb] at hckr
     rw [hb,if_neg (by decide)] at hnext
     have HN3:=Lib.hid hnext
     clear hdo hbv ecs hones hnext hb hch hB hB0 hn7 hck hbw hlen hFg HN2 hc
     go_wp2
     go_roundw
     case rel=>exact ⟨j+1,congrArg _ hw,hlt,Lib.hid (HR.out.next HN3.out ((Below.refl _ _).alloc (Nat.le_refl _) _))⟩
     case measure=>exact zed hw hlt
    ·rw [hb] at hckr
     rw [hb,if_pos rfl] at hnext
     have HN3:=Lib.hid hnext
     obtain ⟨kr,hro,hkrl,hk3⟩:=HR.out.r
     obtain ⟨W1,hW1⟩:∃ W1,wr.alloc (.cells #[.string c.file,dv,.int .i64 (chAt c),bv,.bool (c.kind==1)] TCh)=W1:=⟨_,rfl⟩
     have hb1:Below wr.heap.size wr W1:=by rw [← hW1];exact (Below.refl _ _).alloc (Nat.le_refl _) _
     rw [hW1] at hckr
     have kx:Blk W1 wr.heap.size TCh #[.string c.file,dv,.int .i64 (chAt c),bv,.bool (c.kind==1)]:=by rw [← hW1];exact Blk.new wr TCh _
     obtain ⟨y0,y1,y2,y3,y4⟩:=box5 kx
     have hro1:W1.ownsRow 0 TCh 5 u7 (zaD (d.changes.take j) keep).length kr.flatten:=zai hro fun g hg=>hb1.block g (hro.lt g hg).2
     have hfin:=fun (v':Value) (w':World) (g1:w'.ownsRow 0 TCh 5 v' ((zaD (d.changes.take j) keep).length+1) (kr.flatten++[.string c.file,dv,.int .i64 (chAt c),bv,.bool (c.kind==1)])) (g2:W1.grownBy w' u7.ownBlock) (g3:v'.ownBlock=u7.ownBlock∨∃ g,v'.ownBlock=some g∧W1.heap.size≤g)=>
      (HR.out.app (c:=c) (fun x hx=>H.out.fl x hx.1) hb1 (hch.kept (Same.below hb1) fun x hx h=> .inl h) hkrl hk3 g1 g2 g3)
     have HF:=Lib.hid hfin
     have HRO:=Lib.hid hro1
     have HON:=Lib.hid hones
     have HLE:=Lib.hid (show (zaD (d.changes.take j) keep).length≤100000 by omega)
     rw [hn7] at HF HRO HLE
     clear hdo hbv ecs hones hnext hb hch hB hB0 hn7 hck hbw hlen hFg HN2 hc hfin hro hro1 hk3 hkrl hb1
     go_wp2_with (at_builtin;refine zfg rfl (.tmp 36) (.tmp 38) rfl u7 n7 kr.flatten [.string c.file,dv,.int .i64 (chAt c),bv,.bool (c.kind==1)] rfl HRO.out rfl HON.out HLE.out ⟨W1.heap.size,0,none⟩ rfl rfl ?_;intro v' w' g1 g2 g3;have HF2:=Lib.hid (HF.out v' w' g1 g2 g3);clear g1 g2 g3)
     go_roundw
     case rel=>exact ⟨j+1,congrArg _ hw,hlt,Lib.hid (HN3.out▸HF2.out)⟩
     case measure=>exact zed hw hlt
   ·have hkz:¬ (j:Int)<(kl:Int):=by omega
    have hb:keep.getD j false=false:=by rw [List.getD_eq_getElem?_getD,List.getElem?_eq_none (by omega)];rfl
    rw [hb,if_neg (by decide)] at hnext
    have HN3:=Lib.hid hnext
    clear hdo hbv ecs hones hnext hb hch hB hB0 hn7 hbw hlen hFg HN2 hc
    go_wp2
    go_roundw
    case rel=>exact ⟨j+1,congrArg _ hw,hlt,Lib.hid (HR.out.next HN3.out ((Below.refl _ _).alloc (Nat.le_refl _) _))⟩
    case measure=>exact zed hw hlt
  ·have hltz:¬ (j:Int)<(nl:Int):=by omega
   obtain rfl:j=nl:=by omega
   have hkr:=HR.out
   rw [← HNL.out,List.take_length,HNL.out] at hkr
   have hKl:=zcq d.changes keep
   obtain ⟨K,hK⟩:∃ K,zaD d.changes keep=K:=⟨_,rfl⟩
   have hKok:=zjY HI.out keep torn
   have hcr:=zgc d keep torn
   rw [hK] at hkr hKl hKok hcr
   rw [HNL.out] at hKl
   obtain ⟨nk,hnk⟩:∃ nk,K.length=nk:=⟨_,rfl⟩
   obtain ⟨a7,cap7,kr,e7,hpos7,hkr7,hk37⟩:=hkr.shape
   rw [hnk] at e7 hpos7 hkr7 hKl
   subst e7
   have HKR:=Lib.hid hkr
   have HPOS:=Lib.hid hpos7
   have HKR7:=Lib.hid hkr7
   have HK37:=Lib.hid hk37
   have HNK:=Lib.hid hnk
   have HKO:=Lib.hid hKok
   have HCR:=Lib.hid hcr
   have hwk:wrap64 ((nk:Int)-1)=(nk:Int)-1:=by have:=HNL.out;unfold wrap64;omega
   clear hkr hpos7 hkr7 hk37 hnk hKok hcr hj HR hK q0 q1 q2 q3 q4 q5 q6
   obtain ⟨z,hz⟩:∃ z:Int,(nk:Int)-1=z:=⟨_,rfl⟩
   have hwk:=hwk.trans hz
   have HZ:=Lib.hid hz
   have HKL2:=Lib.hid hKl
   clear hz hKl
   go_upto_region 11 with fail
   rw [hwk]
   clear hwk
   go_cut [66] (fun s wx=>s = .bool (zdT K torn)∧wr=wx)
   case first=>
    rcases List.eq_nil_or_concat K with ek | ⟨K0,c,ek⟩
    ·have ez:nk=0:=by rw [← HNK.out,ek];rfl
     obtain rfl:z = -1:=by have:=HZ.out;rw [ez] at this;exact this.symm
     have eT:zdT K torn=false:=by rw [ek];rfl
     have HET:=Lib.hid eT
     clear ek ez eT
     go_wp2
     go_meet
     exact ⟨by rw [HET.out],rfl⟩
    ·rw [List.concat_eq_append] at ek
     obtain ⟨n0,hn0⟩:∃ n0,K0.length=n0:=⟨_,rfl⟩
     obtain ⟨gk,dv,bv,rfl,enk,hcap,⟨c0,c1,c2,c3,c4⟩,hch,hgk,hbv⟩:=HKR.out.last HNK.out ek hn0
     obtain rfl:z=(n0:Int):=by have:=HZ.out;omega
     have hz0:(0:Int)≤(n0:Int):=Int.natCast_nonneg _
     have hz1:(n0:Int)<(nk:Int):=by omega
     obtain ⟨a3,cp3,rfl,_⟩:=hbv.shape
     obtain ⟨n3,hn3⟩:∃ n3,(chBy c).length=n3:=⟨_,rfl⟩
     have eT:zdT K torn=(c.kind==1&&(decide (torn≥0)&&decide (torn<c.bytes.length))):=by rw [ek];unfold zdT;rw [List.getLast?_concat]
     rw [hn3] at c3
     have HET:=Lib.hid eT
     have HN3:=Lib.hid hn3
     clear eT hn3 hch hbv enk hn0 ek hcap
     cases e1:(c.kind==1)
     ·rw [e1] at c4
      have HE1:=Lib.hid e1
      clear e1
      go_wp2
      go_meet
      exact ⟨by rw [HET.out,HE1.out];rfl,rfl⟩
     ·rw [e1] at c4
      have HE1:=Lib.hid e1
      have eby:chBy c=c.bytes:=by unfold chBy;rw [if_pos (by simpa using e1)]
      have HEB:=Lib.hid eby
      clear e1 eby
      by_cases ht0:torn≥0
      ·have d1:decide (torn≥0)=true:=decide_eq_true ht0
       by_cases ht1:torn<(n3:Int)
       ·have d2:decide (torn<(n3:Int))=true:=decide_eq_true ht1
        go_wp2
        go_meet
        exact ⟨by rw [HET.out,HE1.out,← HEB.out,HN3.out,d1,d2];rfl,rfl⟩
       ·have d2:decide (torn<(n3:Int))=false:=decide_eq_false ht1
        go_wp2
        go_meet
        exact ⟨by rw [HET.out,HE1.out,← HEB.out,HN3.out,d1,d2];rfl,rfl⟩
      ·have d1:decide (torn≥0)=false:=decide_eq_false ht0
       go_wp2
       go_meet
       exact ⟨by rw [HET.out,HE1.out,d1];rfl,rfl⟩
   case rest=>
    obtain ⟨rfl,rfl⟩:=hcut
    go_upto_if 66 with fail
    go_cut [7] (fun s wx=>Hid (KRow w wx (SB F b m1 m2 (.slice av j cv)) s (crK torn K)))
    case first=>
     cases hT:zdT K torn
     ·have HCF:=Lib.hid (zkj hT)
      clear hT
      go_wp2_with fail
      go_meet
      exact Lib.hid (by rw [HCF.out];exact HKR.out)
     ·obtain ⟨K0,c,ek,hk1,ht0,ht1⟩:=zki hT
      obtain ⟨n0,hn0⟩:∃ n0,K0.length=n0:=⟨_,rfl⟩
      obtain ⟨gk,dv,bv,rfl,enk,hcap,⟨c0,c1,c2,c3,c4⟩,hch,hgk,hbv⟩:=HKR.out.last HNK.out ek hn0
      obtain rfl:z=(n0:Int):=by have:=HZ.out;omega
      have hz0:(0:Int)≤(n0:Int):=Int.natCast_nonneg _
      have hz1:(n0:Int)<(nk:Int):=by omega
      have hz2:(n0:Int)≤(cap7:Int):=by omega
      have eby:chBy c=c.bytes:=by unfold chBy;rw [if_pos hk1]
      have eat:chAt c=c.at_:=by unfold chAt;rw [if_pos hk1]
      have hones:=hch.ones
      have s1:= @zaf Try.prog dv (hones _ (by simp))
      have s3:= @zaf Try.prog bv (hones _ (by simp))
      rw [eby] at hbv
      rw [eat] at c2
      have ek1:(c.kind==1)=true:=by simp [hk1]
      rw [ek1] at c4
      obtain ⟨W1,hW1⟩:∃ W1,wr.alloc (.cells #[.string c.file,dv,.int .i64 c.at_,bv,.bool true] TCh)=W1:=⟨_,rfl⟩
      have hb1:Below wr.heap.size wr W1:=by rw [← hW1];exact (Below.refl _ _).alloc (Nat.le_refl _) _
      have hb1d:Below wr.heap.size wr W1.drew:=hb1.drew
      have kx:Blk W1 wr.heap.size TCh #[.string c.file,dv,.int .i64 c.at_,bv,.bool true]:=by rw [← hW1];exact Blk.new wr TCh _
      obtain ⟨y0,y1,y2,y3,y4⟩:=box5 kx
      have hcut1:=HKR.out.cut ek hn0 enk hb1
      by_cases hp:torn=0
      ·subst hp
       have hcr0:crK 0 K=K0:=by rw [ek,zcY,zgo ⟨hk1,Int.le_refl _,by simpa using ht1⟩];simp
       have HC0:=Lib.hid hcr0
       have HCU:=Lib.hid hcut1
       clear hT hcr0 hcut1 ek hch hbv hones eby eat enk hn0 hk1 ek1 ht0 ht1
       go_wp2_with fail
       go_meet
       exact Lib.hid (by rw [HC0.out];exact HCU.out)
      ·obtain ⟨tk,rfl⟩:∃ tk:Nat,torn=(tk:Int):=⟨torn.toNat,by omega⟩
       have hpn:0<tk:=by omega
       have hpz:(0:Int)<(tk:Int):=by omega
       obtain ⟨a3,cp3,rfl,hsl3⟩:=hbv.shape
       have hcp:=hsl3.bd.1
       have hz3:(0:Int)≤(tk:Int):=Int.natCast_nonneg _
       have hz4:(tk:Int)≤(cp3:Int):=by omega
       have hcrk:crK tk K=K0++[⟨1,c.file,c.at_,c.bytes.take tk⟩]:=by
        rw [ek,zcY,zgS ⟨hk1,ht0,ht1⟩ hp]
        obtain ⟨ck,cf,ca,cb⟩:=c
        simp only at hk1
        subst hk1
        simp
       have hbt:BRd W1.drew (fun x=>(SB F b m1 m2 (.slice av j cv) x∨(w.heap.size≤x∧(Value.slice (some ⟨gk,0,none⟩) nk cap7).ownBlock≠some x))∧x<wr.heap.size) (.slice a3 tk cp3) (c.bytes.take tk):=(BRd.take hbv (by omega)).here.same (Same.below hb1d)
       have hwr:=zbX (w:=W1.drew) hch.nm hch.at0.1 hch.at0.2 hbt (by rw [List.length_take];have:=hch.by0;omega)
       have hk0:=HKR.out.cut ek hn0 enk (Below.refl _ _)
       have HXN:=Lib.hid (show (Value.slice (some ⟨gk,0,none⟩) n0 cap7).ownBlock≠some wr.heap.size from fun e=>by have e:gk=wr.heap.size:=Option.some.inj e;omega)
       have HXL:=Lib.hid (show wr.heap.size<W1.drew.heap.size by rw [← hW1];simp [World.drew])
       have hfin:=fun (w5:World) (cs:List Value) (hc5:ChAt w5 (fun x=>W1.drew.heap.size≤x) ⟨1,c.file,c.at_,c.bytes.take tk⟩ cs) (hb5:Below W1.drew.heap.size W1.drew w5)=>hk0.torn (fun x hx=>H.out.fl x hx.1) hgk hb1d hb5 hc5
       have hn0l:n0≤100000:=by have:=HKL2.out;have:=HNL.out;omega
       rw [hn0] at hfin
       have HFIN:=Lib.hid hfin
       have HWR:=Lib.hid hwr
       have HC0:=Lib.hid hcrk
       have HN0:=Lib.hid hn0l
       clear hT hcrk hcut1 ek hch hbv hones eby eat enk hn0 hk1 ek1 ht0 ht1 hfin hwr hbt hsl3 hcp hn0l hp hb1 hb1d kx hk0
       go_wp2_with fail
       go_region_held3 (fun W => W.cell? ⟨wr.heap.size, 0, none⟩ = some (.string c.file) ∧ W.cell? ⟨wr.heap.size, 2, none⟩ = some (.int .i64 c.at_) ∧ W.cell? ⟨wr.heap.size, 3, none⟩ = some (.slice a3 c.bytes.length cp3)) (first | exact ⟨y0, y2, y3⟩ | exact HS1.out | exact zgM HS1.out _ | exact HS2.out) (first | (go_at_call 34; refine HWR.out.mono ?_; rintro e w5 ⟨cs, rfl, hc5, hb5⟩; obtain ⟨kr, hro, hfi⟩ := HFIN.out w5 cs hc5 hb5; have hones := hc5.ones; have hcl := hc5.len; have HRO := Lib.hid hro; have HFI := Lib.hid hfi; have HON := Lib.hid hones; have HS1 := Lib.hid (⟨(Below.cell hb5 HXL.out).trans y0, (Below.cell hb5 HXL.out).trans y2, (Below.cell hb5 HXL.out).trans y3⟩ : w5.cell? ⟨wr.heap.size, 0, none⟩ = some (.string c.file) ∧ w5.cell? ⟨wr.heap.size, 2, none⟩ = some (.int .i64 c.at_) ∧ w5.cell? ⟨wr.heap.size, 3, none⟩ = some (.slice a3 c.bytes.length cp3)); obtain ⟨dv2, bv2, rfl, _, _⟩ := hc5.D; clear hro hfi hones hcl hc5 hb5) | (refine ze8 (w := w5) rfl (.tmp 76) (.tmp 86) rfl (.slice (some ⟨gk, 0, none⟩) n0 cap7) n0 kr.flatten _ rfl HRO.out rfl HON.out HN0.out ⟨w5.heap.size, 0, none⟩ rfl rfl ?_; intro v' w' g1 g2 g3; have HS2 := Lib.hid (zgL HS1.out HXN.out g2); have HF2 := Lib.hid (HFI.out v' w' g1 g2 g3); clear g1 g2 g3) | fail "none")
       all_goals go_wp2_with fail
       go_meet
       exact Lib.hid (by rw [HC0.out];exact HF2.out)
    case rest=>
     have hlk:=zfw torn K
     rw [HNK.out] at hlk
     have hlk:=Nat.le_trans hlk HKL2.out
     have hcr:=HCR.out
     have hok:=HKO.out
     have hkr:=hcut.out
     obtain ⟨Kp,hKp⟩:∃ Kp,crK torn K=Kp:=⟨_,rfl⟩
     rw [hKp] at hcr hok hkr hlk
     obtain ⟨np,hnp⟩:∃ np,Kp.length=np:=⟨_,rfl⟩
     obtain ⟨a8,cap8,kr8,e8,hpos8,hkr8,hk38⟩:=hkr.shape
     rw [hnp] at e8 hpos8 hkr8 hlk
     have hg8:=hkr.g
     rw [e8] at hg8 hk38
     have hbc:=hkr.b
     have hk1:=HK.out wc hbc
     have k1:=hk1.blk
     obtain ⟨q0,q1,q2,q3,q4,q5,q6⟩:=box7 k1
     have HCR2:=Lib.hid hcr
     have HOK2:=Lib.hid hok
     have HNP:=Lib.hid hnp
     have HPOS8:=Lib.hid hpos8
     have HKR8:=Lib.hid hkr8
     have HK38:=Lib.hid hk38
     have HG8:=Lib.hid hg8
     have HBC:=Lib.hid hbc
     have HLK:=Lib.hid hlk
     have HK1:=Lib.hid hk1
     subst e8
     clear hcr hok hnp hpos8 hkr8 hk38 hg8 hbc hlk hkr hcut hKp HCR HKO HKR HPOS HKR7 HK37 k1 hk1
     go_wp2_with fail
     try go_frame
     go_loopw [90] (fun kv wr2=>∃ i:Nat,kv = .int .i64 i∧i≤np∧Hid (Turn (fun x=>x=m1) wc wr2∧FilesAt wr2 (fun x=>SB F b m1 m2 (.slice av j cv) x∨w.heap.size≤x) m1 ((Kp.take i).foldl zag d.lasts))) (fun kv _=>np-(intOf kv).toNat)
     case atStart=>exact ⟨0,rfl,Nat.zero_le _,Lib.hid ⟨Turn.refl _ _,HK1.out.la.kept rfl (Same.refl _ _) fun _ _ h=> .inl h⟩⟩
     case round=>
      obtain ⟨i,rfl,hi,HR2⟩:=hrel
      by_cases hlt2:i<np
      ·have hltz:(i:Int)<(np:Int):=by omega
       have hi0:(0:Int)≤(i:Int):=Int.natCast_nonneg i
       have hw:wrap64 ((i:Int)+1)=((i+1:Nat):Int):=by have:=HLK.out;have:=HNL.out;unfold wrap64;omega
       obtain ⟨g8,rfl,hrow0⟩:=HPOS8.out (by omega)
       have hg8:=HG8.out g8 rfl
       have hle8:=hrow0.le
       rw [HKR8.out] at hle8
       obtain ⟨htn,hfl⟩:=HR2.out
       have h1l:=H.out.fl _ H.out.f1
       have hbl:=H.out.fl _ H.out.fb
       have hrow:=hrow0.kept (htn.block g8 hrow0.lt (by omega))
       have hch:=HK38.out i (by rw [HNP.out];exact hlt2)
       obtain ⟨c,hc⟩:∃ c,Kp.getD i default=c:=⟨_,rfl⟩
       rw [hc] at hch
       have hcm:c∈Kp:=by
        have h1:i<Kp.length:=by rw [HNP.out];exact hlt2
        rw [← hc]
        have e:Kp.getD i default=Kp[i]:=by simp [List.getD,h1]
        rw [e];exact List.getElem_mem _
       obtain ⟨dv,bv,ecs,hdo,hbv⟩:=hch.D
       have hrl:i<kr8.length:=by rw [HKR8.out];exact hlt2
       have c0:=(hrow.cell (i:=i) (j:=0) hrl (by omega)).1
       have c1:=(hrow.cell (i:=i) (j:=1) hrl (by omega)).1
       have c2:=(hrow.cell (i:=i) (j:=2) hrl (by omega)).1
       have c3:=(hrow.cell (i:=i) (j:=3) hrl (by omega)).1
       have c4:=(hrow.cell (i:=i) (j:=4) hrl (by omega)).1
       rw [ecs] at c0 c1 c2 c3 c4
       simp only [List.getD_cons_zero,List.getD_cons_succ,Nat.add_zero] at c0 c1 c2 c3 c4
       have hones:=hch.ones
       rw [ecs] at hones
       have s1:= @zaf Try.prog dv (hones _ (by simp))
       have s3:= @zaf Try.prog bv (hones _ (by simp))
       have hnext:=zjl (K:=Kp) (l:=d.lasts) (j:=i) (by rw [HNP.out];exact hlt2)
       rw [hc] at hnext
       have p1:=htn.keep HK1.out.blk HK1.out.b1
       obtain ⟨S1,hS1⟩:∃ S1:Nat→Prop,(fun x=>SB F b m1 m2 (.slice av j cv) x∨w.heap.size≤x)=S1:=⟨_,rfl⟩
       rw [hS1] at hfl
       have hno1:¬ S1 m1:=by
        rw [← hS1]
        rintro (hs | hs)
        ·exact hs.2.2.1 rfl
        ·omega
       obtain ⟨wx,hwx⟩:∃ wx,wr.alloc (.cells #[.string c.file,dv,.int .i64 (chAt c),bv,.bool (c.kind==1)] TCh)=wx:=⟨_,rfl⟩
       have hbx:Below wr.heap.size wr wx.drew:=by rw [← hwx];exact ((Below.refl _ wr).alloc (Nat.le_refl _) _).drew
       have hSx:Same (fun x=>SB F b m1 m2 (.slice av j cv) x∨(w.heap.size≤x∧(Value.slice (some ⟨g8,0,none⟩) np cap8).ownBlock≠some x)) wc wx.drew:=(htn.same fun x hx e=>by
        rcases hx with hx | hx
        ·exact hx.2.2.1 e
        ·have:=hx.1;omega).trans (Same.below hbx)
       have hdo1:DoAt wx.drew S1 c dv:=hdo.kept hSx fun x _ hx=>by rw [← hS1];exact hx.imp id fun h=>h.1
       have hfl1:FilesAt wx.drew S1 m1 ((Kp.take i).foldl zag d.lasts):=hfl.kept (hbx.block _ hfl.lt) (Same.below hbx) fun _ _ h=>h
       have hmemf:∀ x∈Kp.take i,x∈Kp:=fun x hx=>List.mem_of_mem_take hx
       have hlk:=zbr (zaI (M:=4194304) (Kp.take i) d.lasts HI.out.fb fun x hx=>by have:=HOK2.out x (hmemf x hx);exact ⟨this.1,this.2.1⟩) c.file
       have hln:=zaY (Kp.take i) d.lasts
       have hl3:(Kp.take i).length≤i:=by rw [List.length_take];omega
       have hnl2:=HNL.out
       have hlk2:=HLK.out
       obtain ⟨f,cap',hdv,hB,hcall⟩:=zhU hdo1 hfl1 (HI.out.sl.dones _) hno1 (by omega) hch.nm hch.at0.1 hch.at0.2 hch.by0 (by omega)
       have hcf:=zau hB
       have HC:=Lib.hid hcall
       have HN2:=Lib.hid hnext
       have HTN:=Lib.hid htn
       have HBX:=Lib.hid hbx
       have kx:Blk wx wr.heap.size TCh #[.string c.file,dv,.int .i64 (chAt c),bv,.bool (c.kind==1)]:=by rw [← hwx];exact Blk.new wr TCh _
       obtain ⟨y0,y1,y2,y3,y4⟩:=box5 kx
       have bx1x:wx.cell? ⟨b,1,none⟩=some (.map (some m1)):=(show Blk wx b TDi _ from (hbx.block b (by have:=htn.size;have:=HBC.out.size;omega)).trans p1).cell 1
       have HFIN:=Lib.hid (fun (w5:World) (ht5:Turn (fun x=>x=m1) wx.drew w5) (hf5:FilesAt w5 (fun x=>S1 x∨wx.drew.heap.size≤x) m1 (zag ((Kp.take i).foldl zag d.lasts) c))=>(⟨(htn.trans (Turn.below (F:=fun x=>x=m1) hbx) fun x _ h=>h).trans ht5 fun x _ h=>h,by
        rw [hnext]
        refine hf5.kept rfl (Same.refl _ _) fun x _ hx=>?_
        rcases hx with hx | hx
        ·rw [← hS1] at hx;exact hx
        ·exact .inr (Nat.le_trans HBC.out.size (Nat.le_trans htn.size (Nat.le_trans hbx.size hx)))⟩:Turn (fun x=>x=m1) wc w5∧FilesAt w5 (fun x=>SB F b m1 m2 (.slice av j cv) x∨w.heap.size≤x) m1 ((Kp.take (i+1)).foldl zag d.lasts)))
       subst hdv
       clear hnext hfl hfl1 htn hno1 hch hdo hdo1 hbv ecs hones hrow hrow0 p1 hcall hbx hSx hmemf hlk hln hl3 kx hg8 h1l hbl hcm hnl2 hlk2 hS1 hc
       go_wp2_with fail
       try rw [hwx]
       clear hwx
       go_still_tail 6,(by kernel_rfl)
       change wpList _ _ _ _ _ wx.drew
       go_wp2_with (first | (refine HC.out.mono ?_;rintro e w5 ⟨rfl,ht5,hf5⟩;have HF5:=Lib.hid (HFIN.out w5 ht5 hf5);clear ht5 hf5))
       go_roundw
       case rel=>exact ⟨i+1,congrArg _ hw,hlt2,HF5⟩
       case measure=>exact zed hw hlt2
      ·have hltz:¬ (i:Int)<(np:Int):=by omega
       obtain rfl:i=np:=by omega
       obtain ⟨htn,hfl⟩:=HR2.out
       rw [← HNP.out,List.take_length] at hfl
       have k1:=htn.keep HK1.out.blk HK1.out.b1
       obtain ⟨q0,q1,q2,q3,q4,q5,q6⟩:=box7 k1
       obtain ⟨z0,z1,z2,z3,z4,z5,z6⟩:=zdU k1
       have hln:=zaY Kp d.lasts
       have hfl2:FilesAt wr (fun x=>(SB F b m1 m2 (.slice av j cv) x∨w.heap.size≤x)∧x<wr.heap.size) m1 (crD d keep torn).lasts:=by
        rw [HCR2.out]
        exact hfl.kept rfl (Same.refl _ _) fun x hx h=>⟨h,hx⟩
       have hcl:=zgJ hfl2
       have hfin:=fun (w5:World) (hf3:FilesAt w5 (fun x=>(SB F b m1 m2 (.slice av j cv) x∨w.heap.size≤x)∧x<wr.heap.size) wr.heap.size (crD d keep torn).lasts) (hb5:Below wr.heap.size wr w5)=>H.out.crash (keep:=keep) (torn:=torn) ((Turn.below HBC.out).trans htn fun x _ h=>h) (hfl2.kept (hb5.block _ hfl2.lt) (Same.below hb5) fun _ _ h=>h) hf3 hb5
       have hkp:=fun (w5:World) (hb5:Below wr.heap.size wr w5)=>(show Blk w5 b TDi _ from (hb5.block b (show Blk wr b TDi _ from k1).lt).trans k1)
       have HCL:=Lib.hid hcl
       have HFI:=Lib.hid hfin
       have HKP:=Lib.hid hkp
       clear hcl hfin hkp hfl2 hfl htn k1 hln
       go_wp2_with (go_at_call 35;refine HCL.out.mono ?_;rintro e w5 ⟨rfl,hf3,hb5⟩;have k5:=HKP.out w5 hb5;obtain ⟨q0,q1,q2,q3,q4,q5,q6⟩:=box7 k5;obtain ⟨z0,z1,z2,z3,z4,z5,z6⟩:=zdU k5;have HP:=Lib.hid (HFI.out w5 hf3 hb5);clear k5 hf3 hb5)
       go_ret
       exact HP.out
theorem zaw (b:List Int) (i:Nat) (y:Int):(zaC b i y).length=b.length:=List.length_set ..
theorem zaU (b:List Int) (i:Nat) (y:Int) (k:Nat):(zaC b i y).getD k 0=if i=k∧i<b.length then xorI .u8 (b.getD i 0) y else b.getD k 0:=by
 unfold zaC
 simp only [List.getD_eq_getElem?_getD,List.getElem?_set]
 by_cases h:i=k
 ·subst h
  by_cases h2:i<b.length
  ·simp [h2]
  ·simp [h2]
 ·simp [h]
theorem zgR {b:List Int} {i:Nat} {y:Int} (h:b.length≤i):zaC b i y=b:=List.set_eq_of_length_le h
def zc2 (i:Nat) (y:Int) (o:Option (List Int)):Option (List Int):=o.map fun b=>zaC b i y
theorem ze7 (i:Nat) (y:Int) (o:Option (List Int)):((zc2 i y o).getD []).length=(o.getD []).length:=by
 cases o with
 | none=>rfl
 | some b=>exact zaw b i y
theorem zbK (old:List Int) (k:Nat) (b:List Int) (h:k≤old.length) (j:Nat):(za6 old k b).getD j 0=if j<k then old.getD j 0 else if j<k+b.length then b.getD (j-k) 0 else old.getD j 0:=by
 unfold za6
 have hl:((List.range k).map fun i=>old.getD i 0).length=k:=by simp
 rw [List.append_assoc]
 by_cases h1:j<k
 ·rw [if_pos h1,List.getD_eq_getElem?_getD,List.getElem?_append_left (by omega),List.getElem?_map,List.getElem?_range h1]
  rfl
 ·rw [if_neg h1,List.getD_eq_getElem?_getD,List.getElem?_append_right (by omega),hl]
  by_cases h2:j<k+b.length
  ·rw [if_pos h2,List.getElem?_append_left (by omega),List.getD_eq_getElem?_getD]
  ·rw [if_neg h2,List.getElem?_append_right (by omega),List.getElem?_drop,List.getD_eq_getElem?_getD]
   congr 2
   omega
theorem ext0 {a b:List Int} (h:a.length=b.length) (h2:∀ j,j<a.length→a.getD j 0=b.getD j 0):a=b:=by
 refine List.ext_getElem h fun j h3 h4=>?_
 have:=h2 j h3
 simpa [List.getD,h3,h4] using this
theorem zhz (old:List Int) (k:Nat) (b:List Int) (i:Nat) (y:Int) (h:k≤old.length):za6 (zaC old i y) k (if k≤i∧i-k<b.length then zaC b (i-k) y else b)=zaC (za6 old k b) i y:=by
 have hb:(if k≤i∧i-k<b.length then zaC b (i-k) y else b).length=b.length:=by
  split
  ·exact zaw ..
  ·rfl
 refine ext0 (by rw [za9,zaw,zaw,za9,hb]) fun j hj=>?_
 rw [za9,zaw,hb] at hj
 rw [zbK _ _ _ (by rw [zaw];exact h),zaU,hb,zaU (za6 old k b),za9,zbK old k b h j,zbK old k b h i]
 by_cases e:i=j
 ·subst e
  by_cases h1:i<k
  ·rw [if_pos h1,if_pos ⟨rfl,by omega⟩,if_pos ⟨rfl,by omega⟩,if_pos h1]
  ·rw [if_neg h1,if_pos (c:=i=i∧i<max old.length (k+b.length)) ⟨rfl,by omega⟩,if_neg h1]
   by_cases h2:i<k+b.length
   ·rw [if_pos h2,if_pos h2,if_pos ⟨by omega,by omega⟩,zaU,if_pos ⟨rfl,by omega⟩]
   ·rw [if_neg h2,if_neg h2,if_pos ⟨rfl,by omega⟩]
 ·rw [if_neg (c:=i=j∧i<max old.length (k+b.length)) (fun g=>e g.1),if_neg (c:=i=j∧i<old.length) (fun g=>e g.1)]
  by_cases h1:j<k
  ·rw [if_pos h1,if_pos h1]
  ·rw [if_neg h1,if_neg h1]
   by_cases h2:j<k+b.length
   ·rw [if_pos h2,if_pos h2]
    split
    ·rw [zaU,if_neg (by omega)]
    ·rfl
   ·rw [if_neg h2,if_neg h2]
theorem zgn (b:List Int) (i n:Nat) (y:Int):(zaC b i y).take n=zaC (b.take n) i y:=by
 refine ext0 (by simp [zaw]) fun j hj=>?_
 rw [List.length_take,zaw] at hj
 have e:∀ l:List Int,(l.take n).getD j 0=l.getD j 0:=fun l=>by rw [List.getD_eq_getElem?_getD,List.getD_eq_getElem?_getD,List.getElem?_take_of_lt (by omega)]
 rw [e,zaU,zaU,e]
 by_cases h:i=j
 ·subst h
  rw [if_pos ⟨rfl,by omega⟩,if_pos ⟨rfl,by rw [List.length_take];omega⟩]
  rw [List.getD_eq_getElem?_getD,List.getD_eq_getElem?_getD,List.getElem?_take_of_lt (by omega)]
 ·rw [if_neg (fun g=>h g.1),if_neg (fun g=>h g.1)]
theorem zcU (n:ByteArray) (at_ y:Int) (c:DChange):(spC n at_ y c).file=c.file∧(spC n at_ y c).kind=c.kind∧(spC n at_ y c).at_=c.at_∧(spC n at_ y c).bytes.length=c.bytes.length:=by
 unfold spC
 split
 ·exact ⟨rfl,rfl,rfl,zaw ..⟩
 ·exact ⟨rfl,rfl,rfl,rfl⟩
theorem zeA {n:ByteArray} {at_ y:Int} {c:DChange} (h:eqN c.file n=false):spC n at_ y c=c:=by
 unfold spC
 rw [if_neg (by rw [h];simp)]
theorem zgG {c:DChange} {o:Option (List Int)} {n:ByteArray} {i:Nat} {y:Int} (hf:eqN c.file n=true) (h0:0≤c.at_) (h1:c.kind=1→c.at_≤((o.getD []).length:Int)):zcy (spC n i y c) (zc2 i y o)=zc2 i y (zcy c o):=by
 obtain ⟨g1,g2,g3,g4⟩:=zcU n i y c
 by_cases k1:c.kind=1
 ·have e:(zc2 i y o).getD []=zaC (o.getD []) i y:=by cases o<;>rfl
  have e2:(spC n i y c).bytes=if c.at_.toNat≤i∧i-c.at_.toNat<c.bytes.length then zaC c.bytes (i-c.at_.toNat) y else c.bytes:=by
   unfold spC
   by_cases h:c.at_.toNat≤i∧i-c.at_.toNat<c.bytes.length
   ·rw [if_pos h,if_pos ⟨k1,hf,by omega,by omega⟩]
    show zaC c.bytes _ y=_
    congr 1
    omega
   ·rw [if_neg h,if_neg (fun g=>h ⟨by omega,by omega⟩)]
  unfold zcy
  rw [if_pos (g2.trans k1),if_pos k1,g3,e,e2,zhz _ _ _ _ _ (by have:=h1 k1;omega)]
  rfl
 ·have e:spC n i y c=c:=by unfold spC;rw [if_neg (fun g=>k1 g.1)]
  rw [e]
  unfold zcy
  rw [if_neg k1,if_neg k1]
  split
  ·rw [ze7]
   split
   ·rfl
   ·cases o with
    | none=>rfl
    | some b=>exact congrArg some (zgn b i _ y)
  ·rfl
theorem zdI {n:ByteArray} {i:Nat} {y:Int}:∀ (cs:List DChange) (o:Option (List Int)),(∀ c∈cs,eqN c.file n=true∧0≤c.at_)→zfe o cs→(cs.map (spC n i y)).foldl (fun o c=>zcy c o) (zc2 i y o)=zc2 i y (cs.foldl (fun o c=>zcy c o) o)∧zfe (zc2 i y o) (cs.map (spC n i y))
 | [],o,_,_=>⟨rfl,trivial⟩
 | c::cs,o,h,hp=>by
  have hc:=h c (List.mem_cons_self ..)
  have e:=zgG (i:=i) (y:=y) hc.1 hc.2 hp.1
  obtain ⟨k1,k2⟩:=zdI (n:=n) (i:=i) (y:=y) cs (zcy c o) (fun x hx=>h x (List.mem_cons_of_mem _ hx)) hp.2
  obtain ⟨g1,g2,g3,g4⟩:=zcU n i y c
  refine ⟨?_,?_,?_⟩
  ·show (cs.map (spC n i y)).foldl _ (zcy (spC n i y c) (zc2 i y o))=_
   rw [e]
   exact k1
  ·rw [g2,g3,ze7]
   exact hp.1
  ·rw [e]
   exact k2
def spL (l:List File) (n:ByteArray) (i:Nat) (y:Int):List File:=if i<((zab l n).getD []).length then zax ⟨n,zaC ((zab l n).getD []) i y⟩ l else l
theorem zfH (l:List File) (n:ByteArray) (i:Nat) (y:Int) (m:ByteArray):zab (spL l n i y) m=if eqN n m then zc2 i y (zab l n) else zab l m:=by
 unfold spL
 by_cases h:i<((zab l n).getD []).length
 ·rw [if_pos h,zbk]
  cases hm:eqN n m
  ·rfl
  ·cases e:zab l n with
   | none=>rw [e] at h;exact absurd h (Nat.not_lt_zero _)
   | some b=>rfl
 ·rw [if_neg h]
  cases hm:eqN n m
  ·rfl
  ·have:=eqN_iff.1 hm
   subst this
   cases e:zab l n with
   | none=>rfl
   | some b=>
    rw [e] at h
    have h:¬ i<b.length:=h
    simp only [if_true]
    unfold zc2
    rw [Option.map_some,zgR (by omega)]
def sp1 (d:RDisk) (n:ByteArray) (i:Nat) (y:Int):RDisk:={d with lasts:=spL d.lasts n i y,changes:=d.changes.map (spC n i y)}
theorem zjE (d:RDisk) (n:ByteArray) (at_ y:Int):spD d n at_ y=if zab (zad d) n=none then ((d,122):RDisk×Int) else if at_<0∨at_≥((zab (zad d) n).getD []).length then (d,123) else (sp1 d n at_.toNat y,0):=by
 unfold spD
 rw [zap]
 by_cases h:zab (zad d) n=none
 ·rw [if_pos h,if_pos ((zay _ _).1.2 h)]
 ·rw [if_neg h,if_neg (fun g=>h ((zay _ _).1.1 g))]
  by_cases h2:at_<0∨at_≥((zab (zad d) n).getD []).length
  ·rw [if_pos h2,if_pos h2]
  ·rw [if_neg h2,if_neg h2]
   obtain ⟨i,rfl⟩:∃ i:Nat,at_=i:=⟨at_.toNat,by omega⟩
   unfold sp1 spL
   rw [zap]
   have e:((i:Int).toNat)=i:=by omega
   rw [e]
   by_cases h3:i<((zab d.lasts n).getD []).length
   ·rw [if_pos h3,if_pos]
    refine ⟨?_,by omega⟩
    have:¬ za4 d.lasts n<0:=fun g=>by
     rw [(zay d.lasts n).1.1 g] at h3
     exact absurd h3 (Nat.not_lt_zero _)
    omega
   ·rw [if_neg h3,if_neg (fun g=>h3 (by omega))]
theorem zhG {n:ByteArray} {at_ y:Int} (cs:List DChange) (m:ByteArray):(cs.map (spC n at_ y)).filter (ofF m)=(cs.filter (ofF m)).map (spC n at_ y):=by
 rw [List.filter_map]
 congr 1
 refine List.filter_congr fun c _=>?_
 show ofF m (spC n at_ y c)=ofF m c
 unfold ofF
 rw [(zcU n at_ y c).1]
theorem zeL {n m:ByteArray} {at_ y:Int} (cs:List DChange) (h:n≠m):(cs.filter (ofF m)).map (spC n at_ y)=cs.filter (ofF m):=by
 conv=>rhs;rw [← List.map_id (cs.filter (ofF m))]
 refine List.map_congr_left fun c hc=>?_
 have h1:eqN c.file m=true:=(List.mem_filter.1 hc).2
 exact zeA (eqN_no.2 fun e=>h (e.symm.trans (eqN_iff.1 h1)))
theorem zfG {d:RDisk} (h:DkI d) (n:ByteArray) (i:Nat) (y:Int) (m:ByteArray):zab ((d.changes.map (spC n i y)).foldl zag (spL d.lasts n i y)) m=(if eqN n m then zc2 i y (zab (zad d) n) else zab (zad d) m)∧zfe (zab (spL d.lasts n i y) m) ((d.changes.map (spC n i y)).filter (ofF m)):=by
 have hp:=(zcm d.changes d.lasts).1 h.np m
 have e:=zav d.changes d.lasts m
 rw [zav,zhG,zfH]
 cases hm:eqN n m
 ·have hne:n≠m:=eqN_no.1 hm
  rw [zeL _ hne]
  simp only [Bool.false_eq_true,if_false]
  exact ⟨e.symm,hp⟩
 ·have:=eqN_iff.1 hm
  subst this
  simp only [if_true]
  obtain ⟨k1,k2⟩:=zdI (n:=n) (i:=i) (y:=y) (d.changes.filter (ofF n)) (zab d.lasts n) (fun c hc=>⟨(List.mem_filter.1 hc).2,(h.ch c (List.mem_filter.1 hc).1).1⟩) hp
  refine ⟨k1.trans ?_,k2⟩
  show zc2 i y _=zc2 i y (zab (d.changes.foldl zag d.lasts) n)
  rw [e]
theorem SortF.spL {l:List File} (h:SortF l) (n:ByteArray) (i:Nat) (y:Int):SortF (spL l n i y):=by
 unfold Go.Proofs.Ytfccndnnpkiajaa.spL
 split
 ·exact h.put _
 ·exact h
theorem zgD {d:RDisk} (h:DkI d) (n:ByteArray) (i:Nat) (y:Int):zad (sp1 d n i y)=spL (zad d) n i y:=by
 refine SortF.ext ((h.sl.spL n i y).dones _) (h.sn.spL n i y) fun m=>?_
 rw [zfH]
 exact (zfG h n i y m).1
theorem zgZ {l:List File} {n:ByteArray} {i:Nat} {y:Int} {x:File} (h:x∈spL l n i y):x∈l∨(x.name=n∧x.bytes.length=((zab l n).getD []).length):=by
 unfold spL at h
 split at h
 ·rcases zaE h with e | h
  ·exact .inr (by subst e;exact ⟨rfl,zaw ..⟩)
  ·exact .inl h
 ·exact .inl h
theorem DkI.spoil {d:RDisk} (h:DkI d) {n:ByteArray} (hn:NmOk n) (i:Nat) (y:Int):DkI (sp1 d n i y):=by
 refine ⟨h.sl.spL n i y,fun x hx=>?_,fun c hc=>?_,fun x hx=>?_,(zcm _ _).2 fun m=>(zfG h n i y m).2,h.rm,h.i64⟩
 ·rcases zgZ hx with hx | hx
  ·exact h.fb x hx
  ·rw [hx.2];exact zbr h.fb n
 ·obtain ⟨c0,h0,rfl⟩:=List.mem_map.1 hc
  obtain ⟨g1,g2,g3,g4⟩:=zcU n i y c0
  rw [g1,g3,g4]
  exact h.ch c0 h0
 ·rcases zgZ hx with hx | hx
  ·exact h.nm x hx
  ·rw [hx.1];exact hn
theorem zkc (x y:Int):0≤xorI .u8 x y∧xorI .u8 x y≤255:=by
 unfold xorI
 have h:=IntKind.wrap_u8
 rw [h]
 omega
theorem ziN (old:List Int) (i:Nat) (y:Int) (h:i<old.length):za6 old i [xorI .u8 (old.getD i 0) y]=zaC old i y:=by
 refine ext0 (by rw [za9,zaw];simp;omega) fun j hj=>?_
 rw [zbK _ _ _ (by omega),zaU]
 by_cases e:i=j
 ·subst e
  rw [if_neg (by omega),if_pos (by simp),if_pos ⟨rfl,h⟩]
  simp
 ·rw [if_neg (c:=i=j∧i<old.length) (fun g=>e g.1)]
  by_cases h1:j<i
  ·rw [if_pos h1]
  ·rw [if_neg h1,if_neg (by simp;omega)]
theorem zdS {W:World} {S:Nat→Prop} {v1:Value} {old:List Int} {i:Nat} {y:Int} (ho:BRd W S v1 old) (hi:i<old.length) (hl:old.length≤4194304) :
  Calls Try.prog 50 #[v1,.int .i64 i,.slice (some ⟨W.heap.size,0,none⟩) 1 1] (W.alloc (.cells #[.int .u8 (xorI .u8 (old.getD i 0) y)] TU)) fun e w1=>∃ u,e = .returned u∧Below W.heap.size W w1∧BRd w1 (fun x=>W.heap.size≤x) u (zaC old i y):=by
 obtain ⟨W1,hW1⟩:∃ W1,W.alloc (.cells #[.int .u8 (xorI .u8 (old.getD i 0) y)] TU)=W1:=⟨_,rfl⟩
 have hb:Below W.heap.size W W1:=by rw [← hW1];exact (Below.refl _ _).alloc (Nat.le_refl _) _
 have hh:W1.heap[W.heap.size]? = some (.cells #[.int .u8 (xorI .u8 (old.getD i 0) y)] TU (0,0)):=by rw [← hW1];exact Blk.new W TU _
 have h1:BRd W1 (fun x=>W.heap.size≤x) (.slice (some ⟨W.heap.size,0,none⟩) 1 1) [xorI .u8 (old.getD i 0) y]:=BRd.of_blk (vs:=[.int .u8 (xorI .u8 (old.getD i 0) y)]) hh rfl (Nat.le_refl _) (by decide) (by omega) (Nat.le_refl _) (fun x hx=>by
  rw [List.mem_singleton] at hx
  subst hx
  exact zkc _ _) fun k hk=>by
   have:k=0:=by omega
   subst this
   rfl
 have h2:=zfU (S:=fun x=>(S x∧x<W.heap.size)∨W.heap.size≤x) ((ho.here.same (Same.below hb)).mono fun _ _ h=> .inl h) (h1.mono fun _ _ h=> .inr h) (at_:=(i:Int)) (by omega) (by omega) (by show 1≤100000000;decide) (by omega)
 rw [show ((i:Int).toNat)=i by omega,ziN old i y hi] at h2
 rw [hW1]
 refine h2.mono fun e w1 ⟨u,he,hb1,hu⟩=>⟨u,he,hb.trans (hb1.mono hb.size),hu.mono fun x _ hx=>Nat.le_trans hb.size hx⟩
theorem zbo {w w':World} {F:Nat→Prop} {p q:Addr} {u v:Value} (h:w.cell? p=some u∧w.cell? q=some v) (ht:Turn F w w') (hn:¬ F p.block∧¬ F q.block):w'.cell? p=some u∧w'.cell? q=some v:=
 ⟨(World.cell?_of_block (ht.block _ (zbu h.1) hn.1)).trans h.1,(World.cell?_of_block (ht.block _ (zbu h.2) hn.2)).trans h.2⟩
theorem zd0 {w:World} {p q:Addr} {u v:Value} (h:w.cell? p=some u∧w.cell? q=some v) (o:Obj):(w.alloc o).cell? p=some u∧(w.alloc o).cell? q=some v:=
 zbo (F:=fun _=>False) h ((Turn.refl _ w).alloc o) ⟨id,id⟩
theorem ze2 (x y:Int):bits BinOp.xor IntKind.u8 x y=xorI .u8 x y:=rfl
theorem zbP {w w':World} {F:Nat→Prop} {p q r s:Addr} {u v x y:Value} (h:w.cell? p=some u∧w.cell? q=some v∧w.cell? r=some x∧w.cell? s=some y) (ht:Turn F w w') (hn:¬ F p.block∧¬ F q.block∧¬ F r.block∧¬ F s.block):w'.cell? p=some u∧w'.cell? q=some v∧w'.cell? r=some x∧w'.cell? s=some y:=
 ⟨(World.cell?_of_block (ht.block _ (zbu h.1) hn.1)).trans h.1,(World.cell?_of_block (ht.block _ (zbu h.2.1) hn.2.1)).trans h.2.1,(World.cell?_of_block (ht.block _ (zbu h.2.2.1) hn.2.2.1)).trans h.2.2.1,(World.cell?_of_block (ht.block _ (zbu h.2.2.2) hn.2.2.2)).trans h.2.2.2⟩
theorem zfx {w:World} {p q r s:Addr} {u v x y:Value} (h:w.cell? p=some u∧w.cell? q=some v∧w.cell? r=some x∧w.cell? s=some y) (o:Obj):(w.alloc o).cell? p=some u∧(w.alloc o).cell? q=some v∧(w.alloc o).cell? r=some x∧(w.alloc o).cell? s=some y:=
 zbP (F:=fun _=>False) h ((Turn.refl _ w).alloc o) ⟨id,id,id,id⟩
theorem ChAt.one {w:World} {S:Nat→Prop} {n:ByteArray} {a:Int} {bs:List Int} {cs:List Value} (h:ChAt w S ⟨1,n,a,bs⟩ cs):∃ dv bv,cs=[.string n,dv,.int .i64 a,bv,.bool true]∧dv.oneCell'=true∧bv.oneCell'=true:=by
 have ho:=h.ones
 obtain ⟨dv,bv,e,_,_⟩:=h.D
 rw [e] at ho
 exact ⟨dv,bv,e,ho _ (by simp),ho _ (by simp)⟩
theorem row5 {w:World} {g cap k:Nat} {L:List (List Value)} (h:RowB w g cap L) (hk:k<L.length) :
  (w.cell? ⟨g,k*5,none⟩=some ((L.getD k []).getD 0 undef)∧w.cell? ⟨g,k*5+1,none⟩=some ((L.getD k []).getD 1 undef)∧w.cell? ⟨g,k*5+2,none⟩=some ((L.getD k []).getD 2 undef)∧w.cell? ⟨g,k*5+3,none⟩=some ((L.getD k []).getD 3 undef)∧w.cell? ⟨g,k*5+4,none⟩=some ((L.getD k []).getD 4 undef)) ∧
  w.frozen? ⟨g,k*5,none⟩=false∧w.frozen? ⟨g,k*5+1,none⟩=false∧w.frozen? ⟨g,k*5+2,none⟩=false∧w.frozen? ⟨g,k*5+3,none⟩=false∧w.frozen? ⟨g,k*5+4,none⟩=false:=
 ⟨⟨(h.cell (j:=0) hk (by omega)).1,(h.cell (j:=1) hk (by omega)).1,(h.cell (j:=2) hk (by omega)).1,(h.cell (j:=3) hk (by omega)).1,(h.cell (j:=4) hk (by omega)).1⟩,(h.cell (j:=0) hk (by omega)).2,(h.cell (j:=1) hk (by omega)).2,(h.cell (j:=2) hk (by omega)).2,(h.cell (j:=3) hk (by omega)).2,(h.cell (j:=4) hk (by omega)).2⟩
structure SpR (w w1 wr:World) (d:RDisk) (F:Nat→Prop) (b m1 m2:Nat) (v:Value) (n:ByteArray) (i:Nat) (y:Int) (k:Nat):Prop where
 r:∃ rows:List (List Value),wr.ownsRow 0 TCh 5 v d.changes.length rows.flatten∧rows.length=d.changes.length∧∀ t,t<d.changes.length→ChAt wr (fun x=>SB F b m1 m2 v x∨w.heap.size≤x) (if t<k then spC n i y (d.changes.getD t default) else d.changes.getD t default) (rows.getD t [])
 t:Turn (fun x=>x=m1∨v.ownBlock=some x) w1 wr
 f:FilesAt wr (fun x=>SB F b m1 m2 v x∨w.heap.size≤x) m1 (spL d.lasts n i y)
theorem SpR.same {w w1 wr w':World} {d:RDisk} {F:Nat→Prop} {b m1 m2:Nat} {v:Value} {n:ByteArray} {i k:Nat} {y:Int} (h:SpR w w1 wr d F b m1 m2 v n i y k) (hb:Below wr.heap.size wr w') (hs:spC n i y (d.changes.getD k default)=d.changes.getD k default):SpR w w1 w' d F b m1 m2 v n i y (k+1):=by
 obtain ⟨rows,h1,h2,h3⟩:=h.r
 refine ⟨⟨rows,zai h1 fun g hg=>hb.block g (h1.lt g hg).2,h2,fun t ht=>?_⟩,h.t.trans (Turn.below hb) fun x _ h=>h,h.f.kept (hb.block _ h.f.lt) (Same.below hb) fun _ _ h=>h⟩
 have e:(if t<k+1 then spC n i y (d.changes.getD t default) else d.changes.getD t default)=(if t<k then spC n i y (d.changes.getD t default) else d.changes.getD t default):=by
  by_cases e:t=k
  ·subst e
   rw [if_pos (Nat.lt_succ_self _),if_neg (Nat.lt_irrefl _),hs]
  ·by_cases h5:t<k
   ·rw [if_pos h5,if_pos (by omega)]
   ·rw [if_neg h5,if_neg (by omega)]
 rw [e]
 exact (h3 t ht).kept (Same.below hb) fun _ _ h=>h
theorem ziT {α:Type} {l:List α} {k t:Nat} {x d:α} (hk:k<l.length):(l.set k x).getD t d=if t=k then x else l.getD t d:=by
 simp only [List.getD_eq_getElem?_getD,List.getElem?_set]
 by_cases e:k=t
 ·subst e;simp [hk]
 ·rw [if_neg e,if_neg (Ne.symm e)]
theorem zgu {w:World} {g q x:Nat} {a0 a1 a2 a3 a4:Value} (h:x≠g):(((((w.setCell ⟨g,q+0,none⟩ a0).setCell ⟨g,q+1,none⟩ a1).setCell ⟨g,q+2,none⟩ a2).setCell ⟨g,q+3,none⟩ a3).setCell ⟨g,q+4,none⟩ a4).heap[x]? = w.heap[x]? := by
 rw [zak h,zak h,zak h,zak h,zak h]
theorem zeB {F:Nat→Prop} {w w':World} {g q:Nat} {a0 a1 a2 a3 a4:Value} (h:Turn F w w') (hg:F g):Turn F w (((((w'.setCell ⟨g,q+0,none⟩ a0).setCell ⟨g,q+1,none⟩ a1).setCell ⟨g,q+2,none⟩ a2).setCell ⟨g,q+3,none⟩ a3).setCell ⟨g,q+4,none⟩ a4):=
 ((((h.set (p:=⟨g,q+0,none⟩) (.inl hg) a0).set (p:=⟨g,q+1,none⟩) (.inl hg) a1).set (p:=⟨g,q+2,none⟩) (.inl hg) a2).set (p:=⟨g,q+3,none⟩) (.inl hg) a3).set (p:=⟨g,q+4,none⟩) (.inl hg) a4
theorem SpR.put {w w1 wr w3:World} {d:RDisk} {F:Nat→Prop} {b m1 m2 g nl cv:Nat} {n:ByteArray} {i k:Nat} {y:Int} {a0 a1 a2 a3 a4:Value} (h:SpR w w1 wr d F b m1 m2 (.slice (some ⟨g,0,none⟩) nl cv) n i y k) (hnl:d.changes.length=nl) (hb:Below wr.heap.size wr w3) (hk:k<nl) (hg:g<w.heap.size) (hw:w.heap.size≤wr.heap.size) (hm:g≠m1)
  (hc:ChAt w3 (fun x=>wr.heap.size≤x) (spC n i y (d.changes.getD k default)) [a0,a1,a2,a3,a4]):SpR w w1 (((((w3.setCell ⟨g,k*5+0,none⟩ a0).setCell ⟨g,k*5+1,none⟩ a1).setCell ⟨g,k*5+2,none⟩ a2).setCell ⟨g,k*5+3,none⟩ a3).setCell ⟨g,k*5+4,none⟩ a4) d F b m1 m2 (.slice (some ⟨g,0,none⟩) nl cv) n i y (k+1):=by
 obtain ⟨rows,h1,h2,h3⟩:=h.r
 subst hnl
 have hB:RowB wr g cv rows:=RowB.of_own h1 (fun r hr=>by
  obtain ⟨i,hi,rfl⟩:=List.mem_iff_getElem.1 hr
  have:=(h3 i (by rw [← h2];exact hi)).len
  simpa [List.getD,hi] using this) h2
 have hB3:=hB.kept (hb.block g hB.lt)
 have hB4:=hB3.set (i:=k) (by rw [h2];exact hk) a0 a1 a2 a3 a4
 have hsz:=hb.size
 obtain ⟨W,hW⟩:∃ W,(((((w3.setCell ⟨g,k*5+0,none⟩ a0).setCell ⟨g,k*5+1,none⟩ a1).setCell ⟨g,k*5+2,none⟩ a2).setCell ⟨g,k*5+3,none⟩ a3).setCell ⟨g,k*5+4,none⟩ a4)=W:=⟨_,rfl⟩
 have hfar:∀ x,x≠g→W.heap[x]? = w3.heap[x]? := fun x hx=>by rw [← hW];exact zgu hx
 have hzW:W.heap.size=w3.heap.size:=by rw [← hW];simp [World.setCell]
 have hS1:∀ x,(SB F b m1 m2 (.slice (some ⟨g,0,none⟩) d.changes.length cv) x∨w.heap.size≤x)→x≠g:=fun x hx e=>by
  subst e
  rcases hx with hx | hx
  ·exact hx.2.2.2.2 rfl
  ·omega
 have hSm:Same (fun x=>SB F b m1 m2 (.slice (some ⟨g,0,none⟩) d.changes.length cv) x∨w.heap.size≤x) wr W:=⟨by omega,fun x hx hl=>(hfar x (hS1 x hx)).trans (hb.block x hl)⟩
 have hT:Turn (fun x=>x=m1∨(Value.slice (some ⟨g,0,none⟩) d.changes.length cv).ownBlock=some x) w1 W:=by
  rw [← hW]
  have h5:=h.t.trans (Turn.below (F:=fun _=>False) hb) fun x _ h=>h.elim
  exact zeB h5 (.inr rfl)
 rw [hW] at hB4 ⊢
 have ho:=hB4.own
 rw [List.length_set,h2] at ho
 refine ⟨⟨rows.set k [a0,a1,a2,a3,a4],ho,by rw [List.length_set];exact h2,fun t ht=>?_⟩,hT,h.f.kept ((hfar m1 (Ne.symm hm)).trans (hb.block _ h.f.lt)) hSm fun _ _ h=>h⟩
 rw [ziT (by rw [h2];exact hk)]
 by_cases e:t=k
 ·subst e
  rw [if_pos rfl,if_pos (Nat.lt_succ_self _)]
  refine hc.kept ⟨by omega,fun x hx hl=>hfar x (by have hx:wr.heap.size≤x:=hx;omega)⟩ fun x hl hx=> .inr (Nat.le_trans hw hx)
 ·rw [if_neg e]
  have e2:(if t<k+1 then spC n i y (d.changes.getD t default) else d.changes.getD t default)=(if t<k then spC n i y (d.changes.getD t default) else d.changes.getD t default):=by
   by_cases h5:t<k
   ·rw [if_pos h5,if_pos (by omega)]
   ·rw [if_neg h5,if_neg (by omega)]
  rw [e2]
  exact (h3 t ht).kept hSm fun _ _ h=>h
theorem DkAt.spoil {w w1 wr w3:World} {b:Nat} {d:RDisk} {F:Nat→Prop} {m1 m2:Nat} {v:Value} {rows:List (List Value)} {n:ByteArray} {i:Nat} {y:Int} {B:List Int} {e:Ending} (h:DkAt w b d F m1 m2 v rows) (hb1:Below w.heap.size w w1) (hr:SpR w w1 wr d F b m1 m2 v n i y d.changes.length)
  (hd:zc0 wr (SB F b m1 m2 v) m2 (zax ⟨n,zaC B i y⟩ (zad d)) e w3) (hB:zab (zad d) n=some B) (hi:i<B.length) (hn:NmOk n):DPost w b F (sp1 d n i y) (.int .i64 0) (.returned (.int .i64 0)) w3:=by
 obtain ⟨_,ht3,hf3⟩:=hd
 have hbl:=h.fl _ h.fb
 have h1l:=h.fl _ h.f1
 have h2l:=h.fl _ h.f2
 have z1:=hb1.size
 have z2:=hr.t.size
 have z3:=ht3.size
 have hvl:∀ x,v.ownBlock=some x→x<w.heap.size:=fun x hx=>h.fl x (h.fv x hx)
 have hbk:Blk w3 b TDi (dkCs d m1 m2 v):=ht3.keep (hr.t.keep ((hb1.block b hbl).trans h.blk) (fun g=>g.elim h.b1 h.bv)) h.b2
 have hSm:Same (fun x=>SB F b m1 m2 v x∨w.heap.size≤x) wr w3:=ht3.same fun x hx e=>by
  rcases hx with hx | hx
  ·exact hx.2.2.2.1 e
  ·omega
 have hT:∀ x,x<w3.heap.size→(SB F b m1 m2 v x∨w.heap.size≤x)→SB (fun x=>x<w3.heap.size∧(F x∨w.heap.size≤x)) b m1 m2 v x:=fun x hl hx=>by
  rcases hx with hx | hx
  ·exact ⟨⟨hl,.inl hx.1⟩,hx.2⟩
  ·exact ⟨⟨hl,.inr hx⟩,by omega,by omega,by omega,fun e=>by have:=hvl x e;omega⟩
 have hlt:i<((zab (zad d) n).getD []).length:=by rw [hB];exact hi
 have efl:zad (sp1 d n i y)=zax ⟨n,zaC B i y⟩ (zad d):=by
  rw [zgD h.inv]
  unfold spL
  rw [if_pos hlt,hB]
  rfl
 obtain ⟨rows',g1,g2,g3⟩:=hr.r
 refine ⟨rfl,fun x=>x<w3.heap.size∧(F x∨w.heap.size≤x),⟨m1,m2,v,rows',⟨hbk,?_,?_,?_,?_,?_,fun x hx=>hx.1,⟨by omega,.inl h.fb⟩,⟨by omega,.inl h.f1⟩,⟨by omega,.inl h.f2⟩,fun g hg=>⟨by have:=hvl g hg;omega,.inl (h.fv g hg)⟩,h.mm,h.inv.spoil hn i y⟩⟩,fun x hx=>hx.2,?_⟩
 ·exact hr.f.kept (ht3.block m1 hr.f.lt h.mm) hSm fun x hl hx=>hT x (by omega) hx
 ·rw [efl]
  exact hf3.kept rfl (Same.refl _ _) fun x hl hx=>hT x hl (hx.imp id fun hx=>by omega)
 ·have:(sp1 d n i y).changes.length=d.changes.length:=List.length_map ..
  rw [this]
  exact zai g1 fun g hg=>ht3.block g (by have:=hvl g hg;omega) fun e=>h.v2 (e▸hg)
 ·exact g2.trans (List.length_map ..).symm
 ·intro t ht
  have ht:t<d.changes.length:=by have e:(sp1 d n i y).changes.length=d.changes.length:=List.length_map ..;omega
  have e:(sp1 d n i y).changes.getD t default=spC n i y (d.changes.getD t default):=by
   show (d.changes.map (spC n i y)).getD t default=_
   simp [List.getD,ht]
  have h5:=g3 t ht
  rw [if_pos ht] at h5
  rw [e]
  exact h5.kept hSm fun x hl hx=>hT x (by omega) hx
 ·exact ((Turn.below hb1).trans hr.t fun x _ hx=>hx.elim (fun e=>e▸h.f1) fun e=>h.fv x e).trans ht3 fun x _ e=>by have e:x=m2:=e;rw [e];exact h.f2
set_option maxHeartbeats 8000000 in
theorem zgY {w:World} {b:Nat} {d:RDisk} {F:Nat→Prop} (h:DkOk w b d F) (hN:d.lasts.length+d.changes.length≤5000) {n:ByteArray} (hn:NmOk n) {at_ y:Int} (hat:I64 at_) :
  Calls Try.prog 25 #[ptrV b,.string n,.int .i64 at_,.int .u8 y] w (DPost w b F (spD d n at_ y).1 (.int .i64 (spD d n at_ y).2)):=by
 have h0:=Lib.hid h
 have hrd:=zdZ h hn
 have hsp:=zjE d n at_ y
 rw [zbH] at hrd
 cases hB:zab (zad d) n with
 | none=>
  rw [hB] at hrd
  rw [if_pos hB] at hsp
  rw [hsp]
  have HRD:=Lib.hid hrd
  clear hrd hsp hB
  unfold ptrV at HRD ⊢
  go_enter Try.func25,Try.ntmps25
  go_wp2_with (go_at_call 11;refine HRD.out.mono ?_;rintro e w1 ⟨u,rfl,hb1,hu⟩;have HB1:=Lib.hid hb1;clear hb1 hu)
  go_ret
  exact DPost.same h0.out HB1.out
 | some B=>
  rw [hB] at hrd
  have hBl:=zbr (DkI.now (show DkI d by obtain ⟨m1,m2,v,rows,h⟩:=h.o;exact h.inv)) n
  rw [hB] at hBl
  rw [if_neg (by rw [hB];exact fun e=>by cases e),hB] at hsp
  obtain ⟨nB,hnB⟩:∃ nB,B.length=nB:=⟨_,rfl⟩
  have hsp:spD d n at_ y=if at_<0∨at_≥(nB:Int) then (d,123) else (sp1 d n at_.toNat y,0):=by rw [hsp];simp [hnB]
  have HRD:=Lib.hid hrd
  clear hrd
  by_cases hbad:at_<0∨at_≥(nB:Int)
  ·rw [if_pos hbad] at hsp
   rw [hsp]
   have HNB:=Lib.hid hnB
   clear hsp hB hBl hnB
   unfold ptrV at HRD ⊢
   by_cases h1:at_<0
   ·have c1:decide (at_<0)=true:=decide_eq_true h1
    clear hbad
    go_enter Try.func25,Try.ntmps25
    go_wp2_with (go_at_call 11;refine HRD.out.mono ?_;rintro e w1 ⟨u,rfl,hb1,hu⟩;obtain ⟨a9,c9,rfl,_⟩:=hu.shape;have HB1:=Lib.hid hb1;clear hb1 hu)
    go_ret
    exact DPost.same h0.out HB1.out
   ·have c1:decide (at_<0)=false:=decide_eq_false h1
    have c2:decide (at_≥(nB:Int))=true:=decide_eq_true (by omega)
    have hge:=hbad.resolve_left h1
    clear hbad
    go_enter Try.func25,Try.ntmps25
    go_wp2_with (go_at_call 11;refine HRD.out.mono ?_;rintro e w1 ⟨u,rfl,hb1,hu⟩;obtain ⟨a9,c9,rfl,_⟩:=hu.shape;rw [show (B,(0:Int)).1.length=nB from HNB.out];have HB1:=Lib.hid hb1;clear hb1 hu)
    go_ret
    exact DPost.same h0.out HB1.out
  ·rw [if_neg hbad] at hsp
   obtain ⟨i,rfl⟩:∃ i:Nat,at_=i:=⟨at_.toNat,by omega⟩
   rw [show ((i:Int).toNat)=i by omega] at hsp
   rw [hsp]
   have hi0:(0:Int)≤(i:Int):=Int.natCast_nonneg i
   have hi1:(i:Int)<(nB:Int):=by omega
   have hi2:decide ((i:Int)<0)=false:=decide_eq_false (by omega)
   have hi3:decide (nB≤i)=false:=decide_eq_false (by omega)
   obtain ⟨m1,m2,v,rows,h⟩:=h.o
   have hK:=fun (w1:World) (hb:Below w.heap.size w w1)=>h.below hb
   have HK:=Lib.hid hK
   have H:=Lib.hid h
   have HI:=Lib.hid h.inv
   obtain ⟨nl,hnl⟩:∃ nl,d.changes.length=nl:=⟨_,rfl⟩
   have hvs:∃ av cv,v = .slice av nl cv:=by
    rcases h.row.2 with ⟨rfl,hz⟩ | ⟨g,cap,cur,rfl,_⟩
    ·exact ⟨none,0,by rw [← hnl,hz]⟩
    ·exact ⟨_,_,by rw [← hnl]⟩
   obtain ⟨av,cv,rfl⟩:=hvs
   have HNL:=Lib.hid hnl
   have HNB:=Lib.hid hnB
   have HBE:=Lib.hid hB
   have HBL:=Lib.hid hBl
   have HIX:=Lib.hid (show i<nB by omega)
   clear hK hnl h hsp hbad hnB hB hBl
   unfold ptrV at HRD ⊢
   go_enter Try.func25,Try.ntmps25
   go_upto_region 6 with (go_at_call 11;refine HRD.out.mono ?_;rintro e w1 ⟨u,rfl,hb1,hu⟩;obtain ⟨a9,c9,rfl,_⟩:=hu.shape;have HU:=Lib.hid hu;rw [show (B,(0:Int)).1.length=nB from HNB.out];have HB1:=Lib.hid hb1;clear hb1 hu)
   try simp only [hi2,hi3,Bool.or_false]
   have k1:=HK.out w1 HB1.out
   obtain ⟨q0,q1,q2,q3,q4,q5,q6⟩:=box7 k1.blk
   obtain ⟨v11,hlk0,hlk,hv11⟩:=k1.la.look hn
   obtain ⟨a1,c1,rfl,hsl1⟩:=hv11.shape
   obtain ⟨old,hold⟩:∃ old,(zab d.lasts n).getD []=old:=⟨_,rfl⟩
   have holdl:=zbr HI.out.fb n
   rw [hold] at hv11 hlk hsl1 holdl
   obtain ⟨n1,hn1⟩:∃ n1,old.length=n1:=⟨_,rfl⟩
   rw [hn1] at hlk hsl1 holdl
   have HOLD:=Lib.hid hold
   have HN1:=Lib.hid hn1
   have HV:=Lib.hid hv11
   have K1:=Lib.hid k1
   have HOL:=Lib.hid holdl
   clear hold hn1 hv11 k1 hlk0 holdl hsl1
   go_upto_if 42 with fail
   go_cut [42] (fun s wx=>Hid (Turn (fun x=>x=m1) w1 wx∧FilesAt wx (fun x=>SB F b m1 m2 (.slice av nl cv) x∨w.heap.size≤x) m1 (spL d.lasts n i y)))
   case first=>
    by_cases hlt:i<n1
    ·obtain ⟨g1,o1,rfl,hS1,hg1,_,_,_,hc1⟩:=BRd.row (show BRd w1 _ (.slice a1 n1 c1) old from HN1.out▸HV.out) (by omega)
     obtain ⟨e1,_,_,_⟩:=hc1 i hlt
     obtain ⟨x1,hx1⟩:∃ x1,old.getD i 0=x1:=⟨_,rfl⟩
     rw [hx1] at e1
     have hz1:(i:Int)<(n1:Int):=by omega
     have hx:=fun (W:World) (hb:Below w1.heap.size w1 W)=>zdS (y:=y) (HV.out.here.same (Same.below hb)) (by rw [HN1.out];exact hlt) (by rw [HN1.out];exact HOL.out)
     rw [HN1.out,hx1,← ze2] at hx
     have HX:=Lib.hid (hx w1.drew ((Below.refl _ _).drew))
     have hput:=fun (w2:World) (u:Value) (hb:Below w1.drew.heap.size w1.drew w2) (hu:BRd w2 (fun x=>w1.drew.heap.size≤x) u (zaC old i y))=>zbI K1.out.la HI.out.sl (fun hs=>hs.2.2.1 rfl) (by omega) hn hb hu
     have HP:=Lib.hid hput
     have hgm:g1≠m1∧b≠m1:=⟨fun e=>hS1.2.2.1 e,H.out.b1⟩
     have hS0:w1.drew.cell? ⟨b,1,none⟩=some (.map (some m1))∧w1.drew.cell? ⟨g1,o1+i,none⟩=some (.int .u8 x1):=⟨q1,e1⟩
     have HFX:=Lib.hid (fun (w2 w3:World) (u:Value) (hb2:Below w1.drew.heap.size w1.drew w2) (hd:zc0 w1 (SB F b m1 m2 (.slice av nl cv)) m1 (zax ⟨n,zaC old i y⟩ d.lasts) (.returned (.tuple #[])) w3)=>(⟨hd.2.1,by
      have e:spL d.lasts n i y=zax ⟨n,zaC old i y⟩ d.lasts:=by unfold spL;rw [HOLD.out,HN1.out,if_pos hlt]
      rw [e]
      refine hd.2.2.kept rfl (Same.refl _ _) fun x _ hx=>hx.imp id fun h=>Nat.le_trans HB1.out.size h⟩:Turn (fun x=>x=m1) w1 w3∧FilesAt w3 (fun x=>SB F b m1 m2 (.slice av nl cv) x∨w.heap.size≤x) m1 (spL d.lasts n i y)))
     clear hx hc1 hput hx1
     go_wp2_with fail
     go_region_held3 (fun W => W.cell? ⟨b, 1, none⟩ = some (.map (some m1)) ∧ W.cell? ⟨g1, o1 + i, none⟩ = some (.int .u8 x1)) (first | exact hS0 | exact HS1.out | exact HS2.out | exact zd0 hS0 _) (first | (go_at_call 50; refine HX.out.mono ?_; rintro e w2 ⟨u, rfl, hb2, hu2⟩; obtain ⟨w3, hup, hfin, _⟩ := HP.out w2 u hb2 hu2; have HS1 := Lib.hid (zbo (F := fun _ => False) hS0 (Turn.below hb2) ⟨id, id⟩); have HS2 := Lib.hid (zbo ⟨q1, e1⟩ hfin.2.1 ⟨hgm.2, hgm.1⟩); have HF := Lib.hid (HFX.out w2 w3 u hb2 hfin); clear hfin hu2 hb2) | fail "none")
     all_goals go_wp2_with fail
     all_goals go_meet
     all_goals exact HF
    ·have hz1:¬ (i:Int)<(n1:Int):=by omega
     have hz2:decide (i<n1)=false:=decide_eq_false hlt
     have HFX:=Lib.hid (⟨Turn.refl _ _,by
      have e:spL d.lasts n i y=d.lasts:=by unfold spL;rw [HOLD.out,HN1.out,if_neg hlt]
      rw [e]
      exact K1.out.la.kept rfl (Same.refl _ _) fun _ _ h=> .inl h⟩:Turn (fun x=>x=m1) w1 w1∧FilesAt w1 (fun x=>SB F b m1 m2 (.slice av nl cv) x∨w.heap.size≤x) m1 (spL d.lasts n i y))
     go_wp2_with fail
     go_meet
     exact HFX
   case rest=>
    obtain ⟨htc,hfc⟩:=hcut.out
    have kc:=htc.keep K1.out.blk H.out.b1
    obtain ⟨q0,q1,q2,q3,q4,q5,q6⟩:=box7 kc
    have HS0:=Lib.hid (⟨⟨rows,zai K1.out.row fun g hg=>htc.block g (by have:=K1.out.fl _ (K1.out.fv g hg);exact this) (fun e=>by rw [e] at hg;exact K1.out.v1 hg),K1.out.rl,fun t ht=>by
     rw [if_neg (Nat.not_lt_zero _)]
     exact (K1.out.ch t ht).kept (htc.same fun x hx e=>hx.2.2.1 e) fun _ _ h=> .inl h⟩,htc.mono fun x e=> .inl e,hfc⟩:SpR w w1 wc d F b m1 m2 (.slice av nl cv) n i y 0)
    have HZC:=Lib.hid (show w.heap.size≤wc.heap.size from Nat.le_trans HB1.out.size htc.size)
    clear htc hfc kc hcut
    go_wp2_with fail
    try go_frame
    go_loopw [63] (fun kv wr=>∃ k:Nat,kv = .int .i64 k∧k≤nl∧Hid (SpR w w1 wr d F b m1 m2 (.slice av nl cv) n i y k)) (fun kv _=>nl-(intOf kv).toNat)
    case atStart=>exact ⟨0,rfl,Nat.zero_le _,HS0⟩
    case round=>
     obtain ⟨k,rfl,hk,HR⟩:=hrel
     by_cases hlt:k<nl
     ·have hltz:(k:Int)<(nl:Int):=by omega
      have hk0:(0:Int)≤(k:Int):=Int.natCast_nonneg k
      have hw:wrap64 ((k:Int)+1)=((k+1:Nat):Int):=by have:=HNL.out;unfold wrap64;omega
      obtain ⟨g,rfl,hB0,hncv,hFg⟩:=H.out.rowB HNL.out (by omega)
      have hgl:=H.out.fl _ hFg
      have hgm:g≠m1:=fun e=>H.out.v1 (by rw [← e];rfl)
      have hgb:b≠g:=fun e=>H.out.bv (by rw [e];rfl)
      obtain ⟨rows',ho,hrl',hch'⟩:=HR.out.r
      have hzr:w.heap.size≤wr.heap.size:=Nat.le_trans HB1.out.size HR.out.t.size
      have kr:=HR.out.t.keep K1.out.blk (fun e=>e.elim H.out.b1 H.out.bv)
      obtain ⟨q0,q1,q2,q3,q4,q5,q6⟩:=box7 kr
      have hch:=hch' k (by rw [HNL.out];exact hlt)
      rw [if_neg (Nat.lt_irrefl _)] at hch
      rw [HNL.out] at ho hrl' hch'
      have hB:RowB wr g cv rows':=RowB.of_own ho (fun r hr=>by
       obtain ⟨i,hi,rfl⟩:=List.mem_iff_getElem.1 hr
       have:=(hch' i (by rw [← hrl'];exact hi)).len
       simpa [List.getD,hi] using this) hrl'
      obtain ⟨c,hc⟩:∃ c,d.changes.getD k default=c:=⟨_,rfl⟩
      rw [hc] at hch
      have hcm:c∈d.changes:=by
       have h1:k<d.changes.length:=by rw [HNL.out];exact hlt
       rw [← hc]
       have e:d.changes.getD k default=d.changes[k]:=by simp [List.getD,h1]
       rw [e];exact List.getElem_mem _
      have hcI:=HI.out.ch c hcm
      obtain ⟨dv,bv,ecs,hdo,hbv⟩:=hch.D
      have hrl:k<rows'.length:=by omega
      have c0:=(hB.cell (i:=k) (j:=0) hrl (by omega)).1
      have c1:=(hB.cell (i:=k) (j:=1) hrl (by omega)).1
      have c2:=(hB.cell (i:=k) (j:=2) hrl (by omega)).1
      have c3:=(hB.cell (i:=k) (j:=3) hrl (by omega)).1
      have c4:=(hB.cell (i:=k) (j:=4) hrl (by omega)).1
      rw [ecs] at c0 c1 c2 c3 c4
      simp only [List.getD_cons_zero,List.getD_cons_succ,Nat.add_zero] at c0 c1 c2 c3 c4
      have hones:=hch.ones
      rw [ecs] at hones
      have s1:= @zaf Try.prog dv (hones _ (by simp))
      have s3:= @zaf Try.prog bv (hones _ (by simp))
      obtain ⟨a3,cp3,rfl,hsl3⟩:=hbv.shape
      obtain ⟨n3,hn3⟩:∃ n3,(chBy c).length=n3:=⟨_,rfl⟩
      rw [hn3] at c3 s3
      have HSAME:=Lib.hid (fun (w':World) (hb:Below wr.heap.size wr w') (hs:spC n i y c=c)=>HR.out.same hb (by rw [hc];exact hs))
      cases e1:(c.kind==1)
      ·have HSP:=Lib.hid (show spC n i y c=c by unfold spC;rw [if_neg (fun g=>by rw [g.1] at e1;cases e1)])
       rw [e1] at c4
       clear hch hch' hdo hbv ecs hones hB hB0 ho hrl' hcI hcm hc hsl3 hn3 kr hgl hgm hgb hFg hzr hncv e1
       go_wp2
       go_roundw
       case rel=>exact ⟨k+1,congrArg _ hw,hlt,Lib.hid (HSAME.out _ ((Below.refl _ _).alloc (Nat.le_refl _) _) HSP.out)⟩
       case measure=>exact zed hw hlt
      ·rw [e1] at c4
       have hk1:c.kind=1:=by simpa using e1
       have eat:chAt c=c.at_:=by unfold chAt;rw [if_pos hk1]
       have eby:chBy c=c.bytes:=by unfold chBy;rw [if_pos hk1]
       rw [eat] at c2
       rw [eby] at hn3 hbv
       clear e1
       cases e2:eqN c.file n
       ·have HSP:=Lib.hid (zeA (at_:=(i:Int)) (y:=y) e2)
        have e3:(c.file.toList==n.toList)=false:=e2
        clear hch hch' hdo hbv ecs hones hB hB0 ho hrl' hcI hcm hc hsl3 hn3 kr hgl hgm hgb hFg hzr hncv e2 hk1 eat eby
        go_wp2
        go_roundw
        case rel=>exact ⟨k+1,congrArg _ hw,hlt,Lib.hid (HSAME.out _ ((Below.refl _ _).alloc (Nat.le_refl _) _) HSP.out)⟩
        case measure=>exact zed hw hlt
       ·have e3:(c.file.toList==n.toList)=true:=e2
        by_cases h1:(i:Int)≥c.at_
        ·obtain ⟨kk,hkk⟩:∃ kk:Nat,(i:Int)-c.at_=kk:=⟨((i:Int)-c.at_).toNat,by omega⟩
         have hwi:wrap64 ((i:Int)-c.at_)=(kk:Int):=by
          have:=HIX.out
          have:=HBL.out
          have hnb:=HNB.out
          simp only [Option.getD_some] at this
          unfold wrap64;omega
         have hd1:decide (c.at_≤(i:Int))=true:=decide_eq_true h1
         by_cases h2:kk<n3
         ·have hz3:(kk:Int)<(n3:Int):=by omega
          obtain ⟨g3,o3,rfl,hS3,hg3,_,_,_,hb3c⟩:=BRd.row (show BRd wr _ (.slice a3 n3 cp3) c.bytes from hn3▸hbv) (by omega)
          obtain ⟨e5,_,_,_⟩:=hb3c kk h2
          obtain ⟨x3,hx3⟩:∃ x3,c.bytes.getD kk 0=x3:=⟨_,rfl⟩
          rw [hx3] at e5
          have hS3g:g3≠g:=fun e=>by
           rcases hS3 with hS3 | hS3
           ·exact hS3.2.2.2.2 (by rw [e];rfl)
           ·omega
          obtain ⟨wx,hwx⟩:∃ wx,wr.alloc (.cells #[.string c.file,dv,.int .i64 c.at_,.slice (some ⟨g3,o3,none⟩) n3 cp3,.bool true] TCh)=wx:=⟨_,rfl⟩
          have hbx:Below wr.heap.size wr wx.drew:=by rw [← hwx];exact ((Below.refl _ wr).alloc (Nat.le_refl _) _).drew
          have kx:Blk wx wr.heap.size TCh #[.string c.file,dv,.int .i64 c.at_,.slice (some ⟨g3,o3,none⟩) n3 cp3,.bool true]:=by rw [← hwx];exact Blk.new wr TCh _
          obtain ⟨y0,y1,y2,y3,y4⟩:=box5 kx
          have hbl:b<wr.heap.size:=zbu q3
          have q3x:wx.cell? ⟨b,3,none⟩=some (.slice (some ⟨g,0,none⟩) nl cv):=(Below.cell hbx (p:=⟨b,3,none⟩) hbl).trans q3
          have e5x:wx.cell? ⟨g3,o3+kk,none⟩=some (.int .u8 x3):=(Below.cell hbx (p:=⟨g3,o3+kk,none⟩) hg3).trans e5
          have hS0:wx.drew.cell? ⟨b,3,none⟩=some (.slice (some ⟨g,0,none⟩) nl cv)∧wx.drew.cell? ⟨wr.heap.size,2,none⟩=some (.int .i64 c.at_)∧wx.drew.cell? ⟨wr.heap.size,3,none⟩=some (.slice (some ⟨g3,o3,none⟩) n3 cp3)∧wx.drew.cell? ⟨g3,o3+kk,none⟩=some (.int .u8 x3):=⟨q3x,y2,y3,e5x⟩
          have hbl4:c.bytes.length≤4194304:=by have:=hcI.1;have:=hcI.2.1;omega
          have hx:=zdS (y:=y) (hbv.here.same (Same.below hbx)) (by rw [hn3];exact h2) hbl4
          rw [hn3,hx3,← ze2] at hx
          have hwr:=fun (w2:World) (u:Value) (hb2:Below wx.drew.heap.size wx.drew w2) (hu:BRd w2 (fun x=>wx.drew.heap.size≤x) u (zaC c.bytes kk y))=>zbX (w:=w2) hn (at_:=c.at_) hcI.1 (by omega) hu (by rw [zaw];omega)
          have efile:c.file=n:=eqN_iff.1 e2
          have esp:spC n i y c=⟨1,n,c.at_,zaC c.bytes kk y⟩:=by
           unfold spC
           rw [if_pos ⟨hk1,e2,h1,by omega⟩,hkk]
           obtain ⟨ck,cf,ca,cb⟩:=c
           simp only at hk1 efile
           subst hk1;subst efile
           simp
          have hfx:=fun (w2 w3:World) (dv2 bv2:Value) (hb2:Below wx.drew.heap.size wx.drew w2) (hb3:Below w2.heap.size w2 w3) (hc3:ChAt w3 (fun x=>w2.heap.size≤x) ⟨1,n,c.at_,zaC c.bytes kk y⟩ [.string n,dv2,.int .i64 c.at_,bv2,.bool true])=>HR.out.put HNL.out (hbx.trans ((hb2.mono hbx.size).trans (hb3.mono (Nat.le_trans hbx.size hb2.size)))) hlt hgl hzr hgm (by
           rw [hc,esp]
           exact hc3.kept (Same.refl _ _) fun x _ hx=>Nat.le_trans (Nat.le_trans hbx.size hb2.size) hx)
          have hrow3:=fun (w2 w3:World) (hb2:Below wx.drew.heap.size wx.drew w2) (hb3:Below w2.heap.size w2 w3)=>hB.kept ((hbx.trans ((hb2.mono hbx.size).trans (hb3.mono (Nat.le_trans hbx.size hb2.size)))).block g hB.lt)
          have hcells:=fun (w2 w3:World) (hb2:Below wx.drew.heap.size wx.drew w2) (hb3:Below w2.heap.size w2 w3)=>row5 (hrow3 w2 w3 hb2 hb3) hrl
          have HX:=Lib.hid hx
          have HW:=Lib.hid hwr
          have HFX:=Lib.hid hfx
          have HCE:=Lib.hid hcells
          have hne:b≠g∧wr.heap.size≠g∧wr.heap.size≠g∧g3≠g:=⟨hgb,fun e=>by have:=hB.lt;omega,fun e=>by have:=hB.lt;omega,hS3g⟩
          have HNE:=Lib.hid hne
          clear hch hch' hdo hbv ecs hones hB hB0 ho hrl' hcI hcm hc hsl3 hn3 kr hgl hgm hgb hFg hzr hncv e2 hk1 eat eby hkk hx hwr hfx hcells hne esp efile hrow3 hb3c hx3 hS3 hS3g hbx kx hbl hbl4 hg3
          have hkk0:(0:Int)≤(kk:Int):=Int.natCast_nonneg kk
          go_wp2_with fail
          try rw [hwx]
          clear hwx
          have hwi2:IntKind.i64.wrap ((i:Int)-c.at_)=(kk:Int):=by rw [IntKind.wrap_i64];unfold wrap64 at hwi;exact hwi
          go_region_held3 (fun W=>W.cell? ⟨b,3,none⟩=some (.slice (some ⟨g,0,none⟩) nl cv)∧W.cell? ⟨wr.heap.size,2,none⟩=some (.int .i64 c.at_)∧W.cell? ⟨wr.heap.size,3,none⟩=some (.slice (some ⟨g3,o3,none⟩) n3 cp3)∧W.cell? ⟨g3,o3+kk,none⟩=some (.int .u8 x3)) (first | with_reducible exact hS0 | with_reducible exact HS1.out | with_reducible exact HS2.out | with_reducible exact HS3.out | exact zfx hS0 _ | exact HS3.out) (first | (go_at_call 50;refine HX.out.mono ?_;rintro e w2 ⟨u,rfl,hb2,hu2⟩;have HW2:=Lib.hid (HW.out w2 u hb2 hu2);have HB2:=Lib.hid hb2;have HS1:=Lib.hid (zbP (F:=fun _=>False) hS0 (Turn.below hb2) ⟨id,id,id,id⟩);clear hb2 hu2) | (go_at_call 34;refine HW2.out.mono ?_;rintro e w3 ⟨cs,rfl,hc3,hb3⟩;obtain ⟨dv2,bv2,rfl,o1,o2⟩:=hc3.one;have t1:= @zaf Try.prog dv2 o1;have t3:= @zaf Try.prog bv2 o2;obtain ⟨⟨f0,f1,f2,f3,f4⟩,z0,z1,z2,z3,z4⟩:=HCE.out w2 w3 HB2.out hb3;have HS2:=Lib.hid (zbP (F:=fun _=>False) HS1.out (Turn.below hb3) ⟨id,id,id,id⟩);have HS3:Hid (World.cell? (((((w3.setCell ⟨g,k*5,none⟩ (.string n)).setCell ⟨g,k*5+1,none⟩ dv2).setCell ⟨g,k*5+2,none⟩ (.int .i64 c.at_)).setCell ⟨g,k*5+3,none⟩ bv2).setCell ⟨g,k*5+4,none⟩ (.bool true)) ⟨b,3,none⟩=some (.slice (some ⟨g,0,none⟩) nl cv)∧World.cell? (((((w3.setCell ⟨g,k*5,none⟩ (.string n)).setCell ⟨g,k*5+1,none⟩ dv2).setCell ⟨g,k*5+2,none⟩ (.int .i64 c.at_)).setCell ⟨g,k*5+3,none⟩ bv2).setCell ⟨g,k*5+4,none⟩ (.bool true)) ⟨wr.heap.size,2,none⟩=some (.int .i64 c.at_)∧World.cell? (((((w3.setCell ⟨g,k*5,none⟩ (.string n)).setCell ⟨g,k*5+1,none⟩ dv2).setCell ⟨g,k*5+2,none⟩ (.int .i64 c.at_)).setCell ⟨g,k*5+3,none⟩ bv2).setCell ⟨g,k*5+4,none⟩ (.bool true)) ⟨wr.heap.size,3,none⟩=some (.slice (some ⟨g3,o3,none⟩) n3 cp3)∧World.cell? (((((w3.setCell ⟨g,k*5,none⟩ (.string n)).setCell ⟨g,k*5+1,none⟩ dv2).setCell ⟨g,k*5+2,none⟩ (.int .i64 c.at_)).setCell ⟨g,k*5+3,none⟩ bv2).setCell ⟨g,k*5+4,none⟩ (.bool true)) ⟨g3,o3+kk,none⟩=some (.int .u8 x3)):=Lib.hid (zbP HS2.out (zeB (F:=fun x=>x=g) (q:=k*5) (a0:= .string n) (a1:=dv2) (a2:= .int .i64 c.at_) (a3:=bv2) (a4:= .bool true) (Turn.refl _ w3) rfl) HNE.out);have HF:Hid (SpR w w1 (((((w3.setCell ⟨g,k*5,none⟩ (.string n)).setCell ⟨g,k*5+1,none⟩ dv2).setCell ⟨g,k*5+2,none⟩ (.int .i64 c.at_)).setCell ⟨g,k*5+3,none⟩ bv2).setCell ⟨g,k*5+4,none⟩ (.bool true)) d F b m1 m2 (.slice (some ⟨g,0,none⟩) nl cv) n i y (k+1)):=Lib.hid (HFX.out w2 w3 dv2 bv2 HB2.out hb3 hc3);clear hc3 hb3))
          all_goals go_wp2_with fail
          all_goals go_roundw
          case rel=>exact ⟨k+1,congrArg _ hw,hlt,HF⟩
          case measure=>exact zed hw hlt
         ·have HSP:=Lib.hid (show spC n i y c=c by unfold spC;rw [if_neg (fun g=>h2 (by have:=g.2.2.2;omega))])
          have hz3:¬ (kk:Int)<(n3:Int):=by omega
          clear hch hch' hdo hbv ecs hones hB hB0 ho hrl' hcI hcm hc hsl3 hn3 kr hgl hgm hgb hFg hzr hncv e2 hk1 eat eby hkk
          go_wp2
          go_roundw
          case rel=>exact ⟨k+1,congrArg _ hw,hlt,Lib.hid (HSAME.out _ ((Below.refl _ _).alloc (Nat.le_refl _) _) HSP.out)⟩
          case measure=>exact zed hw hlt
        ·have HSP:=Lib.hid (show spC n i y c=c by unfold spC;rw [if_neg (fun g=>h1 g.2.2.1)])
         have hd1:decide (c.at_≤(i:Int))=false:=decide_eq_false h1
         clear hch hch' hdo hbv ecs hones hB hB0 ho hrl' hcI hcm hc hsl3 hn3 kr hgl hgm hgb hFg hzr hncv e2 hk1 eat eby
         go_wp2
         go_roundw
         case rel=>exact ⟨k+1,congrArg _ hw,hlt,Lib.hid (HSAME.out _ ((Below.refl _ _).alloc (Nat.le_refl _) _) HSP.out)⟩
         case measure=>exact zed hw hlt
     ·have hltz:¬ (k:Int)<(nl:Int):=by omega
      obtain rfl:k=nl:=by omega
      have hr:=HR.out
      have kr:=hr.t.keep K1.out.blk (fun e=>e.elim H.out.b1 H.out.bv)
      obtain ⟨q0,q1,q2,q3,q4,q5,q6⟩:=box7 kr
      have h2l:=H.out.fl _ H.out.f2
      have h1l:=H.out.fl _ H.out.f1
      have hu:=HU.out
      have hnb:(B,(0:Int)).1.length=nB:=HNB.out
      rw [hnb] at hu
      have hu2:BRd wr (fun x=>w.heap.size≤x) (.slice a9 nB c9) B:=hu.same (hr.t.same fun x hx e=>by
       have hx:w.heap.size≤x:=hx
       rcases e with e | e
       ·omega
       ·have:=H.out.fl _ (H.out.fv x e);omega)
      obtain ⟨g9,o9,rfl,hS9,hg9,_,_,_,hc9⟩:=BRd.row hu2 (by have:=HIX.out;omega)
      obtain ⟨e9,_,_,_⟩:=hc9 i HIX.out
      obtain ⟨x9,hx9⟩:∃ x9,B.getD i 0=x9:=⟨_,rfl⟩
      rw [hx9] at e9
      have hbl4:B.length≤4194304:=HBL.out
      have hx:=zdS (y:=y) (W:=wr.drew) (Rd.drew hu2) (by rw [HNB.out];exact HIX.out) hbl4
      rw [hx9,← ze2] at hx
      have hno:FilesAt wr (SB F b m1 m2 (.slice av k cv)) m2 (zad d):=K1.out.no.kept (hr.t.block m2 (by have:=HB1.out.size;omega) fun e=>e.elim (fun e=>H.out.mm e.symm) fun e=>H.out.v2 e) (hr.t.same fun x hx e=>e.elim (fun e=>hx.2.2.1 e) fun e=>hx.2.2.2.2 e) fun _ _ h=>h
      have hlen:=zcC d
      have hput:=fun (w2:World) (u:Value) (hb:Below wr.drew.heap.size wr.drew w2) (hu:BRd w2 (fun x=>wr.drew.heap.size≤x) u (zaC B i y))=>zbI hno HI.out.sn (fun hs=>hs.2.2.2.1 rfl) (by omega) hn hb hu
      have hfin:=fun (w3:World) (hd:zc0 wr (SB F b m1 m2 (.slice av k cv)) m2 (zax ⟨n,zaC B i y⟩ (zad d)) (.returned (.tuple #[])) w3)=>H.out.spoil HB1.out (by rw [HNL.out];exact hr) hd HBE.out (by rw [HNB.out];exact HIX.out) hn
      have hS0:wr.drew.cell? ⟨b,2,none⟩=some (.map (some m2))∧wr.drew.cell? ⟨g9,o9+i,none⟩=some (.int .u8 x9):=⟨q2,e9⟩
      have hgm:b≠m2∧g9≠m2:=⟨H.out.b2,fun e=>by have hS9:w.heap.size≤g9:=hS9;omega⟩
      have HX:=Lib.hid hx
      have HP:=Lib.hid hput
      have HFI:=Lib.hid hfin
      have HGM:=Lib.hid hgm
      clear hr kr h2l h1l hu hnb hu2 hS9 hg9 hc9 hx9 hbl4 hx hno hlen hput hfin hgm
      go_wp2_with fail
      go_region_held3 (fun W => W.cell? ⟨b, 2, none⟩ = some (.map (some m2)) ∧ W.cell? ⟨g9, o9 + i, none⟩ = some (.int .u8 x9)) (first | exact hS0 | exact HS1.out | exact HS2.out | exact zd0 hS0 _) (first | (go_at_call 50; refine HX.out.mono ?_; rintro e w2 ⟨u, rfl, hb2, hu2⟩; obtain ⟨w3, hup, hfin, _⟩ := HP.out w2 u hb2 hu2; have HS1 := Lib.hid (zbo (F := fun _ => False) hS0 (Turn.below hb2) ⟨id, id⟩); have HS2 := Lib.hid (zbo ⟨q2, e9⟩ hfin.2.1 HGM.out); have HF := Lib.hid (HFI.out w3 hfin); clear hfin hu2 hb2) | fail "none")
      all_goals go_wp2_with fail
      all_goals go_ret
      all_goals exact HF.out
theorem zex {w:World} {S:Nat→Prop} {v:Value} {l:List Int} (h:BRd w S v l):(convert TBy TSt v).run Try.prog w = .ok (.string (zdf l)) w:=by
 obtain ⟨a,c,rfl,hsl⟩:=h.shape
 rw [run_convert_bytes_string (P:=Try.prog) w TBy TSt TU a l.length c (by kernel_rfl) (by kernel_rfl) undS]
 by_cases h0:l.length=0
 ·have:l=[]:=List.eq_nil_of_length_eq_zero h0
  subst this
  cases a with
  | none=>rfl
  | some ad=>exact run_bytesToString (P:=Try.prog) w ad 0 c [] (by have:=run_loadCells (P:=Try.prog) (w:=w) ad 0 (fun _=>undef) (fun j hj=>absurd hj (Nat.not_lt_zero _));simpa using this)
 ·obtain ⟨b,off,rfl,_,_,_,_,_,hc⟩:=BRd.row h (by omega)
  have h1:=run_bytesToString (P:=Try.prog) w ⟨b,off,none⟩ l.length c l (by
   have:=run_loadCells_list (P:=Try.prog) w ⟨b,off,none⟩ (l.map (Value.int .u8)) (fun j v hj=>zfE rfl (fun i hi=>(hc i hi).1) j v hj)
   simpa using this)
  rw [zd9] at h1
  exact h1
def zgl (w:World) (xs:List Int) (e:Ending) (w':World):Prop:=
 e = .returned (.slice (some ⟨w.heap.size,0,none⟩) xs.length (xs.length+2))∧w'.heap[w.heap.size]? = some (.cells (u8s (xs++[165,90])).toArray TU (0,0))∧Below w.heap.size w w'
theorem zfi (xs:List Int):((Go.splice (List.replicate (xs.length+2) (Value.int .u8 0)) 0 (u8s xs)).set xs.length (.int .u8 165)).set (xs.length+1) (.int .u8 90)=u8s (xs++[165,90]):=by
 have e:(List.replicate (xs.length+2) (Value.int .u8 0)).drop xs.length=[.int .u8 0,.int .u8 0]:=by
  rw [List.drop_replicate,show xs.length+2-xs.length=2 by omega];rfl
 unfold u8s
 simp only [Go.splice,List.take_zero,List.nil_append,List.length_map,Nat.zero_add,e,List.map_append,List.map_cons,List.map_nil]
 rw [List.set_append_right _ _ (by simp)]
 simp only [List.length_map,Nat.sub_self,List.set_cons_zero]
 rw [List.set_append_right _ _ (by simp)]
 simp
theorem ziK {w:World} {S:Nat→Prop} {bv:Value} {xs:List Int} (hb:BRd w S bv xs) (hl:xs.length≤1000000):Calls Try.prog 26 #[bv] w (zgl w xs):=by
 obtain ⟨a,c,rfl,_⟩:=hb.shape
 obtain ⟨n,hn⟩:∃ n,xs.length=n:=⟨_,rfl⟩
 obtain ⟨i0,hi,hz0,hz1,hz2⟩:=zcJ
 have hi1:(Try.prog.info? TU).map (·.size)=some 1:=by rw [hi];simp [hz1]
 have hg1:∀ w1:World,w1.ownsRow w.heap.size TU 1 (.slice (some ⟨w.heap.size,0,none⟩) (n+2) (n+2)) (n+2) (madeCells (Value.int IntKind.u8 0).cells ((n+2)*1)).toList→w1.heap[w.heap.size]? = some (.cells (List.replicate (n+2) (.int .u8 0)).toArray TU (0,0)):=fun w1 hown=>by
  rw [← zhs];exact zdl hown
 have hn1:(u8s xs).length=Nat.min n (n+2):=by rw [za2,hn];show n=min n (n+2);omega
 have hp1:∀ w1:World,w.grownBy w1 none→0<(u8s xs).length→some (⟨w.heap.size,0,none⟩:Addr)=some ⟨w.heap.size,0,none⟩∧∃ ad,a=some ad∧∀ j v,(u8s xs)[j]? = some v→w1.cell? (ad.add j)=some v:=fun w1 hgrow hp=>by
  rw [za2] at hp
  obtain ⟨b,off,rfl,hS,hlt,_,_,hl,hc⟩:=BRd.row hb hp
  exact ⟨rfl,_,rfl,zfE hl fun i hi=>hgrow.cell ((hc i hi).1) (by simp)⟩
 have hf1:0+(u8s xs).length≤(List.replicate (n+2) (Value.int .u8 0)).length:=by rw [za2,hn,List.length_replicate];omega
 have hb1:∀ w1:World,w.grownBy w1 none→Below w.heap.size w w1:=fun w1 hgrow=>(Below.refl _ _).grown hgrow (Nat.le_refl _) (fun k h=>by cases h)
 have hlen2:(Go.splice (List.replicate (n+2) (Value.int .u8 0)) 0 (u8s xs)).length=n+2:=by rw [zc3 hf1,List.length_replicate]
 have hcl:∀ w2:World,w2.heap[w.heap.size]? = some (.cells (Go.splice (List.replicate (n+2) (Value.int .u8 0)) 0 (u8s xs)).toArray TU (0,0))→(∃ u1 u2,w2.cell? ⟨w.heap.size,n,none⟩=some u1∧(w2.setCell ⟨w.heap.size,n,none⟩ (.int .u8 165)).cell? ⟨w.heap.size,n+1,none⟩=some u2)∧w2.frozen? ⟨w.heap.size,n,none⟩=false∧(w2.setCell ⟨w.heap.size,n,none⟩ (.int .u8 165)).frozen? ⟨w.heap.size,n+1,none⟩=false:=fun w2 h=>by
  have h2:(w2.setCell ⟨w.heap.size,n,none⟩ (.int .u8 165)).heap[w.heap.size]? = some (.cells ((Go.splice (List.replicate (n+2) (Value.int .u8 0)) 0 (u8s xs)).set n (.int .u8 165)).toArray TU (0,0)):=by
   simp [World.setCell,Array.getElem?_modify,h]
  refine ⟨⟨(Go.splice (List.replicate (n+2) (Value.int .u8 0)) 0 (u8s xs))[n]'(by omega),((Go.splice (List.replicate (n+2) (Value.int .u8 0)) 0 (u8s xs)).set n (.int .u8 165))[n+1]'(by rw [List.length_set];omega),?_,?_⟩,?_,?_⟩
  ·simp only [World.cell?,h];simp [hlen2]
  ·simp only [World.cell?,h2];simp [hlen2]
  ·simp [World.frozen?,h]
  ·simp only [World.frozen?,h2];rfl
 have hfin:∀ w2:World,w2.heap[w.heap.size]? = some (.cells (Go.splice (List.replicate (n+2) (Value.int .u8 0)) 0 (u8s xs)).toArray TU (0,0))→Below w.heap.size w w2→zgl w xs (.returned (.slice (some ⟨w.heap.size,0,none⟩) n (n+2))) ((w2.setCell ⟨w.heap.size,n,none⟩ (.int .u8 165)).setCell ⟨w.heap.size,n+1,none⟩ (.int .u8 90)):=fun w2 h hbel=>by
  refine ⟨by rw [hn],?_,(hbel.setCell (Nat.le_refl _) _).setCell (Nat.le_refl _) _⟩
  rw [← zfi,hn]
  simp [World.setCell,Array.getElem?_modify,h]
 have HG1:=Lib.hid hg1
 have HN1:=Lib.hid hn1
 have HP1:=Lib.hid hp1
 have HF1:=Lib.hid hf1
 have HB1:=Lib.hid hb1
 have HCL:=Lib.hid hcl
 have HFI:=Lib.hid hfin
 have hnn:n≤1000000:=by omega
 have hn0:(0:Int)≤(n:Int):=Int.natCast_nonneg n
 rw [hn]
 clear hg1 hn1 hp1 hf1 hb1 hcl hfin hlen2 hb hl hn
 go_enter Try.func26,Try.ntmps26
 go_wp2_with (first | (at_make;refine wpList_make_full _ rfl (.tmp 6) (.tmp 6) 30 rfl w.heap.size TU i0 (.int .u8 0) 1 undB hi hz0 hz1 .i64 .i64 ((n:Int)+2) ((n:Int)+2) (n+2) rfl rfl (by omega) (by omega) (by rw [hz2];omega) (by unfold maxLen;omega) (Nat.le_refl _) ?_;intro w1 hown hgrow) | (refine wpList_copy_splice rfl (.tmp 8) (.tmp 9) 30 30 rfl TU undB hi1 (some ⟨w.heap.size,0,none⟩) a (n+2) (n+2) n c rfl rfl w.heap.size 0 (List.replicate (n+2) (.int .u8 0)) TU (HG1.out _ hown) (u8s xs) HN1.out (HP1.out _ hgrow) HF1.out (zfh xs) w.heap.size w (HB1.out _ hgrow) (Nat.le_refl _) ?_;intro w2 hrow hbel;obtain ⟨⟨z1,z2,k1,k2⟩,k3,k4⟩:=HCL.out _ hrow.out))
 go_ret
 exact HFI.out _ hrow.out hbel
theorem zkg (ys:List Int) (k:Nat) (v:Int):u8s (ys.set k v)=(u8s ys).set k (.int .u8 v):=by unfold u8s;rw [List.map_set]
def zj8 (w:World) (g:Nat) (e:Ending) (w':World):Prop:=e = .returned (.bool true)∧Turn (fun x=>x=g) w w'
set_option maxHeartbeats 1000000 in
theorem zj7 {w:World} {S:Nat→Prop} {g:Nat} {bv:Value} {xs:List Int} (hrow:w.heap[g]? = some (.cells (u8s (xs++[165,90])).toArray TU (0,0))) (hb:BRd w S bv xs) (hl:xs.length≤1000000) :
  Calls Try.prog 27 #[.slice (some ⟨g,0,none⟩) xs.length (xs.length+2),bv] w (zj8 w g):=by
 have hx:BRd w (fun x=>x=g) (.slice (some ⟨g,0,none⟩) xs.length (xs.length+2)) xs:=BRd.of_blk hrow rfl (by omega) (by unfold maxLen;omega) (by omega) rfl hb.by fun i hi=>by
  unfold u8s
  rw [List.getElem?_map,List.getElem?_append_left hi]
  simp [List.getD,hi]
 have v1:=zex hx
 have v2:=zex hb
 obtain ⟨a,c,rfl,_⟩:=hb.shape
 obtain ⟨n,hn⟩:∃ n,xs.length=n:=⟨_,rfl⟩
 have hl2:(u8s (xs++[165,90])).length=n+2:=by rw [za2,List.length_append,hn];rfl
 have h1:w.cell? ⟨g,n,none⟩=some (.int .u8 165):=by
  have:(u8s (xs++[165,90]))[n]? = some (.int .u8 165):=by unfold u8s;rw [List.getElem?_map,List.getElem?_append_right (by omega),hn,Nat.sub_self];rfl
  simp only [World.cell?,hrow,List.getElem?_toArray,this];rfl
 have h2:w.cell? ⟨g,n+1,none⟩=some (.int .u8 90):=by
  have:(u8s (xs++[165,90]))[n+1]? = some (.int .u8 90):=by unfold u8s;rw [List.getElem?_map,List.getElem?_append_right (by omega),hn,show n+1-n=1 by omega];rfl
  simp only [World.cell?,hrow,List.getElem?_toArray,this];rfl
 have HR:=Lib.hid (⟨xs++[165,90],by rw [List.length_append,hn];rfl,hrow,Turn.refl _ _⟩:∃ ys:List Int,ys.length=n+2∧w.heap[g]? = some (.cells (u8s ys).toArray TU (0,0))∧Turn (fun x=>x=g) w w)
 have hnn:n≤1000000:=by omega
 have hn0:(0:Int)≤(n:Int):=Int.natCast_nonneg n
 have hw1:wrap64 ((n:Int)+2)=((n+2:Nat):Int):=by unfold wrap64;omega
 have hw2:wrap64 ((n:Int)+1)=((n+1:Nat):Int):=by unfold wrap64;omega
 rw [hn] at v1 v2 ⊢
 clear hrow hx hb hn hl hl2
 go_enter Try.func27,Try.ntmps27
 go_wp2_with fail
 go_loopw [7] (fun kv wr=>∃ k:Nat,kv = .int .i64 k∧k≤n+2∧Hid (∃ ys:List Int,ys.length=n+2∧wr.heap[g]? = some (.cells (u8s ys).toArray TU (0,0))∧Turn (fun x=>x=g) w wr)) (fun kv _=>n+2-(intOf kv).toNat)
 case atStart=>exact ⟨0,rfl,Nat.zero_le _,HR⟩
 case round=>
  obtain ⟨k,rfl,hk,HY⟩:=hrel
  by_cases hlt:k<n+2
  ·obtain ⟨ys,hy1,hy2,hy3⟩:=HY.out
   have hk0:(0:Int)≤(k:Int):=Int.natCast_nonneg k
   have hk1:(k:Int)<(n:Int)+2:=by omega
   have hw:wrap64 ((k:Int)+1)=((k+1:Nat):Int):=by unfold wrap64;omega
   obtain ⟨y,hy⟩:∃ y,ys.getD k 0=y:=⟨_,rfl⟩
   have hyk:(u8s ys)[k]? = some (.int .u8 y):=by rw [← hy];exact zde (by omega)
   have hc:wr.cell? ⟨g,k,none⟩=some (.int .u8 y):=by simp only [World.cell?,hy2,List.getElem?_toArray,hyk];rfl
   have hf:wr.frozen? ⟨g,k,none⟩=false:=by simp [World.frozen?,hy2]
   have HN:=Lib.hid (fun (v:Int)=>(⟨ys.set k v,by rw [List.length_set];exact hy1,by simp [World.setCell,Array.getElem?_modify,hy2,zkg],hy3.set (.inl rfl) _⟩:∃ ys:List Int,ys.length=n+2∧(wr.setCell ⟨g,k,none⟩ (.int .u8 v)).heap[g]? = some (.cells (u8s ys).toArray TU (0,0))∧Turn (fun x=>x=g) w (wr.setCell ⟨g,k,none⟩ (.int .u8 v))))
   clear hy1 hy2 hy3 hyk hy
   go_wp2
   go_roundw
   case rel=>exact ⟨k+1,congrArg _ (by omega:(k:Int)+1=((k+1:Nat):Int)),hlt,Lib.hid (HN.out _)⟩
   case measure=>
    show n+2-((k:Int)+1).toNat<n+2-(k:Int).toNat
    omega
  ·have hk1:¬ (k:Int)<(n:Int)+2:=by omega
   obtain ⟨ys,hy1,hy2,hy3⟩:=HY.out
   have HT:=Lib.hid hy3
   clear hy1 hy2 hy3
   go_wp2
   go_ret
   exact ⟨rfl,HT.out⟩
def zaM (d:RDisk) (o:DOp):RDisk×Int:=
 if o.kind=1 then wrD d o.file o.at_ o.bytes else if o.kind=2 then cutD d o.file o.at_ else if o.kind=3 then rmD d o.file else if o.kind=4 then syD d o.file
 else if o.kind=5 then zdg d o.at_ else if o.kind=6 then (crD d o.keep o.at_,0) else if o.kind=7 then spD d o.file o.at_ o.by_ else (d,0)
theorem DPost.before {w w1 w':World} {b:Nat} {F:Nat→Prop} {d':RDisk} {r:Value} {e:Ending} (hb:Below w.heap.size w w1) (h:DPost w1 b F d' r e w'):DPost w b F d' r e w':=DPost.after (fun x hx=> .inl hx) (Turn.below hb) h
theorem DPost.before_calls {w w1:World} {b:Nat} {F:Nat→Prop} {d':RDisk} {r:Value} {f:FuncId} {vals:Array Value} (hb:Below w.heap.size w w1) (h:Calls Try.prog f vals w1 (DPost w1 b F d' r)):Calls Try.prog f vals w1 (DPost w b F d' r):=h.mono fun e w' hp=>hp.before hb
theorem DPost.back {w w2 w3 w4:World} {b g:Nat} {F F':Nat→Prop} {d':RDisk} {r:Value} (hb:Below w.heap.size w w2) (p1:DkOk w3 b d' F') (p2:∀ x,F' x→F x∨w2.heap.size≤x) (p3:Turn F w2 w3) (h4:Turn (fun x=>x=g) w3 w4) (hg:¬ F g) (hg2:g<w2.heap.size) (hg3:w.heap.size≤g):DPost w b F d' r (.returned r) w4:=by
 refine ⟨rfl,F',p1.kept h4.size fun x hx=>h4.block x (p1.lt hx) fun e=>?_,fun x hx=>(p2 x hx).imp id fun h=>Nat.le_trans hb.size h,((Turn.below hb).trans p3 fun x _ h=>h).trans h4 fun x hl e=>?_⟩
 ·have e:x=g:=e
  rcases p2 x hx with h | h
  ·exact hg (e▸h)
  ·omega
 ·have e:x=g:=e
  omega
set_option maxHeartbeats 8000000 in
theorem zjm {w:World} {b:Nat} {d:RDisk} {F S:Nat→Prop} (h:DkOk w b d F) (hN:d.lasts.length+d.changes.length≤5000) {vs:List Value} {o:DOp} (ho:RdL w S DOp.ty vs o.enc) (hl:o.bytes.length≤1000000) (hS:∀ x,S x→¬ F x) :
  Calls Try.prog 10 #[ptrV b,.agg vs.toArray] w (DPost w b F (zaM d o).1 (.int .i64 (zaM d o).2)):=by
 obtain ⟨kind,file,at_,bytes,keep,by_⟩:=o
 obtain ⟨a3,c3,a4,c4,rfl,k0,k1,k2,k3,k4,k5⟩:=DOp.opens ho
 simp only at k0 k1 k2 k3 k4 k5 hl ⊢
 obtain ⟨w1,hw1⟩:∃ w1,w.alloc (.cells #[.int .i64 kind,.string file,.int .i64 at_,.slice a3 bytes.length c3,.slice a4 keep.length c4,.int .u8 by_] 32)=w1:=⟨_,rfl⟩
 have hb1:Below w.heap.size w w1:=by rw [← hw1];exact (Below.refl _ _).alloc (Nat.le_refl _) _
 have kx:Blk w1 w.heap.size 32 #[.int .i64 kind,.string file,.int .i64 at_,.slice a3 bytes.length c3,.slice a4 keep.length c4,.int .u8 by_]:=by rw [← hw1];exact Blk.new _ _ _
 have hd1:DkOk w1 b d F:=h.kept hb1.size fun x hx=>hb1.block x (h.lt hx)
 have hbs:BRd w1 (fun x=>S x∧x<w.heap.size) (.slice a3 bytes.length c3) bytes:=(show BRd w S (.slice a3 bytes.length c3) bytes from k3).here.same (Same.below hb1)
 have hkp:BlR w1 (fun x=>S x∧x<w.heap.size) (.slice a4 keep.length c4) keep:=(show BlR w S (.slice a4 keep.length c4) keep from k4).here.same (Same.below hb1)
 have HB1:=Lib.hid hb1
 have hxF:¬ F w.heap.size:=fun e=>by have:=h.lt e;omega
 have HXF:=Lib.hid hxF
 have HS:=Lib.hid hS
 have H0:=Lib.hid h
 have HKX:=Lib.hid kx
 obtain ⟨q0,q1,q2,q3,q4,q5⟩:=box6 kx
 have hfile:NmOk file:=k1
 have HBS:=Lib.hid hbs
 have HHL:=Lib.hid hl
 by_cases e1:kind=1
 ·subst e1
  have HLE:=Lib.hid (ziK hbs hl)
  have HWR:=Lib.hid (fun (w2:World) (hb2:Below w1.heap.size w1 w2) (hr:w2.heap[w1.heap.size]? = some (.cells (u8s (bytes++[165,90])).toArray TU (0,0)))=>ze6 (hd1.kept hb2.size fun x hx=>hb2.block x (hd1.lt hx)) hN (BRd.of_blk (S:=fun x=>x=w1.heap.size) hr rfl (Nat.le_add_right _ 2) (by unfold maxLen;omega) (by omega) rfl hbs.by fun i hi=>by
   unfold u8s
   rw [List.getElem?_map,List.getElem?_append_left hi]
   simp [List.getD,hi]) hl hfile k2)
  have hcall:zaM d ⟨1,file,at_,bytes,keep,by_⟩=wrD d file at_ bytes:=if_pos rfl
  rw [hcall]
  have hgF:¬ F w1.heap.size:=fun e=>by have:=hd1.lt e;omega
  have HGF:=Lib.hid hgF
  have HD1:=Lib.hid hd1
  clear h hd1 hbs hkp ho k3 k4 hb1 kx hxF hcall hgF hS
  unfold ptrV at HWR ⊢
  go_enter Try.func10,Try.ntmps10
  go_wp2_with (first
   | (go_at_call 26;refine HLE.out.mono ?_;rintro e w2 ⟨rfl,hr2,hb2⟩;have HR2:=Lib.hid hr2;have HB2:=Lib.hid hb2;have kx2:=HKX.out.next hb2;obtain ⟨q0,q1,q2,q3,q4,q5⟩:=box6 kx2;clear hr2 hb2 kx2)
   | (go_at_call 22;refine (HWR.out w2 HB2.out HR2.out).mono ?_;rintro e w3 ⟨rfl,F',p1,p2,p3⟩;have kx3:=p3.keep (HKX.out.next HB2.out) HXF.out;obtain ⟨q0,q1,q2,q3,q4,q5⟩:=box6 kx3;have HP1:=Lib.hid p1;have HP2:=Lib.hid p2;have HP3:=Lib.hid p3;have hr3:=p3.keep HR2.out HGF.out;have hbs3:=(HBS.out.same (Same.below HB2.out)).same (p3.same fun x hx=>HS.out x hx.1);have HBA:=Lib.hid (zj7 hr3 hbs3 HHL.out);clear p1 p2 p3 kx3 hr3 hbs3)
   | (go_at_call 27;refine HBA.out.mono ?_;rintro e w4 ⟨rfl,ht4⟩;have HT4:=Lib.hid ht4;clear ht4)
   | fail)
  go_ret
  exact DPost.back (HB1.out.trans (HB2.out.mono HB1.out.size)) HP1.out HP2.out HP3.out HT4.out HGF.out (by have:=(Array.getElem?_eq_some_iff.1 HR2.out).1;exact this) HB1.out.size
 by_cases e2:kind=2
 ·subst e2
  have HC:=Lib.hid (DPost.before_calls HB1.out (zji hd1 hN hfile k2))
  have hcall:zaM d ⟨2,file,at_,bytes,keep,by_⟩=cutD d file at_:=rfl
  rw [hcall]
  clear h hd1 hbs hkp ho k3 k4 hb1 kx hxF hcall hS
  unfold ptrV at HC ⊢
  go_enter Try.func10,Try.ntmps10
  go_wp2_with (first | (go_at_call 23;refine HC.out.mono ?_;rintro e w3 ⟨rfl,p⟩;have HP:=Lib.hid p;clear p) | fail)
  go_ret
  exact ⟨rfl,HP.out⟩
 by_cases e3:kind=3
 ·subst e3
  have HC:=Lib.hid (DPost.before_calls HB1.out (zhT hd1 hN hfile))
  have hcall:zaM d ⟨3,file,at_,bytes,keep,by_⟩=rmD d file:=rfl
  rw [hcall]
  clear h hd1 hbs hkp ho k3 k4 hb1 kx hxF hcall hS
  unfold ptrV at HC ⊢
  go_enter Try.func10,Try.ntmps10
  go_wp2_with (first | (go_at_call 24;refine HC.out.mono ?_;rintro e w3 ⟨rfl,p⟩;have HP:=Lib.hid p;clear p) | fail)
  go_ret
  exact ⟨rfl,HP.out⟩
 by_cases e4:kind=4
 ·subst e4
  have HC:=Lib.hid (DPost.before_calls HB1.out (zdw hd1 hN hfile))
  have hcall:zaM d ⟨4,file,at_,bytes,keep,by_⟩=syD d file:=rfl
  rw [hcall]
  clear h hd1 hbs hkp ho k3 k4 hb1 kx hxF hcall hS
  unfold ptrV at HC ⊢
  go_enter Try.func10,Try.ntmps10
  go_wp2_with (first | (go_at_call 12;refine HC.out.mono ?_;rintro e w3 ⟨rfl,p⟩;have HP:=Lib.hid p;clear p) | fail)
  go_ret
  exact ⟨rfl,HP.out⟩
 by_cases e5:kind=5
 ·subst e5
  have HC:=Lib.hid (DPost.before_calls HB1.out (zi1 hd1 at_))
  have hcall:zaM d ⟨5,file,at_,bytes,keep,by_⟩=zdg d at_:=rfl
  rw [hcall]
  clear h hd1 hbs hkp ho k3 k4 hb1 kx hxF hcall hS
  unfold ptrV at HC ⊢
  go_enter Try.func10,Try.ntmps10
  go_wp2_with (first | (go_at_call 21;refine HC.out.mono ?_;rintro e w3 ⟨rfl,p⟩;have HP:=Lib.hid p;clear p) | fail)
  go_ret
  exact ⟨rfl,HP.out⟩
 by_cases e6:kind=6
 ·subst e6
  have HC:=Lib.hid (DPost.before_calls HB1.out (zdy hd1 hN hkp k2))
  have hcall:zaM d ⟨6,file,at_,bytes,keep,by_⟩=(crD d keep at_,0):=rfl
  rw [hcall]
  clear h hd1 hbs hkp ho k3 k4 hb1 kx hxF hcall hS
  unfold ptrV at HC ⊢
  go_enter Try.func10,Try.ntmps10
  go_wp2_with (first | (go_at_call 14;refine HC.out.mono ?_;rintro e w3 ⟨rfl,p⟩;have HP:=Lib.hid p;clear p) | fail)
  go_ret
  exact ⟨rfl,HP.out⟩
 by_cases e7:kind=7
 ·subst e7
  have HC:=Lib.hid (DPost.before_calls HB1.out (zgY (y:=by_) hd1 hN hfile k2))
  have hcall:zaM d ⟨7,file,at_,bytes,keep,by_⟩=spD d file at_ by_:=rfl
  rw [hcall]
  clear h hd1 hbs hkp ho k3 k4 hb1 kx hxF hcall hS
  unfold ptrV at HC ⊢
  go_enter Try.func10,Try.ntmps10
  go_wp2_with (first | (go_at_call 25;refine HC.out.mono ?_;rintro e w3 ⟨rfl,p⟩;have HP:=Lib.hid p;clear p) | fail)
  go_ret
  exact ⟨rfl,HP.out⟩
 have hcall:zaM d ⟨kind,file,at_,bytes,keep,by_⟩=(d,0):=by unfold zaM;simp only;rw [if_neg e1,if_neg e2,if_neg e3,if_neg e4,if_neg e5,if_neg e6,if_neg e7]
 rw [hcall]
 have f1:(kind==1)=false:=by simpa using e1
 have f2:(kind==2)=false:=by simpa using e2
 have f3:(kind==3)=false:=by simpa using e3
 have f4:(kind==4)=false:=by simpa using e4
 have f5:(kind==5)=false:=by simpa using e5
 have f6:(kind==6)=false:=by simpa using e6
 have f7:(kind==7)=false:=by simpa using e7
 have HE:=Lib.hid (DPost.same (r:= .int .i64 0) h hb1)
 clear h hd1 hbs hkp ho k3 k4 hb1 kx hxF hcall hS e1 e2 e3 e4 e5 e6 e7
 unfold ptrV
 go_enter Try.func10,Try.ntmps10
 go_wp2_with fail
 go_ret
 exact HE.out
def dkM (d:RDisk):List BE:=[.dead,.dead,.obj (.disk d)]
theorem mdk (L:RDisk) (t:Nat):mOf (dkM L) t=if t<2 then .dead else if t=2 then .obj (.disk L) else .empty:=by
 match t with
 | 0=>rfl
 | 1=>rfl
 | 2=>rfl
 | t+3=>rw [zc7,if_neg (by omega),if_neg (by omega)];simp [dkM,List.getD]
theorem zbc {L:RDisk} {t:Nat} (h:(mOf (dkM L) t).live=true):t=2:=by
 rw [mdk] at h
 by_cases h1:t<2
 ·rw [if_pos h1] at h;cases h
 ·rw [if_neg h1] at h
  by_cases h2:t=2
  ·exact h2
  ·rw [if_neg h2] at h;cases h
theorem zjN {E:Env} {L:RDisk} {b:Nat} (h:Has E (mOf (dkM L)) 2 b):E.φ 2 b:=by
 obtain ⟨_,v,_,hf⟩:=h
 exact hf
theorem zhW {E:Env} {L:RDisk} {b:Nat} {v:Value} (hv:E.β 2=some v) (h:E.φ 2 b):Has E (mOf (dkM L)) 2 b:=⟨rfl,v,hv,h⟩
theorem zkV {E:Env} {w w':World} {L L':RDisk} {b:Nat} {F':Nat→Prop} (hm:MemOk w.heap.size (cxIn E (dkM L) 1) w E (mOf (dkM L)) w) (hb:E.β 2=some (.pointer (some ⟨b,0,none⟩))) (hc:DkOk w' b L' F') (hF:∀ x,F' x→E.φ 2 x∨w.heap.size≤x) (ht:Turn (E.φ 2) w w') :
  MemOk w.heap.size (cxIn E (dkM L) 1) w ⟨E.β,E.σ,fun t=>if t=2 then F' else E.φ t⟩ (mOf (dkM L')) w':=by
 have hlab:∀ i x,E.σ i x→x<w.heap.size:=fun i x h=>(hm.lab i x h).1
 have hh:∀ {t x:Nat},Has (⟨E.β,E.σ,fun t=>if t=2 then F' else E.φ t⟩:Env) (mOf (dkM L')) t x→t=2∧F' x:=fun {t x} h=>by
  have e:=zbc h.1
  subst e
  have:=zjN h
  exact ⟨rfl,by simpa using this⟩
 refine ⟨fun t hte=>?_,fun t T vs hte=>?_,fun t T ls r hte=>?_,fun i x h=>⟨Nat.lt_of_lt_of_le (hlab i x h) ht.size,(hm.lab i x h).2⟩,hm.dis,fun i hi=>?_,fun t x h=>?_,hm.old,fun t u x h1 h2=>(hh h1).1.trans (hh h2).1.symm,hm.keep,⟨ht.os,ht.tape,ht.output,ht.size,fun x hx hn=>ht.block x hx fun g=>hn ⟨2,zhW hb g⟩⟩,ht.size,fun t o hte=>?_⟩
 ·have:mOf (dkM L) t = .empty:=by
   rw [mdk] at hte ⊢
   by_cases h1:t<2
   ·rw [if_pos h1] at hte;cases hte
   ·rw [if_neg h1] at hte ⊢
    by_cases h2:t=2
    ·rw [if_pos h2] at hte;cases hte
    ·rw [if_neg h2]
  exact hm.empty t this
 ·have:=zbc (L:=L') (t:=t) (by rw [hte];rfl)
  subst this;cases hte
 ·have:=zbc (L:=L') (t:=t) (by rw [hte];rfl)
  subst this;cases hte
 ·have:i=0:=by
   have:i<1:=hi
   omega
  subst this
  rw [mdk];simp
 ·obtain ⟨rfl,hx⟩:=hh h
  rcases hF x hx with g | g
  ·exact hm.sep 2 x (zhW hb g)
  ·exact ⟨fun ⟨i,hi⟩=>by have:=hlab i x hi;omega,.inl g⟩
 ·have:=zbc (L:=L') (t:=t) (by rw [hte];rfl)
  subst this
  have e:BE.obj (.disk L') = .obj o:=hte
  cases e
  refine ⟨b,hb,?_⟩
  show DkOk w' b L' (if 2=2 then F' else E.φ 2)
  rw [if_pos rfl];exact hc
theorem FnG.of_dk {f:FuncId} {L L':RDisk} {rest:List SV} {n:Int} (hB:FnB Try.prog f) (hn:I64 n)
  (h:∀ (w:World) (b:Nat) (F:Nat→Prop) (E:Env) (vals:List Value),DkOk w b L F→DenL E w rest vals→(∀ x,E.lab x→¬ F x)→Calls Try.prog f ((ptrV b::vals:List Value)).toArray w (DPost w b F L' (.int .i64 n))) :
  FnG Try.prog f 1 (dkM L) (.ptr 2 0::rest) (.int .i64 n) (dkM L'):=by
 refine ⟨hB,fun w E vals hm hd=>?_⟩
 match vals,hd with
 | v::vals,hd=>
  obtain ⟨b,hb,rfl⟩:=hd.1
  obtain ⟨b',hb',hc⟩:=hm.obj 2 _ rfl
  rw [hb] at hb'
  cases hb'
  refine Calls.mono (h w b (E.φ 2) E vals hc hd.2 fun x hx hf=>(hm.sep 2 x (zhW hb hf)).1 hx) ?_
  rintro e w' ⟨rfl,F',hc',hF,ht⟩
  exact ⟨_,_,rfl,⟨rfl,zcP hn⟩,zkV hm hb hc' hF ht⟩
def zkD:Mem RDisk:=⟨dkM,fun m=>match m with | [.dead,.dead,.obj (.disk d)]=>some d | _=>none,fun m x h=>by
 split at h
 ·simp only [Option.some.injEq] at h;subst h;rfl
 ·cases h⟩
theorem zaH {α:Type} {c:Prop} [Decidable c] {x y:α×Int} (hx:I64 x.2) (hy:I64 y.2):I64 (if c then x else y).2:=by
 by_cases h:c
 ·rw [if_pos h];exact hx
 ·rw [if_neg h];exact hy
theorem zke (d:RDisk) (n:ByteArray) (k:Int) (b:List Int):I64 (wrD d n k b).2:=by
 unfold wrD
 repeat' refine zaH ?_ ?_
 all_goals (refine ⟨?_,?_⟩<;>(dsimp only;omega))
theorem zjk (d:RDisk) (n:ByteArray) (k:Int):I64 (cutD d n k).2:=by
 unfold cutD
 repeat' refine zaH ?_ ?_
 all_goals (refine ⟨?_,?_⟩<;>(dsimp only;omega))
theorem zhd (d:RDisk) (n:ByteArray):I64 (rmD d n).2:=by
 unfold rmD
 repeat' refine zaH ?_ ?_
 all_goals (refine ⟨?_,?_⟩<;>(dsimp only;omega))
theorem zgV (d:RDisk) (n:ByteArray):I64 (syD d n).2:=by
 unfold syD
 repeat' refine zaH ?_ ?_
 all_goals (refine ⟨?_,?_⟩<;>(dsimp only;omega))
theorem zgX (d:RDisk) (k:Int):I64 (zdg d k).2:=by
 unfold zdg
 repeat' refine zaH ?_ ?_
 all_goals (refine ⟨?_,?_⟩<;>(dsimp only;omega))
theorem zkp (d:RDisk) (n:ByteArray) (k y:Int):I64 (spD d n k y).2:=by
 unfold spD
 repeat' refine zaH ?_ ?_
 all_goals (refine ⟨?_,?_⟩<;>(dsimp only;omega))
theorem zhh (d:RDisk) (n:ByteArray):I64 (zbe d n).2:=by
 unfold zbe
 exact zaH ⟨by dsimp only;omega,by dsimp only;omega⟩ ⟨by dsimp only;omega,by dsimp only;omega⟩
theorem zie (d:RDisk) (o:DOp):I64 (zaM d o).2:=
 zaH (zke ..) (zaH (zjk ..) (zaH (zhd ..) (zaH (zgV ..) (zaH (zgX ..) (zaH (by show I64 0;decide) (zaH (zkp ..) (by show I64 0;decide)))))))
abbrev FewD (d:RDisk):Prop:=d.lasts.length+d.changes.length≤5000
theorem zlb {d:RDisk} (hN:FewD d) (o:DOp) (hl:o.bytes.length≤1000000):FnG Try.prog 10 1 (dkM d) [.ptr 2 0,dDOp.can o] (.int .i64 (zaM d o).2) (dkM (zaM d o).1):=
 FnG.of_dk (fnB Try.func10 (by decide) rfl) (zie d o) fun w b F E vals hc hd hS=>by
  match vals,hd with
  | [v],hd=>
   obtain ⟨xs,rfl,hl2⟩:=hd.1
   exact zjm hc hN (DOp.svs_rd hl2) hl fun x hx=>hS x (Env.set_lab hx)
theorem drm_fn {d:RDisk} (hN:FewD d) (n:ByteArray):FnG Try.prog 24 1 (dkM d) [.ptr 2 0,dStr.can n] (.int .i64 (rmD d n).2) (dkM (rmD d n).1):=
 FnG.of_dk (fnB Try.func24 (by decide) rfl) (zhd d n) fun w b F E vals hc hd hS=>by
  match vals,hd with
  | [u],hd=>
   obtain rfl:u = .string n:=hd.1.1
   exact zhT hc hN hd.1.2
theorem zja {d:RDisk} (hN:FewD d) (n:ByteArray):FnG Try.prog 12 1 (dkM d) [.ptr 2 0,dStr.can n] (.int .i64 (syD d n).2) (dkM (syD d n).1):=
 FnG.of_dk (fnB Try.func12 (by decide) rfl) (zgV d n) fun w b F E vals hc hd hS=>by
  match vals,hd with
  | [u],hd=>
   obtain rfl:u = .string n:=hd.1.1
   exact zdw hc hN hd.1.2
theorem zhY {d:RDisk} (hN:FewD d) (keep:List Bool) (k:Int):FnG Try.prog 14 1 (dkM d) [.ptr 2 0,dBools.can keep,dInt.can k] (.int .i64 0) (dkM (crD d keep k)):=
 FnG.of_dk (fnB Try.func14 (by decide) rfl) (by decide) fun w b F E vals hc hd hS=>by
  match vals,hd with
  | [u,v],hd=>
   have hr:Rd w (E.set [0]) (.sl [.bool]) u (.sl (bools keep)):=hd.1
   obtain rfl:v = .int .i64 k:=hd.2.1.1
   exact zdy hc hN hr (dInt.okp _ _ _ _ hd.2.1)
noncomputable def zlV:Ent:=zkQ 10 zkD dDOp [] [] fun d o=>([FewD d,o.bytes.length≤1000000],.int .i64 (zaM d o).2,dkM (zaM d o).1)
theorem ziZ:zaS Try.prog zlV:=zfZ (fnB Try.func10 (by decide) rfl) fun d o h=>zlb (h (FewD d) (by simp)) o (h (o.bytes.length≤1000000) (by simp))
noncomputable def zjT:Ent:=zkQ 12 zkD dStr [] [] fun d n=>([FewD d],.int .i64 (syD d n).2,dkM (syD d n).1)
theorem zhN:zaS Try.prog zjT:=zfZ (fnB Try.func12 (by decide) rfl) fun d n h=>zja (h (FewD d) (by simp)) n
noncomputable def zhR:Ent:=zlU 14 zkD dBools dInt [] [] fun d l k=>([FewD d],.int .i64 0,dkM (crD d l k))
theorem zgE:zaS Try.prog zhR:=ziY (fnB Try.func14 (by decide) rfl) fun d l k h=>zhY (h (FewD d) (by simp)) l k
def dDk:Dec RDisk where
 dec:=fun s=>match s with | .ro _ (.disk d)=>some d | _=>none
 can:=fun d=> .ro [0] (.disk d)
 Okp:=fun _=>True
 okp:=fun _ _ _ _ _=>trivial
 ok:=by
  intro s x h E w v hz hd
  split at h
  ·simp only [Option.some.injEq] at h;subst h
   obtain ⟨b,F,h1,h2,h3⟩:=hd
   exact ⟨b,F,h1,h2,fun y hy=>by
    obtain ⟨i,_,hs⟩:=h3 y hy
    exact ⟨0,by simp,(hz i y hs)▸hs⟩⟩
  ·simp at h
theorem zkS (d:RDisk):FnC Try.prog 15 [dDk.can d] (.bool d.down) D2:=by
 refine FnC.of_below (fnB Try.func15 (by decide) rfl) fun w E vals hd=>?_
 match vals,hd with
 | [v],hd=>
  obtain ⟨b,F,rfl,hc,_⟩:=hd.1
  exact (zjc hc).mono fun e w' ⟨he,hb⟩=>⟨_,he,hb,fun E' _ _=>rfl⟩
theorem zky (d:RDisk) (n:ByteArray):FnC Try.prog 11 [dDk.can d,dStr.can n] (.tup [.sl [1] (.rBytes (zbe d n).1),.int .i64 (zbe d n).2]) D2:=by
 refine FnC.of_below (fnB Try.func11 (by decide) rfl) fun w E vals hd=>?_
 match vals,hd with
 | [v,x],hd=>
  obtain ⟨b,F,rfl,hc,_⟩:=hd.1
  obtain rfl:x = .string n:=hd.2.1.1
  refine (zdZ hc hd.2.1.2).mono ?_
  rintro e w' ⟨u,rfl,hb,hr⟩
  refine ⟨_,rfl,hb,fun E' _ hs=>⟨[u,.int .i64 (zbe d n).2],rfl,hr.mono fun x hx h=>⟨1,by simp,hs x h hx⟩,⟨rfl,zcP (zhh d n)⟩,trivial⟩⟩
noncomputable def zjW:Ent:=ent1 15 dDk fun d=>([],.bool d.down,D2)
theorem zhQ:zaS Try.prog zjW:=zes (fnB Try.func15 (by decide) rfl) fun d _=>zkS d
noncomputable def zjU:Ent:=ent2 11 dDk dStr fun d n=>([],.tup [.sl [1] (.rBytes (zbe d n).1),.int .i64 (zbe d n).2],D2)
theorem zhO:zaS Try.prog zjU:=zhK (fnB Try.func11 (by decide) rfl) fun d n _=>zky d n
theorem zkU {room:Int} (h0:1≤room) (h1:room≤4194304):FnC Try.prog 9 [dInt.can room] (.tup [.ptr 2 0,.int .i64 0]) (dkM (zbz room)):=by
 refine ⟨fnB Try.func9 (by decide) rfl,fun w E vals hm hd=>?_⟩
 match vals,hd with
 | [v],hd=>
  obtain rfl:v = .int .i64 room:=hd.1.1
  refine Calls.mono (zgb h0 h1) ?_
  rintro e w' ⟨b,F,rfl,hc,hF,hB⟩
  have hlab:∀ i x,E.σ i x→x<w.heap.size:=fun i x h=>(hm.lab i x h).1
  refine ⟨_,⟨fun t=>if t=2 then some (.pointer (some ⟨b,0,none⟩)) else E.β t,E.σ,fun t=>if t=2 then F else E.φ t⟩,rfl,⟨[ptrV b,.int .i64 0],rfl,⟨b,rfl,rfl⟩,⟨rfl,by decide⟩,trivial⟩,?_⟩
  have hno:∀ {E:Env} {t x:Nat},¬ Has E (mOf D2) t x:=fun h=>zff h
  have hh:∀ {t x:Nat},Has (⟨fun t=>if t=2 then some (.pointer (some ⟨b,0,none⟩)) else E.β t,E.σ,fun t=>if t=2 then F else E.φ t⟩:Env) (mOf (dkM (zbz room))) t x→t=2∧F x:=fun {t x} h=>by
   have e:=zbc h.1
   subst e
   have:=zjN h
   exact ⟨rfl,by simpa using this⟩
  refine ⟨fun t hte=>?_,fun t T vs hte=>?_,fun t T ls r hte=>?_,fun i x h=>⟨Nat.lt_of_lt_of_le (hlab i x h) hB.size,(hm.lab i x h).2⟩,hm.dis,fun i hi=>?_,fun t x h=>?_,hm.old,fun t u x h1 h2=>(hh h1).1.trans (hh h2).1.symm,fun t v hk=>?_,⟨hB.os,hB.tape,hB.output,hB.size,fun x hx _=>hB.block x hx⟩,hB.size,fun t o hte=>?_⟩
  ·have h3:¬ t=2:=fun e=>by subst e;cases hte
   have:mOf D2 t = .empty:=by
    rw [mdk] at hte
    by_cases h1:t<2
    ·rw [if_pos h1] at hte;cases hte
    ·rw [mD2,if_neg h1]
   have h4:=hm.empty t this
   exact ⟨by show (if t=2 then _ else E.β t)=none;rw [if_neg h3];exact h4.1,h4.2⟩
  ·have:=zbc (L:=zbz room) (t:=t) (by rw [hte];rfl)
   subst this;cases hte
  ·have:=zbc (L:=zbz room) (t:=t) (by rw [hte];rfl)
   subst this;cases hte
  ·have:i=0:=by
    have:i<1:=hi
    omega
   subst this
   rw [mdk];simp
  ·obtain ⟨rfl,hx⟩:=hh h
   have:=hF x hx
   exact ⟨fun ⟨i,hi⟩=>by have:=hlab i x hi;omega,.inl this⟩
  ·have hk2:=hm.keep t v hk
   have hk:(if t<2 then E.β t else none)=some v:=hk
   have h3:¬ t=2:=fun e=>by subst e;simp at hk
   show (if t=2 then _ else E.β t)=some v
   rw [if_neg h3];exact hk2
  ·have:=zbc (L:=zbz room) (t:=t) (by rw [hte];rfl)
   subst this
   have e:BE.obj (.disk (zbz room)) = .obj o:=hte
   cases e
   refine ⟨b,by simp,?_⟩
   show DkOk w' b (zbz room) (if 2=2 then F else E.φ 2)
   rw [if_pos rfl];exact hc
theorem zje {room:Int} (h:room<1∨room>4194304):FnC Try.prog 9 [dInt.can room] (.tup [.np,.int .i64 1]) D2:=by
 refine FnC.of_below (fnB Try.func9 (by decide) rfl) fun w E vals hd=>?_
 match vals,hd with
 | [v],hd=>
  obtain rfl:v = .int .i64 room:=hd.1.1
  refine (zhV h).mono ?_
  rintro e w' ⟨rfl,rfl⟩
  exact ⟨_,rfl,Below.refl _ _,fun E' _ _=>⟨[.pointer none,.int .i64 1],rfl,rfl,⟨rfl,by decide⟩,trivial⟩⟩
noncomputable def zjV:Ent:=ent1 9 dInt fun n=>bif decide (1≤n)&&decide (n≤4194304) then ([],.tup [.ptr 2 0,.int .i64 0],dkM (zbz n)) else ([],.tup [.np,.int .i64 1],D2)
theorem zhP:zaS Try.prog zjV:=zes (fnB Try.func9 (by decide) rfl) fun n _=>by
 by_cases h:1≤n∧n≤4194304
 ·have e:(decide (1≤n)&&decide (n≤4194304))=true:=by simp [h.1,h.2]
  rw [e]
  exact zkU h.1 h.2
 ·have e:(decide (1≤n)&&decide (n≤4194304))=false:=by
   rw [Bool.and_eq_false_iff,decide_eq_false_iff_not,decide_eq_false_iff_not];omega
  rw [e]
  exact zje (by omega)
end Go.Proofs.Ytfccndnnpkiajaa
namespace Go.Proofs.Ytfccndnnpkiajaa
open Go.RowKit Go.ChangeShapes Go.WideShapes Go.Deep
set_option maxRecDepth 100000
theorem zeg (n:ByteArray):leN n n=true:=zg2 (zat n)
section
variable {n : ByteArray}
theorem aw1 (hn:zb8 n=true):wrD (zbz 10) n 0 [97,98,99]=(⟨10,[],[⟨1,n,0,[97,98,99]⟩],false,false,0⟩,0):=by
 simp [wrD,zbz,zad,hn,za1,za4,zag,zax,za6,sumF,chgD,zbR]
theorem aw2 (hn:zb8 n=true):syD ⟨10,[],[⟨1,n,0,[97,98,99]⟩],false,false,0⟩ n=(⟨10,[⟨n,[97,98,99]⟩],[],false,false,0⟩,0):=by
 simp [syD,hn,ofF,zat,za1,za4,zag,zax,za6,zbR]
theorem aw3 (hn:zb8 n=true):wrD ⟨10,[⟨n,[97,98,99]⟩],[],false,false,0⟩ n 3 [100,101]=(⟨10,[⟨n,[97,98,99]⟩],[⟨1,n,3,[100,101]⟩],false,false,0⟩,0):=by
 simp [wrD,zad,hn,za1,za4,zag,zax,za6,sumF,chgD,zbR,zat,zeg,List.range_succ]
theorem aw4 (hn:zb8 n=true):wrD ⟨10,[⟨n,[97,98,99]⟩],[⟨1,n,3,[100,101]⟩],false,false,0⟩ n 5 [102,103]=(⟨10,[⟨n,[97,98,99]⟩],[⟨1,n,3,[100,101]⟩,⟨1,n,5,[102,103]⟩],false,false,0⟩,0):=by
 simp [wrD,zad,hn,za1,za4,zag,zax,za6,sumF,chgD,zbR,zat,zeg,List.range_succ]
theorem aw5:crD ⟨10,[⟨n,[97,98,99]⟩],[⟨1,n,3,[100,101]⟩,⟨1,n,5,[102,103]⟩],false,false,0⟩ [false,true] (-1)=⟨10,[⟨n,[97,98,99,0,0,102,103]⟩],[],false,false,0⟩:=by
 simp [crD,zaD,zdL,zbY,za1,za4,zag,zax,za6,zat,zeg,List.range_succ]
theorem aw6:zbe ⟨10,[⟨n,[97,98,99,0,0,102,103]⟩],[],false,false,0⟩ n=([97,98,99,0,0,102,103],0):=by
 simp [zbe,zad,za1,za4,zat]
end
def nmA:ByteArray:=⟨#[97]⟩
theorem zfQ:zb8 nmA=true:=by decide
structure AwS (w wk:World) (b:Nat) (d:RDisk):Prop where
 o:∃ F,DkOk wk b d F∧(∀ x,F x→w.heap.size≤x)∧Below w.heap.size w wk
theorem AwS.below {w wk w':World} {b:Nat} {d:RDisk} (h:AwS w wk b d) (hb:Below wk.heap.size wk w'):AwS w w' b d:=by
 obtain ⟨F,h1,h2,h3⟩:=h.o
 exact ⟨F,h1.kept hb.size fun x hx=>hb.block x (h1.lt hx),h2,h3.trans (hb.mono h3.size)⟩
theorem AwS.call {w wk:World} {b:Nat} {d d':RDisk} {f:FuncId} {vals:Array Value} {r:Value} (h:AwS w wk b d) (con:∀ F,DkOk wk b d F→Calls Try.prog f vals wk (DPost wk b F d' r)):Calls Try.prog f vals wk fun e w'=>e = .returned r∧AwS w w' b d':=by
 obtain ⟨F,h1,h2,h3⟩:=h.o
 refine (con F h1).mono fun e w' ⟨he,F',p1,p2,p3⟩=>⟨he,F',p1,fun x hx=>?_,⟨p3.os.trans h3.os,p3.tape.trans h3.tape,p3.output.trans h3.output,Nat.le_trans h3.size p3.size,fun x hx=>?_⟩⟩
 ·rcases p2 x hx with g | g
  ·exact h2 x g
  ·exact Nat.le_trans h3.size g
 ·exact (p3.block x (Nat.lt_of_lt_of_le hx h3.size) fun g=>by have:=h2 x g;omega).trans (h3.block x hx)
theorem zkE (w:World) (l:List Int) (hB:By l) (hl:l.length≤1000):BRd (w.alloc (.cells (u8s l).toArray TU (l.length,l.length+1))) (fun x=>x=w.heap.size) (.slice (some ⟨w.heap.size,0,none⟩) l.length l.length) l:=by
 have hh:(w.alloc (.cells (u8s l).toArray TU (l.length,l.length+1))).heap[w.heap.size]? = some (.cells (u8s l).toArray TU (l.length,l.length+1)):=by
  show (w.heap.push _)[w.heap.size]? = _
  simp
 refine BRd.of_row rfl (Nat.le_refl _) (by unfold maxLen;omega) (by omega) rfl (by simp) hB fun i hi=>⟨?_,?_⟩
 ·rw [Nat.zero_add]
  simp only [World.cell?,hh,List.getElem?_toArray,zde hi];rfl
 ·rw [Nat.zero_add]
  simp only [World.frozen?,hh]
  simp
  omega
theorem zlJ (w:World) (l:List Bool) (hp:0<l.length) (hl:l.length≤1000):BlR (w.alloc (.cells (l.map Value.bool).toArray 4)) (fun x=>x=w.heap.size) (.slice (some ⟨w.heap.size,0,none⟩) l.length l.length) l:=by
 have hh:(w.alloc (.cells (l.map Value.bool).toArray 4)).heap[w.heap.size]? = some (.cells (l.map Value.bool).toArray 4 (0,0)):=by
  show (w.heap.push _)[w.heap.size]? = _
  simp
 refine Rd.row (fun i _=> .bool (l.getD i false)) hp (List.length_map ..).symm (Nat.le_refl _) (by unfold maxLen;omega) (by omega) rfl (by simp) (fun i j hi hj=>?_) (fun i hi=>?_) (fun i j hi hj=>?_) (fun i j hi hj=>?_)
 ·have:j=0:=by simp at hj;omega
  subst this
  simp only [List.length_cons,List.length_nil,Nat.zero_add,Nat.mul_one,Nat.add_zero]
  simp only [World.cell?,hh]
  simp [List.getD,hi]
 ·simp [List.getD,hi]
 ·have:j=0:=by simp at hj;omega
  subst this
  have e1:((l.map fun b=>[D.bool b]).getD i []).getD 0 default = .bool (l.getD i false):=by simp [List.getD,hi]
  rw [e1]
  exact Rd.bool
 ·have:j=0:=by simp at hj;omega
  subst this
  simp only [World.frozen?,hh]
  simp
abbrev dA0:RDisk:=zbz 10
abbrev dA1:RDisk:=⟨10,[],[⟨1,nmA,0,[97,98,99]⟩],false,false,0⟩
abbrev dA2:RDisk:=⟨10,[⟨nmA,[97,98,99]⟩],[],false,false,0⟩
abbrev dA3:RDisk:=⟨10,[⟨nmA,[97,98,99]⟩],[⟨1,nmA,3,[100,101]⟩],false,false,0⟩
abbrev dA4:RDisk:=⟨10,[⟨nmA,[97,98,99]⟩],[⟨1,nmA,3,[100,101]⟩,⟨1,nmA,5,[102,103]⟩],false,false,0⟩
abbrev dA5:RDisk:=⟨10,[⟨nmA,[97,98,99,0,0,102,103]⟩],[],false,false,0⟩
theorem ze3 {w wk:World} {b:Nat} {d d':RDisk} {k:Int} {l:List Int} (h:AwS w wk b d) (hN:FewD d) (hB:By l) (hl:l.length≤1000) (hk:I64 k) (he:wrD d nmA k l=(d',0)) :
  Calls Try.prog 22 #[ptrV b,.string nmA,.int .i64 k,.slice (some ⟨wk.heap.size,0,none⟩) l.length l.length] (wk.alloc (.cells (u8s l).toArray TU (l.length,l.length+1))) fun e w'=>e = .returned (.int .i64 0)∧AwS w w' b d':=by
 have h1:AwS w (wk.alloc (.cells (u8s l).toArray TU (l.length,l.length+1))) b d:=h.below ((Below.refl _ _).alloc (Nat.le_refl _) _)
 refine h1.call fun F hd=>?_
 have:=ze6 hd hN (zkE wk l hB hl) (by omega) (n:=nmA) (by decide) hk
 rw [he] at this
 exact this
set_option maxHeartbeats 4000000 in
theorem zio (w:World):Calls Try.prog 13 #[] w fun e w'=>e = .returned (.bool true)∧Below w.heap.size w w':=by
 have hcv:=fun (w:World) (C:Array Value) (n c:Nat)=>Lib.run_convert_bytes_const (P:=Try.prog) w TBy TU C n c (by kernel_rfl) (by kernel_rfl)
 have C0:=Lib.hid (zgb (w:=w) (room:=10) (by decide) (by decide))
 have C1:=Lib.hid (fun w1=>zhV (w:=w1) (room:=0) (.inl (by decide)))
 have C2:=Lib.hid (fun (wk:World) (b:Nat) (h:AwS w wk b dA0)=>(show Calls Try.prog 22 #[.pointer (some ⟨b,0,none⟩),.string ⟨#[97]⟩,.int .i64 0,.slice (some ⟨wk.heap.size,0,none⟩) 3 3] (wk.alloc (.cells #[.int .u8 97,.int .u8 98,.int .u8 99] TU (3,4))) fun e w'=>e = .returned (.int .i64 0)∧AwS w w' b dA1 from ze3 h (by decide) (l:=[97,98,99]) (by intro x hx;simp at hx;omega) (by decide) (by decide) (aw1 zfQ)))
 have C3:=Lib.hid (fun (wk:World) (b:Nat) (h:AwS w wk b dA1)=>(show Calls Try.prog 12 #[.pointer (some ⟨b,0,none⟩),.string ⟨#[97]⟩] (wk) fun e w'=>e = .returned (.int .i64 0)∧AwS w w' b dA2 from h.call (d':=dA2) (r:= .int .i64 0) fun F hd=>by
  have:=zdw hd (by decide) (n:=nmA) (by decide)
  rw [aw2 zfQ] at this
  exact this))
 have C4:=Lib.hid (fun (wk:World) (b:Nat) (h:AwS w wk b dA2)=>(show Calls Try.prog 22 #[.pointer (some ⟨b,0,none⟩),.string ⟨#[97]⟩,.int .i64 3,.slice (some ⟨wk.heap.size,0,none⟩) 2 2] (wk.alloc (.cells #[.int .u8 100,.int .u8 101] TU (2,3))) fun e w'=>e = .returned (.int .i64 0)∧AwS w w' b dA3 from ze3 h (by decide) (l:=[100,101]) (by intro x hx;simp at hx;omega) (by decide) (by decide) (aw3 zfQ)))
 have C5:=Lib.hid (fun (wk:World) (b:Nat) (h:AwS w wk b dA3)=>(show Calls Try.prog 22 #[.pointer (some ⟨b,0,none⟩),.string ⟨#[97]⟩,.int .i64 5,.slice (some ⟨wk.heap.size,0,none⟩) 2 2] (wk.alloc (.cells #[.int .u8 102,.int .u8 103] TU (2,3))) fun e w'=>e = .returned (.int .i64 0)∧AwS w w' b dA4 from ze3 h (by decide) (l:=[102,103]) (by intro x hx;simp at hx;omega) (by decide) (by decide) (aw4 zfQ)))
 have C6:=Lib.hid (fun (wk:World) (b:Nat) (h:AwS w wk b dA4)=>(show Calls Try.prog 14 #[.pointer (some ⟨b,0,none⟩),.slice (some ⟨wk.heap.size,0,none⟩) 2 2,.int .i64 (-1)] (wk.alloc (.cells #[.bool false,.bool true] 4)) fun e w'=>e = .returned (.int .i64 0)∧AwS w w' b dA5 from (h.below ((Below.refl _ _).alloc (Nat.le_refl _) (.cells #[.bool false,.bool true] 4))).call (d':=dA5) (r:= .int .i64 0) fun F hd=>by
  have:=zdy hd (by decide) (zlJ wk [false,true] (by decide) (by decide)) (torn:= -1) (by decide)
  rw [aw5] at this
  exact this))
 have C7:=Lib.hid (fun (wk:World) (b:Nat) (h:AwS w wk b dA5)=>(show Calls Try.prog 11 #[.pointer (some ⟨b,0,none⟩),.string ⟨#[97]⟩] wk fun e w'=>∃ u,e = .returned (.tuple #[u,.int .i64 0])∧(convert TBy TSt u).run Try.prog w' = .ok (.string ⟨#[97,98,99,0,0,102,103]⟩) w'∧Below w.heap.size w w' from by
  obtain ⟨F,h1,h2,h3⟩:=h.o
  refine (zdZ h1 (n:=nmA) (by decide)).mono ?_
  rintro e w' ⟨u,rfl,hb,hr⟩
  rw [aw6] at hr ⊢
  exact ⟨u,rfl,zex hr,h3.trans (hb.mono h3.size)⟩))
 unfold ptrV at C0
 go_enter Try.func13,Try.ntmps13
 go_wp2_with (first
  | (go_at_call 9;with_reducible refine C0.out.mono ?_;rintro e w1 ⟨b,F,rfl,h1,h2,h3⟩;have S0:=Lib.hid (⟨F,h1,h2,h3⟩:AwS w w1 b dA0);clear h1 h2 h3)
  | (go_at_call 9;with_reducible refine (C1.out _).mono ?_;rintro e w2 ⟨rfl,rfl⟩)
  | (go_at_call 22;with_reducible refine (C2.out _ _ S0.out).mono ?_;rintro e w3 ⟨rfl,h⟩;have S1:=Lib.hid h;clear h)
  | (go_at_call 12;with_reducible refine (C3.out _ _ S1.out).mono ?_;rintro e w4 ⟨rfl,h⟩;have S2:=Lib.hid h;clear h)
  | (go_at_call 22;with_reducible refine (C4.out _ _ S2.out).mono ?_;rintro e w5 ⟨rfl,h⟩;have S3:=Lib.hid h;clear h)
  | (go_at_call 22;with_reducible refine (C5.out _ _ S3.out).mono ?_;rintro e w6 ⟨rfl,h⟩;have S4:=Lib.hid h;clear h)
  | (go_at_call 14;with_reducible refine (C6.out _ _ S4.out).mono ?_;rintro e w7 ⟨rfl,h⟩;have S5:=Lib.hid h;clear h)
  | (go_at_call 11;with_reducible refine (C7.out _ _ S5.out).mono ?_;rintro e w8 ⟨u,rfl,hcu,h⟩;have S6:=Lib.hid h;clear h)
  | fail)
 go_ret
 exact ⟨rfl,S6.out⟩
theorem awake_fn:FnC Try.prog 13 [] (.bool true) D2:=
 FnC.of_below (fnB Try.func13 (by decide) rfl) fun w E vals hd=>by
  match vals,hd with
  | [],hd=>exact (zio w).mono fun e w' ⟨he,hb⟩=>⟨_,he,hb,fun _ _ _=>rfl⟩
noncomputable def zjX:Ent:=ent0 13 ([],.bool true,D2)
theorem zhS:zaS Try.prog zjX:=zkR awake_fn.1 fun _=>awake_fn
end Go.Proofs.Ytfccndnnpkiajaa
namespace Go.Proofs.Ytfccndnnpkiajaa
open Go.RowKit Go.ChangeShapes Go.WideShapes Go.Deep
def zd2 (d:RDisk):Nat:=d.lasts.length+d.changes.length
def Gr (d d':RDisk):Prop:=zd2 d'≤zd2 d+1∧d'.changes.length≤d.changes.length+1
theorem Gr.refl (d:RDisk):Gr d d:=⟨Nat.le_succ _,Nat.le_succ _⟩
theorem Gr.of {d d':RDisk} (h1:d'.lasts.length=d.lasts.length) (h2:d'.changes.length≤d.changes.length+1):Gr d d':=⟨by unfold zd2;omega,h2⟩
theorem zid (d:RDisk) (c:DChange):Gr d (chgD d c):=Gr.of rfl (by simp [chgD,zbR])
theorem za8 {d:RDisk} {c:Prop} [Decidable c] {x y:RDisk×Int} (hx:Gr d x.1) (hy:Gr d y.1):Gr d (if c then x else y).1:=by
 by_cases h:c
 ·rw [if_pos h];exact hx
 ·rw [if_neg h];exact hy
theorem zcN {α:Type} (p:α→Bool):∀ l:List α,(l.filter p).length+(l.filter fun x=>!p x).length=l.length
 | []=>rfl
 | x::l=>by
  have:=zcN p l
  cases h:p x<;>simp [List.filter_cons,h]<;>omega
theorem zl6 (d:RDisk) (n:ByteArray):Gr d (syD d n).1:=by
 unfold syD
 refine za8 (Gr.refl d) (za8 (Gr.refl d) ?_)
 have h1:=zaY (d.changes.filter (ofF n)) d.lasts
 have h2:=zcN (ofF n) d.changes
 refine ⟨?_,?_⟩
 ·show ((d.changes.filter (ofF n)).foldl zag d.lasts).length+(d.changes.filter fun c=>!ofF n c).length≤d.lasts.length+d.changes.length+1
  omega
 ·show (d.changes.filter fun c=>!ofF n c).length≤_
  omega
theorem cr_gr (d:RDisk) (keep:List Bool) (torn:Int):Gr d (crD d keep torn):=by
 rw [zgc]
 have h1:=zaY (crK torn (zaD d.changes keep)) d.lasts
 have h2:=zfw torn (zaD d.changes keep)
 have h3:=zcq d.changes keep
 refine ⟨?_,?_⟩
 ·show ((crK torn (zaD d.changes keep)).foldl zag d.lasts).length+0≤d.lasts.length+d.changes.length+1
  omega
 ·show 0≤_
  omega
theorem sp_gr (d:RDisk) (n:ByteArray) (k y:Int):Gr d (spD d n k y).1:=by
 unfold spD
 refine za8 (Gr.refl d) (za8 (Gr.refl d) ?_)
 have h1:=zbt ⟨n,zaC (za1 d.lasts n) k.toNat y⟩ d.lasts
 refine ⟨?_,?_⟩
 ·show (if 0≤za4 d.lasts n∧k<(za1 d.lasts n).length then zax ⟨n,zaC (za1 d.lasts n) k.toNat y⟩ d.lasts else d.lasts).length+(d.changes.map (spC n k y)).length≤d.lasts.length+d.changes.length+1
  rw [List.length_map]
  split<;>omega
 ·show (d.changes.map (spC n k y)).length≤_
  rw [List.length_map]
  omega
theorem zla (d:RDisk) (o:DOp):Gr d (zaM d o).1:=by
 unfold zaM
 refine za8 ?_ (za8 ?_ (za8 ?_ (za8 (zl6 ..) (za8 ?_ (za8 (cr_gr ..) (za8 (sp_gr ..) (Gr.refl d)))))))
 ·exact za8 (Gr.refl d) (za8 (Gr.refl d) (za8 (Gr.refl d) (za8 (Gr.refl d) (zid ..))))
 ·exact za8 (Gr.refl d) (za8 (Gr.refl d) (za8 (Gr.refl d) (zid ..)))
 ·exact za8 (Gr.refl d) (za8 (Gr.refl d) (zid ..))
 ·exact za8 (Gr.refl d) (za8 (Gr.refl d) (Gr.of rfl (Nat.le_succ _)))
def runD (d:RDisk) (l:List DOp):RDisk:=l.foldl (fun d o=>(zaM d o).1) d
theorem zhc {d:RDisk} {l:List DOp} {j:Nat} (h:j<l.length):runD d (l.take (j+1))=(zaM (runD d (l.take j)) (l.getD j default)).1:=by
 unfold runD
 rw [zbg (d:=default) h,List.foldl_append];rfl
theorem zfL (l:List DOp):∀ d:RDisk,zd2 (runD d l)≤zd2 d+l.length∧(runD d l).changes.length≤d.changes.length+l.length:=by
 induction l with
 | nil=>intro d;exact ⟨Nat.le_refl _,Nat.le_refl _⟩
 | cons o l ih=>
  intro d
  have h1:=zla d o
  have h2:=ih (zaM d o).1
  refine ⟨?_,?_⟩
  ·show zd2 (runD (zaM d o).1 l)≤_
   rw [List.length_cons]
   have:=h1.1;have:=h2.1
   omega
  ·show (runD (zaM d o).1 l).changes.length≤_
   rw [List.length_cons]
   have:=h1.2;have:=h2.2
   omega
abbrev dk0:RDisk:=zbz 4194304
theorem zkq {l:List DOp} {j:Nat} (hl:l.length≤200):FewD (runD dk0 (l.take j))∧(runD dk0 (l.take j)).changes.length≤200:=by
 have h:=zfL (l.take j) dk0
 have h1:zd2 dk0=0:=rfl
 have h2:dk0.changes.length=0:=rfl
 have h3:(l.take j).length≤l.length:=by rw [List.length_take];omega
 have h4:=h.1
 have h5:=h.2
 unfold zd2 at h4 h1
 refine ⟨?_,by omega⟩
 show _≤5000
 omega
theorem zi8 {d d':RDisk} {n:ByteArray} (h:zab (zad d') n=zab (zad d) n):zbe d' n=zbe d n:=by
 rw [zbH,zbH,h]
theorem zgH {d:RDisk} {n:ByteArray} (h:∀ c∈d.changes,ofF n c=false) (keep:List Bool) (torn:Int):zab (zad (crD d keep torn)) n=zab d.lasts n:=by
 rw [zgc]
 show zab ((crK torn (zaD d.changes keep)).foldl zag d.lasts) n=_
 rw [zav]
 have:(crK torn (zaD d.changes keep)).filter (ofF n)=[]:=by
  rw [List.filter_eq_nil_iff]
  intro c' hc'
  obtain ⟨c,hc,e⟩:=zfv torn _ _ hc'
  have hn:=h c (zcp _ _ _ hc)
  have hf:c'.file=c.file:=by rcases e with rfl | ⟨_,_,_,rfl⟩<;>rfl
  unfold ofF at hn ⊢
  rw [hf,hn]
  decide
 rw [this]
 rfl
theorem zgU {d:RDisk} {n:ByteArray} (h:(syD d n).2=0) (keep:List Bool) (torn:Int):zbe (crD (syD d n).1 keep torn) n=zbe d n:=by
 refine zi8 ?_
 have e:(syD d n).1=zbR {d with lasts:=(d.changes.filter (ofF n)).foldl zag d.lasts,changes:=d.changes.filter (fun c=>!ofF n c)}:=by
  unfold syD at h ⊢
  by_cases h1:d.down=true
  ·rw [if_pos h1] at h;cases h
  ·rw [if_neg h1] at h ⊢
   by_cases h2:zb8 n=false
   ·rw [if_pos h2] at h;cases h
   ·rw [if_neg h2]
 rw [e,zgH]
 ·show zab ((d.changes.filter (ofF n)).foldl zag d.lasts) n=zab (d.changes.foldl zag d.lasts) n
  rw [zav,zav,List.filter_filter]
  simp only [Bool.and_self]
 ·intro c hc
  have hc:c∈d.changes.filter (fun c=>!ofF n c):=hc
  simpa using (List.mem_filter.1 hc).2
def cntO (o:DOp):Nat:=o.bytes.length+o.keep.length
def zaJ:List DOp→Nat
 | []=>0
 | o::l=>cntO o+zaJ l
theorem zfc (a b:List DOp):zaJ (a++b)=zaJ a+zaJ b:=by
 induction a with
 | nil=>simp [zaJ]
 | cons x a ih=>simp only [List.cons_append,zaJ,ih];omega
theorem zcE {l:List DOp} {j:Nat} (h:j<l.length):zaJ (l.take (j+1))=zaJ (l.take j)+cntO (l.getD j default):=by
 rw [zbg (d:=(default:DOp)) h,zfc];simp [zaJ]
theorem zgd (l:List DOp) (j:Nat):zaJ (l.take j)≤zaJ l:=by
 have h:=zfc (l.take j) (l.drop j)
 rw [List.take_append_drop] at h;omega
def zbd (l:List DOp):Bool:=decide (100000<l.length+zaJ l)||decide (200<l.length)
theorem ziM {l:List DOp} (h:zbd l=false):l.length≤200∧∀ j,j<l.length→(l.getD j default).bytes.length≤1000000∧(l.getD j default).keep.length≤1000000:=by
 unfold zbd at h
 simp only [Bool.or_eq_false_iff,decide_eq_false_iff_not] at h
 refine ⟨by omega,fun j hj=>?_⟩
 have h1:=zcE hj
 have h2:=zgd l (j+1)
 unfold cntO at h1
 omega
end Go.Proofs.Ytfccndnnpkiajaa
namespace Go.Proofs.Ytfccndnnpkiajaa
open Go.RowKit Go.ChangeShapes Go.WideShapes Go.Deep
set_option maxRecDepth 100000
theorem ziX {α:Type} {d:α} {a b:List α} (hl:a.length=b.length) (h:∀ i,i<a.length→a.getD i d=b.getD i d):a=b:=by
 apply List.ext_getElem hl
 intro i h1 h2
 have:=h i h1
 rwa [zen h1,zen h2] at this
theorem zl7 (x y:ByteArray):(x.toList != y.toList)=!decide (x=y):=by
 have e:(x.toList==y.toList)=decide (x=y):=by
  have h:= @eqN_iff x y
  have h2:eqN x y=(x.toList==y.toList):=rfl
  rw [Bool.eq_iff_iff,decide_eq_true_eq,← h2]
  exact h
 rw [bne,e]
theorem texts_fn (a b:List ByteArray):FnC Try.prog 17 [dStrs.can a,dStrs.can b] (.bool (decide (a=b))) D2:=by
 refine FnC.g2 dStrs dStrs a b (fnB Try.func17 (by decide) rfl) fun ha hb=>?_
 refine FnG.of_vc (zd4 zb2 fun _=>none) Try.func17 rfl (by decide) rfl 300 (p:=fun (V:List PE→Prop)=>let v0:=(↑(a.length):Int) != (↑(b.length):Int);True∧True∧True∧(v0=true→True∧false=decide (a=b)∧True)∧(v0=false→True∧V [PE.b])) (by kernel_rfl) ?_
 simp only [true_and,and_true,imp_self]
 refine ⟨fun h=>?_,fun h=>?_⟩
 ·have:a≠b:=fun e=>by subst e;simp at h
  simp [this]
 have hab:a.length=b.length:=by simp at h;omega
 refine LoopG.head (zd4 zb2 fun _=>none) 0 (A:=Nat) (fun j=>j≤a.length∧∀ i,i<j→a.getD i default=b.getD i default) (fun j=>[(5,.int .i64 j)]) (fun j=>[]) (fun j=>a.length-j) 0 ⟨Nat.zero_le _,fun i h=>absurd h (by omega)⟩ (p0:=(0:Int)=(↑(0:Nat):Int)∧a=a∧b=b∧True) (by kernel_rfl) ?_ 300 (p:=fun (x:Nat) (V:List PE→Prop)=>let v0:=(↑x:Int);let v1:=(↑(a.length):Int);let v2:=!ByteArray.toList (List.getD a x default)==ByteArray.toList (List.getD b x default);let v3:=decide (v0<v1);True∧True∧(v3=true→((0:Int)≤v0∧v0<v1∧(0:Int)≤v0∧v0<(↑(b.length):Int)∧True)∧True∧(v2=true→True∧false=decide (a=b)∧True)∧(v2=false→True∧V [PE.a,PE.b]))∧(v3=false→True∧true=decide (a=b)∧True)) (by intro x;kernel_rfl) ?_
 ·simp
 ·rintro j ⟨hj,h0⟩
  have hkl:=ha.1
  simp only [zl7,imp_self,implies_true,true_and,and_true,decide_eq_true_eq,decide_eq_false_iff_not]
  refine ⟨fun h6=>⟨by omega,fun h7=>?_,fun h7=>?_⟩,fun h6=>?_⟩
  ·have:a≠b:=fun e=>by subst e;simp at h7
   simp [this]
  ·refine Back.mk (j+1) ⟨by omega,fun i hi=>?_⟩ (by omega) (p0:=IntKind.wrap IntKind.i64 ((↑j:Int)+(1:Int))=(↑(j+(1:Nat)):Int)∧a=a∧b=b∧True) (by kernel_rfl) ?_
   ·by_cases hij:i=j
    ·subst hij;exact eqN_iff.1 (by unfold eqN;simpa using h7)
    ·exact h0 i (by omega)
   ·simp [ziv (i:=j) (by omega)]
  ·have:a=b:=ziX hab fun i hi=>h0 i (by omega)
   simp [this]
theorem zfT (l:List DOp):FnC Try.prog 8 [dDOps.can l] (.bool (zbd l)) D2:=by
 refine FnC.g1 dDOps l (fnB Try.func8 (by decide) rfl) fun hl=>?_
 refine FnG.of_vc (zd4 zb2 fun _=>none) Try.func8 rfl (by decide) rfl 300 (p:=fun (V:List PE→Prop)=>True∧True∧True∧V []) (by kernel_rfl) ?_
 have hll:=hl.1
 have hc:∀ o:DOp,o∈l→cntO o≤300000000000000:=fun o ho=>by
  have:=hl.2 o ho
  have q1:=this.bytes.1;have q2:=this.keep
  unfold cntO;omega
 have wadd:∀ {x:Int} {k:Nat} (b:Nat),x=(k:Int)→k+b≤10000000000000000→IntKind.i64.wrap (x+(b:Int))=((k+b:Nat):Int):=by
  intro x k b hx h
  subst hx
  rw [zl2 ⟨by omega,by omega⟩];omega
 refine ⟨trivial,trivial,trivial,?_⟩
 refine LoopG.head (zd4 zb2 fun _=>none) 0 (A:=Nat) (fun j=>j≤l.length∧(0<j→l.length+zaJ (l.take (j-1))≤100000)) (fun j=>[(4,.int .i64 j),(3,.int .i64 ((l.length+zaJ (l.take j):Nat):Int))]) (fun _=>[]) (fun j=>l.length-j) 0 ⟨Nat.zero_le _,fun h=>absurd h (by omega)⟩ (p0:=(0:Int)=(↑(0:Nat):Int)∧(↑(l.length):Int)=(↑(l.length+zaJ (List.take (0:Nat) l)):Int)∧false=false∧l=l∧True) (by kernel_rfl) ?_ 300 (p:=fun (x:Nat) (V:List PE→Prop)=>let v0:=(↑x:Int);let v1:=(100000:Int);let v2:=(↑(l.length):Int);let v3:=(↑(l.length+zaJ (List.take x l)):Int);let v4:=decide (v0<v2);let v5:=decide (v3>v1);let v6:=zba v4 (decide (v3≤v1)) false;((v4=true→v4=true)∧(v4=true→v4=true)∧True)∧True∧(v6=true→((0:Int)≤v0∧v0<v2∧(0:Int)≤v0∧v0<v2∧True)∧True∧V [PE.a])∧(v6=false→(((!v5)=true→(!v5)=true)∧((!v5)=true→(!v5)=true)∧(v5=false→(!v5)=true)∧True)∧zba v5 true (decide (v2>200))=zbd l∧True)) (by intro x;kernel_rfl) ?_
 ·intros
  repeat' apply And.intro
  all_goals first | trivial | rfl
 rintro j ⟨hj,h0⟩
 have hb0:l.length+zaJ (l.take j)≤1000000000000000:=by
  by_cases hp:0<j
  ·have h:=zcE (l:=l) (j:=j-1) (by omega)
   rw [show j-1+1=j by omega] at h
   have:=hc _ (zem (d:=default) (show j-1<l.length by omega))
   have:=h0 hp
   omega
  ·obtain rfl:j=0:=by omega
   simp only [List.take_zero,zaJ];omega
 have ep:zba (decide ((j:Int)<(l.length:Int))) (decide (((l.length+zaJ (l.take j):Nat):Int)≤100000)) false=decide (j<l.length∧l.length+zaJ (l.take j)≤100000):=by
  by_cases g1:j<l.length<;>by_cases g2:l.length+zaJ (l.take j)≤100000<;>simp [zba,g1,g2]<;>omega
 simp only [imp_self,implies_true,true_and,and_true,ep,decide_eq_true_eq,decide_eq_false_iff_not]
 refine ⟨fun h6=>⟨⟨by omega,by omega,by omega,by omega⟩,?_⟩,fun h6=>⟨fun h=>by simp;omega,?_⟩⟩
 ·have hcl:=hc _ (zem (d:=default) h6.1)
  refine Back.mk (j+1) ⟨by omega,fun _=>by rw [Nat.add_sub_cancel];exact h6.2⟩ (by omega) (p0:=let v0:=List.getD l j default;IntKind.wrap IntKind.i64 ((↑j:Int)+(1:Int))=(↑(j+(1:Nat)):Int)∧IntKind.wrap IntKind.i64 (IntKind.wrap IntKind.i64 ((↑(l.length+zaJ (List.take j l)):Int)+(↑(List.length (DOp.bytes v0)):Int))+(↑(List.length (DOp.keep v0)):Int))=(↑(l.length+zaJ (List.take (j+(1:Nat)) l)):Int)∧false=false∧l=l∧True) (by kernel_rfl) ?_
  have e1:=ziv (i:=j) (by omega)
  have e2:=wadd (x:=((l.length+zaJ (l.take j):Nat):Int)) (l.getD j default).bytes.length rfl (by unfold cntO at hcl;omega)
  have e3:=wadd (x:=((l.length+zaJ (l.take j)+(l.getD j default).bytes.length:Nat):Int)) (l.getD j default).keep.length rfl (by unfold cntO at hcl;omega)
  have e4:=zcE h6.1
  dsimp only
  refine ⟨e1,?_,?_⟩
  ·rw [e2,e3,e4]
   unfold cntO
   omega
  ·repeat' apply And.intro
   all_goals first | trivial | rfl
 ·have z1:=zgd l j
  have z3:¬ j<l.length→zaJ (l.take j)=zaJ l:=fun h=>by rw [List.take_of_length_le (by omega)]
  have hor:∀ a b:Bool,zba a true b=(a||b):=fun a b=>by cases a<;>rfl
  rw [hor,zbd,Bool.eq_iff_iff]
  simp only [Bool.or_eq_true,decide_eq_true_eq]
  omega
noncomputable def zjR:Ent:=ent1 8 dDOps fun l=>([],.bool (zbd l),D2)
theorem zhM:zaS Try.prog zjR:=zes (zfT []).1 fun l _=>zfT l
theorem zjf {w:World} {a:Option Addr} {n m:Nat} {l:List DOp} (h:Sl w (fun b=>b<w.heap.size) DOp.ty a n m (l.map DOp.enc)):DenV (E0 fun b=>b<w.heap.size) w (.sl [0] (.rDOp l)) (.slice a n m):=
 Rd.mono h fun b _ hb=>zir hb
end Go.Proofs.Ytfccndnnpkiajaa
namespace Go.Proofs.Ytfccndnnpkiajaa
open Go.RowKit Go.ChangeShapes Go.WideShapes Go.Deep
theorem DkI.new {room:Int} (h0:1≤room) (h1:room≤4194304):DkI (zbz room):=
 ⟨List.Pairwise.nil,(fun x h=>by cases h),(fun x h=>by cases h),(fun x h=>by cases h),trivial,⟨h0,h1⟩,by show I64 0;decide⟩
theorem DkI.step {d:RDisk} (h:DkI d):DkI (zbR d):=by
 refine ⟨h.sl,h.fb,h.ch,h.nm,h.np,h.rm,?_⟩
 show I64 (if d.stops then IntKind.i64.wrap (d.left-1) else d.left)
 split
 ·exact wrap_i64 _
 ·exact h.i64
theorem DkI.chg {d:RDisk} (h:DkI d) {c:DChange} (h1:0≤c.at_∧c.at_+c.bytes.length≤4194304∧NmOk c.file) (h2:c.kind=1→c.at_≤((zab (zad d) c.file).getD []).length):DkI (chgD d c):=
 (h.more h1 h2).step
theorem zkd {d:RDisk} (h:DkI d) {n:ByteArray} {k:Int} {b:List Int} (h0:0≤k) (hs:sumF (zag (zad d) ⟨1,n,k,b⟩)≤d.room):k+b.length≤4194304:=by
 have h1:=zjD (h.sn.done ⟨1,n,k,b⟩) (n:=n)
 have e:zab (zag (zad d) ⟨1,n,k,b⟩) n=some (za6 ((zab (zad d) n).getD []) k.toNat b):=by
  rw [zbl,if_pos (zat n)]
  rfl
 rw [e] at h1
 have h2:=za9 ((zab (zad d) n).getD []) k.toNat b
 have h3:((some (za6 ((zab (zad d) n).getD []) k.toNat b)).getD []).length=(za6 ((zab (zad d) n).getD []) k.toNat b).length:=rfl
 have:=h.rm.2
 omega
theorem zar {c:Prop} [Decidable c] {x y:RDisk×Int} (hx:c→DkI x.1) (hy:¬ c→DkI y.1):DkI (if c then x else y).1:=by
 by_cases h:c
 ·rw [if_pos h];exact hx h
 ·rw [if_neg h];exact hy h
theorem DkI.write {d:RDisk} (h:DkI d) {n:ByteArray} (hn:NmOk n) (k:Int) (b:List Int):DkI (wrD d n k b).1:=by
 unfold wrD
 refine zar (fun _=>h) fun _=>zar (fun _=>h) fun _=>zar (fun _=>h) fun h3=>zar (fun _=>h) fun h4=>?_
 have h5:0≤k:=by omega
 refine h.chg ⟨h5,?_,hn⟩ fun _=>?_
 ·exact zkd (n:=n) (k:=k) (b:=b) h h5 (by omega)
 ·show k≤(((zab (zad d) n).getD []).length:Int)
  rw [← zap]
  omega
theorem DkI.cut {d:RDisk} (h:DkI d) {n:ByteArray} (hn:NmOk n) (k:Int):DkI (cutD d n k).1:=by
 unfold cutD
 refine zar (fun _=>h) fun _=>zar (fun _=>h) fun _=>zar (fun _=>h) fun h3=>?_
 have h4:=zbD h.now (n:=n)
 refine h.chg ⟨by show 0≤k;omega,?_,hn⟩ fun e=>(by have e:(2:Int)=1:=e;omega)
 show k+((0:Nat):Int)≤_
 omega
theorem DkI.rmv {d:RDisk} (h:DkI d) {n:ByteArray} (hn:NmOk n):DkI (rmD d n).1:=by
 unfold rmD
 refine zar (fun _=>h) fun _=>zar (fun _=>h) fun _=>?_
 exact h.chg ⟨Int.le_refl 0,by show (0:Int)+((0:Nat):Int)≤_;omega,hn⟩ fun e=>(by have e:(3:Int)=1:=e;omega)
theorem DkI.syn {d:RDisk} (h:DkI d) (n:ByteArray):DkI (syD d n).1:=by
 rw [zjC]
 exact zar (fun _=>h) fun _=>zar (fun _=>h) fun _=>(h.sync n).step
theorem DkI.stp {d:RDisk} (h:DkI d) (k:Int):DkI (zdg d k).1:=by
 unfold zdg
 refine zar (fun _=>h) fun _=>zar (fun _=>h) fun h2=>?_
 exact ⟨h.sl,h.fb,h.ch,h.nm,h.np,h.rm,⟨by show _≤k;omega,by show k≤_;omega⟩⟩
theorem DkI.spo {d:RDisk} (h:DkI d) {n:ByteArray} (hn:NmOk n) (k y:Int):DkI (spD d n k y).1:=by
 rw [zjE]
 exact zar (fun _=>h) fun _=>zar (fun _=>h) fun _=>h.spoil hn _ _
theorem DkI.call {d:RDisk} (h:DkI d) {o:DOp} (hn:NmOk o.file):DkI (zaM d o).1:=by
 unfold zaM
 exact zar (fun _=>h.write hn _ _) fun _=>zar (fun _=>h.cut hn _) fun _=>zar (fun _=>h.rmv hn) fun _=>zar (fun _=>h.syn _) fun _=>zar (fun _=>h.stp _) fun _=>zar (fun _=>h.crash _ _) fun _=>zar (fun _=>h.spo hn _ _) fun _=>h
theorem DkI.run {l:List DOp}:∀ {d:RDisk},DkI d→(∀ o∈l,NmOk o.file)→DkI (runD d l):=by
 induction l with
 | nil=>intro d h _;exact h
 | cons o l ih=>intro d h hn;exact ih (h.call (hn o (List.mem_cons_self ..))) fun x hx=>hn x (List.mem_cons_of_mem _ hx)
theorem zks {l:List DOp} {j:Nat} {room:Int} (h0:1≤room) (h1:room≤4194304) (hn:∀ o∈l,NmOk o.file):DkI (runD (zbz room) (l.take j)):=
 (DkI.new h0 h1).run fun o ho=>hn o (List.mem_of_mem_take ho)
theorem DkI.rd {d:RDisk} (h:DkI d) (n:ByteArray):(zbe d n).1.length≤4194304:=by
 unfold zbe
 by_cases c:za4 (zad d) n<0
 ·rw [if_pos c];exact Nat.zero_le _
 ·rw [if_neg c];exact zbD h.now
end Go.Proofs.Ytfccndnnpkiajaa
namespace Go.Proofs.Ytfccndnnpkiajaa
open Go.RowKit Go.ChangeShapes Go.WideShapes Go.Deep
set_option maxRecDepth 100000
noncomputable def tabSn:List Ent:=[zjX,zjR,zjV,zlV,zjU,zjT,zhR,zjW]
theorem zf9:∀ e∈tabSn,zaS Try.prog e:=zaG zhS (zaG zhM (zaG zhP (zaG ziZ (zaG zhO (zaG zhN (zaG zgE (zaG zhQ zb2)))))))
theorem zeu (l:List DOp) (file:ByteArray) (keep:List Bool) (torn:Int):FnC Try.prog 3 [dDOps.can l,dStr.can file,dBools.can keep,dInt.can torn] (.bool true) D2:=by
 refine FnC.g4 dDOps dStr dBools dInt l file keep torn (fnB Try.func3 (by decide) rfl) fun hO _ _ _=>?_
 refine FnG.of_vc (zd4 zf9 fun _=>none) Try.func3 rfl (by decide) rfl 300 (p:=fun (V:List PE→Prop)=>let v0:=(↑(keep.length):Int);let v1:=zba false true ((0:Int) != 0);let v2:=zba (zbd l) true (decide (v0>100000));True∧(((!zbd l)=true→(!zbd l)=true)∧((!zbd l)=true→(!zbd l)=true)∧(zbd l=false→(!zbd l)=true)∧True)∧True∧(v2=true→True∧true=true∧True)∧(v2=false→True∧(((!false)=true→(!false)=true)∧(false=false→(!false)=true)∧True)∧True∧(v1=true→True∧false=true∧True)∧(v1=false→True∧V [PE.b,PE.b]))) (by kernel_rfl) ?_
 dsimp only
 have nt:∀ b:Bool,b=false→(!b)=true:=fun b h=>by rw [h];rfl
 refine ⟨trivial,⟨id,id,nt _,trivial⟩,trivial,fun _=>⟨trivial,rfl,trivial⟩,fun h0=>⟨trivial,⟨id,nt _,trivial⟩,trivial,fun h=>absurd h (by decide),fun _=>⟨trivial,?_⟩⟩⟩
 have hl:zbd l=false:=(zk1 h0).1
 obtain ⟨hl2,hall⟩:=ziM hl
 refine LoopG.head (zd4 zf9 fun _=>none) 0 (A:=Nat) (fun j=>j≤l.length) (fun j=>[(11,.int .i64 j)]) (fun j=>[(41,.obj (.disk (runD dk0 (l.take j))))]) (fun j=>l.length-j) 0 (Nat.zero_le _) (p0:=(0:Int)=(↑(0:Nat):Int)∧false=false∧l=l∧file=file∧keep=keep∧torn=torn∧zbz (4194304:Int)=runD dk0 (List.take (0:Nat) l)∧True) (by kernel_rfl) ?_ 300 (p:=fun (z:Nat) (V:List PE→Prop)=>let v0:=(↑z:Int);let v1:=runD dk0 (List.take z l);let v2:=(↑(l.length):Int);let v3:=syD v1 file;let v4:=zbe v1 file;let v5:=Prod.fst v3;let v6:=Prod.fst v4;let v7:=crD v5 keep torn;let v8:=zbe v7 file;let v9:=Prod.fst v8;let v10:=Prod.snd v3 != 0;let v11:=decide (v0<v2);let v12:=zba true (Prod.snd v4==Prod.snd v8) false;let v13:=zba v12 (ByteArray.toList (zdf v6)==ByteArray.toList (zdf v9)) false;True∧True∧(v11=true→((0:Int)≤v0∧v0<v2∧FewD v1∧List.length (DOp.bytes (List.getD l z default))≤1000000∧True)∧True∧V [PE.a])∧(v11=false→True∧(FewD v1∧True)∧True∧(v10=true→True∧true=true∧True)∧(v10=false→(FewD v5∧True)∧True∧((true=true→true=true)∧(true=true→true=true)∧(true=true→true=true)∧(v12=true→v12=true)∧(v12=true→v6.length≤140737488355328)∧(v12=true→v12=true)∧(v12=true→v9.length≤140737488355328)∧(v12=true→v12=true)∧(v12=true→v12=true)∧(v12=true→v12=true)∧(v13=true→v13=true)∧(v13=true→v13=true)∧(v13=true→v13=true)∧True)∧zba v13 (!RDisk.down v7) false=true∧True))) (by intro z;kernel_rfl) ?_
 ·intros
  repeat' apply And.intro
  all_goals first | trivial | rfl
 rintro j hj
 have hj:j≤l.length:=hj
 have hfew:=zkq (l:=l) (j:=j) hl2
 have hsu:=zhc (d:=dk0) (l:=l) (j:=j)
 have hI:DkI (runD dk0 (l.take j)):=zks (by decide) (by decide) fun o ho=>(hO.2 o ho).file
 generalize hd:runD dk0 (l.take j)=d at hfew hsu hI
 have hsy:=fun (h:(syD d file).2=0)=>zgU h keep torn
 have hgr:FewD (syD d file).1:=by
  have h1:=(zl6 d file).1
  have h2:=(zfL (l.take j) dk0).1
  have h3:(l.take j).length≤l.length:=by rw [List.length_take];omega
  have h4:zd2 dk0=0:=rfl
  rw [hd] at h2
  unfold zd2 at h1 h2 h4
  show _+_≤5000
  omega
 have hdn:(crD (syD d file).1 keep torn).down=false:=rfl
 have hr1:(zbe d file).1.length≤140737488355328:=Nat.le_trans (hI.rd file) (by decide)
 dsimp only
 refine ⟨trivial,trivial,fun h=>?_,fun h=>⟨trivial,⟨hfew.1,trivial⟩,trivial,fun _=>⟨trivial,rfl,trivial⟩,fun h2=>?_⟩⟩
 ·have h:(j:Int)<(l.length:Int):=of_decide_eq_true h
  refine ⟨⟨by omega,h,hfew.1,(hall j (by omega)).1,trivial⟩,trivial,?_⟩
  have e:=ziv (i:=j) (by omega)
  refine Back.mk (j+1) (by show j+1≤l.length;omega) (by show l.length-(j+1)<l.length-j;omega) (p0:=IntKind.wrap IntKind.i64 ((↑j:Int)+(1:Int))=(↑(j+(1:Nat)):Int)∧false=false∧l=l∧file=file∧keep=keep∧torn=torn∧Prod.fst (zaM d (List.getD l j default))=runD dk0 (List.take (j+(1:Nat)) l)∧True) (by kernel_rfl) ?_
  have es:=hsu (by omega)
  exact ⟨e,rfl,rfl,rfl,rfl,rfl,es.symm,trivial⟩
 ·have h3:=hsy (by simpa using h2)
  simp only [h3,hr1,hgr,hdn,beq_self_eq_true,zk2,imp_self,implies_true,true_and,and_true]
  rfl
theorem str_bd {w:World} {S:Nat→Prop} {s:ByteArray} {d:D} (h:Rd w S .str (.string s) d):s.size≤140737488355328:=by
 cases h;assumption
theorem zhX {w:World} {a:Option Addr} {n m:Nat} {l:List Bool} (h:Sl w (fun b=>b<w.heap.size) [.bool] a n m (bools l)):DenV (E0 fun b=>b<w.heap.size) w (.sl [0] (.rBools l)) (.slice a n m):=
 Rd.mono h fun b _ hb=>zir hb
theorem law_diskSynced (a:Option Addr) (n m:Nat) (l:List DOp) (file:ByteArray) (a2:Option Addr) (n2 m2:Nat) (keep:List Bool) (torn:Int) (w:World) (h:Sl w (fun b=>b<w.heap.size) DOp.ty a n m (l.map DOp.enc)) (h1:file.size≤140737488355328) (h2:Sl w (fun b=>b<w.heap.size) [.bool] a2 n2 m2 (bools keep)) (h3:I64 torn) :
  Calls Try.prog 3 #[.slice a n m,.string file,.slice a2 n2 m2,.int .i64 torn] w fun e w'=>e = .returned (.bool true)∧Below w.heap.size w w' :=
 zhx (zeu l file keep torn) w (fun b=>b<w.heap.size) (fun _ hb=>hb) [.slice a n m,.string file,.slice a2 n2 m2,.int .i64 torn] ⟨zjf h,⟨rfl,h1⟩,zhX h2,⟨rfl,zcP h3⟩,trivial⟩
end Go.Proofs.Ytfccndnnpkiajaa
namespace Go.Proofs.Ytfccndnnpkiajaa
open Go.RowKit Go.ChangeShapes Go.WideShapes Go.Deep
def zgT (P:Program) (ts:List Ty) (ok:TypeId→List Ty→Bool):Nat→List Field→Bool
 | o,[]=>o==ts.length
 | o,f::fs=>f.offset==o&&ok f.type ((ts.drop o).take (P.cellsOf f.type))&&decide (o+P.cellsOf f.type≤ts.length)&&zgT P ts ok (o+P.cellsOf f.type) fs
def okTy (P:Program):Nat→TypeId→List Ty→Bool
 | 0,_,_=>false
 | n+1,t,ts=>match P.underlying t with
  | some (.int k)=>match ts with | [.int k']=>decide (k=k') | _=>false
  | some .bool=>match ts with | [.bool]=>true | _=>false
  | some .string=>match ts with | [.str]=>true | _=>false
  | some (.slice e)=>match ts with | [.sl fs]=>okTy P n e fs&&P.cellsOf e==fs.length&&decide (1≤P.bytesOf e)&&decide (0<fs.length) | _=>false
  | some (.struct fs)=>P.cellsOf t==ts.length&&zgT P ts (okTy P n) 0 fs.toList
  | _=>false
theorem RdL.append {w:World} {S:Nat→Prop}:∀ {ts us:List Ty} {vs xs:List Value} {ds es:List D},RdL w S ts vs ds→RdL w S us xs es→RdL w S (ts++us) (vs++xs) (ds++es)
 | [],_,[],_,[],_,_,h=>h
 | _::ts,_,_::vs,_,_::ds,_,h,k=>⟨h.1,RdL.append (ts:=ts) (vs:=vs) (ds:=ds) h.2 k⟩
 | _::_,_,[],_,_,_,h,_=>h.elim
 | _::_,_,_::_,_,[],_,h,_=>h.elim
 | [],_,_::_,_,_,_,h,_=>h.elim
 | [],_,[],_,_::_,_,h,_=>h.elim
section
variable {H : Type} {enc : TypeId × Value → H} {P : Program} {w : World} {base : Nat} {spare : Nat → Bool} {held : Bool}
def zly (P:Program) (t:TypeId) (d:DataW H):Prop:=∀ n∈d.weights P t,n≤reachBytes
theorem zf8 (ok:TypeId→List Ty→Bool) (ts:List Ty) (cs:List Value) (hcl:cs.length=ts.length):∀ (fs:List Field) (o:Nat),o≤ts.length→zgT P ts ok o fs=true →
  (∀ f∈fs,∀ us,ok f.type us=true→∃ ds,RdL w (fun b=>b<w.heap.size) us ((cs.drop f.offset).take (P.cellsOf f.type)) ds) →
  ∃ ds,RdL w (fun b=>b<w.heap.size) (ts.drop o) (cs.drop o) ds
 | [],o,ho,h,_=>by
  simp only [zgT,beq_iff_eq] at h
  subst h
  rw [List.drop_length,List.drop_eq_nil_of_le (by omega)]
  exact ⟨[],trivial⟩
 | f::fs,o,ho,h,hf=>by
  simp only [zgT,Bool.and_eq_true,beq_iff_eq,decide_eq_true_eq] at h
  obtain ⟨⟨⟨rfl,h2⟩,h3⟩,h4⟩:=h
  obtain ⟨d1,k1⟩:=hf f (List.mem_cons_self ..) _ h2
  obtain ⟨d2,k2⟩:=zf8 ok ts cs hcl fs _ h3 h4 (fun g hg=>hf g (List.mem_cons_of_mem _ hg))
  refine ⟨d1++d2,?_⟩
  have e1:ts.drop f.offset=(ts.drop f.offset).take (P.cellsOf f.type)++ts.drop (f.offset+P.cellsOf f.type):=by
   rw [← List.drop_drop,List.take_append_drop]
  have e2:cs.drop f.offset=(cs.drop f.offset).take (P.cellsOf f.type)++cs.drop (f.offset+P.cellsOf f.type):=by
   rw [← List.drop_drop,List.take_append_drop]
  rw [e1,e2]
  exact RdL.append k1 k2
theorem zdc {e:TypeId}:∀ {l:List (DataW H)} {d:DataW H},d∈l→∀ n∈d.weights P e,n∈DataW.weightsAll P e l
 | x::l,d,hd,n,hn=>by
  simp only [DataW.weightsAll,List.mem_append]
  rcases List.mem_cons.1 hd with h | h
  ·subst h;exact .inl hn
  ·exact .inr (zdc h n hn)
theorem zc6:∀ (n:Nat) (t:TypeId) (ts:List Ty) (fuel:Nat) (cs:List Value) (x:DataW H×List MemPlace),okTy P n t ts=true→DataW.trod enc P w base spare held fuel t cs=some x→zly P t x.1→w.noneFrozen x.2 →
  ∃ ds,RdL w (fun b=>b<w.heap.size) ts cs ds
 | 0,_,_,_,_,_,h,_,_,_=>by simp [okTy] at h
 | n+1,t,ts,fuel,cs,x,h,ht,hw,hz=>by
  unfold okTy at h
  split at h
  ·rename_i k hu
   split at h
   ·rename_i k'
    have hk:k=k':=of_decide_eq_true h
    subst hk
    obtain ⟨m,rfl,_,hm⟩:=DataW.trod_int hu ht
    exact ⟨[.int m],.int hm,trivial⟩
   ·cases h
  ·rename_i hu
   split at h
   ·obtain ⟨b,rfl,_⟩:=DataW.trod_bool hu ht
    exact ⟨[.bool b],.bool,trivial⟩
   ·cases h
  ·rename_i hu
   split at h
   ·obtain ⟨s,rfl,rfl,_⟩:=DataW.trod_string hu ht
    have:=hw s.data.toList.length (by simp [DataW.weights])
    refine ⟨[.str s],.str ?_,trivial⟩
    have e:s.data.toList.length=s.size:=by rw [Array.length_toList];rfl
    rw [e] at this
    unfold reachBytes at this
    omega
   ·cases h
  ·rename_i e hu
   split at h
   ·rename_i fs
    simp only [Bool.and_eq_true,beq_iff_eq,decide_eq_true_eq] at h
    obtain ⟨⟨⟨h1,h2⟩,h3⟩,h4⟩:=h
    rcases open_slice hu ht with ⟨rfl,_⟩ | ⟨a,len,cap,m,n',Dd,Pl,rfl,hb,hl,hm,hmm,hx,hi⟩
    ·exact ⟨[.sl []],.emp (fun _=>rfl) (by simp [maxLen]),trivial⟩
    ·have hlm:len≤m:=by rw [hmm];split<;>omega
     have hx1:x.1 = .slice ((List.range len).map Dd) ((List.range (m-len)).map fun j=>Dd (len+j)):=by rw [hx]
     have hbd:len*1≤reachBytes:=by
      have:=hw ((((List.range len).map Dd).length+((List.range (m-len)).map fun j=>Dd (len+j)).length)*P.bytesOf e) (by rw [hx1];simp [DataW.weights,hu])
      simp only [List.length_map,List.length_range] at this
      exact Nat.le_trans (Nat.mul_le_mul (by omega) h3) this
     have each:∀ i,i<len→∃ cs' ds,w.cells? base (a.add (i*P.cellsOf e)) (P.cellsOf e)=some cs'∧RdL w (fun b=>b<w.heap.size) fs cs' ds:=by
      intro i hi'
      obtain ⟨cs',hc,htt⟩:=hi i (by omega)
      obtain ⟨ds,hd⟩:=zc6 n e fs n' cs' _ h1 htt (fun q hq=>hw q (by
       rw [hx1]
       simp only [DataW.weights,hu,List.mem_cons,List.mem_append]
       exact .inr (.inl (zdc (List.mem_map.2 ⟨i,List.mem_range.2 hi',rfl⟩) q hq)))) (fun b off hp=>hz b off (by
       rw [hx]
       exact List.mem_append.2 (.inr (List.mem_flatMap.2 ⟨i,List.mem_range.2 (by omega),hp⟩))))
      exact ⟨cs',ds,hc,hd⟩
     by_cases hp:0<len
     ·let C:Nat→List Value:=fun i=>if hh:i<len then Classical.choose (each i hh) else []
      let DD:Nat→List D:=fun i=>if hh:i<len then Classical.choose (Classical.choose_spec (each i hh)) else []
      have hC:∀ i,i<len→w.cells? base (a.add (i*P.cellsOf e)) (P.cellsOf e)=some (C i)∧RdL w (fun b=>b<w.heap.size) fs (C i) (DD i):=by
       intro i hh
       simp only [C,DD,hh,dif_pos]
       exact Classical.choose_spec (Classical.choose_spec (each i hh))
      have hcell:∀ i j,i<len→j<fs.length→w.cell? ((a.add (i*fs.length)).add j)=some ((C i).getD j undef):=by
       intro i j hi' hj
       obtain ⟨c1,c2⟩:=hC i hi'
       rw [h2] at c1
       obtain ⟨_,hcl,hat⟩:=World.cells?_some c1
       rw [hat j hj]
       simp [List.getD,List.getElem?_eq_getElem (show j<(C i).length by omega)]
      have h00:=hcell 0 0 hp h4
      obtain ⟨b,off,spot⟩:=a
      have hspot:spot=none:=by simpa [Addr.add] using World.cell?_spot h00
      subst hspot
      have hblk:b<w.heap.size:=by
       have:=World.block_lt_of_cell? _ _ h00
       simpa [Addr.add] using this
      refine ⟨[.sl ((List.range len).map DD)],.row (fun i j=>(C i).getD j undef) hp (by simp) hl hm (by unfold reachBytes at hbd;omega) hblk hblk (fun i j hi' hj=>?_) (fun i hi'=>?_) (fun i j hi' hj=>?_) (fun i j hi' hj=>?_),trivial⟩
      ·have:=hcell i j hi' hj
       rwa [WideShapes.add_plain,WideShapes.add_plain] at this
      ·have:=(hC i hi').2.lens.2
       simpa [List.getD,hi'] using this
      ·have:=(hC i hi').2.at j hj
       simpa [List.getD,hi'] using this
      ·refine hz b _ ?_
       rw [hx]
       refine List.mem_append.2 (.inl ?_)
       unfold MemPlace.row
       refine List.mem_map.2 ⟨i*fs.length+j,List.mem_range.2 ?_,by rw [Nat.add_assoc]⟩
       rw [h2]
       have h5:(i+1)*fs.length≤m*fs.length:=Nat.mul_le_mul_right _ (by omega)
       rw [Nat.add_mul] at h5;omega
     ·have h0:len=0:=by omega
      subst h0
      exact ⟨[.sl []],.emp (fun hh=>by cases hh) hm,trivial⟩
   ·cases h
  ·rename_i fs hu
   simp only [Bool.and_eq_true,beq_iff_eq] at h
   obtain ⟨h1,h2⟩:=h
   obtain ⟨xs,n',_,hx,hcl,hxl,hall⟩:=DataW.trod_struct hu ht
   have:=zf8 (P:=P) (w:=w) (okTy P n) ts cs (by omega) fs.toList 0 (Nat.zero_le _) h2 (fun f hf us hus=>by
    obtain ⟨i,hi⟩:=List.getElem?_of_mem hf
    rw [Array.getElem?_toList] at hi
    have hilt:i<fs.size:=(Array.getElem?_eq_some_iff.1 hi).1
    have h3:=hall i f hi
    rw [List.getElem?_eq_getElem (show i<xs.length by omega)] at h3
    refine zc6 n f.type us n' _ _ hus h3 (fun q hq=>hw q ?_) (fun b off hp=>hz b off (by
     rw [hx]
     exact List.mem_flatMap.2 ⟨_,List.getElem_mem (show i<xs.length by omega),hp⟩))
    rw [hx]
    simp only [DataW.weights,hu]
    refine DataW.weights_mem_each (j:=i) (t:=f.type) (d:=xs[i].1) ?_ ?_ q hq
    ·rw [List.getElem?_map,Array.getElem?_toList,hi];rfl
    ·rw [List.getElem?_map,List.getElem?_eq_getElem (show i<xs.length by omega)];rfl)
   simpa using this
  ·cases h
theorem rd_arg {t:TypeId} {ts:List Ty} {v:Value} {d:DataW H} {p:List MemPlace} (n:Nat) (hok:okTy P n t ts=true) (h:DataW.Trod enc P w base spare held t v d p) (hw:zly P t d) (hz:w.noneFrozen p):∃ ds,RdL w (fun b=>b<w.heap.size) ts v.cells.toList ds:=by
 obtain ⟨fuel,hf⟩:=h
 exact zc6 n t ts fuel _ _ hok hf hw hz
theorem light_of {tys:List TypeId} {ds:List (DataW H)} (h:(DataW.weightsEach P tys ds).all (· ≤ reachBytes)=true) {j:Nat} {t:TypeId} {d:DataW H} (ht:tys[j]? = some t) (hd:ds[j]? = some d):zly P t d:=fun n hn=>by
 simpa using List.all_eq_true.1 h n (DataW.weights_mem_each ht hd n hn)
end
end Go.Proofs.Ytfccndnnpkiajaa
