/- Parts of the proof, joined: the symbolic walk and what it is told of each function. Condition: as each theorem says. -/
import Derived.Deep.RegionLaw
import Derived.StillTailTactics
import Derived.Maps.RangeWalk
import Derived.Laws.CopyRow
import Derived.Shelf.SlIter.Nil
import Derived.Shelf.SortM.Plain
import Derived.Shelf.SortM.SortNone
import Derived.Shelf.SlMaps.Clone
import Derived.Ground.GgzProg
import Derived.Ground.SlgmProg
import Derived.Ground.SlmcProg
import Derived.Test.YtfccndnnpkiajaaProg
import Derived.OwnWalkIn
import Derived.TacticsInMore
import Derived.Deep.DeepCutAuto
import Derived.Deep.CutRange
import Derived.Laws.BytesString
import Derived.Lib.SlBytesConst
import Derived.SizedLaws
import Derived.Test.YtfccndnnpkiajaaDn3
set_option linter.unusedVariables false
set_option linter.unusedSimpArgs false
set_option linter.unusedSectionVars false
namespace Go.Proofs.Ytfccndnnpkiajaa
open Go.RowKit Go.ChangeShapes Go.WideShapes Go.Deep
set_option maxRecDepth 100000
abbrev TRw:TypeId:=56
theorem undR:Try.prog.underlying TRw=some (.slice TCh):=by kernel_rfl
def zCh:Value:= .agg #[.string ⟨#[]⟩,.nilFunc,.int .i64 0,.slice none 0 0,.bool false]
theorem zkt:∃ i,Try.prog.info? TCh=some i∧i.zero=some zCh∧i.size=5∧i.bytes=64:=by
 have h:(Try.prog.info? TCh).map (fun i=>(i.zero,i.size,i.bytes))=some (some zCh,5,64):=by kernel_rfl
 cases e:Try.prog.info? TCh with
 | none=>rw [e] at h;cases h
 | some i=>
  rw [e] at h
  simp only [Option.map_some,Option.some.injEq,Prod.mk.injEq] at h
  exact ⟨i,rfl,h.1,h.2.1,h.2.2⟩
theorem DoAt.one {w:World} {S:Nat→Prop} {c:DChange} {v:Value} (h:DoAt w S c v):v.oneCell'=true:=by cases h<;>rfl
theorem ChAt.ones {w:World} {S:Nat→Prop} {c:DChange} {cs:List Value} (h:ChAt w S c cs):∀ u∈cs,u.oneCell'=true:=by
 obtain ⟨dv,bv,rfl,h1,h2⟩:=h.D
 intro u hu
 simp only [List.mem_cons,List.not_mem_nil,or_false] at hu
 rcases hu with rfl | rfl | rfl | rfl | rfl
 ·rfl
 ·exact h1.one
 ·rfl
 ·exact h2.one
 ·rfl
theorem zeT {w:World} {v:Value} {n:Nat} {xs cs:List Value} {ty:TypeId} (hr:w.ownsRow 0 TCh 5 v n xs) (hl:cs.length=5) (h1:∀ u∈cs,u.oneCell'=true) (hn:n≤100000) :
  ∃ v' w',(Builtin.append_ #[TRw,TRw] ty #[v,.slice (some ⟨w.heap.size,0,none⟩) 1 1]).run Try.prog (w.alloc (.cells cs.toArray TCh)) = .ok v' w'∧w'.ownsRow 0 TCh 5 v' (n+1) (xs++cs)∧w.grownBy w' v.ownBlock∧(v'.ownBlock=v.ownBlock∨∃ g,v'.ownBlock=some g∧w.heap.size≤g):=by
 obtain ⟨i,e1,e2,e3,e4⟩:=zkt
 have hr1:(w.alloc (.cells cs.toArray TCh)).ownsRow 0 TCh 5 v n xs:=zak hr fun g hg=>Below.heap_alloc _ _ _ (hr.lt g hg).2
 obtain ⟨v',w',q1,q2,q3,_,q5⟩:=run_append_own_at (P:=Try.prog) (w.alloc (.cells cs.toArray TCh)) 0 TRw ty TCh i zCh 5 64 undR e1 e2 e3 e4 rfl (by decide) v n xs hr1 ⟨w.heap.size,0,none⟩ 1 1 cs (by omega)
  (fun j u hj=>by rw [WideShapes.add_plain,World.cell?_alloc_at _ _ _ _ rfl];simpa using hj) h1 (by unfold maxLen;omega) (by omega) (Nat.zero_le _)
 refine ⟨v',w',q1,q2,⟨q3.os,q3.tape,q3.output,by have:=q3.size;simp at this;omega,fun b hb hne=>by rw [q3.block b (by simp;omega) hne,Below.heap_alloc _ _ _ hb]⟩,?_⟩
 rcases q5 with e | e
 ·exact .inl e
 ·exact .inr ⟨_,e,by simp⟩
theorem zdR {ops:Array Oper} {o:Oper} {a:Act} {K:Act→World→Prop} {Q:Exit→Act→World→Prop} {E:Prop} {w:World} (hgd:o.guard=none) (s x:Operand)
  (ho:o.op = .call {callee:= .builtin .append,args:= #[s,x],argTypes:= #[TRw,TRw]}) (v:Value) (n:Nat) (xs cs:List Value) (hs:a.eval s=v) (hr:w.ownsRow 0 TCh 5 v n xs) (hl:cs.length=5) (h1:∀ u∈cs,u.oneCell'=true) (hn:n≤100000)
  (ad:Addr) (had:ad=⟨w.heap.size,0,none⟩) (hx:a.eval x = .slice (some ad) 1 1)
  (h:∀ v' w',w'.ownsRow 0 TCh 5 v' (n+1) (xs++cs)→w.grownBy w' v.ownBlock→(v'.ownBlock=v.ownBlock∨∃ g,v'.ownBlock=some g∧w.heap.size≤g)→K (a.put o.dst v') w') :
  if Region.wanted o (yielded ops a.tmps)=true then Oper.wp Try.prog o a (w.alloc (.cells cs.toArray TCh)) K Q else E:=by
 subst had
 have hw:Region.wanted o (yielded ops a.tmps)=true:=by simp [Region.wanted,hgd]
 rw [if_pos hw]
 obtain ⟨v',w',q1,q2,q3,q4⟩:=zeT (ty:=o.type) hr hl h1 hn
 exact zih s x TRw ho v _ hs hx (fun v' w'=>w'.ownsRow 0 TCh 5 v' (n+1) (xs++cs)∧w.grownBy w' v.ownBlock∧(v'.ownBlock=v.ownBlock∨∃ g,v'.ownBlock=some g∧w.heap.size≤g)) ⟨v',w',q1,q2,q3,q4⟩ (fun v' w' hR=>h v' w' hR.1 hR.2.1 hR.2.2)
theorem zdd:∀ (cs:List DChange) (l:List File) (c:DChange),zeE l cs→(c.kind=1→c.at_≤((zad (cs.foldl zaf l) c.file).getD []).length)→zeE l (cs++[c])
 | [],l,c,_,h=>⟨h,trivial⟩
 | x::cs,l,c,hn,h=>⟨hn.1,zdd cs (zaf l x) c hn.2 h⟩
def zcT (d:RDisk) (c:DChange):RDisk:={d with changes:=d.changes++[c]}
theorem ze7 (d:RDisk) (c:DChange):zal (zcT d c)=zaf (zal d) c:=by
 unfold zal zcT
 rw [List.foldl_append];rfl
theorem DkI.more {d:RDisk} (h:DkI d) {c:DChange} (h1:0≤c.at_∧c.at_+c.bytes.length≤4194304∧NmOk c.file) (h2:c.kind=1→c.at_≤((zad (zal d) c.file).getD []).length):DkI (zcT d c):=
 ⟨h.sl,h.fb,fun x hx=>by
  rcases List.mem_append.1 hx with hx | hx
  ·exact h.ch x hx
  ·rw [List.mem_singleton] at hx;subst hx;exact h1,h.nm,zdd _ _ _ h.np h2,h.rm,h.i64⟩
theorem zhG (l:List File) (c:DChange):(zaf l c).length≤l.length+1:=by
 unfold zaf
 split
 ·exact zbA _ _
 ·split
  ·split
   ·omega
   ·exact zbA _ _
  ·have:=List.length_filter_le (fun y=>!eqN y.name c.file) l
   unfold zbo
   omega
theorem zbp:∀ (cs:List DChange) (l:List File),(cs.foldl zaf l).length≤l.length+cs.length
 | [],l=>by simp
 | c::cs,l=>by
  have h1:=zbp cs (zaf l c)
  have h2:=zhG l c
  rw [List.foldl_cons,List.length_cons]
  omega
theorem zdj (d:RDisk):(zal d).length≤d.lasts.length+d.changes.length:=zbp _ _
theorem zaA {α:Type} {l:List α} {x d:α} {i:Nat} (h:i<l.length):(l++[x]).getD i d=l.getD i d:=by
 rw [List.getD_eq_getElem?_getD,List.getD_eq_getElem?_getD,List.getElem?_append_left h]
theorem zaB {α:Type} {l:List α} {x d:α} {i:Nat} (h:i=l.length):(l++[x]).getD i d=x:=by
 subst h
 rw [List.getD_eq_getElem?_getD,List.getElem?_append_right (Nat.le_refl _)]
 simp
theorem DkAt.more {w w2 w3:World} {b:Nat} {d:RDisk} {F:Nat→Prop} {m1 m2:Nat} {v v':Value} {rows:List (List Value)} {c:DChange} {cs:List Value} (h:DkAt w b d F m1 m2 v rows) (hc:ChAt w (SB F b m1 m2 v) c cs)
  (h1:c.at_+c.bytes.length≤4194304) (h2:c.kind=1→c.at_≤((zad (zal d) c.file).getD []).length)
  (ht:Turn (fun x=>x=m2) w w2) (hf:FilesAt w2 (fun x=>SB F b m1 m2 v x∨w.heap.size≤x) m2 (zaf (zal d) c))
  (hr:w3.ownsRow 0 TCh 5 v' (d.changes.length+1) (rows.flatten++cs)) (hg:w2.grownBy w3 v.ownBlock) (hv:v'.ownBlock=v.ownBlock∨∃ g,v'.ownBlock=some g∧w2.heap.size≤g) :
  DkAt (w3.setCell ⟨b,3,none⟩ v') b (zcT d c) (fun x=>x<w3.heap.size∧(F x∨w.heap.size≤x)) m1 m2 v' (rows++[cs])∧Turn F w (w3.setCell ⟨b,3,none⟩ v'):=by
 have hsz4:(w3.setCell ⟨b,3,none⟩ v').heap.size=w3.heap.size:=by simp [World.setCell]
 have s12:=ht.size
 have s23:=hg.size
 have hbl:=h.fl _ h.fb
 have h1l:=h.fl _ h.f1
 have h2l:=h.fl _ h.f2
 have ev:∀ x,v.ownBlock≠some x→x<w2.heap.size→v'.ownBlock≠some x:=fun x h1 h2=>by
  rcases hv with e | ⟨g,e,hg⟩
  ·rw [e];exact h1
  ·rw [e]
   intro e2
   have:=Option.some.inj e2
   omega
 -- blocks far from what is written
 have far:∀ x,x<w2.heap.size→x≠b→v.ownBlock≠some x→(w3.setCell ⟨b,3,none⟩ v').heap[x]? = w2.heap[x]? := fun x hx hb hv=>by
  rw [zaw (p:=⟨b,3,none⟩) hb]
  exact hg.block x hx (fun e=>hv e.symm)
 have far0:∀ x,x<w.heap.size→x≠m2→w2.heap[x]? = w.heap[x]? := fun x hx hm=>ht.block x hx hm
 have hS:Same (SB F b m1 m2 v) w (w3.setCell ⟨b,3,none⟩ v'):=⟨by omega,fun x hx hl=>by
  rw [far x (by omega) hx.2.1 hx.2.2.2.2,far0 x hl hx.2.2.2.1]⟩
 have hT:∀ x,x<w.heap.size→SB F b m1 m2 v x→SB (fun x=>x<w3.heap.size∧(F x∨w.heap.size≤x)) b m1 m2 v' x:=fun x hx hs=>⟨⟨by omega,.inl hs.1⟩,hs.2.1,hs.2.2.1,hs.2.2.2.1,ev x hs.2.2.2.2 (by omega)⟩
 have hB2:Blk w2 b TDi (dkCs d m1 m2 v):=(far0 b hbl h.b2).trans h.blk
 have hB3:Blk w3 b TDi (dkCs d m1 m2 v):=(hg.block b (by omega) (fun e=>h.bv e.symm)).trans hB2
 refine ⟨⟨?_,?_,?_,?_,?_,fun i hi=>?_,fun x hx=>by rw [hsz4];exact hx.1,⟨by omega,.inl h.fb⟩,⟨by omega,.inl h.f1⟩,⟨by omega,.inl h.f2⟩,fun g hgv=>?_,h.mm,h.inv.more ⟨hc.at0.1,h1,hc.nm⟩ h2⟩,?_⟩
 ·have k:=hB3.set 3 v'
  simpa [dkCs,zcT] using k
 ·refine h.la.kept ?_ hS hT
  rw [far m1 (by omega) (Ne.symm h.b1) h.v1,far0 m1 h1l h.mm]
 ·rw [ze7]
  refine hf.kept (far m2 (by omega) (Ne.symm h.b2) h.v2) (S:=fun x=>SB F b m1 m2 v x∨w.heap.size≤x) ⟨by omega,fun x hx hl=>?_⟩ fun x hx hs=>?_
  ·rcases hx with hs | hs
   ·exact far x hl hs.2.1 hs.2.2.2.2
   ·exact far x hl (by omega) fun e=>by have:=h.fl _ (h.fv x e);omega
  ·rcases hs with hs | hs
   ·have:=h.fl x hs.1
    exact hT x this hs
   ·exact ⟨⟨by omega,.inr hs⟩,by omega,by omega,by omega,ev x (fun e=>by have:=h.fl _ (h.fv x e);omega) hx⟩
 ·have e:(rows++[cs]).flatten=rows.flatten++cs:=by simp
  have e2:(zcT d c).changes.length=d.changes.length+1:=by simp [zcT]
  rw [e,e2]
  refine zak hr fun g hgv=>?_
  rw [zaw (p:=⟨b,3,none⟩) (fun e=>?_)]
  have e:g=b:=e
  rw [e] at hgv
  exact ev b h.bv (by omega) hgv
 ·simp [zcT,h.rl]
 ·have e2:(zcT d c).changes.length=d.changes.length+1:=by simp [zcT]
  show ChAt _ _ ((d.changes++[c]).getD i default) ((rows++[cs]).getD i [])
  by_cases hi2:i<d.changes.length
  ·rw [zaA hi2,zaA (by rw [h.rl];exact hi2)]
   exact (h.ch i hi2).kept hS hT
  ·have:i=d.changes.length:=by omega
   subst this
   rw [zaB rfl,zaB h.rl.symm]
   exact hc.kept hS hT
 ·rcases hv with e | ⟨g',e,hge⟩
  ·rw [e] at hgv
   have:=h.fv g hgv
   have:=h.fl g this
   exact ⟨by omega,.inl (h.fv g hgv)⟩
  ·have e3:=hr.lt g hgv
   rw [e] at hgv
   have:=Option.some.inj hgv
   exact ⟨e3.2,.inr (by omega)⟩
 ·refine Turn.set ?_ (.inl h.fb) _
  refine (ht.mono (G:=F) fun x e=>?_).trans (Turn.grown (F:=fun x=>v.ownBlock=some x) hg fun x e=> .inl e) fun x hx e=>h.fv x e
  rw [e];exact h.f2
theorem DPost.after {w w4 w':World} {b:Nat} {F F1:Nat→Prop} {d':RDisk} {r:Value} {e:Ending} (hF:∀ x,F1 x→F x∨w.heap.size≤x) (ht:Turn F w w4) (h:DPost w4 b F1 d' r e w'):DPost w b F d' r e w':=by
 obtain ⟨he,F',h1,h2,h3⟩:=h
 refine ⟨he,F',h1,fun x hx=>?_,ht.trans h3 fun x hx hf=>?_⟩
 ·rcases h2 x hx with g | g
  ·exact hF x g
  ·exact .inr (Nat.le_trans ht.size g)
 ·rcases hF x hf with g | g
  ·exact g
  ·omega
theorem ziF {w:World} {v:Value} {n:Nat} {xs:List Value} (h:w.ownsRow 0 TCh 5 v (n+1) xs):∃ g cap,v = .slice (some ⟨g,0,none⟩) (n+1) cap:=by
 rcases h.2 with ⟨_,h2⟩ | ⟨g,cap,cur,rfl,_⟩
 ·omega
 ·exact ⟨g,cap,rfl⟩
theorem DkAt.below {w w':World} {b:Nat} {d:RDisk} {F:Nat→Prop} {m1 m2:Nat} {v:Value} {rows:List (List Value)} (h:DkAt w b d F m1 m2 v rows) (hb:Below w.heap.size w w'):DkAt w' b d F m1 m2 v rows:=
 h.kept hb.size (fun x hx=>hb.block x (h.fl x hx)) (fun _ h=>h) fun x hx=>Nat.lt_of_lt_of_le (h.fl x hx) hb.size
set_option maxHeartbeats 4000000 in
theorem zfJ {w:World} {b:Nat} {d:RDisk} {F:Nat→Prop} {m1 m2:Nat} {v:Value} {rows:List (List Value)} {c:DChange} {cs:List Value} (h:DkAt w b d F m1 m2 v rows) (hc:ChAt w (SB F b m1 m2 v) c cs)
  (hN:d.lasts.length+d.changes.length≤5000) (h1:c.at_+c.bytes.length≤4194304) (h2:c.kind=1→c.at_≤((zad (zal d) c.file).getD []).length) :
  Calls Try.prog 47 #[ptrV b,.agg cs.toArray] w (DPost w b F (chgD d c) (.int .i64 0)):=by
 have hbb:=h.fl _ h.fb
 have hb2:=h.b2
 have hm2:=h.fl _ h.f2
 -- the worlds ahead of the call
 obtain ⟨wa,hwa⟩:∃ wa,w.alloc (.cells cs.toArray TCh)=wa:=⟨_,rfl⟩
 have hBa:Below w.heap.size w wa.drew:=by rw [← hwa];exact ((Below.refl _ w).alloc (Nat.le_refl _) _).drew
 have kx:Blk wa w.heap.size TCh cs.toArray:=by rw [← hwa];exact Blk.new w TCh cs.toArray
 have ha:DkAt wa.drew b d F m1 m2 v rows:=h.below hBa
 have hca:ChAt wa.drew (SB F b m1 m2 v) c cs:=hc.kept (Same.below hBa) fun _ _ h=>h
 have hones:=hc.ones
 obtain ⟨dv,bv,hcs,hdo,hbv⟩:=hca.D
 have hlen:=zdj d
 have hlk:=zcF h.inv.now c.file
 obtain ⟨f,cap,hdv,hB,hcall⟩:=zgJ hdo ha.no ha.inv.sn (fun hs=>hs.2.2.2.1 rfl) (by omega) hc.nm hc.at0.1 hc.at0.2 hc.by0 (by omega)
 have hsz:w.heap.size<wa.heap.size:=by rw [← hwa];simp
 -- what stands behind the call
 have hmore:=fun (w2 w3:World) (v':Value) (ht:Turn (fun x=>x=m2) wa.drew w2) (hf:FilesAt w2 (fun x=>SB F b m1 m2 v x∨wa.drew.heap.size≤x) m2 (zaf (zal d) c)) (hr:w3.ownsRow 0 TCh 5 v' (d.changes.length+1) (rows.flatten++cs)) (hg:w2.drew.grownBy w3 v.ownBlock) (hv:v'.ownBlock=v.ownBlock∨∃ g,v'.ownBlock=some g∧w2.heap.size≤g)=>ha.more hca h1 h2 ht hf hr ⟨hg.os,hg.tape,hg.output,hg.size,hg.block⟩ hv
 have hfin:∀ (w2 w3:World) (v':Value) (ht:Turn (fun x=>x=m2) wa.drew w2) (hf:FilesAt w2 (fun x=>SB F b m1 m2 v x∨wa.drew.heap.size≤x) m2 (zaf (zal d) c)) (hr:w3.ownsRow 0 TCh 5 v' (d.changes.length+1) (rows.flatten++cs)) (hg:w2.drew.grownBy w3 v.ownBlock) (hv:v'.ownBlock=v.ownBlock∨∃ g,v'.ownBlock=some g∧w2.heap.size≤g),
   Calls Try.prog 33 #[ptrV b] (w3.setCell ⟨b,3,none⟩ v') fun e w'=>e = .returned (.tuple #[])∧DPost w b F (chgD d c) (.int .i64 0) (.returned (.int .i64 0)) w':=fun w2 w3 v' ht hf hr hg hv=>by
  obtain ⟨g1,g2⟩:=hmore w2 w3 v' ht hf hr hg hv
  refine (zdz ⟨_,_,_,_,g1⟩).mono fun e w' hp=>?_
  obtain ⟨he,F',p1,p2,p3⟩:=hp
  refine ⟨he,DPost.after (F1:=fun x=>x<w3.heap.size∧(F x∨wa.drew.heap.size≤x)) (fun x hx=>?_) ((Turn.below hBa).trans g2 fun x _ hx=>hx) ⟨rfl,F',p1,p2,p3⟩⟩
  rcases hx.2 with g | g
  ·exact .inl g
  ·exact .inr (Nat.le_trans hBa.size g)
 have HFI:=Lib.hid hfin
 have HCA:=Lib.hid hcall
 have hcf:=zaq hB
 have q2:wa.cell? ⟨b,2,none⟩=some (.map (some m2)):=ha.blk.cell 2
 subst hcs
 obtain ⟨q0',q1',q2',q3',q4'⟩:=box5 kx
 have hB2:=fun (w2:World) (ht:Turn (fun x=>x=m2) wa.drew w2)=>(⟨ht.keep ha.blk hb2,ht.keep kx (by omega),zak ha.row fun g hg=>ht.block g (ha.fl _ (ha.fv g hg)) fun e=>ha.v2 (e▸hg)⟩:Blk w2 b TDi (dkCs d m1 m2 v)∧Blk w2 w.heap.size TCh #[.string c.file,dv,.int .i64 (chAt c),bv,.bool (c.kind==1)]∧w2.ownsRow 0 TCh 5 v d.changes.length rows.flatten)
 have HB2:=Lib.hid hB2
 have hbv2:=h.bv
 have hch:d.changes.length≤100000:=by omega
 have HON:=Lib.hid hones
 subst hdv
 clear hcall hfin hmore hB hB2 hdo hbv hca ha hBa hc h hones kx
 unfold ptrV at HFI ⊢
 go_enter Try.func47,Try.ntmps47
 go_wp2_with fail
 try rw [hwa]
 clear hwa
 go_still_tail 6,(by kernel_rfl)
 change wpList _ _ _ _ _ wa.drew
 go_wp2_with (first | (refine HCA.out.mono ?_;rintro e w2 ⟨rfl,ht,hf⟩))
 obtain ⟨kb,kx,hrow⟩:=HB2.out w2 ht
 obtain ⟨r0,r1,r2,r3,r4⟩:=box5 kx
 obtain ⟨s0,s1,s2,s3,s4,s5,s6⟩:=box7 kb
 obtain ⟨z0,z1,z2,z3,z4,z5,z6⟩:=zdQ kb
 have HR:=Lib.hid (show w2.drew.ownsRow 0 TCh 5 v d.changes.length rows.flatten from zak hrow fun _ _=>rfl)
 have HKB:=Lib.hid kb
 have s3a:(w2.alloc (.cells #[.string c.file,.func (.func f) #[] cap.toArray,.int .i64 (chAt c),bv,.bool (c.kind==1)] 66)).cell? ⟨b,3,none⟩=some v:=(kb.alloc (.cells #[.string c.file,.func (.func f) #[] cap.toArray,.int .i64 (chAt c),bv,.bool (c.kind==1)] 66)).cell 3
 have HT:=Lib.hid ht
 have HF:=Lib.hid hf
 clear hrow kx ht hf kb
 go_region_law (first | (refine zdR (w := w2.drew) rfl (.tmp 16) (.tmp 18) rfl v d.changes.length rows.flatten [.string c.file, .func (.func f) #[] cap.toArray, .int .i64 (chAt c), bv, .bool (c.kind == 1)] rfl HR.out rfl HON.out hch ⟨w2.heap.size, 0, none⟩ rfl rfl ?_; intro v' w3 hr3 hg3 hv3; obtain ⟨g', cap', rfl⟩ := ziF hr3; have HCL := Lib.hid (HFI.out w2 w3 _ HT.out HF.out hr3 hg3 hv3); have kb3 := HKB.out.drew.grown hg3 (fun e => hbv2 e.symm); obtain ⟨y0, y1, y2, y3, y4, y5, y6⟩ := box7 kb3; obtain ⟨x0, x1, x2, x3, x4, x5, x6⟩ := zdQ kb3; clear hr3 hg3 hv3 kb3) | fail "none")
 all_goals
  go_wp2_with (go_at_call 33;refine HCL.out.mono ?_;rintro e w5 ⟨rfl,hp5⟩)
  go_ret
  exact hp5
theorem zav (x:File) (l:List File):sumF (x::l)=x.bytes.length+sumF l:=by
 have key:∀ (l:List File) (a:Int),l.foldl (fun (s:Int) x=>s+((x.bytes.length:Nat):Int)) a=a+l.foldl (fun (s:Int) x=>s+((x.bytes.length:Nat):Int)) 0:=by
  intro l
  induction l with
  | nil=>intro a;simp
  | cons y l ih=>
   intro a
   rw [List.foldl_cons,List.foldl_cons,ih,ih (0+_)]
   omega
 unfold sumF
 rw [List.foldl_cons,key]
 omega
theorem zeO:sumF []=0:=rfl
theorem zfW (l:List File):0≤sumF l:=by
 induction l with
 | nil=>exact Int.le_refl 0
 | cons x l ih=>rw [zav];omega
theorem zhl {M:List File} (hM:SortF M) {n:ByteArray} {bs:List Int} (hx:zad M n=some bs) (p:File→Bool) (hp:∀ y,y.name=n→p y=false):sumF (M.filter fun y=>p y||eqN y.name n)=sumF (M.filter p)+bs.length:=by
 induction M with
 | nil=>cases hx
 | cons y M ih=>
  obtain ⟨h1,h2⟩:=List.pairwise_cons.1 hM
  unfold zad at hx
  rw [List.filter_cons,List.filter_cons]
  cases e:eqN y.name n
  ·rw [e] at hx
   simp only [Bool.false_eq_true,if_false] at hx
   simp only [Bool.or_false]
   cases hpy:p y
   ·simpa using ih h2 hx
   ·simp only [if_true]
    rw [zav,zav,ih h2 hx]
    omega
  ·rw [e] at hx
   simp only [if_true,Option.some.injEq] at hx
   have en:=eqN_iff.1 e
   rw [hp y en]
   simp only [Bool.false_or,if_true,Bool.false_eq_true,if_false]
   have e2:∀ z∈M,(p z||eqN z.name n)=p z:=fun z hz=>by
    have:z.name≠n:=fun e3=>by
     have:=zaW (h1 z hz)
     exact this (en.trans e3.symm)
    rw [eqN_no.2 this,Bool.or_false]
   rw [List.filter_congr e2,zav,← hx]
   omega
theorem zeN {l:List File} (h:SortF l) (n:ByteArray):sumF (zbo l n)+((zad l n).getD []).length=sumF l:=by
 induction l with
 | nil=>rfl
 | cons x l ih=>
  obtain ⟨h1,h2⟩:=List.pairwise_cons.1 h
  have ih:=ih h2
  have el:zad (x::l) n=if eqN x.name n then some x.bytes else zad l n:=rfl
  unfold zbo at *
  rw [List.filter_cons,el]
  cases e:eqN x.name n
  ·simp only [Bool.not_false,if_true,Bool.false_eq_true,if_false]
   rw [zav,zav]
   omega
  ·simp only [Bool.not_true,Bool.false_eq_true,if_false,if_true,Option.getD_some]
   have hx:=eqN_iff.1 e
   rw [List.filter_eq_self.2 fun y hy=>by
    have:=zaW (h1 y hy)
    rw [hx] at this
    simp [eqN_no.2 (Ne.symm this)],zav]
   omega
theorem zi9 {l:List File} (h:SortF l) (f:File):sumF (za3 f l)+((zad l f.name).getD []).length=sumF l+f.bytes.length:=by
 induction l with
 | nil=>
  show sumF [f]+_=_
  rw [zav]
  show (f.bytes.length:Int)+sumF []+((([]:List Int).length:Nat):Int)=sumF []+f.bytes.length
  rw [zeO]
  simp
 | cons x l ih=>
  obtain ⟨h1,h2⟩:=List.pairwise_cons.1 h
  have ih:=ih h2
  unfold za3
  split
  ·have:=zeN h f.name
   unfold zbo at this
   rw [zav]
   omega
  ·rename_i hle
   rw [Bool.not_eq_true] at hle
   have hne:=zaW (zbG hle)
   have e:zad (x::l) f.name=zad l f.name:=by
    conv=>lhs;unfold zad
    rw [if_neg (by rw [Bool.not_eq_true];exact eqN_no.2 hne)]
   rw [e,zav,zav]
   omega
theorem zfO {M:List File} (h:SortF M) {n:ByteArray} {at_:Int} {b:List Int} (h0:0≤at_) (h1:at_≤((zad M n).getD []).length) :
  sumF (zaf M ⟨1,n,at_,b⟩)=sumF M+(max (((zad M n).getD []).length:Int) (at_+b.length)-((zad M n).getD []).length)∧(zaf M ⟨1,n,at_,b⟩).length=if (zad M n).isSome then M.length else M.length+1:=by
 have e:zaf M ⟨1,n,at_,b⟩=za3 ⟨n,zaE (zaC M n) at_.toNat b⟩ M:=by unfold zaf;rw [if_pos rfl]
 rw [e,za1]
 have k:=zi9 h ⟨n,zaE ((zad M n).getD []) at_.toNat b⟩
 have k2:=h.put_len ⟨n,zaE ((zad M n).getD []) at_.toNat b⟩
 refine ⟨?_,k2⟩
 simp only [zbQ] at k
 omega
theorem ziZ (a b:ByteArray):(kS a).sameKey (kS b)=eqN a b:=by
 by_cases e:a=b
 ·subst e
  rw [zar]
  exact WideAt.sameKey_self (zgx a)
 ·rw [eqN_no.2 e]
  exact Maps.sameKey_ne (zja e)
theorem zjU {l:List File} (h:SortF l) {n:ByteArray}:(((zad l n).getD []).length:Int)≤sumF l:=by
 have h1:=zeN h n
 have h2:=zfW (zbo l n)
 omega
theorem zhg {d:RDisk} (h:d.down=true) (n:ByteArray) (at_:Int) (b:List Int):wrD d n at_ b=(d,120):=by unfold wrD;rw [if_pos h]
theorem zjR {d:RDisk} (hd:d.down=false) {M:List File} (hM:zal d=M) (hs:SortF M) (n:ByteArray) (at_:Int) (b:List Int) {lo:Nat} (hlo:((zad M n).getD []).length=lo) {A0 x1:Int} (hx:min at_ (lo:Int)+(b.length:Int)=x1) (hA:max (lo:Int) x1-(lo:Int)=A0) :
  wrD d n at_ b=if zb1 n=false then (d,122) else if at_<0∨at_>(lo:Int) then (d,123) else if A0+sumF M>d.room∨(((if (zad M n).isSome then M.length else M.length+1:Nat):Nat):Int)>16 then (d,121) else (chgD d ⟨1,n,at_,b⟩,0):=by
 unfold wrD
 rw [hd,hM,za1,hlo]
 simp only [Bool.false_eq_true,if_false]
 by_cases h1:zb1 n=false
 ·rw [if_pos h1,if_pos h1]
 ·rw [if_neg h1,if_neg h1]
  by_cases h2:at_<0∨at_>(lo:Int)
  ·rw [if_pos h2,if_pos h2]
  ·rw [if_neg h2,if_neg h2]
   obtain ⟨k1,k2⟩:=zfO hs (n:=n) (at_:=at_) (b:=b) (by omega) (by rw [hlo];omega)
   rw [hlo] at k1
   rw [k1,k2]
   have e:sumF M+(max (lo:Int) (at_+(b.length:Int))-(lo:Int))=A0+sumF M:=by omega
   rw [e]
theorem DkAt.grow {w:World} {b:Nat} {d:RDisk} {F:Nat→Prop} {m1 m2:Nat} {v:Value} {rows:List (List Value)} (h:DkAt w b d F m1 m2 v rows) {w0:World} (hw:w0.heap.size≤w.heap.size) (hF:∀ x,F x→x<w0.heap.size) {c:DChange} {cs:List Value} (hc:ChAt w (fun x=>w0.heap.size≤x) c cs) :
  DkAt w b d (fun x=>F x∨(w0.heap.size≤x∧x<w.heap.size)) m1 m2 v rows∧ChAt w (SB (fun x=>F x∨(w0.heap.size≤x∧x<w.heap.size)) b m1 m2 v) c cs:=by
 refine ⟨h.kept (Nat.le_refl _) (fun _ _=>rfl) (fun _ h=> .inl h) fun x hx=>?_,hc.kept (Same.refl _ _) fun x hx hs=>?_⟩
 ·rcases hx with hx | hx
  ·exact h.fl x hx
  ·exact hx.2
 ·have hs:w0.heap.size≤x:=hs
  have a1:=hF _ h.fb
  have a2:=hF _ h.f1
  have a3:=hF _ h.f2
  exact ⟨.inr ⟨hs,hx⟩,by omega,by omega,by omega,fun e=>by have:=hF _ (h.fv x e);omega⟩
set_option maxHeartbeats 4000000 in
theorem zfP {w:World} {b:Nat} {d:RDisk} {F:Nat→Prop} (h:DkOk w b d F) (hN:d.lasts.length+d.changes.length≤5000) {S:Nat→Prop} {bv:Value} {bs:List Int} (hr:BRd w S bv bs) (hl:bs.length≤1000000) {n:ByteArray} (hn:NmOk n) {at_:Int} (hat:I64 at_) :
  Calls Try.prog 22 #[ptrV b,.string n,.int .i64 at_,bv] w (DPost w b F (wrD d n at_ bs).1 (.int .i64 (wrD d n at_ bs).2)):=by
 have hst:=Lib.hid (zc4 h)
 have h0:=Lib.hid h
 obtain ⟨m1,m2,v,rows,h⟩:=h.o
 cases hd:d.down
 case true=>
  rw [hd] at hst
  rw [zhg hd]
  clear h hr
  unfold ptrV at hst ⊢
  go_enter Try.func22,Try.ntmps22
  go_wp2_with (go_at_call 29;refine hst.out.mono ?_;rintro e w1 ⟨rfl,hb1⟩)
  go_ret
  exact DPost.same h0.out hb1
 rw [hd] at hst
 have hK:=fun (w1:World) (hb:Below w.heap.size w w1)=>h.below hb
 have HK:=Lib.hid hK
 obtain ⟨a3,c3,rfl,_⟩:=hr.shape
 have HR:=Lib.hid hr
 clear hK hr
 obtain ⟨lb,hlb⟩:∃ lb,bs.length=lb:=⟨_,rfl⟩
 obtain ⟨M,hM⟩:∃ M,zal d=M:=⟨_,rfl⟩
 obtain ⟨lo,hlo⟩:∃ lo,((zad M n).getD []).length=lo:=⟨_,rfl⟩
 rw [hlb] at hl
 have hlo2:lo≤4194304:=by rw [← hlo,← hM];exact zcF h.inv.now n
 have hMl:M.length≤5000:=by rw [← hM];have:=zdj d;omega
 obtain ⟨x1,hx1⟩:∃ x1:Int,min at_ (lo:Int)+(lb:Int)=x1:=⟨_,rfl⟩
 obtain ⟨A0,hA0⟩:∃ A0:Int,max (lo:Int) x1-(lo:Int)=A0:=⟨_,rfl⟩
 have hA1:0≤A0∧A0≤1000000:=by omega
 have hw1:wrap64 (min at_ (lo:Int)+(lb:Int))=x1:=by
  have h1 : -9223372036854775808≤at_:=hat.1
  unfold wrap64;omega
 have hw2:wrap64 (max (lo:Int) x1-(lo:Int))=A0:=by unfold wrap64;omega
 have hsumb:∀ p:File→Bool,0≤sumF (M.filter p)∧sumF (M.filter p)≤30000000000:=fun p=>by
  refine ⟨zfW _,?_⟩
  have h1:=(ziA (M:=4194304) (M.filter p) (fun x hx=>by
   have:=List.mem_filter.1 hx
   exact h.inv.now x (hM▸this.1))).2
  have h2:=List.length_filter_le p M
  have h3:((M.filter p).length*4194304:Nat)≤5000*4194304:=Nat.mul_le_mul_right _ (by omega)
  omega
 have HSB:=Lib.hid hsumb
 have hsM:SortF M:=hM▸h.inv.sn
 have HSM:=Lib.hid hsM
 have HL:=Lib.hid (⟨hlo2,hMl,hA1,hx1,hA0⟩:lo≤4194304∧M.length≤5000∧(0≤A0∧A0≤1000000)∧min at_ (lo:Int)+(lb:Int)=x1∧max (lo:Int) x1-(lo:Int)=A0)
 have HI:=Lib.hid h.inv
 have HSP:=Lib.hid (zjR hd hM hsM n at_ bs hlo (by rw [hlb];exact hx1) hA0)
 clear hsumb hlo2 hMl hx1 hA0 hA1 h hsM
 unfold ptrV at hst ⊢
 go_enter Try.func22,Try.ntmps22
 go_wp2_with (first | (go_at_call 29;refine hst.out.mono ?_;rintro e w1 ⟨rfl,hb1⟩;have k1:=HK.out w1 hb1;obtain ⟨q0,q1,q2,q3,q4,q5,q6⟩:=box7 k1.blk;obtain ⟨u,hlk,_,hu⟩:=k1.no.look hn;have hno:=k1.no;rw [hM] at hlk hu hno;obtain ⟨a2,c2,rfl,_⟩:=hu.shape;rw [hlo] at hlk;obtain ⟨D,hown,hsz,hDk⟩:=hno.D;have HOWN:=Lib.hid hown;have HSZ:=Lib.hid hsz;have HDK:=Lib.hid hDk;have HU:=Lib.hid hu;have HKK:=Lib.hid k1;have HB1:=Lib.hid hb1;clear hu k1 hb1 hown hsz hDk hno) | (at_len;refine wpList_len_own _ rfl _ 55 rfl TSt TBy undF RV m2 M.length D rfl HOWN.out ?_) | (at_range;refine wpList_range_own _ rfl _ 55 rfl TSt TBy keyS undF RV m2 M.length D rfl HOWN.out ?_;intro w2 hrg0 hg0 hs0) | fail)
 have HG0:=Lib.hid hg0
 have HRG:=Lib.hid hrg0
 clear hg0 hrg0 hs0
 go_frame
 go_loopw [12] (fun kv wr=>∃ (left:Lit→Bool) (cnt:Nat),kv = .int .i64 (A0+sumF (M.filter fun x=>!left (kS x.name)))∧Hid (wr.ranges Try.prog TSt RV m2 w1.heap.size M.length D left cnt)∧Hid (Below w.heap.size w wr)) (fun _ wr=>wr.rangeLeft m2 w1.heap.size)
 case atStart=>
  refine ⟨_,_,?_,HRG,Lib.hid (HB1.out.grown HG0.out HB1.out.size fun j hj=>by cases hj)⟩
  have e:(M.filter fun x=>!Maps.has D (kS x.name))=[]:=by
   rw [List.filter_eq_nil_iff]
   intro x hx
   rw [(HDK.out x.name).1,HSM.out.look hx]
   exact Bool.false_ne_true
  rw [e,zeO]
  simp
 case round=>
  obtain ⟨left,cnt,rfl,HRG1,HBW⟩:=hrel
  go_wp2_with (first | (at_next;refine wpList_next_ranges (w:=wr) rfl _ rfl TSt keyS RV Value.string id (fun key kl hk=>by obtain ⟨s,e,_⟩:=ziq hk;exact ⟨s,e⟩) (fun v y hv=>⟨v,rfl⟩) m2 w1.heap.size M.length D left cnt rfl HRG1.out ?_ ?_) | fail)
  ·intro hc0 hl0
   have eS:(M.filter fun x=>!left (kS x.name))=M:=List.filter_eq_self.2 fun x _=>by rw [hl0];rfl
   rw [eS]
   have kw:=HK.out wr HBW.out
   obtain ⟨q0,q1,q2,q3,q4,q5,q6⟩:=box7 kw.blk
   have HKW:=Lib.hid kw
   clear kw eS hl0 HRG1 hc0
   have hsp:=HSP.out
   rw [HSZ.out]
   obtain ⟨th,hth⟩:∃ th,(zad M n).isSome=th:=⟨_,rfl⟩
   rw [hth] at hsp ⊢
   have hml:=HL.out.2.1
   have hwm:wrap64 ((M.length:Int)+1)=(M.length:Int)+1:=by unfold wrap64;omega
   have hnm:=Lib.hid (zeZ n wr hn)
   obtain ⟨SM,hSM⟩:∃ SM,sumF M=SM:=⟨_,rfl⟩
   rw [hSM] at hsp ⊢
   obtain ⟨ml,hmln⟩:∃ ml,M.length=ml:=⟨_,rfl⟩
   rw [hmln] at hsp hml hwm ⊢
   cases hnb:zb1 n
   ·rw [hnb,if_pos rfl] at hsp
    have hsp:=Lib.hid hsp
    rw [hnb] at hnm
    clear hml
    cases th
    all_goals
     go_wp2_with (first | (go_at_call 30;refine hnm.out.mono ?_;rintro e w4 ⟨rfl,hb4⟩) | fail)
     go_ret
     rw [hsp.out]
     exact DPost.same h0.out (HBW.out.trans (hb4.mono HBW.out.size))
   ·rw [hnb,if_neg (by decide)] at hsp
    rw [hnb] at hnm
    by_cases h2:at_<0∨at_>(lo:Int)
    ·rw [if_pos h2] at hsp
     have hsp:=Lib.hid hsp
     by_cases h21:at_<0
     ·have c1:decide (at_<0)=true:=decide_eq_true h21
      clear h2
      cases th
      all_goals
       go_wp2_with (first | (go_at_call 30;refine hnm.out.mono ?_;rintro e w4 ⟨rfl,hb4⟩;have k4:=HK.out w4 (HBW.out.trans (hb4.mono HBW.out.size));obtain ⟨q0,q1,q2,q3,q4,q5,q6⟩:=box7 k4.blk;have HB4:=Lib.hid (HBW.out.trans (hb4.mono HBW.out.size));clear k4 hb4) | fail)
       go_ret
       rw [hsp.out]
       exact DPost.same h0.out HB4.out
     ·have c1:decide (at_<0)=false:=decide_eq_false h21
      have c2:decide (at_>(lo:Int))=true:=decide_eq_true (by omega)
      clear h2
      cases th
      all_goals
       go_wp2_with (first | (go_at_call 30;refine hnm.out.mono ?_;rintro e w4 ⟨rfl,hb4⟩;have k4:=HK.out w4 (HBW.out.trans (hb4.mono HBW.out.size));obtain ⟨q0,q1,q2,q3,q4,q5,q6⟩:=box7 k4.blk;have HB4:=Lib.hid (HBW.out.trans (hb4.mono HBW.out.size));clear k4 hb4) | fail)
       go_ret
       rw [hsp.out]
       exact DPost.same h0.out HB4.out
    ·rw [if_neg h2] at hsp
     have c1:decide (at_<0)=false:=decide_eq_false (by omega)
     have c2:decide (at_>(lo:Int))=false:=decide_eq_false (by omega)
     have H2:=Lib.hid h2
     clear h2
     by_cases h3:A0+SM>d.room∨(((if th=true then ml else ml+1:Nat):Nat):Int)>16
     ·rw [if_pos h3] at hsp
      have hsp:=Lib.hid hsp
      by_cases h31:A0+SM>d.room
      ·have c3:decide (A0+SM>d.room)=true:=decide_eq_true h31
       clear h3
       cases th
       all_goals
        go_wp2_with (first | (go_at_call 30;refine hnm.out.mono ?_;rintro e w4 ⟨rfl,hb4⟩;have k4:=HK.out w4 (HBW.out.trans (hb4.mono HBW.out.size));obtain ⟨q0,q1,q2,q3,q4,q5,q6⟩:=box7 k4.blk;have HB4:=Lib.hid (HBW.out.trans (hb4.mono HBW.out.size));clear k4 hb4) | fail)
        go_ret
        rw [hsp.out]
        exact DPost.same h0.out HB4.out
      ·have c3:decide (A0+SM>d.room)=false:=decide_eq_false h31
       cases th
       ·have c4:decide ((ml:Int)+1>16)=true:=decide_eq_true (by have:=h3.resolve_left h31;simpa using this)
        clear h3
        go_wp2_with (first | (go_at_call 30;refine hnm.out.mono ?_;rintro e w4 ⟨rfl,hb4⟩;have k4:=HK.out w4 (HBW.out.trans (hb4.mono HBW.out.size));obtain ⟨q0,q1,q2,q3,q4,q5,q6⟩:=box7 k4.blk;have HB4:=Lib.hid (HBW.out.trans (hb4.mono HBW.out.size));clear k4 hb4) | fail)
        go_ret
        rw [hsp.out]
        exact DPost.same h0.out HB4.out
       ·have c4:decide ((ml:Int)>16)=true:=decide_eq_true (by have:=h3.resolve_left h31;simpa using this)
        clear h3
        go_wp2_with (first | (go_at_call 30;refine hnm.out.mono ?_;rintro e w4 ⟨rfl,hb4⟩;have k4:=HK.out w4 (HBW.out.trans (hb4.mono HBW.out.size));obtain ⟨q0,q1,q2,q3,q4,q5,q6⟩:=box7 k4.blk;have HB4:=Lib.hid (HBW.out.trans (hb4.mono HBW.out.size));clear k4 hb4) | fail)
        go_ret
        rw [hsp.out]
        exact DPost.same h0.out HB4.out
     ·rw [if_neg h3] at hsp
      have hsp:=Lib.hid hsp
      have c3:decide (A0+SM>d.room)=false:=decide_eq_false (by omega)
      have hfit:at_+(bs.length:Int)≤4194304:=by
       have h4:=HI.out.rm.2
       obtain ⟨_,_,_,g1,g2⟩:=HL.out
       have h5:=H2.out
       have h6:=zjU (n:=n) HSM.out
       rw [hlo,hSM] at h6
       have h7:¬ A0+SM>d.room:=fun e=>h3 (.inl e)
       rw [hlb]
       omega
      have hwr:=fun (w4:World) (hb:Below w.heap.size w w4)=>zc1 (w:=w4) hn (at_:=at_) (by have:=H2.out;omega) (by have:=H2.out;have:=HL.out.1;omega) (HR.out.here.same (Same.below hb)) (by omega:bs.length≤10000000)
      have HW:=Lib.hid hwr
      have hch:=fun (w4 w5:World) (hb:Below w.heap.size w w4) (hb5:Below w4.heap.size w4 w5) (cs:List Value) (hc:ChAt w5 (fun x=>w4.heap.size≤x) ⟨1,n,at_,bs⟩ cs)=>by
       obtain ⟨g1,g2⟩:=(HK.out w5 (hb.trans (hb5.mono hb.size))).grow (w0:=w) (Nat.le_trans hb.size hb5.size) (fun x hx=>h0.out.lt hx) (hc.kept (Same.refl _ _) fun x _ hx=>Nat.le_trans hb.size hx)
       have g3:=zfJ g1 g2 hN hfit (fun _=>by rw [hM,hlo];have:=H2.out;show at_≤_;omega)
       exact g3.mono fun e w6 hp=>DPost.after (w:=w) (F:=F) (fun x hx=>hx.imp id fun h=>h.1) (Turn.below (hb.trans (hb5.mono hb.size))) hp
      have HCH:=Lib.hid hch
      clear hch hwr hfit
      cases th
      ·have c4:decide ((ml:Int)+1>16)=false:=decide_eq_false (fun e=>h3 (.inr (by simpa using e)))
       clear h3
       go_wp2_with (first | (go_at_call 30;refine hnm.out.mono ?_;rintro e w4 ⟨rfl,hb4⟩;have k4:=HK.out w4 (HBW.out.trans (hb4.mono HBW.out.size));obtain ⟨q0,q1,q2,q3,q4,q5,q6⟩:=box7 k4.blk;have HB4:=Lib.hid (HBW.out.trans (hb4.mono HBW.out.size));clear k4 hb4) | (go_at_call 34;rw [← hlb];refine (HW.out _ HB4.out).mono ?_;rintro e w5 ⟨cs,rfl,hc5,hb5⟩;have HCC:=Lib.hid (HCH.out _ _ HB4.out hb5 cs hc5)) | (go_at_call 47;refine HCC.out.mono ?_;rintro e w6 ⟨rfl,hp6⟩;have HP6:=Lib.hid hp6;clear hp6) | fail)
       go_ret
       rw [hsp.out]
       exact ⟨rfl,HP6.out⟩
      ·have c4:decide ((ml:Int)>16)=false:=decide_eq_false (fun e=>h3 (.inr (by simpa using e)))
       clear h3
       go_wp2_with (first | (go_at_call 30;refine hnm.out.mono ?_;rintro e w4 ⟨rfl,hb4⟩;have k4:=HK.out w4 (HBW.out.trans (hb4.mono HBW.out.size));obtain ⟨q0,q1,q2,q3,q4,q5,q6⟩:=box7 k4.blk;have HB4:=Lib.hid (HBW.out.trans (hb4.mono HBW.out.size));clear k4 hb4) | (go_at_call 34;rw [← hlb];refine (HW.out _ HB4.out).mono ?_;rintro e w5 ⟨cs,rfl,hc5,hb5⟩;have HCC:=Lib.hid (HCH.out _ _ HB4.out hb5 cs hc5)) | (go_at_call 47;refine HCC.out.mono ?_;rintro e w6 ⟨rfl,hp6⟩;have HP6:=Lib.hid hp6;clear hp6) | fail)
       go_ret
       rw [hsp.out]
       exact ⟨rfl,HP6.out⟩
  ·intro x c kl yd yp w3 cnt3 hkey hlk2 hv hat3 hrg3 hlt3 hg3 hs3 hen
   obtain ⟨s,es,rfl⟩:=ziq hkey
   simp only [Value.string.injEq] at es
   subst es
   have ey:yd = .held c:=by
    unfold RV at hv
    simp only [Option.some.injEq,Prod.mk.injEq] at hv
    exact hv.1.symm
   subst ey
   have hhas:=Maps.has_true_of_atKey hat3
   rw [(HDK.out x).1] at hhas
   obtain ⟨b2,hb2⟩:=Option.isSome_iff_exists.1 hhas
   obtain ⟨u2,g1,g2⟩:=(HDK.out x).2 b2 hb2
   have ec:=(hat3 (.held c)).symm.trans (g1 _)
   simp only [DataW.held.injEq] at ec
   subst ec
   obtain ⟨a4,c4,rfl,_⟩:=g2.shape
   have hstep:=zhl HSM.out hb2 (fun y=>!left (kS y.name)) (fun y e=>by rw [e,hlk2];rfl)
   have e3:(fun y:File=>!left (kS y.name)||eqN y.name x)=fun y=>!(left (kS y.name)&&!(kS y.name).sameKey (kS x)):=by
    funext y
    rw [ziZ]
    cases left (kS y.name)<;>cases eqN y.name x<;>rfl
   rw [e3] at hstep
   have hb3:=HSB.out (fun y=>!(left (kS y.name)&&!(kS y.name).sameKey (kS x)))
   have hb4:=HSB.out (fun y=>!left (kS y.name))
   have hA:=HL.out.2.2.1
   obtain ⟨s1,hs1⟩:∃ s1,sumF (M.filter fun y=>!left (kS y.name))=s1:=⟨_,rfl⟩
   obtain ⟨s2,hs2⟩:∃ s2,sumF (M.filter fun y=>!(left (kS y.name)&&!(kS y.name).sameKey (kS x)))=s2:=⟨_,rfl⟩
   rw [hs1] at hb4 hstep ⊢
   rw [hs2] at hb3 hstep
   have hw3:wrap64 (A0+s1+(b2.length:Int))=A0+s2:=by unfold wrap64;omega
   have hS2:=Lib.hid hs2
   have HRG3:=Lib.hid hrg3
   have HBW3:=Lib.hid (HBW.out.grown hg3 HBW.out.size fun j hj=>by cases hj;exact HB1.out.size)
   clear hs2 hrg3 hg3 hb3 hb4 hstep e3 hat3 g1 g2 hv hA hs1
   go_wp2
   go_roundw
   case rel=>
    refine ⟨fun z=>left z&&!z.sameKey (kS x),cnt3,?_,HRG3,HBW3⟩
    rw [hS2.out,hw3]
   case measure=>rw [HRG3.out.left_eq,HRG1.out.left_eq];exact hlt3
theorem zeq:∀ {L:List (List Value)} {i j:Nat},(∀ r∈L,r.length=5)→i<L.length→j<5→L.flatten[i*5+j]? = some ((L.getD i []).getD j undef)
 | r::L,0,j,h,_,hj=>by
  have hr:=h r (List.mem_cons_self ..)
  rw [List.flatten_cons,List.getElem?_append_left (by omega)]
  simp [List.getD,show 0*5+j<r.length by omega,show j<r.length by omega]
 | r::L,i+1,j,h,hi,hj=>by
  have hr:=h r (List.mem_cons_self ..)
  rw [List.flatten_cons,List.getElem?_append_right (by omega)]
  have e:(i+1)*5+j-r.length=i*5+j:=by omega
  rw [e,zeq (fun x hx=>h x (List.mem_cons_of_mem _ hx)) (by simpa using hi) hj]
  rfl
theorem zbW:∀ {L:List (List Value)},(∀ r∈L,r.length=5)→L.flatten.length=L.length*5
 | [],_=>rfl
 | r::L,h=>by
  rw [List.flatten_cons,List.length_append,zbW fun x hx=>h x (List.mem_cons_of_mem _ hx),h r (List.mem_cons_self ..),List.length_cons]
  omega
structure RowB (w:World) (g cap:Nat) (L:List (List Value)):Prop where
 c:∃ cur:Array Value,w.heap[g]? = some (.cells cur TCh (0,0))∧cur.size=cap*5∧cur.toList.take (L.length*5)=L.flatten
 le:L.length≤cap
 cm:cap≤maxLen
 five:∀ r∈L,r.length=5
theorem RowB.of_own {w:World} {g n cap:Nat} {L:List (List Value)} (h:w.ownsRow 0 TCh 5 (.slice (some ⟨g,0,none⟩) n cap) n L.flatten) (h5:∀ r∈L,r.length=5) (hn:L.length=n):RowB w g cap L:=by
 rcases h.2 with ⟨h2,_⟩ | ⟨g',cap',cur,hv,h3,h4,h5',h6,h7,h8⟩
 ·cases h2
 ·simp only [Value.slice.injEq,Option.some.injEq,Addr.mk.injEq,and_true,true_and] at hv
  obtain ⟨rfl,rfl⟩:=hv
  exact ⟨⟨cur,h4,h7,by rw [hn];exact h8⟩,by omega,h6,h5⟩
theorem RowB.own {w:World} {g cap:Nat} {L:List (List Value)} (h:RowB w g cap L):w.ownsRow 0 TCh 5 (.slice (some ⟨g,0,none⟩) L.length cap) L.length L.flatten:=by
 obtain ⟨cur,h1,h2,h3⟩:=h.c
 exact ⟨zbW h.five,.inr ⟨g,cap,cur,rfl,Nat.zero_le _,h1,h.le,h.cm,h2,h3⟩⟩
theorem RowB.kept {w w':World} {g cap:Nat} {L:List (List Value)} (h:RowB w g cap L) (e:w'.heap[g]? = w.heap[g]?):RowB w' g cap L:=by
 obtain ⟨cur,h1,h2⟩:=h.c
 exact ⟨⟨cur,e.trans h1,h2⟩,h.le,h.cm,h.five⟩
theorem RowB.lt {w:World} {g cap:Nat} {L:List (List Value)} (h:RowB w g cap L):g<w.heap.size:=by
 obtain ⟨cur,h1,_⟩:=h.c
 exact (Array.getElem?_eq_some_iff.1 h1).1
theorem RowB.cell {w:World} {g cap:Nat} {L:List (List Value)} (h:RowB w g cap L) {i j:Nat} (hi:i<L.length) (hj:j<5):w.cell? ⟨g,i*5+j,none⟩=some ((L.getD i []).getD j undef)∧w.frozen? ⟨g,i*5+j,none⟩=false:=by
 obtain ⟨cur,h1,h2,h3⟩:=h.c
 have e:=zeq h.five hi hj
 rw [← h3,List.getElem?_take_of_lt (by omega),Array.getElem?_toList] at e
 exact ⟨by simp [World.cell?,h1,e],by simp [World.frozen?,h1]⟩
theorem RowB.take {w:World} {g cap:Nat} {L:List (List Value)} (h:RowB w g cap L) (k:Nat):RowB w g cap (L.take k):=by
 obtain ⟨cur,h1,h2,h3⟩:=h.c
 have h5:=zbW (L:=L.take k) fun r hr=>h.five r (List.mem_of_mem_take hr)
 have e0:L.flatten=(L.take k).flatten++(L.drop k).flatten:=by rw [← List.flatten_append,List.take_append_drop]
 have e:L.flatten.take ((L.take k).length*5)=(L.take k).flatten:=by
  rw [e0]
  exact List.take_left' h5
 refine ⟨⟨cur,h1,h2,?_⟩,Nat.le_trans (by rw [List.length_take];omega) h.le,h.cm,fun r hr=>h.five r (List.mem_of_mem_take hr)⟩
 rw [← e,← h3,List.take_take]
 congr 1
 rw [List.length_take]
 omega
theorem zbs {α:Type} {l:List α} {i n:Nat} {x:α}:(l.set i x).take n=(l.take n).set i x:=by
 refine List.ext_getElem? fun k=>?_
 by_cases hk:k<n
 ·rw [List.getElem?_take_of_lt hk,List.getElem?_set,List.getElem?_set,List.getElem?_take_of_lt hk]
  simp only [List.length_take]
  by_cases e:i=k
  ·subst e
   simp only [if_true]
   congr 1
   simp only [eq_iff_iff]
   omega
  ·simp [e]
 ·rw [List.getElem?_eq_none (by simp;omega),List.getElem?_eq_none (by simp;omega)]
theorem zep:∀ {L:List (List Value)} {i:Nat} {a0 a1 a2 a3 a4:Value},(∀ r∈L,r.length=5)→i<L.length →
  ((((L.flatten.set (i*5+0) a0).set (i*5+1) a1).set (i*5+2) a2).set (i*5+3) a3).set (i*5+4) a4=(L.set i [a0,a1,a2,a3,a4]).flatten
 | r::L,0,a0,a1,a2,a3,a4,h,_=>by
  have hr:=h r (List.mem_cons_self ..)
  match r,hr with
  | [x0,x1,x2,x3,x4],_=>rfl
 | r::L,i+1,a0,a1,a2,a3,a4,h,hi=>by
  have hr:=h r (List.mem_cons_self ..)
  have ih:=zep (L:=L) (i:=i) (a0:=a0) (a1:=a1) (a2:=a2) (a3:=a3) (a4:=a4) (fun x hx=>h x (List.mem_cons_of_mem _ hx)) (by simpa using hi)
  rw [List.set_cons_succ,List.flatten_cons,List.flatten_cons,← ih]
  have e:∀ k,(i+1)*5+k-r.length=i*5+k:=fun k=>by omega
  rw [List.set_append_right _ _ (by omega),List.set_append_right _ _ (by omega),List.set_append_right _ _ (by omega),List.set_append_right _ _ (by omega),List.set_append_right _ _ (by omega)]
  simp only [e]
theorem RowB.set1 {w:World} {g cap:Nat} {cur:Array Value} (h1:w.heap[g]? = some (.cells cur TCh (0,0))) (k:Nat) (u:Value):(w.setCell ⟨g,k,none⟩ u).heap[g]? = some (.cells (cur.setIfInBounds k u) TCh (0,0)):=by
 simp [World.setCell,Array.getElem?_modify,h1]
theorem RowB.set {w:World} {g cap:Nat} {L:List (List Value)} (h:RowB w g cap L) {i:Nat} (hi:i<L.length) (a0 a1 a2 a3 a4:Value) :
  RowB (((((w.setCell ⟨g,i*5+0,none⟩ a0).setCell ⟨g,i*5+1,none⟩ a1).setCell ⟨g,i*5+2,none⟩ a2).setCell ⟨g,i*5+3,none⟩ a3).setCell ⟨g,i*5+4,none⟩ a4) g cap (L.set i [a0,a1,a2,a3,a4]):=by
 obtain ⟨cur,h1,h2,h3⟩:=h.c
 refine ⟨⟨_,RowB.set1 (cap:=cap) (RowB.set1 (cap:=cap) (RowB.set1 (cap:=cap) (RowB.set1 (cap:=cap) (RowB.set1 (cap:=cap) h1 _ _) _ _) _ _) _ _) _ _,by simpa using h2,?_⟩,by simpa using h.le,h.cm,fun r hr=>?_⟩
 ·simp only [Array.toList_setIfInBounds,List.length_set]
  rw [zbs,zbs,zbs,zbs,zbs,h3]
  exact zep h.five hi
 ·rcases List.mem_or_eq_of_mem_set hr with hr | rfl
  ·exact h.five r hr
  ·rfl
theorem zkm {α:Type} {l:List α} (h:l.length=5):∃ x0 x1 x2 x3 x4,l=[x0,x1,x2,x3,x4]:=by
 match l,h with
 | [x0,x1,x2,x3,x4],_=>exact ⟨x0,x1,x2,x3,x4,rfl⟩
theorem zi8 {w:World} {S:Nat→Prop} {c:DChange} {cs:List Value} {p:Nat} {n:ByteArray} (hc:ChAt w S c cs) (hp:Blk w p TSt #[.string n]) :
  Calls Try.prog 32 #[.agg cs.toArray,ptrV p] w fun e w'=>e = .returned (.bool (ofF n c))∧Below w.heap.size w w':=by
 obtain ⟨dv,bv,rfl,h1,h2⟩:=hc.D
 have hlt:=hp.lt
 have q0:=box1 (hp.alloc (.cells #[.string c.file,dv,.int .i64 (chAt c),bv,.bool (c.kind==1)] TCh))
 clear h1 h2 hc hp
 unfold ptrV
 go_enter Try.func32,Try.ntmps32
 go_wp2_with fail
 go_ret
 exact ⟨rfl,(Below.refl _ _).alloc (Nat.le_refl _) _⟩
def FirstP (p:Nat→Bool) (n:Nat) (k:Int):Prop:=(k = -1∧∀ i,i<n→p i=false)∨∃ k0:Nat,k=k0∧k0<n∧p k0=true∧∀ i,i<k0→p i=false
def zjL (w:World) (S:Nat→Prop) (gf:FuncId) (lb:List Value) (L:List (List Value)) (p:Nat→Bool):Prop:=
 ∀ (w':World) (i:Nat),Same S w w'→w.heap.size≤w'.heap.size→i<L.length→Calls Try.prog gf (.agg (L.getD i []).toArray::lb).toArray w' fun e w''=>e = .returned (.bool (p i))∧Below w'.heap.size w' w''
set_option maxHeartbeats 1000000 in
theorem zf6 {w:World} {S:Nat→Prop} {g cap:Nat} {L:List (List Value)} {gf:FuncId} {lb:List Value} {p:Nat→Bool} (h:RowB w g cap L) (hS:∀ x,S x→x<w.heap.size) (hp:zjL w S gf lb L p) (hB:FnB Try.prog gf) (hn:L.length≤1000000) :
  Calls Try.prog 53 #[.slice (some ⟨g,0,none⟩) L.length cap,.func (.func gf) #[] lb.toArray] w fun e w'=>∃ k,e = .returned (.int .i64 k)∧FirstP p L.length k∧Below w.heap.size w w':=by
 have hcf:=zaq hB
 have H:=Lib.hid h
 have HP:=Lib.hid hp
 have HS:=Lib.hid hS
 have hcl:=h.le
 obtain ⟨n,hnn⟩:∃ n,L.length=n:=⟨_,rfl⟩
 rw [hnn] at hn hcl ⊢
 clear h hp hS
 go_enter Try.func53,Try.ntmps53
 go_wp2
 go_loopw [8] (fun kv wr=>∃ (k:Nat),kv = .int .i64 k∧k≤n∧(∀ i,i<k→p i=false)∧Hid (Below w.heap.size w wr)) (fun kv _=>n-(intOf kv).toNat)
 case atStart=>exact ⟨0,rfl,Nat.zero_le _,fun i hi=>absurd hi (Nat.not_lt_zero _),Lib.hid (Below.refl _ _)⟩
 case round=>
  obtain ⟨k,rfl,hk,h0,HB⟩:=hrel
  have H0:=Lib.hid h0
  clear h0
  by_cases hlt:k<n
  ·have hltz:(k:Int)<(n:Int):=by omega
   have hk0:(0:Int)≤(k:Int):=Int.natCast_nonneg k
   have hw:wrap64 ((k:Int)+1)=(k:Int)+1:=by unfold wrap64;omega
   have hrow:=H.out.kept (HB.out.block g H.out.lt)
   obtain ⟨x0,x1,x2,x3,x4,hx⟩:∃ x0 x1 x2 x3 x4,L.getD k []=[x0,x1,x2,x3,x4]:=zkm (by
    have e:L.getD k []=L[k]:=by simp [List.getD,show k<L.length by omega]
    rw [e];exact H.out.five _ (List.getElem_mem _))
   have c0:=(hrow.cell (i:=k) (j:=0) (by omega) (by omega)).1
   have c1:=(hrow.cell (i:=k) (j:=1) (by omega) (by omega)).1
   have c2:=(hrow.cell (i:=k) (j:=2) (by omega) (by omega)).1
   have c3:=(hrow.cell (i:=k) (j:=3) (by omega) (by omega)).1
   have c4:=(hrow.cell (i:=k) (j:=4) (by omega) (by omega)).1
   have hcall:=HP.out wr k ⟨HB.out.size,fun x hx hl=>HB.out.block x hl⟩ HB.out.size (by omega)
   rw [hx] at c0 c1 c2 c3 c4 hcall
   simp only [List.getD_cons_zero,List.getD_cons_succ,Nat.add_zero] at c0 c1 c2 c3 c4
   have HC:=Lib.hid hcall
   clear hrow hcall hx
   go_wp2_with fail
   refine HC.out.mono ?_
   rintro e w2 ⟨rfl,hb2⟩
   have HB2:=Lib.hid (HB.out.trans (hb2.mono HB.out.size))
   clear hb2
   cases hpk:p k
   ·go_wp2
    go_roundw
    case rel=>
     refine ⟨k+1,by first | rfl | (rw [hw];rfl) | simp [hw],by omega,fun i hi=>?_,HB2⟩
     by_cases e:i=k
     ·rw [e];exact hpk
     ·exact H0.out i (by omega)
    case measure=>simp [intOf,hw];omega
   ·go_wp2
    go_ret
    exact ⟨_,rfl,.inr ⟨k,rfl,hlt,hpk,H0.out⟩,HB2.out⟩
  ·have hltz:¬ (k:Int)<(n:Int):=by omega
   obtain rfl:k=n:=by omega
   go_wp2
   go_ret
   exact ⟨_,rfl,.inl ⟨rfl,H0.out⟩,HB.out⟩
theorem zdt {P:Program} {ops:Array Oper} {rest:List Oper} {o:Oper} {a:Act} {Q:Exit→Act→World→Prop} {w w':World} (hgd:o.guard=none) (x:Operand) (t:TypeId)
  (ho:o.op = .call {callee:= .builtin .clear,args:= #[x],argTypes:= #[t]}) (xv:Value) (hx:a.eval x=xv) (hrun:(Builtin.clear_ #[t] o.type #[xv]).run P w = .ok (.tuple #[]) w') (h:wpList P ops Q rest (a.put o.dst (.tuple #[])) w'):wpList P ops Q (o::rest) a w:=by
 refine wpList_plain hgd fun K hK=>?_
 unfold Oper.wp execOp
 simp only [ho,resolve,invoke,builtin,Sem.run_bind,Sem.run_pure,Result.andThen_ok,List.map_toArray,List.map_cons,List.map_nil,hx,hrun]
 exact hK _ _ h
theorem zjO (w:World):(zeroValue TCh).run Try.prog w = .ok zCh w:=by kernel_rfl
theorem zfu {w:World} {g cap o n c:Nat} {L:List (List Value)} (h:RowB w g cap L) (hn:0<n) (ho:o*5+n*5≤cap*5) (hoL:o≤L.length) (ty:TypeId) :
  ∃ w',(Builtin.clear_ #[TRw] ty #[.slice (some ⟨g,o*5,none⟩) n c]).run Try.prog w = .ok (.tuple #[]) w'∧RowB w' g cap (L.take o)∧Turn (fun x=>x=g) w w':=by
 have ht:=h.take o
 obtain ⟨cur,h1,h2,h3⟩:=ht.c
 obtain ⟨m,rfl⟩:∃ m,n=m+1:=⟨n-1,by omega⟩
 obtain ⟨vs,hvs⟩:∃ vs,(Builtin.zeroCells zCh.cells (m+1)).toList=vs:=⟨_,rfl⟩
 have hvl:vs.length=(m+1)*5:=by
  rw [← hvs]
  simp [Builtin.zeroCells,zCh,Value.cells]
 have hv1:∀ u∈vs,u.oneCell'=true:=by
  intro u hu
  rw [← hvs] at hu
  simp only [Builtin.zeroCells,Array.toList_map,List.mem_map] at hu
  obtain ⟨i,_,rfl⟩:=hu
  have hi:(i % zCh.cells.size)=0∨(i % zCh.cells.size)=1∨(i % zCh.cells.size)=2∨(i % zCh.cells.size)=3∨(i % zCh.cells.size)=4:=by
   have:zCh.cells.size=5:=rfl
   rw [this];omega
  rcases hi with e | e | e | e | e
  all_goals (rw [e];rfl)
 have hst:=run_storeCells_at Try.prog g (o*5) TCh vs 0 cur w h1 (by rw [hvl,h2];omega) hv1
 obtain ⟨nw,hnw⟩:∃ nw,(cur.toList.take (o*5+0)++vs++cur.toList.drop (o*5+0+vs.length)).toArray=nw:=⟨_,rfl⟩
 rw [hnw] at hst
 refine ⟨w.setRow g nw,?_,⟨⟨nw,setRow_heap w g cur nw TCh _ h1,?_,?_⟩,ht.le,ht.cm,ht.five⟩,⟨rfl,rfl,rfl,by simp [World.setRow],fun b _ hb=>setRow_other w g b _ hb⟩⟩
 ·simp only [Builtin.clear_,Sem.run_bind,run_underlying undR,zjO,Result.andThen]
  have hvs2:(Builtin.zeroCells (Value.agg #[.string ⟨#[]⟩,.nilFunc,.int .i64 0,.slice none 0 0,.bool false]).cells (m+1)).toList=vs:=hvs
  simp [run_underlying undR,zjO,zCh]
  rw [hvs2,hst]
  rfl
 ·rw [← hnw]
  simp [h2,hvl]
  omega
 ·rw [← hnw]
  have e:(L.take o).length=o:=by rw [List.length_take];omega
  rw [e] at h3 ⊢
  simp only [Nat.add_zero,List.append_assoc]
  have h5:=zbW ht.five
  rw [e] at h5
  have hl:(cur.toList.take (o*5)).length=o*5:=by rw [h3];exact h5
  rw [List.take_left' hl]
  exact h3
def kp (L:List (List Value)) (p:Nat→Bool) (j:Nat):List (List Value):=((List.range j).filter fun t=>!p t).map fun t=>L.getD t []
theorem zd8 (L:List (List Value)) (p:Nat→Bool) (j:Nat):kp L p (j+1)=if p j then kp L p j else kp L p j++[L.getD j []]:=by
 unfold kp
 rw [List.range_succ,List.filter_append,List.map_append]
 cases h:p j<;>simp [h]
theorem zip {L:List (List Value)} {p:Nat→Bool} {j:Nat} (hj:j≤L.length) (h:∀ i,i<j→p i=false):kp L p j=L.take j:=by
 induction j with
 | zero=>simp [kp]
 | succ j ih=>
  rw [zd8,h j (Nat.lt_succ_self _),ih (by omega) fun i hi=>h i (by omega)]
  simp only [Bool.false_eq_true,if_false]
  rw [zbF (d:=[]) (by omega)]
theorem zfe (p:Nat→Bool):∀ n,(∀ i,i<n→p i=false)∨∃ k,k<n∧p k=true∧∀ i,i<k→p i=false
 | 0=> .inl fun i hi=>absurd hi (Nat.not_lt_zero _)
 | n+1=>by
  rcases zfe p n with h | ⟨k,h1,h2,h3⟩
  ·cases hp:p n
   ·exact .inl fun i hi=>by
     by_cases e:i=n
     ·rw [e];exact hp
     ·exact h i (by omega)
   ·exact .inr ⟨n,Nat.lt_succ_self _,hp,h⟩
  ·exact .inr ⟨k,by omega,h2,h3⟩
theorem FirstP.none {p:Nat→Bool} {n:Nat} {k:Int} (h:FirstP p n k) (h0:∀ i,i<n→p i=false):k = -1:=by
 rcases h with ⟨e,_⟩ | ⟨k0,_,h1,h2,_⟩
 ·exact e
 ·rw [h0 k0 h1] at h2;cases h2
theorem FirstP.some {p:Nat→Bool} {n:Nat} {k:Int} (h:FirstP p n k) {k1:Nat} (h1:k1<n) (h2:p k1=true) (h3:∀ i,i<k1→p i=false):k=k1:=by
 rcases h with ⟨_,e⟩ | ⟨k0,e,g1,g2,g3⟩
 ·rw [e k1 h1] at h2;cases h2
 ·rcases Nat.lt_trichotomy k0 k1 with c | c | c
  ·rw [h3 k0 c] at g2;cases g2
  ·rw [e,c]
  ·rw [g3 k1 c] at h2;cases h2
theorem zae {P:Program} {v:Value} (h1:v.oneCell'=true) (w:World) (a:Addr) (h:(w.cell? a).isSome=true) (hf:w.frozen? a=false):(store a v).run P w = .ok () (w.setCell a v):=by
 obtain ⟨u,hu⟩:=Option.isSome_iff_exists.1 h
 rw [run_store P w a v _ h1,hu]
 simp [hf]
def zhe (w:World) (g cap:Nat) (K:List (List Value)) (e:Ending) (w':World):Prop:=e = .returned (.slice (some ⟨g,0,none⟩) K.length cap)∧RowB w' g cap K∧Turn (fun x=>x=g) w w'
set_option maxHeartbeats 4000000 in
theorem zhJ {w:World} {S:Nat→Prop} {g cap:Nat} {L:List (List Value)} {gf:FuncId} {lb:List Value} {p:Nat→Bool} (h:RowB w g cap L) (hS:∀ x,S x→x<w.heap.size∧x≠g) (hp:zjL w S gf lb L p) (hB:FnB Try.prog gf) (hone:∀ r∈L,∀ u∈r,u.oneCell'=true) (hn:L.length≤1000000) :
  Calls Try.prog 31 #[.slice (some ⟨g,0,none⟩) L.length cap,.func (.func gf) #[] lb.toArray] w (zhe w g cap (kp L p L.length)):=by
 have hcf:=zaq hB
 have hI0:=zf6 h (fun x hx=>(hS x hx).1) hp hB hn
 have H:=Lib.hid h
 have HP:=Lib.hid hp
 have HS:=Lib.hid hS
 have HO:=Lib.hid hone
 clear hone
 have hcl:=h.le
 obtain ⟨n,hnn⟩:∃ n,L.length=n:=⟨_,rfl⟩
 rw [hnn] at hn hcl hI0 ⊢
 clear h hp hS
 rcases zfe p n with hall | ⟨k,hk,hpk,h0⟩
 ·have hI:=Lib.hid (hI0.mono (R':=fun e w'=>e = .returned (.int .i64 (-1))∧Below w.heap.size w w') fun e w' ⟨k,he,hf,hb⟩=>⟨by rw [he,hf.none hall],hb⟩)
  go_enter Try.func31,Try.ntmps31
  go_wp2_with (go_at_call 53;refine hI.out.mono ?_;rintro e w1 ⟨rfl,hb1⟩)
  go_ret
  have e:kp L p n=L:=by rw [zip (by omega) hall,← hnn,List.take_length]
  rw [e]
  exact ⟨by rw [hnn];rfl,H.out.kept (hb1.block g H.out.lt),Turn.below hb1⟩
 ·have hI:=Lib.hid (hI0.mono (R':=fun e w'=>e = .returned (.int .i64 k)∧Below w.heap.size w w') fun e w' ⟨k',he,hf,hb⟩=>⟨by rw [he,hf.some hk hpk h0],hb⟩)
  have hk1:((k:Int) == -1)=false:=beq_eq_false_iff_ne.2 (by omega)
  have hw0:wrap64 ((k:Int)+1)=((k+1:Nat):Int):=by unfold wrap64;omega
  have H0:=Lib.hid h0
  clear h0 hI0
  go_enter Try.func31,Try.ntmps31
  go_wp2_with (go_at_call 53;refine hI.out.mono ?_;rintro e w1 ⟨rfl,hb1⟩)
  have HB1:=Lib.hid hb1
  clear hb1
  go_loopw [5,6] (fun s5 s6 wr=>∃ (i j:Nat) (M:List (List Value)),s5 = .int .i64 i∧s6 = .int .i64 j∧i<j∧j≤n∧M.length=n∧Hid (i=(kp L p j).length∧RowB wr g cap M∧M.take i=kp L p j∧(∀ t,j≤t→t<n→M.getD t []=L.getD t [])∧Turn (fun x=>x=g) w wr)) (fun _ s6 _=>n-(intOf s6).toNat)
  case atStart=>
   have e:kp L p (k+1)=L.take k:=by
    rw [zd8,hpk,if_pos rfl,zip (by omega) H0.out]
   refine ⟨k,k+1,L,rfl,by first | rfl | (rw [hw0];rfl) | simp [hw0],by omega,by omega,hnn,Lib.hid ⟨by rw [e,List.length_take];omega,H.out.kept (HB1.out.block g H.out.lt),by rw [e],fun t _ _=>rfl,Turn.below HB1.out⟩⟩
  case round=>
   obtain ⟨i,j,M,rfl,rfl,hij,hj,hM,HR⟩:=hrel
   by_cases hlt:j<n
   ·have hltz:(j:Int)<(n:Int):=by omega
    have hk0:(0:Int)≤(j:Int):=Int.natCast_nonneg j
    have hi0:(0:Int)≤(i:Int):=Int.natCast_nonneg i
    have hin:(i:Int)<(n:Int):=by omega
    have hw:wrap64 ((j:Int)+1)=((j+1:Nat):Int):=by unfold wrap64;omega
    have hwi:wrap64 ((i:Int)+1)=((i+1:Nat):Int):=by unfold wrap64;omega
    obtain ⟨hil,hrow,htk,hrest,htn⟩:=HR.out
    have hML:=hrest j (Nat.le_refl _) hlt
    have hmem:L.getD j []∈L:=by
     have e:L.getD j []=L[j]:=by simp [List.getD,show j<L.length by omega]
     rw [e];exact List.getElem_mem _
    obtain ⟨x0,x1,x2,x3,x4,hx⟩:∃ x0 x1 x2 x3 x4,L.getD j []=[x0,x1,x2,x3,x4]:=zkm (H.out.five _ hmem)
    have ho:=HO.out _ hmem
    rw [hx] at ho
    have s0:= @zae Try.prog x0 (ho _ (by simp))
    have s1:= @zae Try.prog x1 (ho _ (by simp))
    have s2:= @zae Try.prog x2 (ho _ (by simp))
    have s3:= @zae Try.prog x3 (ho _ (by simp))
    have s4:= @zae Try.prog x4 (ho _ (by simp))
    have c0:=(hrow.cell (i:=j) (j:=0) (by omega) (by omega)).1
    have c1:=(hrow.cell (i:=j) (j:=1) (by omega) (by omega)).1
    have c2:=(hrow.cell (i:=j) (j:=2) (by omega) (by omega)).1
    have c3:=(hrow.cell (i:=j) (j:=3) (by omega) (by omega)).1
    have c4:=(hrow.cell (i:=j) (j:=4) (by omega) (by omega)).1
    rw [hML,hx] at c0 c1 c2 c3 c4
    simp only [List.getD_cons_zero,List.getD_cons_succ,Nat.add_zero] at c0 c1 c2 c3 c4
    have hcall:=HP.out (wr.alloc (.cells #[x0,x1,x2,x3,x4] TCh)) j ((htn.same fun x hx=>(HS.out x hx).2).trans (Same.alloc _ _ _)) (by have:=htn.size;simp;omega) (by omega)
    rw [hx] at hcall
    have HC:=Lib.hid hcall
    have HX:=Lib.hid hx
    clear hil hrow htk hrest htn hML hmem hx ho hcall
    go_wp2_with fail
    refine HC.out.mono ?_
    rintro e w2 ⟨rfl,hb2⟩
    obtain ⟨hil,hrow,htk,hrest,htn⟩:=HR.out
    have hrow2:RowB w2 g cap M:=hrow.kept ((hb2.block g (by have:=hrow.lt;simp;omega)).trans (Below.heap_alloc _ _ _ hrow.lt))
    have kx:=(Blk.new wr TCh #[x0,x1,x2,x3,x4]).next hb2
    obtain ⟨b0,b1,b2,b3,b4⟩:=box5 kx
    have ht2:Turn (fun x=>x=g) w w2:=(htn.alloc (.cells #[x0,x1,x2,x3,x4] TCh)).trans (Turn.below (F:=fun x=>x=g) hb2) fun x _ h=>h
    have HT2:=Lib.hid ht2
    have HR2:=Lib.hid hrow2
    obtain ⟨d0,e0⟩:=hrow2.cell (i:=i) (j:=0) (by omega) (by omega)
    obtain ⟨d1,e1⟩:=hrow2.cell (i:=i) (j:=1) (by omega) (by omega)
    obtain ⟨d2,e2⟩:=hrow2.cell (i:=i) (j:=2) (by omega) (by omega)
    obtain ⟨d3,e3⟩:=hrow2.cell (i:=i) (j:=3) (by omega) (by omega)
    obtain ⟨d4,e4⟩:=hrow2.cell (i:=i) (j:=4) (by omega) (by omega)
    simp only [Nat.add_zero] at d0 e0
    generalize (M.getD i []).getD 0 undef=y0 at d0
    generalize (M.getD i []).getD 1 undef=y1 at d1
    generalize (M.getD i []).getD 2 undef=y2 at d2
    generalize (M.getD i []).getD 3 undef=y3 at d3
    generalize (M.getD i []).getD 4 undef=y4 at d4
    clear hil hrow htk hrest htn hrow2 kx hb2 ht2
    cases hpj:p j
    ·go_wp2
     go_roundw
     case rel=>
      obtain ⟨hil,hrow,htk,hrest,htn⟩:=HR.out
      have ekp:kp L p (j+1)=kp L p j++[[x0,x1,x2,x3,x4]]:=by rw [zd8,hpj,HX.out];rfl
      refine ⟨i+1,j+1,M.set i [x0,x1,x2,x3,x4],by first | rfl | (rw [hwi];rfl) | simp [hwi],by first | rfl | (rw [hw];rfl) | simp [hw],by omega,by omega,by rw [List.length_set];exact hM,Lib.hid ⟨by rw [ekp,List.length_append,← hil];rfl,?_,?_,fun t h1 h2=>?_,?_⟩⟩
      ·have:=HR2.out.set (i:=i) (by omega) x0 x1 x2 x3 x4
       simpa using this
      ·have hi2:i<M.length:=by omega
       rw [zbF (d:=[]) (by rw [List.length_set];exact hi2),ekp,zbs,List.set_eq_of_length_le (by rw [List.length_take];omega),htk]
       congr 2
       simp [List.getD,hi2]
      ·rw [List.getD_eq_getElem?_getD,List.getElem?_set_ne (by omega),← List.getD_eq_getElem?_getD]
       exact hrest t (by omega) h2
      ·exact ((((HT2.out.set (.inl rfl) _).set (.inl rfl) _).set (.inl rfl) _).set (.inl rfl) _).set (.inl rfl) _
     case measure=>simp [intOf,hw];omega
    ·go_wp2
     go_roundw
     case rel=>
      obtain ⟨hil,hrow,htk,hrest,htn⟩:=HR.out
      have ekp:kp L p (j+1)=kp L p j:=by rw [zd8,hpj];rfl
      exact ⟨i,j+1,M,rfl,by first | rfl | (rw [hw];rfl) | simp [hw],by omega,by omega,hM,Lib.hid ⟨by rw [ekp];exact hil,HR2.out,by rw [ekp];exact htk,fun t h1 h2=>hrest t (by omega) h2,HT2.out⟩⟩
     case measure=>simp [intOf,hw];omega
   ·have hltz:¬ (j:Int)<(n:Int):=by omega
    obtain rfl:j=n:=by omega
    obtain ⟨hil,hrow,htk,hrest,htn⟩:=HR.out
    have hMt:M.take i=kp L p j:=htk
    obtain ⟨w9,hcl9,hr9,ht9⟩:=zfu (w:=wr) (g:=g) (cap:=cap) (o:=i) (n:=j-i) (c:=cap-i) hrow (by omega) (by omega) (by omega) 0
    have HF:Hid (zhe w g cap (kp L p j) (.returned (.slice (some ⟨g,0,none⟩) i cap)) w9):=Lib.hid ⟨by rw [hil],by rw [← htk];exact hr9,htn.trans ht9 fun x _ h=>h⟩
    have HCL:=Lib.hid hcl9
    have hi0:(0:Int)≤(i:Int):=Int.natCast_nonneg i
    have hin:(i:Int)≤(j:Int):=by omega
    have hic:(i:Int)≤(cap:Int):=by omega
    have hne:¬ cap=i:=by omega
    clear hil hrow htk hrest htn hMt hcl9 hr9 ht9
    go_wp2_with (refine zdt rfl (.tmp 38) 56 rfl (.slice (some ⟨g,i*5,none⟩) (j-i) (cap-i)) rfl HCL.out ?_)
    go_ret
    exact HF.out
def zi1:Option (List Int)→List DChange→Prop
 | _,[]=>True
 | o,c::cs=>(c.kind=1→c.at_≤(o.getD []).length)∧zi1 (zfE c o) cs
theorem zeb:∀ (cs:List DChange) (l:List File),zeE l cs↔∀ n,zi1 (zad l n) (cs.filter (ofF n))
 | [],l=>⟨fun _ _=>trivial,fun _=>trivial⟩
 | c::cs,l=>by
  have ih:=zeb cs (zaf l c)
  constructor
  ·rintro ⟨h1,h2⟩ n
   have h3:=ih.1 h2 n
   rw [zbu] at h3
   rw [List.filter_cons]
   cases e:eqN c.file n
   ·rw [e] at h3
    rw [if_neg (by unfold ofF;rw [e];decide)]
    simpa using h3
   ·rw [e,if_pos rfl] at h3
    rw [if_pos (show ofF n c=true from e)]
    have:=eqN_iff.1 e
    subst this
    exact ⟨h1,h3⟩
  ·intro h
   have h1:=h c.file
   rw [List.filter_cons,if_pos (show ofF c.file c=true from zar _)] at h1
   refine ⟨h1.1,ih.2 fun n=>?_⟩
   rw [zbu]
   have h2:=h n
   rw [List.filter_cons] at h2
   cases e:eqN c.file n
   ·rw [if_neg (by unfold ofF;rw [e];decide)] at h2
    simpa using h2
   ·have:=eqN_iff.1 e
    subst this
    rw [if_pos rfl]
    exact h1.2
theorem zf9 (n m:ByteArray) (cs:List DChange):(cs.filter fun c=>!ofF n c).filter (ofF m)=if m=n then [] else cs.filter (ofF m):=by
 rw [List.filter_filter]
 split
 ·rename_i e
  subst e
  have e1:∀ c,(ofF m c&&!ofF m c)=false:=fun c=>by cases ofF m c<;>rfl
  simp only [e1,zbX]
 ·rename_i e
  refine List.filter_congr fun c _=>?_
  cases hc:ofF m c
  ·rfl
  ·have h1:ofF n c=false:=eqN_no.2 fun e2=>e ((eqN_iff.1 hc).symm.trans e2)
   rw [h1];rfl
theorem zfA (n m:ByteArray) (cs:List DChange) (h:m≠n):(cs.filter (ofF n)).filter (ofF m)=[]:=by
 rw [List.filter_filter]
 have e1:∀ c,(ofF m c&&ofF n c)=false:=fun c=>by
  cases hc:ofF m c
  ·rfl
  ·have h1:ofF n c=false:=eqN_no.2 fun e2=>h ((eqN_iff.1 hc).symm.trans e2)
   rw [h1];rfl
 simp only [e1,zbX]
theorem zfx {l:List File} {cs:List DChange} (h:zeE l cs) (n:ByteArray):zeE ((cs.filter (ofF n)).foldl zaf l) (cs.filter fun c=>!ofF n c):=by
 rw [zeb] at h ⊢
 intro m
 rw [zf9]
 split
 ·trivial
 ·rename_i e
  rw [zaY,zfA _ _ _ e]
  exact h m
theorem zju {l:List File} {c:DChange} (hl:∀ x∈l,NmOk x.name) (hc:NmOk c.file):∀ x∈zaf l c,NmOk x.name:=by
 intro x hx
 unfold zaf at hx
 split at hx
 ·rcases za6 hx with e | hx
  ·subst e;exact hc
  ·exact hl x hx
 ·split at hx
  ·split at hx
   ·exact hl x hx
   ·rcases za6 hx with e | hx
    ·subst e;exact hc
    ·exact hl x hx
  ·exact hl x (List.mem_filter.1 hx).1
theorem zdG:∀ (cs:List DChange) (l:List File),(∀ x∈l,NmOk x.name)→(∀ c∈cs,NmOk c.file)→∀ x∈cs.foldl zaf l,NmOk x.name
 | [],l,hl,_=>hl
 | c::cs,l,hl,hc=>zdG cs (zaf l c) (zju hl (hc c (List.mem_cons_self ..))) fun x hx=>hc x (List.mem_cons_of_mem _ hx)
def sy1 (d:RDisk) (n:ByteArray):RDisk:={d with lasts:=(d.changes.filter (ofF n)).foldl zaf d.lasts,changes:=d.changes.filter (fun c=>!ofF n c)}
theorem zfC {d:RDisk} (h:SortF d.lasts) (n:ByteArray):zal (sy1 d n)=zal d:=zfr h d.changes n
theorem DkI.sync {d:RDisk} (h:DkI d) (n:ByteArray):DkI (sy1 d n):=
 ⟨h.sl.dones _,za7 _ _ h.fb fun c hc=>by have:=h.ch c (List.mem_filter.1 hc).1;exact ⟨this.1,this.2.1⟩,fun c hc=>h.ch c (List.mem_filter.1 hc).1,zdG _ _ h.nm fun c hc=>(h.ch c (List.mem_filter.1 hc).1).2.2,zfx h.np n,h.rm,h.i64⟩
theorem zej (cs:List DChange) (rows:List (List Value)) (n:ByteArray):(cs.filter fun c=>!ofF n c)=((List.range cs.length).filter fun t=>!ofF n (cs.getD t default)).map fun t=>cs.getD t default:=by
 have key:∀ (l:List DChange) (f:DChange→Bool),l.filter f=((List.range l.length).filter fun t=>f (l.getD t default)).map fun t=>l.getD t default:=by
  intro l f
  have e:l=(List.range l.length).map fun t=>l.getD t default:=by
   refine List.ext_getElem? fun i=>?_
   rw [List.getElem?_map]
   by_cases hi:i<l.length
   ·simp [hi,List.getD]
   ·rw [List.getElem?_eq_none (by omega),List.getElem?_eq_none (by simp;omega)]
    rfl
  conv=>lhs;rw [e]
  rw [List.filter_map]
  rfl
 exact key cs _
theorem kp_at {cs:List DChange} {rows:List (List Value)} (n:ByteArray) (hl:rows.length=cs.length) {i:Nat} (hi:i<(cs.filter fun c=>!ofF n c).length) :
  ∃ t,t<cs.length∧(cs.filter fun c=>!ofF n c).getD i default=cs.getD t default∧(kp rows (fun t=>ofF n (cs.getD t default)) cs.length).getD i []=rows.getD t []:=by
 rw [zej cs rows n] at hi ⊢
 rw [List.length_map] at hi
 unfold kp
 have hm:=List.getElem_mem hi
 have h1:=List.mem_range.1 (List.mem_filter.1 hm).1
 refine ⟨((List.range cs.length).filter fun t=>!ofF n (cs.getD t default))[i],h1,?_,?_⟩
 ·rw [List.getD_eq_getElem?_getD,List.getElem?_map,List.getElem?_eq_getElem hi];rfl
 ·rw [List.getD_eq_getElem?_getD,List.getElem?_map,List.getElem?_eq_getElem hi];rfl
theorem zio (cs:List DChange) (rows:List (List Value)) (n:ByteArray):(kp rows (fun t=>ofF n (cs.getD t default)) cs.length).length=(cs.filter fun c=>!ofF n c).length:=by
 rw [zej cs rows n]
 unfold kp
 rw [List.length_map,List.length_map]
theorem zcr (cs:List DChange) (l:List File) (n:ByteArray) {j:Nat} (hj:j<cs.length):((cs.take (j+1)).filter (ofF n)).foldl zaf l=if ofF n (cs.getD j default) then zaf (((cs.take j).filter (ofF n)).foldl zaf l) (cs.getD j default) else ((cs.take j).filter (ofF n)).foldl zaf l:=by
 rw [zbF (d:=default) hj,List.filter_append]
 cases h:ofF n (cs.getD j default)
 ·rw [List.filter_cons,if_neg (by rw [h];decide)]
  simp
 ·rw [List.filter_cons,if_pos h,List.foldl_append]
  rfl
theorem DkAt.sync {w w2 w3:World} {b:Nat} {d:RDisk} {F:Nat→Prop} {m1 m2 g cap:Nat} {rows:List (List Value)} {n:ByteArray} {v v':Value} (hv:v = .slice (some ⟨g,0,none⟩) d.changes.length cap) (hv':v' = .slice (some ⟨g,0,none⟩) (sy1 d n).changes.length cap) (h:DkAt w b d F m1 m2 v rows)
  (ht:Turn (fun x=>x=m1) w w2) (hf:FilesAt w2 (fun x=>SB F b m1 m2 v x∨w.heap.size≤x) m1 (sy1 d n).lasts)
  (hr:RowB w3 g cap (kp rows (fun t=>ofF n (d.changes.getD t default)) d.changes.length)) (ht3:Turn (fun x=>x=g) w2 w3) :
  DkAt (w3.setCell ⟨b,3,none⟩ v') b (sy1 d n) (fun x=>x<w3.heap.size∧(F x∨w.heap.size≤x)) m1 m2 v' (kp rows (fun t=>ofF n (d.changes.getD t default)) d.changes.length) ∧
   Turn F w (w3.setCell ⟨b,3,none⟩ v'):=by
 have ob:v.ownBlock=some g:=by rw [hv];rfl
 have ob':v'.ownBlock=some g:=by rw [hv'];rfl
 have hbl:=h.fl _ h.fb
 have h1l:=h.fl _ h.f1
 have h2l:=h.fl _ h.f2
 have hgl:=h.fl _ (h.fv g ob)
 have hbg:b≠g:=fun e=>h.bv (by rw [ob,e])
 have h1g:m1≠g:=fun e=>h.v1 (by rw [ob,e])
 have h2g:m2≠g:=fun e=>h.v2 (by rw [ob,e])
 have s12:=ht.size
 have s23:=ht3.size
 have hsz4:(w3.setCell ⟨b,3,none⟩ v').heap.size=w3.heap.size:=by simp [World.setCell]
 have far:∀ x,x<w2.heap.size→x≠b→x≠g→(w3.setCell ⟨b,3,none⟩ v').heap[x]? = w2.heap[x]? := fun x hx hb hg=>by
  rw [zaw (p:=⟨b,3,none⟩) hb]
  exact ht3.block x hx hg
 have far0:∀ x,x<w.heap.size→x≠m1→w2.heap[x]? = w.heap[x]? := fun x hx hm=>ht.block x hx hm
 have hS:Same (SB F b m1 m2 v) w (w3.setCell ⟨b,3,none⟩ v'):=⟨by omega,fun x hx hl=>by
  rw [far x (by omega) hx.2.1 (fun e=>hx.2.2.2.2 (by rw [ob,e])),far0 x hl hx.2.2.1]⟩
 have hT:∀ x,x<w.heap.size→SB F b m1 m2 v x→SB (fun x=>x<w3.heap.size∧(F x∨w.heap.size≤x)) b m1 m2 v' x:=fun x _ hs=>⟨⟨by omega,.inl hs.1⟩,hs.2.1,hs.2.2.1,hs.2.2.2.1,fun e=>hs.2.2.2.2 (by rw [ob];rw [ob'] at e;exact e)⟩
 have hB3:Blk w3 b TDi (dkCs d m1 m2 v):=(ht3.block b (by omega) hbg).trans ((far0 b hbl h.b1).trans h.blk)
 have hlen:(kp rows (fun t=>ofF n (d.changes.getD t default)) d.changes.length).length=(sy1 d n).changes.length:=zio _ _ _
 refine ⟨⟨?_,?_,?_,?_,hlen,fun i hi=>?_,fun x hx=>by rw [hsz4];exact hx.1,⟨by omega,.inl h.fb⟩,⟨by omega,.inl h.f1⟩,⟨by omega,.inl h.f2⟩,fun g' hg'=>?_,h.mm,h.inv.sync n⟩,?_⟩
 ·have k:=hB3.set 3 v'
  simpa [dkCs,sy1] using k
 ·refine hf.kept (far m1 (by omega) (Ne.symm h.b1) h1g) (S:=fun x=>SB F b m1 m2 v x∨w.heap.size≤x) ⟨by omega,fun x hx hl=>?_⟩ fun x hx hs=>?_
  ·rcases hx with hs | hs
   ·exact far x hl hs.2.1 fun e=>hs.2.2.2.2 (by rw [ob,e])
   ·exact far x hl (by omega) (by omega)
  ·rcases hs with hs | hs
   ·exact hT x (h.fl x hs.1) hs
   ·exact ⟨⟨by omega,.inr hs⟩,by omega,by omega,by omega,by rw [ob'];intro e;have:=Option.some.inj e;omega⟩
 ·rw [zfC h.inv.sl]
  refine h.no.kept ?_ hS hT
  rw [far m2 (by omega) (Ne.symm h.b2) h2g,far0 m2 h2l (Ne.symm h.mm)]
 ·have:=hr.own
  rw [hlen,← hv'] at this
  exact zak this fun g' hg'=>by
   rw [ob'] at hg'
   have e:=Option.some.inj hg'
   subst e
   exact zaw (p:=⟨b,3,none⟩) (Ne.symm hbg)
 ·obtain ⟨t,t1,t2,t3⟩:=kp_at n h.rl hi
  show ChAt _ _ ((d.changes.filter fun c=>!ofF n c).getD i default) _
  rw [t2,t3]
  exact (h.ch t t1).kept hS hT
 ·rw [ob'] at hg'
  have e:=Option.some.inj hg'
  subst e
  exact ⟨by omega,.inl (h.fv _ ob)⟩
 ·refine Turn.set ?_ (.inl h.fb) _
  refine (ht.mono (G:=F) fun x e=>?_).trans ht3 fun x hx e=>?_
  ·rw [e];exact h.f1
  ·rw [e];exact h.fv _ ob
theorem zf5 {w:World} {fv:Value}:Calls Try.prog 53 #[.slice none 0 0,fv] w fun e w'=>e = .returned (.int .i64 (-1))∧w'=w:=by
 go_enter Try.func53,Try.ntmps53
 go_wp2
 go_loopw [8] (fun kv wr=>kv = .int .i64 0∧wr=w) (fun _ _=>0)
 case atStart=>exact ⟨rfl,rfl⟩
 case round=>
  obtain ⟨rfl,rfl⟩:=hrel
  go_wp2
  go_ret
  exact ⟨rfl,rfl⟩
theorem zhI {w:World} {fv:Value}:Calls Try.prog 31 #[.slice none 0 0,fv] w fun e w'=>e = .returned (.slice none 0 0)∧w'=w:=by
 have hI:= @zf5 w fv
 go_enter Try.func31,Try.ntmps31
 go_wp2_with (go_at_call 53;refine hI.mono ?_;rintro e w1 ⟨rfl,rfl⟩)
 go_ret
 exact ⟨rfl,rfl⟩
theorem Blk.far0 {w w':World} {g:Nat} {t:TypeId} {cs:Array Value} {F:Nat→Prop} (h:Blk w g t cs) (ht:Turn F w w') (hn:¬ F g):Blk w' g t cs:=ht.keep h hn
theorem zjT (d:RDisk) (n:ByteArray):syD d n=if d.down then ((d,120):RDisk×Int) else if zb1 n=false then (d,122) else (zcb (sy1 d n),0):=rfl
set_option maxHeartbeats 8000000 in
theorem zgI {w:World} {b:Nat} {d:RDisk} {F:Nat→Prop} (h:DkOk w b d F) (hN:d.lasts.length+d.changes.length≤5000) {n:ByteArray} (hn:NmOk n) :
  Calls Try.prog 12 #[ptrV b,.string n] w (DPost w b F (syD d n).1 (.int .i64 (syD d n).2)):=by
 have h0:=Lib.hid h
 have hsp:=zjT d n
 have hst:=fun (w1:World) (hb:Below w.heap.size w w1)=>zc4 (h.kept hb.size fun x hx=>hb.block x (h.lt hx))
 have HST:=Lib.hid hst
 clear hst
 obtain ⟨m1,m2,v,rows,h⟩:=h.o
 have hK:=fun (w1:World) (hb:Below w.heap.size w w1)=>h.below hb
 have HK:=Lib.hid hK
 clear hK
 have hB0:Below w.heap.size w (w.alloc (.cells #[.string n] TSt)):=(Below.refl _ w).alloc (Nat.le_refl _) _
 have HB0:=Lib.hid hB0
 clear hB0
 have HI:=Lib.hid h.inv
 unfold ptrV at HST ⊢
 cases hd:d.down
 case true=>
  rw [hd] at HST
  rw [hd,if_pos rfl] at hsp
  rw [hsp]
  clear h
  go_enter Try.func12,Try.ntmps12
  go_wp2_with (go_at_call 29;refine (HST.out _ HB0.out).mono ?_;rintro e w1 ⟨rfl,hb1⟩)
  go_ret
  exact DPost.same h0.out (HB0.out.trans (hb1.mono HB0.out.size))
 rw [hd] at HST
 rw [hd,if_neg (by decide)] at hsp
 have hnm:=fun w1=>zeZ n w1 hn
 have HNM:=Lib.hid hnm
 clear hnm
 cases hnb:zb1 n
 case false=>
  rw [hnb,if_pos rfl] at hsp
  rw [hnb] at HNM
  rw [hsp]
  clear h
  go_enter Try.func12,Try.ntmps12
  go_wp2_with (first | (go_at_call 29;refine (HST.out _ HB0.out).mono ?_;rintro e w1 ⟨rfl,hb1⟩;have r0:=box1 ((Blk.new w TSt #[.string n]).next hb1);have HB1:=Lib.hid (HB0.out.trans (hb1.mono HB0.out.size));clear hb1) | (go_at_call 30;refine (HNM.out _).mono ?_;rintro e w2 ⟨rfl,hb2⟩) | fail)
  go_ret
  exact DPost.same h0.out (HB1.out.trans (hb2.mono HB1.out.size))
 rw [hnb,if_neg (by decide)] at hsp
 rw [hnb] at HNM
 have HSP:=Lib.hid hsp
 clear hsp
 rcases h.row.2 with ⟨rfl,hz⟩ | ⟨g,cap,cur,rfl,_⟩
 ·clear h
  have hnil:d.changes=[]:=List.eq_nil_of_length_eq_zero hz
  have hsy:sy1 d n=d:=by
   cases d
   simp only at hnil
   subst hnil
   rfl
  rw [hsy] at HSP
  have hdel:=fun (w:World) (fv:Value)=> @zhI w fv
  have HALL:=Lib.hid (fun (w3:World) (hb:Below w.heap.size w w3)=>by
   have h1:=HK.out w3 hb
   have h2:DkAt (w3.setCell ⟨b,3,none⟩ (.slice none 0 0)) b d F m1 m2 (.slice none 0 0) rows:=h1.scal (by simp [World.setCell]) (by
    have k:=h1.blk.set 3 (.slice none 0 0)
    simpa [dkCs] using k) (fun x _ hx=>zaw hx) rfl rfl rfl h1.inv.i64
   exact (zdz ⟨_,_,_,_,h2⟩).mono (R':=fun e w'=>e = .returned (.tuple #[])∧DPost w b F (zcb d) (.int .i64 0) (.returned (.int .i64 0)) w') fun e w' hp=>by
    obtain ⟨he,F',p1,p2,p3⟩:=hp
    exact ⟨he,DPost.after (F1:=F) (fun x hx=> .inl hx) ((Turn.below hb).set (.inl h1.fb) _) ⟨rfl,F',p1,p2,p3⟩⟩)
  unfold ptrV at HALL
  rw [hz] at *
  go_enter Try.func12,Try.ntmps12
  go_wp2_with (first | (go_at_call 29;refine (HST.out _ HB0.out).mono ?_;rintro e w1 ⟨rfl,hb1⟩;have r0:=box1 ((Blk.new w TSt #[.string n]).next hb1);have HKX:=Lib.hid ((Blk.new w TSt #[.string n]).next hb1);have HB1:=Lib.hid (HB0.out.trans (hb1.mono HB0.out.size));clear hb1) | (go_at_call 30;refine (HNM.out _).mono ?_;rintro e w2 ⟨rfl,hb2⟩;have r0:=box1 (HKX.out.next hb2);have HB2:=Lib.hid (HB1.out.trans (hb2.mono HB1.out.size));clear hb2;have k2:=HK.out w2 HB2.out;obtain ⟨q0,q1,q2,q3,q4,q5,q6⟩:=box7 k2.blk;obtain ⟨z0,z1,z2,z3,z4,z5,z6⟩:=zdQ k2.blk;clear k2) | fail)
  go_loopw [21] (fun kv wr=>kv = .int .i64 0∧wr=w2) (fun _ _=>0)
  case atStart=>exact ⟨rfl,rfl⟩
  case round=>
   obtain ⟨rfl,rfl⟩:=hrel
   go_wp2_with (first | (go_at_call 31;refine (hdel _ _).mono ?_;rintro e w3 ⟨rfl,rfl⟩) | (go_at_call 33;refine (HALL.out _ HB2.out).mono ?_;rintro e w6 ⟨rfl,hp6⟩) | fail)
   go_ret
   rw [HSP.out]
   exact hp6
 ·clear h
  go_enter Try.func12,Try.ntmps12
  go_wp2_with (first | (go_at_call 29;refine (HST.out _ HB0.out).mono ?_;rintro e w1 ⟨rfl,hb1⟩;have r0:=box1 ((Blk.new w TSt #[.string n]).next hb1);have HKX:=Lib.hid ((Blk.new w TSt #[.string n]).next hb1);have HB1:=Lib.hid (HB0.out.trans (hb1.mono HB0.out.size));clear hb1) | (go_at_call 30;refine (HNM.out _).mono ?_;rintro e w2 ⟨rfl,hb2⟩;have HKX2:=Lib.hid (HKX.out.next hb2);have HB2:=Lib.hid (HB1.out.trans (hb2.mono HB1.out.size));clear hb2;have k2:=HK.out w2 HB2.out;obtain ⟨q0,q1,q2,q3,q4,q5,q6⟩:=box7 k2.blk;have HK2:=Lib.hid k2;clear k2) | fail)
  try go_frame
  have hgb:g≠m1∧g≠b∧b≠m1:=⟨fun e=>HK2.out.v1 (by rw [← e];rfl),fun e=>HK2.out.bv (by rw [← e];rfl),HK2.out.b1⟩
  have hxb:w.heap.size≠m1:=fun e=>by have:=h0.out.lt (HK2.out.f1);omega
  have hrowb:RowB w2 g cap rows:=RowB.of_own HK2.out.row (fun r hr=>by
   obtain ⟨i,hi,rfl⟩:=List.mem_iff_getElem.1 hr
   have:=(HK2.out.ch i (by rw [← HK2.out.rl];exact hi)).len
   simpa [List.getD,hi] using this) HK2.out.rl
  have HRB:=Lib.hid hrowb
  have hNl:d.changes.length≤cap:=by have:=hrowb.le;rw [HK2.out.rl] at this;exact this
  clear hrowb
  go_loopw [21] (fun kv wr=>∃ (j:Nat),kv = .int .i64 j∧j≤d.changes.length∧Hid (Turn (fun x=>x=m1) w2 wr∧FilesAt wr (fun x=>SB F b m1 m2 (.slice (some ⟨g,0,none⟩) d.changes.length cap) x∨w2.heap.size≤x) m1 (((d.changes.take j).filter (ofF n)).foldl zaf d.lasts))) (fun kv _=>d.changes.length-(intOf kv).toNat)
  case atStart=>exact ⟨0,rfl,Nat.zero_le _,Lib.hid ⟨Turn.refl _ _,HK2.out.la.kept rfl (Same.refl _ _) fun _ _ h=> .inl h⟩⟩
  case round=>
   obtain ⟨j,rfl,hj,HR⟩:=hrel
   by_cases hlt:j<d.changes.length
   ·have hltz:(j:Int)<(d.changes.length:Int):=by omega
    have hj0:(0:Int)≤(j:Int):=Int.natCast_nonneg j
    have hw:wrap64 ((j:Int)+1)=((j+1:Nat):Int):=by unfold wrap64;omega
    obtain ⟨htn,hfl⟩:=HR.out
    have hrow:=HRB.out.kept (htn.block g HRB.out.lt (fun e=>hgb.1 e))
    have hch:=HK2.out.ch j hlt
    obtain ⟨c,hc⟩:∃ c,d.changes.getD j default=c:=⟨_,rfl⟩
    rw [hc] at hch
    obtain ⟨dv,bv,ecs,hdo,hbv⟩:=hch.D
    have hrl:j<rows.length:=by have:=HK2.out.rl;omega
    have c0:=(hrow.cell (i:=j) (j:=0) hrl (by omega)).1
    have c1:=(hrow.cell (i:=j) (j:=1) hrl (by omega)).1
    have c2:=(hrow.cell (i:=j) (j:=2) hrl (by omega)).1
    have c3:=(hrow.cell (i:=j) (j:=3) hrl (by omega)).1
    have c4:=(hrow.cell (i:=j) (j:=4) hrl (by omega)).1
    rw [ecs] at c0 c1 c2 c3 c4
    simp only [List.getD_cons_zero,List.getD_cons_succ,Nat.add_zero] at c0 c1 c2 c3 c4
    have kbx:=HKX2.out.far0 htn hxb
    have r0:=box1 kbx
    have p1:=(htn.keep HK2.out.blk hgb.2.2)
    have bx1:=(show Blk wr b TDi _ from p1).cell 1
    have hones:=hch.ones
    rw [ecs] at hones
    have s1:= @zae Try.prog dv (hones _ (by simp))
    have s3:= @zae Try.prog bv (hones _ (by simp))
    have hnext:=zcr d.changes d.lasts n hlt
    rw [hc] at hnext
    obtain ⟨S1,hS1⟩:∃ S1:Nat→Prop,(fun x=>SB F b m1 m2 (.slice (some ⟨g,0,none⟩) d.changes.length cap) x∨w2.heap.size≤x)=S1:=⟨_,rfl⟩
    rw [hS1] at hfl
    have hno1:¬ S1 m1:=by
     rw [← hS1]
     rintro (hs | hs)
     ·exact hs.2.2.1 rfl
     ·have:=HK2.out.fl _ HK2.out.f1;omega
    cases hof:ofF n c
    ·rw [hof,if_neg (by decide)] at hnext
     have hof2:(c.file.toList==n.toList)=false:=hof
     have r0a:(wr.alloc (.cells #[.string c.file,dv,.int .i64 (chAt c),bv,.bool (c.kind==1)] 66)).cell? ⟨w.heap.size,0,none⟩=some (.string n):=box1 (kbx.alloc _)
     have HN2:=Lib.hid hnext
     have HFL:=Lib.hid hfl
     have HTN:=Lib.hid htn
     have HNO:=Lib.hid hno1
     clear hnext hfl htn hno1 hch hdo hbv ecs hones hrow p1 kbx
     go_wp2
     go_roundw
     case rel=>
      refine ⟨j+1,by first | rfl | (rw [hw];rfl) | simp [hw],by omega,Lib.hid ⟨HTN.out.alloc _,?_⟩⟩
      rw [HN2.out,hS1]
      exact HFL.out.kept (Below.heap_alloc _ _ _ HFL.out.lt) (Same.alloc _ _ _) fun _ _ h=>h
     case measure=>simp [intOf,hw];omega
    ·rw [hof,if_pos rfl] at hnext
     have hof2:(c.file.toList==n.toList)=true:=hof
     obtain ⟨wx,hwx⟩:∃ wx,wr.alloc (.cells #[.string c.file,dv,.int .i64 (chAt c),bv,.bool (c.kind==1)] TCh)=wx:=⟨_,rfl⟩
     have hbx:Below wr.heap.size wr wx.drew:=by rw [← hwx];exact ((Below.refl _ wr).alloc (Nat.le_refl _) _).drew
     have hSx:Same (SB F b m1 m2 (.slice (some ⟨g,0,none⟩) d.changes.length cap)) w2 wx.drew:=(htn.same fun x hx e=>hx.2.2.1 e).trans (Same.below hbx)
     have hdo1:DoAt wx.drew S1 c dv:=hdo.kept hSx fun x _ hx=>by rw [← hS1];exact .inl hx
     have hfl1:FilesAt wx.drew S1 m1 (((d.changes.take j).filter (ofF n)).foldl zaf d.lasts):=hfl.kept (hbx.block _ hfl.lt) (Same.below hbx) fun _ _ h=>h
     have hmemf:∀ x∈(d.changes.take j).filter (ofF n),x∈d.changes:=fun x hx=>List.mem_of_mem_take (List.mem_filter.1 hx).1
     have hlk:=zcF (za7 (M:=4194304) ((d.changes.take j).filter (ofF n)) d.lasts HI.out.fb fun x hx=>by have:=HI.out.ch x (hmemf x hx);exact ⟨this.1,this.2.1⟩) c.file
     have hln:=zbp ((d.changes.take j).filter (ofF n)) d.lasts
     have hl2:=List.length_filter_le (ofF n) (d.changes.take j)
     have hl3:(d.changes.take j).length≤j:=by rw [List.length_take];omega
     obtain ⟨f,cap',hdv,hB,hcall⟩:=zgJ hdo1 hfl1 (HI.out.sl.dones _) hno1 (by omega) hch.nm hch.at0.1 hch.at0.2 hch.by0 (by omega)
     have hcf:=zaq hB
     have HC:=Lib.hid hcall
     have HN2:=Lib.hid hnext
     have HTN:=Lib.hid htn
     have HBX:=Lib.hid hbx
     have kx:Blk wx wr.heap.size TCh #[.string c.file,dv,.int .i64 (chAt c),bv,.bool (c.kind==1)]:=by rw [← hwx];exact Blk.new wr TCh _
     obtain ⟨y0,y1,y2,y3,y4⟩:=box5 kx
     have bx1x:wx.cell? ⟨b,1,none⟩=some (.map (some m1)):=(show Blk wx b TDi _ from (hbx.block b (by have:=HK2.out.fl _ HK2.out.fb;have:=htn.size;omega)).trans p1).cell 1
     have r0a:wx.cell? ⟨w.heap.size,0,none⟩=some (.string n):=by rw [← hwx];exact box1 (kbx.alloc _)
     subst hdv
     clear hnext hfl hfl1 htn hno1 hch hdo hdo1 hbv ecs hones hrow p1 hcall hbx hSx hmemf hlk hln hl2 hl3 kx kbx
     go_wp2_with fail
     try rw [hwx]
     clear hwx
     go_still_tail 6,(by kernel_rfl)
     change wpList _ _ _ _ _ wx.drew
     go_wp2_with (first | (refine HC.out.mono ?_;rintro e w5 ⟨rfl,ht5,hf5⟩))
     go_roundw
     case rel=>
      refine ⟨j+1,by first | rfl | (rw [hw];rfl) | simp [hw],by omega,Lib.hid ⟨?_,?_⟩⟩
      ·exact (HTN.out.trans (Turn.below (F:=fun x=>x=m1) HBX.out) fun x _ h=>h).trans ht5 fun x _ h=>h
      ·rw [HN2.out,hS1]
       refine hf5.kept rfl (Same.refl _ _) fun x _ hx=>?_
       rcases hx with hx | hx
       ·exact hx
       ·rw [← hS1]
        exact .inr (Nat.le_trans HTN.out.size (Nat.le_trans HBX.out.size hx))
     case measure=>simp [intOf,hw];omega
   ·have hltz:¬ (j:Int)<(d.changes.length:Int):=by omega
    obtain rfl:j=d.changes.length:=by omega
    obtain ⟨htn,hfl⟩:=HR.out
    rw [List.take_length] at hfl
    have hrow:=HRB.out.kept (htn.block g HRB.out.lt (fun e=>hgb.1 e))
    have kbx:=HKX2.out.far0 htn hxb
    have kb:=HK2.out.blk.far0 htn hgb.2.2
    obtain ⟨q0,q1,q2,q3,q4,q5,q6⟩:=box7 kb
    obtain ⟨z0,z1,z2,z3,z4,z5,z6⟩:=zdQ kb
    have hsxx:Same (SB F b m1 m2 (.slice (some ⟨g,0,none⟩) d.changes.length cap)) w2 wr:=htn.same fun x hx e=>hx.2.2.1 e
    have hsay:zjL wr (fun x=>(SB F b m1 m2 (.slice (some ⟨g,0,none⟩) d.changes.length cap) x∨x=w.heap.size)∧x<wr.heap.size∧x≠g) 32 [ptrV w.heap.size] rows (fun t=>ofF n (d.changes.getD t default)):=by
     intro w' i hs hsz hi
     have hi2:i<d.changes.length:=by rw [← HK2.out.rl];exact hi
     have hc:=(HK2.out.ch i hi2).kept (T:=fun _=>True) (hsxx.trans (hs.mono fun x hx=>?_)) fun _ _ _=>trivial
     ·exact zi8 hc (kbx.same hs ⟨.inr rfl,kbx.lt,fun e=>by have:=HK2.out.fl _ (HK2.out.fv g rfl);have:=h0.out.lt (HK2.out.fv g rfl);omega⟩)
     ·exact ⟨.inl hx,Nat.lt_of_lt_of_le (HK2.out.fl x hx.1) htn.size,fun e=>hx.2.2.2.2 (by rw [e];rfl)⟩
    have hdel:=zhJ hrow (fun x hx=>hx.2) hsay (fnB Try.func32 (by decide) rfl) (fun r hr u hu=>by
     obtain ⟨i,hi,rfl⟩:=List.mem_iff_getElem.1 hr
     have:=(HK2.out.ch i (by rw [← HK2.out.rl];exact hi)).ones
     have e:rows.getD i []=rows[i]:=by simp [List.getD,hi]
     rw [e] at this
     exact this u hu) (by rw [HK2.out.rl];omega)
    rw [HK2.out.rl] at hdel
    have hkc:=zio d.changes rows n
    have hfin:=fun (w3:World) (hr3:RowB w3 g cap (kp rows (fun t=>ofF n (d.changes.getD t default)) d.changes.length)) (ht3:Turn (fun x=>x=g) wr w3)=>DkAt.sync (n:=n) rfl rfl HK2.out htn hfl hr3 ht3
    have hall:=fun (w3:World) (hr3:RowB w3 g cap (kp rows (fun t=>ofF n (d.changes.getD t default)) d.changes.length)) (ht3:Turn (fun x=>x=g) wr w3)=>by
     obtain ⟨g1,g2⟩:=hfin w3 hr3 ht3
     exact (zdz ⟨_,_,_,_,g1⟩).mono (R':=fun e w'=>e = .returned (.tuple #[])∧DPost w b F (zcb (sy1 d n)) (.int .i64 0) (.returned (.int .i64 0)) w') fun e w' hp=>by
      obtain ⟨he,F',p1,p2,p3⟩:=hp
      refine ⟨he,DPost.after (F1:=fun x=>x<w3.heap.size∧(F x∨w2.heap.size≤x)) (fun x hx=>?_) ((Turn.below HB2.out).trans g2 fun x _ hx=>hx) ⟨rfl,F',p1,p2,p3⟩⟩
      rcases hx.2 with g | g
      ·exact .inl g
      ·exact .inr (Nat.le_trans HB2.out.size g)
    have HALL:=Lib.hid hall
    have HDEL:=Lib.hid hdel
    have HKB:=Lib.hid kb
    rw [show (sy1 d n).changes.length=(d.changes.filter fun c=>!ofF n c).length from rfl,← hkc] at HALL
    clear hall hdel hfin hsay hsxx kb kbx hrow htn hfl hkc HR
    unfold ptrV at HALL HDEL
    go_wp2_with (first | (go_at_call 31;refine HDEL.out.mono ?_;rintro e w3 ⟨rfl,hr3,ht3⟩;have kb3:=HKB.out.far0 ht3 (Ne.symm hgb.2.1);obtain ⟨q0,q1,q2,q3,q4,q5,q6⟩:=box7 kb3;obtain ⟨z0,z1,z2,z3,z4,z5,z6⟩:=zdQ kb3;have HCL:=Lib.hid (HALL.out w3 hr3 ht3);clear kb3 hr3 ht3) | (go_at_call 33;refine HCL.out.mono ?_;rintro e w6 ⟨rfl,hp6⟩) | fail)
    go_ret
    rw [HSP.out]
    exact hp6
end Go.Proofs.Ytfccndnnpkiajaa
namespace Go.Proofs
open Go.Shelf
def Try.cloneD_ren:Go.Shelf.Ren:=⟨fun | 5=>35 | 7=>55 | n=>n,fun | 23=>55 | 25=>9 | 3=>30 | 4=>4 | 20=>20 | n=>n,fun | n=>n⟩
theorem Try.cloneD:Go.Proofs.SlLaysW.n5 Try.prog Try.cloneD_ren:={
 mixed:=by kernel_rfl
 f5:=⟨Try.f35.name,by decide,Try.func35.trans (congrArg some (by kernel_rfl))⟩
 f7:=Try.func55.trans (congrArg some (by kernel_rfl))
 t4:=Try.underlying4
 a4:=Try.isAgg4
 z4:=Try.sizeOf4
 v4:=Try.zeroValue4
 t20:=Try.underlying20
 a20:=Try.isAgg20
 z20:=Try.sizeOf20
 v20:=Try.zeroValue20
 t23:=Try.underlying55
 a23:=Try.isAgg55
 z23:=Try.sizeOf55
 v23:=Try.zeroValue55}
end Go.Proofs
namespace Go.Proofs.Ytfccndnnpkiajaa
open Go.RowKit Go.ChangeShapes Go.WideShapes Go.Deep
set_option maxRecDepth 100000
def crK (torn:Int):List DChange→List DChange
 | []=>[]
 | [c]=>(match zb7 c torn with | some c=>[c] | none=>[])
 | c::cs=>c::crK torn cs
theorem zet (torn:Int):∀ (K:List DChange) (l:List File),zdn torn K l=(crK torn K).foldl zaf l
 | [],l=>rfl
 | [c],l=>by
  unfold zdn crK
  cases zb7 c torn<;>rfl
 | c::x::cs,l=>by
  show zdn torn (x::cs) (zaf l c)=_
  rw [zet torn (x::cs)]
  rfl
theorem zcx (torn:Int) (c:DChange):∀ K:List DChange,crK torn (K++[c])=K++(match zb7 c torn with | some c=>[c] | none=>[])
 | []=>rfl
 | [x]=>rfl
 | x::y::K=>by
  show x::crK torn ((y::K)++[c])=_
  rw [zcx torn c (y::K)]
  rfl
theorem zfp {c c':DChange} {torn:Int} (h:zb7 c torn=some c'):c'=c∨(c.kind=1∧0<torn∧torn<c.bytes.length∧c'={c with bytes:=c.bytes.take torn.toNat}):=by
 unfold zb7 at h
 split at h
 ·rename_i h1
  split at h
  ·cases h
  ·rename_i h2
   have:=Option.some.inj h
   exact .inr ⟨h1.1,by omega,h1.2.2,this.symm⟩
 ·exact .inl (Option.some.inj h).symm
theorem zgN (torn:Int):∀ (K:List DChange) (c':DChange),c'∈crK torn K→∃ c∈K,c'=c∨(c.kind=1∧0<torn∧torn<c.bytes.length∧c'={c with bytes:=c.bytes.take torn.toNat})
 | [],c',h=>by cases h
 | [c],c',h=>by
  unfold crK at h
  cases e:zb7 c torn with
  | none=>rw [e] at h;cases h
  | some c2=>
   rw [e] at h
   have h:c'∈[c2]:=h
   rw [List.mem_singleton] at h
   subst h
   exact ⟨c,List.mem_singleton.2 rfl,zfp e⟩
 | c::x::cs,c',h=>by
  have h:c'∈c::crK torn (x::cs):=h
  rcases List.mem_cons.1 h with e | h
  ·exact ⟨c,List.mem_cons_self ..,.inl e⟩
  ·obtain ⟨c2,h1,h2⟩:=zgN torn (x::cs) c' h
   exact ⟨c2,List.mem_cons_of_mem _ h1,h2⟩
theorem zcG:∀ (cs:List DChange) (keep:List Bool) (c:DChange),c∈za9 cs keep→c∈cs
 | c0::cs,b::bs,c,h=>by
  unfold za9 at h
  cases b
  ·exact List.mem_cons_of_mem _ (zcG cs bs c (by simpa using h))
  ·rcases List.mem_cons.1 (by simpa using h:c∈c0::za9 cs bs) with e | h
   ·exact e▸List.mem_cons_self ..
   ·exact List.mem_cons_of_mem _ (zcG cs bs c h)
 | [],_,c,h=>by cases h
 | _::_,[],c,h=>by cases h
theorem zcH:∀ (cs:List DChange) (keep:List Bool),(za9 cs keep).length≤cs.length
 | c0::cs,b::bs=>by
  have:=zcH cs bs
  unfold za9
  cases b<;>simp<;>omega
 | [],_=>by simp [za9]
 | _::_,[]=>by simp [za9]
theorem zgO (torn:Int):∀ K:List DChange,(crK torn K).length≤K.length
 | []=>Nat.le_refl _
 | [c]=>by
  unfold crK
  cases zb7 c torn<;>simp
 | c::x::cs=>by
  show (c::crK torn (x::cs)).length≤_
  have:=zgO torn (x::cs)
  simp only [List.length_cons] at this ⊢
  omega
theorem ziy {d:RDisk} (h:DkI d) (keep:List Bool) (torn:Int):∀ c∈crK torn (za9 d.changes keep),0≤c.at_∧c.at_+c.bytes.length≤4194304∧NmOk c.file:=by
 intro c hc
 obtain ⟨c2,h1,h2⟩:=zgN torn _ c hc
 have h3:=h.ch c2 (zcG _ _ _ h1)
 rcases h2 with rfl | ⟨_,_,h4,rfl⟩
 ·exact h3
 ·refine ⟨h3.1,?_,h3.2.2⟩
  show c2.at_+((c2.bytes.take torn.toNat).length:Nat)≤4194304
  rw [List.length_take]
  have:=h3.2.1
  omega
theorem ziz (d:RDisk) (keep:List Bool) (torn:Int):crD d keep torn={d with lasts:=(crK torn (za9 d.changes keep)).foldl zaf d.lasts,changes:=[],down:=false,stops:=false}:=by
 unfold crD
 rw [zet]
theorem DkI.crash {d:RDisk} (h:DkI d) (keep:List Bool) (torn:Int):DkI (crD d keep torn):=by
 rw [ziz]
 have hk:=ziy h keep torn
 exact ⟨h.sl.dones _,za7 _ _ h.fb fun c hc=>⟨(hk c hc).1,(hk c hc).2.1⟩,fun c hc=>(by cases hc),zdG _ _ h.nm fun c hc=>(hk c hc).2.2,trivial,h.rm,h.i64⟩
structure KRow (w0 wx:World) (S:Nat→Prop) (s:Value) (K:List DChange):Prop where
 r:∃ kr:List (List Value),wx.ownsRow 0 TCh 5 s K.length kr.flatten∧kr.length=K.length∧∀ i,i<K.length→ChAt wx (fun x=>S x∨(w0.heap.size≤x∧s.ownBlock≠some x)) (K.getD i default) (kr.getD i [])
 g:∀ g,s.ownBlock=some g→w0.heap.size≤g
 b:Below w0.heap.size w0 wx
theorem KRow.nil (w0:World) (S:Nat→Prop):KRow w0 w0 S (.slice none 0 0) []:=
 ⟨⟨[],World.ownsRow_nil _ _ _ _,rfl,fun i hi=>absurd hi (Nat.not_lt_zero _)⟩,fun g hg=>(by cases hg),Below.refl _ _⟩
theorem KRow.below {w0 wx w':World} {S:Nat→Prop} {s:Value} {K:List DChange} (h:KRow w0 wx S s K) (hb:Below wx.heap.size wx w'):KRow w0 w' S s K:=by
 obtain ⟨kr,h1,h2,h3⟩:=h.r
 exact ⟨⟨kr,zak h1 fun g hg=>hb.block g (h1.lt g hg).2,h2,fun i hi=>(h3 i hi).kept (Same.below hb) fun _ _ h=>h⟩,h.g,h.b.trans (hb.mono h.b.size)⟩
theorem KRow.shape {w0 wx:World} {S:Nat→Prop} {s:Value} {K:List DChange} (h:KRow w0 wx S s K):∃ a cap kr,s = .slice a K.length cap∧(0<K.length→∃ g,a=some ⟨g,0,none⟩∧RowB wx g cap kr)∧kr.length=K.length∧(∀ i,i<K.length→ChAt wx (fun x=>S x∨(w0.heap.size≤x∧s.ownBlock≠some x)) (K.getD i default) (kr.getD i [])):=by
 obtain ⟨kr,h1,h2,h3⟩:=h.r
 have h5:∀ r∈kr,r.length=5:=fun r hr=>by
  obtain ⟨i,hi,rfl⟩:=List.mem_iff_getElem.1 hr
  have:=(h3 i (by omega)).len
  simpa [List.getD,hi] using this
 have h1':=h1
 rcases h1.2 with ⟨rfl,hz⟩ | ⟨g,cap,cur,rfl,_⟩
 ·exact ⟨none,0,kr,by rw [hz],fun hp=>absurd hp (by omega),h2,h3⟩
 ·exact ⟨some ⟨g,0,none⟩,cap,kr,rfl,fun _=>⟨g,rfl,RowB.of_own h1' h5 h2⟩,h2,h3⟩
theorem KRow.app {w0 wx w1 w':World} {S:Nat→Prop} {s s':Value} {K:List DChange} {c:DChange} {cs:List Value} (h:KRow w0 wx S s K) (hS:∀ x,S x→x<w0.heap.size) (hb:Below wx.heap.size wx w1)
  (hc:ChAt w1 (fun x=>S x∨(w0.heap.size≤x∧s.ownBlock≠some x)) c cs) {kr:List (List Value)} (hkr:kr.length=K.length) (hk3:∀ i,i<K.length→ChAt wx (fun x=>S x∨(w0.heap.size≤x∧s.ownBlock≠some x)) (K.getD i default) (kr.getD i []))
  (hr:w'.ownsRow 0 TCh 5 s' (K.length+1) (kr.flatten++cs)) (hg:w1.grownBy w' s.ownBlock) (hs:s'.ownBlock=s.ownBlock∨∃ g,s'.ownBlock=some g∧w1.heap.size≤g):KRow w0 w' S s' (K++[c]):=by
 have hsz:=h.b.size
 have hsz1:=hb.size
 have hS2:Same (fun x=>S x∨(w0.heap.size≤x∧s.ownBlock≠some x)) w1 w':=⟨hg.size,fun x hx hl=>hg.block x hl fun e=>by
  rcases hx with hx | hx
  ·have:=h.g x e.symm
   have:=hS x hx
   omega
  ·exact hx.2 e.symm⟩
 have hT:∀ x,x<w1.heap.size→(S x∨(w0.heap.size≤x∧s.ownBlock≠some x))→(S x∨(w0.heap.size≤x∧s'.ownBlock≠some x)):=fun x hl hx=>by
  rcases hx with hx | hx
  ·exact .inl hx
  ·refine .inr ⟨hx.1,?_⟩
   rcases hs with e | ⟨g,e,hge⟩
   ·rw [e];exact hx.2
   ·rw [e]
    intro e2
    have:=Option.some.inj e2
    omega
 refine ⟨⟨kr++[cs],?_,by simp [hkr],fun i hi=>?_⟩,fun g hg'=>?_,?_⟩
 ·have e:(kr++[cs]).flatten=kr.flatten++cs:=by simp
  rw [e,List.length_append]
  exact hr
 ·rw [List.length_append] at hi
  by_cases hi2:i<K.length
  ·rw [zaA hi2,zaA (by rw [hkr];exact hi2)]
   exact ((hk3 i hi2).kept (Same.below hb) fun _ _ h=>h).kept hS2 hT
  ·have:i=K.length:=by simp at hi;omega
   subst this
   rw [zaB rfl,zaB hkr.symm]
   exact hc.kept hS2 hT
 ·rcases hs with e | ⟨g',e,hge⟩
  ·exact h.g g (e▸hg')
  ·rw [e] at hg'
   have:=Option.some.inj hg'
   omega
 ·refine (h.b.trans (hb.mono hsz)).grown hg (by omega) fun g hg'=>h.g g hg'
theorem KRow.init {w0 wx:World} {S:Nat→Prop} {g n cap:Nat} {K:List DChange} {c:DChange} (h:KRow w0 wx S (.slice (some ⟨g,0,none⟩) (n+1) cap) (K++[c])) (hn:K.length=n):KRow w0 wx S (.slice (some ⟨g,0,none⟩) n cap) K:=by
 obtain ⟨kr,h1,h2,h3⟩:=h.r
 have h5:∀ r∈kr,r.length=5:=fun r hr=>by
  obtain ⟨i,hi,rfl⟩:=List.mem_iff_getElem.1 hr
  have:=(h3 i (by omega)).len
  simpa [List.getD,hi] using this
 have hl:(K++[c]).length=n+1:=by simp [hn]
 rw [hl] at h1 h2
 have hB:=(RowB.of_own h1 h5 h2).take n
 have ht:(kr.take n).length=n:=by rw [List.length_take];omega
 have ho:=hB.own
 rw [ht] at ho
 refine ⟨⟨kr.take n,by rw [hn];exact ho,by rw [ht,hn],fun i hi=>?_⟩,fun g' hg'=>h.g g' hg',h.b⟩
 have:=h3 i (by rw [hl];omega)
 rw [zaA hi] at this
 have e:(kr.take n).getD i []=kr.getD i []:=by rw [List.getD_eq_getElem?_getD,List.getD_eq_getElem?_getD,List.getElem?_take_of_lt (by omega)]
 rw [e]
 exact this
theorem zew {ops:Array Oper} {rest:List Oper} {o:Oper} {a:Act} {Q:Exit→Act→World→Prop} {w:World} (hgd:o.guard=none) (s x:Operand)
  (ho:o.op = .call {callee:= .builtin .append,args:= #[s,x],argTypes:= #[TRw,TRw]}) (v:Value) (n:Nat) (xs cs:List Value) (hs:a.eval s=v) (hr:w.ownsRow 0 TCh 5 v n xs) (hl:cs.length=5) (h1:∀ u∈cs,u.oneCell'=true) (hn:n≤100000)
  (ad:Addr) (had:ad=⟨w.heap.size,0,none⟩) (hx:a.eval x = .slice (some ad) 1 1)
  (h:∀ v' w',w'.ownsRow 0 TCh 5 v' (n+1) (xs++cs)→w.grownBy w' v.ownBlock→(v'.ownBlock=v.ownBlock∨∃ g,v'.ownBlock=some g∧w.heap.size≤g)→wpList Try.prog ops Q rest (a.put o.dst v') w') :
  wpList Try.prog ops Q (o::rest) a (w.alloc (.cells cs.toArray TCh)):=by
 subst had
 refine wpList_plain hgd fun K hK=>?_
 obtain ⟨v',w',q1,q2,q3,q4⟩:=zeT (ty:=o.type) hr hl h1 hn
 exact zih s x TRw ho v _ hs hx (fun v' w'=>w'.ownsRow 0 TCh 5 v' (n+1) (xs++cs)∧w.grownBy w' v.ownBlock∧(v'.ownBlock=v.ownBlock∨∃ g,v'.ownBlock=some g∧w.heap.size≤g)) ⟨v',w',q1,q2,q3,q4⟩ (fun v' w' hR=>hK _ _ (h v' w' hR.1 hR.2.1 hR.2.2))
theorem zfI {w:World} {S:Nat→Prop} {mb:Nat} {M:List File} (h:FilesAt w S mb M):Calls Try.prog 35 #[.map (some mb)] w fun e w'=>e = .returned (.map (some w.heap.size))∧FilesAt w' S w.heap.size M∧Below w.heap.size w w':=by
 obtain ⟨D,hown,hsz,hk⟩:=h.D
 refine (AnyW.maps_Clone_owns Try.cloneD TSt RV mb M.length D w hown).mono fun e w' ⟨he,h1,h2,h3⟩=>⟨he,⟨D,h1,hsz,fun n=>⟨(hk n).1,fun bs hbs=>?_⟩⟩,h3⟩
 obtain ⟨v,g1,g2⟩:=(hk n).2 bs hbs
 exact ⟨v,g1,g2.same (Same.below h3)⟩
abbrev BlR (w:World) (S:Nat→Prop) (v:Value) (bs:List Bool):Prop:=Rd w S (.sl [.bool]) v (.sl (bs.map fun b=>[.bool b]))
theorem BlR.cells {w:World} {S:Nat→Prop} {v:Value} {bs:List Bool} (h:BlR w S v bs):∃ a c,v = .slice a bs.length c∧bs.length≤140737488355328∧(∀ i,i<bs.length→∃ g off,a=some ⟨g,off,none⟩∧S g∧g<w.heap.size∧w.cell? ⟨g,off+i,none⟩=some (.bool (bs.getD i false))):=by
 obtain ⟨a,c,e,h⟩:=h.sl'
 have hl:(bs.map fun b=>[D.bool b]).length=bs.length:=List.length_map ..
 rw [hl] at e h
 refine ⟨a,c,e,h.bd.2.2.1,fun i hi=>?_⟩
 obtain ⟨g,off,rfl,hS,hlt,vals,h1,h2⟩:=h.rowAt (by omega)
 refine ⟨g,off,rfl,hS,hlt,?_⟩
 have h3:=h1 i 0 hi (by simp)
 have h4:=(h2 i hi).2 0 (by simp)
 have e1:((bs.map fun b=>[D.bool b]).getD i []).getD 0 default = .bool (bs.getD i false):=by simp [List.getD,hi]
 rw [e1] at h4
 rw [Rd.bool' h4] at h3
 simpa using h3
theorem DkAt.crash {w wr w5:World} {b:Nat} {d:RDisk} {F:Nat→Prop} {m1 m2:Nat} {v:Value} {rows:List (List Value)} {keep:List Bool} {torn:Int} (h:DkAt w b d F m1 m2 v rows) (ht:Turn (fun x=>x=m1) w wr)
  (hf:FilesAt w5 (fun x=>(SB F b m1 m2 v x∨w.heap.size≤x)∧x<wr.heap.size) m1 (crD d keep torn).lasts) (hf3:FilesAt w5 (fun x=>(SB F b m1 m2 v x∨w.heap.size≤x)∧x<wr.heap.size) wr.heap.size (crD d keep torn).lasts) (hb5:Below wr.heap.size wr w5) :
  DPost w b F (crD d keep torn) (.int .i64 0) (.returned (.int .i64 0)) ((((w5.setCell ⟨b,2,none⟩ (.map (some wr.heap.size))).setCell ⟨b,3,none⟩ (.slice none 0 0)).setCell ⟨b,4,none⟩ (.bool false)).setCell ⟨b,5,none⟩ (.bool false)):=by
 have hbl:=h.fl _ h.fb
 have h1l:=h.fl _ h.f1
 have hsz:=ht.size
 have h3l:=hf3.lt
 obtain ⟨W,hW⟩:∃ W,((((w5.setCell ⟨b,2,none⟩ (.map (some wr.heap.size))).setCell ⟨b,3,none⟩ (.slice none 0 0)).setCell ⟨b,4,none⟩ (.bool false)).setCell ⟨b,5,none⟩ (.bool false))=W:=⟨_,rfl⟩
 have hzW:W.heap.size=w5.heap.size:=by rw [← hW];simp [World.setCell]
 have hfar:∀ x,x≠b→W.heap[x]? = w5.heap[x]? := fun x hx=>by rw [← hW,zaw hx,zaw hx,zaw hx,zaw hx]
 have hblk:Blk W b TDi (dkCs (crD d keep torn) m1 wr.heap.size (.slice none 0 0)):=by
  have k5:Blk w5 b TDi (dkCs d m1 m2 v):=(hb5.block b (by omega)).trans (ht.keep h.blk h.b1)
  have k:=(((k5.set 2 (.map (some wr.heap.size))).set 3 (.slice none 0 0)).set 4 (.bool false)).set 5 (.bool false)
  rw [hW] at k
  simpa [dkCs,crD] using k
 have hS:Same (fun x=>(SB F b m1 m2 v x∨w.heap.size≤x)∧x<wr.heap.size) w5 W:=⟨by omega,fun x hx hl=>hfar x (by
  rcases hx.1 with g | g
  ·exact g.2.1
  ·omega)⟩
 have hT:∀ x,x<w5.heap.size→((SB F b m1 m2 v x∨w.heap.size≤x)∧x<wr.heap.size)→SB (fun x=>x<W.heap.size∧(F x∨w.heap.size≤x)) b m1 wr.heap.size (.slice none 0 0) x:=fun x hl hx=>by
  refine ⟨⟨by omega,hx.1.imp (fun g=>g.1) id⟩,?_,?_,by have:=hx.2;omega,fun e=>by cases e⟩
  ·rcases hx.1 with g | g
   ·exact g.2.1
   ·omega
  ·rcases hx.1 with g | g
   ·exact g.2.2.1
   ·omega
 refine ⟨rfl,fun x=>x<W.heap.size∧(F x∨w.heap.size≤x),?_,fun x hx=>hx.2,?_⟩
 ·rw [hW]
  refine ⟨m1,wr.heap.size,.slice none 0 0,[],⟨hblk,hf.kept (hfar _ (Ne.symm h.b1)) hS hT,hf3.kept (hfar _ (by omega)) hS hT,World.ownsRow_nil _ _ _ _,rfl,fun i hi=>absurd hi (Nat.not_lt_zero _),fun x hx=>hx.1,⟨by omega,.inl h.fb⟩,⟨by omega,.inl h.f1⟩,⟨by omega,.inr hsz⟩,fun g hg=>(by cases hg),by omega,h.inv.crash keep torn⟩⟩
 ·exact (((((((ht.mono fun x e=>by rw [e];exact h.f1).trans (Turn.below (F:=F) hb5) fun x _ h=>h).set (.inl h.fb) _).set (.inl h.fb) _).set (.inl h.fb) _).set (.inl h.fb) _))
theorem zhL {K:List DChange} {l:List File} {j:Nat} (hj:j<K.length):(K.take (j+1)).foldl zaf l=zaf ((K.take j).foldl zaf l) (K.getD j default):=by
 rw [zbF (d:=default) hj,List.foldl_append]
 rfl
theorem zfq {c:DChange} {torn:Int} (h:¬ (c.kind=1∧0≤torn∧torn<c.bytes.length)):zb7 c torn=some c:=by unfold zb7;rw [if_neg h]
theorem zfo {c:DChange} (h:c.kind=1∧(0:Int)≤0∧(0:Int)<c.bytes.length):zb7 c 0=none:=by unfold zb7;rw [if_pos h,if_pos rfl]
theorem zfU {c:DChange} {torn:Int} (h:c.kind=1∧0≤torn∧torn<c.bytes.length) (hp:torn≠0):zb7 c torn=some {c with bytes:=c.bytes.take torn.toNat}:=by unfold zb7;rw [if_pos h,if_neg hp]
theorem DkAt.rowB {w:World} {b:Nat} {d:RDisk} {F:Nat→Prop} {m1 m2 nl cv:Nat} {av:Option Addr} {rows:List (List Value)} (h:DkAt w b d F m1 m2 (.slice av nl cv) rows) (hn:d.changes.length=nl) (hp:0<nl):∃ g,av=some ⟨g,0,none⟩∧RowB w g cv rows∧nl≤cv∧F g:=by
 have hr:=h.row
 rcases hr.2 with ⟨e,hz⟩ | ⟨g,cap,cur,e,_⟩
 ·omega
 ·simp only [Value.slice.injEq] at e
  obtain ⟨rfl,e2,rfl⟩:=e
  rw [hn] at hr
  have hr:w.ownsRow 0 TCh 5 (.slice (some ⟨g,0,none⟩) nl cv) nl rows.flatten:=hr
  have hB:=RowB.of_own hr (fun r hr=>by
   obtain ⟨i,hi,rfl⟩:=List.mem_iff_getElem.1 hr
   have:=(h.ch i (by rw [← h.rl];exact hi)).len
   simpa [List.getD,hi] using this) (h.rl.trans hn)
  refine ⟨g,rfl,hB,?_,h.fv g rfl⟩
  have:=hB.le
  rw [h.rl] at this
  omega
theorem zhz {j n:Nat} (hw:wrap64 ((j:Int)+1)=((j+1:Nat):Int)) (h:j<n):n-(intOf (.int .i64 (wrap64 ((j:Int)+1)))).toNat<n-(intOf (.int .i64 (j:Int))).toNat:=by
 rw [hw]
 show n-((j+1:Nat):Int).toNat<n-(j:Int).toNat
 omega
theorem KRow.next {w0 wx w':World} {S:Nat→Prop} {s:Value} {K K':List DChange} (h:KRow w0 wx S s K) (e:K'=K) (hb:Below wx.heap.size wx w'):KRow w0 w' S s K':=e▸h.below hb
theorem KRow.last {w0 wx:World} {S:Nat→Prop} {a:Option Addr} {nk cap n0:Nat} {K K0:List DChange} {c:DChange} (h:KRow w0 wx S (.slice a nk cap) K) (hnk:K.length=nk) (hK:K=K0++[c]) (hn0:K0.length=n0) :
  ∃ g dv bv,a=some ⟨g,0,none⟩∧nk=n0+1∧nk≤cap∧(wx.cell? ⟨g,n0*5,none⟩=some (.string c.file)∧wx.cell? ⟨g,n0*5+1,none⟩=some dv∧wx.cell? ⟨g,n0*5+2,none⟩=some (.int .i64 (chAt c))∧wx.cell? ⟨g,n0*5+3,none⟩=some bv∧wx.cell? ⟨g,n0*5+4,none⟩=some (.bool (c.kind==1))) ∧
   ChAt wx (fun x=>S x∨(w0.heap.size≤x∧(Value.slice a nk cap).ownBlock≠some x)) c [.string c.file,dv,.int .i64 (chAt c),bv,.bool (c.kind==1)]∧g<wx.heap.size∧BRd wx (fun x=>S x∨(w0.heap.size≤x∧(Value.slice a nk cap).ownBlock≠some x)) bv (chBy c):=by
 have hz:nk=n0+1:=by rw [← hnk,hK,List.length_append,hn0];rfl
 obtain ⟨a',cap',kr,e,h2,h3,h4⟩:=h.shape
 simp only [Value.slice.injEq] at e
 obtain ⟨rfl,_,rfl⟩:=e
 obtain ⟨g,rfl,hB⟩:=h2 (by omega)
 have h5:=h4 n0 (by omega)
 have e1:K.getD n0 default=c:=by rw [hK];exact zaB hn0.symm
 rw [e1] at h5
 obtain ⟨dv,bv,ecs,hdo,hbv⟩:=h5.D
 have hrl:n0<kr.length:=by omega
 have c0:=(hB.cell (i:=n0) (j:=0) hrl (by omega)).1
 have c1:=(hB.cell (i:=n0) (j:=1) hrl (by omega)).1
 have c2:=(hB.cell (i:=n0) (j:=2) hrl (by omega)).1
 have c3:=(hB.cell (i:=n0) (j:=3) hrl (by omega)).1
 have c4:=(hB.cell (i:=n0) (j:=4) hrl (by omega)).1
 rw [ecs] at c0 c1 c2 c3 c4
 simp only [List.getD_cons_zero,List.getD_cons_succ,Nat.add_zero] at c0 c1 c2 c3 c4
 rw [ecs] at h5
 have hle:=hB.le
 exact ⟨g,dv,bv,rfl,hz,by omega,⟨c0,c1,c2,c3,c4⟩,h5,hB.lt,hbv⟩
def zdv (K:List DChange) (torn:Int):Bool:=match K.getLast? with
 | none=>false
 | some c=>c.kind==1&&(decide (torn≥0)&&decide (torn<c.bytes.length))
theorem zcV (K0:List DChange) (c:DChange) (torn:Int):zdv (K0++[c]) torn=(c.kind==1&&(decide (torn≥0)&&decide (torn<c.bytes.length))):=by unfold zdv;rw [List.getLast?_concat]
theorem zi6 {K:List DChange} {torn:Int} (h:zdv K torn=false):crK torn K=K:=by
 rcases List.eq_nil_or_concat K with ek | ⟨K0,c,ek⟩
 ·rw [ek];rfl
 ·rw [List.concat_eq_append] at ek
  subst ek
  rw [zcV] at h
  rw [zcx,zfq]
  rintro ⟨h1,h2,h3⟩
  rw [h1,decide_eq_true (show torn≥0 from h2),decide_eq_true h3] at h
  cases h
theorem zi5 {K:List DChange} {torn:Int} (h:zdv K torn=true):∃ K0 c,K=K0++[c]∧c.kind=1∧0≤torn∧torn<c.bytes.length:=by
 rcases List.eq_nil_or_concat K with ek | ⟨K0,c,ek⟩
 ·rw [ek] at h;cases h
 ·rw [List.concat_eq_append] at ek
  subst ek
  rw [zcV] at h
  simp only [Bool.and_eq_true,decide_eq_true_eq,beq_iff_eq] at h
  exact ⟨K0,c,rfl,h.1,h.2.1,h.2.2⟩
theorem KRow.cut {w0 wx w':World} {S:Nat→Prop} {g n nk cap:Nat} {K K0:List DChange} {c:DChange} (h:KRow w0 wx S (.slice (some ⟨g,0,none⟩) nk cap) K) (hK:K=K0++[c]) (hn:K0.length=n) (hk:nk=n+1) (hb:Below wx.heap.size wx w'):KRow w0 w' S (.slice (some ⟨g,0,none⟩) n cap) K0:=by
 subst hk
 subst hK
 exact (h.init hn).below hb
theorem KRow.torn {w0 wx w1 w5:World} {S:Nat→Prop} {g n0 cap:Nat} {K0:List DChange} {c:DChange} {cs:List Value} (h:KRow w0 wx S (.slice (some ⟨g,0,none⟩) n0 cap) K0) (hS:∀ x,S x→x<w0.heap.size) (hg:g<wx.heap.size) (hb1:Below wx.heap.size wx w1) (hb5:Below w1.heap.size w1 w5) (hc5:ChAt w5 (fun x=>w1.heap.size≤x) c cs) :
  ∃ kr:List (List Value),w5.ownsRow 0 TCh 5 (.slice (some ⟨g,0,none⟩) n0 cap) K0.length kr.flatten∧∀ (v':Value) (w':World),w'.ownsRow 0 TCh 5 v' (K0.length+1) (kr.flatten++cs)→w5.grownBy w' (Value.slice (some ⟨g,0,none⟩) n0 cap).ownBlock→(v'.ownBlock=(Value.slice (some ⟨g,0,none⟩) n0 cap).ownBlock∨∃ g,v'.ownBlock=some g∧w5.heap.size≤g)→KRow w0 w' S v' (K0++[c]):=by
 have hb05:Below wx.heap.size wx w5:=hb1.trans (hb5.mono hb1.size)
 obtain ⟨kr,g1,g2,g3⟩:=h.r
 refine ⟨kr,zak g1 fun g hg=>hb05.block g (g1.lt g hg).2,fun v' w' p1 p2 p3=>h.app hS hb05 (hc5.kept (Same.refl _ _) fun x hx hs=> .inr ⟨?_,fun e=>?_⟩) g2 g3 p1 p2 p3⟩
 ·have:=h.b.size
  have:=hb1.size
  have hs:w1.heap.size≤x:=hs
  omega
 ·have:=hb1.size
  have hs:w1.heap.size≤x:=hs
  have e:g=x:=Option.some.inj e
  omega
theorem zgQ {w:World} {p:Addr} {v:Value} (h:w.cell? p=some v):p.block<w.heap.size:=by
 rcases Nat.lt_or_ge p.block w.heap.size with h1 | h1
 ·exact h1
 ·exfalso
  have e:w.heap[p.block]? = none:=by simp [h1]
  simp [World.cell?,e] at h
theorem zfM {w:World} {x:Nat} {f a v:Value} (h:w.cell? ⟨x,0,none⟩=some f∧w.cell? ⟨x,2,none⟩=some a∧w.cell? ⟨x,3,none⟩=some v) (o:Obj):(w.alloc o).cell? ⟨x,0,none⟩=some f∧(w.alloc o).cell? ⟨x,2,none⟩=some a∧(w.alloc o).cell? ⟨x,3,none⟩=some v:=by
 have hl:=zgQ h.1
 have hb:Below w.heap.size w (w.alloc o):=(Below.refl _ _).alloc (Nat.le_refl _) _
 exact ⟨(Below.cell hb (p:=⟨x,0,none⟩) hl).trans h.1,(Below.cell hb (p:=⟨x,2,none⟩) hl).trans h.2.1,(Below.cell hb (p:=⟨x,3,none⟩) hl).trans h.2.2⟩
theorem zfL {w w':World} {row:Option Nat} {x:Nat} {f a v:Value} (h:w.cell? ⟨x,0,none⟩=some f∧w.cell? ⟨x,2,none⟩=some a∧w.cell? ⟨x,3,none⟩=some v) (hn:row≠some x) (hg:w.grownBy w' row):w'.cell? ⟨x,0,none⟩=some f∧w'.cell? ⟨x,2,none⟩=some a∧w'.cell? ⟨x,3,none⟩=some v:=by
 have hl:=zgQ h.1
 have e:=hg.block x hl fun e=>hn e.symm
 exact ⟨(World.cell?_of_block e).trans h.1,(World.cell?_of_block e).trans h.2.1,(World.cell?_of_block e).trans h.2.2⟩
set_option maxHeartbeats 8000000 in
theorem zgM {w:World} {b:Nat} {d:RDisk} {F:Nat→Prop} (h:DkOk w b d F) (hN:d.lasts.length+d.changes.length≤5000) {SK:Nat→Prop} {kv:Value} {keep:List Bool} (hk:BlR w SK kv keep) {torn:Int} (htr:I64 torn) :
  Calls Try.prog 14 #[ptrV b,kv,.int .i64 torn] w (DPost w b F (crD d keep torn) (.int .i64 0)):=by
 obtain ⟨m1,m2,v,rows,h⟩:=h.o
 obtain ⟨a,cap,rfl,hkb,hkc⟩:=hk.cells
 obtain ⟨kl,hkl⟩:∃ kl,keep.length=kl:=⟨_,rfl⟩
 rw [hkl] at hkb hkc ⊢
 have HKC:=Lib.hid hkc
 have HKB:=Lib.hid hkb
 have HKL:=Lib.hid hkl
 have hK:=fun (w1:World) (hb:Below w.heap.size w w1)=>h.below hb
 have HK:=Lib.hid hK
 have H:=Lib.hid h
 have HI:=Lib.hid h.inv
 obtain ⟨q0,q1,q2,q3,q4,q5,q6⟩:=box7 h.blk
 obtain ⟨nl,hnl⟩:∃ nl,d.changes.length=nl:=⟨_,rfl⟩
 have hvs:∃ av cv,v = .slice av nl cv:=by
  rcases h.row.2 with ⟨rfl,hz⟩ | ⟨g,cap,cur,rfl,_⟩
  ·exact ⟨none,0,by rw [← hnl,hz]⟩
  ·exact ⟨_,_,by rw [← hnl]⟩
 obtain ⟨av,cv,rfl⟩:=hvs
 have HNL:=Lib.hid hnl
 have HT:=Lib.hid htr
 clear hK hk hkc hkb hkl hnl h htr
 unfold ptrV
 go_enter Try.func14,Try.ntmps14
 go_wp2_with fail
 go_loopw [7,21] (fun s7 s21 wr=>∃ j:Nat,s21 = .int .i64 j∧j≤nl∧Hid (KRow w wr (SB F b m1 m2 (.slice av nl cv)) s7 (za9 (d.changes.take j) keep))) (fun _ s21 _=>nl-(intOf s21).toNat)
 case atStart=>exact ⟨0,rfl,Nat.zero_le _,Lib.hid (by cases keep<;>exact KRow.nil _ _)⟩
 case round=>
  obtain ⟨j,rfl,hj,HR⟩:=hrel
  by_cases hlt:j<nl
  ·have hltz:(j:Int)<(nl:Int):=by omega
   have hj0:(0:Int)≤(j:Int):=Int.natCast_nonneg j
   have hw:wrap64 ((j:Int)+1)=((j+1:Nat):Int):=by have:=HNL.out;unfold wrap64;omega
   have hbw:=HR.out.b
   obtain ⟨g,rfl,hB0,hncv,hFg⟩:=H.out.rowB HNL.out (by omega)
   have hB:=hB0.kept (hbw.block g hB0.lt)
   have hch:=(H.out.ch j (by rw [HNL.out];exact hlt)).kept (Same.below hbw) fun _ _ h=>h
   obtain ⟨c,hc⟩:∃ c,d.changes.getD j default=c:=⟨_,rfl⟩
   rw [hc] at hch
   obtain ⟨dv,bv,ecs,hdo,hbv⟩:=hch.D
   have hrl:j<rows.length:=by have:=H.out.rl;have:=HNL.out;omega
   have c0:=(hB.cell (i:=j) (j:=0) hrl (by omega)).1
   have c1:=(hB.cell (i:=j) (j:=1) hrl (by omega)).1
   have c2:=(hB.cell (i:=j) (j:=2) hrl (by omega)).1
   have c3:=(hB.cell (i:=j) (j:=3) hrl (by omega)).1
   have c4:=(hB.cell (i:=j) (j:=4) hrl (by omega)).1
   rw [ecs] at c0 c1 c2 c3 c4
   simp only [List.getD_cons_zero,List.getD_cons_succ,Nat.add_zero] at c0 c1 c2 c3 c4
   have hones:=hch.ones
   rw [ecs] at hones
   have s1:= @zae Try.prog dv (hones _ (by simp))
   have s3:= @zae Try.prog bv (hones _ (by simp))
   have hnext:=zdg d.changes keep j (by rw [HNL.out];exact hlt)
   rw [hc] at hnext
   have HN2:=Lib.hid hnext
   have hlen:=zcH (d.changes.take j) keep
   rw [List.length_take] at hlen
   have hkll:=HKL.out
   have HBW:=Lib.hid hbw
   obtain ⟨n7,hn7⟩:∃ n7,(za9 (d.changes.take j) keep).length=n7:=⟨_,rfl⟩
   rw [ecs] at hch
   by_cases hkj:j<kl
   ·have hkz:(j:Int)<(kl:Int):=by omega
    obtain ⟨gk,ok,rfl,_,hgk,hck⟩:=HKC.out j hkj
    have hckr:(wr.alloc (.cells #[.string c.file,dv,.int .i64 (chAt c),bv,.bool (c.kind==1)] TCh)).cell? ⟨gk,ok+j,none⟩=some (.bool (keep.getD j false)):=by
     rw [← hck];exact Below.cell (hbw.alloc hbw.size _) hgk
    cases hb:keep.getD j false
    ·rw [hb] at hckr
     rw [hb,if_neg (by decide)] at hnext
     have HN3:=Lib.hid hnext
     clear hdo hbv ecs hones hnext hb hch hB hB0 hn7 hck hbw hlen hFg HN2 hc
     go_wp2
     go_roundw
     case rel=>exact ⟨j+1,congrArg _ hw,hlt,Lib.hid (HR.out.next HN3.out ((Below.refl _ _).alloc (Nat.le_refl _) _))⟩
     case measure=>exact zhz hw hlt
    ·rw [hb] at hckr
     rw [hb,if_pos rfl] at hnext
     have HN3:=Lib.hid hnext
     obtain ⟨kr,hro,hkrl,hk3⟩:=HR.out.r
     obtain ⟨W1,hW1⟩:∃ W1,wr.alloc (.cells #[.string c.file,dv,.int .i64 (chAt c),bv,.bool (c.kind==1)] TCh)=W1:=⟨_,rfl⟩
     have hb1:Below wr.heap.size wr W1:=by rw [← hW1];exact (Below.refl _ _).alloc (Nat.le_refl _) _
     rw [hW1] at hckr
     have kx:Blk W1 wr.heap.size TCh #[.string c.file,dv,.int .i64 (chAt c),bv,.bool (c.kind==1)]:=by rw [← hW1];exact Blk.new wr TCh _
     obtain ⟨y0,y1,y2,y3,y4⟩:=box5 kx
     have hro1:W1.ownsRow 0 TCh 5 u7 (za9 (d.changes.take j) keep).length kr.flatten:=zak hro fun g hg=>hb1.block g (hro.lt g hg).2
     have hfin:=fun (v':Value) (w':World) (g1:w'.ownsRow 0 TCh 5 v' ((za9 (d.changes.take j) keep).length+1) (kr.flatten++[.string c.file,dv,.int .i64 (chAt c),bv,.bool (c.kind==1)])) (g2:W1.grownBy w' u7.ownBlock) (g3:v'.ownBlock=u7.ownBlock∨∃ g,v'.ownBlock=some g∧W1.heap.size≤g)=>
      (HR.out.app (c:=c) (fun x hx=>H.out.fl x hx.1) hb1 (hch.kept (Same.below hb1) fun x hx h=> .inl h) hkrl hk3 g1 g2 g3)
     have HF:=Lib.hid hfin
     have HRO:=Lib.hid hro1
     have HON:=Lib.hid hones
     have HLE:=Lib.hid (show (za9 (d.changes.take j) keep).length≤100000 by omega)
     rw [hn7] at HF HRO HLE
     clear hdo hbv ecs hones hnext hb hch hB hB0 hn7 hck hbw hlen hFg HN2 hc hfin hro hro1 hk3 hkrl hb1
     go_wp2_with (at_builtin;refine zew rfl (.tmp 36) (.tmp 38) rfl u7 n7 kr.flatten [.string c.file,dv,.int .i64 (chAt c),bv,.bool (c.kind==1)] rfl HRO.out rfl HON.out HLE.out ⟨W1.heap.size,0,none⟩ rfl rfl ?_;intro v' w' g1 g2 g3;have HF2:=Lib.hid (HF.out v' w' g1 g2 g3);clear g1 g2 g3)
     go_roundw
     case rel=>exact ⟨j+1,congrArg _ hw,hlt,Lib.hid (HN3.out▸HF2.out)⟩
     case measure=>exact zhz hw hlt
   ·have hkz:¬ (j:Int)<(kl:Int):=by omega
    have hb:keep.getD j false=false:=by rw [List.getD_eq_getElem?_getD,List.getElem?_eq_none (by omega)];rfl
    rw [hb,if_neg (by decide)] at hnext
    have HN3:=Lib.hid hnext
    clear hdo hbv ecs hones hnext hb hch hB hB0 hn7 hbw hlen hFg HN2 hc
    go_wp2
    go_roundw
    case rel=>exact ⟨j+1,congrArg _ hw,hlt,Lib.hid (HR.out.next HN3.out ((Below.refl _ _).alloc (Nat.le_refl _) _))⟩
    case measure=>exact zhz hw hlt
  ·have hltz:¬ (j:Int)<(nl:Int):=by omega
   obtain rfl:j=nl:=by omega
   have hkr:=HR.out
   rw [← HNL.out,List.take_length,HNL.out] at hkr
   have hKl:=zcH d.changes keep
   obtain ⟨K,hK⟩:∃ K,za9 d.changes keep=K:=⟨_,rfl⟩
   have hKok:=ziy HI.out keep torn
   have hcr:=ziz d keep torn
   rw [hK] at hkr hKl hKok hcr
   rw [HNL.out] at hKl
   obtain ⟨nk,hnk⟩:∃ nk,K.length=nk:=⟨_,rfl⟩
   obtain ⟨a7,cap7,kr,e7,hpos7,hkr7,hk37⟩:=hkr.shape
   rw [hnk] at e7 hpos7 hkr7 hKl
   subst e7
   have HKR:=Lib.hid hkr
   have HPOS:=Lib.hid hpos7
   have HKR7:=Lib.hid hkr7
   have HK37:=Lib.hid hk37
   have HNK:=Lib.hid hnk
   have HKO:=Lib.hid hKok
   have HCR:=Lib.hid hcr
   have hwk:wrap64 ((nk:Int)-1)=(nk:Int)-1:=by have:=HNL.out;unfold wrap64;omega
   clear hkr hpos7 hkr7 hk37 hnk hKok hcr hj HR hK q0 q1 q2 q3 q4 q5 q6
   obtain ⟨z,hz⟩:∃ z:Int,(nk:Int)-1=z:=⟨_,rfl⟩
   have hwk:=hwk.trans hz
   have HZ:=Lib.hid hz
   have HKL2:=Lib.hid hKl
   clear hz hKl
   go_upto_region 11 with fail
   rw [hwk]
   clear hwk
   go_cut [66] (fun s wx=>s = .bool (zdv K torn)∧wr=wx)
   case first=>
    rcases List.eq_nil_or_concat K with ek | ⟨K0,c,ek⟩
    ·have ez:nk=0:=by rw [← HNK.out,ek];rfl
     obtain rfl:z = -1:=by have:=HZ.out;rw [ez] at this;exact this.symm
     have eT:zdv K torn=false:=by rw [ek];rfl
     have HET:=Lib.hid eT
     clear ek ez eT
     go_wp2
     go_meet
     exact ⟨by rw [HET.out],rfl⟩
    ·rw [List.concat_eq_append] at ek
     obtain ⟨n0,hn0⟩:∃ n0,K0.length=n0:=⟨_,rfl⟩
     obtain ⟨gk,dv,bv,rfl,enk,hcap,⟨c0,c1,c2,c3,c4⟩,hch,hgk,hbv⟩:=HKR.out.last HNK.out ek hn0
     obtain rfl:z=(n0:Int):=by have:=HZ.out;omega
     have hz0:(0:Int)≤(n0:Int):=Int.natCast_nonneg _
     have hz1:(n0:Int)<(nk:Int):=by omega
     obtain ⟨a3,cp3,rfl,_⟩:=hbv.shape
     obtain ⟨n3,hn3⟩:∃ n3,(chBy c).length=n3:=⟨_,rfl⟩
     have eT:zdv K torn=(c.kind==1&&(decide (torn≥0)&&decide (torn<c.bytes.length))):=by rw [ek];unfold zdv;rw [List.getLast?_concat]
     rw [hn3] at c3
     have HET:=Lib.hid eT
     have HN3:=Lib.hid hn3
     clear eT hn3 hch hbv enk hn0 ek hcap
     cases e1:(c.kind==1)
     ·rw [e1] at c4
      have HE1:=Lib.hid e1
      clear e1
      go_wp2
      go_meet
      exact ⟨by rw [HET.out,HE1.out];rfl,rfl⟩
     ·rw [e1] at c4
      have HE1:=Lib.hid e1
      have eby:chBy c=c.bytes:=by unfold chBy;rw [if_pos (by simpa using e1)]
      have HEB:=Lib.hid eby
      clear e1 eby
      by_cases ht0:torn≥0
      ·have d1:decide (torn≥0)=true:=decide_eq_true ht0
       by_cases ht1:torn<(n3:Int)
       ·have d2:decide (torn<(n3:Int))=true:=decide_eq_true ht1
        go_wp2
        go_meet
        exact ⟨by rw [HET.out,HE1.out,← HEB.out,HN3.out,d1,d2];rfl,rfl⟩
       ·have d2:decide (torn<(n3:Int))=false:=decide_eq_false ht1
        go_wp2
        go_meet
        exact ⟨by rw [HET.out,HE1.out,← HEB.out,HN3.out,d1,d2];rfl,rfl⟩
      ·have d1:decide (torn≥0)=false:=decide_eq_false ht0
       go_wp2
       go_meet
       exact ⟨by rw [HET.out,HE1.out,d1];rfl,rfl⟩
   case rest=>
    obtain ⟨rfl,rfl⟩:=hcut
    go_upto_if 66 with fail
    go_cut [7] (fun s wx=>Hid (KRow w wx (SB F b m1 m2 (.slice av j cv)) s (crK torn K)))
    case first=>
     cases hT:zdv K torn
     ·have HCF:=Lib.hid (zi6 hT)
      clear hT
      go_wp2_with fail
      go_meet
      exact Lib.hid (by rw [HCF.out];exact HKR.out)
     ·obtain ⟨K0,c,ek,hk1,ht0,ht1⟩:=zi5 hT
      obtain ⟨n0,hn0⟩:∃ n0,K0.length=n0:=⟨_,rfl⟩
      obtain ⟨gk,dv,bv,rfl,enk,hcap,⟨c0,c1,c2,c3,c4⟩,hch,hgk,hbv⟩:=HKR.out.last HNK.out ek hn0
      obtain rfl:z=(n0:Int):=by have:=HZ.out;omega
      have hz0:(0:Int)≤(n0:Int):=Int.natCast_nonneg _
      have hz1:(n0:Int)<(nk:Int):=by omega
      have hz2:(n0:Int)≤(cap7:Int):=by omega
      have eby:chBy c=c.bytes:=by unfold chBy;rw [if_pos hk1]
      have eat:chAt c=c.at_:=by unfold chAt;rw [if_pos hk1]
      have hones:=hch.ones
      have s1:= @zae Try.prog dv (hones _ (by simp))
      have s3:= @zae Try.prog bv (hones _ (by simp))
      rw [eby] at hbv
      rw [eat] at c2
      have ek1:(c.kind==1)=true:=by simp [hk1]
      rw [ek1] at c4
      obtain ⟨W1,hW1⟩:∃ W1,wr.alloc (.cells #[.string c.file,dv,.int .i64 c.at_,bv,.bool true] TCh)=W1:=⟨_,rfl⟩
      have hb1:Below wr.heap.size wr W1:=by rw [← hW1];exact (Below.refl _ _).alloc (Nat.le_refl _) _
      have hb1d:Below wr.heap.size wr W1.drew:=hb1.drew
      have kx:Blk W1 wr.heap.size TCh #[.string c.file,dv,.int .i64 c.at_,bv,.bool true]:=by rw [← hW1];exact Blk.new wr TCh _
      obtain ⟨y0,y1,y2,y3,y4⟩:=box5 kx
      have hcut1:=HKR.out.cut ek hn0 enk hb1
      by_cases hp:torn=0
      ·subst hp
       have hcr0:crK 0 K=K0:=by rw [ek,zcx,zfo ⟨hk1,Int.le_refl _,by simpa using ht1⟩];simp
       have HC0:=Lib.hid hcr0
       have HCU:=Lib.hid hcut1
       clear hT hcr0 hcut1 ek hch hbv hones eby eat enk hn0 hk1 ek1 ht0 ht1
       go_wp2_with fail
       go_meet
       exact Lib.hid (by rw [HC0.out];exact HCU.out)
      ·obtain ⟨tk,rfl⟩:∃ tk:Nat,torn=(tk:Int):=⟨torn.toNat,by omega⟩
       have hpn:0<tk:=by omega
       have hpz:(0:Int)<(tk:Int):=by omega
       obtain ⟨a3,cp3,rfl,hsl3⟩:=hbv.shape
       have hcp:=hsl3.bd.1
       have hz3:(0:Int)≤(tk:Int):=Int.natCast_nonneg _
       have hz4:(tk:Int)≤(cp3:Int):=by omega
       have hcrk:crK tk K=K0++[⟨1,c.file,c.at_,c.bytes.take tk⟩]:=by
        rw [ek,zcx,zfU ⟨hk1,ht0,ht1⟩ hp]
        obtain ⟨ck,cf,ca,cb⟩:=c
        simp only at hk1
        subst hk1
        simp
       have hbt:BRd W1.drew (fun x=>(SB F b m1 m2 (.slice av j cv) x∨(w.heap.size≤x∧(Value.slice (some ⟨gk,0,none⟩) nk cap7).ownBlock≠some x))∧x<wr.heap.size) (.slice a3 tk cp3) (c.bytes.take tk):=(BRd.take hbv (by omega)).here.same (Same.below hb1d)
       have hwr:=zc1 (w:=W1.drew) hch.nm hch.at0.1 hch.at0.2 hbt (by rw [List.length_take];have:=hch.by0;omega)
       have hk0:=HKR.out.cut ek hn0 enk (Below.refl _ _)
       have HXN:=Lib.hid (show (Value.slice (some ⟨gk,0,none⟩) n0 cap7).ownBlock≠some wr.heap.size from fun e=>by have e:gk=wr.heap.size:=Option.some.inj e;omega)
       have HXL:=Lib.hid (show wr.heap.size<W1.drew.heap.size by rw [← hW1];simp [World.drew])
       have hfin:=fun (w5:World) (cs:List Value) (hc5:ChAt w5 (fun x=>W1.drew.heap.size≤x) ⟨1,c.file,c.at_,c.bytes.take tk⟩ cs) (hb5:Below W1.drew.heap.size W1.drew w5)=>hk0.torn (fun x hx=>H.out.fl x hx.1) hgk hb1d hb5 hc5
       have hn0l:n0≤100000:=by have:=HKL2.out;have:=HNL.out;omega
       rw [hn0] at hfin
       have HFIN:=Lib.hid hfin
       have HWR:=Lib.hid hwr
       have HC0:=Lib.hid hcrk
       have HN0:=Lib.hid hn0l
       clear hT hcrk hcut1 ek hch hbv hones eby eat enk hn0 hk1 ek1 ht0 ht1 hfin hwr hbt hsl3 hcp hn0l hp hb1 hb1d kx hk0
       go_wp2_with fail
       go_region_held3 (fun W => W.cell? ⟨wr.heap.size, 0, none⟩ = some (.string c.file) ∧ W.cell? ⟨wr.heap.size, 2, none⟩ = some (.int .i64 c.at_) ∧ W.cell? ⟨wr.heap.size, 3, none⟩ = some (.slice a3 c.bytes.length cp3)) (first | exact ⟨y0, y2, y3⟩ | exact HS1.out | exact zfM HS1.out _ | exact HS2.out) (first | (go_at_call 34; refine HWR.out.mono ?_; rintro e w5 ⟨cs, rfl, hc5, hb5⟩; obtain ⟨kr, hro, hfi⟩ := HFIN.out w5 cs hc5 hb5; have hones := hc5.ones; have hcl := hc5.len; have HRO := Lib.hid hro; have HFI := Lib.hid hfi; have HON := Lib.hid hones; have HS1 := Lib.hid (⟨(Below.cell hb5 HXL.out).trans y0, (Below.cell hb5 HXL.out).trans y2, (Below.cell hb5 HXL.out).trans y3⟩ : w5.cell? ⟨wr.heap.size, 0, none⟩ = some (.string c.file) ∧ w5.cell? ⟨wr.heap.size, 2, none⟩ = some (.int .i64 c.at_) ∧ w5.cell? ⟨wr.heap.size, 3, none⟩ = some (.slice a3 c.bytes.length cp3)); obtain ⟨dv2, bv2, rfl, _, _⟩ := hc5.D; clear hro hfi hones hcl hc5 hb5) | (refine zdR (w := w5) rfl (.tmp 76) (.tmp 86) rfl (.slice (some ⟨gk, 0, none⟩) n0 cap7) n0 kr.flatten _ rfl HRO.out rfl HON.out HN0.out ⟨w5.heap.size, 0, none⟩ rfl rfl ?_; intro v' w' g1 g2 g3; have HS2 := Lib.hid (zfL HS1.out HXN.out g2); have HF2 := Lib.hid (HFI.out v' w' g1 g2 g3); clear g1 g2 g3) | fail "none")
       all_goals go_wp2_with fail
       go_meet
       exact Lib.hid (by rw [HC0.out];exact HF2.out)
    case rest=>
     have hlk:=zgO torn K
     rw [HNK.out] at hlk
     have hlk:=Nat.le_trans hlk HKL2.out
     have hcr:=HCR.out
     have hok:=HKO.out
     have hkr:=hcut.out
     obtain ⟨Kp,hKp⟩:∃ Kp,crK torn K=Kp:=⟨_,rfl⟩
     rw [hKp] at hcr hok hkr hlk
     obtain ⟨np,hnp⟩:∃ np,Kp.length=np:=⟨_,rfl⟩
     obtain ⟨a8,cap8,kr8,e8,hpos8,hkr8,hk38⟩:=hkr.shape
     rw [hnp] at e8 hpos8 hkr8 hlk
     have hg8:=hkr.g
     rw [e8] at hg8 hk38
     have hbc:=hkr.b
     have hk1:=HK.out wc hbc
     have k1:=hk1.blk
     obtain ⟨q0,q1,q2,q3,q4,q5,q6⟩:=box7 k1
     have HCR2:=Lib.hid hcr
     have HOK2:=Lib.hid hok
     have HNP:=Lib.hid hnp
     have HPOS8:=Lib.hid hpos8
     have HKR8:=Lib.hid hkr8
     have HK38:=Lib.hid hk38
     have HG8:=Lib.hid hg8
     have HBC:=Lib.hid hbc
     have HLK:=Lib.hid hlk
     have HK1:=Lib.hid hk1
     subst e8
     clear hcr hok hnp hpos8 hkr8 hk38 hg8 hbc hlk hkr hcut hKp HCR HKO HKR HPOS HKR7 HK37 k1 hk1
     go_wp2_with fail
     try go_frame
     go_loopw [90] (fun kv wr2=>∃ i:Nat,kv = .int .i64 i∧i≤np∧Hid (Turn (fun x=>x=m1) wc wr2∧FilesAt wr2 (fun x=>SB F b m1 m2 (.slice av j cv) x∨w.heap.size≤x) m1 ((Kp.take i).foldl zaf d.lasts))) (fun kv _=>np-(intOf kv).toNat)
     case atStart=>exact ⟨0,rfl,Nat.zero_le _,Lib.hid ⟨Turn.refl _ _,HK1.out.la.kept rfl (Same.refl _ _) fun _ _ h=> .inl h⟩⟩
     case round=>
      obtain ⟨i,rfl,hi,HR2⟩:=hrel
      by_cases hlt2:i<np
      ·have hltz:(i:Int)<(np:Int):=by omega
       have hi0:(0:Int)≤(i:Int):=Int.natCast_nonneg i
       have hw:wrap64 ((i:Int)+1)=((i+1:Nat):Int):=by have:=HLK.out;have:=HNL.out;unfold wrap64;omega
       obtain ⟨g8,rfl,hrow0⟩:=HPOS8.out (by omega)
       have hg8:=HG8.out g8 rfl
       have hle8:=hrow0.le
       rw [HKR8.out] at hle8
       obtain ⟨htn,hfl⟩:=HR2.out
       have h1l:=H.out.fl _ H.out.f1
       have hbl:=H.out.fl _ H.out.fb
       have hrow:=hrow0.kept (htn.block g8 hrow0.lt (by omega))
       have hch:=HK38.out i (by rw [HNP.out];exact hlt2)
       obtain ⟨c,hc⟩:∃ c,Kp.getD i default=c:=⟨_,rfl⟩
       rw [hc] at hch
       have hcm:c∈Kp:=by
        have h1:i<Kp.length:=by rw [HNP.out];exact hlt2
        rw [← hc]
        have e:Kp.getD i default=Kp[i]:=by simp [List.getD,h1]
        rw [e];exact List.getElem_mem _
       obtain ⟨dv,bv,ecs,hdo,hbv⟩:=hch.D
       have hrl:i<kr8.length:=by rw [HKR8.out];exact hlt2
       have c0:=(hrow.cell (i:=i) (j:=0) hrl (by omega)).1
       have c1:=(hrow.cell (i:=i) (j:=1) hrl (by omega)).1
       have c2:=(hrow.cell (i:=i) (j:=2) hrl (by omega)).1
       have c3:=(hrow.cell (i:=i) (j:=3) hrl (by omega)).1
       have c4:=(hrow.cell (i:=i) (j:=4) hrl (by omega)).1
       rw [ecs] at c0 c1 c2 c3 c4
       simp only [List.getD_cons_zero,List.getD_cons_succ,Nat.add_zero] at c0 c1 c2 c3 c4
       have hones:=hch.ones
       rw [ecs] at hones
       have s1:= @zae Try.prog dv (hones _ (by simp))
       have s3:= @zae Try.prog bv (hones _ (by simp))
       have hnext:=zhL (K:=Kp) (l:=d.lasts) (j:=i) (by rw [HNP.out];exact hlt2)
       rw [hc] at hnext
       have p1:=htn.keep HK1.out.blk HK1.out.b1
       obtain ⟨S1,hS1⟩:∃ S1:Nat→Prop,(fun x=>SB F b m1 m2 (.slice av j cv) x∨w.heap.size≤x)=S1:=⟨_,rfl⟩
       rw [hS1] at hfl
       have hno1:¬ S1 m1:=by
        rw [← hS1]
        rintro (hs | hs)
        ·exact hs.2.2.1 rfl
        ·omega
       obtain ⟨wx,hwx⟩:∃ wx,wr.alloc (.cells #[.string c.file,dv,.int .i64 (chAt c),bv,.bool (c.kind==1)] TCh)=wx:=⟨_,rfl⟩
       have hbx:Below wr.heap.size wr wx.drew:=by rw [← hwx];exact ((Below.refl _ wr).alloc (Nat.le_refl _) _).drew
       have hSx:Same (fun x=>SB F b m1 m2 (.slice av j cv) x∨(w.heap.size≤x∧(Value.slice (some ⟨g8,0,none⟩) np cap8).ownBlock≠some x)) wc wx.drew:=(htn.same fun x hx e=>by
        rcases hx with hx | hx
        ·exact hx.2.2.1 e
        ·have:=hx.1;omega).trans (Same.below hbx)
       have hdo1:DoAt wx.drew S1 c dv:=hdo.kept hSx fun x _ hx=>by rw [← hS1];exact hx.imp id fun h=>h.1
       have hfl1:FilesAt wx.drew S1 m1 ((Kp.take i).foldl zaf d.lasts):=hfl.kept (hbx.block _ hfl.lt) (Same.below hbx) fun _ _ h=>h
       have hmemf:∀ x∈Kp.take i,x∈Kp:=fun x hx=>List.mem_of_mem_take hx
       have hlk:=zcF (za7 (M:=4194304) (Kp.take i) d.lasts HI.out.fb fun x hx=>by have:=HOK2.out x (hmemf x hx);exact ⟨this.1,this.2.1⟩) c.file
       have hln:=zbp (Kp.take i) d.lasts
       have hl3:(Kp.take i).length≤i:=by rw [List.length_take];omega
       have hnl2:=HNL.out
       have hlk2:=HLK.out
       obtain ⟨f,cap',hdv,hB,hcall⟩:=zgJ hdo1 hfl1 (HI.out.sl.dones _) hno1 (by omega) hch.nm hch.at0.1 hch.at0.2 hch.by0 (by omega)
       have hcf:=zaq hB
       have HC:=Lib.hid hcall
       have HN2:=Lib.hid hnext
       have HTN:=Lib.hid htn
       have HBX:=Lib.hid hbx
       have kx:Blk wx wr.heap.size TCh #[.string c.file,dv,.int .i64 (chAt c),bv,.bool (c.kind==1)]:=by rw [← hwx];exact Blk.new wr TCh _
       obtain ⟨y0,y1,y2,y3,y4⟩:=box5 kx
       have bx1x:wx.cell? ⟨b,1,none⟩=some (.map (some m1)):=(show Blk wx b TDi _ from (hbx.block b (by have:=htn.size;have:=HBC.out.size;omega)).trans p1).cell 1
       have HFIN:=Lib.hid (fun (w5:World) (ht5:Turn (fun x=>x=m1) wx.drew w5) (hf5:FilesAt w5 (fun x=>S1 x∨wx.drew.heap.size≤x) m1 (zaf ((Kp.take i).foldl zaf d.lasts) c))=>(⟨(htn.trans (Turn.below (F:=fun x=>x=m1) hbx) fun x _ h=>h).trans ht5 fun x _ h=>h,by
        rw [hnext]
        refine hf5.kept rfl (Same.refl _ _) fun x _ hx=>?_
        rcases hx with hx | hx
        ·rw [← hS1] at hx;exact hx
        ·exact .inr (Nat.le_trans HBC.out.size (Nat.le_trans htn.size (Nat.le_trans hbx.size hx)))⟩:Turn (fun x=>x=m1) wc w5∧FilesAt w5 (fun x=>SB F b m1 m2 (.slice av j cv) x∨w.heap.size≤x) m1 ((Kp.take (i+1)).foldl zaf d.lasts)))
       subst hdv
       clear hnext hfl hfl1 htn hno1 hch hdo hdo1 hbv ecs hones hrow hrow0 p1 hcall hbx hSx hmemf hlk hln hl3 kx hg8 h1l hbl hcm hnl2 hlk2 hS1 hc
       go_wp2_with fail
       try rw [hwx]
       clear hwx
       go_still_tail 6,(by kernel_rfl)
       change wpList _ _ _ _ _ wx.drew
       go_wp2_with (first | (refine HC.out.mono ?_;rintro e w5 ⟨rfl,ht5,hf5⟩;have HF5:=Lib.hid (HFIN.out w5 ht5 hf5);clear ht5 hf5))
       go_roundw
       case rel=>exact ⟨i+1,congrArg _ hw,hlt2,HF5⟩
       case measure=>exact zhz hw hlt2
      ·have hltz:¬ (i:Int)<(np:Int):=by omega
       obtain rfl:i=np:=by omega
       obtain ⟨htn,hfl⟩:=HR2.out
       rw [← HNP.out,List.take_length] at hfl
       have k1:=htn.keep HK1.out.blk HK1.out.b1
       obtain ⟨q0,q1,q2,q3,q4,q5,q6⟩:=box7 k1
       obtain ⟨z0,z1,z2,z3,z4,z5,z6⟩:=zdQ k1
       have hln:=zbp Kp d.lasts
       have hfl2:FilesAt wr (fun x=>(SB F b m1 m2 (.slice av j cv) x∨w.heap.size≤x)∧x<wr.heap.size) m1 (crD d keep torn).lasts:=by
        rw [HCR2.out]
        exact hfl.kept rfl (Same.refl _ _) fun x hx h=>⟨h,hx⟩
       have hcl:=zfI hfl2
       have hfin:=fun (w5:World) (hf3:FilesAt w5 (fun x=>(SB F b m1 m2 (.slice av j cv) x∨w.heap.size≤x)∧x<wr.heap.size) wr.heap.size (crD d keep torn).lasts) (hb5:Below wr.heap.size wr w5)=>H.out.crash (keep:=keep) (torn:=torn) ((Turn.below HBC.out).trans htn fun x _ h=>h) (hfl2.kept (hb5.block _ hfl2.lt) (Same.below hb5) fun _ _ h=>h) hf3 hb5
       have hkp:=fun (w5:World) (hb5:Below wr.heap.size wr w5)=>(show Blk w5 b TDi _ from (hb5.block b (show Blk wr b TDi _ from k1).lt).trans k1)
       have HCL:=Lib.hid hcl
       have HFI:=Lib.hid hfin
       have HKP:=Lib.hid hkp
       clear hcl hfin hkp hfl2 hfl htn k1 hln
       go_wp2_with (go_at_call 35;refine HCL.out.mono ?_;rintro e w5 ⟨rfl,hf3,hb5⟩;have k5:=HKP.out w5 hb5;obtain ⟨q0,q1,q2,q3,q4,q5,q6⟩:=box7 k5;obtain ⟨z0,z1,z2,z3,z4,z5,z6⟩:=zdQ k5;have HP:=Lib.hid (HFI.out w5 hf3 hb5);clear k5 hf3 hb5)
       go_ret
       exact HP.out
theorem zhM {w:World} {S:Nat→Prop} {v:Value} {l:List Int} (h:BRd w S v l):(convert TBy TSt v).run Try.prog w = .ok (.string (zdy l)) w:=by
 obtain ⟨a,c,rfl,hsl⟩:=h.shape
 rw [run_convert_bytes_string (P:=Try.prog) w TBy TSt TU a l.length c (by kernel_rfl) (by kernel_rfl) undS]
 by_cases h0:l.length=0
 ·have:l=[]:=List.eq_nil_of_length_eq_zero h0
  subst this
  cases a with
  | none=>rfl
  | some ad=>exact run_bytesToString (P:=Try.prog) w ad 0 c [] (by have:=run_loadCells (P:=Try.prog) (w:=w) ad 0 (fun _=>undef) (fun j hj=>absurd hj (Nat.not_lt_zero _));simpa using this)
 ·obtain ⟨b,off,rfl,_,_,_,_,_,hc⟩:=BRd.row h (by omega)
  have h1:=run_bytesToString (P:=Try.prog) w ⟨b,off,none⟩ l.length c l (by
   have:=run_loadCells_list (P:=Try.prog) w ⟨b,off,none⟩ (l.map (Value.int .u8)) (fun j v hj=>zfX rfl (fun i hi=>(hc i hi).1) j v hj)
   simpa using this)
  rw [zcY] at h1
  exact h1
abbrev FewD (d:RDisk):Prop:=d.lasts.length+d.changes.length≤5000
theorem zkf (n:Value) (w:World):Calls Try.prog 11 #[.pointer none,n] w fun e w'=>e = .returned (.tuple #[.slice none 0 0,.int .i64 3])∧Below w.heap.size w w':=by
 go_enter Try.func11,Try.ntmps11
 go_wp2
 go_ret2
 exact ⟨rfl,Below.refl _ _⟩
theorem zkg (w:World):Calls Try.prog 16 #[.pointer none] w fun e w'=>e = .returned (.slice none 0 0)∧Below w.heap.size w w':=by
 go_enter Try.func16,Try.ntmps16
 go_wp2
 go_ret
 exact ⟨rfl,Below.refl _ _⟩
theorem ndown (w:World):Calls Try.prog 15 #[.pointer none] w fun e w'=>e = .returned (.bool false)∧Below w.heap.size w w':=by
 go_enter Try.func15,Try.ntmps15
 go_wp2
 go_ret
 exact ⟨rfl,Below.refl _ _⟩
theorem zbN (w:World):Calls Try.prog 29 #[.pointer none] w fun e w'=>e = .returned (.int .i64 3)∧Below w.heap.size w w':=by
 go_enter Try.func29,Try.ntmps29
 go_wp2
 go_ret
 exact ⟨rfl,Below.refl _ _⟩
theorem zkc (a b c:Value) (w:World):Calls Try.prog 22 #[.pointer none,a,b,c] w fun e w'=>e = .returned (.int .i64 3)∧Below w.heap.size w w':=by
 have h:=fun w=>zbN w
 go_enter Try.func22,Try.ntmps22
 go_wp2_with (go_at_call 29;refine (h _).mono ?_;rintro e w1 ⟨rfl,hb1⟩)
 go_ret
 exact ⟨rfl,hb1⟩
theorem ncut (a b:Value) (w:World):Calls Try.prog 23 #[.pointer none,a,b] w fun e w'=>e = .returned (.int .i64 3)∧Below w.heap.size w w':=by
 have h:=fun w1 (hb:Below w.heap.size w w1)=>(zbN w1).mono (R':=fun e w'=>e = .returned (.int .i64 3)∧Below w.heap.size w w') fun e w' ⟨he,h⟩=>⟨he,hb.trans (h.mono hb.size)⟩
 go_enter Try.func23,Try.ntmps23
 go_wp2_with (go_at_call 29;refine (h _ (by first | exact Below.refl _ _ | exact (Below.refl _ _).alloc (Nat.le_refl _) _ | exact ((Below.refl _ _).alloc (Nat.le_refl _) _).alloc (by simp<;>omega) _)).mono ?_;rintro e w1 ⟨rfl,hb1⟩)
 go_ret
 exact ⟨rfl,hb1⟩
theorem ziO (a:Value) (w:World):Calls Try.prog 24 #[.pointer none,a] w fun e w'=>e = .returned (.int .i64 3)∧Below w.heap.size w w':=by
 have h:=fun w1 (hb:Below w.heap.size w w1)=>(zbN w1).mono (R':=fun e w'=>e = .returned (.int .i64 3)∧Below w.heap.size w w') fun e w' ⟨he,h⟩=>⟨he,hb.trans (h.mono hb.size)⟩
 go_enter Try.func24,Try.ntmps24
 go_wp2_with (go_at_call 29;refine (h _ (by first | exact Below.refl _ _ | exact (Below.refl _ _).alloc (Nat.le_refl _) _ | exact ((Below.refl _ _).alloc (Nat.le_refl _) _).alloc (by simp<;>omega) _)).mono ?_;rintro e w1 ⟨rfl,hb1⟩)
 go_ret
 exact ⟨rfl,hb1⟩
theorem nsync (a:Value) (w:World):Calls Try.prog 12 #[.pointer none,a] w fun e w'=>e = .returned (.int .i64 3)∧Below w.heap.size w w':=by
 have h:=fun w1 (hb:Below w.heap.size w w1)=>(zbN w1).mono (R':=fun e w'=>e = .returned (.int .i64 3)∧Below w.heap.size w w') fun e w' ⟨he,h⟩=>⟨he,hb.trans (h.mono hb.size)⟩
 go_enter Try.func12,Try.ntmps12
 go_wp2_with (go_at_call 29;refine (h _ (by first | exact Below.refl _ _ | exact (Below.refl _ _).alloc (Nat.le_refl _) _ | exact ((Below.refl _ _).alloc (Nat.le_refl _) _).alloc (by simp<;>omega) _)).mono ?_;rintro e w1 ⟨rfl,hb1⟩)
 go_ret
 exact ⟨rfl,hb1⟩
theorem nstop (a:Value) (w:World):Calls Try.prog 21 #[.pointer none,a] w fun e w'=>e = .returned (.int .i64 3)∧Below w.heap.size w w':=by
 have h:=fun w=>zbN w
 go_enter Try.func21,Try.ntmps21
 go_wp2_with (go_at_call 29;refine (h _).mono ?_;rintro e w1 ⟨rfl,hb1⟩)
 go_ret
 exact ⟨rfl,hb1⟩
theorem zkh (a b:Value) (w:World):Calls Try.prog 14 #[.pointer none,a,b] w fun e w'=>e = .returned (.int .i64 3)∧Below w.heap.size w w':=by
 go_enter Try.func14,Try.ntmps14
 go_wp2
 go_ret
 exact ⟨rfl,Below.refl _ _⟩
theorem zkd (a b c:Value) (w:World):Calls Try.prog 25 #[.pointer none,a,b,c] w fun e w'=>e = .returned (.int .i64 3)∧Below w.heap.size w w':=by
 have h:=fun w=>zkf a w
 go_enter Try.func25,Try.ntmps25
 go_wp2_with (go_at_call 11;refine (h _).mono ?_;rintro e w1 ⟨rfl,hb1⟩)
 go_ret
 exact ⟨rfl,hb1⟩
def dNp:Dec Unit where
 dec:=fun s=>match s with | .np=>some () | _=>none
 can:=fun _=> .np
 Okp:=fun _=>True
 okp:=fun _ _ _ _ _=>trivial
 ok:=by
  intro s x h E w v hz hd
  split at h
  ·exact hd
  ·simp at h
theorem FnC.of_npB {f:FuncId} {rest:List SV} {out:SV} (hB:FnB Try.prog f)
  (h:∀ (w:World) (E:Env) (vals:List Value),DenL E w rest vals→Calls Try.prog f ((.pointer none::vals:List Value)).toArray w fun e w'=>∃ v,e = .returned v∧(∀ E2 w2,DenV E2 w2 out v)∧Below w.heap.size w w') :
  FnC Try.prog f (dNp.can ()::rest) out D2:=by
 refine FnC.of_below hB fun w E vals hd=>?_
 match vals,hd with
 | v::vals,hd=>
  obtain rfl:v = .pointer none:=hd.1
  refine Calls.mono (h w E vals hd.2) ?_
  rintro e w' ⟨v,rfl,hv,hb⟩
  exact ⟨v,rfl,hb,fun E' _ _=>hv _ _⟩
theorem zk9 (x0:ByteArray):FnC Try.prog 11 [dNp.can (),dStr.can x0] (.tup [.nil,.int .i64 3]) D2:=
 FnC.of_npB (fnB Try.func11 (by decide) rfl) fun w E vals hd=>by
  match vals,hd with
  | [v0],hd=>exact (zkf v0 w).mono fun e w' ⟨he,hb⟩=>⟨_,he,fun _ _=>⟨[.slice none 0 0,.int .i64 3],rfl,rfl,⟨rfl,by decide⟩,trivial⟩,hb⟩
noncomputable def eRdN:Ent:=ent2 11 dNp dStr fun _ x0=>([],.tup [.nil,.int .i64 3],D2)
theorem zjp:za8 Try.prog eRdN:=zcO (fnB Try.func11 (by decide) rfl) fun _ x0 _=>zk9 x0
theorem zkA:FnC Try.prog 16 [dNp.can ()] (.nil) D2:=
 FnC.of_npB (fnB Try.func16 (by decide) rfl) fun w E vals hd=>by
  match vals,hd with
  | [],hd=>exact (zkg  w).mono fun e w' ⟨he,hb⟩=>⟨_,he,fun _ _=>rfl,hb⟩
noncomputable def eNmN:Ent:=ent1 16 dNp fun _=>([],.nil,D2)
theorem zjq:za8 Try.prog eNmN:=ze9 (fnB Try.func16 (by decide) rfl) fun _  _=>zkA
theorem zkB:FnC Try.prog 15 [dNp.can ()] (.bool false) D2:=
 FnC.of_npB (fnB Try.func15 (by decide) rfl) fun w E vals hd=>by
  match vals,hd with
  | [],hd=>exact (ndown  w).mono fun e w' ⟨he,hb⟩=>⟨_,he,fun _ _=>rfl,hb⟩
noncomputable def eDnN:Ent:=ent1 15 dNp fun _=>([],.bool false,D2)
theorem zjr:za8 Try.prog eDnN:=ze9 (fnB Try.func15 (by decide) rfl) fun _  _=>zkB
theorem zk3 (x0:ByteArray) (x1:Int) (x2:List Int):FnC Try.prog 22 [dNp.can (),dStr.can x0,dInt.can x1,dBytes.can x2] (.int .i64 3) D2:=
 FnC.of_npB (fnB Try.func22 (by decide) rfl) fun w E vals hd=>by
  match vals,hd with
  | [v0,v1,v2],hd=>exact (zkc v0 v1 v2 w).mono fun e w' ⟨he,hb⟩=>⟨_,he,fun _ _=>⟨rfl,by decide⟩,hb⟩
noncomputable def eWrN:Ent:=ent4 22 dNp dStr dInt dBytes fun _ x0 x1 x2=>([],.int .i64 3,D2)
theorem zjk:za8 Try.prog eWrN:=zgE (fnB Try.func22 (by decide) rfl) fun _ x0 x1 x2 _=>zk3 x0 x1 x2
theorem zkD (x0:ByteArray) (x1:Int):FnC Try.prog 23 [dNp.can (),dStr.can x0,dInt.can x1] (.int .i64 3) D2:=
 FnC.of_npB (fnB Try.func23 (by decide) rfl) fun w E vals hd=>by
  match vals,hd with
  | [v0,v1],hd=>exact (ncut v0 v1 w).mono fun e w' ⟨he,hb⟩=>⟨_,he,fun _ _=>⟨rfl,by decide⟩,hb⟩
noncomputable def eCuN:Ent:=ent3 23 dNp dStr dInt fun _ x0 x1=>([],.int .i64 3,D2)
theorem zjs:za8 Try.prog eCuN:=zgF (fnB Try.func23 (by decide) rfl) fun _ x0 x1 _=>zkD x0 x1
theorem zk7 (x0:ByteArray):FnC Try.prog 24 [dNp.can (),dStr.can x0] (.int .i64 3) D2:=
 FnC.of_npB (fnB Try.func24 (by decide) rfl) fun w E vals hd=>by
  match vals,hd with
  | [v0],hd=>exact (ziO v0 w).mono fun e w' ⟨he,hb⟩=>⟨_,he,fun _ _=>⟨rfl,by decide⟩,hb⟩
noncomputable def eRmN:Ent:=ent2 24 dNp dStr fun _ x0=>([],.int .i64 3,D2)
theorem zjo:za8 Try.prog eRmN:=zcO (fnB Try.func24 (by decide) rfl) fun _ x0 _=>zk7 x0
theorem zk4 (x0:ByteArray):FnC Try.prog 12 [dNp.can (),dStr.can x0] (.int .i64 3) D2:=
 FnC.of_npB (fnB Try.func12 (by decide) rfl) fun w E vals hd=>by
  match vals,hd with
  | [v0],hd=>exact (nsync v0 w).mono fun e w' ⟨he,hb⟩=>⟨_,he,fun _ _=>⟨rfl,by decide⟩,hb⟩
noncomputable def eSyN:Ent:=ent2 12 dNp dStr fun _ x0=>([],.int .i64 3,D2)
theorem zjl:za8 Try.prog eSyN:=zcO (fnB Try.func12 (by decide) rfl) fun _ x0 _=>zk4 x0
theorem zk5 (x0:Int):FnC Try.prog 21 [dNp.can (),dInt.can x0] (.int .i64 3) D2:=
 FnC.of_npB (fnB Try.func21 (by decide) rfl) fun w E vals hd=>by
  match vals,hd with
  | [v0],hd=>exact (nstop v0 w).mono fun e w' ⟨he,hb⟩=>⟨_,he,fun _ _=>⟨rfl,by decide⟩,hb⟩
noncomputable def eStN:Ent:=ent2 21 dNp dInt fun _ x0=>([],.int .i64 3,D2)
theorem zjm:za8 Try.prog eStN:=zcO (fnB Try.func21 (by decide) rfl) fun _ x0 _=>zk5 x0
theorem zkE (x0:List Bool) (x1:Int):FnC Try.prog 14 [dNp.can (),dBools.can x0,dInt.can x1] (.int .i64 3) D2:=
 FnC.of_npB (fnB Try.func14 (by decide) rfl) fun w E vals hd=>by
  match vals,hd with
  | [v0,v1],hd=>exact (zkh v0 v1 w).mono fun e w' ⟨he,hb⟩=>⟨_,he,fun _ _=>⟨rfl,by decide⟩,hb⟩
noncomputable def eCrN:Ent:=ent3 14 dNp dBools dInt fun _ x0 x1=>([],.int .i64 3,D2)
theorem zjt:za8 Try.prog eCrN:=zgF (fnB Try.func14 (by decide) rfl) fun _ x0 x1 _=>zkE x0 x1
theorem zk6 (x0:ByteArray) (x1:Int) (x2:Int):FnC Try.prog 25 [dNp.can (),dStr.can x0,dInt.can x1,dByte.can x2] (.int .i64 3) D2:=
 FnC.of_npB (fnB Try.func25 (by decide) rfl) fun w E vals hd=>by
  match vals,hd with
  | [v0,v1,v2],hd=>exact (zkd v0 v1 v2 w).mono fun e w' ⟨he,hb⟩=>⟨_,he,fun _ _=>⟨rfl,by decide⟩,hb⟩
noncomputable def eSpN:Ent:=ent4 25 dNp dStr dInt dByte fun _ x0 x1 x2=>([],.int .i64 3,D2)
theorem zjn:za8 Try.prog eSpN:=zgE (fnB Try.func25 (by decide) rfl) fun _ x0 x1 x2 _=>zk6 x0 x1 x2
end Go.Proofs.Ytfccndnnpkiajaa
namespace Go.Proofs.Ytfccndnnpkiajaa
open Go.RowKit Go.ChangeShapes Go.WideShapes Go.Deep
set_option maxRecDepth 100000
theorem zd6 (n:ByteArray):leN n n=true:=zf2 (zar n)
section
variable {n : ByteArray}
theorem aw1 (hn:zb1 n=true):wrD (zfF 10) n 0 [97,98,99]=(⟨10,[],[⟨1,n,0,[97,98,99]⟩],false,false,0⟩,0):=by
 simp [wrD,zfF,zal,hn,zaC,za4,zaf,za3,zaE,sumF,chgD,zcb]
theorem aw2 (hn:zb1 n=true):syD ⟨10,[],[⟨1,n,0,[97,98,99]⟩],false,false,0⟩ n=(⟨10,[⟨n,[97,98,99]⟩],[],false,false,0⟩,0):=by
 simp [syD,hn,ofF,zar,zaC,za4,zaf,za3,zaE,zcb]
theorem aw3 (hn:zb1 n=true):wrD ⟨10,[⟨n,[97,98,99]⟩],[],false,false,0⟩ n 3 [100,101]=(⟨10,[⟨n,[97,98,99]⟩],[⟨1,n,3,[100,101]⟩],false,false,0⟩,0):=by
 simp [wrD,zal,hn,zaC,za4,zaf,za3,zaE,sumF,chgD,zcb,zar,zd6,List.range_succ]
theorem aw4 (hn:zb1 n=true):wrD ⟨10,[⟨n,[97,98,99]⟩],[⟨1,n,3,[100,101]⟩],false,false,0⟩ n 5 [102,103]=(⟨10,[⟨n,[97,98,99]⟩],[⟨1,n,3,[100,101]⟩,⟨1,n,5,[102,103]⟩],false,false,0⟩,0):=by
 simp [wrD,zal,hn,zaC,za4,zaf,za3,zaE,sumF,chgD,zcb,zar,zd6,List.range_succ]
theorem aw5:crD ⟨10,[⟨n,[97,98,99]⟩],[⟨1,n,3,[100,101]⟩,⟨1,n,5,[102,103]⟩],false,false,0⟩ [false,true] (-1)=⟨10,[⟨n,[97,98,99,0,0,102,103]⟩],[],false,false,0⟩:=by
 simp [crD,za9,zdn,zb7,zaC,za4,zaf,za3,zaE,zar,zd6,List.range_succ]
theorem aw6:zge ⟨10,[⟨n,[97,98,99,0,0,102,103]⟩],[],false,false,0⟩ n=([97,98,99,0,0,102,103],0):=by
 simp [zge,zal,zaC,za4,zar]
end
def nmA:ByteArray:=⟨#[97]⟩
theorem zeY:zb1 nmA=true:=by decide
structure AwS (w wk:World) (b:Nat) (d:RDisk):Prop where
 o:∃ F,DkOk wk b d F∧(∀ x,F x→w.heap.size≤x)∧Below w.heap.size w wk
theorem AwS.below {w wk w':World} {b:Nat} {d:RDisk} (h:AwS w wk b d) (hb:Below wk.heap.size wk w'):AwS w w' b d:=by
 obtain ⟨F,h1,h2,h3⟩:=h.o
 exact ⟨F,h1.kept hb.size fun x hx=>hb.block x (h1.lt hx),h2,h3.trans (hb.mono h3.size)⟩
theorem AwS.call {w wk:World} {b:Nat} {d d':RDisk} {f:FuncId} {vals:Array Value} {r:Value} (h:AwS w wk b d) (con:∀ F,DkOk wk b d F→Calls Try.prog f vals wk (DPost wk b F d' r)):Calls Try.prog f vals wk fun e w'=>e = .returned r∧AwS w w' b d':=by
 obtain ⟨F,h1,h2,h3⟩:=h.o
 refine (con F h1).mono fun e w' ⟨he,F',p1,p2,p3⟩=>⟨he,F',p1,fun x hx=>?_,⟨p3.os.trans h3.os,p3.tape.trans h3.tape,p3.output.trans h3.output,Nat.le_trans h3.size p3.size,fun x hx=>?_⟩⟩
 ·rcases p2 x hx with g | g
  ·exact h2 x g
  ·exact Nat.le_trans h3.size g
 ·exact (p3.block x (Nat.lt_of_lt_of_le hx h3.size) fun g=>by have:=h2 x g;omega).trans (h3.block x hx)
theorem ziV (w:World) (l:List Int) (hB:By l) (hl:l.length≤1000):BRd (w.alloc (.cells (u8s l).toArray TU (l.length,l.length+1))) (fun x=>x=w.heap.size) (.slice (some ⟨w.heap.size,0,none⟩) l.length l.length) l:=by
 have hh:(w.alloc (.cells (u8s l).toArray TU (l.length,l.length+1))).heap[w.heap.size]? = some (.cells (u8s l).toArray TU (l.length,l.length+1)):=by
  show (w.heap.push _)[w.heap.size]? = _
  simp
 refine BRd.of_row rfl (Nat.le_refl _) (by unfold maxLen;omega) (by omega) rfl (by simp) hB fun i hi=>⟨?_,?_⟩
 ·rw [Nat.zero_add]
  simp only [World.cell?,hh,List.getElem?_toArray,zdu hi];rfl
 ·rw [Nat.zero_add]
  simp only [World.frozen?,hh]
  simp
  omega
theorem zkl (w:World) (l:List Bool) (hp:0<l.length) (hl:l.length≤1000):BlR (w.alloc (.cells (l.map Value.bool).toArray 4)) (fun x=>x=w.heap.size) (.slice (some ⟨w.heap.size,0,none⟩) l.length l.length) l:=by
 have hh:(w.alloc (.cells (l.map Value.bool).toArray 4)).heap[w.heap.size]? = some (.cells (l.map Value.bool).toArray 4 (0,0)):=by
  show (w.heap.push _)[w.heap.size]? = _
  simp
 refine Rd.row (fun i _=> .bool (l.getD i false)) hp (List.length_map ..).symm (Nat.le_refl _) (by unfold maxLen;omega) (by omega) rfl (by simp) (fun i j hi hj=>?_) (fun i hi=>?_) (fun i j hi hj=>?_) (fun i j hi hj=>?_)
 ·have:j=0:=by simp at hj;omega
  subst this
  simp only [List.length_cons,List.length_nil,Nat.zero_add,Nat.mul_one,Nat.add_zero]
  simp only [World.cell?,hh]
  simp [List.getD,hi]
 ·simp [List.getD,hi]
 ·have:j=0:=by simp at hj;omega
  subst this
  have e1:((l.map fun b=>[D.bool b]).getD i []).getD 0 default = .bool (l.getD i false):=by simp [List.getD,hi]
  rw [e1]
  exact Rd.bool
 ·have:j=0:=by simp at hj;omega
  subst this
  simp only [World.frozen?,hh]
  simp
abbrev dA0:RDisk:=zfF 10
abbrev dA1:RDisk:=⟨10,[],[⟨1,nmA,0,[97,98,99]⟩],false,false,0⟩
abbrev dA2:RDisk:=⟨10,[⟨nmA,[97,98,99]⟩],[],false,false,0⟩
abbrev dA3:RDisk:=⟨10,[⟨nmA,[97,98,99]⟩],[⟨1,nmA,3,[100,101]⟩],false,false,0⟩
abbrev dA4:RDisk:=⟨10,[⟨nmA,[97,98,99]⟩],[⟨1,nmA,3,[100,101]⟩,⟨1,nmA,5,[102,103]⟩],false,false,0⟩
abbrev dA5:RDisk:=⟨10,[⟨nmA,[97,98,99,0,0,102,103]⟩],[],false,false,0⟩
theorem zdN {w wk:World} {b:Nat} {d d':RDisk} {k:Int} {l:List Int} (h:AwS w wk b d) (hN:FewD d) (hB:By l) (hl:l.length≤1000) (hk:I64 k) (he:wrD d nmA k l=(d',0)) :
  Calls Try.prog 22 #[ptrV b,.string nmA,.int .i64 k,.slice (some ⟨wk.heap.size,0,none⟩) l.length l.length] (wk.alloc (.cells (u8s l).toArray TU (l.length,l.length+1))) fun e w'=>e = .returned (.int .i64 0)∧AwS w w' b d':=by
 have h1:AwS w (wk.alloc (.cells (u8s l).toArray TU (l.length,l.length+1))) b d:=h.below ((Below.refl _ _).alloc (Nat.le_refl _) _)
 refine h1.call fun F hd=>?_
 have:=zfP hd hN (ziV wk l hB hl) (by omega) (n:=nmA) (by decide) hk
 rw [he] at this
 exact this
set_option maxHeartbeats 4000000 in
theorem zhb (w:World):Calls Try.prog 13 #[] w fun e w'=>e = .returned (.bool true)∧Below w.heap.size w w':=by
 have hcv:=fun (w:World) (C:Array Value) (n c:Nat)=>Lib.run_convert_bytes_const (P:=Try.prog) w TBy TU C n c (by kernel_rfl) (by kernel_rfl)
 have C0:=Lib.hid (zhH (w:=w) (room:=10) (by decide) (by decide))
 have C1:=Lib.hid (fun w1=>zjv (w:=w1) (room:=0) (.inl (by decide)))
 have C2:=Lib.hid (fun (wk:World) (b:Nat) (h:AwS w wk b dA0)=>(show Calls Try.prog 22 #[.pointer (some ⟨b,0,none⟩),.string ⟨#[97]⟩,.int .i64 0,.slice (some ⟨wk.heap.size,0,none⟩) 3 3] (wk.alloc (.cells #[.int .u8 97,.int .u8 98,.int .u8 99] TU (3,4))) fun e w'=>e = .returned (.int .i64 0)∧AwS w w' b dA1 from zdN h (by decide) (l:=[97,98,99]) (by intro x hx;simp at hx;omega) (by decide) (by decide) (aw1 zeY)))
 have C3:=Lib.hid (fun (wk:World) (b:Nat) (h:AwS w wk b dA1)=>(show Calls Try.prog 12 #[.pointer (some ⟨b,0,none⟩),.string ⟨#[97]⟩] (wk) fun e w'=>e = .returned (.int .i64 0)∧AwS w w' b dA2 from h.call (d':=dA2) (r:= .int .i64 0) fun F hd=>by
  have:=zgI hd (by decide) (n:=nmA) (by decide)
  rw [aw2 zeY] at this
  exact this))
 have C4:=Lib.hid (fun (wk:World) (b:Nat) (h:AwS w wk b dA2)=>(show Calls Try.prog 22 #[.pointer (some ⟨b,0,none⟩),.string ⟨#[97]⟩,.int .i64 3,.slice (some ⟨wk.heap.size,0,none⟩) 2 2] (wk.alloc (.cells #[.int .u8 100,.int .u8 101] TU (2,3))) fun e w'=>e = .returned (.int .i64 0)∧AwS w w' b dA3 from zdN h (by decide) (l:=[100,101]) (by intro x hx;simp at hx;omega) (by decide) (by decide) (aw3 zeY)))
 have C5:=Lib.hid (fun (wk:World) (b:Nat) (h:AwS w wk b dA3)=>(show Calls Try.prog 22 #[.pointer (some ⟨b,0,none⟩),.string ⟨#[97]⟩,.int .i64 5,.slice (some ⟨wk.heap.size,0,none⟩) 2 2] (wk.alloc (.cells #[.int .u8 102,.int .u8 103] TU (2,3))) fun e w'=>e = .returned (.int .i64 0)∧AwS w w' b dA4 from zdN h (by decide) (l:=[102,103]) (by intro x hx;simp at hx;omega) (by decide) (by decide) (aw4 zeY)))
 have C6:=Lib.hid (fun (wk:World) (b:Nat) (h:AwS w wk b dA4)=>(show Calls Try.prog 14 #[.pointer (some ⟨b,0,none⟩),.slice (some ⟨wk.heap.size,0,none⟩) 2 2,.int .i64 (-1)] (wk.alloc (.cells #[.bool false,.bool true] 4)) fun e w'=>e = .returned (.int .i64 0)∧AwS w w' b dA5 from (h.below ((Below.refl _ _).alloc (Nat.le_refl _) (.cells #[.bool false,.bool true] 4))).call (d':=dA5) (r:= .int .i64 0) fun F hd=>by
  have:=zgM hd (by decide) (zkl wk [false,true] (by decide) (by decide)) (torn:= -1) (by decide)
  rw [aw5] at this
  exact this))
 have C7:=Lib.hid (fun (wk:World) (b:Nat) (h:AwS w wk b dA5)=>(show Calls Try.prog 11 #[.pointer (some ⟨b,0,none⟩),.string ⟨#[97]⟩] wk fun e w'=>∃ u,e = .returned (.tuple #[u,.int .i64 0])∧(convert TBy TSt u).run Try.prog w' = .ok (.string ⟨#[97,98,99,0,0,102,103]⟩) w'∧Below w.heap.size w w' from by
  obtain ⟨F,h1,h2,h3⟩:=h.o
  refine (zhr h1 (n:=nmA) (by decide)).mono ?_
  rintro e w' ⟨u,rfl,hb,hr⟩
  rw [aw6] at hr ⊢
  exact ⟨u,rfl,zhM hr,h3.trans (hb.mono h3.size)⟩))
 unfold ptrV at C0
 go_enter Try.func13,Try.ntmps13
 go_wp2_with (first
  | (go_at_call 9;with_reducible refine C0.out.mono ?_;rintro e w1 ⟨b,F,rfl,h1,h2,h3⟩;have S0:=Lib.hid (⟨F,h1,h2,h3⟩:AwS w w1 b dA0);clear h1 h2 h3)
  | (go_at_call 9;with_reducible refine (C1.out _).mono ?_;rintro e w2 ⟨rfl,rfl⟩)
  | (go_at_call 22;with_reducible refine (C2.out _ _ S0.out).mono ?_;rintro e w3 ⟨rfl,h⟩;have S1:=Lib.hid h;clear h)
  | (go_at_call 12;with_reducible refine (C3.out _ _ S1.out).mono ?_;rintro e w4 ⟨rfl,h⟩;have S2:=Lib.hid h;clear h)
  | (go_at_call 22;with_reducible refine (C4.out _ _ S2.out).mono ?_;rintro e w5 ⟨rfl,h⟩;have S3:=Lib.hid h;clear h)
  | (go_at_call 22;with_reducible refine (C5.out _ _ S3.out).mono ?_;rintro e w6 ⟨rfl,h⟩;have S4:=Lib.hid h;clear h)
  | (go_at_call 14;with_reducible refine (C6.out _ _ S4.out).mono ?_;rintro e w7 ⟨rfl,h⟩;have S5:=Lib.hid h;clear h)
  | (go_at_call 11;with_reducible refine (C7.out _ _ S5.out).mono ?_;rintro e w8 ⟨u,rfl,hcu,h⟩;have S6:=Lib.hid h;clear h)
  | fail)
 go_ret
 exact ⟨rfl,S6.out⟩
theorem awake_fn:FnC Try.prog 13 [] (.bool true) D2:=
 FnC.of_below (fnB Try.func13 (by decide) rfl) fun w E vals hd=>by
  match vals,hd with
  | [],hd=>exact (zhb w).mono fun e w' ⟨he,hb⟩=>⟨_,he,hb,fun _ _ _=>rfl⟩
noncomputable def zix:Ent:=ent0 13 ([],.bool true,D2)
theorem zgH:za8 Try.prog zix:=zjj awake_fn.1 fun _=>awake_fn
end Go.Proofs.Ytfccndnnpkiajaa
namespace Go.Proofs.Ytfccndnnpkiajaa
open Go.RowKit Go.ChangeShapes Go.WideShapes Go.Deep
set_option maxRecDepth 100000
noncomputable def tabNi:List Ent:=[zix,eRdN,eNmN,eDnN,eWrN,eCuN,eRmN,eSyN,eStN,eCrN,eSpN]
theorem zhj:∀ e∈tabNi,za8 Try.prog e:=zau zgH (zau zjp (zau zjq (zau zjr (zau zjk (zau zjs (zau zjo (zau zjl (zau zjm (zau zjt (zau zjn zdx))))))))))
theorem zfG (o:DOp):FnC Try.prog 7 [dDOp.can o] (.bool true) D2:=by
 refine FnG.of_vc (zgA zhj fun _=>none) Try.func7 rfl (by decide) rfl 300 (p:=fun (V:List PE→Prop)=>let v0:=(100000:Int);let v1:=(↑(List.length (DOp.bytes o)):Int);let v2:=(↑(List.length (DOp.keep o)):Int);let v3:=(3:Int)==3;let v4:=(↑(0:Nat):Int)==0;let v5:=decide (v1>v0);let v6:=zaO v3 v3 false;let v7:=zaO v4 v3 false;let v8:=zaO v6 v3 false;let v9:=zaO v7 v4 false;let v10:=zaO v5 true (decide (v2>v0));let v11:=zaO true (zaO v9 (!false) false) false;let v12:=zaO v11 (zaO v8 v3 false) false;let v13:=zaO v12 v3 false;let v14:=zaO v13 v3 false;True∧(((!v5)=true→(!v5)=true)∧((!v5)=true→(!v5)=true)∧((!v5)=true→(!v5)=true)∧(v5=false→(!v5)=true)∧True)∧True∧(v10=true→True∧true=true∧True)∧(v10=false→True∧True∧((v4=true→v4=true)∧(v4=true→v4=true)∧(v7=true→v7=true)∧(v7=true→v7=true)∧(v7=true→v7=true)∧(v7=true→v7=true)∧(v9=true→v9=true)∧(v9=true→v9=true)∧(v9=true→v9=true)∧True)∧((v3=true→v3=true)∧(v3=true→v3=true)∧(v3=true→v3=true)∧(v3=true→v3=true)∧(v3=true→v3=true)∧(v3=true→v3=true)∧(v3=true→v3=true)∧(v6=true→v6=true)∧(v6=true→v6=true)∧(v6=true→v6=true)∧(v6=true→v6=true)∧(v6=true→v6=true)∧(v8=true→v8=true)∧(v8=true→v8=true)∧(v8=true→v8=true)∧(v8=true→v8=true)∧(v8=true→v8=true)∧True)∧((true=true→true=true)∧(v11=true→v11=true)∧(v12=true→v12=true)∧(v12=true→v12=true)∧(v12=true→v12=true)∧(v12=true→v12=true)∧(v12=true→v12=true)∧(v13=true→v13=true)∧(v13=true→v13=true)∧(v13=true→v13=true)∧(v13=true→v13=true)∧(v13=true→v13=true)∧(v13=true→v13=true)∧(v13=true→v13=true)∧(v14=true→v14=true)∧(v14=true→v14=true)∧(v14=true→v14=true)∧(v14=true→v14=true)∧(v14=true→v14=true)∧(v14=true→v14=true)∧(v14=true→v14=true)∧(v14=true→v14=true)∧(v14=true→v14=true)∧True)∧zaO v14 v3 false=true∧True)) (by kernel_rfl) ?_
 simp only [imp_self,implies_true,true_and,and_true]
 refine ⟨fun h=>?_,fun _=>?_⟩
 ·rw [h];rfl
 ·decide
theorem law_diskNil (vs:List Value) (o:DOp) (w:World) (h:RdL w (fun b=>b<w.heap.size) DOp.ty vs o.enc) :
  Calls Try.prog 7 #[.agg vs.toArray] w fun e w'=>e = .returned (.bool true)∧Below w.heap.size w w' :=
 zgt (zfG o) w (fun b=>b<w.heap.size) (fun _ hb=>hb) [.agg vs.toArray] ⟨⟨vs,rfl,DOp.svs_of (RdL.mono (fun b _ hb=>zi2 hb) h)⟩,trivial⟩
end Go.Proofs.Ytfccndnnpkiajaa
namespace Go.Proofs.Ytfccndnnpkiajaa
open Go.RowKit Go.ChangeShapes Go.WideShapes Go.Deep
def zfV (P:Program) (ts:List Ty) (ok:TypeId→List Ty→Bool):Nat→List Field→Bool
 | o,[]=>o==ts.length
 | o,f::fs=>f.offset==o&&ok f.type ((ts.drop o).take (P.cellsOf f.type))&&decide (o+P.cellsOf f.type≤ts.length)&&zfV P ts ok (o+P.cellsOf f.type) fs
def okTy (P:Program):Nat→TypeId→List Ty→Bool
 | 0,_,_=>false
 | n+1,t,ts=>match P.underlying t with
  | some (.int k)=>match ts with | [.int k']=>decide (k=k') | _=>false
  | some .bool=>match ts with | [.bool]=>true | _=>false
  | some .string=>match ts with | [.str]=>true | _=>false
  | some (.slice e)=>match ts with | [.sl fs]=>okTy P n e fs&&P.cellsOf e==fs.length&&decide (1≤P.bytesOf e)&&decide (0<fs.length) | _=>false
  | some (.struct fs)=>P.cellsOf t==ts.length&&zfV P ts (okTy P n) 0 fs.toList
  | _=>false
theorem RdL.append {w:World} {S:Nat→Prop}:∀ {ts us:List Ty} {vs xs:List Value} {ds es:List D},RdL w S ts vs ds→RdL w S us xs es→RdL w S (ts++us) (vs++xs) (ds++es)
 | [],_,[],_,[],_,_,h=>h
 | _::ts,_,_::vs,_,_::ds,_,h,k=>⟨h.1,RdL.append (ts:=ts) (vs:=vs) (ds:=ds) h.2 k⟩
 | _::_,_,[],_,_,_,h,_=>h.elim
 | _::_,_,_::_,_,[],_,h,_=>h.elim
 | [],_,_::_,_,_,_,h,_=>h.elim
 | [],_,[],_,_::_,_,h,_=>h.elim
section
variable {H : Type} {enc : TypeId × Value → H} {P : Program} {w : World} {base : Nat} {spare : Nat → Bool} {held : Bool}
def zjM (P:Program) (t:TypeId) (d:DataW H):Prop:=∀ n∈d.weights P t,n≤reachBytes
theorem zeL (ok:TypeId→List Ty→Bool) (ts:List Ty) (cs:List Value) (hcl:cs.length=ts.length):∀ (fs:List Field) (o:Nat),o≤ts.length→zfV P ts ok o fs=true →
  (∀ f∈fs,∀ us,ok f.type us=true→∃ ds,RdL w (fun b=>b<w.heap.size) us ((cs.drop f.offset).take (P.cellsOf f.type)) ds) →
  ∃ ds,RdL w (fun b=>b<w.heap.size) (ts.drop o) (cs.drop o) ds
 | [],o,ho,h,_=>by
  simp only [zfV,beq_iff_eq] at h
  subst h
  rw [List.drop_length,List.drop_eq_nil_of_le (by omega)]
  exact ⟨[],trivial⟩
 | f::fs,o,ho,h,hf=>by
  simp only [zfV,Bool.and_eq_true,beq_iff_eq,decide_eq_true_eq] at h
  obtain ⟨⟨⟨rfl,h2⟩,h3⟩,h4⟩:=h
  obtain ⟨d1,k1⟩:=hf f (List.mem_cons_self ..) _ h2
  obtain ⟨d2,k2⟩:=zeL ok ts cs hcl fs _ h3 h4 (fun g hg=>hf g (List.mem_cons_of_mem _ hg))
  refine ⟨d1++d2,?_⟩
  have e1:ts.drop f.offset=(ts.drop f.offset).take (P.cellsOf f.type)++ts.drop (f.offset+P.cellsOf f.type):=by
   rw [← List.drop_drop,List.take_append_drop]
  have e2:cs.drop f.offset=(cs.drop f.offset).take (P.cellsOf f.type)++cs.drop (f.offset+P.cellsOf f.type):=by
   rw [← List.drop_drop,List.take_append_drop]
  rw [e1,e2]
  exact RdL.append k1 k2
theorem zc2 {e:TypeId}:∀ {l:List (DataW H)} {d:DataW H},d∈l→∀ n∈d.weights P e,n∈DataW.weightsAll P e l
 | x::l,d,hd,n,hn=>by
  simp only [DataW.weightsAll,List.mem_append]
  rcases List.mem_cons.1 hd with h | h
  ·subst h;exact .inl hn
  ·exact .inr (zc2 h n hn)
theorem zce:∀ (n:Nat) (t:TypeId) (ts:List Ty) (fuel:Nat) (cs:List Value) (x:DataW H×List MemPlace),okTy P n t ts=true→DataW.trod enc P w base spare held fuel t cs=some x→zjM P t x.1→w.noneFrozen x.2 →
  ∃ ds,RdL w (fun b=>b<w.heap.size) ts cs ds
 | 0,_,_,_,_,_,h,_,_,_=>by simp [okTy] at h
 | n+1,t,ts,fuel,cs,x,h,ht,hw,hz=>by
  unfold okTy at h
  split at h
  ·rename_i k hu
   split at h
   ·rename_i k'
    have hk:k=k':=of_decide_eq_true h
    subst hk
    obtain ⟨m,rfl,_,hm⟩:=DataW.trod_int hu ht
    exact ⟨[.int m],.int hm,trivial⟩
   ·cases h
  ·rename_i hu
   split at h
   ·obtain ⟨b,rfl,_⟩:=DataW.trod_bool hu ht
    exact ⟨[.bool b],.bool,trivial⟩
   ·cases h
  ·rename_i hu
   split at h
   ·obtain ⟨s,rfl,rfl,_⟩:=DataW.trod_string hu ht
    have:=hw s.data.toList.length (by simp [DataW.weights])
    refine ⟨[.str s],.str ?_,trivial⟩
    have e:s.data.toList.length=s.size:=by rw [Array.length_toList];rfl
    rw [e] at this
    unfold reachBytes at this
    omega
   ·cases h
  ·rename_i e hu
   split at h
   ·rename_i fs
    simp only [Bool.and_eq_true,beq_iff_eq,decide_eq_true_eq] at h
    obtain ⟨⟨⟨h1,h2⟩,h3⟩,h4⟩:=h
    rcases open_slice hu ht with ⟨rfl,_⟩ | ⟨a,len,cap,m,n',Dd,Pl,rfl,hb,hl,hm,hmm,hx,hi⟩
    ·exact ⟨[.sl []],.emp (fun _=>rfl) (by simp [maxLen]),trivial⟩
    ·have hlm:len≤m:=by rw [hmm];split<;>omega
     have hx1:x.1 = .slice ((List.range len).map Dd) ((List.range (m-len)).map fun j=>Dd (len+j)):=by rw [hx]
     have hbd:len*1≤reachBytes:=by
      have:=hw ((((List.range len).map Dd).length+((List.range (m-len)).map fun j=>Dd (len+j)).length)*P.bytesOf e) (by rw [hx1];simp [DataW.weights,hu])
      simp only [List.length_map,List.length_range] at this
      exact Nat.le_trans (Nat.mul_le_mul (by omega) h3) this
     have each:∀ i,i<len→∃ cs' ds,w.cells? base (a.add (i*P.cellsOf e)) (P.cellsOf e)=some cs'∧RdL w (fun b=>b<w.heap.size) fs cs' ds:=by
      intro i hi'
      obtain ⟨cs',hc,htt⟩:=hi i (by omega)
      obtain ⟨ds,hd⟩:=zce n e fs n' cs' _ h1 htt (fun q hq=>hw q (by
       rw [hx1]
       simp only [DataW.weights,hu,List.mem_cons,List.mem_append]
       exact .inr (.inl (zc2 (List.mem_map.2 ⟨i,List.mem_range.2 hi',rfl⟩) q hq)))) (fun b off hp=>hz b off (by
       rw [hx]
       exact List.mem_append.2 (.inr (List.mem_flatMap.2 ⟨i,List.mem_range.2 (by omega),hp⟩))))
      exact ⟨cs',ds,hc,hd⟩
     by_cases hp:0<len
     ·let C:Nat→List Value:=fun i=>if hh:i<len then Classical.choose (each i hh) else []
      let DD:Nat→List D:=fun i=>if hh:i<len then Classical.choose (Classical.choose_spec (each i hh)) else []
      have hC:∀ i,i<len→w.cells? base (a.add (i*P.cellsOf e)) (P.cellsOf e)=some (C i)∧RdL w (fun b=>b<w.heap.size) fs (C i) (DD i):=by
       intro i hh
       simp only [C,DD,hh,dif_pos]
       exact Classical.choose_spec (Classical.choose_spec (each i hh))
      have hcell:∀ i j,i<len→j<fs.length→w.cell? ((a.add (i*fs.length)).add j)=some ((C i).getD j undef):=by
       intro i j hi' hj
       obtain ⟨c1,c2⟩:=hC i hi'
       rw [h2] at c1
       obtain ⟨_,hcl,hat⟩:=World.cells?_some c1
       rw [hat j hj]
       simp [List.getD,List.getElem?_eq_getElem (show j<(C i).length by omega)]
      have h00:=hcell 0 0 hp h4
      obtain ⟨b,off,spot⟩:=a
      have hspot:spot=none:=by simpa [Addr.add] using World.cell?_spot h00
      subst hspot
      have hblk:b<w.heap.size:=by
       have:=World.block_lt_of_cell? _ _ h00
       simpa [Addr.add] using this
      refine ⟨[.sl ((List.range len).map DD)],.row (fun i j=>(C i).getD j undef) hp (by simp) hl hm (by unfold reachBytes at hbd;omega) hblk hblk (fun i j hi' hj=>?_) (fun i hi'=>?_) (fun i j hi' hj=>?_) (fun i j hi' hj=>?_),trivial⟩
      ·have:=hcell i j hi' hj
       rwa [WideShapes.add_plain,WideShapes.add_plain] at this
      ·have:=(hC i hi').2.lens.2
       simpa [List.getD,hi'] using this
      ·have:=(hC i hi').2.at j hj
       simpa [List.getD,hi'] using this
      ·refine hz b _ ?_
       rw [hx]
       refine List.mem_append.2 (.inl ?_)
       unfold MemPlace.row
       refine List.mem_map.2 ⟨i*fs.length+j,List.mem_range.2 ?_,by rw [Nat.add_assoc]⟩
       rw [h2]
       have h5:(i+1)*fs.length≤m*fs.length:=Nat.mul_le_mul_right _ (by omega)
       rw [Nat.add_mul] at h5;omega
     ·have h0:len=0:=by omega
      subst h0
      exact ⟨[.sl []],.emp (fun hh=>by cases hh) hm,trivial⟩
   ·cases h
  ·rename_i fs hu
   simp only [Bool.and_eq_true,beq_iff_eq] at h
   obtain ⟨h1,h2⟩:=h
   obtain ⟨xs,n',_,hx,hcl,hxl,hall⟩:=DataW.trod_struct hu ht
   have:=zeL (P:=P) (w:=w) (okTy P n) ts cs (by omega) fs.toList 0 (Nat.zero_le _) h2 (fun f hf us hus=>by
    obtain ⟨i,hi⟩:=List.getElem?_of_mem hf
    rw [Array.getElem?_toList] at hi
    have hilt:i<fs.size:=(Array.getElem?_eq_some_iff.1 hi).1
    have h3:=hall i f hi
    rw [List.getElem?_eq_getElem (show i<xs.length by omega)] at h3
    refine zce n f.type us n' _ _ hus h3 (fun q hq=>hw q ?_) (fun b off hp=>hz b off (by
     rw [hx]
     exact List.mem_flatMap.2 ⟨_,List.getElem_mem (show i<xs.length by omega),hp⟩))
    rw [hx]
    simp only [DataW.weights,hu]
    refine DataW.weights_mem_each (j:=i) (t:=f.type) (d:=xs[i].1) ?_ ?_ q hq
    ·rw [List.getElem?_map,Array.getElem?_toList,hi];rfl
    ·rw [List.getElem?_map,List.getElem?_eq_getElem (show i<xs.length by omega)];rfl)
   simpa using this
  ·cases h
theorem rd_arg {t:TypeId} {ts:List Ty} {v:Value} {d:DataW H} {p:List MemPlace} (n:Nat) (hok:okTy P n t ts=true) (h:DataW.Trod enc P w base spare held t v d p) (hw:zjM P t d) (hz:w.noneFrozen p):∃ ds,RdL w (fun b=>b<w.heap.size) ts v.cells.toList ds:=by
 obtain ⟨fuel,hf⟩:=h
 exact zce n t ts fuel _ _ hok hf hw hz
theorem light_of {tys:List TypeId} {ds:List (DataW H)} (h:(DataW.weightsEach P tys ds).all (· ≤ reachBytes)=true) {j:Nat} {t:TypeId} {d:DataW H} (ht:tys[j]? = some t) (hd:ds[j]? = some d):zjM P t d:=fun n hn=>by
 simpa using List.all_eq_true.1 h n (DataW.weights_mem_each ht hd n hn)
theorem agg_of {t:TypeId} {fs:Array Field} {v:Value} {r:Reach} {b0:Nat} (hs:P.underlying t=some (.struct fs)) (hv:Value.okWide P w r b0 t v):v = .agg v.cells.toList.toArray:=by
 obtain ⟨cs,rfl,_⟩:=okWide_struct hs hv
 rfl
end
end Go.Proofs.Ytfccndnnpkiajaa
