/- Parts of the proof, joined: the symbolic walk and what it is told of each function. Condition: as each theorem says. -/
import Derived.Laws.BytesString
import Derived.OwnWalkIn
import Derived.TacticsInMore
import Derived.Lib.SlBytesConst
import Derived.SizedLaws
import Derived.Test.YtfccndnnpkiajaaDy4
set_option linter.unusedVariables false
set_option linter.unusedSimpArgs false
set_option linter.unusedSectionVars false
namespace Go.Proofs.Ytfccndnnpkiajaa
open Go.RowKit Go.ChangeShapes Go.WideShapes Go.Deep
set_option maxRecDepth 100000
theorem zmc (x y:Int):0≤xorI .u8 x y∧xorI .u8 x y≤255:=by
 unfold xorI
 have h:=IntKind.wrap_u8
 rw [h]
 omega
theorem zk9 (old:List Int) (i:Nat) (y:Int) (h:i<old.length):zaB old i [xorI .u8 (old.getD i 0) y]=zaA old i y:=by
 refine ext0 (by rw [zaK,zaD];simp;omega) fun j hj=>?_
 rw [zcf _ _ _ (by omega),zbo]
 by_cases e:i=j
 ·subst e
  rw [if_neg (by omega),if_pos (by simp),if_pos ⟨rfl,h⟩]
  simp
 ·rw [if_neg (c:=i=j∧i<old.length) (fun g=>e g.1)]
  by_cases h1:j<i
  ·rw [if_pos h1]
  ·rw [if_neg h1,if_neg (by simp;omega)]
theorem ze1 {W:World} {S:Nat→Prop} {v1:Value} {old:List Int} {i:Nat} {y:Int} (ho:BRd W S v1 old) (hi:i<old.length) (hl:old.length≤4194304) :
  Calls Try.prog 50 #[v1,.int .i64 i,.slice (some ⟨W.heap.size,0,none⟩) 1 1] (W.alloc (.cells #[.int .u8 (xorI .u8 (old.getD i 0) y)] TU)) fun e w1=>∃ u,e = .returned u∧Below W.heap.size W w1∧BRd w1 (fun x=>W.heap.size≤x) u (zaA old i y):=by
 obtain ⟨W1,hW1⟩:∃ W1,W.alloc (.cells #[.int .u8 (xorI .u8 (old.getD i 0) y)] TU)=W1:=⟨_,rfl⟩
 have hb:Below W.heap.size W W1:=by rw [← hW1];exact (Below.refl _ _).alloc (Nat.le_refl _) _
 have hh:W1.heap[W.heap.size]? = some (.cells #[.int .u8 (xorI .u8 (old.getD i 0) y)] TU (0,0)):=by rw [← hW1];exact Blk.new W TU _
 have h1:BRd W1 (fun x=>W.heap.size≤x) (.slice (some ⟨W.heap.size,0,none⟩) 1 1) [xorI .u8 (old.getD i 0) y]:=BRd.of_blk (vs:=[.int .u8 (xorI .u8 (old.getD i 0) y)]) hh rfl (Nat.le_refl _) (by decide) (by omega) (Nat.le_refl _) (fun x hx=>by
  rw [List.mem_singleton] at hx
  subst hx
  exact zmc _ _) fun k hk=>by
   have:k=0:=by omega
   subst this
   rfl
 have h2:=zgN (S:=fun x=>(S x∧x<W.heap.size)∨W.heap.size≤x) ((ho.here.same (Same.below hb)).mono fun _ _ h=> .inl h) (h1.mono fun _ _ h=> .inr h) (at_:=(i:Int)) (by omega) (by omega) (by show 1≤100000000;decide) (by omega)
 rw [show ((i:Int).toNat)=i by omega,zk9 old i y hi] at h2
 rw [hW1]
 refine h2.mono fun e w1 ⟨u,he,hb1,hu⟩=>⟨u,he,hb.trans (hb1.mono hb.size),hu.mono fun x _ hx=>Nat.le_trans hb.size hx⟩
theorem zbD {w w':World} {F:Nat→Prop} {p q:Addr} {u v:Value} (h:w.cell? p=some u∧w.cell? q=some v) (ht:Turn F w w') (hn:¬ F p.block∧¬ F q.block):w'.cell? p=some u∧w'.cell? q=some v:=
 ⟨(World.cell?_of_block (ht.block _ (zbK h.1) hn.1)).trans h.1,(World.cell?_of_block (ht.block _ (zbK h.2) hn.2)).trans h.2⟩
theorem zea {w:World} {p q:Addr} {u v:Value} (h:w.cell? p=some u∧w.cell? q=some v) (o:Obj):(w.alloc o).cell? p=some u∧(w.alloc o).cell? q=some v:=
 zbD (F:=fun _=>False) h ((Turn.refl _ w).alloc o) ⟨id,id⟩
theorem zeZ (x y:Int):bits BinOp.xor IntKind.u8 x y=xorI .u8 x y:=rfl
theorem zcm {w w':World} {F:Nat→Prop} {p q r s:Addr} {u v x y:Value} (h:w.cell? p=some u∧w.cell? q=some v∧w.cell? r=some x∧w.cell? s=some y) (ht:Turn F w w') (hn:¬ F p.block∧¬ F q.block∧¬ F r.block∧¬ F s.block):w'.cell? p=some u∧w'.cell? q=some v∧w'.cell? r=some x∧w'.cell? s=some y:=
 ⟨(World.cell?_of_block (ht.block _ (zbK h.1) hn.1)).trans h.1,(World.cell?_of_block (ht.block _ (zbK h.2.1) hn.2.1)).trans h.2.1,(World.cell?_of_block (ht.block _ (zbK h.2.2.1) hn.2.2.1)).trans h.2.2.1,(World.cell?_of_block (ht.block _ (zbK h.2.2.2) hn.2.2.2)).trans h.2.2.2⟩
theorem zgl {w:World} {p q r s:Addr} {u v x y:Value} (h:w.cell? p=some u∧w.cell? q=some v∧w.cell? r=some x∧w.cell? s=some y) (o:Obj):(w.alloc o).cell? p=some u∧(w.alloc o).cell? q=some v∧(w.alloc o).cell? r=some x∧(w.alloc o).cell? s=some y:=
 zcm (F:=fun _=>False) h ((Turn.refl _ w).alloc o) ⟨id,id,id,id⟩
theorem ChAt.one {w:World} {S:Nat→Prop} {n:ByteArray} {a:Int} {bs:List Int} {cs:List Value} (h:ChAt w S ⟨1,n,a,bs⟩ cs):∃ dv bv,cs=[.string n,dv,.int .i64 a,bv,.bool true]∧dv.oneCell'=true∧bv.oneCell'=true:=by
 have ho:=h.ones
 obtain ⟨dv,bv,e,_,_⟩:=h.D
 rw [e] at ho
 exact ⟨dv,bv,e,ho _ (by simp),ho _ (by simp)⟩
theorem row5 {w:World} {g cap k:Nat} {L:List (List Value)} (h:RowB w g cap L) (hk:k<L.length) :
  (w.cell? ⟨g,k*5,none⟩=some ((L.getD k []).getD 0 undef)∧w.cell? ⟨g,k*5+1,none⟩=some ((L.getD k []).getD 1 undef)∧w.cell? ⟨g,k*5+2,none⟩=some ((L.getD k []).getD 2 undef)∧w.cell? ⟨g,k*5+3,none⟩=some ((L.getD k []).getD 3 undef)∧w.cell? ⟨g,k*5+4,none⟩=some ((L.getD k []).getD 4 undef)) ∧
  w.frozen? ⟨g,k*5,none⟩=false∧w.frozen? ⟨g,k*5+1,none⟩=false∧w.frozen? ⟨g,k*5+2,none⟩=false∧w.frozen? ⟨g,k*5+3,none⟩=false∧w.frozen? ⟨g,k*5+4,none⟩=false:=
 ⟨⟨(h.cell (j:=0) hk (by omega)).1,(h.cell (j:=1) hk (by omega)).1,(h.cell (j:=2) hk (by omega)).1,(h.cell (j:=3) hk (by omega)).1,(h.cell (j:=4) hk (by omega)).1⟩,(h.cell (j:=0) hk (by omega)).2,(h.cell (j:=1) hk (by omega)).2,(h.cell (j:=2) hk (by omega)).2,(h.cell (j:=3) hk (by omega)).2,(h.cell (j:=4) hk (by omega)).2⟩
structure SpR (w w1 wr:World) (d:RDisk) (F:Nat→Prop) (b m1 m2:Nat) (v:Value) (n:ByteArray) (i:Nat) (y:Int) (k:Nat):Prop where
 r:∃ rows:List (List Value),wr.ownsRow 0 TCh 5 v d.changes.length rows.flatten∧rows.length=d.changes.length∧∀ t,t<d.changes.length→ChAt wr (fun x=>SB F b m1 m2 v x∨w.heap.size≤x) (if t<k then spC n i y (d.changes.getD t default) else d.changes.getD t default) (rows.getD t [])
 t:Turn (fun x=>x=m1∨v.ownBlock=some x) w1 wr
 f:FilesAt wr (fun x=>SB F b m1 m2 v x∨w.heap.size≤x) m1 (spL d.lasts n i y)
theorem SpR.same {w w1 wr w':World} {d:RDisk} {F:Nat→Prop} {b m1 m2:Nat} {v:Value} {n:ByteArray} {i k:Nat} {y:Int} (h:SpR w w1 wr d F b m1 m2 v n i y k) (hb:Below wr.heap.size wr w') (hs:spC n i y (d.changes.getD k default)=d.changes.getD k default):SpR w w1 w' d F b m1 m2 v n i y (k+1):=by
 obtain ⟨rows,h1,h2,h3⟩:=h.r
 refine ⟨⟨rows,zan h1 fun g hg=>hb.block g (h1.lt g hg).2,h2,fun t ht=>?_⟩,h.t.trans (Turn.below hb) fun x _ h=>h,h.f.kept (hb.block _ h.f.lt) (Same.below hb) fun _ _ h=>h⟩
 have e:(if t<k+1 then spC n i y (d.changes.getD t default) else d.changes.getD t default)=(if t<k then spC n i y (d.changes.getD t default) else d.changes.getD t default):=by
  by_cases e:t=k
  ·subst e
   rw [if_pos (Nat.lt_succ_self _),if_neg (Nat.lt_irrefl _),hs]
  ·by_cases h5:t<k
   ·rw [if_pos h5,if_pos (by omega)]
   ·rw [if_neg h5,if_neg (by omega)]
 rw [e]
 exact (h3 t ht).kept (Same.below hb) fun _ _ h=>h
theorem zkG {α:Type} {l:List α} {k t:Nat} {x d:α} (hk:k<l.length):(l.set k x).getD t d=if t=k then x else l.getD t d:=by
 simp only [List.getD_eq_getElem?_getD,List.getElem?_set]
 by_cases e:k=t
 ·subst e;simp [hk]
 ·rw [if_neg e,if_neg (Ne.symm e)]
theorem zhq {w:World} {g q x:Nat} {a0 a1 a2 a3 a4:Value} (h:x≠g):(((((w.setCell ⟨g,q+0,none⟩ a0).setCell ⟨g,q+1,none⟩ a1).setCell ⟨g,q+2,none⟩ a2).setCell ⟨g,q+3,none⟩ a3).setCell ⟨g,q+4,none⟩ a4).heap[x]? = w.heap[x]? := by
 rw [zat h,zat h,zat h,zat h,zat h]
theorem zfh {F:Nat→Prop} {w w':World} {g q:Nat} {a0 a1 a2 a3 a4:Value} (h:Turn F w w') (hg:F g):Turn F w (((((w'.setCell ⟨g,q+0,none⟩ a0).setCell ⟨g,q+1,none⟩ a1).setCell ⟨g,q+2,none⟩ a2).setCell ⟨g,q+3,none⟩ a3).setCell ⟨g,q+4,none⟩ a4):=
 ((((h.set (p:=⟨g,q+0,none⟩) (.inl hg) a0).set (p:=⟨g,q+1,none⟩) (.inl hg) a1).set (p:=⟨g,q+2,none⟩) (.inl hg) a2).set (p:=⟨g,q+3,none⟩) (.inl hg) a3).set (p:=⟨g,q+4,none⟩) (.inl hg) a4
theorem SpR.put {w w1 wr w3:World} {d:RDisk} {F:Nat→Prop} {b m1 m2 g nl cv:Nat} {n:ByteArray} {i k:Nat} {y:Int} {a0 a1 a2 a3 a4:Value} (h:SpR w w1 wr d F b m1 m2 (.slice (some ⟨g,0,none⟩) nl cv) n i y k) (hnl:d.changes.length=nl) (hb:Below wr.heap.size wr w3) (hk:k<nl) (hg:g<w.heap.size) (hw:w.heap.size≤wr.heap.size) (hm:g≠m1)
  (hc:ChAt w3 (fun x=>wr.heap.size≤x) (spC n i y (d.changes.getD k default)) [a0,a1,a2,a3,a4]):SpR w w1 (((((w3.setCell ⟨g,k*5+0,none⟩ a0).setCell ⟨g,k*5+1,none⟩ a1).setCell ⟨g,k*5+2,none⟩ a2).setCell ⟨g,k*5+3,none⟩ a3).setCell ⟨g,k*5+4,none⟩ a4) d F b m1 m2 (.slice (some ⟨g,0,none⟩) nl cv) n i y (k+1):=by
 obtain ⟨rows,h1,h2,h3⟩:=h.r
 subst hnl
 have hB:RowB wr g cv rows:=RowB.of_own h1 (fun r hr=>by
  obtain ⟨i,hi,rfl⟩:=List.mem_iff_getElem.1 hr
  have:=(h3 i (by rw [← h2];exact hi)).len
  simpa [List.getD,hi] using this) h2
 have hB3:=hB.kept (hb.block g hB.lt)
 have hB4:=hB3.set (i:=k) (by rw [h2];exact hk) a0 a1 a2 a3 a4
 have hsz:=hb.size
 obtain ⟨W,hW⟩:∃ W,(((((w3.setCell ⟨g,k*5+0,none⟩ a0).setCell ⟨g,k*5+1,none⟩ a1).setCell ⟨g,k*5+2,none⟩ a2).setCell ⟨g,k*5+3,none⟩ a3).setCell ⟨g,k*5+4,none⟩ a4)=W:=⟨_,rfl⟩
 have hfar:∀ x,x≠g→W.heap[x]? = w3.heap[x]? := fun x hx=>by rw [← hW];exact zhq hx
 have hzW:W.heap.size=w3.heap.size:=by rw [← hW];simp [World.setCell]
 have hS1:∀ x,(SB F b m1 m2 (.slice (some ⟨g,0,none⟩) d.changes.length cv) x∨w.heap.size≤x)→x≠g:=fun x hx e=>by
  subst e
  rcases hx with hx | hx
  ·exact hx.2.2.2.2 rfl
  ·omega
 have hSm:Same (fun x=>SB F b m1 m2 (.slice (some ⟨g,0,none⟩) d.changes.length cv) x∨w.heap.size≤x) wr W:=⟨by omega,fun x hx hl=>(hfar x (hS1 x hx)).trans (hb.block x hl)⟩
 have hT:Turn (fun x=>x=m1∨(Value.slice (some ⟨g,0,none⟩) d.changes.length cv).ownBlock=some x) w1 W:=by
  rw [← hW]
  have h5:=h.t.trans (Turn.below (F:=fun _=>False) hb) fun x _ h=>h.elim
  exact zfh h5 (.inr rfl)
 rw [hW] at hB4 ⊢
 have ho:=hB4.own
 rw [List.length_set,h2] at ho
 refine ⟨⟨rows.set k [a0,a1,a2,a3,a4],ho,by rw [List.length_set];exact h2,fun t ht=>?_⟩,hT,h.f.kept ((hfar m1 (Ne.symm hm)).trans (hb.block _ h.f.lt)) hSm fun _ _ h=>h⟩
 rw [zkG (by rw [h2];exact hk)]
 by_cases e:t=k
 ·subst e
  rw [if_pos rfl,if_pos (Nat.lt_succ_self _)]
  refine hc.kept ⟨by omega,fun x hx hl=>hfar x (by have hx:wr.heap.size≤x:=hx;omega)⟩ fun x hl hx=> .inr (Nat.le_trans hw hx)
 ·rw [if_neg e]
  have e2:(if t<k+1 then spC n i y (d.changes.getD t default) else d.changes.getD t default)=(if t<k then spC n i y (d.changes.getD t default) else d.changes.getD t default):=by
   by_cases h5:t<k
   ·rw [if_pos h5,if_pos (by omega)]
   ·rw [if_neg h5,if_neg (by omega)]
  rw [e2]
  exact (h3 t ht).kept hSm fun _ _ h=>h
theorem DkAt.spoil {w w1 wr w3:World} {b:Nat} {d:RDisk} {F:Nat→Prop} {m1 m2:Nat} {v:Value} {rows:List (List Value)} {n:ByteArray} {i:Nat} {y:Int} {B:List Int} {e:Ending} (h:DkAt w b d F m1 m2 v rows) (hb1:Below w.heap.size w w1) (hr:SpR w w1 wr d F b m1 m2 v n i y d.changes.length)
  (hd:zcS wr (SB F b m1 m2 v) m2 (zap ⟨n,zaA B i y⟩ (zaa d)) e w3) (hB:zae (zaa d) n=some B) (hi:i<B.length) (hn:NmOk n):DPost w b F (sp1 d n i y) (.int .i64 0) (.returned (.int .i64 0)) w3:=by
 obtain ⟨_,ht3,hf3⟩:=hd
 have hbl:=h.fl _ h.fb
 have h1l:=h.fl _ h.f1
 have h2l:=h.fl _ h.f2
 have z1:=hb1.size
 have z2:=hr.t.size
 have z3:=ht3.size
 have hvl:∀ x,v.ownBlock=some x→x<w.heap.size:=fun x hx=>h.fl x (h.fv x hx)
 have hbk:Blk w3 b TDi (dkCs d m1 m2 v):=ht3.keep (hr.t.keep ((hb1.block b hbl).trans h.blk) (fun g=>g.elim h.b1 h.bv)) h.b2
 have hSm:Same (fun x=>SB F b m1 m2 v x∨w.heap.size≤x) wr w3:=ht3.same fun x hx e=>by
  rcases hx with hx | hx
  ·exact hx.2.2.2.1 e
  ·omega
 have hT:∀ x,x<w3.heap.size→(SB F b m1 m2 v x∨w.heap.size≤x)→SB (fun x=>x<w3.heap.size∧(F x∨w.heap.size≤x)) b m1 m2 v x:=fun x hl hx=>by
  rcases hx with hx | hx
  ·exact ⟨⟨hl,.inl hx.1⟩,hx.2⟩
  ·exact ⟨⟨hl,.inr hx⟩,by omega,by omega,by omega,fun e=>by have:=hvl x e;omega⟩
 have hlt:i<((zae (zaa d) n).getD []).length:=by rw [hB];exact hi
 have efl:zaa (sp1 d n i y)=zap ⟨n,zaA B i y⟩ (zaa d):=by
  rw [zhB h.inv]
  unfold spL
  rw [if_pos hlt,hB]
  rfl
 obtain ⟨rows',g1,g2,g3⟩:=hr.r
 refine ⟨rfl,fun x=>x<w3.heap.size∧(F x∨w.heap.size≤x),⟨m1,m2,v,rows',⟨hbk,?_,?_,?_,?_,?_,fun x hx=>hx.1,⟨by omega,.inl h.fb⟩,⟨by omega,.inl h.f1⟩,⟨by omega,.inl h.f2⟩,fun g hg=>⟨by have:=hvl g hg;omega,.inl (h.fv g hg)⟩,h.mm,h.inv.spoil hn i y⟩⟩,fun x hx=>hx.2,?_⟩
 ·exact hr.f.kept (ht3.block m1 hr.f.lt h.mm) hSm fun x hl hx=>hT x (by omega) hx
 ·rw [efl]
  exact hf3.kept rfl (Same.refl _ _) fun x hl hx=>hT x hl (hx.imp id fun hx=>by omega)
 ·have:(sp1 d n i y).changes.length=d.changes.length:=List.length_map ..
  rw [this]
  exact zan g1 fun g hg=>ht3.block g (by have:=hvl g hg;omega) fun e=>h.v2 (e▸hg)
 ·exact g2.trans (List.length_map ..).symm
 ·intro t ht
  have ht:t<d.changes.length:=by have e:(sp1 d n i y).changes.length=d.changes.length:=List.length_map ..;omega
  have e:(sp1 d n i y).changes.getD t default=spC n i y (d.changes.getD t default):=by
   show (d.changes.map (spC n i y)).getD t default=_
   simp [List.getD,ht]
  have h5:=g3 t ht
  rw [if_pos ht] at h5
  rw [e]
  exact h5.kept hSm fun x hl hx=>hT x (by omega) hx
 ·exact ((Turn.below hb1).trans hr.t fun x _ hx=>hx.elim (fun e=>e▸h.f1) fun e=>h.fv x e).trans ht3 fun x _ e=>by have e:x=m2:=e;rw [e];exact h.f2
set_option maxHeartbeats 8000000 in
theorem zie {w:World} {b:Nat} {d:RDisk} {F:Nat→Prop} (h:DkOk w b d F) (hN:d.lasts.length+d.changes.length≤5000) {n:ByteArray} (hn:NmOk n) {at_ y:Int} (hat:I64 at_) :
  Calls Try.prog 25 #[ptrV b,.string n,.int .i64 at_,.int .u8 y] w (DPost w b F (spD d n at_ y).1 (.int .i64 (spD d n at_ y).2)):=by
 have h0:=Lib.hid h
 have hrd:=zgE h hn
 have hsp:=zl5 d n at_ y
 rw [zcY] at hrd
 cases hB:zae (zaa d) n with
 | none=>
  rw [hB] at hrd
  rw [if_pos hB] at hsp
  rw [hsp]
  have HRD:=Lib.hid hrd
  clear hrd hsp hB
  unfold ptrV at HRD ⊢
  go_enter Try.func25,Try.ntmps25
  go_wp2_with (go_at_call 11;refine HRD.out.mono ?_;rintro e w1 ⟨u,rfl,hb1,hu⟩;have HB1:=Lib.hid hb1;clear hb1 hu)
  go_ret
  exact DPost.same h0.out HB1.out
 | some B=>
  rw [hB] at hrd
  have hBl:=zb0 (DkI.now (show DkI d by obtain ⟨m1,m2,v,rows,h⟩:=h.o;exact h.inv)) n
  rw [hB] at hBl
  rw [if_neg (by rw [hB];exact fun e=>by cases e),hB] at hsp
  obtain ⟨nB,hnB⟩:∃ nB,B.length=nB:=⟨_,rfl⟩
  have hsp:spD d n at_ y=if at_<0∨at_≥(nB:Int) then (d,123) else (sp1 d n at_.toNat y,0):=by rw [hsp];simp [hnB]
  have HRD:=Lib.hid hrd
  clear hrd
  by_cases hbad:at_<0∨at_≥(nB:Int)
  ·rw [if_pos hbad] at hsp
   rw [hsp]
   have HNB:=Lib.hid hnB
   clear hsp hB hBl hnB
   unfold ptrV at HRD ⊢
   by_cases h1:at_<0
   ·have c1:decide (at_<0)=true:=decide_eq_true h1
    clear hbad
    go_enter Try.func25,Try.ntmps25
    go_wp2_with (go_at_call 11;refine HRD.out.mono ?_;rintro e w1 ⟨u,rfl,hb1,hu⟩;obtain ⟨a9,c9,rfl,_⟩:=hu.shape;have HB1:=Lib.hid hb1;clear hb1 hu)
    go_ret
    exact DPost.same h0.out HB1.out
   ·have c1:decide (at_<0)=false:=decide_eq_false h1
    have c2:decide (at_≥(nB:Int))=true:=decide_eq_true (by omega)
    have hge:=hbad.resolve_left h1
    clear hbad
    go_enter Try.func25,Try.ntmps25
    go_wp2_with (go_at_call 11;refine HRD.out.mono ?_;rintro e w1 ⟨u,rfl,hb1,hu⟩;obtain ⟨a9,c9,rfl,_⟩:=hu.shape;rw [show (B,(0:Int)).1.length=nB from HNB.out];have HB1:=Lib.hid hb1;clear hb1 hu)
    go_ret
    exact DPost.same h0.out HB1.out
  ·rw [if_neg hbad] at hsp
   obtain ⟨i,rfl⟩:∃ i:Nat,at_=i:=⟨at_.toNat,by omega⟩
   rw [show ((i:Int).toNat)=i by omega] at hsp
   rw [hsp]
   have hi0:(0:Int)≤(i:Int):=Int.natCast_nonneg i
   have hi1:(i:Int)<(nB:Int):=by omega
   have hi2:decide ((i:Int)<0)=false:=decide_eq_false (by omega)
   have hi3:decide (nB≤i)=false:=decide_eq_false (by omega)
   obtain ⟨m1,m2,v,rows,h⟩:=h.o
   have hK:=fun (w1:World) (hb:Below w.heap.size w w1)=>h.below hb
   have HK:=Lib.hid hK
   have H:=Lib.hid h
   have HI:=Lib.hid h.inv
   obtain ⟨nl,hnl⟩:∃ nl,d.changes.length=nl:=⟨_,rfl⟩
   have hvs:∃ av cv,v = .slice av nl cv:=by
    rcases h.row.2 with ⟨rfl,hz⟩ | ⟨g,cap,cur,rfl,_⟩
    ·exact ⟨none,0,by rw [← hnl,hz]⟩
    ·exact ⟨_,_,by rw [← hnl]⟩
   obtain ⟨av,cv,rfl⟩:=hvs
   have HNL:=Lib.hid hnl
   have HNB:=Lib.hid hnB
   have HBE:=Lib.hid hB
   have HBL:=Lib.hid hBl
   have HIX:=Lib.hid (show i<nB by omega)
   clear hK hnl h hsp hbad hnB hB hBl
   unfold ptrV at HRD ⊢
   go_enter Try.func25,Try.ntmps25
   go_upto_region 6 with (go_at_call 11;refine HRD.out.mono ?_;rintro e w1 ⟨u,rfl,hb1,hu⟩;obtain ⟨a9,c9,rfl,_⟩:=hu.shape;have HU:=Lib.hid hu;rw [show (B,(0:Int)).1.length=nB from HNB.out];have HB1:=Lib.hid hb1;clear hb1 hu)
   try simp only [hi2,hi3,Bool.or_false]
   have k1:=HK.out w1 HB1.out
   obtain ⟨q0,q1,q2,q3,q4,q5,q6⟩:=box7 k1.blk
   obtain ⟨v11,hlk0,hlk,hv11⟩:=k1.la.look hn
   obtain ⟨a1,c1,rfl,hsl1⟩:=hv11.shape
   obtain ⟨old,hold⟩:∃ old,(zae d.lasts n).getD []=old:=⟨_,rfl⟩
   have holdl:=zb0 HI.out.fb n
   rw [hold] at hv11 hlk hsl1 holdl
   obtain ⟨n1,hn1⟩:∃ n1,old.length=n1:=⟨_,rfl⟩
   rw [hn1] at hlk hsl1 holdl
   have HOLD:=Lib.hid hold
   have HN1:=Lib.hid hn1
   have HV:=Lib.hid hv11
   have K1:=Lib.hid k1
   have HOL:=Lib.hid holdl
   clear hold hn1 hv11 k1 hlk0 holdl hsl1
   go_upto_if 42 with fail
   go_cut [42] (fun s wx=>Hid (Turn (fun x=>x=m1) w1 wx∧FilesAt wx (fun x=>SB F b m1 m2 (.slice av nl cv) x∨w.heap.size≤x) m1 (spL d.lasts n i y)))
   case first=>
    by_cases hlt:i<n1
    ·obtain ⟨g1,o1,rfl,hS1,hg1,_,_,_,hc1⟩:=BRd.row (show BRd w1 _ (.slice a1 n1 c1) old from HN1.out▸HV.out) (by omega)
     obtain ⟨e1,_,_,_⟩:=hc1 i hlt
     obtain ⟨x1,hx1⟩:∃ x1,old.getD i 0=x1:=⟨_,rfl⟩
     rw [hx1] at e1
     have hz1:(i:Int)<(n1:Int):=by omega
     have hx:=fun (W:World) (hb:Below w1.heap.size w1 W)=>ze1 (y:=y) (HV.out.here.same (Same.below hb)) (by rw [HN1.out];exact hlt) (by rw [HN1.out];exact HOL.out)
     rw [HN1.out,hx1,← zeZ] at hx
     have HX:=Lib.hid (hx w1.drew ((Below.refl _ _).drew))
     have hput:=fun (w2:World) (u:Value) (hb:Below w1.drew.heap.size w1.drew w2) (hu:BRd w2 (fun x=>w1.drew.heap.size≤x) u (zaA old i y))=>zcd K1.out.la HI.out.sl (fun hs=>hs.2.2.1 rfl) (by omega) hn hb hu
     have HP:=Lib.hid hput
     have hgm:g1≠m1∧b≠m1:=⟨fun e=>hS1.2.2.1 e,H.out.b1⟩
     have hS0:w1.drew.cell? ⟨b,1,none⟩=some (.map (some m1))∧w1.drew.cell? ⟨g1,o1+i,none⟩=some (.int .u8 x1):=⟨q1,e1⟩
     have HFX:=Lib.hid (fun (w2 w3:World) (u:Value) (hb2:Below w1.drew.heap.size w1.drew w2) (hd:zcS w1 (SB F b m1 m2 (.slice av nl cv)) m1 (zap ⟨n,zaA old i y⟩ d.lasts) (.returned (.tuple #[])) w3)=>(⟨hd.2.1,by
      have e:spL d.lasts n i y=zap ⟨n,zaA old i y⟩ d.lasts:=by unfold spL;rw [HOLD.out,HN1.out,if_pos hlt]
      rw [e]
      refine hd.2.2.kept rfl (Same.refl _ _) fun x _ hx=>hx.imp id fun h=>Nat.le_trans HB1.out.size h⟩:Turn (fun x=>x=m1) w1 w3∧FilesAt w3 (fun x=>SB F b m1 m2 (.slice av nl cv) x∨w.heap.size≤x) m1 (spL d.lasts n i y)))
     clear hx hc1 hput hx1
     go_wp2_with fail
     go_region_held3 (fun W => W.cell? ⟨b, 1, none⟩ = some (.map (some m1)) ∧ W.cell? ⟨g1, o1 + i, none⟩ = some (.int .u8 x1)) (first | exact hS0 | exact HS1.out | exact HS2.out | exact zea hS0 _) (first | (go_at_call 50; refine HX.out.mono ?_; rintro e w2 ⟨u, rfl, hb2, hu2⟩; obtain ⟨w3, hup, hfin, _⟩ := HP.out w2 u hb2 hu2; have HS1 := Lib.hid (zbD (F := fun _ => False) hS0 (Turn.below hb2) ⟨id, id⟩); have HS2 := Lib.hid (zbD ⟨q1, e1⟩ hfin.2.1 ⟨hgm.2, hgm.1⟩); have HF := Lib.hid (HFX.out w2 w3 u hb2 hfin); clear hfin hu2 hb2) | fail "none")
     all_goals go_wp2_with fail
     all_goals go_meet
     all_goals exact HF
    ·have hz1:¬ (i:Int)<(n1:Int):=by omega
     have hz2:decide (i<n1)=false:=decide_eq_false hlt
     have HFX:=Lib.hid (⟨Turn.refl _ _,by
      have e:spL d.lasts n i y=d.lasts:=by unfold spL;rw [HOLD.out,HN1.out,if_neg hlt]
      rw [e]
      exact K1.out.la.kept rfl (Same.refl _ _) fun _ _ h=> .inl h⟩:Turn (fun x=>x=m1) w1 w1∧FilesAt w1 (fun x=>SB F b m1 m2 (.slice av nl cv) x∨w.heap.size≤x) m1 (spL d.lasts n i y))
     go_wp2_with fail
     go_meet
     exact HFX
   case rest=>
    obtain ⟨htc,hfc⟩:=hcut.out
    have kc:=htc.keep K1.out.blk H.out.b1
    obtain ⟨q0,q1,q2,q3,q4,q5,q6⟩:=box7 kc
    have HS0:=Lib.hid (⟨⟨rows,zan K1.out.row fun g hg=>htc.block g (by have:=K1.out.fl _ (K1.out.fv g hg);exact this) (fun e=>by rw [e] at hg;exact K1.out.v1 hg),K1.out.rl,fun t ht=>by
     rw [if_neg (Nat.not_lt_zero _)]
     exact (K1.out.ch t ht).kept (htc.same fun x hx e=>hx.2.2.1 e) fun _ _ h=> .inl h⟩,htc.mono fun x e=> .inl e,hfc⟩:SpR w w1 wc d F b m1 m2 (.slice av nl cv) n i y 0)
    have HZC:=Lib.hid (show w.heap.size≤wc.heap.size from Nat.le_trans HB1.out.size htc.size)
    clear htc hfc kc hcut
    go_wp2_with fail
    try go_frame
    go_loopw [63] (fun kv wr=>∃ k:Nat,kv = .int .i64 k∧k≤nl∧Hid (SpR w w1 wr d F b m1 m2 (.slice av nl cv) n i y k)) (fun kv _=>nl-(intOf kv).toNat)
    case atStart=>exact ⟨0,rfl,Nat.zero_le _,HS0⟩
    case round=>
     obtain ⟨k,rfl,hk,HR⟩:=hrel
     by_cases hlt:k<nl
     ·have hltz:(k:Int)<(nl:Int):=by omega
      have hk0:(0:Int)≤(k:Int):=Int.natCast_nonneg k
      have hw:wrap64 ((k:Int)+1)=((k+1:Nat):Int):=by have:=HNL.out;unfold wrap64;omega
      obtain ⟨g,rfl,hB0,hncv,hFg⟩:=H.out.rowB HNL.out (by omega)
      have hgl:=H.out.fl _ hFg
      have hgm:g≠m1:=fun e=>H.out.v1 (by rw [← e];rfl)
      have hgb:b≠g:=fun e=>H.out.bv (by rw [e];rfl)
      obtain ⟨rows',ho,hrl',hch'⟩:=HR.out.r
      have hzr:w.heap.size≤wr.heap.size:=Nat.le_trans HB1.out.size HR.out.t.size
      have kr:=HR.out.t.keep K1.out.blk (fun e=>e.elim H.out.b1 H.out.bv)
      obtain ⟨q0,q1,q2,q3,q4,q5,q6⟩:=box7 kr
      have hch:=hch' k (by rw [HNL.out];exact hlt)
      rw [if_neg (Nat.lt_irrefl _)] at hch
      rw [HNL.out] at ho hrl' hch'
      have hB:RowB wr g cv rows':=RowB.of_own ho (fun r hr=>by
       obtain ⟨i,hi,rfl⟩:=List.mem_iff_getElem.1 hr
       have:=(hch' i (by rw [← hrl'];exact hi)).len
       simpa [List.getD,hi] using this) hrl'
      obtain ⟨c,hc⟩:∃ c,d.changes.getD k default=c:=⟨_,rfl⟩
      rw [hc] at hch
      have hcm:c∈d.changes:=by
       have h1:k<d.changes.length:=by rw [HNL.out];exact hlt
       rw [← hc]
       have e:d.changes.getD k default=d.changes[k]:=by simp [List.getD,h1]
       rw [e];exact List.getElem_mem _
      have hcI:=HI.out.ch c hcm
      obtain ⟨dv,bv,ecs,hdo,hbv⟩:=hch.D
      have hrl:k<rows'.length:=by omega
      have c0:=(hB.cell (i:=k) (j:=0) hrl (by omega)).1
      have c1:=(hB.cell (i:=k) (j:=1) hrl (by omega)).1
      have c2:=(hB.cell (i:=k) (j:=2) hrl (by omega)).1
      have c3:=(hB.cell (i:=k) (j:=3) hrl (by omega)).1
      have c4:=(hB.cell (i:=k) (j:=4) hrl (by omega)).1
      rw [ecs] at c0 c1 c2 c3 c4
      simp only [List.getD_cons_zero,List.getD_cons_succ,Nat.add_zero] at c0 c1 c2 c3 c4
      have hones:=hch.ones
      rw [ecs] at hones
      have s1:= @zak Try.prog dv (hones _ (by simp))
      have s3:= @zak Try.prog bv (hones _ (by simp))
      obtain ⟨a3,cp3,rfl,hsl3⟩:=hbv.shape
      obtain ⟨n3,hn3⟩:∃ n3,(chBy c).length=n3:=⟨_,rfl⟩
      rw [hn3] at c3 s3
      have HSAME:=Lib.hid (fun (w':World) (hb:Below wr.heap.size wr w') (hs:spC n i y c=c)=>HR.out.same hb (by rw [hc];exact hs))
      cases e1:(c.kind==1)
      ·have HSP:=Lib.hid (show spC n i y c=c by unfold spC;rw [if_neg (fun g=>by rw [g.1] at e1;cases e1)])
       rw [e1] at c4
       clear hch hch' hdo hbv ecs hones hB hB0 ho hrl' hcI hcm hc hsl3 hn3 kr hgl hgm hgb hFg hzr hncv e1
       go_wp2
       go_roundw
       case rel=>exact ⟨k+1,congrArg _ hw,hlt,Lib.hid (HSAME.out _ ((Below.refl _ _).alloc (Nat.le_refl _) _) HSP.out)⟩
       case measure=>exact zeD hw hlt
      ·rw [e1] at c4
       have hk1:c.kind=1:=by simpa using e1
       have eat:chAt c=c.at_:=by unfold chAt;rw [if_pos hk1]
       have eby:chBy c=c.bytes:=by unfold chBy;rw [if_pos hk1]
       rw [eat] at c2
       rw [eby] at hn3 hbv
       clear e1
       cases e2:eqN c.file n
       ·have HSP:=Lib.hid (zfg (at_:=(i:Int)) (y:=y) e2)
        have e3:(c.file.toList==n.toList)=false:=e2
        clear hch hch' hdo hbv ecs hones hB hB0 ho hrl' hcI hcm hc hsl3 hn3 kr hgl hgm hgb hFg hzr hncv e2 hk1 eat eby
        go_wp2
        go_roundw
        case rel=>exact ⟨k+1,congrArg _ hw,hlt,Lib.hid (HSAME.out _ ((Below.refl _ _).alloc (Nat.le_refl _) _) HSP.out)⟩
        case measure=>exact zeD hw hlt
       ·have e3:(c.file.toList==n.toList)=true:=e2
        by_cases h1:(i:Int)≥c.at_
        ·obtain ⟨kk,hkk⟩:∃ kk:Nat,(i:Int)-c.at_=kk:=⟨((i:Int)-c.at_).toNat,by omega⟩
         have hwi:wrap64 ((i:Int)-c.at_)=(kk:Int):=by
          have:=HIX.out
          have:=HBL.out
          have hnb:=HNB.out
          simp only [Option.getD_some] at this
          unfold wrap64;omega
         have hd1:decide (c.at_≤(i:Int))=true:=decide_eq_true h1
         by_cases h2:kk<n3
         ·have hz3:(kk:Int)<(n3:Int):=by omega
          obtain ⟨g3,o3,rfl,hS3,hg3,_,_,_,hb3c⟩:=BRd.row (show BRd wr _ (.slice a3 n3 cp3) c.bytes from hn3▸hbv) (by omega)
          obtain ⟨e5,_,_,_⟩:=hb3c kk h2
          obtain ⟨x3,hx3⟩:∃ x3,c.bytes.getD kk 0=x3:=⟨_,rfl⟩
          rw [hx3] at e5
          have hS3g:g3≠g:=fun e=>by
           rcases hS3 with hS3 | hS3
           ·exact hS3.2.2.2.2 (by rw [e];rfl)
           ·omega
          obtain ⟨wx,hwx⟩:∃ wx,wr.alloc (.cells #[.string c.file,dv,.int .i64 c.at_,.slice (some ⟨g3,o3,none⟩) n3 cp3,.bool true] TCh)=wx:=⟨_,rfl⟩
          have hbx:Below wr.heap.size wr wx.drew:=by rw [← hwx];exact ((Below.refl _ wr).alloc (Nat.le_refl _) _).drew
          have kx:Blk wx wr.heap.size TCh #[.string c.file,dv,.int .i64 c.at_,.slice (some ⟨g3,o3,none⟩) n3 cp3,.bool true]:=by rw [← hwx];exact Blk.new wr TCh _
          obtain ⟨y0,y1,y2,y3,y4⟩:=box5 kx
          have hbl:b<wr.heap.size:=zbK q3
          have q3x:wx.cell? ⟨b,3,none⟩=some (.slice (some ⟨g,0,none⟩) nl cv):=(Below.cell hbx (p:=⟨b,3,none⟩) hbl).trans q3
          have e5x:wx.cell? ⟨g3,o3+kk,none⟩=some (.int .u8 x3):=(Below.cell hbx (p:=⟨g3,o3+kk,none⟩) hg3).trans e5
          have hS0:wx.drew.cell? ⟨b,3,none⟩=some (.slice (some ⟨g,0,none⟩) nl cv)∧wx.drew.cell? ⟨wr.heap.size,2,none⟩=some (.int .i64 c.at_)∧wx.drew.cell? ⟨wr.heap.size,3,none⟩=some (.slice (some ⟨g3,o3,none⟩) n3 cp3)∧wx.drew.cell? ⟨g3,o3+kk,none⟩=some (.int .u8 x3):=⟨q3x,y2,y3,e5x⟩
          have hbl4:c.bytes.length≤4194304:=by have:=hcI.1;have:=hcI.2.1;omega
          have hx:=ze1 (y:=y) (hbv.here.same (Same.below hbx)) (by rw [hn3];exact h2) hbl4
          rw [hn3,hx3,← zeZ] at hx
          have hwr:=fun (w2:World) (u:Value) (hb2:Below wx.drew.heap.size wx.drew w2) (hu:BRd w2 (fun x=>wx.drew.heap.size≤x) u (zaA c.bytes kk y))=>zcu (w:=w2) hn (at_:=c.at_) hcI.1 (by omega) hu (by rw [zaD];omega)
          have efile:c.file=n:=eqN_iff.1 e2
          have esp:spC n i y c=⟨1,n,c.at_,zaA c.bytes kk y⟩:=by
           unfold spC
           rw [if_pos ⟨hk1,e2,h1,by omega⟩,hkk]
           obtain ⟨ck,cf,ca,cb⟩:=c
           simp only at hk1 efile
           subst hk1;subst efile
           simp
          have hfx:=fun (w2 w3:World) (dv2 bv2:Value) (hb2:Below wx.drew.heap.size wx.drew w2) (hb3:Below w2.heap.size w2 w3) (hc3:ChAt w3 (fun x=>w2.heap.size≤x) ⟨1,n,c.at_,zaA c.bytes kk y⟩ [.string n,dv2,.int .i64 c.at_,bv2,.bool true])=>HR.out.put HNL.out (hbx.trans ((hb2.mono hbx.size).trans (hb3.mono (Nat.le_trans hbx.size hb2.size)))) hlt hgl hzr hgm (by
           rw [hc,esp]
           exact hc3.kept (Same.refl _ _) fun x _ hx=>Nat.le_trans (Nat.le_trans hbx.size hb2.size) hx)
          have hrow3:=fun (w2 w3:World) (hb2:Below wx.drew.heap.size wx.drew w2) (hb3:Below w2.heap.size w2 w3)=>hB.kept ((hbx.trans ((hb2.mono hbx.size).trans (hb3.mono (Nat.le_trans hbx.size hb2.size)))).block g hB.lt)
          have hcells:=fun (w2 w3:World) (hb2:Below wx.drew.heap.size wx.drew w2) (hb3:Below w2.heap.size w2 w3)=>row5 (hrow3 w2 w3 hb2 hb3) hrl
          have HX:=Lib.hid hx
          have HW:=Lib.hid hwr
          have HFX:=Lib.hid hfx
          have HCE:=Lib.hid hcells
          have hne:b≠g∧wr.heap.size≠g∧wr.heap.size≠g∧g3≠g:=⟨hgb,fun e=>by have:=hB.lt;omega,fun e=>by have:=hB.lt;omega,hS3g⟩
          have HNE:=Lib.hid hne
          clear hch hch' hdo hbv ecs hones hB hB0 ho hrl' hcI hcm hc hsl3 hn3 kr hgl hgm hgb hFg hzr hncv e2 hk1 eat eby hkk hx hwr hfx hcells hne esp efile hrow3 hb3c hx3 hS3 hS3g hbx kx hbl hbl4 hg3
          have hkk0:(0:Int)≤(kk:Int):=Int.natCast_nonneg kk
          go_wp2_with fail
          try rw [hwx]
          clear hwx
          have hwi2:IntKind.i64.wrap ((i:Int)-c.at_)=(kk:Int):=by rw [IntKind.wrap_i64];unfold wrap64 at hwi;exact hwi
          go_region_held3 (fun W=>W.cell? ⟨b,3,none⟩=some (.slice (some ⟨g,0,none⟩) nl cv)∧W.cell? ⟨wr.heap.size,2,none⟩=some (.int .i64 c.at_)∧W.cell? ⟨wr.heap.size,3,none⟩=some (.slice (some ⟨g3,o3,none⟩) n3 cp3)∧W.cell? ⟨g3,o3+kk,none⟩=some (.int .u8 x3)) (first | with_reducible exact hS0 | with_reducible exact HS1.out | with_reducible exact HS2.out | with_reducible exact HS3.out | exact zgl hS0 _ | exact HS3.out) (first | (go_at_call 50;refine HX.out.mono ?_;rintro e w2 ⟨u,rfl,hb2,hu2⟩;have HW2:=Lib.hid (HW.out w2 u hb2 hu2);have HB2:=Lib.hid hb2;have HS1:=Lib.hid (zcm (F:=fun _=>False) hS0 (Turn.below hb2) ⟨id,id,id,id⟩);clear hb2 hu2) | (go_at_call 34;refine HW2.out.mono ?_;rintro e w3 ⟨cs,rfl,hc3,hb3⟩;obtain ⟨dv2,bv2,rfl,o1,o2⟩:=hc3.one;have t1:= @zak Try.prog dv2 o1;have t3:= @zak Try.prog bv2 o2;obtain ⟨⟨f0,f1,f2,f3,f4⟩,z0,z1,z2,z3,z4⟩:=HCE.out w2 w3 HB2.out hb3;have HS2:=Lib.hid (zcm (F:=fun _=>False) HS1.out (Turn.below hb3) ⟨id,id,id,id⟩);have HS3:Hid (World.cell? (((((w3.setCell ⟨g,k*5,none⟩ (.string n)).setCell ⟨g,k*5+1,none⟩ dv2).setCell ⟨g,k*5+2,none⟩ (.int .i64 c.at_)).setCell ⟨g,k*5+3,none⟩ bv2).setCell ⟨g,k*5+4,none⟩ (.bool true)) ⟨b,3,none⟩=some (.slice (some ⟨g,0,none⟩) nl cv)∧World.cell? (((((w3.setCell ⟨g,k*5,none⟩ (.string n)).setCell ⟨g,k*5+1,none⟩ dv2).setCell ⟨g,k*5+2,none⟩ (.int .i64 c.at_)).setCell ⟨g,k*5+3,none⟩ bv2).setCell ⟨g,k*5+4,none⟩ (.bool true)) ⟨wr.heap.size,2,none⟩=some (.int .i64 c.at_)∧World.cell? (((((w3.setCell ⟨g,k*5,none⟩ (.string n)).setCell ⟨g,k*5+1,none⟩ dv2).setCell ⟨g,k*5+2,none⟩ (.int .i64 c.at_)).setCell ⟨g,k*5+3,none⟩ bv2).setCell ⟨g,k*5+4,none⟩ (.bool true)) ⟨wr.heap.size,3,none⟩=some (.slice (some ⟨g3,o3,none⟩) n3 cp3)∧World.cell? (((((w3.setCell ⟨g,k*5,none⟩ (.string n)).setCell ⟨g,k*5+1,none⟩ dv2).setCell ⟨g,k*5+2,none⟩ (.int .i64 c.at_)).setCell ⟨g,k*5+3,none⟩ bv2).setCell ⟨g,k*5+4,none⟩ (.bool true)) ⟨g3,o3+kk,none⟩=some (.int .u8 x3)):=Lib.hid (zcm HS2.out (zfh (F:=fun x=>x=g) (q:=k*5) (a0:= .string n) (a1:=dv2) (a2:= .int .i64 c.at_) (a3:=bv2) (a4:= .bool true) (Turn.refl _ w3) rfl) HNE.out);have HF:Hid (SpR w w1 (((((w3.setCell ⟨g,k*5,none⟩ (.string n)).setCell ⟨g,k*5+1,none⟩ dv2).setCell ⟨g,k*5+2,none⟩ (.int .i64 c.at_)).setCell ⟨g,k*5+3,none⟩ bv2).setCell ⟨g,k*5+4,none⟩ (.bool true)) d F b m1 m2 (.slice (some ⟨g,0,none⟩) nl cv) n i y (k+1)):=Lib.hid (HFX.out w2 w3 dv2 bv2 HB2.out hb3 hc3);clear hc3 hb3))
          all_goals go_wp2_with fail
          all_goals go_roundw
          case rel=>exact ⟨k+1,congrArg _ hw,hlt,HF⟩
          case measure=>exact zeD hw hlt
         ·have HSP:=Lib.hid (show spC n i y c=c by unfold spC;rw [if_neg (fun g=>h2 (by have:=g.2.2.2;omega))])
          have hz3:¬ (kk:Int)<(n3:Int):=by omega
          clear hch hch' hdo hbv ecs hones hB hB0 ho hrl' hcI hcm hc hsl3 hn3 kr hgl hgm hgb hFg hzr hncv e2 hk1 eat eby hkk
          go_wp2
          go_roundw
          case rel=>exact ⟨k+1,congrArg _ hw,hlt,Lib.hid (HSAME.out _ ((Below.refl _ _).alloc (Nat.le_refl _) _) HSP.out)⟩
          case measure=>exact zeD hw hlt
        ·have HSP:=Lib.hid (show spC n i y c=c by unfold spC;rw [if_neg (fun g=>h1 g.2.2.1)])
         have hd1:decide (c.at_≤(i:Int))=false:=decide_eq_false h1
         clear hch hch' hdo hbv ecs hones hB hB0 ho hrl' hcI hcm hc hsl3 hn3 kr hgl hgm hgb hFg hzr hncv e2 hk1 eat eby
         go_wp2
         go_roundw
         case rel=>exact ⟨k+1,congrArg _ hw,hlt,Lib.hid (HSAME.out _ ((Below.refl _ _).alloc (Nat.le_refl _) _) HSP.out)⟩
         case measure=>exact zeD hw hlt
     ·have hltz:¬ (k:Int)<(nl:Int):=by omega
      obtain rfl:k=nl:=by omega
      have hr:=HR.out
      have kr:=hr.t.keep K1.out.blk (fun e=>e.elim H.out.b1 H.out.bv)
      obtain ⟨q0,q1,q2,q3,q4,q5,q6⟩:=box7 kr
      have h2l:=H.out.fl _ H.out.f2
      have h1l:=H.out.fl _ H.out.f1
      have hu:=HU.out
      have hnb:(B,(0:Int)).1.length=nB:=HNB.out
      rw [hnb] at hu
      have hu2:BRd wr (fun x=>w.heap.size≤x) (.slice a9 nB c9) B:=hu.same (hr.t.same fun x hx e=>by
       have hx:w.heap.size≤x:=hx
       rcases e with e | e
       ·omega
       ·have:=H.out.fl _ (H.out.fv x e);omega)
      obtain ⟨g9,o9,rfl,hS9,hg9,_,_,_,hc9⟩:=BRd.row hu2 (by have:=HIX.out;omega)
      obtain ⟨e9,_,_,_⟩:=hc9 i HIX.out
      obtain ⟨x9,hx9⟩:∃ x9,B.getD i 0=x9:=⟨_,rfl⟩
      rw [hx9] at e9
      have hbl4:B.length≤4194304:=HBL.out
      have hx:=ze1 (y:=y) (W:=wr.drew) (Rd.drew hu2) (by rw [HNB.out];exact HIX.out) hbl4
      rw [hx9,← zeZ] at hx
      have hno:FilesAt wr (SB F b m1 m2 (.slice av k cv)) m2 (zaa d):=K1.out.no.kept (hr.t.block m2 (by have:=HB1.out.size;omega) fun e=>e.elim (fun e=>H.out.mm e.symm) fun e=>H.out.v2 e) (hr.t.same fun x hx e=>e.elim (fun e=>hx.2.2.1 e) fun e=>hx.2.2.2.2 e) fun _ _ h=>h
      have hlen:=zbn d
      have hput:=fun (w2:World) (u:Value) (hb:Below wr.drew.heap.size wr.drew w2) (hu:BRd w2 (fun x=>wr.drew.heap.size≤x) u (zaA B i y))=>zcd hno HI.out.sn (fun hs=>hs.2.2.2.1 rfl) (by omega) hn hb hu
      have hfin:=fun (w3:World) (hd:zcS wr (SB F b m1 m2 (.slice av k cv)) m2 (zap ⟨n,zaA B i y⟩ (zaa d)) (.returned (.tuple #[])) w3)=>H.out.spoil HB1.out (by rw [HNL.out];exact hr) hd HBE.out (by rw [HNB.out];exact HIX.out) hn
      have hS0:wr.drew.cell? ⟨b,2,none⟩=some (.map (some m2))∧wr.drew.cell? ⟨g9,o9+i,none⟩=some (.int .u8 x9):=⟨q2,e9⟩
      have hgm:b≠m2∧g9≠m2:=⟨H.out.b2,fun e=>by have hS9:w.heap.size≤g9:=hS9;omega⟩
      have HX:=Lib.hid hx
      have HP:=Lib.hid hput
      have HFI:=Lib.hid hfin
      have HGM:=Lib.hid hgm
      clear hr kr h2l h1l hu hnb hu2 hS9 hg9 hc9 hx9 hbl4 hx hno hlen hput hfin hgm
      go_wp2_with fail
      go_region_held3 (fun W => W.cell? ⟨b, 2, none⟩ = some (.map (some m2)) ∧ W.cell? ⟨g9, o9 + i, none⟩ = some (.int .u8 x9)) (first | exact hS0 | exact HS1.out | exact HS2.out | exact zea hS0 _) (first | (go_at_call 50; refine HX.out.mono ?_; rintro e w2 ⟨u, rfl, hb2, hu2⟩; obtain ⟨w3, hup, hfin, _⟩ := HP.out w2 u hb2 hu2; have HS1 := Lib.hid (zbD (F := fun _ => False) hS0 (Turn.below hb2) ⟨id, id⟩); have HS2 := Lib.hid (zbD ⟨q2, e9⟩ hfin.2.1 HGM.out); have HF := Lib.hid (HFI.out w3 hfin); clear hfin hu2 hb2) | fail "none")
      all_goals go_wp2_with fail
      all_goals go_ret
      all_goals exact HF.out
theorem zeV {w:World} {S:Nat→Prop} {v:Value} {l:List Int} (h:BRd w S v l):(convert TBy TSt v).run Try.prog w = .ok (.string (zc3 l)) w:=by
 obtain ⟨a,c,rfl,hsl⟩:=h.shape
 rw [run_convert_bytes_string (P:=Try.prog) w TBy TSt TU a l.length c (by kernel_rfl) (by kernel_rfl) undS]
 by_cases h0:l.length=0
 ·have:l=[]:=List.eq_nil_of_length_eq_zero h0
  subst this
  cases a with
  | none=>rfl
  | some ad=>exact run_bytesToString (P:=Try.prog) w ad 0 c [] (by have:=run_loadCells (P:=Try.prog) (w:=w) ad 0 (fun _=>undef) (fun j hj=>absurd hj (Nat.not_lt_zero _));simpa using this)
 ·obtain ⟨b,off,rfl,_,_,_,_,_,hc⟩:=BRd.row h (by omega)
  have h1:=run_bytesToString (P:=Try.prog) w ⟨b,off,none⟩ l.length c l (by
   have:=run_loadCells_list (P:=Try.prog) w ⟨b,off,none⟩ (l.map (Value.int .u8)) (fun j v hj=>zg5 rfl (fun i hi=>(hc i hi).1) j v hj)
   simpa using this)
  rw [zei] at h1
  exact h1
def zhg (w:World) (xs:List Int) (e:Ending) (w':World):Prop:=
 e = .returned (.slice (some ⟨w.heap.size,0,none⟩) xs.length (xs.length+2))∧w'.heap[w.heap.size]? = some (.cells (u8s (xs++[165,90])).toArray TU (0,0))∧Below w.heap.size w w'
theorem zfR (xs:List Int):((Go.splice (List.replicate (xs.length+2) (Value.int .u8 0)) 0 (u8s xs)).set xs.length (.int .u8 165)).set (xs.length+1) (.int .u8 90)=u8s (xs++[165,90]):=by
 have e:(List.replicate (xs.length+2) (Value.int .u8 0)).drop xs.length=[.int .u8 0,.int .u8 0]:=by
  rw [List.drop_replicate,show xs.length+2-xs.length=2 by omega];rfl
 unfold u8s
 simp only [Go.splice,List.take_zero,List.nil_append,List.length_map,Nat.zero_add,e,List.map_append,List.map_cons,List.map_nil]
 rw [List.set_append_right _ _ (by simp)]
 simp only [List.length_map,Nat.sub_self,List.set_cons_zero]
 rw [List.set_append_right _ _ (by simp)]
 simp
theorem zk6 {w:World} {S:Nat→Prop} {bv:Value} {xs:List Int} (hb:BRd w S bv xs) (hl:xs.length≤1000000):Calls Try.prog 26 #[bv] w (zhg w xs):=by
 obtain ⟨a,c,rfl,_⟩:=hb.shape
 obtain ⟨n,hn⟩:∃ n,xs.length=n:=⟨_,rfl⟩
 obtain ⟨i0,hi,hz0,hz1,hz2⟩:=zdm
 have hi1:(Try.prog.info? TU).map (·.size)=some 1:=by rw [hi];simp [hz1]
 have hg1:∀ w1:World,w1.ownsRow w.heap.size TU 1 (.slice (some ⟨w.heap.size,0,none⟩) (n+2) (n+2)) (n+2) (madeCells (Value.int IntKind.u8 0).cells ((n+2)*1)).toList→w1.heap[w.heap.size]? = some (.cells (List.replicate (n+2) (.int .u8 0)).toArray TU (0,0)):=fun w1 hown=>by
  rw [← ziC];exact zdI hown
 have hn1:(u8s xs).length=Nat.min n (n+2):=by rw [zaI,hn];show n=min n (n+2);omega
 have hp1:∀ w1:World,w.grownBy w1 none→0<(u8s xs).length→some (⟨w.heap.size,0,none⟩:Addr)=some ⟨w.heap.size,0,none⟩∧∃ ad,a=some ad∧∀ j v,(u8s xs)[j]? = some v→w1.cell? (ad.add j)=some v:=fun w1 hgrow hp=>by
  rw [zaI] at hp
  obtain ⟨b,off,rfl,hS,hlt,_,_,hl,hc⟩:=BRd.row hb hp
  exact ⟨rfl,_,rfl,zg5 hl fun i hi=>hgrow.cell ((hc i hi).1) (by simp)⟩
 have hf1:0+(u8s xs).length≤(List.replicate (n+2) (Value.int .u8 0)).length:=by rw [zaI,hn,List.length_replicate];omega
 have hb1:∀ w1:World,w.grownBy w1 none→Below w.heap.size w w1:=fun w1 hgrow=>(Below.refl _ _).grown hgrow (Nat.le_refl _) (fun k h=>by cases h)
 have hlen2:(Go.splice (List.replicate (n+2) (Value.int .u8 0)) 0 (u8s xs)).length=n+2:=by rw [zcV hf1,List.length_replicate]
 have hcl:∀ w2:World,w2.heap[w.heap.size]? = some (.cells (Go.splice (List.replicate (n+2) (Value.int .u8 0)) 0 (u8s xs)).toArray TU (0,0))→(∃ u1 u2,w2.cell? ⟨w.heap.size,n,none⟩=some u1∧(w2.setCell ⟨w.heap.size,n,none⟩ (.int .u8 165)).cell? ⟨w.heap.size,n+1,none⟩=some u2)∧w2.frozen? ⟨w.heap.size,n,none⟩=false∧(w2.setCell ⟨w.heap.size,n,none⟩ (.int .u8 165)).frozen? ⟨w.heap.size,n+1,none⟩=false:=fun w2 h=>by
  have h2:(w2.setCell ⟨w.heap.size,n,none⟩ (.int .u8 165)).heap[w.heap.size]? = some (.cells ((Go.splice (List.replicate (n+2) (Value.int .u8 0)) 0 (u8s xs)).set n (.int .u8 165)).toArray TU (0,0)):=by
   simp [World.setCell,Array.getElem?_modify,h]
  refine ⟨⟨(Go.splice (List.replicate (n+2) (Value.int .u8 0)) 0 (u8s xs))[n]'(by omega),((Go.splice (List.replicate (n+2) (Value.int .u8 0)) 0 (u8s xs)).set n (.int .u8 165))[n+1]'(by rw [List.length_set];omega),?_,?_⟩,?_,?_⟩
  ·simp only [World.cell?,h];simp [hlen2]
  ·simp only [World.cell?,h2];simp [hlen2]
  ·simp [World.frozen?,h]
  ·simp only [World.frozen?,h2];rfl
 have hfin:∀ w2:World,w2.heap[w.heap.size]? = some (.cells (Go.splice (List.replicate (n+2) (Value.int .u8 0)) 0 (u8s xs)).toArray TU (0,0))→Below w.heap.size w w2→zhg w xs (.returned (.slice (some ⟨w.heap.size,0,none⟩) n (n+2))) ((w2.setCell ⟨w.heap.size,n,none⟩ (.int .u8 165)).setCell ⟨w.heap.size,n+1,none⟩ (.int .u8 90)):=fun w2 h hbel=>by
  refine ⟨by rw [hn],?_,(hbel.setCell (Nat.le_refl _) _).setCell (Nat.le_refl _) _⟩
  rw [← zfR,hn]
  simp [World.setCell,Array.getElem?_modify,h]
 have HG1:=Lib.hid hg1
 have HN1:=Lib.hid hn1
 have HP1:=Lib.hid hp1
 have HF1:=Lib.hid hf1
 have HB1:=Lib.hid hb1
 have HCL:=Lib.hid hcl
 have HFI:=Lib.hid hfin
 have hnn:n≤1000000:=by omega
 have hn0:(0:Int)≤(n:Int):=Int.natCast_nonneg n
 rw [hn]
 clear hg1 hn1 hp1 hf1 hb1 hcl hfin hlen2 hb hl hn
 go_enter Try.func26,Try.ntmps26
 go_wp2_with (first | (at_make;refine wpList_make_full _ rfl (.tmp 6) (.tmp 6) 30 rfl w.heap.size TU i0 (.int .u8 0) 1 undB hi hz0 hz1 .i64 .i64 ((n:Int)+2) ((n:Int)+2) (n+2) rfl rfl (by omega) (by omega) (by rw [hz2];omega) (by unfold maxLen;omega) (Nat.le_refl _) ?_;intro w1 hown hgrow) | (refine wpList_copy_splice rfl (.tmp 8) (.tmp 9) 30 30 rfl TU undB hi1 (some ⟨w.heap.size,0,none⟩) a (n+2) (n+2) n c rfl rfl w.heap.size 0 (List.replicate (n+2) (.int .u8 0)) TU (HG1.out _ hown) (u8s xs) HN1.out (HP1.out _ hgrow) HF1.out (zfQ xs) w.heap.size w (HB1.out _ hgrow) (Nat.le_refl _) ?_;intro w2 hrow hbel;obtain ⟨⟨z1,z2,k1,k2⟩,k3,k4⟩:=HCL.out _ hrow.out))
 go_ret
 exact HFI.out _ hrow.out hbel
theorem zmg (ys:List Int) (k:Nat) (v:Int):u8s (ys.set k v)=(u8s ys).set k (.int .u8 v):=by unfold u8s;rw [List.map_set]
def zlz (w:World) (g:Nat) (e:Ending) (w':World):Prop:=e = .returned (.bool true)∧Turn (fun x=>x=g) w w'
set_option maxHeartbeats 1000000 in
theorem zly {w:World} {S:Nat→Prop} {g:Nat} {bv:Value} {xs:List Int} (hrow:w.heap[g]? = some (.cells (u8s (xs++[165,90])).toArray TU (0,0))) (hb:BRd w S bv xs) (hl:xs.length≤1000000) :
  Calls Try.prog 27 #[.slice (some ⟨g,0,none⟩) xs.length (xs.length+2),bv] w (zlz w g):=by
 have hx:BRd w (fun x=>x=g) (.slice (some ⟨g,0,none⟩) xs.length (xs.length+2)) xs:=BRd.of_blk hrow rfl (by omega) (by unfold maxLen;omega) (by omega) rfl hb.by fun i hi=>by
  unfold u8s
  rw [List.getElem?_map,List.getElem?_append_left hi]
  simp [List.getD,hi]
 have v1:=zeV hx
 have v2:=zeV hb
 obtain ⟨a,c,rfl,_⟩:=hb.shape
 obtain ⟨n,hn⟩:∃ n,xs.length=n:=⟨_,rfl⟩
 have hl2:(u8s (xs++[165,90])).length=n+2:=by rw [zaI,List.length_append,hn];rfl
 have h1:w.cell? ⟨g,n,none⟩=some (.int .u8 165):=by
  have:(u8s (xs++[165,90]))[n]? = some (.int .u8 165):=by unfold u8s;rw [List.getElem?_map,List.getElem?_append_right (by omega),hn,Nat.sub_self];rfl
  simp only [World.cell?,hrow,List.getElem?_toArray,this];rfl
 have h2:w.cell? ⟨g,n+1,none⟩=some (.int .u8 90):=by
  have:(u8s (xs++[165,90]))[n+1]? = some (.int .u8 90):=by unfold u8s;rw [List.getElem?_map,List.getElem?_append_right (by omega),hn,show n+1-n=1 by omega];rfl
  simp only [World.cell?,hrow,List.getElem?_toArray,this];rfl
 have HR:=Lib.hid (⟨xs++[165,90],by rw [List.length_append,hn];rfl,hrow,Turn.refl _ _⟩:∃ ys:List Int,ys.length=n+2∧w.heap[g]? = some (.cells (u8s ys).toArray TU (0,0))∧Turn (fun x=>x=g) w w)
 have hnn:n≤1000000:=by omega
 have hn0:(0:Int)≤(n:Int):=Int.natCast_nonneg n
 have hw1:wrap64 ((n:Int)+2)=((n+2:Nat):Int):=by unfold wrap64;omega
 have hw2:wrap64 ((n:Int)+1)=((n+1:Nat):Int):=by unfold wrap64;omega
 rw [hn] at v1 v2 ⊢
 clear hrow hx hb hn hl hl2
 go_enter Try.func27,Try.ntmps27
 go_wp2_with fail
 go_loopw [7] (fun kv wr=>∃ k:Nat,kv = .int .i64 k∧k≤n+2∧Hid (∃ ys:List Int,ys.length=n+2∧wr.heap[g]? = some (.cells (u8s ys).toArray TU (0,0))∧Turn (fun x=>x=g) w wr)) (fun kv _=>n+2-(intOf kv).toNat)
 case atStart=>exact ⟨0,rfl,Nat.zero_le _,HR⟩
 case round=>
  obtain ⟨k,rfl,hk,HY⟩:=hrel
  by_cases hlt:k<n+2
  ·obtain ⟨ys,hy1,hy2,hy3⟩:=HY.out
   have hk0:(0:Int)≤(k:Int):=Int.natCast_nonneg k
   have hk1:(k:Int)<(n:Int)+2:=by omega
   have hw:wrap64 ((k:Int)+1)=((k+1:Nat):Int):=by unfold wrap64;omega
   obtain ⟨y,hy⟩:∃ y,ys.getD k 0=y:=⟨_,rfl⟩
   have hyk:(u8s ys)[k]? = some (.int .u8 y):=by rw [← hy];exact zdC (by omega)
   have hc:wr.cell? ⟨g,k,none⟩=some (.int .u8 y):=by simp only [World.cell?,hy2,List.getElem?_toArray,hyk];rfl
   have hf:wr.frozen? ⟨g,k,none⟩=false:=by simp [World.frozen?,hy2]
   have HN:=Lib.hid (fun (v:Int)=>(⟨ys.set k v,by rw [List.length_set];exact hy1,by simp [World.setCell,Array.getElem?_modify,hy2,zmg],hy3.set (.inl rfl) _⟩:∃ ys:List Int,ys.length=n+2∧(wr.setCell ⟨g,k,none⟩ (.int .u8 v)).heap[g]? = some (.cells (u8s ys).toArray TU (0,0))∧Turn (fun x=>x=g) w (wr.setCell ⟨g,k,none⟩ (.int .u8 v))))
   clear hy1 hy2 hy3 hyk hy
   go_wp2
   go_roundw
   case rel=>exact ⟨k+1,congrArg _ (by omega:(k:Int)+1=((k+1:Nat):Int)),hlt,Lib.hid (HN.out _)⟩
   case measure=>
    show n+2-((k:Int)+1).toNat<n+2-(k:Int).toNat
    omega
  ·have hk1:¬ (k:Int)<(n:Int)+2:=by omega
   obtain ⟨ys,hy1,hy2,hy3⟩:=HY.out
   have HT:=Lib.hid hy3
   clear hy1 hy2 hy3
   go_wp2
   go_ret
   exact ⟨rfl,HT.out⟩
def za1 (d:RDisk) (o:DOp):RDisk×Int:=
 if o.kind=1 then wrD d o.file o.at_ o.bytes else if o.kind=2 then cutD d o.file o.at_ else if o.kind=3 then rmD d o.file else if o.kind=4 then syD d o.file
 else if o.kind=5 then zby d o.at_ else if o.kind=6 then (crD d o.keep o.at_,0) else if o.kind=7 then spD d o.file o.at_ o.by_ else (d,0)
theorem DPost.before {w w1 w':World} {b:Nat} {F:Nat→Prop} {d':RDisk} {r:Value} {e:Ending} (hb:Below w.heap.size w w1) (h:DPost w1 b F d' r e w'):DPost w b F d' r e w':=DPost.after (fun x hx=> .inl hx) (Turn.below hb) h
theorem DPost.before_calls {w w1:World} {b:Nat} {F:Nat→Prop} {d':RDisk} {r:Value} {f:FuncId} {vals:Array Value} (hb:Below w.heap.size w w1) (h:Calls Try.prog f vals w1 (DPost w1 b F d' r)):Calls Try.prog f vals w1 (DPost w b F d' r):=h.mono fun e w' hp=>hp.before hb
theorem DPost.back {w w2 w3 w4:World} {b g:Nat} {F F':Nat→Prop} {d':RDisk} {r:Value} (hb:Below w.heap.size w w2) (p1:DkOk w3 b d' F') (p2:∀ x,F' x→F x∨w2.heap.size≤x) (p3:Turn F w2 w3) (h4:Turn (fun x=>x=g) w3 w4) (hg:¬ F g) (hg2:g<w2.heap.size) (hg3:w.heap.size≤g):DPost w b F d' r (.returned r) w4:=by
 refine ⟨rfl,F',p1.kept h4.size fun x hx=>h4.block x (p1.lt hx) fun e=>?_,fun x hx=>(p2 x hx).imp id fun h=>Nat.le_trans hb.size h,((Turn.below hb).trans p3 fun x _ h=>h).trans h4 fun x hl e=>?_⟩
 ·have e:x=g:=e
  rcases p2 x hx with h | h
  ·exact hg (e▸h)
  ·omega
 ·have e:x=g:=e
  omega
set_option maxHeartbeats 8000000 in
theorem zld {w:World} {b:Nat} {d:RDisk} {F S:Nat→Prop} (h:DkOk w b d F) (hN:d.lasts.length+d.changes.length≤5000) {vs:List Value} {o:DOp} (ho:RdL w S DOp.ty vs o.enc) (hl:o.bytes.length≤1000000) (hS:∀ x,S x→¬ F x) :
  Calls Try.prog 10 #[ptrV b,.agg vs.toArray] w (DPost w b F (za1 d o).1 (.int .i64 (za1 d o).2)):=by
 obtain ⟨kind,file,at_,bytes,keep,by_⟩:=o
 obtain ⟨a3,c3,a4,c4,rfl,k0,k1,k2,k3,k4,k5⟩:=DOp.opens ho
 simp only at k0 k1 k2 k3 k4 k5 hl ⊢
 obtain ⟨w1,hw1⟩:∃ w1,w.alloc (.cells #[.int .i64 kind,.string file,.int .i64 at_,.slice a3 bytes.length c3,.slice a4 keep.length c4,.int .u8 by_] 32)=w1:=⟨_,rfl⟩
 have hb1:Below w.heap.size w w1:=by rw [← hw1];exact (Below.refl _ _).alloc (Nat.le_refl _) _
 have kx:Blk w1 w.heap.size 32 #[.int .i64 kind,.string file,.int .i64 at_,.slice a3 bytes.length c3,.slice a4 keep.length c4,.int .u8 by_]:=by rw [← hw1];exact Blk.new _ _ _
 have hd1:DkOk w1 b d F:=h.kept hb1.size fun x hx=>hb1.block x (h.lt hx)
 have hbs:BRd w1 (fun x=>S x∧x<w.heap.size) (.slice a3 bytes.length c3) bytes:=(show BRd w S (.slice a3 bytes.length c3) bytes from k3).here.same (Same.below hb1)
 have hkp:BlR w1 (fun x=>S x∧x<w.heap.size) (.slice a4 keep.length c4) keep:=(show BlR w S (.slice a4 keep.length c4) keep from k4).here.same (Same.below hb1)
 have HB1:=Lib.hid hb1
 have hxF:¬ F w.heap.size:=fun e=>by have:=h.lt e;omega
 have HXF:=Lib.hid hxF
 have HS:=Lib.hid hS
 have H0:=Lib.hid h
 have HKX:=Lib.hid kx
 obtain ⟨q0,q1,q2,q3,q4,q5⟩:=box6 kx
 have hfile:NmOk file:=k1
 have HBS:=Lib.hid hbs
 have HHL:=Lib.hid hl
 by_cases e1:kind=1
 ·subst e1
  have HLE:=Lib.hid (zk6 hbs hl)
  have HWR:=Lib.hid (fun (w2:World) (hb2:Below w1.heap.size w1 w2) (hr:w2.heap[w1.heap.size]? = some (.cells (u8s (bytes++[165,90])).toArray TU (0,0)))=>zfc (hd1.kept hb2.size fun x hx=>hb2.block x (hd1.lt hx)) hN (BRd.of_blk (S:=fun x=>x=w1.heap.size) hr rfl (Nat.le_add_right _ 2) (by unfold maxLen;omega) (by omega) rfl hbs.by fun i hi=>by
   unfold u8s
   rw [List.getElem?_map,List.getElem?_append_left hi]
   simp [List.getD,hi]) hl hfile k2)
  have hcall:za1 d ⟨1,file,at_,bytes,keep,by_⟩=wrD d file at_ bytes:=if_pos rfl
  rw [hcall]
  have hgF:¬ F w1.heap.size:=fun e=>by have:=hd1.lt e;omega
  have HGF:=Lib.hid hgF
  have HD1:=Lib.hid hd1
  clear h hd1 hbs hkp ho k3 k4 hb1 kx hxF hcall hgF hS
  unfold ptrV at HWR ⊢
  go_enter Try.func10,Try.ntmps10
  go_wp2_with (first
   | (go_at_call 26;refine HLE.out.mono ?_;rintro e w2 ⟨rfl,hr2,hb2⟩;have HR2:=Lib.hid hr2;have HB2:=Lib.hid hb2;have kx2:=HKX.out.next hb2;obtain ⟨q0,q1,q2,q3,q4,q5⟩:=box6 kx2;clear hr2 hb2 kx2)
   | (go_at_call 22;refine (HWR.out w2 HB2.out HR2.out).mono ?_;rintro e w3 ⟨rfl,F',p1,p2,p3⟩;have kx3:=p3.keep (HKX.out.next HB2.out) HXF.out;obtain ⟨q0,q1,q2,q3,q4,q5⟩:=box6 kx3;have HP1:=Lib.hid p1;have HP2:=Lib.hid p2;have HP3:=Lib.hid p3;have hr3:=p3.keep HR2.out HGF.out;have hbs3:=(HBS.out.same (Same.below HB2.out)).same (p3.same fun x hx=>HS.out x hx.1);have HBA:=Lib.hid (zly hr3 hbs3 HHL.out);clear p1 p2 p3 kx3 hr3 hbs3)
   | (go_at_call 27;refine HBA.out.mono ?_;rintro e w4 ⟨rfl,ht4⟩;have HT4:=Lib.hid ht4;clear ht4)
   | fail)
  go_ret
  exact DPost.back (HB1.out.trans (HB2.out.mono HB1.out.size)) HP1.out HP2.out HP3.out HT4.out HGF.out (by have:=(Array.getElem?_eq_some_iff.1 HR2.out).1;exact this) HB1.out.size
 by_cases e2:kind=2
 ·subst e2
  have HC:=Lib.hid (DPost.before_calls HB1.out (zkX hd1 hN hfile k2))
  have hcall:za1 d ⟨2,file,at_,bytes,keep,by_⟩=cutD d file at_:=rfl
  rw [hcall]
  clear h hd1 hbs hkp ho k3 k4 hb1 kx hxF hcall hS
  unfold ptrV at HC ⊢
  go_enter Try.func10,Try.ntmps10
  go_wp2_with (first | (go_at_call 23;refine HC.out.mono ?_;rintro e w3 ⟨rfl,p⟩;have HP:=Lib.hid p;clear p) | fail)
  go_ret
  exact ⟨rfl,HP.out⟩
 by_cases e3:kind=3
 ·subst e3
  have HC:=Lib.hid (DPost.before_calls HB1.out (znc hd1 hN hfile))
  have hcall:za1 d ⟨3,file,at_,bytes,keep,by_⟩=rmD d file:=rfl
  rw [hcall]
  clear h hd1 hbs hkp ho k3 k4 hb1 kx hxF hcall hS
  unfold ptrV at HC ⊢
  go_enter Try.func10,Try.ntmps10
  go_wp2_with (first | (go_at_call 24;refine HC.out.mono ?_;rintro e w3 ⟨rfl,p⟩;have HP:=Lib.hid p;clear p) | fail)
  go_ret
  exact ⟨rfl,HP.out⟩
 by_cases e4:kind=4
 ·subst e4
  have HC:=Lib.hid (DPost.before_calls HB1.out (zfG hd1 hN hfile))
  have hcall:za1 d ⟨4,file,at_,bytes,keep,by_⟩=syD d file:=rfl
  rw [hcall]
  clear h hd1 hbs hkp ho k3 k4 hb1 kx hxF hcall hS
  unfold ptrV at HC ⊢
  go_enter Try.func10,Try.ntmps10
  go_wp2_with (first | (go_at_call 12;refine HC.out.mono ?_;rintro e w3 ⟨rfl,p⟩;have HP:=Lib.hid p;clear p) | fail)
  go_ret
  exact ⟨rfl,HP.out⟩
 by_cases e5:kind=5
 ·subst e5
  have HC:=Lib.hid (DPost.before_calls HB1.out (zka hd1 at_))
  have hcall:za1 d ⟨5,file,at_,bytes,keep,by_⟩=zby d at_:=rfl
  rw [hcall]
  clear h hd1 hbs hkp ho k3 k4 hb1 kx hxF hcall hS
  unfold ptrV at HC ⊢
  go_enter Try.func10,Try.ntmps10
  go_wp2_with (first | (go_at_call 21;refine HC.out.mono ?_;rintro e w3 ⟨rfl,p⟩;have HP:=Lib.hid p;clear p) | fail)
  go_ret
  exact ⟨rfl,HP.out⟩
 by_cases e6:kind=6
 ·subst e6
  have HC:=Lib.hid (DPost.before_calls HB1.out (zfJ hd1 hN hkp k2))
  have hcall:za1 d ⟨6,file,at_,bytes,keep,by_⟩=(crD d keep at_,0):=rfl
  rw [hcall]
  clear h hd1 hbs hkp ho k3 k4 hb1 kx hxF hcall hS
  unfold ptrV at HC ⊢
  go_enter Try.func10,Try.ntmps10
  go_wp2_with (first | (go_at_call 14;refine HC.out.mono ?_;rintro e w3 ⟨rfl,p⟩;have HP:=Lib.hid p;clear p) | fail)
  go_ret
  exact ⟨rfl,HP.out⟩
 by_cases e7:kind=7
 ·subst e7
  have HC:=Lib.hid (DPost.before_calls HB1.out (zie (y:=by_) hd1 hN hfile k2))
  have hcall:za1 d ⟨7,file,at_,bytes,keep,by_⟩=spD d file at_ by_:=rfl
  rw [hcall]
  clear h hd1 hbs hkp ho k3 k4 hb1 kx hxF hcall hS
  unfold ptrV at HC ⊢
  go_enter Try.func10,Try.ntmps10
  go_wp2_with (first | (go_at_call 25;refine HC.out.mono ?_;rintro e w3 ⟨rfl,p⟩;have HP:=Lib.hid p;clear p) | fail)
  go_ret
  exact ⟨rfl,HP.out⟩
 have hcall:za1 d ⟨kind,file,at_,bytes,keep,by_⟩=(d,0):=by unfold za1;simp only;rw [if_neg e1,if_neg e2,if_neg e3,if_neg e4,if_neg e5,if_neg e6,if_neg e7]
 rw [hcall]
 have f1:(kind==1)=false:=by simpa using e1
 have f2:(kind==2)=false:=by simpa using e2
 have f3:(kind==3)=false:=by simpa using e3
 have f4:(kind==4)=false:=by simpa using e4
 have f5:(kind==5)=false:=by simpa using e5
 have f6:(kind==6)=false:=by simpa using e6
 have f7:(kind==7)=false:=by simpa using e7
 have HE:=Lib.hid (DPost.same (r:= .int .i64 0) h hb1)
 clear h hd1 hbs hkp ho k3 k4 hb1 kx hxF hcall hS e1 e2 e3 e4 e5 e6 e7
 unfold ptrV
 go_enter Try.func10,Try.ntmps10
 go_wp2_with fail
 go_ret
 exact HE.out
def dkM (d:RDisk):List BE:=[.dead,.dead,.obj (.disk d)]
theorem mdk (L:RDisk) (t:Nat):mOf (dkM L) t=if t<2 then .dead else if t=2 then .obj (.disk L) else .empty:=by
 match t with
 | 0=>rfl
 | 1=>rfl
 | 2=>rfl
 | t+3=>rw [zcv,if_neg (by omega),if_neg (by omega)];simp [dkM,List.getD]
theorem zbx {L:RDisk} {t:Nat} (h:(mOf (dkM L) t).live=true):t=2:=by
 rw [mdk] at h
 by_cases h1:t<2
 ·rw [if_pos h1] at h;cases h
 ·rw [if_neg h1] at h
  by_cases h2:t=2
  ·exact h2
  ·rw [if_neg h2] at h;cases h
theorem zlG {E:Env} {L:RDisk} {b:Nat} (h:Has E (mOf (dkM L)) 2 b):E.φ 2 b:=by
 obtain ⟨_,v,_,hf⟩:=h
 exact hf
theorem zj0 {E:Env} {L:RDisk} {b:Nat} {v:Value} (hv:E.β 2=some v) (h:E.φ 2 b):Has E (mOf (dkM L)) 2 b:=⟨rfl,v,hv,h⟩
theorem zng {E:Env} {w w':World} {L L':RDisk} {b:Nat} {F':Nat→Prop} (hm:MemOk w.heap.size (cxIn E (dkM L) 1) w E (mOf (dkM L)) w) (hb:E.β 2=some (.pointer (some ⟨b,0,none⟩))) (hc:DkOk w' b L' F') (hF:∀ x,F' x→E.φ 2 x∨w.heap.size≤x) (ht:Turn (E.φ 2) w w') :
  MemOk w.heap.size (cxIn E (dkM L) 1) w ⟨E.β,E.σ,fun t=>if t=2 then F' else E.φ t⟩ (mOf (dkM L')) w':=by
 have hlab:∀ i x,E.σ i x→x<w.heap.size:=fun i x h=>(hm.lab i x h).1
 have hh:∀ {t x:Nat},Has (⟨E.β,E.σ,fun t=>if t=2 then F' else E.φ t⟩:Env) (mOf (dkM L')) t x→t=2∧F' x:=fun {t x} h=>by
  have e:=zbx h.1
  subst e
  have:=zlG h
  exact ⟨rfl,by simpa using this⟩
 refine ⟨fun t hte=>?_,fun t T vs hte=>?_,fun t T ls r hte=>?_,fun i x h=>⟨Nat.lt_of_lt_of_le (hlab i x h) ht.size,(hm.lab i x h).2⟩,hm.dis,fun i hi=>?_,fun t x h=>?_,hm.old,fun t u x h1 h2=>(hh h1).1.trans (hh h2).1.symm,hm.keep,⟨ht.os,ht.tape,ht.output,ht.size,fun x hx hn=>ht.block x hx fun g=>hn ⟨2,zj0 hb g⟩⟩,ht.size,fun t o hte=>?_⟩
 ·have:mOf (dkM L) t = .empty:=by
   rw [mdk] at hte ⊢
   by_cases h1:t<2
   ·rw [if_pos h1] at hte;cases hte
   ·rw [if_neg h1] at hte ⊢
    by_cases h2:t=2
    ·rw [if_pos h2] at hte;cases hte
    ·rw [if_neg h2]
  exact hm.empty t this
 ·have:=zbx (L:=L') (t:=t) (by rw [hte];rfl)
  subst this;cases hte
 ·have:=zbx (L:=L') (t:=t) (by rw [hte];rfl)
  subst this;cases hte
 ·have:i=0:=by
   have:i<1:=hi
   omega
  subst this
  rw [mdk];simp
 ·obtain ⟨rfl,hx⟩:=hh h
  rcases hF x hx with g | g
  ·exact hm.sep 2 x (zj0 hb g)
  ·exact ⟨fun ⟨i,hi⟩=>by have:=hlab i x hi;omega,.inl g⟩
 ·have:=zbx (L:=L') (t:=t) (by rw [hte];rfl)
  subst this
  have e:BE.obj (.disk L') = .obj o:=hte
  cases e
  refine ⟨b,hb,?_⟩
  show DkOk w' b L' (if 2=2 then F' else E.φ 2)
  rw [if_pos rfl];exact hc
theorem FnG.of_dk {f:FuncId} {L L':RDisk} {rest:List SV} {n:Int} (hB:FnB Try.prog f) (hn:I64 n)
  (h:∀ (w:World) (b:Nat) (F:Nat→Prop) (E:Env) (vals:List Value),DkOk w b L F→DenL E w rest vals→(∀ x,E.lab x→¬ F x)→Calls Try.prog f ((ptrV b::vals:List Value)).toArray w (DPost w b F L' (.int .i64 n))) :
  FnG Try.prog f 1 (dkM L) (.ptr 2 0::rest) (.int .i64 n) (dkM L'):=by
 refine ⟨hB,fun w E vals hm hd=>?_⟩
 match vals,hd with
 | v::vals,hd=>
  obtain ⟨b,hb,rfl⟩:=hd.1
  obtain ⟨b',hb',hc⟩:=hm.obj 2 _ rfl
  rw [hb] at hb'
  cases hb'
  refine Calls.mono (h w b (E.φ 2) E vals hc hd.2 fun x hx hf=>(hm.sep 2 x (zj0 hb hf)).1 hx) ?_
  rintro e w' ⟨rfl,F',hc',hF,ht⟩
  exact ⟨_,_,rfl,⟨rfl,zds hn⟩,zng hm hb hc' hF ht⟩
def mDisk:Mem RDisk:=⟨dkM,fun m=>match m with | [.dead,.dead,.obj (.disk d)]=>some d | _=>none,fun m x h=>by
 split at h
 ·simp only [Option.some.injEq] at h;subst h;rfl
 ·cases h⟩
theorem zaU {α:Type} {c:Prop} [Decidable c] {x y:α×Int} (hx:I64 x.2) (hy:I64 y.2):I64 (if c then x else y).2:=by
 by_cases h:c
 ·rw [if_pos h];exact hx
 ·rw [if_neg h];exact hy
theorem zme (d:RDisk) (n:ByteArray) (k:Int) (b:List Int):I64 (wrD d n k b).2:=by
 unfold wrD
 repeat' refine zaU ?_ ?_
 all_goals (refine ⟨?_,?_⟩<;>(dsimp only;omega))
theorem zkZ (d:RDisk) (n:ByteArray) (k:Int):I64 (cutD d n k).2:=by
 unfold cutD
 repeat' refine zaU ?_ ?_
 all_goals (refine ⟨?_,?_⟩<;>(dsimp only;omega))
theorem zm0 (d:RDisk) (n:ByteArray):I64 (rmD d n).2:=by
 unfold rmD
 repeat' refine zaU ?_ ?_
 all_goals (refine ⟨?_,?_⟩<;>(dsimp only;omega))
theorem zml (d:RDisk) (n:ByteArray):I64 (syD d n).2:=by
 unfold syD
 repeat' refine zaU ?_ ?_
 all_goals (refine ⟨?_,?_⟩<;>(dsimp only;omega))
theorem zid (d:RDisk) (k:Int):I64 (zby d k).2:=by
 unfold zby
 repeat' refine zaU ?_ ?_
 all_goals (refine ⟨?_,?_⟩<;>(dsimp only;omega))
theorem zmr (d:RDisk) (n:ByteArray) (k y:Int):I64 (spD d n k y).2:=by
 unfold spD
 repeat' refine zaU ?_ ?_
 all_goals (refine ⟨?_,?_⟩<;>(dsimp only;omega))
theorem zir (d:RDisk) (n:ByteArray):I64 (zaw d n).2:=by
 unfold zaw
 exact zaU ⟨by dsimp only;omega,by dsimp only;omega⟩ ⟨by dsimp only;omega,by dsimp only;omega⟩
theorem zjB (d:RDisk) (o:DOp):I64 (za1 d o).2:=
 zaU (zme ..) (zaU (zkZ ..) (zaU (zm0 ..) (zaU (zml ..) (zaU (zid ..) (zaU (by show I64 0;decide) (zaU (zmr ..) (by show I64 0;decide)))))))
abbrev FewD (d:RDisk):Prop:=d.lasts.length+d.changes.length≤5000
theorem zno {d:RDisk} (hN:FewD d) (o:DOp) (hl:o.bytes.length≤1000000):FnG Try.prog 10 1 (dkM d) [.ptr 2 0,dDOp.can o] (.int .i64 (za1 d o).2) (dkM (za1 d o).1):=
 FnG.of_dk (fnB Try.func10 (by decide) rfl) (zjB d o) fun w b F E vals hc hd hS=>by
  match vals,hd with
  | [v],hd=>
   obtain ⟨xs,rfl,hl2⟩:=hd.1
   exact zld hc hN (DOp.svs_rd hl2) hl fun x hx=>hS x (Env.set_lab hx)
noncomputable def zon:Ent:=zok 10 mDisk dDOp [] [] fun d o=>([FewD d,o.bytes.length≤1000000],.int .i64 (za1 d o).2,dkM (za1 d o).1)
theorem zkP:zar Try.prog zon:=zkL (fnB Try.func10 (by decide) rfl) fun d o h=>zno (h (FewD d) (by simp)) o (h (o.bytes.length≤1000000) (by simp))
def dDk:Dec RDisk where
 dec:=fun s=>match s with | .ro _ (.disk d)=>some d | _=>none
 can:=fun d=> .ro [0] (.disk d)
 Okp:=fun _=>True
 okp:=fun _ _ _ _ _=>trivial
 ok:=by
  intro s x h E w v hz hd
  split at h
  ·simp only [Option.some.injEq] at h;subst h
   obtain ⟨b,F,h1,h2,h3⟩:=hd
   exact ⟨b,F,h1,h2,fun y hy=>by
    obtain ⟨i,_,hs⟩:=h3 y hy
    exact ⟨0,by simp,(hz i y hs)▸hs⟩⟩
  ·simp at h
theorem znd (d:RDisk):FnC Try.prog 15 [dDk.can d] (.bool d.down) D2:=by
 refine FnC.of_below (fnB Try.func15 (by decide) rfl) fun w E vals hd=>?_
 match vals,hd with
 | [v],hd=>
  obtain ⟨b,F,rfl,hc,_⟩:=hd.1
  exact (zkR hc).mono fun e w' ⟨he,hb⟩=>⟨_,he,hb,fun E' _ _=>rfl⟩
noncomputable def zlW:Ent:=ent1 15 dDk fun d=>([],.bool d.down,D2)
theorem zjw:zar Try.prog zlW:=zbt (fnB Try.func15 (by decide) rfl) fun d _=>znd d
theorem znf {room:Int} (h0:1≤room) (h1:room≤4194304):FnC Try.prog 9 [dInt.can room] (.tup [.ptr 2 0,.int .i64 0]) (dkM (zaR room)):=by
 refine ⟨fnB Try.func9 (by decide) rfl,fun w E vals hm hd=>?_⟩
 match vals,hd with
 | [v],hd=>
  obtain rfl:v = .int .i64 room:=hd.1.1
  refine Calls.mono (zgX h0 h1) ?_
  rintro e w' ⟨b,F,rfl,hc,hF,hB⟩
  have hlab:∀ i x,E.σ i x→x<w.heap.size:=fun i x h=>(hm.lab i x h).1
  refine ⟨_,⟨fun t=>if t=2 then some (.pointer (some ⟨b,0,none⟩)) else E.β t,E.σ,fun t=>if t=2 then F else E.φ t⟩,rfl,⟨[ptrV b,.int .i64 0],rfl,⟨b,rfl,rfl⟩,⟨rfl,by decide⟩,trivial⟩,?_⟩
  have hno:∀ {E:Env} {t x:Nat},¬ Has E (mOf D2) t x:=fun h=>zdj h
  have hh:∀ {t x:Nat},Has (⟨fun t=>if t=2 then some (.pointer (some ⟨b,0,none⟩)) else E.β t,E.σ,fun t=>if t=2 then F else E.φ t⟩:Env) (mOf (dkM (zaR room))) t x→t=2∧F x:=fun {t x} h=>by
   have e:=zbx h.1
   subst e
   have:=zlG h
   exact ⟨rfl,by simpa using this⟩
  refine ⟨fun t hte=>?_,fun t T vs hte=>?_,fun t T ls r hte=>?_,fun i x h=>⟨Nat.lt_of_lt_of_le (hlab i x h) hB.size,(hm.lab i x h).2⟩,hm.dis,fun i hi=>?_,fun t x h=>?_,hm.old,fun t u x h1 h2=>(hh h1).1.trans (hh h2).1.symm,fun t v hk=>?_,⟨hB.os,hB.tape,hB.output,hB.size,fun x hx _=>hB.block x hx⟩,hB.size,fun t o hte=>?_⟩
  ·have h3:¬ t=2:=fun e=>by subst e;cases hte
   have:mOf D2 t = .empty:=by
    rw [mdk] at hte
    by_cases h1:t<2
    ·rw [if_pos h1] at hte;cases hte
    ·rw [mD2,if_neg h1]
   have h4:=hm.empty t this
   exact ⟨by show (if t=2 then _ else E.β t)=none;rw [if_neg h3];exact h4.1,h4.2⟩
  ·have:=zbx (L:=zaR room) (t:=t) (by rw [hte];rfl)
   subst this;cases hte
  ·have:=zbx (L:=zaR room) (t:=t) (by rw [hte];rfl)
   subst this;cases hte
  ·have:i=0:=by
    have:i<1:=hi
    omega
   subst this
   rw [mdk];simp
  ·obtain ⟨rfl,hx⟩:=hh h
   have:=hF x hx
   exact ⟨fun ⟨i,hi⟩=>by have:=hlab i x hi;omega,.inl this⟩
  ·have hk2:=hm.keep t v hk
   have hk:(if t<2 then E.β t else none)=some v:=hk
   have h3:¬ t=2:=fun e=>by subst e;simp at hk
   show (if t=2 then _ else E.β t)=some v
   rw [if_neg h3];exact hk2
  ·have:=zbx (L:=zaR room) (t:=t) (by rw [hte];rfl)
   subst this
   have e:BE.obj (.disk (zaR room)) = .obj o:=hte
   cases e
   refine ⟨b,by simp,?_⟩
   show DkOk w' b (zaR room) (if 2=2 then F else E.φ 2)
   rw [if_pos rfl];exact hc
theorem zfp {w:World} {base base':Nat} {E:TypeId} {k n:Nat} {v:Value} {xs:List Value} (h:w.ownsRow base E k v n xs) (hb:base'≤base):w.ownsRow base' E k v n xs:=by
 refine ⟨h.1,?_⟩
 rcases h.2 with h2 | ⟨g,cap,cur,h2,h3,h4⟩
 ·exact .inl h2
 ·exact .inr ⟨g,cap,cur,h2,Nat.le_trans hb h3,h4⟩
theorem zhL {w:World} {b:Nat} {d:RDisk} {F:Nat→Prop} (h:DkOk w b d F) (hN:d.lasts.length+d.changes.length≤5000) :
  Calls Try.prog 16 #[ptrV b] w fun e w'=>∃ u,e = .returned u∧Below w.heap.size w w'∧OwnR w.heap.size w' TSt (fun _=>False) [.str] u (strs (zal d)):=by
 obtain ⟨m1,m2,v,rows,h⟩:=h.o
 obtain ⟨q0,q1,q2,q3,q4,q5,q6⟩:=box7 h.blk
 obtain ⟨D,hown,hsz,hk⟩:=h.no.D
 have hln:=zbn d
 have hnm:=zd2 d.changes d.lasts h.inv.nm fun c hc=>(h.inv.ch c hc).2.2
 have hsn:=h.inv.sn
 have cS:=zhp m2 (zaa d).length D RV w hown (by unfold maxLen;omega) (by omega)
 have cK:=zkB (some m2) w
 have hfin:=fun (ss:List (List UInt8)) (hp:ss.Perm (strKeys D))=>zfs hown hsn (fun m=>(hk m).1) hp
 clear hk hown h
 refine (callsIn_wide (n:=6)).1 ?_
 unfold ptrV
 have hfK:Fence.wide.fn 37:=trivial
 have hfS:Fence.wide.fn 36:=trivial
 refine callsIn_of_wp Try.func16 rfl trivial ?_ rfl
 simp only [Try.ntmps16,List.size_toArray,List.length_cons,List.length_nil,Nat.reduceAdd,Nat.reduceSub,Array.replicate_succ,Array.replicate_zero,List.push_toArray,List.append_toArray,List.nil_append,List.cons_append]
 gi_wp2_with (first
  | (gi_at_call 37;refine cK.mono ?_;rintro e w' ⟨rfl,rfl⟩)
  | (gi_at_call 36;refine cS.mono ?_;rintro e w' ⟨v,ss,rfl,hS,hrow,hnil,hb⟩))
 go_ret
 have e:=hfin ss hS
 rw [e] at hrow
 have hle:ss.length≤100000:=by
  have:=hrow.1
  simp only [List.length_map,Nat.mul_one] at this
  omega
 have hlen:ss.length=(zal d).length:=by
  have:=hrow.1
  simpa [zal] using this.symm
 rw [hlen] at hrow
 refine ⟨v,rfl,((Below.refl _ w).alloc (Nat.le_refl _) _).trans (hb.mono (by simp)),(zal d).map Value.string,?_,fun i hi=>?_⟩
 ·rw [zg4]
  exact zfp hrow (by simp)
 ·rw [zg4] at hi
  have e1:((((zal d).map Value.string).drop (i*1)).take 1)=[.string ((zal d)[i])]:=by
   rw [Nat.mul_one,List.drop_eq_getElem_cons (by simpa using hi)];simp
  have e2:(strs (zal d)).getD i []=[.str (zal d)[i]]:=by simp [strs,List.getD,hi]
  show RdL _ _ [.str] ((((zal d).map Value.string).drop (i*1)).take 1) _
  rw [e1,e2]
  obtain ⟨x,hx,e⟩:=List.mem_map.1 (List.getElem_mem hi)
  exact ⟨.str (by rw [← e];exact hnm x hx),trivial⟩
theorem zgJ {E:Env} {w w':World} {v:Value} {T:TypeId} {r:RL} (hm:MemOk w.heap.size (cxIn E D2 1) w E (mOf D2) w) (hb:Below w.heap.size w w') (ho2:OwnR w.heap.size w' T (fun _=>False) r.tys v r.rows) :
  ∃ E',E'.β 2=some v∧v.oneCell'=true∧MemOk w.heap.size (cxIn E D2 1) w E' (mOf [.dead,.dead,.row T [] r]) w':=by
 obtain ⟨a,c,ef⟩:=ho2.form
 have hl:∀ t,(mOf D2 t).live=false:=by intro t;rw [mD2];split<;>rfl
 have hlab:∀ i b,E.σ i b→b<w.heap.size:=fun i b h=>(hm.lab i b h).1
 have h1:MemOk w.heap.size (cxIn E D2 1) w E (mOf D2) w':=by
  refine ⟨hm.empty,fun t T vs ht=>?_,fun t T ls r ht=>?_,fun i b hb'=>⟨Nat.lt_of_lt_of_le (hlab i b hb') hb.size,(hm.lab i b hb').2⟩,hm.dis,hm.low,fun t b hh=>absurd hh zdj,hm.old,fun t u b h1=>absurd h1 zdj,hm.keep,⟨hb.os,hb.tape,hb.output,hb.size,fun b h1 _=>hb.block b h1⟩,hb.size,fun t o ht=>(by have:=hl t;rw [ht] at this;cases this)⟩
  ·have:=hl t;rw [ht] at this;cases this
  ·have:=hl t;rw [ht] at this;cases this
 have hE2:mOf D2 2 = .empty:=by rw [mD2];rfl
 have h2:=h1.take (w':=w') hE2 v (.row T [] r) (by simp) (Nat.le_refl _) (fun _ _=>rfl) (BelowX.refl _ _ _) (fun b hv=>?_) ?_
 ·refine ⟨E.setβ 2 v,(by show (if 2=2 then some v else E.β 2)=some v;rw [if_pos rfl]),by rw [ef];rfl,?_⟩
  have e:upd (mOf D2) 2 (.row T [] r)=mOf [.dead,.dead,.row T [] r]:=by
   funext t
   match t with
   | 0=>rfl
   | 1=>rfl
   | 2=>rfl
   | t+3=>rw [zaH _ _ (by omega),mD2,if_neg (by omega),zcv];simp [List.getD]
  rw [← e];exact h2
 ·have hb2:=ho2.lt b (by rw [zaq ⟨a,_,c,ef⟩];exact hv)
  exact ⟨fun ⟨i,hi⟩=>by have:=hlab i b hi;omega,fun t=>zdj,.inl hb2.1⟩
 ·exact ho2.mono (Nat.zero_le _) (fun b h=>h.elim)
theorem zk0 (d:RDisk) (hN:FewD d):FnC Try.prog 16 [dDk.can d] (.own 2) [.dead,.dead,.row TSt [] (.rStrs (zal d))]:=by
 refine ⟨fnB Try.func16 (by decide) rfl,fun w E vals hm hd=>?_⟩
 match vals,hd with
 | [v],hd=>
  obtain ⟨b,F,rfl,hc,_⟩:=hd.1
  refine (zhL hc hN).mono ?_
  rintro e w' ⟨u,rfl,hb,ho⟩
  obtain ⟨E',h1,h2,h3⟩:=zgJ (r:= .rStrs (zal d)) hm hb ho
  exact ⟨u,E',rfl,⟨h1,h2⟩,h3⟩
noncomputable def zjv:Ent:=ent1 16 dDk fun d=>([FewD d],.own 2,[.dead,.dead,.row TSt [] (.rStrs (zal d))])
theorem zhG:zar Try.prog zjv:=zbt (fnB Try.func16 (by decide) rfl) fun d h=>zk0 d (h (FewD d) (by simp))
theorem zkT {room:Int} (h:room<1∨room>4194304):FnC Try.prog 9 [dInt.can room] (.tup [.np,.int .i64 1]) D2:=by
 refine FnC.of_below (fnB Try.func9 (by decide) rfl) fun w E vals hd=>?_
 match vals,hd with
 | [v],hd=>
  obtain rfl:v = .int .i64 room:=hd.1.1
  refine (zjz h).mono ?_
  rintro e w' ⟨rfl,rfl⟩
  exact ⟨_,rfl,Below.refl _ _,fun E' _ _=>⟨[.pointer none,.int .i64 1],rfl,rfl,⟨rfl,by decide⟩,trivial⟩⟩
noncomputable def zlV:Ent:=ent1 9 dInt fun n=>([1≤n,n≤4194304],.tup [.ptr 2 0,.int .i64 0],dkM (zaR n))
theorem zju:zar Try.prog zlV:=zbt (fnB Try.func9 (by decide) rfl) fun n h=>znf (h (1≤n) (by simp)) (h (n≤4194304) (by simp))
noncomputable def zlU:Ent:=ent1 9 dInt fun n=>([n<1∨n>4194304],.tup [.np,.int .i64 1],D2)
theorem zjt:zar Try.prog zlU:=zbt (fnB Try.func9 (by decide) rfl) fun n h=>zkT (h (n<1∨n>4194304) (by simp))
end Go.Proofs.Ytfccndnnpkiajaa
namespace Go.Proofs.Ytfccndnnpkiajaa
open Go.RowKit Go.ChangeShapes Go.WideShapes Go.Deep
set_option maxRecDepth 100000
theorem zeH (n:ByteArray):leN n n=true:=zeo (za7 n)
section
variable {n : ByteArray}
theorem aw1 (hn:zaT n=true):wrD (zaR 10) n 0 [97,98,99]=(⟨10,[],[⟨1,n,0,[97,98,99]⟩],false,false,0⟩,0):=by
 simp [wrD,zaR,zaa,hn,zaf,zaj,zad,zap,zaB,sumF,chgD,zbh]
theorem aw2 (hn:zaT n=true):syD ⟨10,[],[⟨1,n,0,[97,98,99]⟩],false,false,0⟩ n=(⟨10,[⟨n,[97,98,99]⟩],[],false,false,0⟩,0):=by
 simp [syD,hn,ofF,za7,zaf,zaj,zad,zap,zaB,zbh]
theorem aw3 (hn:zaT n=true):wrD ⟨10,[⟨n,[97,98,99]⟩],[],false,false,0⟩ n 3 [100,101]=(⟨10,[⟨n,[97,98,99]⟩],[⟨1,n,3,[100,101]⟩],false,false,0⟩,0):=by
 simp [wrD,zaa,hn,zaf,zaj,zad,zap,zaB,sumF,chgD,zbh,za7,zeH,List.range_succ]
theorem aw4 (hn:zaT n=true):wrD ⟨10,[⟨n,[97,98,99]⟩],[⟨1,n,3,[100,101]⟩],false,false,0⟩ n 5 [102,103]=(⟨10,[⟨n,[97,98,99]⟩],[⟨1,n,3,[100,101]⟩,⟨1,n,5,[102,103]⟩],false,false,0⟩,0):=by
 simp [wrD,zaa,hn,zaf,zaj,zad,zap,zaB,sumF,chgD,zbh,za7,zeH,List.range_succ]
theorem aw5:crD ⟨10,[⟨n,[97,98,99]⟩],[⟨1,n,3,[100,101]⟩,⟨1,n,5,[102,103]⟩],false,false,0⟩ [false,true] (-1)=⟨10,[⟨n,[97,98,99,0,0,102,103]⟩],[],false,false,0⟩:=by
 simp [crD,za8,zcQ,zbF,zaf,zaj,zad,zap,zaB,za7,zeH,List.range_succ]
theorem aw6:zaw ⟨10,[⟨n,[97,98,99,0,0,102,103]⟩],[],false,false,0⟩ n=([97,98,99,0,0,102,103],0):=by
 simp [zaw,zaa,zaf,zaj,za7]
end
def nmA:ByteArray:=⟨#[97]⟩
theorem zgH:zaT nmA=true:=by decide
structure AwS (w wk:World) (b:Nat) (d:RDisk):Prop where
 o:∃ F,DkOk wk b d F∧(∀ x,F x→w.heap.size≤x)∧Below w.heap.size w wk
theorem AwS.below {w wk w':World} {b:Nat} {d:RDisk} (h:AwS w wk b d) (hb:Below wk.heap.size wk w'):AwS w w' b d:=by
 obtain ⟨F,h1,h2,h3⟩:=h.o
 exact ⟨F,h1.kept hb.size fun x hx=>hb.block x (h1.lt hx),h2,h3.trans (hb.mono h3.size)⟩
theorem AwS.call {w wk:World} {b:Nat} {d d':RDisk} {f:FuncId} {vals:Array Value} {r:Value} (h:AwS w wk b d) (con:∀ F,DkOk wk b d F→Calls Try.prog f vals wk (DPost wk b F d' r)):Calls Try.prog f vals wk fun e w'=>e = .returned r∧AwS w w' b d':=by
 obtain ⟨F,h1,h2,h3⟩:=h.o
 refine (con F h1).mono fun e w' ⟨he,F',p1,p2,p3⟩=>⟨he,F',p1,fun x hx=>?_,⟨p3.os.trans h3.os,p3.tape.trans h3.tape,p3.output.trans h3.output,Nat.le_trans h3.size p3.size,fun x hx=>?_⟩⟩
 ·rcases p2 x hx with g | g
  ·exact h2 x g
  ·exact Nat.le_trans h3.size g
 ·exact (p3.block x (Nat.lt_of_lt_of_le hx h3.size) fun g=>by have:=h2 x g;omega).trans (h3.block x hx)
theorem zmF (w:World) (l:List Int) (hB:By l) (hl:l.length≤1000):BRd (w.alloc (.cells (u8s l).toArray TU (l.length,l.length+1))) (fun x=>x=w.heap.size) (.slice (some ⟨w.heap.size,0,none⟩) l.length l.length) l:=by
 have hh:(w.alloc (.cells (u8s l).toArray TU (l.length,l.length+1))).heap[w.heap.size]? = some (.cells (u8s l).toArray TU (l.length,l.length+1)):=by
  show (w.heap.push _)[w.heap.size]? = _
  simp
 refine BRd.of_row rfl (Nat.le_refl _) (by unfold maxLen;omega) (by omega) rfl (by simp) hB fun i hi=>⟨?_,?_⟩
 ·rw [Nat.zero_add]
  simp only [World.cell?,hh,List.getElem?_toArray,zdC hi];rfl
 ·rw [Nat.zero_add]
  simp only [World.frozen?,hh]
  simp
  omega
theorem znY (w:World) (l:List Bool) (hp:0<l.length) (hl:l.length≤1000):BlR (w.alloc (.cells (l.map Value.bool).toArray 4)) (fun x=>x=w.heap.size) (.slice (some ⟨w.heap.size,0,none⟩) l.length l.length) l:=by
 have hh:(w.alloc (.cells (l.map Value.bool).toArray 4)).heap[w.heap.size]? = some (.cells (l.map Value.bool).toArray 4 (0,0)):=by
  show (w.heap.push _)[w.heap.size]? = _
  simp
 refine Rd.row (fun i _=> .bool (l.getD i false)) hp (List.length_map ..).symm (Nat.le_refl _) (by unfold maxLen;omega) (by omega) rfl (by simp) (fun i j hi hj=>?_) (fun i hi=>?_) (fun i j hi hj=>?_) (fun i j hi hj=>?_)
 ·have:j=0:=by simp at hj;omega
  subst this
  simp only [List.length_cons,List.length_nil,Nat.zero_add,Nat.mul_one,Nat.add_zero]
  simp only [World.cell?,hh]
  simp [List.getD,hi]
 ·simp [List.getD,hi]
 ·have:j=0:=by simp at hj;omega
  subst this
  have e1:((l.map fun b=>[D.bool b]).getD i []).getD 0 default = .bool (l.getD i false):=by simp [List.getD,hi]
  rw [e1]
  exact Rd.bool
 ·have:j=0:=by simp at hj;omega
  subst this
  simp only [World.frozen?,hh]
  simp
abbrev dA0:RDisk:=zaR 10
abbrev dA1:RDisk:=⟨10,[],[⟨1,nmA,0,[97,98,99]⟩],false,false,0⟩
abbrev dA2:RDisk:=⟨10,[⟨nmA,[97,98,99]⟩],[],false,false,0⟩
abbrev dA3:RDisk:=⟨10,[⟨nmA,[97,98,99]⟩],[⟨1,nmA,3,[100,101]⟩],false,false,0⟩
abbrev dA4:RDisk:=⟨10,[⟨nmA,[97,98,99]⟩],[⟨1,nmA,3,[100,101]⟩,⟨1,nmA,5,[102,103]⟩],false,false,0⟩
abbrev dA5:RDisk:=⟨10,[⟨nmA,[97,98,99,0,0,102,103]⟩],[],false,false,0⟩
theorem zfa {w wk:World} {b:Nat} {d d':RDisk} {k:Int} {l:List Int} (h:AwS w wk b d) (hN:FewD d) (hB:By l) (hl:l.length≤1000) (hk:I64 k) (he:wrD d nmA k l=(d',0)) :
  Calls Try.prog 22 #[ptrV b,.string nmA,.int .i64 k,.slice (some ⟨wk.heap.size,0,none⟩) l.length l.length] (wk.alloc (.cells (u8s l).toArray TU (l.length,l.length+1))) fun e w'=>e = .returned (.int .i64 0)∧AwS w w' b d':=by
 have h1:AwS w (wk.alloc (.cells (u8s l).toArray TU (l.length,l.length+1))) b d:=h.below ((Below.refl _ _).alloc (Nat.le_refl _) _)
 refine h1.call fun F hd=>?_
 have:=zfc hd hN (zmF wk l hB hl) (by omega) (n:=nmA) (by decide) hk
 rw [he] at this
 exact this
set_option maxHeartbeats 4000000 in
theorem zjK (w:World):Calls Try.prog 13 #[] w fun e w'=>e = .returned (.bool true)∧Below w.heap.size w w':=by
 have hcv:=fun (w:World) (C:Array Value) (n c:Nat)=>Lib.run_convert_bytes_const (P:=Try.prog) w TBy TU C n c (by kernel_rfl) (by kernel_rfl)
 have C0:=Lib.hid (zgX (w:=w) (room:=10) (by decide) (by decide))
 have C1:=Lib.hid (fun w1=>zjz (w:=w1) (room:=0) (.inl (by decide)))
 have C2:=Lib.hid (fun (wk:World) (b:Nat) (h:AwS w wk b dA0)=>(show Calls Try.prog 22 #[.pointer (some ⟨b,0,none⟩),.string ⟨#[97]⟩,.int .i64 0,.slice (some ⟨wk.heap.size,0,none⟩) 3 3] (wk.alloc (.cells #[.int .u8 97,.int .u8 98,.int .u8 99] TU (3,4))) fun e w'=>e = .returned (.int .i64 0)∧AwS w w' b dA1 from zfa h (by decide) (l:=[97,98,99]) (by intro x hx;simp at hx;omega) (by decide) (by decide) (aw1 zgH)))
 have C3:=Lib.hid (fun (wk:World) (b:Nat) (h:AwS w wk b dA1)=>(show Calls Try.prog 12 #[.pointer (some ⟨b,0,none⟩),.string ⟨#[97]⟩] (wk) fun e w'=>e = .returned (.int .i64 0)∧AwS w w' b dA2 from h.call (d':=dA2) (r:= .int .i64 0) fun F hd=>by
  have:=zfG hd (by decide) (n:=nmA) (by decide)
  rw [aw2 zgH] at this
  exact this))
 have C4:=Lib.hid (fun (wk:World) (b:Nat) (h:AwS w wk b dA2)=>(show Calls Try.prog 22 #[.pointer (some ⟨b,0,none⟩),.string ⟨#[97]⟩,.int .i64 3,.slice (some ⟨wk.heap.size,0,none⟩) 2 2] (wk.alloc (.cells #[.int .u8 100,.int .u8 101] TU (2,3))) fun e w'=>e = .returned (.int .i64 0)∧AwS w w' b dA3 from zfa h (by decide) (l:=[100,101]) (by intro x hx;simp at hx;omega) (by decide) (by decide) (aw3 zgH)))
 have C5:=Lib.hid (fun (wk:World) (b:Nat) (h:AwS w wk b dA3)=>(show Calls Try.prog 22 #[.pointer (some ⟨b,0,none⟩),.string ⟨#[97]⟩,.int .i64 5,.slice (some ⟨wk.heap.size,0,none⟩) 2 2] (wk.alloc (.cells #[.int .u8 102,.int .u8 103] TU (2,3))) fun e w'=>e = .returned (.int .i64 0)∧AwS w w' b dA4 from zfa h (by decide) (l:=[102,103]) (by intro x hx;simp at hx;omega) (by decide) (by decide) (aw4 zgH)))
 have C6:=Lib.hid (fun (wk:World) (b:Nat) (h:AwS w wk b dA4)=>(show Calls Try.prog 14 #[.pointer (some ⟨b,0,none⟩),.slice (some ⟨wk.heap.size,0,none⟩) 2 2,.int .i64 (-1)] (wk.alloc (.cells #[.bool false,.bool true] 4)) fun e w'=>e = .returned (.int .i64 0)∧AwS w w' b dA5 from (h.below ((Below.refl _ _).alloc (Nat.le_refl _) (.cells #[.bool false,.bool true] 4))).call (d':=dA5) (r:= .int .i64 0) fun F hd=>by
  have:=zfJ hd (by decide) (znY wk [false,true] (by decide) (by decide)) (torn:= -1) (by decide)
  rw [aw5] at this
  exact this))
 have C7:=Lib.hid (fun (wk:World) (b:Nat) (h:AwS w wk b dA5)=>(show Calls Try.prog 11 #[.pointer (some ⟨b,0,none⟩),.string ⟨#[97]⟩] wk fun e w'=>∃ u,e = .returned (.tuple #[u,.int .i64 0])∧(convert TBy TSt u).run Try.prog w' = .ok (.string ⟨#[97,98,99,0,0,102,103]⟩) w'∧Below w.heap.size w w' from by
  obtain ⟨F,h1,h2,h3⟩:=h.o
  refine (zgE h1 (n:=nmA) (by decide)).mono ?_
  rintro e w' ⟨u,rfl,hb,hr⟩
  rw [aw6] at hr ⊢
  exact ⟨u,rfl,zeV hr,h3.trans (hb.mono h3.size)⟩))
 unfold ptrV at C0
 go_enter Try.func13,Try.ntmps13
 go_wp2_with (first
  | (go_at_call 9;with_reducible refine C0.out.mono ?_;rintro e w1 ⟨b,F,rfl,h1,h2,h3⟩;have S0:=Lib.hid (⟨F,h1,h2,h3⟩:AwS w w1 b dA0);clear h1 h2 h3)
  | (go_at_call 9;with_reducible refine (C1.out _).mono ?_;rintro e w2 ⟨rfl,rfl⟩)
  | (go_at_call 22;with_reducible refine (C2.out _ _ S0.out).mono ?_;rintro e w3 ⟨rfl,h⟩;have S1:=Lib.hid h;clear h)
  | (go_at_call 12;with_reducible refine (C3.out _ _ S1.out).mono ?_;rintro e w4 ⟨rfl,h⟩;have S2:=Lib.hid h;clear h)
  | (go_at_call 22;with_reducible refine (C4.out _ _ S2.out).mono ?_;rintro e w5 ⟨rfl,h⟩;have S3:=Lib.hid h;clear h)
  | (go_at_call 22;with_reducible refine (C5.out _ _ S3.out).mono ?_;rintro e w6 ⟨rfl,h⟩;have S4:=Lib.hid h;clear h)
  | (go_at_call 14;with_reducible refine (C6.out _ _ S4.out).mono ?_;rintro e w7 ⟨rfl,h⟩;have S5:=Lib.hid h;clear h)
  | (go_at_call 11;with_reducible refine (C7.out _ _ S5.out).mono ?_;rintro e w8 ⟨u,rfl,hcu,h⟩;have S6:=Lib.hid h;clear h)
  | fail)
 go_ret
 exact ⟨rfl,S6.out⟩
theorem awake_fn:FnC Try.prog 13 [] (.bool true) D2:=
 FnC.of_below (fnB Try.func13 (by decide) rfl) fun w E vals hd=>by
  match vals,hd with
  | [],hd=>exact (zjK w).mono fun e w' ⟨he,hb⟩=>⟨_,he,hb,fun _ _ _=>rfl⟩
noncomputable def zjx:Ent:=ent0 13 ([],.bool true,D2)
theorem zfF:zar Try.prog zjx:=zmW awake_fn.1 fun _=>awake_fn
end Go.Proofs.Ytfccndnnpkiajaa
namespace Go.Proofs.Ytfccndnnpkiajaa
open Go.RowKit Go.ChangeShapes Go.WideShapes Go.Deep
def zc4 (d:RDisk):Nat:=d.lasts.length+d.changes.length
def Gr (d d':RDisk):Prop:=zc4 d'≤zc4 d+1∧d'.changes.length≤d.changes.length+1
theorem Gr.refl (d:RDisk):Gr d d:=⟨Nat.le_succ _,Nat.le_succ _⟩
theorem Gr.of {d d':RDisk} (h1:d'.lasts.length=d.lasts.length) (h2:d'.changes.length≤d.changes.length+1):Gr d d':=⟨by unfold zc4;omega,h2⟩
theorem zjA (d:RDisk) (c:DChange):Gr d (chgD d c):=Gr.of rfl (by simp [chgD,zbh])
theorem zaN {d:RDisk} {c:Prop} [Decidable c] {x y:RDisk×Int} (hx:Gr d x.1) (hy:Gr d y.1):Gr d (if c then x else y).1:=by
 by_cases h:c
 ·rw [if_pos h];exact hx
 ·rw [if_neg h];exact hy
theorem zdq {α:Type} (p:α→Bool):∀ l:List α,(l.filter p).length+(l.filter fun x=>!p x).length=l.length
 | []=>rfl
 | x::l=>by
  have:=zdq p l
  cases h:p x<;>simp [List.filter_cons,h]<;>omega
theorem sy_gr (d:RDisk) (n:ByteArray):Gr d (syD d n).1:=by
 unfold syD
 refine zaN (Gr.refl d) (zaN (Gr.refl d) ?_)
 have h1:=zba (d.changes.filter (ofF n)) d.lasts
 have h2:=zdq (ofF n) d.changes
 refine ⟨?_,?_⟩
 ·show ((d.changes.filter (ofF n)).foldl zad d.lasts).length+(d.changes.filter fun c=>!ofF n c).length≤d.lasts.length+d.changes.length+1
  omega
 ·show (d.changes.filter fun c=>!ofF n c).length≤_
  omega
theorem cr_gr (d:RDisk) (keep:List Bool) (torn:Int):Gr d (crD d keep torn):=by
 rw [zj7]
 have h1:=zba (crK torn (za8 d.changes keep)) d.lasts
 have h2:=zgk torn (za8 d.changes keep)
 have h3:=zcF d.changes keep
 refine ⟨?_,?_⟩
 ·show ((crK torn (za8 d.changes keep)).foldl zad d.lasts).length+0≤d.lasts.length+d.changes.length+1
  omega
 ·show 0≤_
  omega
theorem sp_gr (d:RDisk) (n:ByteArray) (k y:Int):Gr d (spD d n k y).1:=by
 unfold spD
 refine zaN (Gr.refl d) (zaN (Gr.refl d) ?_)
 have h1:=zbs ⟨n,zaA (zaf d.lasts n) k.toNat y⟩ d.lasts
 refine ⟨?_,?_⟩
 ·show (if 0≤zaj d.lasts n∧k<(zaf d.lasts n).length then zap ⟨n,zaA (zaf d.lasts n) k.toNat y⟩ d.lasts else d.lasts).length+(d.changes.map (spC n k y)).length≤d.lasts.length+d.changes.length+1
  rw [List.length_map]
  split<;>omega
 ·show (d.changes.map (spC n k y)).length≤_
  rw [List.length_map]
  omega
theorem zgm (d:RDisk) (o:DOp):Gr d (za1 d o).1:=by
 unfold za1
 refine zaN ?_ (zaN ?_ (zaN ?_ (zaN (sy_gr ..) (zaN ?_ (zaN (cr_gr ..) (zaN (sp_gr ..) (Gr.refl d)))))))
 ·exact zaN (Gr.refl d) (zaN (Gr.refl d) (zaN (Gr.refl d) (zaN (Gr.refl d) (zjA ..))))
 ·exact zaN (Gr.refl d) (zaN (Gr.refl d) (zaN (Gr.refl d) (zjA ..)))
 ·exact zaN (Gr.refl d) (zaN (Gr.refl d) (zjA ..))
 ·exact zaN (Gr.refl d) (zaN (Gr.refl d) (Gr.of rfl (Nat.le_succ _)))
def runD (d:RDisk) (l:List DOp):RDisk:=l.foldl (fun d o=>(za1 d o).1) d
theorem zij {d:RDisk} {l:List DOp} {j:Nat} (h:j<l.length):runD d (l.take (j+1))=(za1 (runD d (l.take j)) (l.getD j default)).1:=by
 unfold runD
 rw [za5 (d:=default) h,List.foldl_append];rfl
theorem zkh (l:List DOp):∀ d:RDisk,zc4 (runD d l)≤zc4 d+l.length∧(runD d l).changes.length≤d.changes.length+l.length:=by
 induction l with
 | nil=>intro d;exact ⟨Nat.le_refl _,Nat.le_refl _⟩
 | cons o l ih=>
  intro d
  have h1:=zgm d o
  have h2:=ih (za1 d o).1
  refine ⟨?_,?_⟩
  ·show zc4 (runD (za1 d o).1 l)≤_
   rw [List.length_cons]
   have:=h1.1;have:=h2.1
   omega
  ·show (runD (za1 d o).1 l).changes.length≤_
   rw [List.length_cons]
   have:=h1.2;have:=h2.2
   omega
def cntO (o:DOp):Nat:=o.bytes.length+o.keep.length
def zaW:List DOp→Nat
 | []=>0
 | o::l=>cntO o+zaW l
theorem zfL (a b:List DOp):zaW (a++b)=zaW a+zaW b:=by
 induction a with
 | nil=>simp [zaW]
 | cons x a ih=>simp only [List.cons_append,zaW,ih];omega
theorem zdg {l:List DOp} {j:Nat} (h:j<l.length):zaW (l.take (j+1))=zaW (l.take j)+cntO (l.getD j default):=by
 rw [za5 (d:=(default:DOp)) h,zfL];simp [zaW]
theorem zgY (l:List DOp) (j:Nat):zaW (l.take j)≤zaW l:=by
 have h:=zfL (l.take j) (l.drop j)
 rw [List.take_append_drop] at h;omega
def zcr (l:List DOp):Bool:=decide (100000<l.length+zaW l)||decide (200<l.length)
theorem zk8 {l:List DOp} (h:zcr l=false):l.length≤200∧∀ j,j<l.length→(l.getD j default).bytes.length≤1000000∧(l.getD j default).keep.length≤1000000:=by
 unfold zcr at h
 simp only [Bool.or_eq_false_iff,decide_eq_false_iff_not] at h
 refine ⟨by omega,fun j hj=>?_⟩
 have h1:=zdg hj
 have h2:=zgY l (j+1)
 unfold cntO at h1
 omega
end Go.Proofs.Ytfccndnnpkiajaa
namespace Go.Proofs.Ytfccndnnpkiajaa
open Go.RowKit Go.ChangeShapes Go.WideShapes Go.Deep
set_option maxRecDepth 100000
noncomputable def tabDe:List Ent:=[zkM,zlN,zhD,ePut,zgh]
theorem zc2:∀ e∈tabDe,zar Try.prog e:=zah zeS (zah zji (zah zcN (zah zgi (zah zes zas))))
def crP (d:RDisk) (keep:List Bool) (torn:Int) (last:Int) (i:Nat):List File:=if (i:Int)≤last then (za8 (d.changes.take i) keep).foldl zad d.lasts else zcQ torn (za8 d.changes keep) d.lasts
theorem zj4 (d:RDisk) (keep:List Bool) (torn:Int) {n:Nat} (hn:n=min d.changes.length keep.length):crP d keep torn (zau keep n) 0=d.lasts:=by
 unfold crP
 have hb:=zd1 keep n
 by_cases h:((0:Nat):Int)≤zau keep n
 ·rw [if_pos h]
  cases keep<;>rfl
 ·rw [if_neg h,zf2 d.changes keep hn]
  have:=zcg d.changes keep (a:=0) n (by omega) fun i _ hi=>zgL (j:=n) (by omega) i (by omega)
  rw [Nat.zero_add] at this
  rw [this]
  cases keep<;>rfl
theorem znl (d:RDisk) (keep:List Bool) (torn:Int) {last:Int} {i:Nat} (h:¬ (i:Int)≤last):crP d keep torn last i=zcQ torn (za8 d.changes keep) d.lasts:=if_neg h
theorem zla (d:RDisk) (keep:List Bool) (torn:Int) {n i:Nat} (hn:n=min d.changes.length keep.length) (hi:(i:Int)≤zau keep n) (hk:keep.getD i false=false):crP d keep torn (zau keep n) (i+1)=crP d keep torn (zau keep n) i:=by
 obtain ⟨L,hL⟩:∃ L:Nat,zau keep n=L:=⟨(zau keep n).toNat,by omega⟩
 obtain ⟨h1,h2,h3⟩:=zdP hL
 have:i≠L:=fun e=>by subst e;rw [hk] at h1;cases h1
 unfold crP
 rw [if_pos (by omega),if_pos hi,zbl _ _ _ (by omega),hk]
 rfl
theorem znk (d:RDisk) (keep:List Bool) (torn:Int) {n i:Nat} (hn:n=min d.changes.length keep.length) (hi:(i:Int)<zau keep n) (hk:keep.getD i false=true):crP d keep torn (zau keep n) (i+1)=zad (crP d keep torn (zau keep n) i) (d.changes.getD i default):=by
 have hb:=zd1 keep n
 unfold crP
 rw [if_pos (by omega),if_pos (by omega),zbl _ _ _ (by omega),hk,if_pos rfl,List.foldl_append]
 rfl
theorem zlb (d:RDisk) (keep:List Bool) (torn:Int) {n i:Nat} (hn:n=min d.changes.length keep.length) (hi:(i:Int)=zau keep n):crP d keep torn (zau keep n) (i+1)=match zbF (d.changes.getD i default) torn with
  | some c=>zad (crP d keep torn (zau keep n) i) c
  | none=>crP d keep torn (zau keep n) i:=by
 obtain ⟨h1,h2,h3⟩:=zdP hi.symm
 have e:za8 d.changes keep=za8 (d.changes.take i) keep++[d.changes.getD i default]:=by
  rw [zf2 d.changes keep hn]
  have:=zcg d.changes keep (a:=i+1) (n-(i+1)) (by omega) fun k h4 h5=>h3 k (by omega) (by omega)
  rw [show i+1+(n-(i+1))=n by omega] at this
  rw [this,zbl _ _ _ (by omega),h1,if_pos rfl]
 unfold crP
 rw [if_neg (by omega),if_pos (by omega),e,zdY]
 rfl
def cutC (c:DChange) (torn:Int) (T:Bool):DChange:=if T then {c with bytes:=c.bytes.take torn.toNat} else c
def tB (d:RDisk) (keep:List Bool) (torn:Int) (n i:Nat):Bool:=zac (zac (zac ((i:Int)==zau keep n) ((d.changes.getD i default).kind==1) false) (decide (torn≥0)) false) (decide (torn<(d.changes.getD i default).bytes.length)) false
theorem zj5 (d:RDisk) (keep:List Bool) (torn:Int) {n i:Nat} (hn:n=min d.changes.length keep.length) (hi:(i:Int)≤zau keep n) (hk:keep.getD i false=true) :
  crP d keep torn (zau keep n) (i+1)=if zac (zac ((d.changes.getD i default).kind != 1) true (decide (((cutC (d.changes.getD i default) torn (tB d keep torn n i)).bytes.length:Int)>0))) true (((d.changes.getD i default).bytes.length:Int)==0)=true then zad (crP d keep torn (zau keep n) i) (cutC (d.changes.getD i default) torn (tB d keep torn n i)) else crP d keep torn (zau keep n) i:=by
 have hT:tB d keep torn n i=decide ((i:Int)=zau keep n∧(d.changes.getD i default).kind=1∧0≤torn∧torn<(d.changes.getD i default).bytes.length):=by
  unfold tB
  by_cases h1:(i:Int)=zau keep n<;>by_cases h2:(d.changes.getD i default).kind=1<;>by_cases h3:0≤torn<;>by_cases h4:torn<(d.changes.getD i default).bytes.length<;>simp [zac,h1,h2,h3,h4]
 have hor:∀ a b:Bool,zac a true b=(a||b):=fun a b=>by cases a<;>rfl
 generalize hc:d.changes.getD i default=c at hT ⊢
 rw [hor,hor]
 by_cases h:(i:Int)<zau keep n
 ·rw [znk d keep torn hn h hk,hT.trans (decide_eq_false (fun e=>by omega)),hc]
  show zad _ c=if _ then zad _ c else _
  rw [if_pos]
  show ((c.kind != 1||decide ((c.bytes.length:Int)>0))||(c.bytes.length:Int)==0)=true
  by_cases h0:c.bytes.length=0
  ·simp [h0]
  ·have:decide ((c.bytes.length:Int)>0)=true:=decide_eq_true (by omega)
   rw [this];simp
 ·have he:(i:Int)=zau keep n:=by omega
  rw [zlb d keep torn hn he,hc]
  by_cases ht:c.kind=1∧0≤torn∧torn<c.bytes.length
  ·rw [hT.trans (decide_eq_true ⟨he,ht⟩)]
   obtain ⟨t1,t2,t3⟩:=ht
   unfold zbF cutC
   rw [if_pos ⟨t1,t2,t3⟩,if_pos rfl]
   by_cases h0:torn=0
   ·rw [if_pos h0,if_neg]
    subst h0
    simp [t1]
    exact fun e=>by rw [e] at t3;simp at t3
   ·rw [if_neg h0,if_pos]
    show ((c.kind != 1||decide (((c.bytes.take torn.toNat).length:Int)>0))||(c.bytes.length:Int)==0)=true
    have:decide (((c.bytes.take torn.toNat).length:Int)>0)=true:=decide_eq_true (by rw [List.length_take];omega)
    rw [this];simp
  ·rw [hT.trans (decide_eq_false (fun e=>ht e.2))]
   unfold zbF
   rw [if_neg ht]
   show zad _ c=if _ then zad _ c else _
   rw [if_pos]
   show ((c.kind != 1||decide ((c.bytes.length:Int)>0))||(c.bytes.length:Int)==0)=true
   by_cases h0:c.bytes.length=0
   ·simp [h0]
   ·have:decide ((c.bytes.length:Int)>0)=true:=decide_eq_true (by omega)
    rw [this];simp
theorem znj {l:List File} {c:DChange} {torn:Int} {T:Bool} (h:ChOk l c):ChOk l (cutC c torn T):=by
 unfold cutC
 cases T
 ·exact h
 ·obtain ⟨h1,h2,h3,h4,h5⟩:=h
  exact ⟨h1,h2,h3,by show (c.bytes.take _).length≤_;rw [List.length_take];omega,h5⟩
theorem zor {d:RDisk} (hb:BdD d) {keep:List Bool} {torn:Int} {n i:Nat} (hi:(i:Int)≤zau keep n) (hl:i<d.changes.length):ChOk (crP d keep torn (zau keep n) i) (d.changes.getD i default):=by
 unfold crP
 rw [if_pos hi]
 exact hb.sub _ ((zdQ _ _).trans (List.take_sublist _ _)) _ (zaX hl)
theorem zis (d:RDisk) (hb:BdD d) (keep:List Bool) (torn:Int):FnG Try.prog 43 1 (rdMi d) [.ptr 2 0,dBools.can keep,dInt.can torn] (.tup []) (rdMo (crD d keep torn)):=by
 refine FnG.of_vc (zax zc2 fun _=>none) Try.func43 rfl (by decide) rfl 300 (p:=fun (V:List PE→Prop)=>True∧True∧V []) (by kernel_rfl) ?_
 have hcl:=hb.cl
 refine ⟨trivial,trivial,?_⟩
 refine LoopG.head (zax zc2 fun _=>none) 0 (A:=Nat) (fun j=>j≤d.changes.length∧j≤keep.length) (fun j=>[(7,.int .i64 j),(6,.int .i64 (zau keep j))]) (fun j=>[]) (fun j=>d.changes.length-j) 0 ⟨Nat.zero_le _,Nat.zero_le _⟩ (p0:=(0:Int)=(↑(0:Nat):Int)∧(-1:Int)=zau keep (0:Nat)∧keep=keep∧torn=torn∧RDisk.room d=RDisk.room d∧RDisk.lasts d=RDisk.lasts d∧RDisk.down d=RDisk.down d∧RDisk.stops d=RDisk.stops d∧RDisk.left d=RDisk.left d∧RDisk.changes d=RDisk.changes d∧True) (by kernel_rfl) ?_ 300 (p:=fun (z:Nat) (V:List PE→Prop)=>let v0:=(↑z:Int);let v1:=(↑(keep.length):Int);let v2:=(↑(List.length (RDisk.changes d)):Int);let v3:=decide (v0<v2);let v4:=zac v3 (decide (v0<v1)) false;((v3=true→v3=true)∧(v3=true→v3=true)∧(v3=true→v3=true)∧(v3=true→v3=true)∧True)∧True∧(v4=true→((0:Int)≤v0∧v0<v1∧True)∧True∧True∧V [PE.a])∧(v4=false→True∧V [PE.b])) (by intro z;kernel_rfl) ?_
 ·intros
  repeat' apply And.intro
  all_goals first | trivial | rfl
 rintro j ⟨hj,hk⟩
 have b1:(0:Int)≤(j:Int):=Int.natCast_nonneg j
 have e:=zb2 (i:=j) (by omega)
 intros
 refine ⟨⟨id,id,id,id,trivial⟩,trivial,fun h=>?_,fun h=>⟨trivial,?_⟩⟩
 ·obtain ⟨h1,h2⟩:=zda h
  have h1:(j:Int)<(d.changes.length:Int):=of_decide_eq_true h1
  have h2:(j:Int)<(keep.length:Int):=of_decide_eq_true h2
  refine ⟨⟨b1,h2,trivial⟩,trivial,trivial,?_⟩
  refine Back.mk (j+1) ⟨by omega,by omega⟩ (zcs (by omega)) (p0:=IntKind.wrap IntKind.i64 ((↑j:Int)+(1:Int))=(↑(j+(1:Nat)):Int)∧zbc (List.getD keep j default) (↑j:Int) (zau keep j)=zau keep (j+(1:Nat))∧keep=keep∧torn=torn∧RDisk.room d=RDisk.room d∧RDisk.lasts d=RDisk.lasts d∧RDisk.down d=RDisk.down d∧RDisk.stops d=RDisk.stops d∧RDisk.left d=RDisk.left d∧RDisk.changes d=RDisk.changes d∧True) (by kernel_rfl) ?_
  intros
  have el:zbc (keep.getD j false) (j:Int) (zau keep j)=zau keep (j+1):=by
   show _=if keep.getD j false then (j:Int) else zau keep j
   cases keep.getD j false<;>rfl
  repeat' apply And.intro
  all_goals first | trivial | exact e | exact el | rfl
 have hn:j=min d.changes.length keep.length:=by
  by_cases h1:(j:Int)<(d.changes.length:Int)
  ·by_cases h2:(j:Int)<(keep.length:Int)
   ·have h:zac (decide ((j:Int)<(d.changes.length:Int))) (decide ((j:Int)<(keep.length:Int))) false=false:=h
    rw [decide_eq_true h1,decide_eq_true h2] at h;cases h
   ·omega
  ·omega
 have hlt:=zd1 keep j
 have ecs:=zj4 d keep torn hn
 refine LoopG.head (zax zc2 fun _=>none) 1 (A:=Nat) (fun i=>(i:Int)≤zau keep j+1) (fun i=>[(8,.int .i64 i)]) (fun i=>[(901,.dead),(2,.cells 78 [.int .i64 d.room,.sl [0,901] (.rFile (crP d keep torn (zau keep j) i)),.own 3,.bool d.down,.bool d.stops,.int .i64 d.left])]) (fun i=>(zau keep j+1).toNat-i) 0 (by omega) (p0:=let v0:=zau keep j;(0:Int)=(↑(0:Nat):Int)∧v0=v0∧keep=keep∧torn=torn∧RDisk.room d=RDisk.room d∧RDisk.lasts d=crP d keep torn v0 (0:Nat)∧RDisk.down d=RDisk.down d∧RDisk.stops d=RDisk.stops d∧RDisk.left d=RDisk.left d∧RDisk.changes d=RDisk.changes d∧True) (by kernel_rfl) ?_ 300 (p:=fun (z:Nat) (V:List PE→Prop)=>let v0:=zau keep j;let v1:=crD d keep torn;let v2:=List.length (RDisk.changes d);let v3:=(↑z:Int);let v4:=(0:Int);let v5:=List.getD (RDisk.changes d) z default;let v6:=crP d keep torn v0 z;let v7:=!List.getD keep z default;let v8:=DChange.at_ v5;let v9:=DChange.bytes v5;let v10:=DChange.file v5;let v11:=DChange.kind v5;let v12:=v3==v0;let v13:=(↑(v9.length):Int);let v14:=decide (v3≤v0);let v15:=zac v12 (v11==1) false;let v16:=zac v15 (decide (torn≥v4)) false;let v17:=zac v16 (decide (torn<v13)) false;let v18:=zbc v17 v11 v11;let v19:=v18 != 1;let v20:=if v17=true then List.drop (Int.toNat (loOf none)) (List.take (Int.toNat torn) v9) else v9;let v21:=(↑(v20.length):Int);let v22:=zac v19 true (decide (v21>v4));True∧True∧(v14=true→(v4≤v3∧v3<(↑v2:Int)∧z<v2∧True)∧(v4≤v3∧v3<(↑(keep.length):Int)∧True)∧True∧(v7=true→True∧V [PE.a,PE.a])∧(v7=false→((v12=true→v12=true)∧(v12=true→v12=true)∧(v12=true→v12=true)∧(v15=true→v15=true)∧(v15=true→v15=true)∧(v16=true→v16=true)∧(v16=true→v16=true)∧(v16=true→v16=true)∧(v16=true→v16=true)∧(v16=true→v16=true)∧True)∧((v17=true→v4≤loOf none)∧(v17=true→loOf none≤torn)∧(v17=true→torn≤v13)∧True)∧(((!v19)=true→(!v19)=true)∧((!v19)=true→(!v19)=true)∧((!v19)=true→(!v19)=true)∧(v19=false→(!v19)=true)∧((!v22)=true→(!v22)=true)∧((!v22)=true→(!v22)=true)∧((!v22)=true→(!v22)=true)∧((!v22)=true→(!v22)=true)∧((!v22)=true→(!v22)=true)∧((!v22)=true→v4≤v3)∧((!v22)=true→v3<(↑v2:Int))∧((!v22)=true→(!v22)=true)∧((!v22)=true→(!v22)=true)∧((!v22)=true→z<v2)∧((!v22)=true→(!v22)=true)∧((!v22)=true→(!v22)=true)∧(v22=false→(!v22)=true)∧True)∧((zac v22 true (v13==v4)=true→ChOk v6 (DChange.mk v18 (if v17=true then v10 else v10) (zbc v17 v8 v8) v20))∧True)∧True∧V [PE.a,PE.b]))∧(v14=false→True∧True∧True∧RDisk.room d=RDisk.room v1∧v6=RDisk.lasts v1∧false=RDisk.down v1∧false=RDisk.stops v1∧RDisk.left d=RDisk.left v1∧RDisk.changes v1=[]∧True)) (by intro z;kernel_rfl) ?_
 ·intros
  repeat' apply And.intro
  all_goals first | trivial | exact ecs.symm | rfl
 rintro i hi
 have hi:(i:Int)≤zau keep j+1:=hi
 have c1:(0:Int)≤(i:Int):=Int.natCast_nonneg i
 have e1:=zb2 (i:=i) (by omega)
 intros
 refine ⟨trivial,trivial,fun h=>?_,fun h=>?_⟩
 ·have h:(i:Int)≤zau keep j:=of_decide_eq_true h
  have c2:(i:Int)<(d.changes.length:Int):=by omega
  have c3:(i:Int)<(keep.length:Int):=by omega
  have c4:i<d.changes.length:=by omega
  refine ⟨⟨c1,c2,c4,trivial⟩,⟨c1,c3,trivial⟩,trivial,fun hk=>?_,fun hk=>?_⟩
  ·have hk:keep.getD i false=false:=by
    have hk:(!keep.getD i false)=true:=hk
    simpa using hk
   have er:=zla d keep torn hn h hk
   refine ⟨trivial,?_⟩
   refine Back.mk (i+1) (by show ((i+1:Nat):Int)≤zau keep j+1;omega) (by show (zau keep j+1).toNat-(i+1)<(zau keep j+1).toNat-i;omega) (p0:=let v0:=zau keep j;IntKind.wrap IntKind.i64 ((↑i:Int)+(1:Int))=(↑(i+(1:Nat)):Int)∧v0=v0∧keep=keep∧torn=torn∧RDisk.room d=RDisk.room d∧crP d keep torn v0 i=crP d keep torn v0 (i+(1:Nat))∧RDisk.down d=RDisk.down d∧RDisk.stops d=RDisk.stops d∧RDisk.left d=RDisk.left d∧RDisk.changes d=RDisk.changes d∧True) (by kernel_rfl) ?_
   intros
   repeat' apply And.intro
   all_goals first | trivial | exact e1 | exact er.symm | rfl
  ·have hk:keep.getD i false=true:=by
    have hk:(!keep.getD i false)=false:=hk
    simpa using hk
   have er:=zj5 d keep torn hn h hk
   have hok:ChOk (crP d keep torn (zau keep j) i) (cutC (d.changes.getD i default) torn (tB d keep torn j i)):=znj (zor hb h c4)
   have hT:tB d keep torn j i=true→0≤torn∧torn≤(d.changes.getD i default).bytes.length:=fun g=>by
    obtain ⟨g,g4⟩:=zda g
    obtain ⟨g,g3⟩:=zda g
    have g4:=of_decide_eq_true g4
    have g3:=of_decide_eq_true g3
    omega
   have ec:∀ T:Bool,DChange.mk (zbc T (d.changes.getD i default).kind (d.changes.getD i default).kind) (if T=true then (d.changes.getD i default).file else (d.changes.getD i default).file) (zbc T (d.changes.getD i default).at_ (d.changes.getD i default).at_) (if T=true then List.drop (Int.toNat (loOf none)) (List.take (Int.toNat torn) (d.changes.getD i default).bytes) else (d.changes.getD i default).bytes)=cutC (d.changes.getD i default) torn T:=fun T=>by cases T<;>rfl
   refine ⟨⟨id,id,id,id,id,id,id,id,id,id,trivial⟩,⟨fun _=>Int.le_refl 0,fun g=>(hT g).1,fun g=>(hT g).2,trivial⟩,⟨id,id,id,fun g=>by rw [g];rfl,id,id,id,id,id,fun _=>c1,fun _=>c2,id,id,fun _=>c4,id,id,fun g=>by rw [g];rfl,trivial⟩,⟨fun _=>?_,trivial⟩,trivial,?_⟩
   ·refine Eq.mp (congrArg _ (ec _).symm) hok
   refine Back.mk (i+1) (by show ((i+1:Nat):Int)≤zau keep j+1;omega) (by show (zau keep j+1).toNat-(i+1)<(zau keep j+1).toNat-i;omega) (p0:=let v0:=RDisk.changes d;let v1:=RDisk.down d;let v2:=RDisk.room d;let v3:=RDisk.left d;let v4:=RDisk.stops d;let v5:=zau keep j;let v6:=(0:Int);let v7:=crP d keep torn v5 i;let v8:=List.getD v0 i default;let v9:=DChange.kind v8;let v10:=DChange.file v8;let v11:=DChange.at_ v8;let v12:=DChange.bytes v8;let v13:=(↑(v12.length):Int);let v14:=zac (zac (zac ((↑i:Int)==v5) (v9==1) false) (decide (torn≥v6)) false) (decide (torn<v13)) false;let v15:=zbc v14 v9 v9;let v16:=if v14=true then List.drop (Int.toNat (loOf none)) (List.take (Int.toNat torn) v12) else v12;let v17:=(↑(v16.length):Int);let v18:=zac (zac (v15 != 1) true (decide (v17>v6))) true (v13==v6);IntKind.wrap IntKind.i64 ((↑i:Int)+(1:Int))=(↑(i+(1:Nat)):Int)∧v5=v5∧keep=keep∧torn=torn∧zbc v18 v2 v2=v2∧(if v18=true then zad v7 (DChange.mk v15 (if v14=true then v10 else v10) (zbc v14 v11 v11) v16) else v7)=crP d keep torn v5 (i+(1:Nat))∧zac v18 v1 v1=v1∧zac v18 v4 v4=v4∧zbc v18 v3 v3=v3∧v0=v0∧True) (by kernel_rfl) ?_
   have p1:∀ b:Bool,∀ x:Int,zbc b x x=x:=fun b x=>by cases b<;>rfl
   have p2:∀ b c:Bool,zac b c c=c:=fun b c=>by cases b<;>rfl
   rw [← ec (tB d keep torn j i)] at er
   simp only [p1,ite_self] at er
   dsimp only
   simp only [p1,p2,ite_self]
   exact ⟨e1,trivial,trivial,trivial,trivial,er.symm,trivial,trivial,trivial,trivial,trivial⟩
 ·have h:¬ (i:Int)≤zau keep j:=of_decide_eq_false h
  have er:=znl d keep torn h
  refine ⟨trivial,trivial,trivial,rfl,er,rfl,rfl,rfl,rfl,trivial⟩
def spM (d:RDisk) (file:ByteArray) (at_ y:Int) (k:Nat):List DChange:=(d.changes.take k).map (spC file at_ y)++d.changes.drop k
theorem zmq (d:RDisk) (file:ByteArray) (at_ y:Int) (k:Nat):(spM d file at_ y k).length=d.changes.length:=by
 unfold spM
 rw [List.length_append,List.length_map,List.length_take,List.length_drop]
 omega
theorem znK {d:RDisk} {file:ByteArray} {at_ y:Int} {k:Nat} (h:k<d.changes.length):(spM d file at_ y k).getD k default=d.changes.getD k default:=by
 unfold spM
 rw [List.getD_eq_getElem?_getD,List.getElem?_append_right (by rw [List.length_map,List.length_take];omega),List.length_map,List.length_take,show k-min k d.changes.length=0 by omega,List.getElem?_drop,Nat.add_zero,List.getD_eq_getElem?_getD]
theorem zmp {d:RDisk} {file:ByteArray} {at_ y:Int} {k:Nat} (h:k<d.changes.length):(spM d file at_ y k).set k (spC file at_ y (d.changes.getD k default))=spM d file at_ y (k+1):=by
 unfold spM
 rw [List.set_append_right _ _ (by rw [List.length_map,List.length_take];omega),List.length_map,List.length_take,show k-min k d.changes.length=0 by omega,zcO (d:=default) h,List.set_cons_zero,za5 (d:=default) h,List.map_append,List.append_assoc]
 rfl
theorem zkc {d:RDisk} {file:ByteArray} {at_ y:Int} {k:Nat} (h:k<d.changes.length) (hs:spC file at_ y (d.changes.getD k default)=d.changes.getD k default):spM d file at_ y k=spM d file at_ y (k+1):=by
 unfold spM
 rw [zcO (d:=default) h,za5 (d:=default) h,List.map_append,List.append_assoc,List.map_cons,hs]
 rfl
def spLa (d:RDisk) (file:ByteArray) (at_ y:Int):List File:=if 0≤zaj d.lasts file∧at_<(zaf d.lasts file).length then zap ⟨file,zaA (zaf d.lasts file) at_.toNat y⟩ d.lasts else d.lasts
theorem zik (d:RDisk) (hb:BdD d) (hl:d.lasts.length≤3000) (hlb:∀ x∈d.lasts,x.bytes.length≤4194304) (file:ByteArray) (at_ y:Int):FnG Try.prog 44 1 (rdMi d) [.ptr 2 0,dStr.can file,dInt.can at_,dByte.can y] (.int .i64 (spD d file at_ y).2) (rdMo (spD d file at_ y).1):=by
 refine FnG.of_vc (zax zc2 fun _=>none) Try.func44 rfl (by decide) rfl 300 (p:=fun (V:List PE→Prop)=>let v0:=RDisk.lasts d;let v1:=zaj v0 file;let v2:=v0.length;let v3:=(0:Int);let v4:=Prod.snd (zaw d file);let v5:=Prod.fst (spD d file at_ y);let v6:=Prod.snd (spD d file at_ y);let v7:=(↑(List.length (Prod.fst (zaw d file))):Int);let v8:=List.length (File.bytes (List.getD v0 (Int.toNat v1) default));let v9:=decide (at_<v3);let v10:=v4 != v3;let v11:=(↑v8:Int);let v12:=decide (v1≥v3);let v13:=zac v9 true (decide (at_≥v7));True∧(BdD d∧True)∧True∧True∧(v10=true→True∧v4=v6∧RDisk.room d=RDisk.room v5∧v0=RDisk.lasts v5∧RDisk.down d=RDisk.down v5∧RDisk.stops d=RDisk.stops v5∧RDisk.left d=RDisk.left v5∧RDisk.changes d=RDisk.changes v5∧True)∧(v10=false→(((!v9)=true→(!v9)=true)∧((!v9)=true→(!v9)=true)∧((!v9)=true→(!v9)=true)∧(v9=false→(!v9)=true)∧True)∧True∧(v13=true→True∧(123:Int)=v6∧RDisk.room d=RDisk.room v5∧v0=RDisk.lasts v5∧RDisk.down d=RDisk.down v5∧RDisk.stops d=RDisk.stops v5∧RDisk.left d=RDisk.left v5∧RDisk.changes d=RDisk.changes v5∧True)∧(v13=false→True∧((v12=true→v12=true)∧(v12=true→v12=true)∧(v12=true→v12=true)∧(v12=true→v12=true)∧(v12=true→v12=true)∧(v12=true→v3≤v1)∧(v12=true→v1<(↑v2:Int))∧(v12=true→v12=true)∧(v12=true→v12=true)∧(v12=true→v12=true)∧(v12=true→v12=true)∧(v12=true→v12=true)∧(v12=true→v12=true)∧True)∧((zac v12 (decide (at_<v11)) false=true→v3≤v1)∧(zac v12 (decide (at_<v11)) false=true→v1<(↑v2:Int))∧(zac v12 (decide (at_<v11)) false=true→v3≤at_)∧(zac v12 (decide (at_<v11)) false=true→at_<v11)∧(zac v12 (decide (at_<v11)) false=true→v8≤100000000)∧(zac v12 (decide (at_<v11)) false=true→v2≤100000)∧True)∧True∧V [PE.b,PE.b]))) (by kernel_rfl) ?_
 have hcl:=hb.cl
 have hf:=zbj d.lasts file
 have hlen:0≤zaj d.lasts file→(d.lasts.getD (zaj d.lasts file).toNat default).bytes.length≤4194304:=fun h=>hlb _ (zaX (by omega))
 have hby:0≤zaj d.lasts file→zaf d.lasts file=(d.lasts.getD (zaj d.lasts file).toNat default).bytes:=fun h=>zbE (by omega)
 have hr:zaw d file=if zaj (zaa d) file<0 then (([]:List Int),(122:Int)) else (zaf (zaa d) file,0):=rfl
 have hs:spD d file at_ y=if zaj (zaa d) file<0 then ((d,122):RDisk×Int) else if at_<0∨at_≥(zaf (zaa d) file).length then (d,123)
  else ({d with lasts:=spLa d file at_ y,changes:=d.changes.map (spC file at_ y)},0):=rfl
 intros
 refine ⟨trivial,⟨hb,trivial⟩,trivial,trivial,fun h=>?_,fun h=>⟨⟨id,id,id,fun g=>by rw [g];rfl,trivial⟩,trivial,fun h2=>?_,fun h2=>?_⟩⟩
 ·by_cases hn:zaj (zaa d) file<0
  ·rw [if_pos hn] at hr hs
   have e:(zaw d file).2=122:=by rw [hr]
   exact ⟨trivial,zaC (X:=d) (r:=(zaw d file).2) (by rw [hs,e])⟩
  ·rw [if_neg hn] at hr
   have h:((zaw d file).2 != 0)=true:=h
   rw [hr] at h;simp at h
 all_goals
  have hn:¬ zaj (zaa d) file<0:=fun hn=>by
   rw [if_pos hn] at hr
   have h:((zaw d file).2 != 0)=false:=h
   rw [hr] at h;simp at h
  rw [if_neg hn] at hr hs
  have e1:(zaw d file).1=zaf (zaa d) file:=by rw [hr]
 ·have h2:zac (decide (at_<0)) true (decide (at_≥((zaw d file).1.length:Int)))=true:=h2
  rw [e1] at h2
  have h3:at_<0∨at_≥((zaf (zaa d) file).length:Int):=by
   rcases zbU h2 with h2 | h2
   ·exact .inl (of_decide_eq_true h2)
   ·exact .inr (of_decide_eq_true h2)
  rw [if_pos h3] at hs
  exact ⟨trivial,zaC (X:=d) (r:=123) hs⟩
 ·have h2:zac (decide (at_<0)) true (decide (at_≥((zaw d file).1.length:Int)))=false:=h2
  rw [e1] at h2
  obtain ⟨h3,h4⟩:=zbz h2
  have h3:¬ at_<0:=of_decide_eq_false h3
  have h4:¬ at_≥((zaf (zaa d) file).length:Int):=of_decide_eq_false h4
  rw [if_neg (by omega)] at hs
  rw [hs]
  clear hs hr h h2
  refine ⟨trivial,⟨id,id,id,id,id,fun g=>of_decide_eq_true g,fun _=>hf.2,id,id,id,id,id,id,trivial⟩,⟨fun g=>of_decide_eq_true (zda g).1,fun _=>hf.2,fun _=>by show 0≤at_;omega,fun g=>of_decide_eq_true (zda g).2,fun g=>?_,fun _=>by show d.lasts.length≤100000;omega,trivial⟩,trivial,?_⟩
  ·have g1:zaj d.lasts file≥0:=of_decide_eq_true (zda g).1
   have:=hlen g1
   show (d.lasts.getD (zaj d.lasts file).toNat default).bytes.length≤100000000
   omega
  refine LoopG.head (zax zc2 fun _=>none) 0 (A:=Nat) (fun k=>k≤d.changes.length) (fun k=>[(12,.int .i64 k)]) (fun k=>[(901,.dead),(2,.cells 78 [.int .i64 d.room,.sl [0,901] (.rFile (spLa d file at_ y)),.own 3,.bool d.down,.bool d.stops,.int .i64 d.left]),(3,.row 92 [0,901] (.rDChange (spM d file at_ y k)))]) (fun k=>d.changes.length-k) 0 (Nat.zero_le _) (p0:=let v0:=RDisk.left d;let v1:=RDisk.down d;let v2:=RDisk.stops d;let v3:=RDisk.room d;let v4:=RDisk.lasts d;let v5:=zaj v4 file;let v6:=(0:Int);let v7:=File.bytes (List.getD v4 (Int.toNat v5) default);let v8:=(↑(v7.length):Int);let v9:=zac (decide (v5≥v6)) (decide (at_<v8)) false;v6=(↑(0:Nat):Int)∧v6=v6∧file=file∧at_=at_∧y=y∧zbc v9 v3 v3=v3∧(if v9=true then zap (File.mk file (zaA v7 (Int.toNat at_) y)) v4 else v4)=spLa d file at_ y∧zac v9 v1 v1=v1∧zac v9 v2 v2=v2∧zbc v9 v0 v0=v0∧RDisk.changes d=spM d file at_ y (0:Nat)∧True) (by kernel_rfl) ?_ 300 (p:=fun (z:Nat) (V:List PE→Prop)=>let v0:=(↑z:Int);let v1:=spLa d file at_ y;let v2:=(0:Int);let v3:=spM d file at_ y z;let v4:=v3.length;let v5:=(↑v4:Int);let v6:=List.getD v3 z default;let v7:=DChange.at_ v6;let v8:=List.length (DChange.bytes v6);let v9:=(↑v8:Int);let v10:=IntKind.wrap IntKind.i64 (at_-v7);let v11:=DChange.kind v6==1;let v12:=decide (v0<v5);let v13:=zac v11 (ByteArray.toList (DChange.file v6)==ByteArray.toList file) false;let v14:=zac v13 (decide (at_≥v7)) false;True∧True∧(v12=true→(v2≤v0∧v0<v5∧z<v4∧True)∧((v11=true→v11=true)∧(v11=true→v11=true)∧(v11=true→v11=true)∧(v11=true→v11=true)∧(v13=true→v13=true)∧(v13=true→v13=true)∧(v13=true→v13=true)∧(v13=true→v13=true)∧(v14=true→v14=true)∧(v14=true→v14=true)∧(v14=true→v14=true)∧(v14=true→v14=true)∧(v14=true→v14=true)∧(v14=true→v14=true)∧(v14=true→v14=true)∧(v14=true→v14=true)∧True)∧((zac v14 (decide (v10<v9)) false=true→v2≤v10)∧(zac v14 (decide (v10<v9)) false=true→v10<v9)∧(zac v14 (decide (v10<v9)) false=true→v8≤100000000)∧(zac v14 (decide (v10<v9)) false=true→v2≤v0)∧(zac v14 (decide (v10<v9)) false=true→v0<v5)∧(zac v14 (decide (v10<v9)) false=true→z<v4)∧True)∧True∧V [PE.a])∧(v12=false→True∧v2=v2∧RDisk.room d=RDisk.room d∧v1=v1∧RDisk.down d=RDisk.down d∧RDisk.stops d=RDisk.stops d∧RDisk.left d=RDisk.left d∧v3=List.map (spC file at_ y) (RDisk.changes d)∧True)) (by intro z;kernel_rfl) ?_
  ·have p1:∀ b:Bool,∀ x:Int,zbc b x x=x:=fun b x=>by cases b<;>rfl
   have p2:∀ b c:Bool,zac b c c=c:=fun b c=>by cases b<;>rfl
   have es:(if zac (decide (zaj d.lasts file≥0)) (decide (at_<((d.lasts.getD (zaj d.lasts file).toNat default).bytes.length:Int))) false=true then zap ⟨file,zaA (d.lasts.getD (zaj d.lasts file).toNat default).bytes at_.toNat y⟩ d.lasts else d.lasts)=spLa d file at_ y:=by
    unfold spLa
    by_cases g:0≤zaj d.lasts file
    ·rw [hby g,decide_eq_true (show zaj d.lasts file≥0 from g)]
     by_cases g2:at_<((d.lasts.getD (zaj d.lasts file).toNat default).bytes.length:Int)
     ·rw [decide_eq_true g2,if_pos (show zac true true false=true from rfl),if_pos ⟨g,g2⟩]
     ·rw [decide_eq_false g2,if_neg (show ¬ zac true false false=true from by decide),if_neg (fun h=>g2 h.2)]
    ·rw [decide_eq_false (show ¬ zaj d.lasts file≥0 from g),if_neg (show ¬ zac false _ false=true from by show ¬ false=true;decide),if_neg (fun h=>g h.1)]
   intros
   exact ⟨rfl,rfl,rfl,rfl,rfl,p1 _ _,es,p2 _ _,p2 _ _,p1 _ _,rfl,trivial⟩
  rintro k hk
  have hk:k≤d.changes.length:=hk
  have hml:=zmq d file at_ y k
  have c1:(0:Int)≤(k:Int):=Int.natCast_nonneg k
  have ew:=zb2 (i:=k) (by omega)
  have hfb:(zaf (zaa d) file).length≤4194304:=zbb hb.fb
  dsimp only
  refine ⟨trivial,trivial,fun h=>?_,fun h=>?_⟩
  ·have h:(k:Int)<((spM d file at_ y k).length:Int):=of_decide_eq_true h
   have hk2:k<d.changes.length:=by omega
   have hat:=znK (file:=file) (at_:=at_) (y:=y) hk2
   have hset:=zmp (file:=file) (at_:=at_) (y:=y) hk2
   have hskip:=zkc (file:=file) (at_:=at_) (y:=y) hk2
   have hmem:d.changes.getD k default∈d.changes:=zaX hk2
   obtain ⟨_,g1,g2,g3,_⟩:=hb.sub [] (List.nil_sublist _) _ hmem
   generalize hc:d.changes.getD k default=c at hat hset hskip hmem g1 g2 g3
   have hw:IntKind.i64.wrap (at_-c.at_)=at_-c.at_:=zjR ⟨by omega,by omega⟩
   have hP:zac (zac (zac (c.kind==1) (c.file.toList==file.toList) false) (decide (at_≥c.at_)) false) (decide (IntKind.i64.wrap (at_-c.at_)<(c.bytes.length:Int))) false=decide (c.kind=1∧eqN c.file file=true∧at_≥c.at_∧at_-c.at_<c.bytes.length):=by
    rw [hw]
    have:(c.file.toList==file.toList)=eqN c.file file:=rfl
    rw [this]
    by_cases h1:c.kind=1<;>by_cases h2:eqN c.file file=true<;>by_cases h3:at_≥c.at_<;>by_cases h4:at_-c.at_<(c.bytes.length:Int)<;>simp [zac,h1,h2,h3,h4]
   simp only [hat]
   have hp2:∀ {p:Prop},(c.kind=1∧eqN c.file file=true∧at_≥c.at_∧at_-c.at_<c.bytes.length→p)→(zac (zac (zac (c.kind==1) (c.file.toList==file.toList) false) (decide (at_≥c.at_)) false) (decide (IntKind.i64.wrap (at_-c.at_)<(c.bytes.length:Int))) false=true→p):=fun hp g=>hp (of_decide_eq_true (hP.symm.trans g))
   refine ⟨⟨c1,h,(by show k<(spM d file at_ y k).length;omega),trivial⟩,⟨id,id,id,id,id,id,id,id,id,id,id,id,id,id,id,id,trivial⟩,⟨hp2 fun g=>(by rw [hw];omega),hp2 fun g=>(by rw [hw];omega),fun _=>(by omega),fun _=>c1,fun _=>h,fun _=>(by show k<(spM d file at_ y k).length;omega),trivial⟩,trivial,?_⟩
   refine Back.mk (k+1) hk2 (zcs hk2) (p0:=let v0:=spLa d file at_ y;let v1:=spM d file at_ y k;let v2:=List.getD v1 k default;let v3:=DChange.bytes v2;let v4:=DChange.kind v2;let v5:=DChange.at_ v2;let v6:=DChange.file v2;let v7:=(↑(v3.length):Int);let v8:=IntKind.wrap IntKind.i64 (at_-v5);let v9:=zac (zac (zac (v4==1) (ByteArray.toList v6==ByteArray.toList file) false) (decide (at_≥v5)) false) (decide (v8<v7)) false;IntKind.wrap IntKind.i64 ((↑k:Int)+(1:Int))=(↑(k+(1:Nat)):Int)∧(0:Int)=0∧file=file∧at_=at_∧y=y∧RDisk.room d=RDisk.room d∧v0=v0∧RDisk.down d=RDisk.down d∧RDisk.stops d=RDisk.stops d∧RDisk.left d=RDisk.left d∧(if v9=true then List.set v1 k (DChange.mk v4 v6 v5 (zaA v3 (Int.toNat v8) y)) else v1)=spM d file at_ y (k+(1:Nat))∧True) (by kernel_rfl) ?_
   have es:(if zac (zac (zac (c.kind==1) (c.file.toList==file.toList) false) (decide (at_≥c.at_)) false) (decide (IntKind.i64.wrap (at_-c.at_)<(c.bytes.length:Int))) false=true then (spM d file at_ y k).set k ⟨c.kind,c.file,c.at_,zaA c.bytes (IntKind.i64.wrap (at_-c.at_)).toNat y⟩ else spM d file at_ y k)=spM d file at_ y (k+1):=by
    rw [hP]
    by_cases g:c.kind=1∧eqN c.file file=true∧at_≥c.at_∧at_-c.at_<c.bytes.length
    ·rw [decide_eq_true g,if_pos rfl,← hset,hw]
     unfold spC
     rw [if_pos g]
    ·rw [decide_eq_false g,if_neg (by decide)]
     exact hskip (by unfold spC;rw [if_neg g])
   dsimp only
   simp only [hat]
   exact ⟨ew,trivial,trivial,trivial,trivial,trivial,trivial,trivial,trivial,trivial,es,trivial⟩
  ·have hk':k=d.changes.length:=by
    have:¬ (k:Int)<((spM d file at_ y k).length:Int):=of_decide_eq_false h
    omega
   subst hk'
   refine ⟨trivial,rfl,rfl,rfl,rfl,rfl,rfl,?_,trivial⟩
   show spM d file at_ y d.changes.length=d.changes.map (spC file at_ y)
   unfold spM
   rw [List.take_length,List.drop_length,List.append_nil]
noncomputable def eCrD:Ent:=zmT 43 1 mRD dBools dInt vrD [0,0,0] [0,0] fun d l k=>([BdD d],.tup [],rdMo (crD d l k))
theorem znb:zar Try.prog eCrD:=zgT (fnB Try.func43 (by decide) rfl) fun d l k h=>zis d (h (BdD d) (by simp)) l k
abbrev LaOk (d:RDisk):Prop:=d.lasts.length≤3000∧∀ x∈d.lasts,x.bytes.length≤4194304
noncomputable def eSpD:Ent:=zmS 44 1 mRD dStr dInt dByte vrD [0,0,0,0] [0,0] fun d n k y=>([BdD d,LaOk d],.int .i64 (spD d n k y).2,rdMo (spD d n k y).1)
theorem zmZ:zar Try.prog eSpD:=zgS (fnB Try.func44 (by decide) rfl) fun d n k y h=>zik d (h (BdD d) (by simp)) (h (LaOk d) (by simp)).1 (h (LaOk d) (by simp)).2 n k y
end Go.Proofs.Ytfccndnnpkiajaa
namespace Go.Proofs.Ytfccndnnpkiajaa
open Go.RowKit Go.ChangeShapes Go.WideShapes Go.Deep
theorem DkI.new {room:Int} (h0:1≤room) (h1:room≤4194304):DkI (zaR room):=
 ⟨List.Pairwise.nil,(fun x h=>by cases h),(fun x h=>by cases h),(fun x h=>by cases h),trivial,⟨h0,h1⟩,by show I64 0;decide⟩
theorem DkI.step {d:RDisk} (h:DkI d):DkI (zbh d):=by
 refine ⟨h.sl,h.fb,h.ch,h.nm,h.np,h.rm,?_⟩
 show I64 (if d.stops then IntKind.i64.wrap (d.left-1) else d.left)
 split
 ·exact wrap_i64 _
 ·exact h.i64
theorem DkI.chg {d:RDisk} (h:DkI d) {c:DChange} (h1:0≤c.at_∧c.at_+c.bytes.length≤4194304∧NmOk c.file) (h2:c.kind=1→c.at_≤((zae (zaa d) c.file).getD []).length):DkI (chgD d c):=
 (h.more h1 h2).step
theorem zmd {d:RDisk} (h:DkI d) {n:ByteArray} {k:Int} {b:List Int} (h0:0≤k) (hs:sumF (zad (zaa d) ⟨1,n,k,b⟩)≤d.room):k+b.length≤4194304:=by
 have h1:=zl4 (h.sn.done ⟨1,n,k,b⟩) (n:=n)
 have e:zae (zad (zaa d) ⟨1,n,k,b⟩) n=some (zaB ((zae (zaa d) n).getD []) k.toNat b):=by
  rw [zbA,if_pos (za7 n)]
  rfl
 rw [e] at h1
 have h2:=zaK ((zae (zaa d) n).getD []) k.toNat b
 have h3:((some (zaB ((zae (zaa d) n).getD []) k.toNat b)).getD []).length=(zaB ((zae (zaa d) n).getD []) k.toNat b).length:=rfl
 have:=h.rm.2
 omega
theorem za3 {c:Prop} [Decidable c] {x y:RDisk×Int} (hx:c→DkI x.1) (hy:¬ c→DkI y.1):DkI (if c then x else y).1:=by
 by_cases h:c
 ·rw [if_pos h];exact hx h
 ·rw [if_neg h];exact hy h
theorem DkI.write {d:RDisk} (h:DkI d) {n:ByteArray} (hn:NmOk n) (k:Int) (b:List Int):DkI (wrD d n k b).1:=by
 unfold wrD
 refine za3 (fun _=>h) fun _=>za3 (fun _=>h) fun _=>za3 (fun _=>h) fun h3=>za3 (fun _=>h) fun h4=>?_
 have h5:0≤k:=by omega
 refine h.chg ⟨h5,?_,hn⟩ fun _=>?_
 ·exact zmd (n:=n) (k:=k) (b:=b) h h5 (by omega)
 ·show k≤(((zae (zaa d) n).getD []).length:Int)
  rw [← za0]
  omega
theorem DkI.cut {d:RDisk} (h:DkI d) {n:ByteArray} (hn:NmOk n) (k:Int):DkI (cutD d n k).1:=by
 unfold cutD
 refine za3 (fun _=>h) fun _=>za3 (fun _=>h) fun _=>za3 (fun _=>h) fun h3=>?_
 have h4:=zbb h.now (n:=n)
 refine h.chg ⟨by show 0≤k;omega,?_,hn⟩ fun e=>(by have e:(2:Int)=1:=e;omega)
 show k+((0:Nat):Int)≤_
 omega
theorem DkI.rmv {d:RDisk} (h:DkI d) {n:ByteArray} (hn:NmOk n):DkI (rmD d n).1:=by
 unfold rmD
 refine za3 (fun _=>h) fun _=>za3 (fun _=>h) fun _=>?_
 exact h.chg ⟨Int.le_refl 0,by show (0:Int)+((0:Nat):Int)≤_;omega,hn⟩ fun e=>(by have e:(3:Int)=1:=e;omega)
theorem DkI.syn {d:RDisk} (h:DkI d) (n:ByteArray):DkI (syD d n).1:=by
 rw [zl3]
 exact za3 (fun _=>h) fun _=>za3 (fun _=>h) fun _=>(h.sync n).step
theorem DkI.stp {d:RDisk} (h:DkI d) (k:Int):DkI (zby d k).1:=by
 unfold zby
 refine za3 (fun _=>h) fun _=>za3 (fun _=>h) fun h2=>?_
 exact ⟨h.sl,h.fb,h.ch,h.nm,h.np,h.rm,⟨by show _≤k;omega,by show k≤_;omega⟩⟩
theorem DkI.spo {d:RDisk} (h:DkI d) {n:ByteArray} (hn:NmOk n) (k y:Int):DkI (spD d n k y).1:=by
 rw [zl5]
 exact za3 (fun _=>h) fun _=>za3 (fun _=>h) fun _=>h.spoil hn _ _
theorem DkI.call {d:RDisk} (h:DkI d) {o:DOp} (hn:NmOk o.file):DkI (za1 d o).1:=by
 unfold za1
 exact za3 (fun _=>h.write hn _ _) fun _=>za3 (fun _=>h.cut hn _) fun _=>za3 (fun _=>h.rmv hn) fun _=>za3 (fun _=>h.syn _) fun _=>za3 (fun _=>h.stp _) fun _=>za3 (fun _=>h.crash _ _) fun _=>za3 (fun _=>h.spo hn _ _) fun _=>h
theorem DkI.run {l:List DOp}:∀ {d:RDisk},DkI d→(∀ o∈l,NmOk o.file)→DkI (runD d l):=by
 induction l with
 | nil=>intro d h _;exact h
 | cons o l ih=>intro d h hn;exact ih (h.call (hn o (List.mem_cons_self ..))) fun x hx=>hn x (List.mem_cons_of_mem _ hx)
theorem zmt {l:List DOp} {j:Nat} {room:Int} (h0:1≤room) (h1:room≤4194304) (hn:∀ o∈l,NmOk o.file):DkI (runD (zaR room) (l.take j)):=
 (DkI.new h0 h1).run fun o ho=>hn o (List.mem_of_mem_take ho)
theorem DkI.bd {d:RDisk} (h:DkI d) (hs:zc4 d≤900):BdD d:=by
 have hs2:d.lasts.length+d.changes.length≤900:=hs
 refine ⟨fun ks hk c hc=>?_,by omega,?_,h.now,fun c hc=>?_⟩
 ·obtain ⟨g1,g2,g3⟩:=h.ch c hc
  have l1:=zba ks d.lasts
  have l2:=hk.length_le
  have l3:=zbb (zaQ (M:=4194304) ks d.lasts h.fb fun c hc=>⟨(h.ch c (hk.subset hc)).1,(h.ch c (hk.subset hc)).2.1⟩) (n:=c.file)
  exact ⟨by omega,g1,by omega,by omega,by omega⟩
 ·have:=zbn d
  omega
 ·obtain ⟨g1,g2,g3⟩:=h.ch c hc
  omega
theorem DkI.la {d:RDisk} (h:DkI d) (hs:zc4 d≤900):LaOk d:=by
 have hs2:d.lasts.length+d.changes.length≤900:=hs
 exact ⟨by omega,h.fb⟩
theorem DkI.rd {d:RDisk} (h:DkI d) (n:ByteArray):(zaw d n).1.length≤4194304:=by
 unfold zaw
 by_cases c:zaj (zaa d) n<0
 ·rw [if_pos c];exact Nat.zero_le _
 ·rw [if_neg c];exact zbb h.now
end Go.Proofs.Ytfccndnnpkiajaa
namespace Go.Proofs.Ytfccndnnpkiajaa
open Go.RowKit Go.ChangeShapes Go.WideShapes Go.Deep
set_option maxRecDepth 100000
theorem zkK {α:Type} {d:α} {a b:List α} (hl:a.length=b.length) (h:∀ i,i<a.length→a.getD i d=b.getD i d):a=b:=by
 apply List.ext_getElem hl
 intro i h1 h2
 have:=h i h1
 rwa [zeO h1,zeO h2] at this
theorem znJ (x y:ByteArray):(x.toList != y.toList)=!decide (x=y):=by
 have e:(x.toList==y.toList)=decide (x=y):=by
  have h:= @eqN_iff x y
  have h2:eqN x y=(x.toList==y.toList):=rfl
  rw [Bool.eq_iff_iff,decide_eq_true_eq,← h2]
  exact h
 rw [bne,e]
theorem zgy (a b:List ByteArray):FnC Try.prog 17 [dStrs.can a,dStrs.can b] (.bool (decide (a=b))) D2:=by
 refine FnC.g2 dStrs dStrs a b (fnB Try.func17 (by decide) rfl) fun ha hb=>?_
 refine FnG.of_vc (zax zas fun _=>none) Try.func17 rfl (by decide) rfl 300 (p:=fun (V:List PE→Prop)=>let v0:=(↑(a.length):Int) != (↑(b.length):Int);True∧True∧True∧(v0=true→True∧false=decide (a=b)∧True)∧(v0=false→True∧V [PE.b])) (by kernel_rfl) ?_
 simp only [true_and,and_true,imp_self]
 refine ⟨fun h=>?_,fun h=>?_⟩
 ·have:a≠b:=fun e=>by subst e;simp at h
  simp [this]
 have hab:a.length=b.length:=by simp at h;omega
 refine LoopG.head (zax zas fun _=>none) 0 (A:=Nat) (fun j=>j≤a.length∧∀ i,i<j→a.getD i default=b.getD i default) (fun j=>[(5,.int .i64 j)]) (fun j=>[]) (fun j=>a.length-j) 0 ⟨Nat.zero_le _,fun i h=>absurd h (by omega)⟩ (p0:=(0:Int)=(↑(0:Nat):Int)∧a=a∧b=b∧True) (by kernel_rfl) ?_ 300 (p:=fun (x:Nat) (V:List PE→Prop)=>let v0:=(↑x:Int);let v1:=(↑(a.length):Int);let v2:=!ByteArray.toList (List.getD a x default)==ByteArray.toList (List.getD b x default);let v3:=decide (v0<v1);True∧True∧(v3=true→((0:Int)≤v0∧v0<v1∧(0:Int)≤v0∧v0<(↑(b.length):Int)∧True)∧True∧(v2=true→True∧false=decide (a=b)∧True)∧(v2=false→True∧V [PE.a,PE.b]))∧(v3=false→True∧true=decide (a=b)∧True)) (by intro x;kernel_rfl) ?_
 ·simp
 ·rintro j ⟨hj,h0⟩
  have hkl:=ha.1
  simp only [znJ,imp_self,implies_true,true_and,and_true,decide_eq_true_eq,decide_eq_false_iff_not]
  refine ⟨fun h6=>⟨by omega,fun h7=>?_,fun h7=>?_⟩,fun h6=>?_⟩
  ·have:a≠b:=fun e=>by subst e;simp at h7
   simp [this]
  ·refine Back.mk (j+1) ⟨by omega,fun i hi=>?_⟩ (by omega) (p0:=IntKind.wrap IntKind.i64 ((↑j:Int)+(1:Int))=(↑(j+(1:Nat)):Int)∧a=a∧b=b∧True) (by kernel_rfl) ?_
   ·by_cases hij:i=j
    ·subst hij;exact eqN_iff.1 (by unfold eqN;simpa using h7)
    ·exact h0 i (by omega)
   ·simp [zb2 (i:=j) (by omega)]
  ·have:a=b:=zkK hab fun i hi=>h0 i (by omega)
   simp [this]
noncomputable def zlJ:Ent:=ent2 17 dStrs dStrs fun a b=>([],.bool (decide (a=b)),D2)
theorem zjd:zar Try.prog zlJ:=zbJ (zgy [] []).1 fun a b _=>zgy a b
theorem zgM (l:List DOp):FnC Try.prog 8 [dDOps.can l] (.bool (zcr l)) D2:=by
 refine FnC.g1 dDOps l (fnB Try.func8 (by decide) rfl) fun hl=>?_
 refine FnG.of_vc (zax zas fun _=>none) Try.func8 rfl (by decide) rfl 300 (p:=fun (V:List PE→Prop)=>True∧True∧True∧V []) (by kernel_rfl) ?_
 have hll:=hl.1
 have hc:∀ o:DOp,o∈l→cntO o≤300000000000000:=fun o ho=>by
  have:=hl.2 o ho
  have q1:=this.bytes.1;have q2:=this.keep
  unfold cntO;omega
 have wadd:∀ {x:Int} {k:Nat} (b:Nat),x=(k:Int)→k+b≤10000000000000000→IntKind.i64.wrap (x+(b:Int))=((k+b:Nat):Int):=by
  intro x k b hx h
  subst hx
  rw [zjR ⟨by omega,by omega⟩];omega
 refine ⟨trivial,trivial,trivial,?_⟩
 refine LoopG.head (zax zas fun _=>none) 0 (A:=Nat) (fun j=>j≤l.length∧(0<j→l.length+zaW (l.take (j-1))≤100000)) (fun j=>[(4,.int .i64 j),(3,.int .i64 ((l.length+zaW (l.take j):Nat):Int))]) (fun _=>[]) (fun j=>l.length-j) 0 ⟨Nat.zero_le _,fun h=>absurd h (by omega)⟩ (p0:=(0:Int)=(↑(0:Nat):Int)∧(↑(l.length):Int)=(↑(l.length+zaW (List.take (0:Nat) l)):Int)∧false=false∧l=l∧True) (by kernel_rfl) ?_ 300 (p:=fun (x:Nat) (V:List PE→Prop)=>let v0:=(↑x:Int);let v1:=(100000:Int);let v2:=(↑(l.length):Int);let v3:=(↑(l.length+zaW (List.take x l)):Int);let v4:=decide (v0<v2);let v5:=decide (v3>v1);let v6:=zac v4 (decide (v3≤v1)) false;((v4=true→v4=true)∧(v4=true→v4=true)∧True)∧True∧(v6=true→((0:Int)≤v0∧v0<v2∧(0:Int)≤v0∧v0<v2∧True)∧True∧V [PE.a])∧(v6=false→(((!v5)=true→(!v5)=true)∧((!v5)=true→(!v5)=true)∧(v5=false→(!v5)=true)∧True)∧zac v5 true (decide (v2>200))=zcr l∧True)) (by intro x;kernel_rfl) ?_
 ·intros
  repeat' apply And.intro
  all_goals first | trivial | rfl
 rintro j ⟨hj,h0⟩
 have hb0:l.length+zaW (l.take j)≤1000000000000000:=by
  by_cases hp:0<j
  ·have h:=zdg (l:=l) (j:=j-1) (by omega)
   rw [show j-1+1=j by omega] at h
   have:=hc _ (zaX (d:=default) (show j-1<l.length by omega))
   have:=h0 hp
   omega
  ·obtain rfl:j=0:=by omega
   simp only [List.take_zero,zaW];omega
 have ep:zac (decide ((j:Int)<(l.length:Int))) (decide (((l.length+zaW (l.take j):Nat):Int)≤100000)) false=decide (j<l.length∧l.length+zaW (l.take j)≤100000):=by
  by_cases g1:j<l.length<;>by_cases g2:l.length+zaW (l.take j)≤100000<;>simp [zac,g1,g2]<;>omega
 simp only [imp_self,implies_true,true_and,and_true,ep,decide_eq_true_eq,decide_eq_false_iff_not]
 refine ⟨fun h6=>⟨⟨by omega,by omega,by omega,by omega⟩,?_⟩,fun h6=>⟨fun h=>by simp;omega,?_⟩⟩
 ·have hcl:=hc _ (zaX (d:=default) h6.1)
  refine Back.mk (j+1) ⟨by omega,fun _=>by rw [Nat.add_sub_cancel];exact h6.2⟩ (by omega) (p0:=let v0:=List.getD l j default;IntKind.wrap IntKind.i64 ((↑j:Int)+(1:Int))=(↑(j+(1:Nat)):Int)∧IntKind.wrap IntKind.i64 (IntKind.wrap IntKind.i64 ((↑(l.length+zaW (List.take j l)):Int)+(↑(List.length (DOp.bytes v0)):Int))+(↑(List.length (DOp.keep v0)):Int))=(↑(l.length+zaW (List.take (j+(1:Nat)) l)):Int)∧false=false∧l=l∧True) (by kernel_rfl) ?_
  have e1:=zb2 (i:=j) (by omega)
  have e2:=wadd (x:=((l.length+zaW (l.take j):Nat):Int)) (l.getD j default).bytes.length rfl (by unfold cntO at hcl;omega)
  have e3:=wadd (x:=((l.length+zaW (l.take j)+(l.getD j default).bytes.length:Nat):Int)) (l.getD j default).keep.length rfl (by unfold cntO at hcl;omega)
  have e4:=zdg h6.1
  dsimp only
  refine ⟨e1,?_,?_⟩
  ·rw [e2,e3,e4]
   unfold cntO
   omega
  ·repeat' apply And.intro
   all_goals first | trivial | rfl
 ·have z1:=zgY l j
  have z3:¬ j<l.length→zaW (l.take j)=zaW l:=fun h=>by rw [List.take_of_length_le (by omega)]
  have hor:∀ a b:Bool,zac a true b=(a||b):=fun a b=>by cases a<;>rfl
  rw [hor,zcr,Bool.eq_iff_iff]
  simp only [Bool.or_eq_true,decide_eq_true_eq]
  omega
noncomputable def zjp:Ent:=ent1 8 dDOps fun l=>([],.bool (zcr l),D2)
theorem zfE:zar Try.prog zjp:=zbt (zgM []).1 fun l _=>zgM l
def rdM0 (d:RDisk):List BE:=[.dead,.dead,.cells 78 [.int .i64 d.room,.nil,.nil,.bool d.down,.bool d.stops,.int .i64 d.left]]
theorem zmz (room:Int) (h0:1≤room) (h1:room≤4194304):FnC Try.prog 18 [dInt.can room] (.tup [.ptr 2 0,.int .i64 0]) (rdM0 (zaR room)):=by
 refine FnG.of_vc (zax zas fun _=>none) Try.func18 rfl (by decide) rfl 300 (p:=fun (V:List PE→Prop)=>let v0:=zaR room;let v1:=decide (room<1);let v2:=zac v1 true (decide (room>4194304));True∧(((!v1)=true→(!v1)=true)∧(v1=false→(!v1)=true)∧True)∧True∧(v2=true→True∧False)∧(v2=false→True∧(0:Int)=0∧room=RDisk.room v0∧false=RDisk.down v0∧false=RDisk.stops v0∧(0:Int)=RDisk.left v0∧True)) (by kernel_rfl) ?_
 have hv:zac (decide (room<1)) true (decide (room>4194304))=false:=by rw [decide_eq_false (by omega),decide_eq_false (by omega)];rfl
 intros
 exact ⟨trivial,⟨id,fun h=>by rw [h];rfl,trivial⟩,trivial,fun h=>absurd (hv.symm.trans h) (by decide),fun _=>⟨trivial,rfl,rfl,rfl,rfl,rfl,trivial⟩⟩
theorem zkm (room:Int) (h:room<1∨room>4194304):FnC Try.prog 18 [dInt.can room] (.tup [.np,.int .i64 1]) D2:=by
 refine FnG.of_vc (zax zas fun _=>none) Try.func18 rfl (by decide) rfl 300 (p:=fun (V:List PE→Prop)=>let v0:=(1:Int);let v1:=decide (room<v0);let v2:=zac v1 true (decide (room>4194304));True∧(((!v1)=true→(!v1)=true)∧(v1=false→(!v1)=true)∧True)∧True∧(v2=true→True∧v0=v0∧True)∧(v2=false→True∧False)) (by kernel_rfl) ?_
 have hv:zac (decide (room<1)) true (decide (room>4194304))=true:=by
  rcases h with h | h
  ·rw [decide_eq_true h];rfl
  ·rw [decide_eq_true h];cases decide (room<1)<;>rfl
 intros
 exact ⟨trivial,⟨id,fun h=>by rw [h];rfl,trivial⟩,trivial,fun _=>⟨trivial,rfl,trivial⟩,fun h=>absurd (hv.symm.trans h) (by decide)⟩
noncomputable def zlP:Ent:=ent1 18 dInt fun n=>([1≤n,n≤4194304],.tup [.ptr 2 0,.int .i64 0],rdM0 (zaR n))
theorem zjk:zar Try.prog zlP:=zbt (fnB Try.func18 (by decide) rfl) fun n h=>zmz n (h (1≤n) (by simp)) (h (n≤4194304) (by simp))
noncomputable def zlO:Ent:=ent1 18 dInt fun n=>([n<1∨n>4194304],.tup [.np,.int .i64 1],D2)
theorem zjj:zar Try.prog zlO:=zbt (fnB Try.func18 (by decide) rfl) fun n h=>zkm n (h (n<1∨n>4194304) (by simp))
noncomputable def tabMo:List Ent:=[eWrD,zol,eRmD,eSyD,zlK,eCrD,eSpD]
theorem zjW:∀ e∈tabMo,zar Try.prog e:=zah zmX (zah zkN (zah zna (zah zmY (zah zje (zah znb (zah zmZ zas))))))
theorem zk2 (d:RDisk) (o:DOp) (hb:BdD d) (hl:LaOk d) (ho:o.bytes.length≤1000000):FnG Try.prog 19 1 (rdMi d) [.ptr 2 0,dDOp.can o] (.int .i64 (za1 d o).2) (rdMo (za1 d o).1):=by
 refine FnG.of_vc (zax zjW fun _=>none) Try.func19 rfl (by decide) rfl 300 (p:=fun (V:List PE→Prop)=>let v0:=DOp.at_ o;let v1:=DOp.file o;let v2:=DOp.kind o;let v3:=rmD d v1;let v4:=syD d v1;let v5:=zby d v0;let v6:=Prod.snd (za1 d o);let v7:=Prod.fst (za1 d o);let v8:=crD d (DOp.keep o) v0;let v9:=cutD d v1 v0;let v10:=RDisk.left v7;let v11:=Prod.fst v4;let v12:=Prod.fst v3;let v13:=RDisk.lasts v7;let v14:=RDisk.room v7;let v15:=RDisk.down v7;let v16:=Prod.fst v5;let v17:=RDisk.changes v7;let v18:=RDisk.stops v7;let v19:=spD d v1 v0 (DOp.by_ o);let v20:=wrD d v1 v0 (DOp.bytes o);let v21:=Prod.fst v9;let v22:=Prod.fst v19;let v23:=Prod.fst v20;let v24:=v2==4;let v25:=v2==3;let v26:=v2==2;let v27:=v2==6;let v28:=v2==5;let v29:=v2==7;let v30:=v2==1;True∧True∧True∧True∧(v30=true→(BdD d∧List.length (DOp.bytes o)≤1000000∧True)∧Prod.snd v20=v6∧RDisk.room v23=v14∧RDisk.lasts v23=v13∧RDisk.down v23=v15∧RDisk.stops v23=v18∧RDisk.left v23=v10∧RDisk.changes v23=v17∧True)∧(v30=false→True∧True∧(v26=true→(BdD d∧True)∧Prod.snd v9=v6∧RDisk.room v21=v14∧RDisk.lasts v21=v13∧RDisk.down v21=v15∧RDisk.stops v21=v18∧RDisk.left v21=v10∧RDisk.changes v21=v17∧True)∧(v26=false→True∧True∧(v25=true→(BdD d∧True)∧Prod.snd v3=v6∧RDisk.room v12=v14∧RDisk.lasts v12=v13∧RDisk.down v12=v15∧RDisk.stops v12=v18∧RDisk.left v12=v10∧RDisk.changes v12=v17∧True)∧(v25=false→True∧True∧(v24=true→(BdD d∧True)∧Prod.snd v4=v6∧RDisk.room v11=v14∧RDisk.lasts v11=v13∧RDisk.down v11=v15∧RDisk.stops v11=v18∧RDisk.left v11=v10∧RDisk.changes v11=v17∧True)∧(v24=false→True∧True∧(v28=true→True∧Prod.snd v5=v6∧RDisk.room v16=v14∧RDisk.lasts v16=v13∧RDisk.down v16=v15∧RDisk.stops v16=v18∧RDisk.left v16=v10∧RDisk.changes v16=v17∧True)∧(v28=false→True∧True∧(v27=true→(BdD d∧True)∧True∧(0:Int)=v6∧RDisk.room v8=v14∧RDisk.lasts v8=v13∧RDisk.down v8=v15∧RDisk.stops v8=v18∧RDisk.left v8=v10∧RDisk.changes v8=v17∧True)∧(v27=false→True∧True∧(v29=true→(BdD d∧LaOk d∧True)∧Prod.snd v19=v6∧RDisk.room v22=v14∧RDisk.lasts v22=v13∧RDisk.down v22=v15∧RDisk.stops v22=v18∧RDisk.left v22=v10∧RDisk.changes v22=v17∧True)∧(v29=false→True∧(0:Int)=v6∧RDisk.room d=v14∧RDisk.lasts d=v13∧RDisk.down d=v15∧RDisk.stops d=v18∧RDisk.left d=v10∧RDisk.changes d=v17∧True)))))))) (by kernel_rfl) ?_
 have k:∀ {x:RDisk×Int},za1 d o=x→x.2=(za1 d o).2∧x.1.room=(za1 d o).1.room∧x.1.lasts=(za1 d o).1.lasts∧x.1.down=(za1 d o).1.down∧x.1.stops=(za1 d o).1.stops∧x.1.left=(za1 d o).1.left∧x.1.changes=(za1 d o).1.changes∧True:=fun h=>by
  rw [h];exact ⟨rfl,rfl,rfl,rfl,rfl,rfl,rfl,trivial⟩
 have ne:∀ {m:Int},(o.kind==m)=false→¬ o.kind=m:=fun h e=>by rw [e] at h;simp at h
 have eq:∀ {m:Int},(o.kind==m)=true→o.kind=m:=fun h=>eq_of_beq h
 intros
 refine ⟨trivial,trivial,trivial,trivial,fun h=>⟨⟨hb,ho,trivial⟩,k ?_⟩,fun h1=>⟨trivial,trivial,fun h=>⟨⟨hb,trivial⟩,k ?_⟩,fun h2=>⟨trivial,trivial,fun h=>⟨⟨hb,trivial⟩,k ?_⟩,fun h3=>⟨trivial,trivial,fun h=>⟨⟨hb,trivial⟩,k ?_⟩,fun h4=>⟨trivial,trivial,fun h=>⟨trivial,k ?_⟩,fun h5=>⟨trivial,trivial,fun h=>⟨⟨hb,trivial⟩,trivial,k (x:=(crD d o.keep o.at_,0)) ?_⟩,fun h6=>⟨trivial,trivial,fun h=>⟨⟨hb,hl,trivial⟩,k ?_⟩,fun h7=>⟨trivial,k (x:=(d,0)) ?_⟩⟩⟩⟩⟩⟩⟩⟩
 all_goals unfold za1
 ·rw [if_pos (eq h)]
 ·rw [if_neg (ne h1),if_pos (eq h)]
 ·rw [if_neg (ne h1),if_neg (ne h2),if_pos (eq h)]
 ·rw [if_neg (ne h1),if_neg (ne h2),if_neg (ne h3),if_pos (eq h)]
 ·rw [if_neg (ne h1),if_neg (ne h2),if_neg (ne h3),if_neg (ne h4),if_pos (eq h)]
 ·rw [if_neg (ne h1),if_neg (ne h2),if_neg (ne h3),if_neg (ne h4),if_neg (ne h5),if_pos (eq h)]
 ·rw [if_neg (ne h1),if_neg (ne h2),if_neg (ne h3),if_neg (ne h4),if_neg (ne h5),if_neg (ne h6),if_pos (eq h)]
 ·rw [if_neg (ne h1),if_neg (ne h2),if_neg (ne h3),if_neg (ne h4),if_neg (ne h5),if_neg (ne h6),if_neg (ne h7)]
noncomputable def zlR:Ent:=zgf 19 1 mRD dDOp vrD [0,0] [0,0] fun d o=>([BdD d,LaOk d,o.bytes.length≤1000000],.int .i64 (za1 d o).2,rdMo (za1 d o).1)
theorem zjo:zar Try.prog zlR:=zck (fnB Try.func19 (by decide) rfl) fun d o h=>zk2 d o (h (BdD d) (by simp)) (h (LaOk d) (by simp)) (h (o.bytes.length≤1000000) (by simp))
theorem zj8 (l:List Int) (hl:l.length≤100000000):FnC Try.prog 28 [dBytes.can l] (.own 2) [.dead,.dead,.row TU [] (.rBytes l)]:=by
 refine FnG.of_vc (zax zas fun _=>none) Try.func28 rfl (by decide) rfl 300 (p:=fun (V:List PE→Prop)=>True∧True∧True∧(l=[]→True∧l=[]∧True)∧(True→(((0:Nat)+l.length)*(1024:Nat)≤140737488355328∧True)∧l=l∧True)) (by kernel_rfl) ?_
 exact ⟨trivial,trivial,trivial,fun h=>⟨trivial,h,trivial⟩,fun _=>⟨⟨by show (0+l.length)*1024≤_;omega,trivial⟩,rfl,trivial⟩⟩
def NewO (w:World) (bs:List Int) (e:Ending) (w':World):Prop:=∃ v,e = .returned v∧Below w.heap.size w w'∧OwnR w.heap.size w' TU (fun _=>False) [.int .u8] v (ints bs)
theorem zhN {w:World} {S:Nat→Prop} {v:Value} {l:List Int} (hv:BRd w S v l) (hl:l.length≤100000000):Calls Try.prog 28 #[v] w (NewO w l):=by
 refine ((zj8 l hl).2 w (E0 fun b=>S b∧b<w.heap.size) [v] (mem0 fun b hb=>hb.2) ⟨hv.here.mono (fun b _ hb=>zjN hb),trivial⟩).mono ?_
 rintro e w' ⟨u,E',rfl,hu,hm⟩
 obtain ⟨v',k1,k2⟩:=hm.row 2 TU [] (.rBytes l) rfl
 have e:v'=u:=by
  have h1:E'.β 2=some u:=hu.1
  rw [k1] at h1
  exact Option.some.inj h1
 subst e
 obtain ⟨aa,c,ef⟩:=k2.form
 have hnew:∀ b,v'.ownBlock=some b→w.heap.size≤b:=fun b hb=>by
  have hh:Has E' (mOf [.dead,.dead,.row TU [] (.rBytes l)]) 2 b:=Has.row (T:=TU) (ls:=[]) (r:= .rBytes l) rfl k1 (by rw [← zaq ⟨aa,_,c,ef⟩];exact hb)
  rcases (hm.sep 2 b hh).2 with h | h
  ·exact h
  ·obtain ⟨t,ht⟩:=h
   exact absurd ht zdj
 refine ⟨v',rfl,⟨hm.below.os,hm.below.tape,hm.below.output,hm.below.size,fun b hb=>hm.below.block b hb (fun ⟨t,ht⟩=>zdj ht)⟩,?_⟩
 obtain ⟨cells,ho,hr⟩:=k2
 refine ⟨cells,⟨ho.1,?_⟩,fun i hi=>RdL.mono (fun b _ hb=>?_) (hr i hi)⟩
 ·rcases ho.2 with h2 | ⟨g,cap,cur,h2,h3,h4⟩
  ·exact .inl h2
  ·exact .inr ⟨g,cap,cur,h2,hnew g (by rw [h2];rfl),h4⟩
 ·obtain ⟨⟨i,hi,_⟩,hn⟩:=hb
  cases hi
def znB (w:World) (r:List Int×Int) (e:Ending) (w':World):Prop:=∃ u,e = .returned (.tuple #[u,.int .i64 r.2])∧Below w.heap.size w w'∧OwnR w.heap.size w' TU (fun _=>False) [.int .u8] u (ints r.1)
theorem ziq {w:World} {b:Nat} {d:RDisk} {F:Nat→Prop} (h:DkOk w b d F) {n:ByteArray} (hn:NmOk n):Calls Try.prog 11 #[ptrV b,.string n] w (znB w (zaw d n)):=by
 obtain ⟨m1,m2,v,rows,h⟩:=h.o
 obtain ⟨q0,q1,q2,q3,q4,q5,q6⟩:=box7 h.blk
 obtain ⟨u,hlk,_,hu⟩:=h.no.look hn
 have hl:=zb0 h.inv.now n
 rw [zcY]
 cases e:zae (zaa d) n with
 | none=>
  rw [e] at hlk
  clear h hu hl e
  unfold ptrV
  go_enter Try.func11,Try.ntmps11
  go_wp2
  go_ret2
  exact ⟨_,rfl,Below.refl _ _,OwnR.nil _ _ _ _ _⟩
 | some bs=>
  rw [e] at hlk hu hl
  have hC:=Lib.hid (zhN hu (by have hl:bs.length≤4194304:=hl;show bs.length≤_;omega))
  simp only [Option.isSome_some] at hlk
  clear h hu hl e
  unfold ptrV
  go_enter Try.func11,Try.ntmps11
  go_wp2_with (go_at_call 28;refine hC.out.mono ?_;rintro e w1 ⟨r,rfl,hb1,hr⟩)
  go_ret2
  exact ⟨_,rfl,hb1,hr⟩
theorem zkq (d:RDisk) (n:ByteArray):FnC Try.prog 11 [dDk.can d,dStr.can n] (.tup [.own 2,.int .i64 (zaw d n).2]) [.dead,.dead,.row TU [] (.rBytes (zaw d n).1)]:=by
 refine ⟨fnB Try.func11 (by decide) rfl,fun w E vals hm hd=>?_⟩
 match vals,hd with
 | [v,x],hd=>
  obtain ⟨b,F,rfl,hc,_⟩:=hd.1
  obtain rfl:x = .string n:=hd.2.1.1
  refine (ziq hc hd.2.1.2).mono ?_
  rintro e w' ⟨u,rfl,hb,ho⟩
  obtain ⟨E',h1,h2,h3⟩:=zgJ (r:= .rBytes (zaw d n).1) hm hb ho
  exact ⟨_,E',rfl,⟨[u,.int .i64 (zaw d n).2],rfl,⟨h1,h2⟩,⟨rfl,zds (zir d n)⟩,trivial⟩,h3⟩
noncomputable def zjs:Ent:=ent2 11 dDk dStr fun d n=>([],.tup [.own 2,.int .i64 (zaw d n).2],[.dead,.dead,.row TU [] (.rBytes (zaw d n).1)])
theorem zhF:zar Try.prog zjs:=zbJ (fnB Try.func11 (by decide) rfl) fun d n _=>zkq d n
def zb5 (s:ByteArray) (l:List ByteArray) (k:Nat):List ByteArray:=List.replicate k s++l.drop k
theorem zi1 (s:ByteArray) (l:List ByteArray) {k:Nat} (h:k≤l.length):(zb5 s l k).length=l.length:=by
 unfold zb5
 rw [List.length_append,List.length_replicate,List.length_drop]
 omega
theorem zi0 (s:ByteArray) (l:List ByteArray) {k:Nat} (h:k<l.length):(zb5 s l k).set k s=zb5 s l (k+1):=by
 unfold zb5
 rw [List.set_append_right _ _ (by rw [List.length_replicate];omega),List.length_replicate,Nat.sub_self,List.drop_eq_getElem_cons h,List.set_cons_zero,List.replicate_succ',List.append_assoc]
 rfl
def zdM (l:List Int) (k:Nat):List Int:=List.replicate k 7++l.drop k
theorem zi3 (l:List Int) {k:Nat} (h:k≤l.length):(zdM l k).length=l.length:=by
 unfold zdM
 rw [List.length_append,List.length_replicate,List.length_drop]
 omega
theorem zi2 (l:List Int) {k:Nat} (h:k<l.length):(zdM l k).set k 7=zdM l (k+1):=by
 unfold zdM
 rw [List.set_append_right _ _ (by rw [List.length_replicate];omega),List.length_replicate,Nat.sub_self,List.drop_eq_getElem_cons h,List.set_cons_zero,List.replicate_succ',List.append_assoc]
 rfl
def zbR:ByteArray:=⟨#[111,118,101,114]⟩
def dRpD:Dec RDisk where
 dec:=fun s=>match s with
  | .rp _ T' cs 0=>if T'=78 then (match RDisk.of cs with | some (n,_)=>some n | _=>none) else none
  | _=>none
 can:=fun s=> .rp [0] 78 (s.svs [0]) 0
 Okp:=fun _=>True
 okp:=fun _ _ _ _ _=>trivial
 ok:=by
  intro s x h E w v hz hd
  split at h
  case h_2=>cases h
  rename_i ls T' cs
  split at h
  case isFalse=>cases h
  rename_i hT
  subst hT
  split at h
  case h_2=>cases h
  rename_i n k e1
  simp only [Option.some.injEq] at h
  subst h
  obtain ⟨b,xs,hv,hb,hh,hl⟩:=hd
  exact ⟨b,xs,hv,hz.set hb,hh,RDisk.svs_of (RdL.mono (fun b _ hb=>hz.set hb) (RDisk.svs_rd (RDisk.of_ok e1 hl)))⟩
theorem zhu (d:RDisk) (hk:DOk d) (hl:d.changes.length≤100000):FnC Try.prog 59 [dRpD.can d] (.sl [0,1] (.rFile (zaa d))) D2:=by
 refine FnG.of_vc (zax zdx fun _=>none) Try.func59 rfl (by decide) rfl 300 (p:=fun (V:List PE→Prop)=>True∧True∧True∧V []) (by kernel_rfl) ?_
 simp only [true_and]
 refine LoopG.head (zax zdx fun _=>none) 0 (A:=Nat) (fun j=>j≤d.changes.length) (fun j=>[(4,.int .i64 j),(3,.sl [0,901] (.rFile ((d.changes.take j).foldl zad d.lasts)))]) (fun _=>[(901,.dead)]) (fun j=>d.changes.length-j) 0 (Nat.zero_le _) (p0:=let v0:=RDisk.lasts d;let v1:=RDisk.changes d;(0:Int)=(↑(0:Nat):Int)∧v0=List.foldl zad v0 (List.take (0:Nat) v1)∧RDisk.room d=RDisk.room d∧v0=v0∧v1=v1∧RDisk.down d=RDisk.down d∧RDisk.stops d=RDisk.stops d∧RDisk.left d=RDisk.left d∧True) (by kernel_rfl) ?_ 300 (p:=fun (z:Nat) (V:List PE→Prop)=>let v0:=RDisk.changes d;let v1:=(↑z:Int);let v2:=(↑(v0.length):Int);let v3:=List.foldl zad (RDisk.lasts d) (List.take z v0);let v4:=decide (v1<v2);True∧True∧(v4=true→((0:Int)≤v1∧v1<v2∧ChOk v3 (List.getD v0 z default)∧True)∧True∧V [PE.a])∧(v4=false→True∧v3=zaa d∧True)) (by intro z;kernel_rfl) ?_
 ·intros
  repeat' apply And.intro
  all_goals first | trivial | rfl
 rintro j hj
 have hj:j≤d.changes.length:=hj
 intros
 refine ⟨trivial,trivial,fun h=>?_,fun h=>⟨trivial,?_,trivial⟩⟩
 ·have b2:(j:Int)<(d.changes.length:Int):=of_decide_eq_true h
  have e:=zb2 (i:=j) (by omega)
  have er:(d.changes.take (j+1)).foldl zad d.lasts=zad ((d.changes.take j).foldl zad d.lasts) (d.changes.getD j default):=by
   rw [za5 (d:=default) (by omega),List.foldl_append];rfl
  refine ⟨⟨Int.natCast_nonneg _,b2,hk j (by omega),trivial⟩,trivial,?_⟩
  refine Back.mk (j+1) (by show j+1≤d.changes.length;omega) (by show d.changes.length-(j+1)<d.changes.length-j;omega) (p0:=let v0:=RDisk.lasts d;let v1:=RDisk.changes d;IntKind.wrap IntKind.i64 ((↑j:Int)+(1:Int))=(↑(j+(1:Nat)):Int)∧zad (List.foldl zad v0 (List.take j v1)) (List.getD v1 j default)=List.foldl zad v0 (List.take (j+(1:Nat)) v1)∧RDisk.room d=RDisk.room d∧v0=v0∧v1=v1∧RDisk.down d=RDisk.down d∧RDisk.stops d=RDisk.stops d∧RDisk.left d=RDisk.left d∧True) (by kernel_rfl) ?_
  intros
  repeat' apply And.intro
  all_goals first | trivial | exact e | exact er.symm | rfl
 ·have hj':j=d.changes.length:=by
   have:¬ (j:Int)<(d.changes.length:Int):=of_decide_eq_false h
   omega
  subst hj'
  show (d.changes.take d.changes.length).foldl zad d.lasts=zaa d
  rw [List.take_length]
  rfl
noncomputable def zjr:Ent:=ent1 59 dRpD fun d=>([DOk d,d.changes.length≤100000],.sl [0,1] (.rFile (zaa d)),D2)
theorem zhE:zar Try.prog zjr:=zbt (fnB Try.func59 (by decide) rfl) fun d h=>zhu d (h (DOk d) (by simp)) (h (d.changes.length≤100000) (by simp))
noncomputable def tabDp:List Ent:=[zjr,zhD]
theorem ze6:∀ e∈tabDp,zar Try.prog e:=zah zhE (zah zcN zas)
theorem zil (d:RDisk) (hb:BdD d) (file:ByteArray):FnC Try.prog 46 [dRpD.can d,dStr.can file] (.tup [.sl [0,1] (.rBytes (zaw d file).1),.int .i64 (zaw d file).2]) D2:=by
 refine FnG.of_vc (zax ze6 fun _=>none) Try.func46 rfl (by decide) rfl 300 (p:=fun (V:List PE→Prop)=>let v0:=zaj (zaa d) file;let v1:=(0:Int);let v2:=Prod.fst (zaw d file);let v3:=Prod.snd (zaw d file);let v4:=decide (v0<v1);True∧(DOk d∧List.length (RDisk.changes d)≤100000∧True)∧True∧True∧True∧(v4=true→True∧v2=[]∧(122:Int)=v3∧True)∧(v4=false→(v1≤v0∧v0<(↑(List.length (zaa d)):Int)∧True)∧File.bytes (List.getD (zaa d) (Int.toNat v0) default)=v2∧v1=v3∧True)) (by kernel_rfl) ?_
 have hf:=zbj (zaa d) file
 intros
 refine ⟨trivial,⟨hb.ok,hb.cl5,trivial⟩,trivial,trivial,trivial,fun h=>?_,fun h=>?_⟩
 ·have h:zaj (zaa d) file<0:=of_decide_eq_true h
  have e:zaw d file=([],122):=by unfold zaw;rw [if_pos h]
  exact ⟨trivial,congrArg Prod.fst e,(congrArg Prod.snd e).symm,trivial⟩
 ·have h:¬ zaj (zaa d) file<0:=of_decide_eq_false h
  have e:zaw d file=(zaf (zaa d) file,0):=by unfold zaw;rw [if_neg h]
  exact ⟨⟨by show 0≤zaj (zaa d) file;omega,hf.2,trivial⟩,(zbE h).symm.trans (congrArg Prod.fst e).symm,(congrArg Prod.snd e).symm,trivial⟩
noncomputable def zlM:Ent:=ent2 46 dRpD dStr fun d n=>([BdD d],.tup [.sl [0,1] (.rBytes (zaw d n).1),.int .i64 (zaw d n).2],D2)
theorem zjh:zar Try.prog zlM:=zbJ (fnB Try.func46 (by decide) rfl) fun d n h=>zil d (h (BdD d) (by simp)) n
theorem zht (d:RDisk) (hb:BdD d):FnC Try.prog 45 [dRpD.can d] (.sl [1] (.rStrs (zal d))) D2:=by
 refine FnG.of_vc (zax ze6 fun _=>none) Try.func45 rfl (by decide) rfl 300 (p:=fun (V:List PE→Prop)=>True∧True∧(DOk d∧List.length (RDisk.changes d)≤100000∧True)∧True∧V []) (by kernel_rfl) ?_
 simp only [true_and]
 refine ⟨⟨hb.ok,hb.cl5,trivial⟩,?_⟩
 have hfl:=hb.fl
 refine LoopG.head (zax ze6 fun _=>none) 0 (A:=Nat) (fun j=>j≤(zaa d).length) (fun j=>[(5,.int .i64 j),(3,.own 901)]) (fun j=>[(901,.row 9 [] (.rStrs (((zaa d).take j).map (·.name))))]) (fun j=>(zaa d).length-j) 0 (Nat.zero_le _) (p0:=(0:Int)=(↑(0:Nat):Int)∧zaa d=zaa d∧List.map (fun (x:File)=>File.name x) (List.take (0:Nat) (zaa d))=[]∧True) (by kernel_rfl) ?_ 300 (p:=fun (z:Nat) (V:List PE→Prop)=>let v0:=(↑z:Int);let v1:=(↑(List.length (zaa d)):Int);let v2:=List.map (fun (x:File)=>File.name x) (List.take z (zaa d));let v3:=v2.length;let v4:=decide (v0<v1);True∧True∧(v4=true→((0:Int)≤v0∧v0<v1∧(v3+List.length [File.name (List.getD (zaa d) z default)])*(1024:Nat)≤140737488355328∧True)∧True∧V [PE.a])∧(v4=false→True∧v2=zal d∧v3≤140737488355328∧True)) (by intro z;kernel_rfl) ?_
 ·intros
  repeat' apply And.intro
  all_goals first | trivial | rfl
 rintro j hj
 have hj:j≤(zaa d).length:=hj
 have hml:(((zaa d).take j).map (·.name)).length=j:=by simp;omega
 intros
 refine ⟨trivial,trivial,fun h=>?_,fun h=>?_⟩
 ·have b2:(j:Int)<((zaa d).length:Int):=of_decide_eq_true h
  have e:=zb2 (i:=j) (by omega)
  have er:((zaa d).take (j+1)).map (·.name)=((zaa d).take j).map (·.name)++[((zaa d).getD j default).name]:=by
   rw [za5 (d:=default) (by omega),List.map_append];rfl
  refine ⟨⟨Int.natCast_nonneg _,b2,by show ((((zaa d).take j).map (·.name)).length+1)*1024≤_;omega,trivial⟩,trivial,?_⟩
  refine Back.mk (j+1) (by show j+1≤(zaa d).length;omega) (by show (zaa d).length-(j+1)<(zaa d).length-j;omega) (p0:=let v0:=zaa d;IntKind.wrap IntKind.i64 ((↑j:Int)+(1:Int))=(↑(j+(1:Nat)):Int)∧v0=v0∧List.map (fun (x:File)=>File.name x) (List.take j v0)++[File.name (List.getD v0 j default)]=List.map (fun (x:File)=>File.name x) (List.take (j+(1:Nat)) v0)∧True) (by kernel_rfl) ?_
  intros
  repeat' apply And.intro
  all_goals first | trivial | exact e | exact er.symm | rfl
 ·have hj':j=(zaa d).length:=by
   have:¬ (j:Int)<((zaa d).length:Int):=of_decide_eq_false h
   omega
  subst hj'
  have er:((zaa d).take (zaa d).length).map (·.name)=zal d:=by rw [List.take_length];rfl
  refine ⟨trivial,er,by show (((zaa d).take (zaa d).length).map (·.name)).length≤_;omega,trivial⟩
noncomputable def zjn:Ent:=ent1 45 dRpD fun d=>([BdD d],.sl [1] (.rStrs (zal d)),D2)
theorem zhC:zar Try.prog zjn:=zbt (fnB Try.func45 (by decide) rfl) fun d h=>zht d (h (BdD d) (by simp))
noncomputable def tabSq:List Ent:=[zlJ,zjv,zlW,zjs,zjn,zlM]
theorem ze5:∀ e∈tabSq,zar Try.prog e:=zah zjd (zah zhG (zah zjw (zah zhF (zah zhC (zah zjh zas)))))
theorem zke (d:RDisk) (hI:DkI d) (hs:zc4 d≤900):FnC Try.prog 20 [dDk.can d,dRpD.can d] (.bool true) D2:=by
 refine FnG.of_vc (zax ze5 fun _=>none) Try.func20 rfl (by decide) rfl 300 (p:=fun (V:List PE→Prop)=>let v0:=zal d;True∧(FewD d∧True)∧(BdD d∧v0.length≤140737488355328∧(decide (v0=v0)=true→decide (v0=v0)=true)∧(decide (v0=v0)=true→decide (v0=v0)=true)∧(decide (v0=v0)=true→decide (v0=v0)=true)∧(decide (v0=v0)=true→decide (v0=v0)=true)∧(decide (v0=v0)=true→decide (v0=v0)=true)∧(decide (v0=v0)=true→decide (v0=v0)=true)∧(decide (v0=v0)=true→decide (v0=v0)=true)∧True)∧True∧V []) (by kernel_rfl) ?_
 have hfew:FewD d:=by
  have h:d.lasts.length+d.changes.length≤900:=hs
  show _+_≤5000
  omega
 have hbd:=hI.bd hs
 have hnl:(zal d).length≤900:=by
  have h1:=zbn d
  have h2:d.lasts.length+d.changes.length≤900:=hs
  have h3:(zal d).length=(zaa d).length:=by simp [zal]
  omega
 dsimp only
 refine ⟨trivial,⟨hfew,trivial⟩,⟨hbd,by omega,id,id,id,id,id,id,id,trivial⟩,trivial,?_⟩
 refine LoopG.head (zax ze5 fun _=>none) 0 (A:=Nat) (fun i=>i≤(zal d).length) (fun i=>[(7,.int .i64 i),(6,.bool true)]) (fun i=>[(12,.row 9 [] (.rStrs (zb5 zbR (zal d) i)))]) (fun i=>(zal d).length-i) 0 (Nat.zero_le _) (p0:=let v0:=zal d;let v1:=RDisk.down d;(0:Int)=(↑(0:Nat):Int)∧zac (decide (v0=v0)) (v1==v1) false=true∧false=false∧d=d∧RDisk.room d=RDisk.room d∧RDisk.lasts d=RDisk.lasts d∧RDisk.changes d=RDisk.changes d∧v1=v1∧RDisk.stops d=RDisk.stops d∧RDisk.left d=RDisk.left d∧v0=zb5 zbR v0 (0:Nat)∧True) (by kernel_rfl) ?_ 300 (p:=fun (z:Nat) (V:List PE→Prop)=>let v0:=(↑z:Int);let v1:=zb5 zbR (zal d) z;let v2:=v1.length;let v3:=(↑v2:Int);let v4:=zaw d (List.getD v1 z default);let v5:=Prod.snd v4;let v6:=decide (v0<v3);True∧True∧(v6=true→((0:Int)≤v0∧v0<v3∧z<v2∧True)∧((0:Int)≤v0∧v0<v3∧z<v2∧BdD d∧True)∧((true=true→true=true)∧(true=true→true=true)∧(true=true→true=true)∧(zac true (v5==v5) false=true→zac true (v5==v5) false=true)∧(zac true (v5==v5) false=true→List.length (Prod.fst v4)≤140737488355328)∧(zac true (v5==v5) false=true→zac true (v5==v5) false=true)∧(zac true (v5==v5) false=true→List.length (Prod.fst v4)≤140737488355328)∧(zac true (v5==v5) false=true→zac true (v5==v5) false=true)∧(zac true (v5==v5) false=true→zac true (v5==v5) false=true)∧(zac true (v5==v5) false=true→zac true (v5==v5) false=true)∧True)∧True∧V [PE.a])∧(v6=false→True∧true=true∧True)) (by intro z;kernel_rfl) ?_
 ·dsimp only
  refine ⟨rfl,by rw [decide_eq_true (rfl:zal d=zal d),beq_self_eq_true];rfl,?_⟩
  repeat' apply And.intro
  all_goals first | trivial | rfl
 rintro i hi
 have hi:i≤(zal d).length:=hi
 have hol:=zi1 zbR (zal d) hi
 have c1:(0:Int)≤(i:Int):=Int.natCast_nonneg i
 have ew:=zb2 (i:=i) (by omega)
 have hrl:=hI.rd ((zb5 zbR (zal d) i).getD i default)
 dsimp only
 refine ⟨trivial,trivial,fun h=>?_,fun h=>⟨trivial,rfl,trivial⟩⟩
 have h:(i:Int)<((zb5 zbR (zal d) i).length:Int):=of_decide_eq_true h
 have h2:i<(zal d).length:=by omega
 have hset:=zi0 zbR (zal d) h2
 refine ⟨⟨c1,h,by omega,trivial⟩,⟨c1,h,by omega,hbd,trivial⟩,⟨id,id,id,id,fun _=>by omega,id,fun _=>by omega,id,id,id,trivial⟩,trivial,?_⟩
 generalize hB:(zaw d ((zb5 zbR (zal d) i).getD i default)).1=B at hrl
 refine LoopG.head (zax ze5 fun _=>none) 1 (A:=Nat) (fun k=>k≤B.length) (fun k=>[(12,.int .i64 k)]) (fun k=>[(130,.row TU [] (.rBytes (zdM B k)))]) (fun k=>B.length-k) 0 (Nat.zero_le _) (p0:=let v0:=(↑i:Int);let v1:=zb5 zbR (zal d) i;let v2:=(↑(v1.length):Int);let v3:=List.getD v1 i default;let v4:=zaw d v3;let v5:=Prod.snd v4;let v6:=Prod.fst v4;let v7:=ByteArray.toList (zc3 v6);let v8:=decide (v0<v2);let v9:=zac true (v5==v5) false;let v10:=zac v9 (v7==v7) false;(0:Int)=(↑(0:Nat):Int)∧v10=v10∧v10=v10∧v9=v9∧v9=v9∧true=true∧true=true∧v5=v5∧v6=v6∧v5=v5∧v6=v6∧v3=v3∧v0=v0∧RDisk.room d=RDisk.room d∧RDisk.lasts d=RDisk.lasts d∧RDisk.changes d=RDisk.changes d∧RDisk.down d=RDisk.down d∧RDisk.stops d=RDisk.stops d∧RDisk.left d=RDisk.left d∧v5=v5∧v5=v5∧v3=v3∧v0=v0∧d=d∧v8=v8∧v2=v2∧v0=v0∧v0=v0∧false=false∧d=d∧RDisk.room d=RDisk.room d∧RDisk.lasts d=RDisk.lasts d∧RDisk.changes d=RDisk.changes d∧RDisk.down d=RDisk.down d∧RDisk.stops d=RDisk.stops d∧RDisk.left d=RDisk.left d∧v6=zdM B (0:Nat)∧v1=v1∧True) (by kernel_rfl) ?_ 300 (p:=fun (z:Nat) (V:List PE→Prop)=>let v0:=(↑z:Int);let v1:=List.length (zdM B z);let v2:=List.length (zb5 zbR (zal d) i);let v3:=(↑v1:Int);let v4:=decide (v0<v3);True∧True∧(v4=true→((0:Int)≤v0∧v0<v3∧z<v1∧True)∧True∧V [PE.a])∧(v4=false→((0:Int)≤(↑i:Int)∧(↑i:Int)<(↑v2:Int)∧i<v2∧True)∧True∧V [PE.b])) (by intro z;kernel_rfl) ?_
 ·dsimp only
  rw [hB]
  repeat' apply And.intro
  all_goals first | trivial | rfl
 rintro k hk
 have hk:k≤B.length:=hk
 have h7:=zi3 B hk
 have k1:(0:Int)≤(k:Int):=Int.natCast_nonneg k
 have ek:=zb2 (i:=k) (by omega)
 dsimp only
 refine ⟨trivial,trivial,fun g=>?_,fun g=>⟨⟨c1,h,by omega,trivial⟩,trivial,?_⟩⟩
 ·have g:(k:Int)<((zdM B k).length:Int):=of_decide_eq_true g
  have h7s:=zi2 B (k:=k) (by omega)
  refine ⟨⟨k1,g,by omega,trivial⟩,trivial,?_⟩
  refine Back.mk (k+1) (by show k+1≤B.length;omega) (by show B.length-(k+1)<B.length-k;omega) (p0:=let v0:=(↑i:Int);let v1:=zb5 zbR (zal d) i;let v2:=(↑(v1.length):Int);let v3:=List.getD v1 i default;let v4:=zaw d v3;let v5:=Prod.snd v4;let v6:=Prod.fst v4;let v7:=ByteArray.toList (zc3 v6);let v8:=decide (v0<v2);let v9:=zac true (v5==v5) false;let v10:=zac v9 (v7==v7) false;IntKind.wrap IntKind.i64 ((↑k:Int)+(1:Int))=(↑(k+(1:Nat)):Int)∧v10=v10∧v10=v10∧v9=v9∧v9=v9∧true=true∧true=true∧v5=v5∧v6=v6∧v5=v5∧v6=v6∧v3=v3∧v0=v0∧RDisk.room d=RDisk.room d∧RDisk.lasts d=RDisk.lasts d∧RDisk.changes d=RDisk.changes d∧RDisk.down d=RDisk.down d∧RDisk.stops d=RDisk.stops d∧RDisk.left d=RDisk.left d∧v5=v5∧v5=v5∧v3=v3∧v0=v0∧d=d∧v8=v8∧v2=v2∧v0=v0∧v0=v0∧false=false∧d=d∧RDisk.room d=RDisk.room d∧RDisk.lasts d=RDisk.lasts d∧RDisk.changes d=RDisk.changes d∧RDisk.down d=RDisk.down d∧RDisk.stops d=RDisk.stops d∧RDisk.left d=RDisk.left d∧List.set (zdM B k) k (7:Int)=zdM B (k+(1:Nat))∧v1=v1∧True) (by kernel_rfl) ?_
  dsimp only
  simp only [ek,h7s,hB]
  repeat' apply And.intro
  all_goals first | trivial | rfl
 ·refine Back.up (Back.mk (i+1) (by show i+1≤(zal d).length;omega) (by show (zal d).length-(i+1)<(zal d).length-i;omega) (p0:=let v0:=zb5 zbR (zal d) i;let v1:=zaw d (List.getD v0 i default);let v2:=Prod.snd v1;let v3:=ByteArray.toList (zc3 (Prod.fst v1));IntKind.wrap IntKind.i64 ((↑i:Int)+(1:Int))=(↑(i+(1:Nat)):Int)∧zac (zac true (v2==v2) false) (v3==v3) false=true∧false=false∧d=d∧RDisk.room d=RDisk.room d∧RDisk.lasts d=RDisk.lasts d∧RDisk.changes d=RDisk.changes d∧RDisk.down d=RDisk.down d∧RDisk.stops d=RDisk.stops d∧RDisk.left d=RDisk.left d∧List.set v0 i (ByteArray.mk #[(111:UInt8),(118:UInt8),(101:UInt8),(114:UInt8)])=zb5 zbR (zal d) (i+(1:Nat))∧True) (by kernel_rfl) ?_)
  have hv:zac (zac true ((zaw d ((zb5 zbR (zal d) i).getD i default)).2==(zaw d ((zb5 zbR (zal d) i).getD i default)).2) false) ((zc3 (zaw d ((zb5 zbR (zal d) i).getD i default)).1).toList==(zc3 (zaw d ((zb5 zbR (zal d) i).getD i default)).1).toList) false=true:=by
   rw [beq_self_eq_true,beq_self_eq_true];rfl
  refine ⟨ew,hv,?_⟩
  repeat' apply And.intro
  all_goals first | trivial | exact hset | rfl
noncomputable def zlL:Ent:=ent2 20 dDk dRpD fun d e=>([d=e,DkI d,zc4 d≤900],.bool true,D2)
theorem zjg:zar Try.prog zlL:=zbJ (fnB Try.func20 (by decide) rfl) fun d e h=>by
 have he:=h (d=e) (by simp)
 subst he
 exact zke d (h (DkI d) (by simp)) (h (zc4 d≤900) (by simp))
theorem zkU {w:World} {a:Option Addr} {n m:Nat} {l:List DOp} (h:Sl w (fun b=>b<w.heap.size) DOp.ty a n m (l.map DOp.enc)):DenV (E0 fun b=>b<w.heap.size) w (.sl [0] (.rDOp l)) (.slice a n m):=
 Rd.mono h fun b _ hb=>zjN hb
noncomputable def tabRX:List Ent:=[zjx,zjp,zlU,zlO]
theorem zjV:∀ e∈tabRX,zar Try.prog e:=zah zfF (zah zfE (zah zjt (zah zjj zas)))
noncomputable def tabRO:List Ent:=[zjx,zjp,zlV,zlP,zon,zlR,zlL]
theorem zgz:∀ e∈tabRO,zar Try.prog e:=zah zfF (zah zfE (zah zju (zah zjk (zah zkP (zah zjo (zah zjg zas))))))
theorem zfH (room:Int) (l:List DOp) (h:room<1∨room>4194304):FnC Try.prog 5 [dInt.can room,dDOps.can l] (.bool true) D2:=by
 refine FnG.of_vc (zax zjV fun _=>none) Try.func5 rfl (by decide) rfl 300 (p:=fun (V:List PE→Prop)=>let v0:=(1:Int);let v1:=v0 != v0;let v2:=zac true (v0==v0) false;let v3:=zac v1 true true;let v4:=zac v2 true false;let v5:=zac v3 true true;True∧True∧True∧(zcr l=true→True∧true=true∧True)∧(zcr l=false→((room<v0∨room>4194304)∧True)∧((room<v0∨room>4194304)∧True)∧(((!v1)=true→(!v1)=true)∧(v1=false→(!v1)=true)∧((!v3)=true→(!v3)=true)∧(v3=false→(!v3)=true)∧True)∧True∧(v5=true→((true=true→true=true)∧(true=true→true=true)∧(true=true→true=true)∧(v2=true→v2=true)∧(v2=true→v2=true)∧(v4=true→v4=true)∧(v4=true→v4=true)∧True)∧zac v4 true false=true∧True)∧(v5=false→True∧V [PE.b,PE.b]))) (by kernel_rfl) ?_
 dsimp only
 have nt:∀ b:Bool,b=false→(!b)=true:=fun b h=>by rw [h];rfl
 refine ⟨trivial,trivial,trivial,fun _=>⟨trivial,rfl,trivial⟩,fun _=>⟨⟨h,trivial⟩,⟨h,trivial⟩,⟨id,nt _,id,nt _,trivial⟩,trivial,fun _=>⟨⟨id,id,id,id,id,id,id,trivial⟩,rfl,trivial⟩,fun h=>absurd h (by decide)⟩⟩
theorem zfI (room:Int) (l:List DOp) (h0:1≤room) (h1:room≤4194304):FnC Try.prog 5 [dInt.can room,dDOps.can l] (.bool true) D2:=by
 refine FnC.g2 dInt dDOps room l (fnB Try.func5 (by decide) rfl) fun _ hO=>?_
 refine FnG.of_vc (zax zgz fun _=>none) Try.func5 rfl (by decide) rfl 300 (p:=fun (V:List PE→Prop)=>let v0:=(0:Int);let v1:=v0 != v0;let v2:=zac true (v0==v0) false;let v3:=zac v1 true false;let v4:=zac v3 true false;let v5:=zac v2 false false;True∧True∧True∧(zcr l=true→True∧true=true∧True)∧(zcr l=false→((1:Int)≤room∧room≤4194304∧True)∧((1:Int)≤room∧room≤4194304∧True)∧(((!v1)=true→(!v1)=true)∧(v1=false→(!v1)=true)∧((!v3)=true→(!v3)=true)∧(v3=false→(!v3)=true)∧True)∧True∧(v4=true→((true=true→true=true)∧(true=true→true=true)∧(true=true→true=true)∧(v2=true→v2=true)∧(v2=true→v2=true)∧(v5=true→v5=true)∧(v5=true→v5=true)∧True)∧zac v5 false false=true∧True)∧(v4=false→True∧V [PE.b,PE.b]))) (by kernel_rfl) ?_
 dsimp only
 have nt:∀ b:Bool,b=false→(!b)=true:=fun b h=>by rw [h];rfl
 refine ⟨trivial,trivial,trivial,fun _=>⟨trivial,rfl,trivial⟩,fun hl=>⟨⟨h0,h1,trivial⟩,⟨h0,h1,trivial⟩,⟨id,nt _,id,nt _,trivial⟩,trivial,fun h=>absurd h (by decide),fun _=>⟨trivial,?_⟩⟩⟩
 obtain ⟨hl2,hall⟩:=zk8 hl
 refine LoopG.head (zax zgz fun _=>none) 0 (A:=Nat) (fun j=>j≤l.length) (fun j=>[(9,.int .i64 j),(4,.bool false)]) (fun j=>[(37,.obj (.disk (runD (zaR room) (l.take j)))),(901,.dead),(67,.cells 78 (rdCs [0,901] (runD (zaR room) (l.take j)) 902)),(902,.row 92 [0,901] (.rDChange (runD (zaR room) (l.take j)).changes))]) (fun j=>l.length-j) 0 (Nat.zero_le _) (p0:=let v0:=zaR room;let v1:=runD v0 (List.take (0:Nat) l);(0:Int)=(↑(0:Nat):Int)∧false=false∧l=l∧v0=v1∧RDisk.room v0=RDisk.room v1∧RDisk.lasts v1=[]∧RDisk.down v0=RDisk.down v1∧RDisk.stops v0=RDisk.stops v1∧RDisk.left v0=RDisk.left v1∧RDisk.changes v1=[]∧True) (by kernel_rfl) ?_ 300 (p:=fun (z:Nat) (V:List PE→Prop)=>let v0:=(↑z:Int);let v1:=(↑(l.length):Int);let v2:=runD (zaR room) (List.take z l);let v3:=List.getD l z default;let v4:=za1 v2 v3;let v5:=Prod.fst v4;let v6:=Prod.snd v4;let v7:=decide (v0<v1);let v8:=v6 != v6;let v9:=zac v8 true !true;True∧True∧(v7=true→((0:Int)≤v0∧v0<v1∧FewD v2∧List.length (DOp.bytes v3)≤1000000∧(0:Int)≤v0∧v0<v1∧BdD v2∧LaOk v2∧List.length (DOp.bytes v3)≤1000000∧((!v8)=true→(!v8)=true)∧((!v8)=true→(!v8)=true)∧((!v8)=true→List.length (RDisk.changes v5)≤140737488355328)∧((!v8)=true→v5=v5)∧((!v8)=true→DkI v5)∧((!v8)=true→zc4 v5≤900)∧((!v8)=true→(!v8)=true)∧(v8=false→(!v8)=true)∧True)∧True∧(v9=true→True∧false=true∧True)∧(v9=false→True∧V [PE.a,PE.b]))∧(v7=false→True∧true=true∧True)) (by intro z;kernel_rfl) ?_
 ·exact ⟨rfl,rfl,rfl,rfl,rfl,rfl,rfl,rfl,rfl,rfl,trivial⟩
 rintro j hj
 have hj:j≤l.length:=hj
 have hsz:zc4 (runD (zaR room) (l.take j))≤200:=by
  have h2:=(zkh (l.take j) (zaR room)).1
  have h3:(l.take j).length≤l.length:=by rw [List.length_take];omega
  have h4:zc4 (zaR room)=0:=rfl
  omega
 have hI:DkI (runD (zaR room) (l.take j)):=zmt h0 h1 fun o ho=>(hO.2 o ho).file
 have hsu:=zij (d:=zaR room) (l:=l) (j:=j)
 dsimp only
 generalize hd:runD (zaR room) (l.take j)=d at hsz hI hsu ⊢
 refine ⟨trivial,trivial,fun h=>?_,fun _=>⟨trivial,rfl,trivial⟩⟩
 have h:(j:Int)<(l.length:Int):=of_decide_eq_true h
 have hj2:j<l.length:=by omega
 have hc1:=(zgm d (l.getD j default)).1
 have hcl:(za1 d (l.getD j default)).1.changes.length≤140737488355328:=by
  have h1:=(zgm d (l.getD j default)).2
  have h:d.lasts.length+d.changes.length≤200:=hsz
  omega
 have hI2:DkI (za1 d (l.getD j default)).1:=hI.call (hO.2 _ (zaX hj2)).file
 have hne:((za1 d (l.getD j default)).2 != (za1 d (l.getD j default)).2)=false:=by simp
 have hbl:=(hall j hj2).1
 have hfew:FewD d:=by
  have h:d.lasts.length+d.changes.length≤200:=hsz
  show _+_≤5000
  omega
 have c1:(0:Int)≤(j:Int):=Int.natCast_nonneg j
 have ew:=zb2 (i:=j) (by omega)
 simp only [hne]
 refine ⟨⟨c1,h,hfew,hbl,c1,h,hI.bd (by omega),hI.la (by omega),hbl,id,id,fun _=>hcl,fun _=>trivial,fun _=>hI2,fun _=>by omega,id,fun _=>rfl,trivial⟩,trivial,fun h=>absurd h (by decide),fun _=>⟨trivial,?_⟩⟩
 refine Back.mk (j+1) (by show j+1≤l.length;omega) (by show l.length-(j+1)<l.length-j;omega) (p0:=let v0:=Prod.fst (za1 d (List.getD l j default));let v1:=runD (zaR room) (List.take (j+(1:Nat)) l);IntKind.wrap IntKind.i64 ((↑j:Int)+(1:Int))=(↑(j+(1:Nat)):Int)∧false=false∧l=l∧v0=v1∧RDisk.room v0=RDisk.room v1∧RDisk.lasts v0=RDisk.lasts v1∧RDisk.down v0=RDisk.down v1∧RDisk.stops v0=RDisk.stops v1∧RDisk.left v0=RDisk.left v1∧RDisk.changes v0=RDisk.changes v1∧True) (by kernel_rfl) ?_
 have es:=hsu hj2
 dsimp only
 rw [es]
 exact ⟨ew,rfl,rfl,rfl,rfl,rfl,rfl,rfl,rfl,rfl,trivial⟩
theorem zgj (room:Int) (l:List DOp):FnC Try.prog 5 [dInt.can room,dDOps.can l] (.bool true) D2:=by
 by_cases h:1≤room∧room≤4194304
 ·exact zfI room l h.1 h.2
 ·exact zfH room l (by omega)
theorem law_diskRuns (room:Int) (a:Option Addr) (n m:Nat) (l:List DOp) (w:World) (h0:I64 room) (h:Sl w (fun b=>b<w.heap.size) DOp.ty a n m (l.map DOp.enc)) :
  Calls Try.prog 5 #[.int .i64 room,.slice a n m] w fun e w'=>e = .returned (.bool true)∧Below w.heap.size w w' :=
 ziG (zgj room l) w (fun b=>b<w.heap.size) (fun _ hb=>hb) [.int .i64 room,.slice a n m] ⟨⟨rfl,zds h0⟩,zkU h,trivial⟩
end Go.Proofs.Ytfccndnnpkiajaa
namespace Go.Proofs.Ytfccndnnpkiajaa
open Go.RowKit Go.ChangeShapes Go.WideShapes Go.Deep
def zhZ (P:Program) (ts:List Ty) (ok:TypeId→List Ty→Bool):Nat→List Field→Bool
 | o,[]=>o==ts.length
 | o,f::fs=>f.offset==o&&ok f.type ((ts.drop o).take (P.cellsOf f.type))&&decide (o+P.cellsOf f.type≤ts.length)&&zhZ P ts ok (o+P.cellsOf f.type) fs
def okTy (P:Program):Nat→TypeId→List Ty→Bool
 | 0,_,_=>false
 | n+1,t,ts=>match P.underlying t with
  | some (.int k)=>match ts with | [.int k']=>decide (k=k') | _=>false
  | some .bool=>match ts with | [.bool]=>true | _=>false
  | some .string=>match ts with | [.str]=>true | _=>false
  | some (.slice e)=>match ts with | [.sl fs]=>okTy P n e fs&&P.cellsOf e==fs.length&&decide (1≤P.bytesOf e)&&decide (0<fs.length) | _=>false
  | some (.struct fs)=>P.cellsOf t==ts.length&&zhZ P ts (okTy P n) 0 fs.toList
  | _=>false
theorem RdL.append {w:World} {S:Nat→Prop}:∀ {ts us:List Ty} {vs xs:List Value} {ds es:List D},RdL w S ts vs ds→RdL w S us xs es→RdL w S (ts++us) (vs++xs) (ds++es)
 | [],_,[],_,[],_,_,h=>h
 | _::ts,_,_::vs,_,_::ds,_,h,k=>⟨h.1,RdL.append (ts:=ts) (vs:=vs) (ds:=ds) h.2 k⟩
 | _::_,_,[],_,_,_,h,_=>h.elim
 | _::_,_,_::_,_,[],_,h,_=>h.elim
 | [],_,_::_,_,_,_,h,_=>h.elim
 | [],_,[],_,_::_,_,h,_=>h.elim
section
variable {H : Type} {enc : TypeId × Value → H} {P : Program} {w : World} {base : Nat} {spare : Nat → Bool} {held : Bool}
def znC (P:Program) (t:TypeId) (d:DataW H):Prop:=∀ n∈d.weights P t,n≤reachBytes
theorem zgx (ok:TypeId→List Ty→Bool) (ts:List Ty) (cs:List Value) (hcl:cs.length=ts.length):∀ (fs:List Field) (o:Nat),o≤ts.length→zhZ P ts ok o fs=true →
  (∀ f∈fs,∀ us,ok f.type us=true→∃ ds,RdL w (fun b=>b<w.heap.size) us ((cs.drop f.offset).take (P.cellsOf f.type)) ds) →
  ∃ ds,RdL w (fun b=>b<w.heap.size) (ts.drop o) (cs.drop o) ds
 | [],o,ho,h,_=>by
  simp only [zhZ,beq_iff_eq] at h
  subst h
  rw [List.drop_length,List.drop_eq_nil_of_le (by omega)]
  exact ⟨[],trivial⟩
 | f::fs,o,ho,h,hf=>by
  simp only [zhZ,Bool.and_eq_true,beq_iff_eq,decide_eq_true_eq] at h
  obtain ⟨⟨⟨rfl,h2⟩,h3⟩,h4⟩:=h
  obtain ⟨d1,k1⟩:=hf f (List.mem_cons_self ..) _ h2
  obtain ⟨d2,k2⟩:=zgx ok ts cs hcl fs _ h3 h4 (fun g hg=>hf g (List.mem_cons_of_mem _ hg))
  refine ⟨d1++d2,?_⟩
  have e1:ts.drop f.offset=(ts.drop f.offset).take (P.cellsOf f.type)++ts.drop (f.offset+P.cellsOf f.type):=by
   rw [← List.drop_drop,List.take_append_drop]
  have e2:cs.drop f.offset=(cs.drop f.offset).take (P.cellsOf f.type)++cs.drop (f.offset+P.cellsOf f.type):=by
   rw [← List.drop_drop,List.take_append_drop]
  rw [e1,e2]
  exact RdL.append k1 k2
theorem zdA {e:TypeId}:∀ {l:List (DataW H)} {d:DataW H},d∈l→∀ n∈d.weights P e,n∈DataW.weightsAll P e l
 | x::l,d,hd,n,hn=>by
  simp only [DataW.weightsAll,List.mem_append]
  rcases List.mem_cons.1 hd with h | h
  ·subst h;exact .inl hn
  ·exact .inr (zdA h n hn)
theorem zcZ:∀ (n:Nat) (t:TypeId) (ts:List Ty) (fuel:Nat) (cs:List Value) (x:DataW H×List MemPlace),okTy P n t ts=true→DataW.trod enc P w base spare held fuel t cs=some x→znC P t x.1→w.noneFrozen x.2 →
  ∃ ds,RdL w (fun b=>b<w.heap.size) ts cs ds
 | 0,_,_,_,_,_,h,_,_,_=>by simp [okTy] at h
 | n+1,t,ts,fuel,cs,x,h,ht,hw,hz=>by
  unfold okTy at h
  split at h
  ·rename_i k hu
   split at h
   ·rename_i k'
    have hk:k=k':=of_decide_eq_true h
    subst hk
    obtain ⟨m,rfl,_,hm⟩:=DataW.trod_int hu ht
    exact ⟨[.int m],.int hm,trivial⟩
   ·cases h
  ·rename_i hu
   split at h
   ·obtain ⟨b,rfl,_⟩:=DataW.trod_bool hu ht
    exact ⟨[.bool b],.bool,trivial⟩
   ·cases h
  ·rename_i hu
   split at h
   ·obtain ⟨s,rfl,rfl,_⟩:=DataW.trod_string hu ht
    have:=hw s.data.toList.length (by simp [DataW.weights])
    refine ⟨[.str s],.str ?_,trivial⟩
    have e:s.data.toList.length=s.size:=by rw [Array.length_toList];rfl
    rw [e] at this
    unfold reachBytes at this
    omega
   ·cases h
  ·rename_i e hu
   split at h
   ·rename_i fs
    simp only [Bool.and_eq_true,beq_iff_eq,decide_eq_true_eq] at h
    obtain ⟨⟨⟨h1,h2⟩,h3⟩,h4⟩:=h
    rcases open_slice hu ht with ⟨rfl,_⟩ | ⟨a,len,cap,m,n',Dd,Pl,rfl,hb,hl,hm,hmm,hx,hi⟩
    ·exact ⟨[.sl []],.emp (fun _=>rfl) (by simp [maxLen]),trivial⟩
    ·have hlm:len≤m:=by rw [hmm];split<;>omega
     have hx1:x.1 = .slice ((List.range len).map Dd) ((List.range (m-len)).map fun j=>Dd (len+j)):=by rw [hx]
     have hbd:len*1≤reachBytes:=by
      have:=hw ((((List.range len).map Dd).length+((List.range (m-len)).map fun j=>Dd (len+j)).length)*P.bytesOf e) (by rw [hx1];simp [DataW.weights,hu])
      simp only [List.length_map,List.length_range] at this
      exact Nat.le_trans (Nat.mul_le_mul (by omega) h3) this
     have each:∀ i,i<len→∃ cs' ds,w.cells? base (a.add (i*P.cellsOf e)) (P.cellsOf e)=some cs'∧RdL w (fun b=>b<w.heap.size) fs cs' ds:=by
      intro i hi'
      obtain ⟨cs',hc,htt⟩:=hi i (by omega)
      obtain ⟨ds,hd⟩:=zcZ n e fs n' cs' _ h1 htt (fun q hq=>hw q (by
       rw [hx1]
       simp only [DataW.weights,hu,List.mem_cons,List.mem_append]
       exact .inr (.inl (zdA (List.mem_map.2 ⟨i,List.mem_range.2 hi',rfl⟩) q hq)))) (fun b off hp=>hz b off (by
       rw [hx]
       exact List.mem_append.2 (.inr (List.mem_flatMap.2 ⟨i,List.mem_range.2 (by omega),hp⟩))))
      exact ⟨cs',ds,hc,hd⟩
     by_cases hp:0<len
     ·let C:Nat→List Value:=fun i=>if hh:i<len then Classical.choose (each i hh) else []
      let DD:Nat→List D:=fun i=>if hh:i<len then Classical.choose (Classical.choose_spec (each i hh)) else []
      have hC:∀ i,i<len→w.cells? base (a.add (i*P.cellsOf e)) (P.cellsOf e)=some (C i)∧RdL w (fun b=>b<w.heap.size) fs (C i) (DD i):=by
       intro i hh
       simp only [C,DD,hh,dif_pos]
       exact Classical.choose_spec (Classical.choose_spec (each i hh))
      have hcell:∀ i j,i<len→j<fs.length→w.cell? ((a.add (i*fs.length)).add j)=some ((C i).getD j undef):=by
       intro i j hi' hj
       obtain ⟨c1,c2⟩:=hC i hi'
       rw [h2] at c1
       obtain ⟨_,hcl,hat⟩:=World.cells?_some c1
       rw [hat j hj]
       simp [List.getD,List.getElem?_eq_getElem (show j<(C i).length by omega)]
      have h00:=hcell 0 0 hp h4
      obtain ⟨b,off,spot⟩:=a
      have hspot:spot=none:=by simpa [Addr.add] using World.cell?_spot h00
      subst hspot
      have hblk:b<w.heap.size:=by
       have:=World.block_lt_of_cell? _ _ h00
       simpa [Addr.add] using this
      refine ⟨[.sl ((List.range len).map DD)],.row (fun i j=>(C i).getD j undef) hp (by simp) hl hm (by unfold reachBytes at hbd;omega) hblk hblk (fun i j hi' hj=>?_) (fun i hi'=>?_) (fun i j hi' hj=>?_) (fun i j hi' hj=>?_),trivial⟩
      ·have:=hcell i j hi' hj
       rwa [WideShapes.add_plain,WideShapes.add_plain] at this
      ·have:=(hC i hi').2.lens.2
       simpa [List.getD,hi'] using this
      ·have:=(hC i hi').2.at j hj
       simpa [List.getD,hi'] using this
      ·refine hz b _ ?_
       rw [hx]
       refine List.mem_append.2 (.inl ?_)
       unfold MemPlace.row
       refine List.mem_map.2 ⟨i*fs.length+j,List.mem_range.2 ?_,by rw [Nat.add_assoc]⟩
       rw [h2]
       have h5:(i+1)*fs.length≤m*fs.length:=Nat.mul_le_mul_right _ (by omega)
       rw [Nat.add_mul] at h5;omega
     ·have h0:len=0:=by omega
      subst h0
      exact ⟨[.sl []],.emp (fun hh=>by cases hh) hm,trivial⟩
   ·cases h
  ·rename_i fs hu
   simp only [Bool.and_eq_true,beq_iff_eq] at h
   obtain ⟨h1,h2⟩:=h
   obtain ⟨xs,n',_,hx,hcl,hxl,hall⟩:=DataW.trod_struct hu ht
   have:=zgx (P:=P) (w:=w) (okTy P n) ts cs (by omega) fs.toList 0 (Nat.zero_le _) h2 (fun f hf us hus=>by
    obtain ⟨i,hi⟩:=List.getElem?_of_mem hf
    rw [Array.getElem?_toList] at hi
    have hilt:i<fs.size:=(Array.getElem?_eq_some_iff.1 hi).1
    have h3:=hall i f hi
    rw [List.getElem?_eq_getElem (show i<xs.length by omega)] at h3
    refine zcZ n f.type us n' _ _ hus h3 (fun q hq=>hw q ?_) (fun b off hp=>hz b off (by
     rw [hx]
     exact List.mem_flatMap.2 ⟨_,List.getElem_mem (show i<xs.length by omega),hp⟩))
    rw [hx]
    simp only [DataW.weights,hu]
    refine DataW.weights_mem_each (j:=i) (t:=f.type) (d:=xs[i].1) ?_ ?_ q hq
    ·rw [List.getElem?_map,Array.getElem?_toList,hi];rfl
    ·rw [List.getElem?_map,List.getElem?_eq_getElem (show i<xs.length by omega)];rfl)
   simpa using this
  ·cases h
theorem rd_arg {t:TypeId} {ts:List Ty} {v:Value} {d:DataW H} {p:List MemPlace} (n:Nat) (hok:okTy P n t ts=true) (h:DataW.Trod enc P w base spare held t v d p) (hw:znC P t d) (hz:w.noneFrozen p):∃ ds,RdL w (fun b=>b<w.heap.size) ts v.cells.toList ds:=by
 obtain ⟨fuel,hf⟩:=h
 exact zcZ n t ts fuel _ _ hok hf hw hz
theorem light_of {tys:List TypeId} {ds:List (DataW H)} (h:(DataW.weightsEach P tys ds).all (· ≤ reachBytes)=true) {j:Nat} {t:TypeId} {d:DataW H} (ht:tys[j]? = some t) (hd:ds[j]? = some d):znC P t d:=fun n hn=>by
 simpa using List.all_eq_true.1 h n (DataW.weights_mem_each ht hd n hn)
end
end Go.Proofs.Ytfccndnnpkiajaa
