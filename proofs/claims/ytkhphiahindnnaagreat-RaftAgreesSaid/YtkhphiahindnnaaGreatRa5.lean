/- Parts of the proof, joined: the symbolic walk and what it is told of each function. Condition: as each theorem says. -/
import Derived.Stop.RegionWithIn
import Derived.Test.YtkhphiahindnnaaGreatRa4
set_option linter.unusedVariables false
set_option linter.unusedSimpArgs false
set_option linter.unusedSectionVars false
namespace Go.Proofs.YtkhphiahindnnaaGreat
open Go.RowKit Go.Shelf
attribute [local go_sem] Oper.semAt_some
def zxS (w:World) (c:Config) (at_ er:Int) (e:Ending) (w':World):Prop:=∃ vs:List Value,e = .returned (.tuple #[.agg vs.toArray,.int .i64 at_,.int .i64 er])/\RdL w' (fun b=>w.heap.size<=b) Config.ty vs c.enc/\Below w.heap.size w w'
theorem zm1 (vs:List Value) (c:Config) (w:World) (S:Nat->Prop) (h:RdL w S Config.ty vs c.enc) (hc:c.voters.length<=1000000/\c.learners.length<=1000000) :
  Calls Tryz.prog 80 #[.agg vs.toArray] w (fun e w'=>∃ us:List Value,e = .returned (.agg us.toArray)/\RdL w' (fun b=>w.heap.size<=b) Config.ty us c.enc/\Below w.heap.size w w'):=
 ((zd9 c hc).2 w (E0 fun b=>b<w.heap.size) [.agg vs.toArray] (mem0 fun _ hb=>hb) ⟨⟨vs,rfl,Config.svs_of (h.mono fun b hb _=>znn hb)⟩,trivial⟩).mono (by
  rintro e w' ⟨v,E',rfl,⟨us,rfl,hl⟩,hm⟩
  exact ⟨us,rfl,RdL.mono (fun b _ ⟨i,hi,hs⟩=>zuI hm (by simp at hi;omega) hs) (Config.svs_rd hl),zno hm⟩)
theorem Rd.ints_own {w w':World} {S:Nat->Prop} {v:Value} {d:D} (h:Rd w S (.sl [.int .i64]) v d) (hz:w.heap.size<=w'.heap.size)
  (hs:∀ b o,S b->w.heap[b]? = some o->o.isCells=true->w'.heap[b]? = w.heap[b]?):Rd w' S (.sl [.int .i64]) v d:=by
 cases h with
 | emp h h'=>exact .emp h h'
 | @row _ b off n c rows vals h1 h2 h3 h4 h5 h6 h7 h8 h9 h10 h11=>
  have hb:w'.heap[b]? = w.heap[b]? := by
   have h0:=h8 0 0 h1 (by decide)
   cases ho:w.heap[b]? with
   | none=>rw [Array.getElem?_eq_none_iff] at ho;omega
   | some o=>
    rw [<- ho]
    refine hs b o h6 ho ?_
    unfold World.cell? at h0
    cases o<;>simp_all [Obj.isCells]
  have hS:Same (fun x=>x=b) w w':=⟨hz,fun x hx _=>by rw [hx];exact hb⟩
  refine .row vals h1 h2 h3 h4 h5 h6 (by omega) (fun i j hi hj=>by rw [hS.cell rfl h7];exact h8 i j hi hj) h9 (fun i j hi hj=>?_) (fun i j hi hj=>by rw [hS.frozen rfl h7];exact h11 i j hi hj)
  have:=h10 i j hi hj
  have e:([Ty.int .i64]:List Ty).getD j default = .int .i64:=by
   have:j=0:=by simp at hj;omega
   subst this;rfl
  rw [e] at this ⊢
  generalize vals i j=u at this
  generalize (rows.getD i []).getD j default=dd at this
  cases this with
  | int h=>exact .int h
theorem zer {β:Type} {B n:Nat} {vs:List Value} {c:Config}:OwnFrom B (fun (_:β) W=>RdL W (fun b=>n<=b) Config.ty vs c.enc):=fun s A C row hs hg hr=>by
 match vs,hs with
 | [v0,v1],hs=>
  have hb:∀ b o,n<=b->A.heap[b]? = some o->o.isCells=true->C.heap[b]? = A.heap[b]? := fun b o _ ho hc=>by
   refine hg.block b (Array.getElem?_eq_some_iff.1 ho).1 fun e=>?_
   obtain ⟨_,o',ho',hc'⟩:=hr b e.symm
   rw [ho] at ho';cases ho';rw [hc] at hc';cases hc'
  exact ⟨hs.1.ints_own hg.size hb,hs.2.1.ints_own hg.size hb,trivial⟩
def cfB (i:Int) (e:Entry):Bool:=decide (e.index<=i)&&e.kind==2
def cfF (k:Kept) (i:Int):Config×Int:=match k.entries.reverse.find? (cfB i) with
 | some e=>(e.config,e.index)
 | none=>(k.snap.config,k.snap.index)
theorem zp7 (k:Kept):∀ n,n<=k.entries.length->(dn k.entries.length n).map k.en=k.entries.reverse.take n
 | 0,_=>by simp [dn]
 | n+1,h=>by
  rw [zl5,List.map_append,zp7 k n (by omega),List.take_add_one]
  congr 1
  rw [List.getElem?_reverse (by omega)]
  simp [Kept.en,List.getD,show k.entries.length-1-n<k.entries.length by omega]
theorem zwn {k:Kept} {i:Int} {ini:List Nat} {x n:Nat} (hn:n<=k.entries.length) (h:ini++[x]=dn k.entries.length n) (h0:∀ y∈ini,cfB i (k.en y)=false) (h1:cfB i (k.en x)=true):cfF k i=((k.en x).config,(k.en x).index):=by
 have e:k.entries.reverse=(ini++[x]).map k.en++k.entries.reverse.drop n:=by rw [h,zp7 k n hn,List.take_append_drop]
 have:k.entries.reverse.find? (cfB i)=some (k.en x):=by
  rw [e,List.map_append,List.append_assoc,List.find?_append]
  have:(ini.map k.en).find? (cfB i)=none:=by
   rw [List.find?_eq_none];intro p hp
   obtain ⟨y,hy,rfl⟩:=List.mem_map.1 hp
   simp [h0 y hy]
  simp [this,h1]
 rw [cfF,this]
theorem zt8 {k:Kept} {i:Int} (h0:∀ y∈dn k.entries.length k.entries.length,cfB i (k.en y)=false):cfF k i=(k.snap.config,k.snap.index):=by
 have:k.entries.reverse.find? (cfB i)=none:=by
  rw [<- List.take_of_length_le (l:=k.entries.reverse) (i:=k.entries.length) (by simp),<- zp7 k _ (Nat.le_refl _),List.find?_eq_none]
  intro p hp
  obtain ⟨y,hy,rfl⟩:=List.mem_map.1 hp
  simp [h0 y hy]
 rw [cfF,this]
def zev:Nat->Value
 | 0=> .int .i64 0
 | 1=> .int .i64 0
 | 2=> .int .i64 0
 | 3=> .slice none 0 0
 | 4=> .slice none 0 0
 | _=> .string (default:Entry).data
theorem zq1 {k:Kept} {x:Nat} (h:¬ x<k.entries.length):k.en x=default:=by
 unfold Kept.en;rw [List.getD_eq_getElem?_getD,List.getElem?_eq_none (by omega)];rfl
theorem zq0 {w:World} {S:Nat->Prop} {a:Option Addr} {c:Nat} {k:Kept} (h:Sl w S Entry.ty a k.entries.length c (k.entries.map Entry.enc)) :
  ∃ ev:Nat->Nat->Value,(∀ x,EvOk (k.en x) (ev x))/\(∀ x,RdL w S Config.ty [ev x 3,ev x 4] (k.en x).config.enc) /\
   (0<k.entries.length->∃ b off,a=some ⟨b,off,none⟩/\b<w.heap.size/\∀ i j,i<k.entries.length->j<6->w.cell? ⟨b,off+i*6+j,none⟩=some (ev i j)):=by
 have z1:∀ x,¬ x<k.entries.length->EvOk (k.en x) zev:=fun x hx=>by rw [zq1 hx];exact ⟨none,0,none,0,rfl,rfl,rfl,rfl,rfl,rfl⟩
 have z2:∀ x,¬ x<k.entries.length->RdL w S Config.ty [zev 3,zev 4] (k.en x).config.enc:=fun x hx=>by
  rw [zq1 hx];exact ⟨.emp (fun _=>rfl) (Nat.zero_le _),.emp (fun _=>rfl) (Nat.zero_le _),trivial⟩
 by_cases hp:0<k.entries.length
 ·obtain ⟨b,off,e,_,hb,vals,hc,hr⟩:=h.rowAt hp
  refine ⟨fun i=>if i<k.entries.length then vals i else zev,fun x=>?_,fun x=>?_,fun _=>⟨b,off,e,hb,fun i j hi hj=>?_⟩⟩
  ·by_cases hx:x<k.entries.length
   ·obtain ⟨h1,h2⟩:=hr x hx
    have he:(k.entries.map Entry.enc).getD x []=(k.en x).enc:=by simp [Kept.en,List.getD,hx]
    rw [he] at h2
    simp only [if_pos hx]
    obtain ⟨a3,c3,q3,_⟩:=Rd.sl' (h2 3 (by decide))
    obtain ⟨a4,c4,q4,_⟩:=Rd.sl' (h2 4 (by decide))
    rw [zap] at q3 q4
    exact ⟨a3,c3,a4,c4,(Rd.i64 (h2 0 (by decide))).1,(Rd.i64 (h2 1 (by decide))).1,(Rd.i64 (h2 2 (by decide))).1,q3,q4,(Rd.str' (h2 5 (by decide))).1⟩
   ·simp only [if_neg hx]
    exact z1 x hx
  ·by_cases hx:x<k.entries.length
   ·obtain ⟨h1,h2⟩:=hr x hx
    have he:(k.entries.map Entry.enc).getD x []=(k.en x).enc:=by simp [Kept.en,List.getD,hx]
    rw [he] at h2
    simp only [if_pos hx]
    exact ⟨h2 3 (by decide),h2 4 (by decide),trivial⟩
   ·simp only [if_neg hx]
    exact z2 x hx
  ·show _=some ((if i<k.entries.length then vals i else _) j)
   rw [if_pos hi]
   exact hc i j hi hj
 ·exact ⟨fun _=>zev,fun x=>z1 x (by omega),fun x=>z2 x (by omega),fun h=>absurd h hp⟩
theorem zrs {w Wi W':World} {c:Config} {N g2 g3 g4:Nat} {t2 t3 t4:TypeId} {p0 p1:Option Addr} {n0 d0 n1 d1:Nat} {idx:Int} (hR:RdL W' (fun b=>Wi.heap.size<=b) Config.ty [.slice p0 n0 d0,.slice p1 n1 d1] c.enc) (hB:Below w.heap.size w Wi) (hBW:Below Wi.heap.size Wi.drew W')
  (k2:Blk Wi g2 t2 #[.slice none 0 0,.slice none 0 0]) (k3:Blk Wi g3 t3 #[.int .i64 0]) (k4:Blk Wi g4 t4 #[.int .i64 0]) (h2:w.heap.size<=g2) (h23:g2<g3) (h34:g3<g4) (hN:g4<N) :
  ∀ W'',W''=(((W'.setCell ⟨g2,0,none⟩ (.slice p0 n0 d0)).setCell ⟨g2,1,none⟩ (.slice p1 n1 d1)).setCell ⟨g3,0,none⟩ (.int .i64 idx)).setCell ⟨g4,0,none⟩ (.int .i64 0) ->
   KeepsFrom N Wi W''/\RdL W'' (fun b=>w.heap.size<=b) Config.ty [.slice p0 n0 d0,.slice p1 n1 d1] c.enc/\Blk W'' g2 t2 #[.slice p0 n0 d0,.slice p1 n1 d1]/\Blk W'' g3 t3 #[.int .i64 idx]/\Blk W'' g4 t4 #[.int .i64 0]/\Below w.heap.size w W'':=by
 rintro W'' rfl
 have l2:=k2.lt
 have l3:=k3.lt
 have l4:=k4.lt
 have m2:=k2.drew.below hBW l2
 have m3:=k3.drew.below hBW l3
 have m4:=k4.drew.below hBW l4
 have hBx:Below w.heap.size w W':=Below.trans (b:=Wi.drew) ⟨hB.os,hB.tape,hB.output,hB.size,hB.block⟩ (hBW.mono hB.size)
 have sm:∀ M,g4<M->Same (fun b=>M<=b) W' ((((W'.setCell ⟨g2,0,none⟩ (.slice p0 n0 d0)).setCell ⟨g2,1,none⟩ (.slice p1 n1 d1)).setCell ⟨g3,0,none⟩ (.int .i64 idx)).setCell ⟨g4,0,none⟩ (.int .i64 0)):=fun M hM=>
  (((Same.setCell (by show ¬ M<=g2;omega) _).trans (Same.setCell (by show ¬ M<=g2;omega) _)).trans (Same.setCell (by show ¬ M<=g3;omega) _)).trans (Same.setCell (by show ¬ M<=g4;omega) _)
 have s0:Same (fun b=>N<=b) Wi W':=⟨hBW.size,fun b _ hl=>hBW.block b hl⟩
 refine ⟨(s0.trans (sm N hN)).keeps,RdL.mono (fun b _ hb=>Nat.le_trans hB.size hb) (RdL.same (sm Wi.heap.size l4) hR),?_,?_,?_,?_⟩
 ·exact (((m2.set 0 _).set 1 _).far (by show g2≠g3;omega) _).far (by show g2≠g4;omega) _
 ·exact (((m3.far (by show g3≠g2;omega) _).far (by show g3≠g2;omega) _).set 0 _).far (by show g3≠g4;omega) _
 ·exact (((m4.far (by show g4≠g2;omega) _).far (by show g4≠g2;omega) _).far (by show g4≠g3;omega) _).set 0 _
 ·exact (((hBx.setCell h2 _).setCell h2 _).setCell (by show w.heap.size<=g3;omega) _).setCell (by show w.heap.size<=g4;omega) _
def zoH (Q:Exit->Act->World->Prop):Exit->Act->World->Prop
 | .normal,a,w=>Q .normal a w
 | _,_,_=>False
theorem zkJ {F:Fence} {n:Nat} {P:Program} {c:Code} {Q:Exit->Act->World->Prop} {a:Act} {w:World} (h:c.wpIn F n P (zoH Q) a w):c.wpIn F n P Q a w:=
 Code.wpIn_mono (fun e a w h=>by cases e<;>first | exact h | exact h.elim) h
theorem zoG {Q:Exit->Act->World->Prop} {a:Act} {w:World} (h:Q .normal a w):zoH Q .normal a w:=h
set_option maxRecDepth 100000 in
set_option maxHeartbeats 4000000 in
theorem zoh (vs:List Value) (k:Kept) (index:Int) (w:World) (S:Nat->Prop) (h:RdL w S Kept.ty vs k.enc)
  (hk:(k.snap.config.voters.length<=1000000/\k.snap.config.learners.length<=1000000)/\∀ x,(k.en x).config.voters.length<=1000000/\(k.en x).config.learners.length<=1000000) (ht:(zaQ k index).2=0) :
  Calls Tryz.prog 45 #[.agg vs.toArray,.int .i64 index] w (zxS w (cfF k index).1 (cfF k index).2 0):=by
 have hcall:=fun w' (hb:Below w.heap.size w w')=>zie vs k index w' S (RdL.same (Same.below hb) h)
 obtain ⟨a4,c4,a5,c5,a7,c7,rfl,b0,b1,b2,b3,s4,s5,b6,s7⟩:=Kept.opens h
 have HC:=Lib.hid hcall
 have H7:=Lib.hid s7
 have H4:=Lib.hid s4
 have H5:=Lib.hid s5
 have HT:=Lib.hid ht
 have HK:=Lib.hid hk
 clear h s4 s5 s7 hcall ht hk
 refine callsIn_wide.1 (callsIn_of_wp_marks (n:=20) Tryz.func45 rfl trivial ?_ rfl)
 simp only [Tryz.ntmps45,List.size_toArray,List.length_cons,List.length_nil,Nat.reduceAdd,Nat.reduceSub,Array.replicate_succ,Array.replicate_zero,List.push_toArray,List.append_toArray,List.nil_append,List.cons_append]
 gi_wp2_with fail
 refine ⟨trivial,?_⟩
 refine (callsIn_wide.2 (HC.out _ ((((((Below.refl _ _).alloc (Nat.le_refl _) _).alloc (by simp) _).alloc (by simp<;>omega) _).alloc (by simp<;>omega) _).alloc (by simp<;>omega) _))).mono ?_
 obtain ⟨W0,hW0⟩:∃ W0,((((w.alloc (.cells #[.int .i64 k.term,.int .i64 k.vote,.int .i64 k.snap.index,.int .i64 k.snap.term,.slice a4 (k.snap.config.voters).length c4,.slice a5 (k.snap.config.learners).length c5,.string k.snap.data,.slice a7 (k.entries).length c7] 45)).alloc (.cells #[.int .i64 index] 3)).alloc (.cells #[.slice none 0 0,.slice none 0 0] 40)).alloc (.cells #[.int .i64 0] 3)).alloc (.cells #[.int .i64 0] 53)=W0:=⟨_,rfl⟩
 rintro e w1 ⟨rfl,B1⟩
 have hz0:W0.heap.size=w.heap.size+5:=by rw [<- hW0];simp
 have hB0:Below w.heap.size w W0:=by rw [<- hW0];exact ((((((Below.refl _ _).alloc (Nat.le_refl _) _).alloc (by simp) _).alloc (by simp<;>omega) _).alloc (by simp<;>omega) _).alloc (by simp<;>omega) _)
 rw [HT.out]
 rw [hW0] at B1
 have kb:=(show Blk W0 w.heap.size 45 #[.int .i64 k.term,.int .i64 k.vote,.int .i64 k.snap.index,.int .i64 k.snap.term,.slice a4 (k.snap.config.voters).length c4,.slice a5 (k.snap.config.learners).length c5,.string k.snap.data,.slice a7 (k.entries).length c7] by rw [<- hW0];exact ((((Blk.newAt w w.heap.size 45 #[.int .i64 k.term,.int .i64 k.vote,.int .i64 k.snap.index,.int .i64 k.snap.term,.slice a4 (k.snap.config.voters).length c4,.slice a5 (k.snap.config.learners).length c5,.string k.snap.data,.slice a7 (k.entries).length c7] rfl).alloc _).alloc _).alloc _).alloc _).below B1 (by omega)
 have k1:=(show Blk W0 (w.heap.size+1) 3 #[.int .i64 index] by rw [<- hW0];exact (((Blk.newAt _ (w.heap.size+1) 3 #[.int .i64 index] (by simp)).alloc _).alloc _).alloc _).below B1 (by omega)
 have k2:=(show Blk W0 (w.heap.size+1+1) 40 #[.slice none 0 0,.slice none 0 0] by rw [<- hW0];exact ((Blk.newAt _ (w.heap.size+1+1) 40 #[.slice none 0 0,.slice none 0 0] (by simp)).alloc _).alloc _).below B1 (by omega)
 have k3:=(show Blk W0 (w.heap.size+1+1+1) 3 #[.int .i64 0] by rw [<- hW0];exact (Blk.newAt _ (w.heap.size+1+1+1) 3 #[.int .i64 0] (by simp)).alloc _).below B1 (by omega)
 have k4:=(show Blk W0 (w.heap.size+1+1+1+1) 53 #[.int .i64 0] by rw [<- hW0];exact Blk.newAt _ (w.heap.size+1+1+1+1) 53 #[.int .i64 0] (by simp)).below B1 (by omega)
 have B2:Below w.heap.size w w1:=hB0.trans (B1.mono (by omega))
 have hz:=B1.size
 clear hW0 B1 hB0
 obtain ⟨q0,q1,q2,q3,q4,q5,q6,q7⟩:=box8 kb
 gi_wp2_with fail
 refine ⟨trivial,?_⟩
 refine (zr5 _ _ _ _ _).mono ?_
 rintro e w2 ⟨rfl,hw2⟩
 have B3:Below w1.heap.size w1 w2:=by rw [<- hw2];exact (Below.refl _ _).alloc (Nat.le_refl _) _
 have z2:w2.heap.size=w1.heap.size+1:=by rw [<- hw2];simp
 have hsb:w2.cell? ⟨w1.heap.size,0,none⟩=some (.slice a7 k.entries.length c7):=by
  rw [<- hw2,World.cell?_alloc_at _ _ _ _ (by simp)];rfl
 have kb':=kb.below B3 kb.lt
 have k1':=k1.below B3 k1.lt
 have k2':=k2.below B3 k2.lt
 have k3':=k3.below B3 k3.lt
 have k4':=k4.below B3 k4.lt
 have s7:Sl w2 S Entry.ty a7 k.entries.length c7 (k.entries.map Entry.enc):=(H7.out.same (Same.below B2)).same (Same.below B3)
 have s4:SlI w2 S a4 k.snap.config.voters.length c4 k.snap.config.voters:=(H4.out.same (Same.below B2)).same (Same.below B3)
 have s5:SlI w2 S a5 k.snap.config.learners.length c5 k.snap.config.learners:=(H5.out.same (Same.below B2)).same (Same.below B3)
 have B4:Below w.heap.size w w2:=B2.trans (B3.mono (by omega))
 have hlen:=s7.bd.2.2.1
 obtain ⟨ev,hev,hcf,hcells⟩:=zq0 H7.out
 have hzw:w.heap.size+5<=w1.heap.size:=by omega
 have HEV:=Lib.hid hev
 have HCF:=Lib.hid hcf
 have HCE:=Lib.hid hcells
 have HS4:=Lib.hid s4
 have HS5:=Lib.hid s5
 have HLE:=Lib.hid hlen
 have HSB:=Lib.hid hsb
 clear hw2 q0 q1 q2 q3 q4 q5 q6 q7 kb k1 k2 k3 k4 B3 s7 s4 s5 hev hcf hcells hlen hsb
 gi_wp2_with fail
 refine wpIn_rangeFunc_ownH rfl (by omega) (gf:=105) (lb:= #[.pointer (some ⟨w1.heap.size,0,none⟩)]) rfl trivial (enters_of Tryz.func105 (by kernel_rfl) rfl)
  (zhZ (20-1) w1.heap.size w.heap.size a7 k.entries.length c7 ev HLE.out w2 (by omega) (by omega) (by omega) HSB.out ?hcc) KpB.t (KpB.b (by omega)) (Below.refl _ _) (fun _=>rfl)
  (fun pre Wi=>(∀ y∈pre,cfB index (k.en y)=false)/\Blk Wi w.heap.size 45 #[.int .i64 k.term,.int .i64 k.vote,.int .i64 k.snap.index,.int .i64 k.snap.term,.slice a4 (k.snap.config.voters).length c4,.slice a5 (k.snap.config.learners).length c5,.string k.snap.data,.slice a7 (k.entries).length c7]/\Blk Wi (w.heap.size+1) 3 #[.int .i64 index]/\Blk Wi (w.heap.size+1+1) 40 #[.slice none 0 0,.slice none 0 0]/\Blk Wi (w.heap.size+1+1+1) 3 #[.int .i64 0]/\Blk Wi (w.heap.size+1+1+1+1) 53 #[.int .i64 0]/\Below w.heap.size w Wi)
  (fun c pre Wi=>(c = .ret/\∃ ini x,pre=ini++[x]/\(∀ y∈ini,cfB index (k.en y)=false)/\cfB index (k.en x)=true/\∃ u0 u1,RdL Wi (fun b=>w.heap.size<=b) Config.ty [u0,u1] (k.en x).config.enc/\Blk Wi (w.heap.size+1+1) 40 #[u0,u1]/\Blk Wi (w.heap.size+1+1+1) 3 #[.int .i64 (k.en x).index]/\Blk Wi (w.heap.size+1+1+1+1) 53 #[.int .i64 0])/\Below w.heap.size w Wi)
  ?own ?ownx ⟨fun p hp=>absurd hp (by simp),kb',k1',k2',k3',k4',B4⟩
  (fun x a' Wi=>∃ Bx,w.heap.size+5<=Bx/\Blk Wi Bx 71 #[ev x 0,ev x 1,ev x 2,ev x 3,ev x 4,ev x 5]/\a'={tmps:= #[.agg #[.int .i64 k.term,.int .i64 k.vote,.int .i64 k.snap.index,.int .i64 k.snap.term,.slice a4 (k.snap.config.voters).length c4,.slice a5 (k.snap.config.learners).length c5,.string k.snap.data,.slice a7 (k.entries).length c7],.int .i64 index,.pointer (some ⟨w.heap.size,0,none⟩),.pointer (some ⟨w.heap.size+1,0,none⟩),.pointer (some ⟨w.heap.size+1+1,0,none⟩),.pointer (some ⟨w.heap.size+1+1+1,0,none⟩),.pointer (some ⟨w.heap.size+1+1+1+1,0,none⟩),.int .i64 (zaQ k index).1,.int .i64 0,undef,.pointer (some ⟨Bx,0,none⟩),.tuple #[.int .i64 (zaQ k index).1,.int .i64 0],.agg #[.int .i64 k.term,.int .i64 k.vote,.int .i64 k.snap.index,.int .i64 k.snap.term,.slice a4 (k.snap.config.voters).length c4,.slice a5 (k.snap.config.learners).length c5,.string k.snap.data,.slice a7 (k.entries).length c7],.int .i64 index,.tuple #[.int .i64 (zaQ k index).1,.int .i64 0],.int .i64 (zaQ k index).1,.int .i64 0,.int .i64 0,.bool false,undef,undef,.pointer (some ⟨w.heap.size,7,none⟩),.slice a7 k.entries.length c7,.func (.func 105) #[] #[.pointer (some ⟨w1.heap.size,0,none⟩)],.int .i64 (x:Int),.agg #[ev x 0,ev x 1,ev x 2,ev x 3,ev x 4,ev x 5],undef,undef,undef,undef,undef,undef,undef,undef,undef,undef,undef,undef,undef,undef,undef,undef,undef,undef,undef,undef,undef],defers:=[]})
  (fun x a' s A C row hs hg hr=>by obtain ⟨Bx,h0,h2,h3⟩:=hs;exact ⟨Bx,h0,zaz (β:=Unit) () A C row h2 hg hr,h3⟩)
  ?assign ?body ?done ?stop
 case hcc=>
  intro hp
  obtain ⟨b,off,e,hb,hc⟩:=HCE.out hp
  exact ⟨b,off,e,hb,fun i j hi hj=>(B4.cell (p:=⟨b,off+i*6+j,none⟩) hb).trans (hc i j hi hj)⟩
 case own=>exact OwnFrom.and (ownFrom_pure _ _) (OwnFrom.and zaz (OwnFrom.and zaz (OwnFrom.and zaz (OwnFrom.and zaz (OwnFrom.and zaz (ownFrom_below (Nat.le_refl _) (by omega)))))))
 case ownx=>
  rintro c pre A C row ⟨⟨rfl,ini,x,rfl,h0,h1,u0,u1,h2,h3,h4,h5⟩,h6⟩ hg hr
  exact ⟨⟨rfl,ini,x,rfl,h0,h1,u0,u1,zer (β:=Unit) () A C row h2 hg hr,zaz (β:=Unit) () A C row h3 hg hr,zaz (β:=Unit) () A C row h4 hg hr,zaz (β:=Unit) () A C row h5 hg hr⟩,ownFrom_below (β:=Unit) (Nat.le_refl _) (by omega) () A C row h6 hg hr⟩
 case assign=>
  rintro l2 pre x Wi K ⟨h0,hy,h1,h2,h3,h4,hB⟩ hK
  obtain ⟨a3,c3,a4,c4,e0,e1,e2,e3,e4,e5⟩:=HEV.out x
  unfold zkt
  rw [e0,e1,e2,e3,e4,e5] at hK ⊢
  gi_wp2
  exact hK _ _ ((KeepsOthers.alloc _ _).from _) ⟨(Below.refl _ Wi).alloc hB.size _,fun hc=>(World.cell?_alloc_lt Wi _ _ (World.block_lt_of_cell? _ _ hc)).trans hc⟩ ⟨h0,hy.alloc _,h1.alloc _,h2.alloc _,h3.alloc _,h4.alloc _,hB.alloc hB.size _⟩ ⟨Wi.heap.size,by have:=h4.lt;omega,Blk.new Wi _ _,rfl⟩
 case body=>
  rintro l2 pre x a' Wi hl2 ⟨r,hr⟩ ⟨h0,hy,h1,h2,h3,h4,hB⟩ ⟨Bx,hbz,hbx,rfl⟩ hlt
  obtain ⟨a3,c3,a4,c4,e0,e1,e2,e3,e4,e5⟩:=HEV.out x
  have HBX:=Lib.hid hbx
  have z2:Bx≠w.heap.size+1+1:=by omega
  have z3:Bx≠w.heap.size+1+1+1:=by omega
  have z4:Bx≠w.heap.size+1+1+1+1:=by omega
  rw [e0,e1,e2,e3,e4,e5] at hbx ⊢
  have q0:Wi.cell? ⟨Bx,0,none⟩=some (.int .i64 (k.en x).index):=hbx.cell 0
  have q2:Wi.cell? ⟨Bx,2,none⟩=some (.int .i64 (k.en x).kind):=hbx.cell 2
  have q1:Wi.cell? ⟨w.heap.size+1,0,none⟩=some (.int .i64 index):=h1.cell 0
  have q3:Wi.cell? ⟨Bx,3,none⟩=some (.slice a3 (k.en x).config.voters.length c3):=hbx.cell 3
  have q4:Wi.cell? ⟨Bx,4,none⟩=some (.slice a4 (k.en x).config.learners.length c4):=hbx.cell 4
  have H0:=Lib.hid h0
  clear h0
  have HOC:=Lib.hid (show CallsIn (Fence.wide.inRound l2) 17 Tryz.prog 80 #[.agg #[.slice a3 (k.en x).config.voters.length c3,.slice a4 (k.en x).config.learners.length c4]] Wi.drew (fun e W'=>∃ (p0 p1:Option Addr) (n0 d0 n1 d1:Nat),e = .returned (.agg #[.slice p0 n0 d0,.slice p1 n1 d1])/\RdL W' (fun b=>Wi.heap.size<=b) Config.ty [.slice p0 n0 d0,.slice p1 n1 d1] (k.en x).config.enc/\Below Wi.heap.size Wi.drew W') from ?ownc)
  ·gi_wp2_with fail
   ·gi_region_with (refine ⟨trivial,?_⟩;refine HOC.out.mono ?_;rintro e W' ⟨p0,p1,n0,d0,n1,d1,rfl,hR,hBW⟩;have HR:=Lib.hid hR;have m0:W'.cell? ⟨Bx,0,none⟩=some (.int .i64 (k.en x).index):=(hBW.cell (p:=⟨Bx,0,none⟩) hbx.lt).trans q0;have n2:Blk W' (w.heap.size+1+1) 40 #[.slice none 0 0,.slice none 0 0]:=h2.drew.below hBW h2.lt;have n3:Blk W' (w.heap.size+1+1+1) 3 #[.int .i64 0]:=h3.drew.below hBW h3.lt;have n4:Blk W' (w.heap.size+1+1+1+1) 53 #[.int .i64 0]:=h4.drew.below hBW h4.lt;have f2:W'.frozen? ⟨w.heap.size+1+1,0,none⟩=false:=n2.frozen 0;have f21:W'.frozen? ⟨w.heap.size+1+1,1,none⟩=false:=n2.frozen 1;have f3:W'.frozen? ⟨w.heap.size+1+1+1,0,none⟩=false:=n3.frozen 0;have f4:W'.frozen? ⟨w.heap.size+1+1+1+1,0,none⟩=false:=n4.frozen 0;have r2:W'.cell? ⟨w.heap.size+1+1,0,none⟩=some (.slice none 0 0):=n2.cell 0;have r21:W'.cell? ⟨w.heap.size+1+1,1,none⟩=some (.slice none 0 0):=n2.cell 1;have r3:W'.cell? ⟨w.heap.size+1+1+1,0,none⟩=some (.int .i64 0):=n3.cell 0;have r4:W'.cell? ⟨w.heap.size+1+1+1+1,0,none⟩=some (.int .i64 0):=n4.cell 0;clear hR)
    all_goals gi_wp2
    all_goals
     obtain ⟨f1,f2,f3,f4,f5,f6⟩:=zrs (N:=w2.heap.size) (idx:=(k.en x).index) HR.out hB hBW h2 h3 h4 (by omega) (by omega) (by omega) (by omega) _ rfl
     exact ⟨f1,⟨rfl,pre,x,rfl,H0.out,by simp_all [cfB],_,_,f2,f3,f4,f5⟩,f6⟩
   ·rename_i g1 g2
    exact ⟨(Same.refl _ _).keeps,⟨Below.refl _ _,fun h=>h⟩,(fun y hy=>by
     rcases List.mem_append.1 hy with h | h
     ·exact H0.out y h
     ·simp only [List.mem_singleton] at h;rw [h];unfold cfB;rw [g2,Bool.and_false]),hy,h1,h2,h3,h4,hB⟩
   ·rename_i g1 g2
    exact ⟨(Same.refl _ _).keeps,⟨Below.refl _ _,fun h=>h⟩,(fun y hy=>by
     rcases List.mem_append.1 hy with h | h
     ·exact H0.out y h
     ·simp only [List.mem_singleton] at h;rw [h];unfold cfB;rw [decide_eq_false (by omega)];rfl),hy,h1,h2,h3,h4,hB⟩
  case ownc=>
   refine CallsIn.inRound l2 (callsIn_wide.2 ((zm1 [.slice a3 (k.en x).config.voters.length c3,.slice a4 (k.en x).config.learners.length c4] (k.en x).config Wi.drew S ?_ ?_).mono ?_))
   ·have:=HCF.out x
    rw [e3,e4] at this
    exact RdL.same (w:=w) (w':=Wi.drew) ⟨hB.size,fun b _ hl=>hB.block b hl⟩ this
   ·exact HK.out.2 x
   ·rintro e W' ⟨us,rfl,hR,hBW⟩
    match us,hR with
    | [u0,u1],hR=>
     obtain ⟨p0,d0,rfl,_⟩:=Rd.sl' hR.1
     obtain ⟨p1,d1,rfl,_⟩:=Rd.sl' hR.2.1
     exact ⟨p0,p1,_,d0,_,d1,rfl,hR,hBW⟩
 case done=>
  rintro D ys Wi hD rfl ⟨h0,hy,h1,h2,h3,h4,hB⟩ hK
  have HX:=Lib.hid (zt8 h0)
  have q2:Wi.cell? ⟨w.heap.size,2,none⟩=some (.int .i64 k.snap.index):=hy.cell 2
  have q4:Wi.cell? ⟨w.heap.size,4,none⟩=some (.slice a4 k.snap.config.voters.length c4):=hy.cell 4
  have q5:Wi.cell? ⟨w.heap.size,5,none⟩=some (.slice a5 k.snap.config.learners.length c5):=hy.cell 5
  have HOC:=Lib.hid (show ∀ n,CallsIn Fence.wide n Tryz.prog 80 #[.agg #[.slice a4 k.snap.config.voters.length c4,.slice a5 k.snap.config.learners.length c5]] Wi.drew (fun e W'=>∃ (p0 p1:Option Addr) (n0 d0 n1 d1:Nat),e = .returned (.agg #[.slice p0 n0 d0,.slice p1 n1 d1])/\RdL W' (fun b=>Wi.heap.size<=b) Config.ty [.slice p0 n0 d0,.slice p1 n1 d1] k.snap.config.enc/\Below Wi.heap.size Wi.drew W') from ?ownc)
  ·clear h0
   gi_wp2_with fail
   ·refine zkJ ?_
    gi_region_with (refine ⟨trivial,?_⟩;refine (HOC.out _).mono ?_;rintro e W' ⟨p0,p1,n0,d0,n1,d1,rfl,hR,hBW⟩;have HR:=Lib.hid hR;have m0:W'.cell? ⟨w.heap.size,2,none⟩=some (.int .i64 k.snap.index):=(hBW.cell (p:=⟨w.heap.size,2,none⟩) hy.lt).trans q2;have n2:Blk W' (w.heap.size+1+1) 40 #[.slice none 0 0,.slice none 0 0]:=h2.drew.below hBW h2.lt;have n3:Blk W' (w.heap.size+1+1+1) 3 #[.int .i64 0]:=h3.drew.below hBW h3.lt;have n4:Blk W' (w.heap.size+1+1+1+1) 53 #[.int .i64 0]:=h4.drew.below hBW h4.lt;have f2:W'.frozen? ⟨w.heap.size+1+1,0,none⟩=false:=n2.frozen 0;have f21:W'.frozen? ⟨w.heap.size+1+1,1,none⟩=false:=n2.frozen 1;have f3:W'.frozen? ⟨w.heap.size+1+1+1,0,none⟩=false:=n3.frozen 0;have f4:W'.frozen? ⟨w.heap.size+1+1+1+1,0,none⟩=false:=n4.frozen 0;have r2:W'.cell? ⟨w.heap.size+1+1,0,none⟩=some (.slice none 0 0):=n2.cell 0;have r21:W'.cell? ⟨w.heap.size+1+1,1,none⟩=some (.slice none 0 0):=n2.cell 1;have r3:W'.cell? ⟨w.heap.size+1+1+1,0,none⟩=some (.int .i64 0):=n3.cell 0;have r4:W'.cell? ⟨w.heap.size+1+1+1+1,0,none⟩=some (.int .i64 0):=n4.cell 0;clear hR)
    all_goals
     refine zoG ?_
     obtain ⟨f1,f2,f3,f4,f5,f6⟩:=zrs (N:=w2.heap.size) (idx:=k.snap.index) HR.out hB hBW h2 h3 h4 (by omega) (by omega) (by omega) (by omega) _ rfl
     gi_wp2
     refine ⟨by simp,.inl ⟨_,_,rfl,run_takeDeferred (f1.same D _ hD hK rfl),?_⟩⟩
     have g2:=(f3.grown (grownBy_putObj' _ D (.deferred none)) (fun e=>by cases e;omega))
     have g3:=(f4.grown (grownBy_putObj' _ D (.deferred none)) (fun e=>by cases e;omega))
     have g4:=(f5.grown (grownBy_putObj' _ D (.deferred none)) (fun e=>by cases e;omega))
     have e2:(((((W'.setCell ⟨w.heap.size+1+1,0,none⟩ (.slice p0 n0 d0)).setCell ⟨w.heap.size+1+1,1,none⟩ (.slice p1 n1 d1)).setCell ⟨w.heap.size+1+1+1,0,none⟩ (.int .i64 k.snap.index)).setCell ⟨w.heap.size+1+1+1+1,0,none⟩ (.int .i64 0)).putObj D (.deferred none)).cell? ⟨w.heap.size+1+1,0,none⟩=some (.slice p0 n0 d0):=g2.cell 0
     have e21:(((((W'.setCell ⟨w.heap.size+1+1,0,none⟩ (.slice p0 n0 d0)).setCell ⟨w.heap.size+1+1,1,none⟩ (.slice p1 n1 d1)).setCell ⟨w.heap.size+1+1+1,0,none⟩ (.int .i64 k.snap.index)).setCell ⟨w.heap.size+1+1+1+1,0,none⟩ (.int .i64 0)).putObj D (.deferred none)).cell? ⟨w.heap.size+1+1,1,none⟩=some (.slice p1 n1 d1):=g2.cell 1
     have e3:(((((W'.setCell ⟨w.heap.size+1+1,0,none⟩ (.slice p0 n0 d0)).setCell ⟨w.heap.size+1+1,1,none⟩ (.slice p1 n1 d1)).setCell ⟨w.heap.size+1+1+1,0,none⟩ (.int .i64 k.snap.index)).setCell ⟨w.heap.size+1+1+1+1,0,none⟩ (.int .i64 0)).putObj D (.deferred none)).cell? ⟨w.heap.size+1+1+1,0,none⟩=some (.int .i64 k.snap.index):=g3.cell 0
     have e4:(((((W'.setCell ⟨w.heap.size+1+1,0,none⟩ (.slice p0 n0 d0)).setCell ⟨w.heap.size+1+1,1,none⟩ (.slice p1 n1 d1)).setCell ⟨w.heap.size+1+1+1,0,none⟩ (.int .i64 k.snap.index)).setCell ⟨w.heap.size+1+1+1+1,0,none⟩ (.int .i64 0)).putObj D (.deferred none)).cell? ⟨w.heap.size+1+1+1+1,0,none⟩=some (.int .i64 0):=g4.cell 0
     refine ⟨.tuple #[.agg #[.slice p0 n0 d0,.slice p1 n1 d1],.int .i64 k.snap.index,.int .i64 0],by simp [results,Tryz.results45,go_sem,e2,e21,e3,e4],[.slice p0 n0 d0,.slice p1 n1 d1],by rw [HX.out],?_,?_⟩
     ·rw [HX.out];exact zer (β:=Unit) (B:=0) () _ _ (some D) f2 (grownBy_putObj' _ D (.deferred none)) (fun r e=>by cases e;exact ⟨Nat.zero_le _,_,f1.same D _ hD hK rfl,rfl⟩)
     ·exact f6.grown (grownBy_putObj' _ D (.deferred none)) f6.size (fun e he=>by cases he;omega)
  case ownc=>
   refine fun n=>callsIn_wide.2 ((zm1 [.slice a4 k.snap.config.voters.length c4,.slice a5 k.snap.config.learners.length c5] k.snap.config Wi.drew S ?_ HK.out.1).mono ?_)
   ·exact RdL.same (w:=w) (w':=Wi.drew) ⟨hB.size,fun b _ hl=>hB.block b hl⟩ ⟨H4.out,H5.out,trivial⟩
   ·rintro e W' ⟨us,rfl,hR,hBW⟩
    match us,hR with
    | [u0,u1],hR=>
     obtain ⟨p0,d0,rfl,_⟩:=Rd.sl' hR.1
     obtain ⟨p1,d1,rfl,_⟩:=Rd.sl' hR.2.1
     exact ⟨p0,p1,_,d0,_,d1,rfl,hR,hBW⟩
 case stop=>
  rintro D c pre Wi hD ⟨j,hj,hp⟩ ⟨⟨rfl,ini,x,rfl,h0,hx,u0,u1,hR,h2,h3,h4⟩,hB⟩ hK
  have HX:=Lib.hid (zwn hj hp h0 hx)
  clear h0 hx hp
  gi_wp2
  refine ⟨by simp,.inl ⟨_,_,rfl,run_takeDeferred hK,?_⟩⟩
  have g2:=(h2.grown (grownBy_putObj' _ D (.deferred none)) (fun e=>by cases e;omega))
  have g3:=(h3.grown (grownBy_putObj' _ D (.deferred none)) (fun e=>by cases e;omega))
  have g4:=(h4.grown (grownBy_putObj' _ D (.deferred none)) (fun e=>by cases e;omega))
  have e2:(Wi.putObj D (.deferred none)).cell? ⟨w.heap.size+1+1,0,none⟩=some (u0):=g2.cell 0
  have e21:(Wi.putObj D (.deferred none)).cell? ⟨w.heap.size+1+1,1,none⟩=some (u1):=g2.cell 1
  have e3:(Wi.putObj D (.deferred none)).cell? ⟨w.heap.size+1+1+1,0,none⟩=some (.int .i64 (k.en x).index):=g3.cell 0
  have e4:(Wi.putObj D (.deferred none)).cell? ⟨w.heap.size+1+1+1+1,0,none⟩=some (.int .i64 0):=g4.cell 0
  refine ⟨.tuple #[.agg #[u0,u1],.int .i64 (k.en x).index,.int .i64 0],by simp [results,Tryz.results45,go_sem,e2,e21,e3,e4],[u0,u1],by rw [HX.out],?_,?_⟩
  ·rw [HX.out];exact zer (β:=Unit) (B:=0) () _ _ (some D) hR (grownBy_putObj' _ D (.deferred none)) (fun r e=>by cases e;exact ⟨Nat.zero_le _,_,hK,rfl⟩)
  ·exact hB.grown (grownBy_putObj' _ D (.deferred none)) hB.size (fun e he=>by cases he;omega)
set_option maxRecDepth 100000 in
set_option maxHeartbeats 4000000 in
theorem zrl (vs:List Value) (k:Kept) (index:Int) (w:World) (S:Nat->Prop) (h:RdL w S Kept.ty vs k.enc) (ht:(zaQ k index).2≠0) :
  Calls Tryz.prog 45 #[.agg vs.toArray,.int .i64 index] w (zxS w ⟨[],[]⟩ 0 (zaQ k index).2):=by
 have hcall:=fun w' (hb:Below w.heap.size w w')=>zie vs k index w' S (RdL.same (Same.below hb) h)
 obtain ⟨a4,c4,a5,c5,a7,c7,rfl,b0,b1,b2,b3,s4,s5,b6,s7⟩:=Kept.opens h
 have HC:=Lib.hid hcall
 have hne:((zaQ k index).2 != 0)=true:=by simpa using ht
 clear h s4 s5 s7 hcall ht
 obtain ⟨z,hz⟩:∃ z,(zaQ k index).2=z:=⟨_,rfl⟩
 rw [hz] at hne ⊢
 go_enter Tryz.func45,Tryz.ntmps45
 go_wp2_with fail
 refine (HC.out _ ((((((Below.refl _ _).alloc (Nat.le_refl _) _).alloc (by simp) _).alloc (by simp<;>omega) _).alloc (by simp<;>omega) _).alloc (by simp<;>omega) _)).mono ?_
 obtain ⟨W0,hW0⟩:∃ W0,((((w.alloc (.cells #[.int .i64 k.term,.int .i64 k.vote,.int .i64 k.snap.index,.int .i64 k.snap.term,.slice a4 (k.snap.config.voters).length c4,.slice a5 (k.snap.config.learners).length c5,.string k.snap.data,.slice a7 (k.entries).length c7] 45)).alloc (.cells #[.int .i64 index] 3)).alloc (.cells #[.slice none 0 0,.slice none 0 0] 40)).alloc (.cells #[.int .i64 0] 3)).alloc (.cells #[.int .i64 0] 53)=W0:=⟨_,rfl⟩
 rw [hz]
 rintro e w1 ⟨rfl,B1⟩
 have hz0:W0.heap.size=w.heap.size+5:=by rw [<- hW0];simp
 have hB0:Below w.heap.size w W0:=by rw [<- hW0];exact ((((((Below.refl _ _).alloc (Nat.le_refl _) _).alloc (by simp) _).alloc (by simp<;>omega) _).alloc (by simp<;>omega) _).alloc (by simp<;>omega) _)
 rw [hW0] at B1
 have k2:=(show Blk W0 (w.heap.size+1+1) 40 #[.slice none 0 0,.slice none 0 0] by rw [<- hW0];exact ((Blk.newAt _ (w.heap.size+1+1) 40 #[.slice none 0 0,.slice none 0 0] (by simp)).alloc _).alloc _).below B1 (by omega)
 have k3:=(show Blk W0 (w.heap.size+1+1+1) 3 #[.int .i64 0] by rw [<- hW0];exact (Blk.newAt _ (w.heap.size+1+1+1) 3 #[.int .i64 0] (by simp)).alloc _).below B1 (by omega)
 have k4:=(show Blk W0 (w.heap.size+1+1+1+1) 53 #[.int .i64 0] by rw [<- hW0];exact Blk.newAt _ (w.heap.size+1+1+1+1) 53 #[.int .i64 0] (by simp)).below B1 (by omega)
 have B2:=Lib.hid (hB0.trans (B1.mono (by omega)))
 clear hW0 B1 hB0
 have f2:w1.frozen? ⟨w.heap.size+1+1,0,none⟩=false:=k2.frozen 0
 have f21:w1.frozen? ⟨w.heap.size+1+1,1,none⟩=false:=k2.frozen 1
 have f3:w1.frozen? ⟨w.heap.size+1+1+1,0,none⟩=false:=k3.frozen 0
 have f4:w1.frozen? ⟨w.heap.size+1+1+1+1,0,none⟩=false:=k4.frozen 0
 have r2:w1.cell? ⟨w.heap.size+1+1,0,none⟩=some (.slice none 0 0):=k2.cell 0
 have r21:w1.cell? ⟨w.heap.size+1+1,1,none⟩=some (.slice none 0 0):=k2.cell 1
 have r3:w1.cell? ⟨w.heap.size+1+1+1,0,none⟩=some (.int .i64 0):=k3.cell 0
 have r4:w1.cell? ⟨w.heap.size+1+1+1+1,0,none⟩=some (.int .i64 0):=k4.cell 0
 clear k2 k3 k4
 go_wp2_with fail
 refine bodyPost_ret (v:= .tuple #[.agg #[.slice none 0 0,.slice none 0 0],.int .i64 0,.int .i64 z]) (by simp [results,Tryz.results45,go_sem,r2,r21,r3,r4]) rfl ⟨[.slice none 0 0,.slice none 0 0],rfl,⟨.emp (fun _=>rfl) (Nat.zero_le _),.emp (fun _=>rfl) (Nat.zero_le _),trivial⟩,?_⟩
 exact (((B2.out.setCell (by simp<;>omega) _).setCell (by simp<;>omega) _).setCell (by simp<;>omega) _).setCell (by simp<;>omega) _
end Go.Proofs.YtkhphiahindnnaaGreat
namespace Go.Proofs.YtkhphiahindnnaaGreat
open Go.RowKit Go.ChangeShapes Go.WideShapes Go.Deep
theorem zt7 {k:Kept} (h:dKept.Okp k) (i:Int):I64 (cfgR k i).2:=by
 unfold cfgR
 split
 ·rename_i e he
  have hm:e∈k.entries:=by have:=List.mem_of_find?_eq_some he;simpa using this
  exact (h.entries.2 e hm).index
 ·exact h.snap_index
theorem zcJ:I64 0:=⟨by decide,by decide⟩
theorem zvB:I64 1:=⟨by decide,by decide⟩
theorem zvA:I64 150:=⟨by decide,by decide⟩
theorem zo5 (k:Kept) (i:Int):I64 (zau k i).2:=by
 unfold zau
 split
 ·split
  ·exact zcJ
  ·split
   ·exact zcJ
   ·exact zvA
 ·exact zvB
theorem zgS (k:Kept) (i:Int) (hs:zbQ k):FnC Tryz.prog 45 [dKept.can k,dInt.can i] (.tup [.agg ((zav k i).1.svs [1]),.int .i64 (zav k i).2.1,.int .i64 (zav k i).2.2]) D2:=by
 refine FnC.g2 dKept dInt k i (fnB Tryz.func45 (by decide) rfl) fun hk hi=>?_
 refine FnC.of_below (fnB Tryz.func45 (by decide) rfl) fun w E vals hd=>?_
 obtain ⟨v,u,rfl,⟨xs,rfl,hl⟩,⟨rfl,_⟩⟩:=zda hd
 by_cases ht:(zau k i).2=0
 ·refine (zoh xs k i w _ (Kept.svs_rd hl) ⟨hs.2,fun x=>?_⟩ (by rw [zdz];exact ht)).mono ?_
  ·by_cases hx:x<k.entries.length
   ·exact hs.1.2 _ (zb1 hx)
   ·rw [zq1 hx];exact ⟨by decide,by decide⟩
  ·rintro e w' ⟨us,rfl,hr,hb⟩
   refine ⟨_,rfl,hb,fun E' _ h1=>⟨[_,_,_],rfl,⟨us,rfl,?_⟩,⟨?_,?_⟩,⟨?_,?_⟩,trivial⟩⟩
   ·rw [zav,if_pos ht]
    exact Config.svs_of (hr.mono fun b hb' hge=>⟨1,by simp,h1 b hge hb'⟩)
   ·rw [zav,if_pos ht];rfl
   ·rw [zav,if_pos ht];exact zcF (zt7 hk i)
   ·rw [zav,if_pos ht]
   ·rw [zav,if_pos ht];exact zcF zcJ
 ·refine (zrl xs k i w _ (Kept.svs_rd hl) (by rw [zdz];exact ht)).mono ?_
  rintro e w' ⟨us,rfl,hr,hb⟩
  refine ⟨_,rfl,hb,fun E' _ h1=>⟨[_,_,_],rfl,⟨us,rfl,?_⟩,⟨?_,?_⟩,⟨?_,?_⟩,trivial⟩⟩
  ·rw [zav,if_neg ht]
   exact Config.svs_of (x:=⟨[],[]⟩) (hr.mono fun b hb' hge=>⟨1,by simp,h1 b hge hb'⟩)
  ·rw [zav,if_neg ht]
  ·rw [zav,if_neg ht];exact zcF zcJ
  ·rw [zav,if_neg ht,zdz]
  ·rw [zav,if_neg ht];exact zcF (zo5 k i)
def zt1:Ent:=ent2 45 dKept dInt fun k i=>([zbQ k],.tup [.agg ((zav k i).1.svs [1]),.int .i64 (zav k i).2.1,.int .i64 (zav k i).2.2],D2)
theorem ziT:zaf Tryz.prog zt1:=za3 (zgS default 0 zkN).1 fun k i h=>zgS k i (h _ (by simp))
end Go.Proofs.YtkhphiahindnnaaGreat
namespace Go.Proofs.YtkhphiahindnnaaGreat
open Go.RowKit Go.ChangeShapes Go.WideShapes Go.Deep
set_option maxRecDepth 100000
theorem zgW (l:List Int) (hl:l.length<=1000000):FnC Tryz.prog 62 [dInts.can l] (.own 2) (D3i l):=by
 refine FnG.of_vc (zak zad fun _=>none) Tryz.func62 rfl (by decide) rfl 300 (p:=fun (V:List PE->Prop)=>True/\True/\True/\(l=[]->True/\l=[]/\True)/\(True->(((0:Nat)+l.length)*(1024:Nat)<=140737488355328/\True)/\l=l/\True)) (by kernel_rfl) ?_
 simp;omega
def zu9:Ent:=ent1 62 dInts fun l=>([l.length<=1000000],.own 2,D3i l)
theorem zk6:zaf Tryz.prog zu9:=za4 (zgW [] (by decide)).1 fun l h=>zgW l (h _ (by simp))
theorem zfC (l:List Peer) (hl:l.length<=1000000):FnC Tryz.prog 63 [dPeers.can l] (.own 2) [.dead,.dead,.row 102 [] (.rPeer l)]:=by
 refine FnG.of_vc (zak zad fun _=>none) Tryz.func63 rfl (by decide) rfl 300 (p:=fun (V:List PE->Prop)=>True/\True/\True/\(l=[]->True/\l=[]/\True)/\(True->(((0:Nat)+l.length)*(1024:Nat)<=140737488355328/\True)/\l=l/\True)) (by kernel_rfl) ?_
 simp;omega
def zqY:Ent:=ent1 63 dPeers fun l=>([l.length<=1000000],.own 2,[.dead,.dead,.row 102 [] (.rPeer l)])
theorem zoe:zaf Tryz.prog zqY:=za4 (zfC [] (by decide)).1 fun l h=>zfC l (h _ (by simp))
theorem zfB (l:List Read) (hl:l.length<=1000000):FnC Tryz.prog 64 [dReads.can l] (.own 2) [.dead,.dead,.row 123 [] (.rRead l)]:=by
 refine FnG.of_vc (zak zad fun _=>none) Tryz.func64 rfl (by decide) rfl 300 (p:=fun (V:List PE->Prop)=>True/\True/\True/\(l=[]->True/\l=[]/\True)/\(True->(((0:Nat)+l.length)*(1024:Nat)<=140737488355328/\True)/\l=l/\True)) (by kernel_rfl) ?_
 simp;omega
def zqX:Ent:=ent1 64 dReads fun l=>([l.length<=1000000],.own 2,[.dead,.dead,.row 123 [] (.rRead l)])
theorem zod:zaf Tryz.prog zqX:=za4 (zfB [] (by decide)).1 fun l h=>zfB l (h _ (by simp))
theorem zdd (c:Config) (hc:zaw c):FnC Tryz.prog 90 [dConfig.can c] (.agg (c.svs [1])) D2:=by
 refine FnG.of_vc (zak (zaa zk6 zad) fun _=>none) Tryz.func90 rfl (by decide) rfl 300 (p:=fun (V:List PE->Prop)=>let v0:=c.learners;let v1:=c.voters;True/\(v1.length<=1000000/\v0.length<=1000000/\True)/\v1=v1/\v1.length<=17592186044416/\v0=v0/\v0.length<=17592186044416/\True) (by kernel_rfl) ?_
 simp [hc.1,hc.2]
 exact ⟨Nat.le_trans hc.1 (by decide),Nat.le_trans hc.2 (by decide)⟩
def zx6:Ent:=ent1 90 dConfig fun c=>([zaw c],.agg (c.svs [1]),D2)
theorem zqK:zaf Tryz.prog zx6:=za4 (zdd default (by unfold zaw;decide)).1 fun c h=>zdd c (h _ (by simp))
theorem zgv (x:Snap) (hc:zaw x.config):FnC Tryz.prog 60 [dSnap.can x] (.agg (x.svs [1])) D2:=by
 refine FnG.of_vc (zak (zaa zqK zad) fun _=>none) Tryz.func60 rfl (by decide) rfl 300 (p:=fun (V:List PE->Prop)=>let v0:=x.config;True/\(zaw v0/\True)/\True/\x.index=x.index/\x.term=x.term/\v0.voters=v0.voters/\v0.learners=v0.learners/\x.data=x.data/\True) (by kernel_rfl) ?_
 simp [hc]
def zhM:Ent:=ent1 60 dSnap fun c=>([zaw c.config],.agg (c.svs [1]),D2)
theorem zdL:zaf Tryz.prog zhM:=za4 (zgv default (by unfold zaw;decide)).1 fun c h=>zgv c (h _ (by simp))
theorem zlF (l:List Entry) (hl:l.length<=1000000):FnC Tryz.prog 91 [dEntrys.can l] (.own 2) [.dead,.dead,.row 71 [0] (.rEntry l)]:=by
 refine FnG.of_vc (zak zad fun _=>none) Tryz.func91 rfl (by decide) rfl 300 (p:=fun (V:List PE->Prop)=>True/\True/\True/\(l=[]->True/\l=[]/\True)/\(True->(((0:Nat)+l.length)*(1024:Nat)<=140737488355328/\True)/\l=l/\True)) (by kernel_rfl) ?_
 simp;omega
abbrev En:=71
theorem zkB (v:Value) (l:List Entry) (w:World) (S:Nat->Prop) (hS:∀ b,S b->b<w.heap.size) (h:Rd w S (.sl Entry.ty) v (.sl (l.map Entry.enc))) (hl:l.length<=1000000) :
  Calls Tryz.prog 91 #[v] w (fun e w'=>∃ u,e = .returned u/\OwnR w.heap.size w' En S Entry.ty u (l.map Entry.enc)/\Below w.heap.size w w'):=
 ((zlF l hl).2 w (E0 S) [v] (mem0 hS) ⟨h.mono (fun b _ hb=>znn hb),trivial⟩).mono (by
  rintro e w' ⟨u,E',rfl,hv,hm⟩
  obtain ⟨v',h1,h2⟩:=hm.row 2 _ _ _ rfl
  have hu:E'.β 2=some u:=hv.1
  rw [hu] at h1;cases h1
  have hX:∀ b,¬ (cxIn (E0 S) D2 1).X b:=fun b ⟨t,ht⟩=>zf3 ht
  refine ⟨u,rfl,?_,hm.below.os,hm.below.tape,hm.below.output,hm.below.size,fun b hb=>hm.below.block b hb (hX b)⟩
  obtain ⟨cells,ho,hr⟩:=h2
  have hlt:∀ b,u.ownBlock=some b->w.heap.size<=b:=fun b hb=>by
   refine (hm.sep 2 b (Has.row rfl hu ?_)).2.resolve_right (hX b)
   obtain ⟨a,c,e⟩:=OwnR.form (h:=⟨cells,ho,hr⟩)
   rw [<- zaN ⟨a,_,c,e⟩];exact hb
  refine ⟨cells,⟨ho.1,?_⟩,fun i hi=>(hr i hi).mono fun b _ hb=>⟨?_,hb.2⟩⟩
  ·rcases ho.2 with h3 | ⟨g,o,cap,cur,e1,e0,_,r⟩
   ·exact .inl h3
   ·exact .inr ⟨g,o,cap,cur,e1,e0,hlt g (by rw [e1];rfl),r⟩
  ·obtain ⟨i,hi,hs⟩:=hb.1
   simp only [List.mem_singleton] at hi;subst hi
   exact (hm.old 0 b (by show 0<1;decide) hs).2)
theorem zpj (vs:List Value) (c:Config) (w:World) (S:Nat->Prop) (hS:∀ b,S b->b<w.heap.size) (h:RdL w S Config.ty vs c.enc) (hc:zaw c) :
  Calls Tryz.prog 90 #[.agg vs.toArray] w (fun e w'=>∃ us:List Value,e = .returned (.agg us.toArray)/\RdL w' (fun b=>w.heap.size<=b) Config.ty us c.enc/\Below w.heap.size w w'):=
 ((zdd c hc).2 w (E0 S) [.agg vs.toArray] (mem0 hS) ⟨⟨vs,rfl,Config.svs_of (h.mono fun b _ hb=>znn hb)⟩,trivial⟩).mono (by
  rintro e w' ⟨v,E',rfl,⟨us,rfl,hl⟩,hm⟩
  exact ⟨us,rfl,RdL.mono (fun b _ ⟨i,hi,hs⟩=>zuI hm (by simp at hi;omega) hs) (Config.svs_rd hl),zno hm⟩)
def Mid (wr:World) (base:Nat) (S:Nat->Prop) (g cap j:Nat) (l:List Entry):Prop:=
 ∃ cur:Array Value,Blk wr g En cur/\cur.size=cap*6/\∀ i,i<l.length->RdL wr (fun b=>(if i<j then base<=b else S b)/\b≠g) Entry.ty ((cur.toList.drop (i*6)).take 6) (l.getD i default).enc
theorem Mid.next {wr wr':World} {base:Nat} {S:Nat->Prop} {g cap j:Nat} {l:List Entry} (h:Mid wr base S g cap j l) (hb:Below wr.heap.size wr wr'):Mid wr' base S g cap j l:=by
 obtain ⟨cur,h1,h2,h3⟩:=h
 exact ⟨cur,h1.next hb,h2,fun i hi=>RdL.same (Same.below hb) (h3 i hi)⟩
theorem Mid.at {wr:World} {base:Nat} {S:Nat->Prop} {g cap j:Nat} {l:List Entry} (h:Mid wr base S g cap j l) (hj:j<l.length) (hc:l.length<=cap) :
  ∃ a3 c3 a4 c4,wr.cell? ⟨g,j*6+3,none⟩=some (.slice a3 (l.getD j default).config.voters.length c3)/\wr.cell? ⟨g,j*6+4,none⟩=some (.slice a4 (l.getD j default).config.learners.length c4) /\
   wr.frozen? ⟨g,j*6+3,none⟩=false/\wr.frozen? ⟨g,j*6+4,none⟩=false/\RdL wr (fun b=>S b/\b≠g) Config.ty [.slice a3 (l.getD j default).config.voters.length c3,.slice a4 (l.getD j default).config.learners.length c4] (l.getD j default).config.enc:=by
 obtain ⟨cur,h1,h2,h3⟩:=h
 have h4:=h3 j hj
 simp only [Nat.lt_irrefl,if_false] at h4
 generalize hx:(cur.toList.drop (j*6)).take 6=xs at h4
 have hget:∀ m,m<6->cur[j*6+m]? = xs[m]? := fun m hm=>by
  rw [<- hx,List.getElem?_take,if_pos hm,List.getElem?_drop,Array.getElem?_toList]
 match xs,h4 with
 | [v0,v1,v2,v3,v4,v5],h4=>
  obtain ⟨r0,r1,r2,r3,r4,r5,_⟩:=h4
  obtain ⟨a3,c3,e3,_⟩:=Rd.sl' r3
  obtain ⟨a4,c4,e4,_⟩:=Rd.sl' r4
  rw [zap] at e3 e4
  have q3:=hget 3 (by decide)
  have q4:=hget 4 (by decide)
  simp only [List.getElem?_cons_succ,List.getElem?_cons_zero] at q3 q4
  subst e3;subst e4
  exact ⟨a3,c3,a4,c4,(h1.cell _).trans q3,(h1.cell _).trans q4,h1.frozen _,h1.frozen _,r3,r4,trivial⟩
theorem Mid.step {wr:World} {base:Nat} {S:Nat->Prop} {g cap j:Nat} {l:List Entry} (h:Mid wr base S g cap j l) (hj:j<l.length) (hc:l.length<=cap) {u u':Value} (hu:RdL wr (fun b=>base<=b/\b≠g) Config.ty [u,u'] (l.getD j default).config.enc) :
  Mid ((wr.setCell ⟨g,j*6+3,none⟩ u).setCell ⟨g,j*6+4,none⟩ u') base S g cap (j+1) l:=by
 obtain ⟨cur,h1,h2,h3⟩:=h
 have hS:Same (fun b=>b≠g) wr ((wr.setCell ⟨g,j*6+3,none⟩ u).setCell ⟨g,j*6+4,none⟩ u'):=(Same.setCell (by simp) _).trans (Same.setCell (by simp) _)
 have hsz:j*6+5<cur.size:=by rw [h2];omega
 have hat:∀ i m,i<l.length->m<6->((((cur.setIfInBounds (j*6+3) u).setIfInBounds (j*6+4) u').toList.drop (i*6)).take 6)[m]? = if i=j/\m=3 then some u else if i=j/\m=4 then some u' else ((cur.toList.drop (i*6)).take 6)[m]? := fun i m hi hm=>by
  simp only [Array.toList_setIfInBounds,List.getElem?_take,if_pos hm,List.getElem?_drop,List.getElem?_set,List.length_set,Array.length_toList]
  by_cases hij:i=j
  ·subst hij
   by_cases h5:m=3
   ·subst h5
    rw [if_neg (by omega),if_pos rfl,if_pos (by omega),if_pos ⟨rfl,rfl⟩]
   ·by_cases h6:m=4
    ·subst h6
     rw [if_pos rfl,if_pos (by omega),if_neg (by omega),if_pos ⟨rfl,rfl⟩]
    ·rw [if_neg (by omega),if_neg (by omega),if_neg (by omega),if_neg (by omega)]
  ·rw [if_neg (by omega),if_neg (by omega),if_neg (by omega),if_neg (by omega)]
 have hout:∀ (c:Array Value) i m,¬ m<6->((c.toList.drop (i*6)).take 6)[m]? = none:=fun c i m hm=>by rw [List.getElem?_take,if_neg hm]
 refine ⟨(cur.setIfInBounds (j*6+3) u).setIfInBounds (j*6+4) u',(h1.set _ _).set _ _,by simp [h2],fun i hi=>?_⟩
 by_cases hij:i=j
 ·subst hij
  have h4:=h3 i hi
  simp only [Nat.lt_irrefl,if_false] at h4
  simp only [Nat.lt_add_one,if_true]
  have hat2:=hat i
  generalize hx:(cur.toList.drop (i*6)).take 6=xs at h4
  rw [hx] at hat2
  match xs,h4,hat2 with
  | [v0,v1,v2,v3,v4,v5],h4,hat2=>
   obtain ⟨r0,r1,r2,r3,r4,r5,_⟩:=h4
   have e:(((cur.setIfInBounds (i*6+3) u).setIfInBounds (i*6+4) u').toList.drop (i*6)).take 6=[v0,v1,v2,u,u',v5]:=by
    apply List.ext_getElem?
    intro m
    by_cases hm:m<6
    ·rw [hat2 m hi hm]
     match m,hm with
     | 0,_=>simp
     | 1,_=>simp
     | 2,_=>simp
     | 3,_=>simp
     | 4,_=>simp
     | 5,_=>simp
    ·rw [hout _ _ _ hm,List.getElem?_eq_none (by simp;omega)]
   rw [e]
   have f0:∀ {T:Ty} {v:Value} {d:D},T.flat=true->Rd wr (fun b=>S b/\b≠g) T v d->Rd ((wr.setCell ⟨g,i*6+3,none⟩ u).setCell ⟨g,i*6+4,none⟩ u') (fun b=>base<=b/\b≠g) T v d:=by
    intro T v d hT hr
    cases hr with
    | int h=>exact .int h
    | bool=>exact .bool
    | str h=>exact .str h
    | emp h h'=>exact .emp h h'
    | row=>cases hT
   exact ⟨f0 rfl r0,f0 rfl r1,f0 rfl r2,Rd.same hu.1 (hS.mono fun b hb=>hb.2),Rd.same hu.2.1 (hS.mono fun b hb=>hb.2),f0 rfl r5,trivial⟩
 ·have e:(((cur.setIfInBounds (j*6+3) u).setIfInBounds (j*6+4) u').toList.drop (i*6)).take 6=(cur.toList.drop (i*6)).take 6:=by
   apply List.ext_getElem?
   intro m
   by_cases hm:m<6
   ·rw [hat i m hi hm,if_neg (by omega),if_neg (by omega)]
   ·rw [hout _ _ _ hm,hout _ _ _ hm]
  rw [e]
  have h4:=h3 i hi
  have e2:(i<j+1)=(i<j):=by rw [eq_iff_iff];omega
  simp only [e2]
  exact RdL.same (hS.mono fun b hb=>hb.2) h4
theorem Mid.of {w:World} {base:Nat} {S:Nat->Prop} {g n c:Nat} {l:List Entry} (h:OwnR base w En S Entry.ty (.slice (some ⟨g,0,none⟩) n c) (l.map Entry.enc)):Mid w base S g c 0 l/\base<=g/\l.length<=c/\c<=maxLen/\n=l.length:=by
 obtain ⟨cells,ho,hr⟩:=h
 have ho:=ho.one (by show (6:Nat)<18;decide)
 rcases ho.2 with ⟨e,_⟩ | ⟨g2,cap,cur,e,hg,hh,hnc,hcm,hcs,htake⟩
 ·simp at e
 simp only [Value.slice.injEq,Option.some.injEq,Addr.mk.injEq,and_true] at e
 obtain ⟨rfl,rfl,rfl⟩:=e
 rw [List.length_map] at hnc htake
 refine ⟨⟨cur,hh,hcs,fun i hi=>?_⟩,hg,hnc,hcm,by rw [List.length_map]⟩
 have h1:=hr i (by rw [List.length_map];exact hi)
 have e1:(l.map Entry.enc).getD i []=(l.getD i default).enc:=by simp [List.getD,hi]
 rw [e1] at h1
 have e2:(cells.drop (i*Entry.ty.length)).take Entry.ty.length=(cur.toList.drop (i*6)).take 6:=by
  rw [<- htake]
  apply List.ext_getElem?
  intro m
  show ((List.drop (i*6) (List.take (l.length*6) cur.toList)).take 6)[m]? = _
  simp only [List.getElem?_take,List.getElem?_drop]
  by_cases hm:m<6
  ·rw [if_pos hm,if_pos hm,if_pos (by omega)]
  ·rw [if_neg hm,if_neg hm]
 rw [e2] at h1
 refine h1.mono fun b _ hb=>⟨?_,fun e=>hb.2 (by rw [e];rfl)⟩
 rw [if_neg (by omega)];exact hb.1
theorem Mid.to {w:World} {base:Nat} {S:Nat->Prop} {g c:Nat} {l:List Entry} (h:Mid w base S g c l.length l) (hg:base<=g) (hc:l.length<=c) (hm:c<=maxLen):OwnR base w En (fun b=>base<=b) Entry.ty (.slice (some ⟨g,0,none⟩) l.length c) (l.map Entry.enc):=by
 obtain ⟨cur,h1,h2,h3⟩:=h
 refine ⟨cur.toList.take (l.length*6),Win.of ⟨?_,.inr ⟨g,c,cur,by rw [List.length_map],hg,h1,by rw [List.length_map];exact hc,hm,h2,by rw [List.length_map];rfl⟩⟩,fun i hi=>?_⟩
 ·have e0:cur.toList.length=c*6:=by rw [Array.length_toList];exact h2
  have e1:(cur.toList.take (l.length*6)).length=l.length*6:=by rw [List.length_take,e0];omega
  rw [e1,List.length_map];rfl
 ·rw [List.length_map] at hi
  have e1:(l.map Entry.enc).getD i []=(l.getD i default).enc:=by simp [List.getD,hi]
  rw [e1]
  have e2:((cur.toList.take (l.length*6)).drop (i*Entry.ty.length)).take Entry.ty.length=(cur.toList.drop (i*6)).take 6:=by
   apply List.ext_getElem?
   intro m
   show ((List.drop (i*6) (List.take (l.length*6) cur.toList)).take 6)[m]? = _
   simp only [List.getElem?_take,List.getElem?_drop]
   by_cases hm:m<6
   ·rw [if_pos hm,if_pos hm,if_pos (by omega)]
   ·rw [if_neg hm,if_neg hm]
  rw [e2]
  refine (h3 i hi).mono fun b _ hb=>⟨?_,fun e=>hb.2 (by simp only [Value.ownBlock,Option.some.injEq] at e;exact e.symm)⟩
  have:=hb.1
  rw [if_pos hi] at this;exact this
theorem zvj (v:Value) (l:List Entry) (w:World) (S:Nat->Prop) (hS:∀ b,S b->b<w.heap.size) (h:Rd w S (.sl Entry.ty) v (.sl (l.map Entry.enc))) (hl:zcG l) :
  Calls Tryz.prog 61 #[v] w (fun e w'=>∃ u,e = .returned u/\OwnR w.heap.size w' En (fun b=>w.heap.size<=b) Entry.ty u (l.map Entry.enc)/\Below w.heap.size w w'):=by
 have HC:=Lib.hid (zkB v l w S hS h hl.1)
 go_enter Tryz.func61,Tryz.ntmps61
 go_wp2_with fail
 refine HC.out.mono ?_
 rintro e w1 ⟨u,rfl,hO,hB⟩
 have hN:l.length<=1000000:=hl.1
 have hOR:=Lib.hid hO
 rcases (show (∃ cells:List Value,_) from hO) with ⟨cells,ho,hr⟩
 have ho:=ho.one (by show (6:Nat)<18;decide)
 rcases ho.2 with ⟨e,he⟩ | ⟨g,cap,cur,e,hg,hh,hnc,hcm,hcs,htake⟩
 ·subst e
  rw [List.length_map] at he
  obtain rfl:l=[]:=List.length_eq_zero_iff.1 he
  have HB:=Lib.hid hB
  clear hB ho hO hr
  go_wp2_with fail
  go_loopw [8] (fun i wr=>i = .int .i64 0/\Below w.heap.size w wr) (fun i _=>0)
  case atStart=>exact ⟨rfl,HB.out⟩
  case round=>
   obtain ⟨rfl,hb⟩:=hrel
   have HBB:=Lib.hid hb
   have k1:¬ (0:Int)<(([]:List Entry).length:Int):=by simp
   clear hb
   go_wp2_with fail
   go_ret
   exact ⟨_,rfl,OwnR.nil _ _ _ _ _,HBB.out⟩
 subst e
 clear hr
 obtain ⟨hM,hg2,hc2,hcm2,hn2⟩:=Mid.of hOR.out
 rw [List.length_map] at *
 have HM:=Lib.hid hM
 have HB:=Lib.hid hB
 clear hM hB ho hO hh htake
 go_wp2_with fail
 go_loopw [8] (fun i wr=>∃ j:Nat,j<=l.length/\i = .int .i64 j/\Mid wr w.heap.size S g cap j l/\Below w.heap.size w wr) (fun i _=>l.length-(intOf i).toNat)
 case atStart=>exact ⟨0,Nat.zero_le _,rfl,HM.out,HB.out⟩
 case round=>
  obtain ⟨j,hj,rfl,hm,hb⟩:=hrel
  by_cases hlt:j<l.length
  ·have k0:(0:Int)<=(j:Int):=by omega
   have k1:(j:Int)<(l.length:Int):=by omega
   obtain ⟨x,hx⟩:∃ x,l.getD j default=x:=⟨_,rfl⟩
   have hsx:zaw x.config:=(hl.2 x (by rw [<- hx];exact zb1 hlt))
   obtain ⟨a3,c3,a4,c4,q3,q4,f3,f4,hcfg⟩:=hm.at hlt hc2
   rw [hx] at q3 q4 hcfg
   have hC:=zpj _ x.config wr (fun b=>S b/\b≠g) (fun b hb'=>Nat.lt_of_lt_of_le (hS b hb'.1) hb.size) hcfg hsx
   have HCF:=Lib.hid hC
   have HMM:=Lib.hid hm
   have HBB:=Lib.hid hb
   have HX:=Lib.hid hx
   have hgl:g<wr.heap.size:=by obtain ⟨cur,k1,_⟩:=hm;exact k1.lt
   clear hcfg hm hb hC hx
   go_wp2_with fail
   refine HCF.out.mono ?_
   rintro e w2 ⟨us,rfl,hu,hB2⟩
   match us,hu with
   | [u,u'],hu=>
   obtain ⟨a5,c5,e5,_⟩:=Rd.sl' hu.1
   obtain ⟨a6,c6,e6,_⟩:=Rd.sl' hu.2.1
   subst e5;subst e6
   obtain ⟨b3,d3,b4,d4,r3,r4,g3,g4,_⟩:=(HMM.out.next hB2).at hlt hc2
   have HU:=Lib.hid hu
   have HB2:=Lib.hid hB2
   clear hu hB2 q3 q4 f3 f4
   go_wp2_with fail
   go_roundw
   case rel=>exact ⟨j+1,by omega,by go_num,((HMM.out.next HB2.out).step hlt hc2 (by rw [HX.out];exact RdL.mono (fun b _ hb=>⟨Nat.le_trans HBB.out.size hb,by show b≠g;omega⟩) HU.out)),((HBB.out.trans (HB2.out.mono HBB.out.size)).setCell hg2 _).setCell hg2 _⟩
   case measure=>simp [intOf];omega
  ·have k1:¬ (j:Int)<(l.length:Int):=by omega
   obtain rfl:j=l.length:=by omega
   have HMM:=Lib.hid hm
   have HBB:=Lib.hid hb
   clear hm hb
   go_wp2_with fail
   go_ret
   exact ⟨_,rfl,HMM.out.to hg2 hc2 hcm2,HBB.out⟩
theorem zsM {E:Env} {w w':World} {v:Value} {l:List Entry} (hm:MemOk w.heap.size (cxIn E D2 1) w E (mOf D2) w) (hb:Below w.heap.size w w') (ho:OwnR w.heap.size w' En (fun b=>w.heap.size<=b) Entry.ty v (l.map Entry.enc)) :
  ∃ E',E'.β 2=some v/\v.oneCell'=true/\MemOk w.heap.size (cxIn E D2 1) w E' (mOf [.dead,.dead,.row En [1] (.rEntry l)]) w':=by
 obtain ⟨a,c,ef⟩:=ho.form
 have hl:∀ t,(mOf D2 t).live=false:=by intro t;rw [mD2];split<;>rfl
 have hno:∀ {E:Env} {t b:Nat},¬ Has E (mOf D2) t b:=zf3
 obtain ⟨E1,hE1⟩:∃ E1:Env,E1=⟨E.β,fun i b=>E.σ i b\/(i=1/\w.heap.size<=b/\b<w'.heap.size/\v.ownBlock≠some b),E.φ⟩:=⟨_,rfl⟩
 have h1:MemOk w.heap.size (cxIn E D2 1) w E1 (mOf D2) w':=by
  subst hE1
  refine ⟨fun t ht=>⟨(hm.empty t ht).1,fun b hb'=>?_⟩,fun t T vs ht=>?_,fun t T ls r ht=>?_,fun i b hb'=>?_,fun i j b hi hj=>?_,hm.low,fun t b hh=>absurd hh hno,fun i b hi hb'=>?_,fun t u b h1=>absurd h1 hno,hm.keep,⟨hb.os,hb.tape,hb.output,hb.size,fun b h1 _=>hb.block b h1⟩,hb.size,fun t o ht=>(by have:=hl t;rw [ht] at this;cases this)⟩
  ·rcases hb' with h | ⟨rfl,_⟩
   ·exact (hm.empty t ht).2 b h
   ·rw [mD2] at ht;simp at ht
  ·have:=hl t;rw [ht] at this;cases this
  ·have:=hl t;rw [ht] at this;cases this
  ·rcases hb' with h | ⟨rfl,h1,h2,_⟩
   ·exact ⟨Nat.lt_of_lt_of_le (hm.lab i b h).1 hb.size,(hm.lab i b h).2⟩
   ·exact ⟨h2,fun _=> .inl h1⟩
  ·rcases hi with hi | ⟨rfl,h1,h2,_⟩<;>rcases hj with hj | ⟨rfl,h3,h4,_⟩
   ·exact hm.dis i j b hi hj
   ·have:=(hm.lab i b hi).1;omega
   ·have:=(hm.lab j b hj).1;omega
   ·rfl
  ·rcases hb' with h | ⟨rfl,_⟩
   ·exact h
   ·simp [cxIn] at hi
 have hE2:mOf D2 2 = .empty:=by rw [mD2];rfl
 have h2:=h1.take (w':=w') hE2 v (.row En [1] (.rEntry l)) (by simp) (Nat.le_refl _) (fun _ _=>rfl) (BelowX.refl _ _ _) (fun b hv=>?_) ?_
 ·refine ⟨E1.setβ 2 v,(by show (if 2=2 then some v else E1.β 2)=some v;rw [if_pos rfl]),by rw [ef];rfl,?_⟩
  have e:upd (mOf D2) 2 (.row En [1] (.rEntry l))=mOf [.dead,.dead,.row En [1] (.rEntry l)]:=by
   funext t
   match t with
   | 0=>rfl
   | 1=>rfl
   | 2=>rfl
   | t+3=>rw [zbg _ _ (by omega),mD2,if_neg (by omega),zeu];simp [List.getD]
  rw [<- e];exact h2
 ·have hv2:v.ownBlock=some b:=by rw [zaN ⟨a,_,c,ef⟩];exact hv
  have hb2:=ho.lt b hv2
  refine ⟨fun ⟨i,hi⟩=>?_,fun t=>zf3,.inl hb2.1⟩
  subst hE1
  rcases hi with hi | ⟨_,_,_,h3⟩
  ·have:=(hm.lab i b hi).1;omega
  ·exact h3 hv2
 ·obtain ⟨cells,hc,hr⟩:=ho.mono (Nat.zero_le _) (fun b hb=>hb)
  refine ⟨cells,hc,fun i hi=>(hr i hi).mono fun b hb' hs=>⟨⟨1,by simp,?_⟩,hs.2⟩⟩
  show E1.σ 1 b
  rw [hE1]
  exact .inr ⟨rfl,hs.1,hb',hs.2⟩
theorem znV {E:Env} {w:World} {l:List Entry} {v:Value} (h:DenV E w (dEntrys.can l) v):Rd w (E.set [0]) (.sl Entry.ty) v (.sl (l.map Entry.enc)):=h
theorem zeL (l:List Entry) (hl:zcG l):FnC Tryz.prog 61 [dEntrys.can l] (.own 2) [.dead,.dead,.row 71 [1] (.rEntry l)]:=by
 refine ⟨fnB Tryz.func61 (by decide) rfl,fun w E vals hm hd=>?_⟩
 obtain ⟨v,rfl,hv⟩:=zes hd
 refine (zvj v l w (E.set [0]) (fun b ⟨i,_,hs⟩=>(hm.lab i b hs).1) (znV hv) hl).mono ?_
 rintro e w' ⟨u,rfl,ho,hb⟩
 obtain ⟨E',h1,h2,h3⟩:=zsM hm hb ho
 exact ⟨u,E',rfl,⟨h1,h2⟩,h3⟩
def zqJ:Ent:=ent1 61 dEntrys fun l=>([zcG l],.own 2,[.dead,.dead,.row 71 [1] (.rEntry l)])
theorem zuX:zcG []:=⟨by decide,fun x h=>by cases h⟩
theorem zk0:zaf Tryz.prog zqJ:=za4 (zeL [] zuX).1 fun l h=>zeL l (h _ (by simp))
structure SmallN (n:Node):Prop where
 k:zbQ n.kept
 yes:n.yes.length<=1000000
 peers:n.peers.length<=1000000
 reads:n.reads.length<=1000000
def Node.osvs (n:Node) (ls:List Nat) (e y p r:Nat):List SV:=
 [.int .i64 n.id,.int .i64 n.role,.int .i64 n.kept.term,.int .i64 n.kept.vote,.int .i64 n.kept.snap.index,.int .i64 n.kept.snap.term,.sl ls (.rInts n.kept.snap.config.voters),.sl ls (.rInts n.kept.snap.config.learners),.str n.kept.snap.data,.own e,.int .i64 n.commit,.int .i64 n.lead,.int .i64 n.elapsed,.own y,.own p,.int .i64 n.round,.own r]
def zwZ (n:Node):List BE:=[.dead,.dead,.row 71 [1] (.rEntry n.kept.entries),.row 3 [] (.rInts n.yes),.row 102 [] (.rPeer n.peers),.row 123 [] (.rRead n.reads)]
def tabN1:List Ent:=[zu9,zqY,zqX,zhM,zqJ]
theorem zrY:∀ e∈tabN1,zaf Tryz.prog e:=zaa zk6 (zaa zoe (zaa zod (zaa zdL (zaa zk0 zad))))
theorem zug (n:Node) (hn:SmallN n):FnC Tryz.prog 21 [dNode.can n] (.agg (n.osvs [1] 2 3 4 5)) (zwZ n):=by
 refine FnG.of_vc (zak zrY fun _=>none) Tryz.func21 rfl (by decide) rfl 300 (p:=fun (V:List PE->Prop)=>True/\(zaw n.kept.snap.config/\True)/\(zcG n.kept.entries/\True)/\(n.yes.length<=1000000/\n.peers.length<=1000000/\n.reads.length<=1000000/\True)/\True/\qN0 n n (qN1 n n (n.reads=n.reads/\True))) (by kernel_rfl) ?_
 simp only [qN0,qN1,imp_self,implies_true,true_and,and_true,zah,zai]
 exact ⟨hn.k.2,hn.k.1,hn.yes,hn.peers,hn.reads⟩
def zvT:Ent:=ent1 21 dNode fun n=>([SmallN n],.agg (n.osvs [1] 2 3 4 5),zwZ n)
theorem zd3:SmallN default:=⟨zkN,by decide,by decide,by decide⟩
theorem zmI:zaf Tryz.prog zvT:=za4 (zug default zd3).1 fun l h=>zug l (h _ (by simp))
def dRpInt:Dec Int where
 dec:=fun s=>match s with | .rp _ 3 [.int .i64 n] 0=>some n | _=>none
 can:=fun x=> .rp [0] 3 [.int .i64 x] 0
 Okp:=fun x=>True
 okp:=fun x E w v _=>trivial
 ok:=by
  intro s x h E w v hz hd
  split at h
  case h_2=>simp at h
  rename_i ls n
  simp only [Option.some.injEq] at h
  subst h
  obtain ⟨b,xs,hv,hb,hh,hl⟩:=hd
  exact ⟨b,xs,hv,hz.set hb,hh,hl⟩
def dCloW:Dec Int where
 dec:=fun s=>match s with | .clo 89 [t]=>dRpInt.dec t | _=>none
 can:=fun x=> .clo 89 [dRpInt.can x]
 Okp:=fun x=>True
 okp:=fun x E w v h=>trivial
 ok:=by
  intro s x h E w v hz hd
  split at h
  case h_2=>simp at h
  obtain ⟨xs,hv,hd⟩:=hd
  match xs,hd with
  | [u],hd=>exact ⟨[u],hv,dRpInt.ok _ _ h E w u hz hd.1,trivial⟩
def offB (most x:Int):Bool:=decide (x<0)||decide (x>most)
theorem zhk (x most:Int):FnC Tryz.prog 89 [dInt.can x,dRpInt.can most] (.bool (offB most x)) D2:=by
 refine FnG.of_vc (zak zad fun _=>none) Tryz.func89 rfl (by decide) rfl 300 (p:=fun (V:List PE->Prop)=>let v0:=decide (x<0);True/\(((!v0)=true->(!v0)=true)/\((!v0)=true->(!v0)=true)/\(v0=false->(!v0)=true)/\True)/\zac v0 true (decide (x>most))=offB most x/\True) (by kernel_rfl) ?_
 simp only [offB]
 cases h:decide (x<0)<;>simp [zac]
def eWi1:Ent:=ent2 89 dInt dRpInt fun x m=>([],.bool (offB m x),D2)
theorem zq2:zaf Tryz.prog eWi1:=za3 (zhk 0 0).1 fun x m _=>zhk x m
theorem zka (l:List Int) (m:Int):FnC Tryz.prog 110 [dInts.can l,dCloW.can m] (.int .i64 (zaK (offB m) l)) D2:=by
 refine FnC.g2 dInts dCloW l m (fnB Tryz.func110 (by decide) rfl) fun hl _=>?_
 refine FnG.of_vc (zak (zaa zq2 zad) fun _=>none) Tryz.func110 rfl (by decide) rfl 300 (p:=fun (V:List PE->Prop)=>True/\True/\V []) (by kernel_rfl) ?_
 simp only [true_and,and_true]
 refine LoopG.head (zak (zaa zq2 zad) fun _=>none) 0 (A:=Nat) (fun j=>j<=l.length/\∀ i,i<j->offB m (l.getD i 0)=false) (fun j=>[(8,.int .i64 j)]) (fun _=>[]) (fun j=>l.length-j) 0 ⟨Nat.zero_le _,fun i h=>absurd h (by omega)⟩ (p0:=let v0:=(↑(l.length):Int);(0:Int)=(↑(0:Nat):Int)/\v0=v0/\l=l/\m=m/\True) (by kernel_rfl) ?_ 300 (p:=fun (x:Nat) (V:List PE->Prop)=>let v0:=(↑x:Int);let v1:=zaK (offB m) l;let v2:=(↑(l.length):Int);let v3:=offB m (List.getD l x (0:Int));let v4:=decide (v0<v2);True/\True/\(v4=true->True/\((0:Int)<=v0/\v0<v2/\True)/\True/\(v3=true->True/\v0=v1/\True)/\(v3=false->True/\V [PE.a,PE.b]))/\(v4=false->True/\(-1:Int)=v1/\True)) (by intro x;kernel_rfl) ?_
 ·simp
 ·rintro j ⟨hj,h0⟩
  have hl44:=hl.1
  simp only [true_and,and_true,decide_eq_true_eq,decide_eq_false_iff_not]
  refine ⟨fun h1=>⟨by omega,fun h2=>?_,fun h2=>?_⟩,fun h1=>?_⟩
  ·exact (zcU (by omega) h0 h2).symm
  ·refine Back.mk (j+1) ⟨by omega,fun i hi=>?_⟩ (by omega) (p0:=let v0:=(↑(l.length):Int);IntKind.wrap IntKind.i64 ((↑j:Int)+(1:Int))=(↑(j+(1:Nat)):Int)/\v0=v0/\l=l/\m=m/\True) (by kernel_rfl) ?_
   ·by_cases h:i=j
    ·subst h;exact h2
    ·exact h0 i (by omega)
   ·simp [zbN (i:=j) (by omega)]
  ·exact (zc0 fun i hi=>h0 i (by omega)).symm
def eIdxW:Ent:=ent2 110 dInts dCloW fun l m=>([],.int .i64 (zaK (offB m) l),D2)
theorem zty:zaf Tryz.prog eIdxW:=za3 (zka [] 0).1 fun l m _=>zka l m
theorem zmW (l:List Int) (m:Int):FnC Tryz.prog 88 [dInts.can l,dCloW.can m] (.bool (l.any (offB m))) D2:=by
 refine FnG.of_vc (zak (zaa zty zad) fun _=>none) Tryz.func88 rfl (by decide) rfl 300 (p:=fun (V:List PE->Prop)=>True/\True/\decide ((zaK (offB m) l)>=0)=List.any l (offB m)/\True) (by kernel_rfl) ?_
 simp only [true_and,and_true]
 exact zkn l
def zxD:Ent:=ent2 88 dInts dCloW fun l m=>([],.bool (l.any (offB m)),D2)
theorem zqW:zaf Tryz.prog zxD:=za3 (zmW [] 0).1 fun l m _=>zmW l m
theorem zjl (m:Int) (l:List Int):FnC Tryz.prog 55 [dInt.can m,dInts.can l] (.bool (!l.any (offB m))) D2:=by
 refine FnG.of_vc (zak (zaa zqW zad) fun _=>none) Tryz.func55 rfl (by decide) rfl 300 (p:=fun (V:List PE->Prop)=>let v0:=!List.any l (offB m);True/\True/\v0=v0/\True) (by kernel_rfl) ?_
 simp
def zlu:Ent:=ent2 55 dInt dInts fun m l=>([],.bool (!l.any (offB m)),D2)
theorem zhI:zaf Tryz.prog zlu:=za3 (zjl 0 []).1 fun m l _=>zjl m l
def za6 (n:Node):Config:=(zav n.kept (zam n.kept).1).1
theorem zop {k:Kept} (h:zbQ k) (i:Int):zaw (cfgR k i).1:=by
 unfold cfgR
 split
 ·rename_i e he
  exact h.1.2 e (by have:=List.mem_of_find?_eq_some he;simpa using this)
 ·exact h.2
theorem zja {k:Kept} (h:zbQ k) (i:Int):zaw (zav k i).1:=by
 unfold zav
 split
 ·exact zop h i
 ·exact ⟨Nat.zero_le _,Nat.zero_le _⟩
theorem zdo {n:Node} (h:SmallN n):zaw (za6 n):=zja h.k _
def tabN2:List Ent:=[zk4,zt1]
theorem zrX:∀ e∈tabN2,zaf Tryz.prog e:=zaa zeZ (zaa ziT zad)
theorem zk9 (n:Node) (hn:SmallN n):FnC Tryz.prog 37 [dNode.can n] (.agg ((za6 n).svs [1])) D2:=by
 refine FnG.of_vc (zak zrX fun _=>none) Tryz.func37 rfl (by decide) rfl 300 (p:=fun (V:List PE->Prop)=>let v1:=Prod.fst (zav n.kept (Prod.fst (zam n.kept)));True/\True/\(zbQ n.kept/\True)/\True/\v1.voters=Config.voters (za6 n)/\v1.learners=Config.learners (za6 n)/\True) (by kernel_rfl) ?_
 simp only [imp_self,implies_true,true_and,and_true,zah,zai]
 exact ⟨hn.k,rfl,rfl⟩
def zhQ:Ent:=ent1 37 dNode fun n=>([SmallN n],.agg ((za6 n).svs [1]),D2)
theorem zdM:zaf Tryz.prog zhQ:=za4 (zk9 default zd3).1 fun l h=>zk9 l (h _ (by simp))
def zay (n:Node):List Int:=za8 (allC (za6 n)) n.id
theorem zef (c:Config):Asc (allC c)/\(allC c).length<=16:=by
 unfold allC
 split
 ·rename_i h
  have h2:=h
  unfold mayC at h2
  simp only [Bool.and_eq_true] at h2
  refine ⟨zfn (isC_iff.1 h2.1.1.1.1).1,?_⟩
  have:=zm5 h
  unfold zdw at this
  split at this
  ·split at this
   ·assumption
   ·simp at this
  ·simp at this
 ·exact ⟨List.Pairwise.nil,by simp⟩
theorem zsU (c:Config):isC (allC c)=true:=isC_iff.2 (zef c)
noncomputable def tabN3:List Ent:=[zhQ,eAll,zfR]
theorem zrW:∀ e∈tabN3,zaf Tryz.prog e:=zaa zdM (zaa zwf (zaa ze1 zad))
theorem zjF (n:Node) (hn:SmallN n):FnC Tryz.prog 49 [dNode.can n] (.sl [1] (.rInts (zay n))) D2:=by
 refine FnG.of_vc (zak zrW fun _=>none) Tryz.func49 rfl (by decide) rfl 300 (p:=fun (V:List PE->Prop)=>True/\(SmallN n/\zaw (za6 n)/\List.length (allC (za6 n))<=1000000/\True)/\True/\zbp (allC (za6 n)) n.id=zay n/\True) (by kernel_rfl) ?_
 simp only [imp_self,implies_true,true_and,and_true,zah,zai]
 have:=(zef (za6 n)).2
 refine ⟨⟨hn,zdo hn,by omega⟩,?_⟩
 rw [zbp,zsU];rfl
def eOth:Ent:=ent1 49 dNode fun n=>([SmallN n],.sl [1] (.rInts (zay n)),D2)
theorem zlx:zaf Tryz.prog eOth:=za4 (zjF default zd3).1 fun l h=>zjF l (h _ (by simp))
theorem zkr (a b:List Int):FnC Tryz.prog 59 [dInts.can a,dInts.can b] (.bool (decide (a=b))) D2:=by
 refine FnC.g2 dInts dInts a b (fnB Tryz.func59 (by decide) rfl) fun ha hb=>?_
 refine FnG.of_vc (zak zad fun _=>none) Tryz.func59 rfl (by decide) rfl 300 (p:=fun (V:List PE->Prop)=>let v0:=(↑(a.length):Int) != (↑(b.length):Int);True/\True/\True/\(v0=true->True/\false=decide (a=b)/\True)/\(v0=false->True/\V [PE.b])) (by kernel_rfl) ?_
 simp only [true_and,and_true,imp_self]
 refine ⟨fun h=>?_,fun h=>?_⟩
 ·have:a≠b:=fun e=>by subst e;simp at h
  simp [this]
 have hab:a.length=b.length:=by simp at h;omega
 refine LoopG.head (zak zad fun _=>none) 0 (A:=Nat) (fun j=>j<=a.length/\∀ i,i<j->a.getD i 0=b.getD i 0) (fun j=>[(13,.int .i64 j)]) (fun j=>[]) (fun j=>a.length-j) 0 ⟨Nat.zero_le _,fun i h=>absurd h (by omega)⟩ (p0:=let v0:=(↑(a.length):Int);(0:Int)=(↑(0:Nat):Int)/\v0=v0/\a=a/\b=b/\True) (by kernel_rfl) ?_ 300 (p:=fun (x:Nat) (V:List PE->Prop)=>let v0:=(↑x:Int);let v1:=(↑(a.length):Int);let v2:=List.getD a x (0:Int) != List.getD b x (0:Int);let v3:=decide (v0<v1);True/\True/\(v3=true->True/\((0:Int)<=v0/\v0<v1/\(0:Int)<=v0/\v0<(↑(b.length):Int)/\True)/\True/\(v2=true->True/\false=decide (a=b)/\True)/\(v2=false->True/\V [PE.a,PE.b]))/\(v3=false->True/\true=decide (a=b)/\True)) (by intro x;kernel_rfl) ?_
 ·simp
 ·rintro j ⟨hj,h0⟩
  have hkl:=ha.1
  simp only [imp_self,implies_true,true_and,and_true,decide_eq_true_eq,decide_eq_false_iff_not]
  refine ⟨fun h6=>⟨by omega,fun h7=>?_,fun h7=>?_⟩,fun h6=>?_⟩
  ·have:a≠b:=fun e=>by subst e;simp at h7
   simp [this]
  ·refine Back.mk (j+1) ⟨by omega,fun i hi=>?_⟩ (by omega) (p0:=let v0:=(↑(a.length):Int);IntKind.wrap IntKind.i64 ((↑j:Int)+(1:Int))=(↑(j+(1:Nat)):Int)/\v0=v0/\a=a/\b=b/\True) (by kernel_rfl) ?_
   ·by_cases hij:i=j
    ·subst hij;simpa using h7
    ·exact h0 i (by omega)
   ·simp [zbN (i:=j) (by omega)]
  ·have:a=b:=zmE hab fun i hi=>h0 i (by omega)
   simp [this]
def eEqS:Ent:=ent2 59 dInts dInts fun a b=>([],.bool (decide (a=b)),D2)
theorem zvZ:zaf Tryz.prog eEqS:=za3 (zkr [] []).1 fun a b _=>zkr a b
def wi (m x:Int):Bool:=decide (0<=x)&&decide (x<=m)
theorem zet (m x:Int):offB m x=!wi m x:=by
 unfold offB wi
 by_cases h1:0<=x<;>by_cases h2:x<=m<;>simp [h1,h2]<;>omega
def zdc (last round:Int) (p:Peer):Bool:=wi last p.match_&&decide (p.next>p.match_)&&decide (IntKind.i64.wrap (p.next-1)<=last)&&wi round p.round
def zf6 (n:Node):Bool:=decide (n.peers.map (·.node)=zay n)&&decide (n.reads.length<=100)&&n.peers.all (zdc (zam n.kept).1 n.round)
def zcX (k:Kept):Bool:=k.entries.all (fun e=>!(e.kind==2)||mayC e.config)&&mayC k.snap.config
def zvo (n:Node):Bool:=
 wi 4 (IntKind.i64.wrap (n.id-1))&&decide (1<=n.role)&&decide (n.role<=4)&&decide (n.kept.entries.length<=9000)&&onC n.kept &&
 wi 900000000 n.kept.term&&wi 900000000 n.kept.vote&&wi 900000000 n.round&&wi 900000000 n.lead&&wi 900000000 (zam n.kept).1&&wi 1000 n.elapsed &&
 decide (n.kept.snap.index<=n.commit)&&decide (n.commit<=(zam n.kept).1)&&isC n.yes&&n.yes.all (fun y=>wi 4 (IntKind.i64.wrap (y-1)))
def zan (n:Node):Bool:=zvo n&&zcX n.kept&&(if n.role=4 then zf6 n else decide (n.peers=[])&&decide (n.reads=[]))
def cfE (e:Entry):Bool:=!(e.kind==2)||mayC e.config
def okA0 (n:Node):Bool:=
 wi 4 (IntKind.i64.wrap (n.id-1))&&decide (1<=n.role)&&decide (n.role<=4)&&decide (n.kept.entries.length<=9000)&&onC n.kept &&
 wi 900000000 n.kept.term&&wi 900000000 n.kept.vote&&wi 900000000 n.round&&wi 900000000 n.lead&&wi 900000000 (zam n.kept).1&&wi 1000 n.elapsed &&
 decide (n.kept.snap.index<=n.commit)&&decide (n.commit<=(zam n.kept).1)&&isC n.yes&&mayC n.kept.snap.config
theorem zjh {α:Type} {d:α} {l:List α} {j:Nat} (f:α->Bool) (h:j<l.length):(l.take (j+1)).all f=((l.take j).all f&&f (l.getD j d)):=by
 rw [zaL (d:=d) h,List.all_append];simp
theorem zs1 (n:Node) (hl:n.peers.length+n.reads.length<=9000000000):zan n=((okA0 n&&n.kept.entries.all cfE&&n.yes.all (fun y=>wi 4 (IntKind.i64.wrap (y-1)))&&n.peers.all (zdc (zam n.kept).1 n.round)) &&
  ((!(n.role==4)||decide (n.peers.map (fun x=>x.node)=zay n))&&((n.role==4)||!decide (IntKind.i64.wrap ((n.peers.length:Int)+(n.reads.length:Int))>0))&&!decide ((n.reads.length:Int)>100))):=by
 have hc:zcX n.kept=(n.kept.entries.all cfE&&mayC n.kept.snap.config):=rfl
 rw [zan,hc,zvo,okA0,zaD (n:=(n.peers.length:Int)+(n.reads.length:Int)) ⟨by omega,by omega⟩]
 have h100:(!decide ((n.reads.length:Int)>100))=decide (n.reads.length<=100):=by rw [Bool.eq_iff_iff];simp;omega
 rw [h100]
 have ew:(!decide ((n.peers.length:Int)+(n.reads.length:Int)>0))=(decide (n.peers=[])&&decide (n.reads=[])):=by
  rw [Bool.eq_iff_iff]
  simp only [Bool.not_eq_true',decide_eq_false_iff_not,Bool.and_eq_true,decide_eq_true_eq,<- List.length_eq_zero_iff]
  omega
 rw [ew]
 by_cases hr:n.role=4
 ·have hr2:(n.role==4)=true:=by simpa using hr
  rw [if_pos hr,hr2,zf6]
  simp only [Bool.not_true,Bool.false_or,Bool.true_or,Bool.and_true]
  generalize mayC n.kept.snap.config=x1
  generalize n.kept.entries.all cfE=x2
  generalize n.peers.all (zdc (zam n.kept).1 n.round)=x3
  generalize n.yes.all (fun y=>wi 4 (IntKind.i64.wrap (y-1)))=x4
  generalize decide (n.reads.length<=100)=x5
  simp only [Bool.and_assoc]
  cases x1<;>cases x2<;>cases x3<;>cases x4<;>cases x5<;>simp [Bool.and_assoc]
 ·have hr2:(n.role==4)=false:=by simpa using hr
  rw [if_neg hr,hr2]
  by_cases hp:n.peers=[]
  ·by_cases hq:n.reads=[]
   ·rw [hp,hq]
    generalize mayC n.kept.snap.config=x1
    generalize n.kept.entries.all cfE=x2
    generalize n.yes.all (fun y=>wi 4 (IntKind.i64.wrap (y-1)))=x4
    cases x1<;>cases x2<;>cases x4<;>simp [Bool.and_assoc]
   ·simp [hq]
  ·simp [hp]
def errC (n:Node):Int:=if zan n then 0 else 1
noncomputable def tabP:List Ent:=[zk4,zlu,zl3,eIs,zl0,eOth,eEqS]
theorem zil:∀ e∈tabP,zaf Tryz.prog e:=zaa zeZ (zaa zhI (zaa zhR (zaa zxB (zaa zhN (zaa zlx (zaa zvZ zad))))))
theorem zhV (n:Node) (hn:SmallN n):FnC Tryz.prog 20 [dNode.can n] (.int .i64 (errC n)) D2:=by
 refine FnC.g1 dNode n (fnB Tryz.func20 (by decide) rfl) fun hk=>?_
 refine FnG.of_vc (zak zil fun _=>none) Tryz.func20 rfl (by decide) rfl 300 (p:=fun (V:List PE->Prop)=>let v0:=n.kept;let v5:=Prod.fst (zam v0);let v7:=[IntKind.wrap IntKind.i64 (n.id-(1:Int))];let v8:=!List.any v7 (offB (4:Int));let v9:=zac v8 (decide (n.role>=1)) false;let v10:=zac v9 (decide (n.role<=4)) false;let v11:=[v0.term]++[v0.vote]++[n.round]++[n.lead]++[v5];let v12:=zac v10 (decide ((↑(v0.entries.length):Int)<=9000)) false;let v13:=zac v12 (err (onC v0)==0) false;let v14:=zac v13 (!List.any v11 (offB (900000000:Int))) false;let v15:=zac v14 (!List.any [n.elapsed] (offB (1000:Int))) false;let v16:=zac v15 (decide (n.commit>=v0.snap.index)) false;let v17:=zac v16 (decide (n.commit<=v5)) false;True/\True/\(v7.length<=17592186044416/\(v8=true->v8=true)/\(v8=true->v8=true)/\(v8=true->v8=true)/\(v9=true->v9=true)/\(v9=true->v9=true)/\(v9=true->v9=true)/\(v10=true->v10=true)/\(v10=true->v10=true)/\(v10=true->v10=true)/\(v10=true->v10=true)/\(v10=true->v10=true)/\True)/\((v12=true->v12=true)/\(v12=true->v12=true)/\(v12=true->v12=true)/\(v12=true->v12=true)/\(v13=true->v13=true)/\(v13=true->v13=true)/\(v13=true->v13=true)/\(v13=true->v13=true)/\(v13=true->v13=true)/\(v13=true->v13=true)/\(v13=true->v11.length<=17592186044416)/\(v13=true->v13=true)/\(v13=true->v13=true)/\(v13=true->v13=true)/\(v13=true->v13=true)/\(v13=true->v13=true)/\(v13=true->v13=true)/\(v13=true->v13=true)/\(v14=true->v14=true)/\(v14=true->List.length [n.elapsed]<=17592186044416)/\(v14=true->v14=true)/\(v14=true->v14=true)/\(v14=true->v14=true)/\True)/\((v15=true->v15=true)/\(v15=true->v15=true)/\(v15=true->v15=true)/\(v15=true->v15=true)/\(v15=true->v15=true)/\(v15=true->v15=true)/\(v15=true->v15=true)/\(v16=true->v16=true)/\(v16=true->v16=true)/\(v16=true->v16=true)/\(v16=true->v16=true)/\(v17=true->v17=true)/\(v17=true->v17=true)/\(v17=true->v17=true)/\(zac v17 (isC n.yes) false=true->zac v17 (isC n.yes) false=true)/\(zac v17 (isC n.yes) false=true->zac v17 (isC n.yes) false=true)/\(zac v17 (isC n.yes) false=true->zac v17 (isC n.yes) false=true)/\(zac v17 (isC n.yes) false=true->zac v17 (isC n.yes) false=true)/\(zac v17 (isC n.yes) false=true->zaw v0.snap.config)/\(zac v17 (isC n.yes) false=true->zac v17 (isC n.yes) false=true)/\(zac v17 (isC n.yes) false=true->zac v17 (isC n.yes) false=true)/\True)/\True/\V []) (by kernel_rfl) ?_
 simp only [qN0,qN2,imp_self,implies_true,true_and,and_true,zah,zai]
 refine ⟨by simp,⟨fun _=>by simp,fun _=>by simp⟩,fun _=>hn.k.2,?_⟩
 obtain ⟨okA,hA⟩:∃ b,b=okA0 n:=⟨_,rfl⟩
 refine LoopG.head (zak zil fun _=>none) 0 (A:=Nat) (fun j=>j<=n.kept.entries.length) (fun j=>[(102,.int .i64 j),(5,.bool (okA&&(n.kept.entries.take j).all cfE))]) (fun _=>[]) (fun j=>n.kept.entries.length-j) 0 (Nat.zero_le _) (p0:=let v3:=n.kept;let v7:=v3.entries;let v15:=(0:Int);let v18:=Prod.fst (zam v3);let v19:=(↑(v7.length):Int);v15=(↑(0:Nat):Int)/\zac (zac (zac (zac (zac (zac (zac (zac (zac (zac (!List.any [IntKind.wrap IntKind.i64 (n.id-(1:Int))] (offB (4:Int))) (decide (n.role>=1)) false) (decide (n.role<=4)) false) (decide (v19<=9000)) false) (err (onC v3)==v15) false) (!List.any ([v3.term]++[v3.vote]++[n.round]++[n.lead]++[v18]) (offB (900000000:Int))) false) (!List.any [n.elapsed] (offB (1000:Int))) false) (decide (n.commit>=v3.snap.index)) false) (decide (n.commit<=v18)) false) (isC n.yes) false) (errM (mayC v3.snap.config)==v15) false=(okA&&List.all (List.take (0:Nat) v7) cfE)/\v19=v19/\v7=v7/\v18=v18/\v15=v15/\qN0 n n (qN2 n n (n.reads=n.reads/\True))) (by kernel_rfl) ?_ 300 (p:=fun (x:Nat) (V:List PE->Prop)=>let v0:=n.kept.entries;let v1:=(↑x:Int);let v2:=(↑(v0.length):Int);let v3:=List.getD v0 x default;let v4:=okA&&List.all (List.take x v0) cfE;let v5:=v3.kind != 2;let v6:=decide (v1<v2);True/\True/\(v6=true->((0:Int)<=v1/\v1<v2/\True)/\((v4=true->v4=true)/\(v4=true->v4=true)/\(v4=true->v4=true)/\((v4&&!v5)=true->(v4&&!v5)=true)/\((v4&&!v5)=true->(v4&&!v5)=true)/\((v4&&!v5)=true->zaw v3.config)/\((v4&&!v5)=true->(v4&&!v5)=true)/\(v4=true->v4=true)/\(v4=true->v5=false->(v4&&!v5)=true)/\(v4=true->v4=true)/\True)/\True/\V [PE.a])/\(v6=false->True/\V [PE.b])) (by intro x;kernel_rfl) ?_
 ·have hb:∀ (b:Bool),(errM b==(0:Int))=b:=fun b=>by cases b<;>rfl
  have hb2:∀ (b:Bool),(err b==(0:Int))=b:=fun b=>by cases b<;>rfl
  have e1:(!List.any [IntKind.i64.wrap (n.id-1)] (offB 4))=wi 4 (IntKind.i64.wrap (n.id-1)):=by simp [zet]
  have e2:(!List.any ([n.kept.term]++[n.kept.vote]++[n.round]++[n.lead]++[(zam n.kept).1]) (offB 900000000))=(wi 900000000 n.kept.term&&wi 900000000 n.kept.vote&&wi 900000000 n.round&&wi 900000000 n.lead&&wi 900000000 (zam n.kept).1):=by simp [zet,Bool.and_assoc]
  have e3:(!List.any [n.elapsed] (offB 1000))=wi 1000 n.elapsed:=by simp [zet]
  have e4:decide ((n.kept.entries.length:Int)<=9000)=decide (n.kept.entries.length<=9000):=by rw [Bool.eq_iff_iff,decide_eq_true_eq,decide_eq_true_eq];omega
  simp only [qN0,qN2,hb,hb2,e1,e2,e3,e4,hA,okA0,GE.ge,List.take_zero,List.all_nil,Bool.and_true,and_true,true_and,zah]
  refine ⟨rfl,?_⟩
  have pb:∀ a b:Bool,zac a b false=(a&&b):=fun a b=>by cases a<;>rfl
  simp only [pb,Bool.and_assoc]
 rintro j hj
 have hkl:=hk.kept_entries.1
 simp only [qN0,qN2,imp_self,implies_true,true_and,and_true,decide_eq_true_eq,decide_eq_false_iff_not]
 have hb:∀ (b:Bool),(errM b==(0:Int))=b:=fun b=>by cases b<;>rfl
 have pb:∀ a b:Bool,zac a b false=(a&&b):=fun a b=>by cases a<;>rfl
 have pt:∀ a b:Bool,zac a true b=(a||b):=fun a b=>by cases a<;>rfl
 refine ⟨fun h6=>?_,fun h6=>?_⟩
 ·have hse:=hn.k.1.2 _ (zb1 (d:=(default:Entry)) (show j<n.kept.entries.length by omega))
  refine ⟨by omega,⟨fun _=>hse,fun g1 g2=>by rw [g1,g2];rfl⟩,?_⟩
  refine Back.mk (j+1) (by omega) (by omega) (p0:=let v1:=n.kept.entries;let v11:=Prod.fst (zam n.kept);let v12:=(↑(v1.length):Int);let v13:=List.getD v1 j default;IntKind.wrap IntKind.i64 ((↑j:Int)+(1:Int))=(↑(j+(1:Nat)):Int)/\zac (okA&&List.all (List.take j v1) cfE) (zac (v13.kind != 2) true (errM (mayC v13.config)==0)) false=(okA&&List.all (List.take (j+(1:Nat)) v1) cfE)/\v12=v12/\v1=v1/\v11=v11/\(0:Int)=0/\qN0 n n (qN2 n n (n.reads=n.reads/\True))) (by kernel_rfl) ?_
  simp only [qN0,qN2,true_and,and_true,zbN (i:=j) (by omega),hb,pb,pt]
  refine ⟨by omega,?_⟩
  rw [zjh (d:=default) _ (by omega),cfE]
  simp only [bne,Bool.and_assoc]
 obtain rfl:j=n.kept.entries.length:=by omega
 rw [List.take_length]
 obtain ⟨okB,hB⟩:∃ b,n.kept.entries.all cfE=b:=⟨_,rfl⟩
 rw [hB]
 refine LoopG.head (zak zil fun _=>none) 1 (A:=Nat) (fun j=>j<=n.yes.length) (fun j=>[(122,.int .i64 j),(5,.bool (okA&&okB&&(n.yes.take j).all (fun y=>wi 4 (IntKind.i64.wrap (y-1)))))]) (fun _=>[]) (fun j=>n.yes.length-j) 0 (Nat.zero_le _) (p0:=let v12:=Prod.fst (zam n.kept);let v13:=(↑(n.yes.length):Int);(0:Int)=(↑(0:Nat):Int)/\(okA&&okB)=(okA&&okB&&List.all (List.take (0:Nat) n.yes) fun (y:Int)=>wi (4:Int) (IntKind.wrap IntKind.i64 (y-(1:Int))))/\v13=v13/\n.yes=n.yes/\v12=v12/\(0:Int)=0/\qN0 n n (qN2 n n (n.reads=n.reads/\True))) (by kernel_rfl) ?_ 300 (p:=fun (x:Nat) (V:List PE->Prop)=>let v0:=n.yes;let v1:=(↑x:Int);let v2:=(↑(v0.length):Int);let v3:=decide (v1<v2);True/\True/\(v3=true->((0:Int)<=v1/\v1<v2/\True)/\(((okA&&okB&&List.all (List.take x v0) fun (y:Int)=>wi (4:Int) (IntKind.wrap IntKind.i64 (y-(1:Int))))=true->(okA&&okB&&List.all (List.take x v0) fun (y:Int)=>wi (4:Int) (IntKind.wrap IntKind.i64 (y-(1:Int))))=true)/\((okA&&okB&&List.all (List.take x v0) fun (y:Int)=>wi (4:Int) (IntKind.wrap IntKind.i64 (y-(1:Int))))=true->List.length [IntKind.wrap IntKind.i64 (List.getD v0 x (0:Int)-(1:Int))]<=17592186044416)/\((okA&&okB&&List.all (List.take x v0) fun (y:Int)=>wi (4:Int) (IntKind.wrap IntKind.i64 (y-(1:Int))))=true->(okA&&okB&&List.all (List.take x v0) fun (y:Int)=>wi (4:Int) (IntKind.wrap IntKind.i64 (y-(1:Int))))=true)/\((okA&&okB&&List.all (List.take x v0) fun (y:Int)=>wi (4:Int) (IntKind.wrap IntKind.i64 (y-(1:Int))))=true->(okA&&okB&&List.all (List.take x v0) fun (y:Int)=>wi (4:Int) (IntKind.wrap IntKind.i64 (y-(1:Int))))=true)/\((okA&&okB&&List.all (List.take x v0) fun (y:Int)=>wi (4:Int) (IntKind.wrap IntKind.i64 (y-(1:Int))))=true->(okA&&okB&&List.all (List.take x v0) fun (y:Int)=>wi (4:Int) (IntKind.wrap IntKind.i64 (y-(1:Int))))=true)/\True)/\True/\V [PE.a])/\(v3=false->True/\True/\V [PE.b])) (by intro x;kernel_rfl) ?_
 ·simp
 rintro j hj
 have hkl:=hk.yes.1
 simp only [qN0,qN2,imp_self,implies_true,true_and,and_true,decide_eq_true_eq,decide_eq_false_iff_not]
 refine ⟨fun h6=>?_,fun h6=>?_⟩
 ·refine ⟨by omega,fun _=>by simp,?_⟩
  refine Back.mk (j+1) (by omega) (by omega) (p0:=let v0:=n.yes;let v10:=(1:Int);let v13:=Prod.fst (zam n.kept);let v14:=(↑(v0.length):Int);IntKind.wrap IntKind.i64 ((↑j:Int)+v10)=(↑(j+(1:Nat)):Int)/\zac (okA&&okB&&List.all (List.take j v0) fun (y:Int)=>wi (4:Int) (IntKind.wrap IntKind.i64 (y-v10))) (!List.any [IntKind.wrap IntKind.i64 (List.getD v0 j (0:Int)-v10)] (offB (4:Int))) false=(okA&&okB&&List.all (List.take (j+(1:Nat)) v0) fun (y:Int)=>wi (4:Int) (IntKind.wrap IntKind.i64 (y-v10)))/\v14=v14/\v0=v0/\v13=v13/\(0:Int)=0/\qN0 n n (qN2 n n (n.reads=n.reads/\True))) (by kernel_rfl) ?_
  simp only [qN0,qN2,true_and,and_true,zbN (i:=j) (by omega),pb]
  refine ⟨by omega,?_⟩
  rw [zjh (d:=(0:Int)) _ (by omega)]
  simp only [List.any_cons,List.any_nil,Bool.or_false,zet,Bool.not_not,Bool.and_assoc]
 obtain rfl:j=n.yes.length:=by omega
 rw [List.take_length]
 obtain ⟨okC,hC⟩:∃ b,n.yes.all (fun y=>wi 4 (IntKind.i64.wrap (y-1)))=b:=⟨_,rfl⟩
 rw [hC]
 refine LoopG.head (zak zil fun _=>none) 2 (A:=Nat) (fun j=>j<=n.peers.length) (fun j=>[(137,.int .i64 j),(10,.own 11),(5,.bool (okA&&okB&&okC&&(n.peers.take j).all (zdc (zam n.kept).1 n.round)))]) (fun j=>[(11,.row 3 [] (.rInts ((n.peers.take j).map (·.node))))]) (fun j=>n.peers.length-j) 0 (Nat.zero_le _) (p0:=let v0:=n.peers;let v11:=okA&&okB&&okC;let v14:=Prod.fst (zam n.kept);let v15:=(↑(v0.length):Int);let v16:=List.take (0:Nat) v0;(0:Int)=(↑(0:Nat):Int)/\v11=(v11&&List.all v16 (zdc v14 n.round))/\v15=v15/\v0=v0/\v14=v14/\(0:Int)=0/\List.map (fun (x:Peer)=>x.node) v16=[]/\qN0 n n (qN2 n n (n.reads=n.reads/\True))) (by kernel_rfl) ?_ 300 (p:=fun (x:Nat) (V:List PE->Prop)=>let v1:=(↑x:Int);let v2:=List.take x n.peers;let v3:=(0:Int);let v4:=Prod.fst (zam n.kept);let v5:=(↑(n.peers.length):Int);let v6:=(↑(n.reads.length):Int);let v7:=List.getD n.peers x default;let v9:=v7.match_;let v10:=List.map (fun (x:Peer)=>x.node) v2;let v11:=n.role != 4;let v12:=n.role==4;let v15:=okA&&okB&&okC&&List.all v2 (zdc v4 n.round);let v16:=IntKind.wrap IntKind.i64 (v7.next-(1:Int));let v19:=!(!v15);let v20:=decide (v1<v5);let v21:=zac v15 (!List.any ([v9]) (offB v4)) false;let v22:=zac (!v15) true (zac v12 (!decide (v10=zay n)) false);let v23:=!v22;let v24:=zac v21 (decide (v7.next>v9)) false;let v25:=zac v22 true (zac v11 (decide ((IntKind.wrap IntKind.i64 (v5+v6))>v3)) false);let v26:=zac v25 true (decide (v6>100));True/\True/\(v20=true->(v3<=v1/\v1<v5/\True)/\((v10.length+List.length [v7.node])*(1024:Nat)<=140737488355328/\True)/\((v15=true->v15=true)/\(v15=true->List.length ([v9])<=17592186044416)/\(v15=true->v15=true)/\(v15=true->v15=true)/\(v15=true->v15=true)/\(v15=true->v15=true)/\(v21=true->v21=true)/\(v21=true->v21=true)/\(v21=true->v21=true)/\(v21=true->v21=true)/\(v21=true->v21=true)/\(v24=true->v24=true)/\(v24=true->v24=true)/\(v24=true->v24=true)/\(v24=true->v24=true)/\(v24=true->v24=true)/\(zac v24 (decide (v16<=v4)) false=true->zac v24 (decide (v16<=v4)) false=true)/\(zac v24 (decide (v16<=v4)) false=true->zac v24 (decide (v16<=v4)) false=true)/\(zac v24 (decide (v16<=v4)) false=true->List.length [v7.round]<=17592186044416)/\(zac v24 (decide (v16<=v4)) false=true->zac v24 (decide (v16<=v4)) false=true)/\(zac v24 (decide (v16<=v4)) false=true->zac v24 (decide (v16<=v4)) false=true)/\(zac v24 (decide (v16<=v4)) false=true->zac v24 (decide (v16<=v4)) false=true)/\(zac v24 (decide (v16<=v4)) false=true->zac v24 (decide (v16<=v4)) false=true)/\True)/\True/\V [PE.a])/\(v20=false->((v19=true->v19=true)/\(v19=true->v19=true)/\(v19=true->v19=true)/\((v19&&v12)=true->(v19&&v12)=true)/\((v19&&v12)=true->SmallN n)/\((v19&&v12)=true->(v19&&v12)=true)/\((v19&&v12)=true->(v19&&v12)=true)/\((v19&&v12)=true->v10.length<=17592186044416)/\((v19&&v12)=true->(v19&&v12)=true)/\(v19=true->v19=true)/\(v19=true->v12=true->(v19&&v12)=true)/\((!v15)=false->v19=true)/\(v23=true->v23=true)/\(v23=true->v23=true)/\(v23=true->v23=true)/\((v23&&v11)=true->(v23&&v11)=true)/\((v23&&v11)=true->(v23&&v11)=true)/\((v23&&v11)=true->(v23&&v11)=true)/\((v23&&v11)=true->(v23&&v11)=true)/\((v23&&v11)=true->(v23&&v11)=true)/\((v23&&v11)=true->(v23&&v11)=true)/\((v23&&v11)=true->(v23&&v11)=true)/\(v23=true->v23=true)/\(v23=true->v11=true->(v23&&v11)=true)/\(v22=false->v23=true)/\((!v25)=true->(!v25)=true)/\((!v25)=true->(!v25)=true)/\((!v25)=true->(!v25)=true)/\(v25=false->(!v25)=true)/\True)/\True/\(v26=true->True/\(1:Int)=errC n/\True)/\(v26=false->True/\v3=errC n/\True))) (by intro x;kernel_rfl) ?_
 ·simp
 rintro j hj
 have hkl:=hk.peers.1
 simp only [qN0,qN2,imp_self,implies_true,true_and,and_true,decide_eq_true_eq,decide_eq_false_iff_not]
 refine ⟨fun h6=>?_,fun h6=>?_⟩
 ·refine ⟨by omega,by simp only [List.length_map,List.length_take,List.length_cons,List.length_nil];have:=hn.peers;omega,⟨fun _=>by simp,fun _=>by simp⟩,?_⟩
  refine Back.mk (j+1) (by omega) (by omega) (p0:=let v0:=n.peers;let v13:=okA&&okB&&okC;let v15:=Prod.fst (zam n.kept);let v16:=(↑(v0.length):Int);let v17:=List.getD v0 j default;let v20:=List.take (j+(1:Nat)) v0;IntKind.wrap IntKind.i64 ((↑j:Int)+(1:Int))=(↑(j+(1:Nat)):Int)/\zac (zac (zac (zac (v13&&List.all (List.take j v0) (zdc v15 n.round)) (!List.any [v17.match_] (offB v15)) false) (decide (v17.next>v17.match_)) false) (decide ((IntKind.wrap IntKind.i64 (v17.next-(1:Int)))<=v15)) false) (!List.any [v17.round] (offB n.round)) false=(v13&&List.all v20 (zdc v15 n.round))/\v16=v16/\v0=v0/\v15=v15/\(0:Int)=0/\List.map (fun (x:Peer)=>x.node) (List.take j v0)++[v17.node]=List.map (fun (x:Peer)=>x.node) v20/\qN0 n n (qN2 n n (n.reads=n.reads/\True))) (by kernel_rfl) ?_
  simp only [qN0,qN2,true_and,and_true,zbN (i:=j) (by omega),pb]
  refine ⟨by omega,?_,?_⟩
  ·rw [zjh (d:=(default:Peer)) _ (by omega),zdc]
   simp only [List.any_cons,List.any_nil,Bool.or_false,zet,Bool.not_not,Bool.and_assoc]
  ·rw [zaL (d:=(default:Peer)) (by omega),List.map_append];rfl
 obtain rfl:j=n.peers.length:=by omega
 rw [List.take_length]
 obtain ⟨okD,hD⟩:∃ b,n.peers.all (zdc (zam n.kept).1 n.round)=b:=⟨_,rfl⟩
 rw [hD]
 have hr:=zs1 n (by have:=hn.peers;have:=hn.reads;omega)
 rw [<- hA,hB,hC,hD] at hr
 rw [errC,hr]
 simp only [pb,pt]
 obtain ⟨r,hr1⟩:∃ b,(n.role==4)=b:=⟨_,rfl⟩
 obtain ⟨A,hA1⟩:∃ b,(okA&&okB&&okC&&okD)=b:=⟨_,rfl⟩
 obtain ⟨q,hq⟩:∃ b,decide (n.peers.map (fun x=>x.node)=zay n)=b:=⟨_,rfl⟩
 obtain ⟨w,hw⟩:∃ b,decide (IntKind.i64.wrap ((n.peers.length:Int)+(n.reads.length:Int))>0)=b:=⟨_,rfl⟩
 obtain ⟨v,hv⟩:∃ b,decide ((n.reads.length:Int)>100)=b:=⟨_,rfl⟩
 have hpl:=hn.peers
 simp only [bne,hr1,hA1,hq,hw,hv,List.length_map]
 refine ⟨⟨fun _=>hn,fun _=>by omega,?_⟩,?_⟩
 ·cases r<;>cases A<;>cases q<;>cases w<;>cases v<;>simp
 ·cases r<;>cases A<;>cases q<;>cases w<;>cases v<;>simp
def ziU:Ent:=ent1 20 dNode fun n=>([SmallN n],.int .i64 (errC n),D2)
theorem zgN:zaf Tryz.prog ziU:=za4 (zhV default zd3).1 fun l h=>zhV l (h _ (by simp))
structure RightN (n:Node):Prop where
 id:wi 4 (IntKind.i64.wrap (n.id-1))=true
 role1:1<=n.role
 role4:n.role<=4
 len:n.kept.entries.length<=9000
 on:onC n.kept=true
 term:wi 900000000 n.kept.term=true
 vote:wi 900000000 n.kept.vote=true
 round:wi 900000000 n.round=true
 lead:wi 900000000 n.lead=true
 last:(zam n.kept).1<=900000000
 elapsed:wi 1000 n.elapsed=true
 lo:n.kept.snap.index<=n.commit
 hi:n.commit<=(zam n.kept).1
 yes:isC n.yes=true
 yesn:n.yes.all (fun y=>wi 4 (IntKind.i64.wrap (y-1)))=true
 confs:zcX n.kept=true
 rest:(if n.role=4 then zf6 n else decide (n.peers=[])&&decide (n.reads=[]))=true
theorem last0 {k:Kept} (h:onC k=true):0<=(zam k).1:=by rw [zax h];have:=(zdA h).1;omega
theorem right_iff {n:Node}:zan n=true↔RightN n:=by
 unfold zan zvo
 simp only [Bool.and_eq_true,decide_eq_true_eq]
 constructor
 ·rintro ⟨⟨⟨⟨⟨⟨⟨⟨⟨⟨⟨⟨⟨⟨⟨⟨h1,h2⟩,h3⟩,h4⟩,h5⟩,h6⟩,h7⟩,h8⟩,h9⟩,h10⟩,h11⟩,h12⟩,h13⟩,h14⟩,h15⟩,h16⟩,h17⟩
  exact ⟨h1,h2,h3,h4,h5,h6,h7,h8,h9,by unfold wi at h10;simp only [Bool.and_eq_true,decide_eq_true_eq] at h10;exact h10.2,h11,h12,h13,h14,h15,h16,h17⟩
 ·intro h
  exact ⟨⟨⟨⟨⟨⟨⟨⟨⟨⟨⟨⟨⟨⟨⟨⟨h.id,h.role1⟩,h.role4⟩,h.len⟩,h.on⟩,h.term⟩,h.vote⟩,h.round⟩,h.lead⟩,by have:=last0 h.on;have:=h.last;unfold wi;simp;omega⟩,h.elapsed⟩,h.lo⟩,h.hi⟩,h.yes⟩,h.yesn⟩,h.confs⟩,h.rest⟩
theorem notF (b:Bool):(b=false->(!b)=true)=True:=by cases b<;>simp
def newN (id:Int) (k:Kept):Node:=⟨id,1,k,k.snap.index,0,0,[],[],0,[]⟩
def zeroN:Node:=⟨0,0,default,0,0,0,[],[],0,[]⟩
noncomputable def tabQ3:List Ent:=[ziU,zvT]
theorem zrU:∀ e∈tabQ3,zaf Tryz.prog e:=zaa zgN (zaa zmI zad)
def newC (id:Int) (k:Kept):Node×Int:=if zan (newN id k) then (newN id k,0) else (zeroN,1)
theorem zxd (id:Int) (k:Kept) (hk:zbQ k):FnC Tryz.prog 9 [dInt.can id,dKept.can k] (.tup [.agg ((newC id k).1.svs [1]),.int .i64 (newC id k).2]) D2:=by
 refine FnG.of_vc (zak zrU fun _=>none) Tryz.func9 rfl (by decide) rfl 300 (p:=fun (V:List PE->Prop)=>let v0:=k.snap;let v2:=v0.index;let v3:=(0:Int);let v4:=Prod.snd (newC id k);let v5:=Prod.fst (newC id k);let v11:=v5.kept;let v14:=v11.snap;let v18:=v14.config;let v23:=Node.mk id (1:Int) k v2 v3 v3 [] [] v3 [];let v24:=errC v23;True/\True/\(SmallN v23/\True)/\True/\True/\((v24 != v3)=true->True/\v3=v5.id/\v3=v5.role/\v3=v11.term/\v3=v11.vote/\v3=v14.index/\v3=v14.term/\v18.voters=[]/\v18.learners=[]/\ByteArray.mk #[]=v14.data/\v11.entries=[]/\v3=v5.commit/\v3=v5.lead/\v3=v5.elapsed/\v5.yes=[]/\v5.peers=[]/\v3=v5.round/\v5.reads=[]/\v24=v4/\True)/\((v24 != v3)=false->(SmallN v23/\True)/\id=v5.id/\(1:Int)=v5.role/\k.term=v11.term/\k.vote=v11.vote/\v2=v14.index/\v0.term=v14.term/\v0.config.voters=v18.voters/\v0.config.learners=v18.learners/\v0.data=v14.data/\k.entries=v11.entries/\k.entries.length<=17592186044416/\v2=v5.commit/\v3=v5.lead/\v3=v5.elapsed/\[]=v5.yes/\(0:Nat)<=17592186044416/\[]=v5.peers/\(0:Nat)<=17592186044416/\v3=v5.round/\[]=v5.reads/\(0:Nat)<=17592186044416/\v3=v4/\True)) (by kernel_rfl) ?_
 simp only [imp_self,implies_true,true_and,and_true,zah,zai]
 have hs:SmallN (newN id k):=⟨hk,by simp [newN],by simp [newN],by simp [newN]⟩
 have hkl:k.entries.length<=17592186044416:=by have:=hk.1.1;omega
 change SmallN (newN id k)/\((errC (newN id k) != (0:Int))=true->_)/\((errC (newN id k) != (0:Int))=false->_)
 refine ⟨hs,fun h=>?_,fun h=>?_⟩
 ·have hr:zan (newN id k)=false:=by
   cases hr:zan (newN id k)
   ·rfl
   ·rw [errC,hr] at h;simp at h
  have e:newC id k=(zeroN,1):=by rw [newC,hr];rfl
  rw [e]
  refine ⟨rfl,rfl,rfl,rfl,rfl,rfl,rfl,rfl,rfl,rfl,rfl,rfl,rfl,rfl,rfl,rfl,rfl,?_⟩
  show errC (newN id k)=1
  rw [errC,hr];rfl
 ·have hr:zan (newN id k)=true:=by
   cases hr:zan (newN id k)
   ·rw [errC,hr] at h;simp at h
   ·rfl
  have e:newC id k=(newN id k,0):=by rw [newC,hr];rfl
  rw [e]
  simp only [newN] at hs ⊢
  simp [hs,hkl]
def patI (n:Node):Int:=IntKind.i64.wrap (6+IntKind.i64.wrap (2*(IntKind.i64.wrap (n.id+n.kept.term)).tmod 5))
theorem tmod5 (x:Int):(Lit.int .i64 (x.tmod 5)).wf=true:=by
 have h:(x.tmod 5).natAbs=x.natAbs % 5:=Int.natAbs_tmod x 5
 have:x.natAbs % 5<5:=Nat.mod_lt _ (by decide)
 exact zcF ⟨by omega,by omega⟩
theorem zgs (n:Node):FnC Tryz.prog 35 [dNode.can n] (.int .i64 (patI n)) D2:=by
 refine FnG.of_vc (zak zad fun _=>none) Tryz.func35 rfl (by decide) rfl 300 (p:=fun (V:List PE->Prop)=>let v0:=Int.tmod (IntKind.wrap IntKind.i64 (n.id+n.kept.term)) (5:Int);True/\((5:Int)≠(0:Int)/\Lit.wf (Lit.int IntKind.i64 v0)=true/\True)/\IntKind.wrap IntKind.i64 ((6:Int)+IntKind.wrap IntKind.i64 ((2:Int)*v0))=patI n/\True) (by kernel_rfl) ?_
 simp only [imp_self,implies_true,true_and,and_true,zah,zai]
 exact ⟨⟨by decide,tmod5 _⟩,rfl⟩
def ePat:Ent:=ent1 35 dNode fun n=>([],.int .i64 (patI n),D2)
theorem zvS:zaf Tryz.prog ePat:=za4 (zgs default).1 fun l h=>zgs l
structure Step where
 n:Node
 o:Out
 deriving Inhabited
--MEM<
def wCs (ls:List Nat) (s:Step) (e q p r c m y l:Nat):List SV:=[.int .i64 s.n.id,.int .i64 s.n.role,.int .i64 s.n.kept.term,.int .i64 s.n.kept.vote,.int .i64 s.n.kept.snap.index,.int .i64 s.n.kept.snap.term,.sl ls (.rInts s.n.kept.snap.config.voters),.sl ls (.rInts s.n.kept.snap.config.learners),.str s.n.kept.snap.data,.own e,.int .i64 s.n.commit,.int .i64 s.n.lead,.int .i64 s.n.elapsed,.own q,.own p,.int .i64 s.n.round,.own r,.own c,.own m,.own y,.own l]
def sCs (ls:List Nat) (s:Step) (q p r c m y l:Nat):List SV:=[.int .i64 s.n.id,.int .i64 s.n.role,.int .i64 s.n.kept.term,.int .i64 s.n.kept.vote,.int .i64 s.n.kept.snap.index,.int .i64 s.n.kept.snap.term,.sl ls (.rInts s.n.kept.snap.config.voters),.sl ls (.rInts s.n.kept.snap.config.learners),.str s.n.kept.snap.data,.sl ls (.rEntry s.n.kept.entries),.int .i64 s.n.commit,.int .i64 s.n.lead,.int .i64 s.n.elapsed,.own q,.own p,.int .i64 s.n.round,.own r,.own c,.own m,.own y,.own l]
def wMi (s:Step):List BE:=[.dead,.dead,.cells 87 (wCs [1] s 3 4 5 6 7 8 9 10),.row 71 [1] (.rEntry s.n.kept.entries),.row 3 [1] (.rInts s.n.yes),.row 102 [1] (.rPeer s.n.peers),.row 123 [1] (.rRead s.n.reads),.row 107 [2] (.rRecord s.o.records),.row 58 [2] (.rMessage s.o.messages),.row 123 [2] (.rRead s.o.ready),.row 3 [2] (.rInts s.o.lost)]
def wMo (s:Step):List BE:=[.dead,.dead,.cells 87 (wCs [1,4] s 11 12 13 14 15 16 17 18),.dead,.dead,.dead,.dead,.dead,.dead,.dead,.dead,.row 71 [1,4] (.rEntry s.n.kept.entries),.row 3 [1,4] (.rInts s.n.yes),.row 102 [1,4] (.rPeer s.n.peers),.row 123 [1,4] (.rRead s.n.reads),.row 107 [2,3] (.rRecord s.o.records),.row 58 [2,3] (.rMessage s.o.messages),.row 123 [2,3] (.rRead s.o.ready),.row 3 [2,3] (.rInts s.o.lost)]
def wMoM (s:Step):List BE:=[.dead,.dead,.cells 87 (wCs [1] s 3 4 5 6 7 11 9 10),.row 71 [1] (.rEntry s.n.kept.entries),.row 3 [1] (.rInts s.n.yes),.row 102 [1] (.rPeer s.n.peers),.row 123 [1] (.rRead s.n.reads),.row 107 [2,3] (.rRecord s.o.records),.dead,.row 123 [2,3] (.rRead s.o.ready),.row 3 [2,3] (.rInts s.o.lost),.row 58 [2,3] (.rMessage s.o.messages)]
def sMi (T:TypeId) (s:Step):List BE:=[.dead,.dead,.cells T (sCs [1] s 3 4 5 6 7 8 9),.row 3 [1] (.rInts s.n.yes),.row 102 [1] (.rPeer s.n.peers),.row 123 [1] (.rRead s.n.reads),.row 107 [2] (.rRecord s.o.records),.row 58 [2] (.rMessage s.o.messages),.row 123 [2] (.rRead s.o.ready),.row 3 [2] (.rInts s.o.lost)]
def sMoM (T:TypeId) (s:Step):List BE:=[.dead,.dead,.cells T (sCs [1] s 3 4 5 6 10 8 9),.row 3 [1] (.rInts s.n.yes),.row 102 [1] (.rPeer s.n.peers),.row 123 [1] (.rRead s.n.reads),.row 107 [2,3] (.rRecord s.o.records),.dead,.row 123 [2,3] (.rRead s.o.ready),.row 3 [2,3] (.rInts s.o.lost),.row 58 [2,3] (.rMessage s.o.messages)]
def wMoS (s:Step):List BE:=[.dead,.dead,.cells 87 (sCs [1,4] s 11 12 13 14 15 16 17),.dead,.dead,.dead,.dead,.dead,.dead,.dead,.dead,.row 3 [1,4] (.rInts s.n.yes),.row 102 [1,4] (.rPeer s.n.peers),.row 123 [1,4] (.rRead s.n.reads),.row 107 [2,3] (.rRecord s.o.records),.row 58 [2,3] (.rMessage s.o.messages),.row 123 [2,3] (.rRead s.o.ready),.row 3 [2,3] (.rInts s.o.lost)]
def mW:Mem Step where
 mi:=wMi
 dec:=fun m=>match m with
  | [.dead,.dead,.cells 87 [.int .i64 id,.int .i64 role,.int .i64 term,.int .i64 vote,.int .i64 si,.int .i64 st,.sl [1] (.rInts v),.sl [1] (.rInts le),.str d,.own 3,.int .i64 commit,.int .i64 lead,.int .i64 el,.own 4,.own 5,.int .i64 round,.own 6,.own 7,.own 8,.own 9,.own 10],.row 71 [1] (.rEntry es),.row 3 [1] (.rInts yes),.row 102 [1] (.rPeer ps),.row 123 [1] (.rRead rs),.row 107 [2] (.rRecord cs),.row 58 [2] (.rMessage ms),.row 123 [2] (.rRead ys),.row 3 [2] (.rInts lo)]=>
   some ⟨⟨id,role,⟨term,vote,⟨si,st,⟨v,le⟩,d⟩,es⟩,commit,lead,el,yes,ps,round,rs⟩,⟨cs,ms,ys,lo⟩⟩
  | _=>none
 ok:=by
  intro m x h
  split at h
  ·simp only [Option.some.injEq] at h;subst h;rfl
  ·simp at h
def mWS:Mem Step where
 mi:=sMi 87
 dec:=fun m=>match m with
  | [.dead,.dead,.cells 87 [.int .i64 id,.int .i64 role,.int .i64 term,.int .i64 vote,.int .i64 si,.int .i64 st,.sl [1] (.rInts v),.sl [1] (.rInts le),.str d,.sl [1] (.rEntry es),.int .i64 commit,.int .i64 lead,.int .i64 el,.own 3,.own 4,.int .i64 round,.own 5,.own 6,.own 7,.own 8,.own 9],.row 3 [1] (.rInts yes),.row 102 [1] (.rPeer ps),.row 123 [1] (.rRead rs),.row 107 [2] (.rRecord cs),.row 58 [2] (.rMessage ms),.row 123 [2] (.rRead ys),.row 3 [2] (.rInts lo)]=>
   some ⟨⟨id,role,⟨term,vote,⟨si,st,⟨v,le⟩,d⟩,es⟩,commit,lead,el,yes,ps,round,rs⟩,⟨cs,ms,ys,lo⟩⟩
  | _=>none
 ok:=by
  intro m x h
  split at h
  ·simp only [Option.some.injEq] at h;subst h;rfl
  ·simp at h
def vrW:List (Nat×TypeId×RL):=[(9,71,.rEntry []),(13,3,.rInts []),(14,102,.rPeer []),(16,123,.rRead []),(17,107,.rRecord []),(18,58,.rMessage []),(19,123,.rRead []),(20,3,.rInts [])]
def vrS:List (Nat×TypeId×RL):=[(13,3,.rInts []),(14,102,.rPeer []),(16,123,.rRead []),(17,107,.rRecord []),(18,58,.rMessage []),(19,123,.rRead []),(20,3,.rInts [])]
def glW:List Nat:=[1,1,1,1,1,2,2,2,2]
def glS:List Nat:=[1,1,1,1,2,2,2,2]
--MEM>
def msgS (s:Step) (m:Message):Message:=⟨m.kind,s.n.id,m.to_,if m.term=0 then s.n.kept.term else m.term,m.index,m.logTerm,m.entries,m.commit,m.round,m.ok,m.snap,m.ask,m.seq,m.data⟩
def zaR (s:Step) (m:Message):Step:=⟨s.n,⟨s.o.records,s.o.messages++[msgS s m],s.o.ready,s.o.lost⟩⟩
theorem zbC (b:Bool) (x:Int):zat b x x=x:=by cases b<;>rfl
theorem zcs (b:Bool) (x:Bool):zac b x x=x:=by cases b<;>rfl
theorem zmz (x y z:Int):zat (x==0) y z=if x=0 then y else z:=by unfold zat;by_cases h:x=0<;>simp [h]
theorem zoO (s:Step) (m:Message) (hl:s.o.messages.length<=1000000):FnG Tryz.prog 66 3 (wMi s) [.ptr 2 0,dMsg2.can m] (.tup []) (wMoM (zaR s m)):=by
 refine FnG.of_vc (zak zad fun _=>none) Tryz.func66 rfl (by decide) rfl 300 (p:=fun (V:List PE->Prop)=>let v2:=Message.logTerm m;let v3:=m.snap;let v9:=v3.config;let v12:=Step.o (zaR s m);let v14:=Step.n (zaR s m);let v22:=m.term==0;let v23:=[Message.mk (zat v22 m.kind m.kind) (zat v22 s.n.id s.n.id) (zat v22 m.to_ m.to_) (zat v22 s.n.kept.term m.term) (zat v22 m.index m.index) (zat v22 v2 v2) (if v22=true then m.entries else m.entries) (zat v22 m.commit m.commit) (zat v22 m.round m.round) (zac v22 m.ok m.ok) (Snap.mk (zat v22 v3.index v3.index) (zat v22 v3.term v3.term) (Config.mk (if v22=true then v9.voters else v9.voters) (if v22=true then v9.learners else v9.learners)) (if v22=true then v3.data else v3.data)) (zat v22 m.ask m.ask) (zat v22 m.seq m.seq) (if v22=true then m.data else m.data)];True/\True/\True/\True/\((s.o.messages.length+v23.length)*(1024:Nat)<=140737488355328/\True)/\qN0 s.n v14 (qN3 s.n v14 (qO4 s.o v12 (s.o.messages++v23=v12.messages/\True)))) (by kernel_rfl) ?_
 simp only [qN0,qN3,qO4,imp_self,implies_true,true_and,and_true,zah,zai,zbC,zcs,ite_self,zaR,msgS,zmz,List.length_cons,List.length_nil]
 omega
def zvQ:Ent:=zdk 66 3 mW dMsg2 vrW [1,2] glW fun s m=>([s.o.messages.length<=1000000],.tup [],wMoM (zaR s m))
theorem zeY:zaf Tryz.prog zvQ:=zaY (zoO default default (by decide)).1 fun s m h=>zoO s m (h _ (by simp))
theorem zmn (s:Step) (m:Message) (hl:s.o.messages.length<=1000000):FnG Tryz.prog 66 3 (sMi 87 s) [.ptr 2 0,dMsg2.can m] (.tup []) (sMoM 87 (zaR s m)):=by
 refine FnG.of_vc (zak zad fun _=>none) Tryz.func66 rfl (by decide) rfl 300 (p:=fun (V:List PE->Prop)=>let v0:=Message.logTerm m;let v3:=m.snap;let v10:=v3.config;let v12:=Step.n (zaR s m);let v16:=Step.o (zaR s m);let v22:=m.term==0;let v23:=[Message.mk (zat v22 m.kind m.kind) (zat v22 s.n.id s.n.id) (zat v22 m.to_ m.to_) (zat v22 s.n.kept.term m.term) (zat v22 m.index m.index) (zat v22 v0 v0) (if v22=true then m.entries else m.entries) (zat v22 m.commit m.commit) (zat v22 m.round m.round) (zac v22 m.ok m.ok) (Snap.mk (zat v22 v3.index v3.index) (zat v22 v3.term v3.term) (Config.mk (if v22=true then v10.voters else v10.voters) (if v22=true then v10.learners else v10.learners)) (if v22=true then v3.data else v3.data)) (zat v22 m.ask m.ask) (zat v22 m.seq m.seq) (if v22=true then m.data else m.data)];True/\True/\True/\True/\((s.o.messages.length+v23.length)*(1024:Nat)<=140737488355328/\True)/\qN0 s.n v12 (qN5 s.n v12 (qO4 s.o v16 (s.o.messages++v23=v16.messages/\True)))) (by kernel_rfl) ?_
 simp only [qN0,qN5,qO4,imp_self,implies_true,true_and,and_true,zah,zai,zbC,zcs,ite_self,zaR,msgS,zmz,List.length_cons,List.length_nil]
 omega
def zx4:Ent:=zdk 66 3 mWS dMsg2 vrS [1,2] glS fun s m=>([s.o.messages.length<=1000000],.tup [],sMoM 87 (zaR s m))
theorem zqB:zaf Tryz.prog zx4:=zaY (zmn default default (by decide)).1 fun s m h=>zmn s m (h _ (by simp))
def recK (k:Kept) (r:Record):Kept:=
 if r.kind=1 then {k with term:=r.term,vote:=r.vote}
 else if r.kind=2 then {k with entries:=k.entries++[r.entry]}
 else if r.kind=3 then {k with entries:=k.entries.take (IntKind.i64.wrap (IntKind.i64.wrap (r.index-1)-k.snap.index)).toNat}
 else if r.kind=4 then {k with entries:=(if (zau k r.snap.index).2=0/\(zau k r.snap.index).1=r.snap.term then k.entries.drop (IntKind.i64.wrap (r.snap.index-k.snap.index)).toNat else []),snap:=r.snap}
 else k
def recS (s:Step) (r:Record):Step:=⟨{s.n with kept:=recK s.n.kept r},{s.o with records:=s.o.records++[r]}⟩
structure SmallR (r:Record):Prop where
 e:zen r.entry
 s:zaw r.snap.config
def zhi (k:Kept) (r:Record):Prop:=r.kind=3->0<=IntKind.i64.wrap (IntKind.i64.wrap (r.index-1)-k.snap.index)/\IntKind.i64.wrap (IntKind.i64.wrap (r.index-1)-k.snap.index)<=(k.entries.length:Int)
def tabW1:List Ent:=[zqJ,zhM,zgI]
theorem zma:∀ e∈tabW1,zaf Tryz.prog e:=zaa zk0 (zaa zdL (zaa zcW zad))
theorem zgk (s:Step) (r:Record) (hl:s.o.records.length<=1000000) (he:s.n.kept.entries.length<=1000000) (hr:SmallR r) (hc:zhi s.n.kept r) (h4:r.kind≠4):FnG Tryz.prog 51 3 (wMi s) [.ptr 2 0,dRec2.can r] (.tup []) (wMo (recS s r)):=by
 refine FnG.of_vc (zak zma fun _=>none) Tryz.func51 rfl (by decide) rfl 300 (p:=fun (V:List PE->Prop)=>let v0:=s.o;let v1:=r.kind;let v2:=r.snap;let v3:=s.n;let v4:=v0.records;let v6:=v2.config;let v7:=v2.index;let v8:=v3.kept;let v9:=Step.o (recS s r);let v11:=v8.entries;let v12:=Step.n (recS s r);let v15:=v12.kept;let v18:=v11.length;let v19:=v15.entries;let v20:=v15.snap;let v21:=[Record.entry r];let v30:=(↑v18:Int);let v31:=v1==4;let v32:=v1==2;let v33:=v1==1;let v34:=v1==3;let v35:=IntKind.wrap IntKind.i64 (v7-v8.snap.index);let v36:=Prod.snd (zau v8 v7)==0;let v37:=IntKind.wrap IntKind.i64 (IntKind.wrap IntKind.i64 (r.index-(1:Int))-v8.snap.index);let v38:=zac v36 (Prod.fst (zau v8 v7)==v2.term) false;True/\True/\True/\True/\True/\(v33=true->True/\((v4.length+List.length [r])*(1024:Nat)<=140737488355328/\True)/\v3.id=v12.id/\v3.role=v12.role/\r.term=v15.term/\r.vote=v15.vote/\qN6 v3 v12 (v4++[r]=v9.records/\v0.messages=v9.messages/\v0.ready=v9.ready/\v0.lost=v9.lost/\True))/\(v33=false->True/\True/\(v32=true->(v21.length<=17592186044416/\zcG v21/\(v18+v21.length)*(1024:Nat)<=140737488355328/\True)/\((v4.length+List.length [r])*(1024:Nat)<=140737488355328/\True)/\qN0 v3 v12 (qN7 v3 v12 (v11++v21=v19/\qN8 v3 v12 (v4++[r]=v9.records/\v0.messages=v9.messages/\v0.ready=v9.ready/\v0.lost=v9.lost/\True))))/\(v32=false->True/\True/\(v34=true->((0:Int)<=v37/\v37<=v30/\True)/\((v4.length+List.length [r])*(1024:Nat)<=140737488355328/\True)/\qN0 v3 v12 (qN7 v3 v12 (List.take (Int.toNat v37) v11=v19/\qN8 v3 v12 (v4++[r]=v9.records/\v0.messages=v9.messages/\v0.ready=v9.ready/\v0.lost=v9.lost/\True))))/\(v34=false->True/\True/\(v31=true->(v18<=17592186044416/\True)/\((v36=true->v36=true)/\(v36=true->v36=true)/\(v36=true->v36=true)/\(v36=true->v36=true)/\(v36=true->v36=true)/\True)/\True/\(v38=true->((0:Int)<=v35/\v35<=v30/\v30<=v30/\v18<=17592186044416/\True)/\(zaw v6/\True)/\((v4.length+List.length [r])*(1024:Nat)<=140737488355328/\True)/\False)/\(v38=false->True/\(zaw v6/\True)/\((v4.length+List.length [r])*(1024:Nat)<=140737488355328/\True)/\qN9 v3 v12 (v7=v20.index/\v2.term=v20.term/\v6.voters=v20.config.voters/\v6.learners=v20.config.learners/\v2.data=v20.data/\qN7 v3 v12 (v19=[]/\qN8 v3 v12 (v4++[r]=v9.records/\v0.messages=v9.messages/\v0.ready=v9.ready/\v0.lost=v9.lost/\True)))))/\(v31=false->((v4.length+List.length [r])*(1024:Nat)<=140737488355328/\True)/\qN0 v3 v12 (qN3 v3 v12 (v4++[r]=v9.records/\v0.messages=v9.messages/\v0.ready=v9.ready/\v0.lost=v9.lost/\True))))))) (by kernel_rfl) ?_
 simp only [qN0,qN3,qN6,qN7,qN8,qN9,imp_self,implies_true,true_and,and_true,zah,zai,zbC,zcs,ite_self]
 have hsl:zcG [r.entry]:=⟨by simp,fun x hx=>by simp only [List.mem_singleton] at hx;subst hx;exact hr.e⟩
 simp only [List.length_cons,List.length_nil,List.take_length]
 refine ⟨fun h=>?_,fun h1=>⟨fun h=>?_,fun h2=>⟨fun h=>?_,fun h3=>⟨fun h=>?_,fun h5=>?_⟩⟩⟩⟩
 ·have e:r.kind=1:=by simpa using h
  simp only [qN0,qN3,qN6,qN7,qN8,qN9,recS,recK,e,if_true,true_and,and_true];omega
 ·have e:r.kind=2:=by simpa using h
  simp [recS,recK,e,hsl];omega
 ·have e:r.kind=3:=by simpa using h
  have:=hc e
  simp [recS,recK,e];omega
 ·have e:r.kind=4:=by simpa using h
  exact absurd e h4
 ·have e1:¬ r.kind=1:=by simpa using h1
  have e2:¬ r.kind=2:=by simpa using h2
  have e3:¬ r.kind=3:=by simpa using h3
  have e4:¬ r.kind=4:=by simpa using h5
  simp [recS,recK,e1,e2,e3,e4];omega
def eRec:Ent:=zdk 51 3 mW dRec2 vrW [1,2] glW fun s r=>([s.o.records.length<=1000000,s.n.kept.entries.length<=1000000,SmallR r,zhi s.n.kept r,r.kind≠4],.tup [],wMo (recS s r))
theorem zoK:SmallR default:=⟨⟨by decide,by decide⟩,⟨by decide,by decide⟩⟩
theorem ze2:zaf Tryz.prog eRec:=zaY (zgk default default (by decide) (by decide) zoK (fun h=>by cases h) (by decide)).1 fun s r h=>zgk s r (h _ (by simp)) (h _ (by simp)) (h _ (by simp)) (h _ (by simp)) (h _ (by simp))
theorem zn3 (s:Step) (r:Record) (hl:s.o.records.length<=1000000) (he:s.n.kept.entries.length<=1000000) (hr:SmallR r) (h4:r.kind=4)
  (hc:(zau s.n.kept r.snap.index).2=0->0<=IntKind.i64.wrap (r.snap.index-s.n.kept.snap.index)/\IntKind.i64.wrap (r.snap.index-s.n.kept.snap.index)<=(s.n.kept.entries.length:Int)):FnG Tryz.prog 51 3 (wMi s) [.ptr 2 0,dRec2.can r] (.tup []) (wMoS (recS s r)):=by
 refine FnG.of_vc (zak zma fun _=>none) Tryz.func51 rfl (by decide) rfl 300 (p:=fun (V:List PE->Prop)=>let v0:=s.o;let v1:=r.snap;let v2:=s.n;let v3:=r.kind;let v4:=v2.kept;let v6:=v1.config;let v7:=v0.records;let v8:=v1.index;let v10:=Step.o (recS s r);let v11:=Step.n (recS s r);let v12:=v4.entries;let v15:=v11.kept;let v16:=v12.length;let v18:=[Record.entry r];let v20:=v15.snap;let v21:=v15.entries;let v26:=v20.config;let v30:=(↑v16:Int);let v31:=v3==4;let v32:=v3==1;let v33:=v3==2;let v34:=v3==3;let v35:=IntKind.wrap IntKind.i64 (v8-v4.snap.index);let v36:=Prod.snd (zau v4 v8)==0;let v38:=IntKind.wrap IntKind.i64 (IntKind.wrap IntKind.i64 (r.index-(1:Int))-v4.snap.index);let v39:=List.take (Int.toNat v38) v12;let v40:=zac v36 (Prod.fst (zau v4 v8)==v1.term) false;True/\True/\True/\True/\True/\(v32=true->True/\((v7.length+List.length [r])*(1024:Nat)<=140737488355328/\True)/\v2.id=v11.id/\v2.role=v11.role/\r.term=v15.term/\r.vote=v15.vote/\qN10 v2 v11 (v16<=17592186044416/\qN11 v2 v11 (v7++[r]=v10.records/\v0.messages=v10.messages/\v0.ready=v10.ready/\v0.lost=v10.lost/\True)))/\(v32=false->True/\True/\(v33=true->(v18.length<=17592186044416/\zcG v18/\(v16+v18.length)*(1024:Nat)<=140737488355328/\True)/\((v7.length+List.length [r])*(1024:Nat)<=140737488355328/\True)/\qN0 v2 v11 ((v12++v18)=v21/\List.length (v12++v18)<=17592186044416/\qN11 v2 v11 (v7++[r]=v10.records/\v0.messages=v10.messages/\v0.ready=v10.ready/\v0.lost=v10.lost/\True)))/\(v33=false->True/\True/\(v34=true->((0:Int)<=v38/\v38<=v30/\True)/\((v7.length+List.length [r])*(1024:Nat)<=140737488355328/\True)/\qN0 v2 v11 (v39=v21/\v39.length<=17592186044416/\qN11 v2 v11 (v7++[r]=v10.records/\v0.messages=v10.messages/\v0.ready=v10.ready/\v0.lost=v10.lost/\True)))/\(v34=false->True/\True/\(v31=true->(v16<=17592186044416/\True)/\((v36=true->v36=true)/\(v36=true->v36=true)/\(v36=true->v36=true)/\(v36=true->v36=true)/\(v36=true->v36=true)/\True)/\True/\(v40=true->((0:Int)<=v35/\v35<=v30/\v30<=v30/\v16<=17592186044416/\True)/\(zaw v6/\True)/\((v7.length+List.length [r])*(1024:Nat)<=140737488355328/\True)/\qN9 v2 v11 (v8=v20.index/\v1.term=v20.term/\v6.voters=v26.voters/\v6.learners=v26.learners/\v1.data=v20.data/\List.drop (Int.toNat v35) (List.take v16 v12)=v21/\qN11 v2 v11 (v7++[r]=v10.records/\v0.messages=v10.messages/\v0.ready=v10.ready/\v0.lost=v10.lost/\True)))/\(v40=false->True/\(zaw v6/\True)/\((v7.length+List.length [r])*(1024:Nat)<=140737488355328/\True)/\qN9 v2 v11 (v8=v20.index/\v1.term=v20.term/\v6.voters=v26.voters/\v6.learners=v26.learners/\v1.data=v20.data/\v21=[]/\qN11 v2 v11 (v7++[r]=v10.records/\v0.messages=v10.messages/\v0.ready=v10.ready/\v0.lost=v10.lost/\True))))/\(v31=false->((v7.length+List.length [r])*(1024:Nat)<=140737488355328/\True)/\qN0 v2 v11 (v12=v21/\v16<=17592186044416/\qN11 v2 v11 (v7++[r]=v10.records/\v0.messages=v10.messages/\v0.ready=v10.ready/\v0.lost=v10.lost/\True))))))) (by kernel_rfl) ?_
 simp only [qN0,qN10,qN11,qN9,imp_self,implies_true,true_and,and_true,zah,zai,zbC,zcs,ite_self,h4]
 refine ⟨fun h=>absurd h (by decide),fun _=>⟨fun h=>absurd h (by decide),fun _=>⟨fun h=>absurd h (by decide),fun _=>⟨fun _=>?_,fun h=>absurd h (by decide)⟩⟩⟩⟩
 simp only [List.length_cons,List.length_nil,List.take_length]
 refine ⟨by omega,fun h=>?_,fun h=>?_⟩
 ·have h2:(zau s.n.kept r.snap.index).2=0/\(zau s.n.kept r.snap.index).1=r.snap.term:=by simpa using h
  have:=hc h2.1
  simp [recS,recK,h4,h2,hr.s];omega
 ·have h2:¬ ((zau s.n.kept r.snap.index).2=0/\(zau s.n.kept r.snap.index).1=r.snap.term):=by simpa using h
  simp [recS,recK,h4,h2,hr.s];omega
def ztt:Ent:=zdk 51 3 mW dRec2 vrW [1,2] glW fun s r=>([s.o.records.length<=1000000,s.n.kept.entries.length<=1000000,SmallR r,r.kind=4,(zau s.n.kept r.snap.index).2=0->0<=IntKind.i64.wrap (r.snap.index-s.n.kept.snap.index)/\IntKind.i64.wrap (r.snap.index-s.n.kept.snap.index)<=(s.n.kept.entries.length:Int)],.tup [],wMoS (recS s r))
theorem ziL:zaf Tryz.prog ztt:=zaY (zgk default default (by decide) (by decide) zoK (fun h=>by cases h) (by decide)).1 fun s r h=>zn3 s r (h _ (by simp)) (h _ (by simp)) (h _ (by simp)) (h _ (by simp)) (h _ (by simp))
def Step.svs (ls:List Nat) (s:Step):List SV:=s.n.svs ls++s.o.svs ls
theorem zuU {E:Env} {w:World} (hz:E.zero) {n:Node} {o:Out} {m k:List Nat} {xs ys:List Value} (h1:DenL E w (n.svs m) xs) (h2:DenL E w (o.svs k) ys):DenL E w (Step.svs [0] ⟨n,o⟩) (xs++ys):=
 DenL.app (Node.svs_of (RdL.mono (fun b _ hb=>hz.set hb) (Node.svs_rd h1))) (Out.svs_of (RdL.mono (fun b _ hb=>hz.set hb) (Out.svs_rd h2)))
def dRpS (T:TypeId):Dec Step where
 dec:=fun s=>match s with
  | .rp _ T' cs 0=>if T'=T then (match Node.of (cs.take 17),Out.of (cs.drop 17) with | some (n,_),some (o,_)=>some ⟨n,o⟩ | _,_=>none) else none
  | _=>none
 can:=fun s=> .rp [0] T (s.svs [0]) 0
 Okp:=fun s=>s.n.Ok
 okp:=fun s E w v ⟨_,xs,_,_,_,hl⟩=>by
  have h:=hl.take 17
  have e:(Step.svs [0] s).take 17=s.n.svs [0]:=by unfold Step.svs;exact List.take_left' rfl
  rw [e] at h
  exact Node.ok_of (Node.svs_rd h)
 ok:=by
  intro s x h E w v hz hd
  split at h
  case h_2=>cases h
  rename_i ls T' cs
  split at h
  case isFalse=>cases h
  rename_i hT
  subst hT
  split at h
  case h_2=>cases h
  rename_i n m o k e1 e2
  simp only [Option.some.injEq] at h
  subst h
  obtain ⟨b,xs,hv,hb,hh,hl⟩:=hd
  have h3:=zuU hz (Node.of_ok e1 (hl.take 17)) (Out.of_ok e2 (hl.drop 17))
  rw [List.take_append_drop] at h3
  exact ⟨b,xs,hv,hz.set hb,hh,h3⟩
noncomputable def tabX:List Ent:=[zk4,zhQ,ziM,zvQ,eRec]
theorem zge:∀ e∈tabX,zaf Tryz.prog e:=zaa zeZ (zaa zdM (zaa zgJ (zaa zeY (zaa ze2 zad))))
theorem zlQ (s:Step):FnC Tryz.prog 46 [(dRpS 87).can s] (.int .i64 (zam s.n.kept).1) D2:=by
 refine FnG.of_vc (zak zge fun _=>none) Tryz.func46 rfl (by decide) rfl 300 (p:=fun (V:List PE->Prop)=>let v0:=Prod.fst (zam s.n.kept);True/\True/\True/\v0=v0/\True) (by kernel_rfl) ?_
 simp only [imp_self,implies_true,true_and,and_true,zah,zai]
def zhJ:Ent:=ent1 46 (dRpS 87) fun s=>([],.int .i64 (zam s.n.kept).1,D2)
theorem zcV:zaf Tryz.prog zhJ:=za4 (zlQ default).1 fun s h=>zlQ s
def zaU (n:Node):Bool:=mayC (za6 n)&&zbH (za6 n).voters n.yes
theorem zhl (s:Step) (hn:SmallN s.n):FnC Tryz.prog 77 [(dRpS 87).can s] (.bool (zaU s.n)) D2:=by
 refine FnG.of_vc (zak zge fun _=>none) Tryz.func77 rfl (by decide) rfl 300 (p:=fun (V:List PE->Prop)=>let v1:=za6 s.n;True/\(SmallN s.n/\zaw v1/\True)/\(mayC v1&&zbH v1.voters s.n.yes)=zaU s.n/\True) (by kernel_rfl) ?_
 simp only [imp_self,implies_true,true_and,and_true,zah,zai]
 exact ⟨⟨hn,zdo hn⟩,rfl⟩
def zwa:Ent:=ent1 77 (dRpS 87) fun s=>([SmallN s.n],.bool (zaU s.n),D2)
theorem zhO:zaf Tryz.prog zwa:=za4 (zhl default zd3).1 fun s h=>zhl s (h _ (by simp))
def runS (s:Step) (role:Int):Step:=⟨{s.n with elapsed:=0,lead:=0,role:=role,yes:=[s.n.id]},s.o⟩
theorem zn0 {s:Step} {role:Int} (h:SmallN s.n):SmallN (runS s role).n:=⟨h.k,by simp [runS],h.peers,h.reads⟩
structure SmallO (o:Out):Prop where
 records:o.records.length<=1000000
 messages:o.messages.length<=1000000
 ready:o.ready.length<=1000000
 lost:o.lost.length<=1000000
theorem SmallN.ls {n:Node} (h:SmallN n):n.kept.entries.length<=17592186044416/\n.yes.length<=17592186044416/\n.peers.length<=17592186044416/\n.reads.length<=17592186044416/\n.kept.entries.length<=1000000:=by
 have h1:=h.k.1.1;have h2:=h.yes;have h3:=h.peers;have h4:=h.reads
 omega
theorem SmallO.ls {n:Out} (h:SmallO n):n.records.length<=17592186044416/\n.messages.length<=17592186044416/\n.ready.length<=17592186044416/\n.lost.length<=17592186044416:=by
 have h1:=h.records;have h2:=h.messages;have h3:=h.ready;have h4:=h.lost
 omega
theorem zuc (s:Step) (role:Int) (hn:SmallN s.n) (ho:SmallO s.o):FnG Tryz.prog 38 3 (wMi s) [.ptr 2 0,dInt.L.can role] (.bool (zaU (runS s role).n)) (wMo (runS s role)):=by
 refine FnG.of_vc (zak (zaa zhO zad) fun _=>none) Tryz.func38 rfl (by decide) rfl 300 (p:=fun (V:List PE->Prop)=>let v3:=s.n.peers;let v4:=s.n.reads;let v5:=s.n.id;let v14:=Step.o (runS s role);let v15:=Step.n (runS s role);let v17:=(0:Int);let v22:=Node.mk v5 role s.n.kept s.n.commit v17 v17 ([v5]) v3 s.n.round v4;True/\True/\(s.n.kept.entries.length<=17592186044416/\List.length ([v5])<=17592186044416/\v3.length<=17592186044416/\v4.length<=17592186044416/\s.o.records.length<=17592186044416/\s.o.messages.length<=17592186044416/\s.o.ready.length<=17592186044416/\s.o.lost.length<=17592186044416/\SmallN v22/\True)/\zaU v22=zaU v15/\v5=v15.id/\role=v15.role/\qN12 s.n v15 (v17=v15.lead/\v17=v15.elapsed/\s.n.round=v15.round/\s.n.kept.entries=v15.kept.entries/\([v5])=v15.yes/\v3=v15.peers/\v4=v15.reads/\qO13 s.o v14 (s.o.lost=v14.lost/\True))) (by kernel_rfl) ?_
 simp only [qN12,qO13,imp_self,implies_true,true_and,and_true,zah,zai]
 obtain ⟨b1,b2,b3,b4,_⟩:=hn.ls
 obtain ⟨c1,c2,c3,c4⟩:=ho.ls
 refine ⟨⟨b1,by simp,b3,b4,c1,c2,c3,c4,zn0 (role:=role) hn⟩,?_⟩
 simp only [runS,and_self]
def eRun:Ent:=zdk 38 3 mW dInt.L vrW [1,0] glW fun s role=>([SmallN s.n,SmallO s.o],.bool (zaU (runS s role).n),wMo (runS s role))
theorem zoL:SmallO default:=⟨by decide,by decide,by decide,by decide⟩
theorem zqC:zaf Tryz.prog eRun:=zaY (zuc default 0 zd3 zoL).1 fun s r h=>zuc s r (h _ (by simp)) (h _ (by simp))
def layE (s:Step) (e:Entry):Entry:={e with index:=IntKind.i64.wrap ((zam s.n.kept).1+1),term:=s.n.kept.term}
def layS (s:Step) (e:Entry):Step:=recS s (entR (layE s e))
theorem zuq (s:Step) (e:Entry) (hn:SmallN s.n) (ho:SmallO s.o) (he:zen e):FnG Tryz.prog 42 3 (wMi s) [.ptr 2 0,dEnt2.can e] (.tup []) (wMo (layS s e)):=by
 refine FnG.of_vc (zak (zaa zcV zge) fun _=>none) Tryz.func42 rfl (by decide) rfl 300 (p:=fun (V:List PE->Prop)=>let v2:=s.n.kept;let v3:=Step.n (layS s e);let v4:=Step.o (layS s e);let v5:=s.o.records.length;let v6:=(0:Int);let v8:=v2.entries.length;let v11:=Record.mk (2:Int) v6 v6 (Entry.mk (IntKind.wrap IntKind.i64 (Prod.fst (zam v2)+(1:Int))) v2.term e.kind e.config e.data) v6 (Snap.mk v6 v6 (Config.mk [] []) (ByteArray.mk #[]));let v12:=recS s v11;True/\(v8<=17592186044416/\s.n.yes.length<=17592186044416/\s.n.peers.length<=17592186044416/\s.n.reads.length<=17592186044416/\v5<=17592186044416/\s.o.messages.length<=17592186044416/\s.o.ready.length<=17592186044416/\s.o.lost.length<=17592186044416/\True)/\(v5<=1000000/\v8<=1000000/\SmallR v11/\zhi v2 v11/\(2:Int)≠(4:Int)/\True)/\qN0 v12.n v3 (qN3 v12.n v3 (qO13 v12.o v4 (v12.o.lost=v4.lost/\True)))) (by kernel_rfl) ?_
 simp only [qN0,qN3,qO13,imp_self,implies_true,true_and,and_true,zah,zai]
 obtain ⟨b1,b2,b3,b4,b5⟩:=hn.ls
 obtain ⟨c1,c2,c3,c4⟩:=ho.ls
 refine ⟨⟨b1,b2,b3,b4,c1,c2,c3,c4⟩,⟨ho.records,b5,⟨he,⟨Nat.zero_le _,Nat.zero_le _⟩⟩,(fun h=>absurd (show (2:Int)=3 from h) (by decide)),by decide⟩,?_⟩
 simp only [layS,layE,entR,zs,and_self]
def eLay:Ent:=zdk 42 3 mW dEnt2 vrW [1,2] glW fun s e=>([SmallN s.n,SmallO s.o,zen e],.tup [],wMo (layS s e))
theorem zl1:zaf Tryz.prog eLay:=zaY (zuq default default zd3 zoL ⟨by decide,by decide⟩).1 fun s r h=>zuq s r (h _ (by simp)) (h _ (by simp)) (h _ (by simp))
def askM (s:Step) (m:Message) (v:Int):Message:={m with index:=(zam s.n.kept).1,logTerm:=(zam s.n.kept).2,to_:=v}
def askS (s:Step) (m:Message):Step:=⟨s.n,{s.o with messages:=s.o.messages++(za8 (za6 s.n).voters s.n.id).map fun v=>msgS s (askM s m v)}⟩
theorem ztY (s:Step) (m:Message) (hn:SmallN s.n) (ho:SmallO s.o) (hm:s.o.messages.length<=900000) (hv:(za6 s.n).voters.length<=4000):FnG Tryz.prog 40 3 (wMi s) [.ptr 2 0,dMsg2.can m] (.tup []) (wMoM (askS s m)):=by
 refine FnG.of_vc (zak zge fun _=>none) Tryz.func40 rfl (by decide) rfl 300 (p:=fun (V:List PE->Prop)=>True/\(s.n.kept.entries.length<=17592186044416/\True)/\(s.n.kept.entries.length<=17592186044416/\s.n.yes.length<=17592186044416/\s.n.peers.length<=17592186044416/\s.n.reads.length<=17592186044416/\SmallN s.n/\True)/\V []) (by kernel_rfl) ?_
 simp only [qN0,qN14,qN3,qN7,qO4,imp_self,implies_true,true_and,and_true,zah,zai]
 obtain ⟨b1,b2,b3,b4,b5⟩:=hn.ls
 obtain ⟨V,hV⟩:∃ V,(za6 s.n).voters=V:=⟨_,rfl⟩
 refine ⟨b1,⟨b1,b2,b3,b4,hn⟩,?_⟩
 refine LoopG.head (zak zge fun _=>none) 0 (A:=Nat×Int) (fun j=>j.1<=V.length) (fun j=>[(24,.int .i64 j.1),(23,.int .i64 (V.length:Int)),(22,.sl [60] (.rInts V))]) (fun j=>[(2,.cells 87 (wCs [1] s 3 4 5 6 7 12 9 10)),(7,.row 107 [2,61] (.rRecord s.o.records)),(9,.row 123 [2,61] (.rRead s.o.ready)),(10,.row 3 [2,61] (.rInts s.o.lost)),(8,.dead),(12,.row 58 [2,61] (.rMessage (s.o.messages++(za8 (V.take j.1) s.n.id).map fun v=>msgS s (askM s m v)))),(11,.cells 58 ((askM s m j.2).svs [2])),(60,.dead),(61,.dead)]) (fun j=>V.length-j.1) (0,m.to_) (Nat.zero_le _) (p0:=let v0:=s.n;let v1:=m.snap;let v21:=Config.voters (za6 v0);let v24:=askM s m m.to_;let v30:=v24.snap;(0:Int)=(↑(0:Nat):Int)/\(↑(v21.length):Int)=(↑(List.length V):Int)/\v21=V/\qN0 v0 v0 (qN7 v0 v0 (qO4 s.o s.o (s.o.messages=s.o.messages++List.map (fun (v:Int)=>msgS s (askM s m v)) (za8 (List.take (0:Nat) V) v0.id)/\m.kind=v24.kind/\m.from_=v24.from_/\m.to_=v24.to_/\m.term=v24.term/\Prod.fst (zam v0.kept)=v24.index/\Prod.snd (zam v0.kept)=Message.logTerm v24/\m.entries=v24.entries/\m.commit=v24.commit/\m.round=v24.round/\m.ok=v24.ok/\v1.index=v30.index/\v1.term=v30.term/\v1.config.voters=v30.config.voters/\v1.config.learners=v30.config.learners/\v1.data=v30.data/\m.ask=v24.ask/\m.seq=v24.seq/\m.data=v24.data/\qN14 v0 v0 (v0.reads=v0.reads/\True))))) (by kernel_rfl) ?_ 300 (p:=fun (x:Nat×Int) (V_1:List PE->Prop)=>let v5:=Step.n (askS s m);let v6:=Step.o (askS s m);let v10:=(↑(List.length V):Int);let v12:=(↑(Prod.fst x):Int);let v14:=List.getD V (Prod.fst x) (0:Int) != s.n.id;let v15:=decide (v12<v10);let v16:=s.o.messages++List.map (fun (v:Int)=>msgS s (askM s m v)) (za8 (List.take (Prod.fst x) V) s.n.id);True/\True/\(v15=true->((0:Int)<=v12/\v12<v10/\True)/\True/\True/\True/\(v14=true->(v16.length<=1000000/\True)/\True/\V_1 [PE.a,PE.a])/\(v14=false->True/\V_1 [PE.a,PE.b]))/\(v15=false->qN0 s.n v5 (qN3 s.n v5 (qO4 s.o v6 (v16=v6.messages/\True))))) (by intro x;kernel_rfl) ?_
 ·simp [za8,askM,hV]
 rintro ⟨j,t⟩ hj
 dsimp only at hj
 simp only [qN0,qN14,qN3,qN7,qO4,imp_self,implies_true,true_and,and_true,decide_eq_true_eq,decide_eq_false_iff_not]
 have hdl:(za8 (V.take j) s.n.id).length<=4000:=by
  have h1:(za8 (V.take j) s.n.id).length<=(V.take j).length:=List.length_filter_le _ _
  rw [hV] at hv
  simp only [List.length_take] at h1;omega
 have hsn:j<V.length->za8 (V.take (j+1)) s.n.id=za8 (V.take j) s.n.id++(if (V.getD j 0 != s.n.id)=true then [V.getD j 0] else []):=fun hj=>by
  rw [zaL (d:=(0:Int)) hj,za8,List.filter_append]
  unfold za8
  congr 1
  simp only [List.filter_cons,List.filter_nil,bne]
 refine ⟨fun h6=>⟨⟨by omega,h6⟩,fun h7=>⟨by simp only [List.length_append,List.length_map];omega,?_⟩,fun h7=>?_⟩,fun h6=>?_⟩
 ·refine Back.mk (j+1,V.getD j 0) (by show j+1<=_;omega) (by show _-(j+1)<_-j;omega) (p0:=let v8:=askM s m t;let v14:=v8.snap;let v18:=Message.logTerm v8;let v25:=(↑(List.length V):Int);let v26:=List.getD V j (0:Int);let v27:=askM s m v26;let v28:=v27.snap;let v30:=zaR (Step.mk s.n (Out.mk s.o.records (s.o.messages++List.map (fun (v:Int)=>msgS s (askM s m v)) (za8 (List.take j V) s.n.id)) s.o.ready s.o.lost)) (Message.mk v8.kind v8.from_ v26 v8.term v8.index v18 v8.entries v8.commit v8.round v8.ok v14 v8.ask v8.seq v8.data);IntKind.wrap IntKind.i64 ((↑j:Int)+(1:Int))=(↑(j+(1:Nat)):Int)/\v25=v25/\V=V/\qN0 v30.n s.n (qN7 v30.n s.n (qO4 v30.o s.o (v30.o.messages=s.o.messages++List.map (fun (v:Int)=>msgS s (askM s m v)) (za8 (List.take (j+(1:Nat)) V) s.n.id)/\v8.kind=v27.kind/\v8.from_=v27.from_/\v26=v27.to_/\v8.term=v27.term/\v8.index=v27.index/\v18=Message.logTerm v27/\v8.entries=v27.entries/\v8.commit=v27.commit/\v8.round=v27.round/\v8.ok=v27.ok/\v14.index=v28.index/\v14.term=v28.term/\v14.config.voters=v28.config.voters/\v14.config.learners=v28.config.learners/\v14.data=v28.data/\v8.ask=v27.ask/\v8.seq=v27.seq/\v8.data=v27.data/\qN14 v30.n s.n (v30.n.reads=s.n.reads/\True))))) (by kernel_rfl) ?_
  simp only [qN0,qN14,qN3,qN7,qO4,true_and,and_true,zbN (i:=j) (by rw [hV] at hv;omega)]
  rw [hsn (by omega),if_pos h7]
  refine ⟨by omega,?_⟩
  simp [zaR,msgS,askM]
  by_cases g:m.term=0<;>simp [g]
 ·refine Back.mk (j+1,V.getD j 0) (by show j+1<=_;omega) (by show _-(j+1)<_-j;omega) (p0:=let v19:=askM s m t;let v24:=v19.snap;let v26:=(↑(List.length V):Int);let v30:=List.getD V j (0:Int);let v31:=askM s m v30;let v32:=v31.snap;IntKind.wrap IntKind.i64 ((↑j:Int)+(1:Int))=(↑(j+(1:Nat)):Int)/\v26=v26/\V=V/\qN0 s.n s.n (qN7 s.n s.n (qO4 s.o s.o (s.o.messages++List.map (fun (v:Int)=>msgS s (askM s m v)) (za8 (List.take j V) s.n.id)=s.o.messages++List.map (fun (v:Int)=>msgS s (askM s m v)) (za8 (List.take (j+(1:Nat)) V) s.n.id)/\v19.kind=v31.kind/\v19.from_=v31.from_/\v30=v31.to_/\v19.term=v31.term/\v19.index=v31.index/\Message.logTerm v19=Message.logTerm v31/\v19.entries=v31.entries/\v19.commit=v31.commit/\v19.round=v31.round/\v19.ok=v31.ok/\v24.index=v32.index/\v24.term=v32.term/\v24.config.voters=v32.config.voters/\v24.config.learners=v32.config.learners/\v24.data=v32.data/\v19.ask=v31.ask/\v19.seq=v31.seq/\v19.data=v31.data/\qN14 s.n s.n (s.n.reads=s.n.reads/\True))))) (by kernel_rfl) ?_
  simp only [qN0,qN14,qN3,qN7,qO4,true_and,and_true,zbN (i:=j) (by rw [hV] at hv;omega)]
  rw [hsn (by omega),if_neg (by rw [h7];decide),List.append_nil]
  exact ⟨by omega,rfl,rfl,rfl,rfl,rfl,rfl,rfl,rfl,rfl,rfl,rfl,rfl,rfl,rfl,rfl,rfl,rfl,rfl,rfl⟩
 ·have:j=V.length:=by omega
  subst this
  rw [List.take_length]
  simp only [askS,hV,and_self]
def zwd:Ent:=zdk 40 3 mW dMsg2 vrW [1,2] glW fun s m=>([SmallN s.n,SmallO s.o,s.o.messages.length<=900000,(za6 s.n).voters.length<=4000],.tup [],wMoM (askS s m))
theorem zmS:zaf Tryz.prog zwd:=zaY (fnB Tryz.func40 (by decide) rfl) fun s m h=>ztY s m (h _ (by simp)) (h _ (by simp)) (h _ (by simp)) (h _ (by simp))
def zeg:Snap:=⟨0,0,⟨[],[]⟩,zs⟩
def zbT (m:Message) (ok:Bool) (i:Int):Message:=⟨6,0,m.from_,0,i,0,[],0,m.round,ok,zeg,0,0,zs⟩
theorem ze5 (s:Step) (m:Message) (ok:Bool) (i:Int) (ho:s.o.messages.length<=1000000):FnG Tryz.prog 71 3 (wMi s) [.ptr 2 0,dMessage.L.can m,dBool.L.can ok,dInt.L.can i] (.tup []) (wMoM (zaR s (zbT m ok i))):=by
 refine FnG.of_vc (zak (zaa zeY zad) fun _=>none) Tryz.func71 rfl (by decide) rfl 300 (p:=fun (V:List PE->Prop)=>let v0:=(0:Int);let v1:=zaR s (zbT m ok i);let v7:=zaR s (Message.mk (6:Int) v0 m.from_ v0 i v0 [] v0 m.round ok (Snap.mk v0 v0 (Config.mk [] []) (ByteArray.mk #[])) v0 v0 (ByteArray.mk #[]));True/\(s.o.messages.length<=1000000/\True)/\qN0 v7.n v1.n (qN3 v7.n v1.n (qO4 v7.o v1.o (v7.o.messages=v1.o.messages/\True)))) (by kernel_rfl) ?_
 simp only [qN0,qN3,qO4,imp_self,implies_true,true_and,and_true,zah,zai]
 simp [ho,zbT,zeg,zs]
theorem zkI (s:Step) (m:Message) (ok:Bool) (i:Int) (ho:s.o.messages.length<=1000000):FnG Tryz.prog 71 3 (sMi 87 s) [.ptr 2 0,dMessage.L.can m,dBool.L.can ok,dInt.L.can i] (.tup []) (sMoM 87 (zaR s (zbT m ok i))):=by
 refine FnG.of_vc (zak (zaa zqB zad) fun _=>none) Tryz.func71 rfl (by decide) rfl 300 (p:=fun (V:List PE->Prop)=>let v0:=(0:Int);let v1:=zaR s (zbT m ok i);let v7:=zaR s (Message.mk (6:Int) v0 m.from_ v0 i v0 [] v0 m.round ok (Snap.mk v0 v0 (Config.mk [] []) (ByteArray.mk #[])) v0 v0 (ByteArray.mk #[]));True/\(s.o.messages.length<=1000000/\True)/\qN0 v7.n v1.n (qN5 v7.n v1.n (qO4 v7.o v1.o (v7.o.messages=v1.o.messages/\True)))) (by kernel_rfl) ?_
 simp only [qN0,qN5,qO4,imp_self,implies_true,true_and,and_true,zah,zai]
 simp [ho,zbT,zeg,zs]
def zwe:Ent:=ztm 71 3 mW dMessage.L dBool.L dInt.L vrW [1,0,0,0] glW fun s m ok i=>([s.o.messages.length<=1000000],.tup [],wMoM (zaR s (zbT m ok i)))
theorem ziV:zaf Tryz.prog zwe:=ziI (ze5 default default true 0 (by decide)).1 fun s m ok i h=>ze5 s m ok i (h _ (by simp))
def zuD:Ent:=ztm 71 3 mWS dMessage.L dBool.L dInt.L vrS [1,0,0,0] glS fun s m ok i=>([s.o.messages.length<=1000000],.tup [],sMoM 87 (zaR s (zbT m ok i)))
theorem zrd:zaf Tryz.prog zuD:=ziI (ze5 default default true 0 (by decide)).1 fun s m ok i h=>zkI s m ok i (h _ (by simp))
def toM (s:Step) (p:Peer):Message:=
 if p.next<=s.n.kept.snap.index then ⟨7,0,p.node,0,0,0,[],0,s.n.round,false,s.n.kept.snap,0,0,zs⟩
 else ⟨5,0,p.node,0,IntKind.i64.wrap (p.next-1),(zau s.n.kept (IntKind.i64.wrap (p.next-1))).1,(zbk s.n.kept p.next 8).1,s.n.commit,s.n.round,false,zeg,0,0,zs⟩
def toS (s:Step) (p:Peer):Step:=zaR s (toM s p)
def tabY:List Ent:=[zgI,zuz,zhM,zvQ]
theorem zuT:∀ e∈tabY,zaf Tryz.prog e:=zaa zcW (zaa zqA (zaa zdL (zaa zeY zad)))
theorem zwH (s:Step) (p:Peer) (hn:SmallN s.n) (ho:s.o.messages.length<=1000000):FnG Tryz.prog 72 3 (wMi s) [.ptr 2 0,dPeer.L.can p] (.tup []) (wMoM (toS s p)):=by
 refine FnG.of_vc (zak zuT fun _=>none) Tryz.func72 rfl (by decide) rfl 300 (p:=fun (V:List PE->Prop)=>let v1:=s.n.round;let v2:=s.n.kept;let v4:=Step.n (toS s p);let v5:=Step.o (toS s p);let v17:=ByteArray.mk #[];let v20:=(0:Int);let v33:=IntKind.wrap IntKind.i64 (p.next-(1:Int));let v34:=decide (p.next<=v2.snap.index);let v35:=zaR s (Message.mk (7:Int) v20 p.node v20 v20 v20 [] v20 v1 false v2.snap v20 v20 v17);let v41:=zaR s (Message.mk (5:Int) v20 p.node v20 v33 (Prod.fst (zau v2 v33)) (Prod.fst (zbk v2 p.next (8:Int))) s.n.commit v1 false (Snap.mk v20 v20 (Config.mk [] []) v17) v20 v20 v17);True/\True/\True/\(v34=true->(zaw v2.snap.config/\s.o.messages.length<=1000000/\True)/\qN0 v35.n v4 (qN3 v35.n v4 (qO4 v35.o v5 (v35.o.messages=v5.messages/\True))))/\(v34=false->(v2.entries.length<=17592186044416/\True)/\(v2.entries.length<=17592186044416/\zbQ v2/\v20<=8/\True)/\(s.o.messages.length<=1000000/\True)/\qN0 v41.n v4 (qN3 v41.n v4 (qO4 v41.o v5 (v41.o.messages=v5.messages/\True))))) (by kernel_rfl) ?_
 simp only [qN0,qN3,qO4,imp_self,implies_true,true_and,and_true,zah,zai]
 refine ⟨fun h=>?_,fun h=>?_⟩
 ·have h:p.next<=s.n.kept.snap.index:=by simpa using h
  have e:toS s p=zaR s ⟨7,0,p.node,0,0,0,[],0,s.n.round,false,s.n.kept.snap,0,0,⟨#[]⟩⟩:=by rw [toS,toM,if_pos h];rfl
  rw [e]
  refine ⟨⟨hn.k.2,ho⟩,?_⟩
  simp only [and_self]
 ·have h:¬ p.next<=s.n.kept.snap.index:=by simpa using h
  have e:toS s p=zaR s ⟨5,0,p.node,0,IntKind.i64.wrap (p.next-1),(zau s.n.kept (IntKind.i64.wrap (p.next-1))).1,(zbk s.n.kept p.next 8).1,s.n.commit,s.n.round,false,⟨0,0,⟨[],[]⟩,⟨#[]⟩⟩,0,0,⟨#[]⟩⟩:=by rw [toS,toM,if_neg h];rfl
  rw [e]
  refine ⟨hn.ls.1,⟨hn.ls.1,hn.k,by decide⟩,ho,?_⟩
  simp only [and_self]
def eTo:Ent:=zdk 72 3 mW dPeer.L vrW [1,0] glW fun s p=>([SmallN s.n,s.o.messages.length<=1000000],.tup [],wMoM (toS s p))
theorem zq5:zaf Tryz.prog eTo:=zaY (zwH default default zd3 (by decide)).1 fun s p h=>zwH s p (h _ (by simp)) (h _ (by simp))
theorem toM_o (n:Node) (o:Out) (p:Peer):toM ⟨n,o⟩ p=toM ⟨n,default⟩ p:=rfl
theorem toM_s (s:Step) (p:Peer):toM s p=toM ⟨s.n,default⟩ p:=rfl
theorem zxf (n:Node) (o:Out) (m:Message):msgS ⟨n,o⟩ m=msgS ⟨n,default⟩ m:=rfl
theorem zxe (s:Step) (m:Message):msgS s m=msgS ⟨s.n,default⟩ m:=rfl
def allS (s:Step):Step:=⟨s.n,{s.o with messages:=s.o.messages++s.n.peers.map fun p=>msgS s (toM s p)}⟩
theorem zxQ (s:Step) (hn:SmallN s.n) (ho:s.o.messages.length+s.n.peers.length<=1000000):FnG Tryz.prog 34 3 (wMi s) [.ptr 2 0] (.tup []) (wMoM (allS s)):=by
 refine FnG.of_vc (zak (zaa zq5 zad) fun _=>none) Tryz.func34 rfl (by decide) rfl 300 (p:=fun (V:List PE->Prop)=>True/\V []) (by kernel_rfl) ?_
 simp only [qN0,qN14,qN3,qN7,qO4,imp_self,implies_true,true_and,and_true,zah,zai]
 have hpl:=hn.peers
 refine LoopG.head (zak (zaa zq5 zad) fun _=>none) 0 (A:=Nat) (fun j=>j<=s.n.peers.length) (fun j=>[(10,.int .i64 j)]) (fun j=>[(2,.cells 87 (wCs [1] s 3 4 5 6 7 12 9 10)),(7,.row 107 [2,61] (.rRecord s.o.records)),(9,.row 123 [2,61] (.rRead s.o.ready)),(10,.row 3 [2,61] (.rInts s.o.lost)),(8,.dead),(12,.row 58 [2,61] (.rMessage (s.o.messages++(s.n.peers.take j).map fun p=>msgS s (toM s p)))),(61,.dead)]) (fun j=>s.n.peers.length-j) 0 (Nat.zero_le _) (p0:=let v26:=(↑(s.n.peers.length):Int);(0:Int)=(↑(0:Nat):Int)/\v26=v26/\qN0 s.n s.n (qN7 s.n s.n (qO4 s.o s.o (s.o.messages=s.o.messages++List.map (fun (p:Peer)=>msgS s (toM s p)) (List.take (0:Nat) s.n.peers)/\qN14 s.n s.n (s.n.reads=s.n.reads/\True))))) (by kernel_rfl) ?_ 300 (p:=fun (x:Nat) (V:List PE->Prop)=>let v2:=s.n.peers;let v3:=Step.n (allS s);let v4:=Step.o (allS s);let v8:=(↑x:Int);let v13:=(↑(v2.length):Int);let v14:=decide (v8<v13);let v15:=s.o.messages++List.map (fun (p:Peer)=>msgS s (toM s p)) (List.take x v2);True/\True/\(v14=true->((0:Int)<=v8/\v8<v13/\x<v2.length/\True)/\(SmallN s.n/\v15.length<=1000000/\True)/\True/\V [PE.a])/\(v14=false->qN0 s.n v3 (qN3 s.n v3 (qO4 s.o v4 (v15=v4.messages/\True))))) (by intro x;kernel_rfl) ?_
 ·simp
 rintro j hj
 simp only [qN0,qN14,qN3,qN7,qO4,imp_self,implies_true,true_and,and_true,decide_eq_true_eq,decide_eq_false_iff_not]
 refine ⟨fun h6=>?_,fun h6=>?_⟩
 ·refine ⟨⟨by omega,by omega,by omega⟩,⟨hn,by simp only [List.length_append,List.length_map,List.length_take];omega⟩,?_⟩
  refine Back.mk (j+1) (by omega) (by omega) (p0:=let v5:=s.n.peers;let v10:=(↑(v5.length):Int);let v11:=toS (Step.mk s.n (Out.mk s.o.records (s.o.messages++List.map (fun (p:Peer)=>msgS s (toM s p)) (List.take j v5)) s.o.ready s.o.lost)) (List.getD v5 j default);IntKind.wrap IntKind.i64 ((↑j:Int)+(1:Int))=(↑(j+(1:Nat)):Int)/\v10=v10/\qN0 v11.n s.n (qN7 v11.n s.n (qO4 v11.o s.o (v11.o.messages=s.o.messages++List.map (fun (p:Peer)=>msgS s (toM s p)) (List.take (j+(1:Nat)) v5)/\qN14 v11.n s.n (v11.n.reads=s.n.reads/\True))))) (by kernel_rfl) ?_
  have e1:=zaL (l:=s.n.peers) (d:=(default:Peer)) (i:=j) (by omega)
  simp only [qN0,qN14,qN3,qN7,qO4,zbN (i:=j) (by omega),e1,toS,zaR,toM_o,zxf,fun p=>toM_s s p,fun m=>zxe s m,List.map_append,List.map_cons,List.map_nil,List.append_assoc,true_and,and_true]
  omega
 ·obtain rfl:j=s.n.peers.length:=by omega
  simp only [List.take_length,allS,and_self]
def zrf:Ent:=zks 34 3 mW vrW [1] glW fun s=>([SmallN s.n,s.o.messages.length+s.n.peers.length<=1000000],.tup [],wMoM (allS s))
theorem zfT:zaf Tryz.prog zrf:=zdj (fnB Tryz.func34 (by decide) rfl) fun s h=>zxQ s (h _ (by simp)) (h _ (by simp))
def isV (v x:Int):Bool:=x==v
def zaT (ps:List Peer) (v:Int):Int:=zaK (isV v) (ps.map (·.node))
theorem zcS (ps:List Peer) (i:Nat):(ps.map (·.node)).getD i 0=(ps.getD i default).node:=by
 simp only [List.getD_eq_getElem?_getD,List.getElem?_map]
 cases ps[i]? <;> rfl
theorem zgE {p:Int->Bool}:∀ (l:List Int),-1<=zaK p l/\zaK p l<l.length
 | []=>⟨by simp [zaK],by simp [zaK]⟩
 | x::l=>by
  have:=zgE (p:=p) l
  unfold zaK
  simp only [List.length_cons]
  split
  ·omega
  ·split<;>omega
theorem zdb (ps:List Peer) (v:Int):zaT ps v<(ps.length:Int):=by
 have:=(zgE (p:=isV v) (ps.map (·.node))).2
 simpa [zaT] using this
def dCloP:Dec Int where
 dec:=fun s=>match s with | .clo 84 [t]=>dRpInt.dec t | _=>none
 can:=fun x=> .clo 84 [dRpInt.can x]
 Okp:=fun x=>True
 okp:=fun x E w v h=>trivial
 ok:=by
  intro s x h E w v hz hd
  split at h
  case h_2=>simp at h
  obtain ⟨xs,hv,hd⟩:=hd
  match xs,hd with
  | [u],hd=>exact ⟨[u],hv,dRpInt.ok _ _ h E w u hz hd.1,trivial⟩
theorem zm0 (x:Peer) (v:Int):FnC Tryz.prog 84 [dPeer.can x,dRpInt.can v] (.bool (isV v x.node)) D2:=by
 refine FnG.of_vc (zak zad fun _=>none) Tryz.func84 rfl (by decide) rfl 300 (p:=fun (V:List PE->Prop)=>True/\True/\(x.node==v)=isV v x.node/\True) (by kernel_rfl) ?_
 simp only [isV,true_and,and_true]
def zx5:Ent:=ent2 84 dPeer dRpInt fun x v=>([],.bool (isV v x.node),D2)
theorem zkz:zaf Tryz.prog zx5:=za3 (zm0 default 0).1 fun x v _=>zm0 x v
theorem zkc (l:List Peer) (v:Int):FnC Tryz.prog 83 [dPeers.can l,dCloP.can v] (.int .i64 (zaT l v)) D2:=by
 refine FnC.g2 dPeers dCloP l v (fnB Tryz.func83 (by decide) rfl) fun hl _=>?_
 refine FnG.of_vc (zak (zaa zkz zad) fun _=>none) Tryz.func83 rfl (by decide) rfl 300 (p:=fun (V:List PE->Prop)=>True/\True/\V []) (by kernel_rfl) ?_
 simp only [true_and,and_true]
 refine LoopG.head (zak (zaa zkz zad) fun _=>none) 0 (A:=Nat) (fun j=>j<=l.length/\∀ i,i<j->isV v (l.getD i default).node=false) (fun j=>[(8,.int .i64 j)]) (fun _=>[]) (fun j=>l.length-j) 0 ⟨Nat.zero_le _,fun i h=>absurd h (by omega)⟩ (p0:=let v0:=(↑(l.length):Int);(0:Int)=(↑(0:Nat):Int)/\v0=v0/\l=l/\v=v/\True) (by kernel_rfl) ?_ 300 (p:=fun (x:Nat) (V:List PE->Prop)=>let v0:=(↑x:Int);let v1:=(↑(l.length):Int);let v2:=isV v (Peer.node (List.getD l x default));let v3:=decide (v0<v1);True/\True/\(v3=true->True/\((0:Int)<=v0/\v0<v1/\True)/\True/\(v2=true->True/\v0=zaT l v/\True)/\(v2=false->True/\V [PE.a,PE.b]))/\(v3=false->True/\(-1:Int)=zaT l v/\True)) (by intro x;kernel_rfl) ?_
 ·simp
 ·rintro j ⟨hj,h0⟩
  have hl44:=hl.1
  simp only [true_and,and_true,decide_eq_true_eq,decide_eq_false_iff_not]
  refine ⟨fun h1=>⟨by omega,fun h2=>?_,fun h2=>?_⟩,fun h1=>?_⟩
  ·exact (zcU (by simp only [List.length_map];omega) (fun i hi=>by rw [zcS];exact h0 i hi) (by rw [zcS];exact h2)).symm
  ·refine Back.mk (j+1) ⟨by omega,fun i hi=>?_⟩ (by omega) (p0:=let v0:=(↑(l.length):Int);IntKind.wrap IntKind.i64 ((↑j:Int)+(1:Int))=(↑(j+(1:Nat)):Int)/\v0=v0/\l=l/\v=v/\True) (by kernel_rfl) ?_
   ·by_cases h:i=j
    ·subst h;exact h2
    ·exact h0 i (by omega)
   ·simp [zbN (i:=j) (by omega)]
  ·exact (zc0 fun i hi=>by rw [zcS];exact h0 i (by simp only [List.length_map] at hi;omega)).symm
def eIdxP:Ent:=ent2 83 dPeers dCloP fun l v=>([],.int .i64 (zaT l v),D2)
theorem ztz:zaf Tryz.prog eIdxP:=za3 (zkc [] 0).1 fun l m _=>zkc l m
theorem zph (s:Step) (v:Int):FnC Tryz.prog 48 [(dRpS 87).can s,dInt.can v] (.int .i64 (zaT s.n.peers v)) D2:=by
 refine FnG.of_vc (zak (zaa ztz zad) fun _=>none) Tryz.func48 rfl (by decide) rfl 300 (p:=fun (V:List PE->Prop)=>let v0:=zaT s.n.peers v;True/\True/\v0=v0/\True) (by kernel_rfl) ?_
 simp only [true_and,and_true]
def ztu:Ent:=ent2 48 (dRpS 87) dInt fun s v=>([],.int .i64 (zaT s.n.peers v),D2)
theorem ziO:zaf Tryz.prog ztu:=za3 (zph default 0).1 fun s v _=>zph s v
def zcy (s:Step) (v:Int):Int:=if 0<=zaT s.n.peers v then (s.n.peers.getD (zaT s.n.peers v).toNat default).match_ else if v=s.n.id then (zam s.n.kept).1 else 0
def zbG (s:Step):List Int:=(za6 s.n).voters.map (zcy s)
def zaB (s:Step):Step:=if (zau s.n.kept (zbO (zbG s))).2=0/\(zau s.n.kept (zbO (zbG s))).1=s.n.kept.term then ⟨{s.n with commit:=max s.n.commit (zbO (zbG s))},s.o⟩ else s
def tabZ:List Ent:=[zhQ,ztu,zhJ,zx1,zgI]
theorem zo6:∀ e∈tabZ,zaf Tryz.prog e:=zaa zdM (zaa ziO (zaa zcV (zaa ztq (zaa zcW zad))))
theorem zt5 (s:Step) (hn:SmallN s.n) (ho:SmallO s.o) (hv:(za6 s.n).voters.length<=4000):FnG Tryz.prog 43 3 (wMi s) [.ptr 2 0] (.tup []) (wMi (zaB s)):=by
 refine FnG.of_vc (zak zo6 fun _=>none) Tryz.func43 rfl (by decide) rfl 300 (p:=fun (V:List PE->Prop)=>True/\(s.n.kept.entries.length<=17592186044416/\s.n.yes.length<=17592186044416/\s.n.peers.length<=17592186044416/\s.n.reads.length<=17592186044416/\SmallN s.n/\True)/\V []) (by kernel_rfl) ?_
 simp only [qN0,qN15,qN3,qO13,imp_self,implies_true,true_and,and_true,zah,zai]
 obtain ⟨b1,b2,b3,b4,b5⟩:=hn.ls
 obtain ⟨V,hV⟩:∃ V,(za6 s.n).voters=V:=⟨_,rfl⟩
 obtain ⟨c1,c2,c3,c4⟩:=ho.ls
 refine ⟨⟨b1,b2,b3,b4,hn⟩,?_⟩
 refine LoopG.head (zak zo6 fun _=>none) 0 (A:=Nat) (fun j=>j<=V.length) (fun j=>[(18,.int .i64 j),(17,.int .i64 (V.length:Int)),(16,.sl [900] (.rInts V)),(2,.own 12)]) (fun j=>[(12,.row 3 [901] (.rInts ((V.take j).map (zcy s)))),(900,.dead),(901,.dead)]) (fun j=>V.length-j) 0 (Nat.zero_le _) (p0:=let v16:=Config.voters (za6 s.n);(0:Int)=(↑(0:Nat):Int)/\(↑(v16.length):Int)=(↑(List.length V):Int)/\v16=V/\List.map (zcy s) (List.take (0:Nat) V)=[]/\qN0 s.n s.n (qN3 s.n s.n (qO13 s.o s.o (s.o.lost=s.o.lost/\True)))) (by kernel_rfl) ?_ 300 (p:=fun (x:Nat) (V_1:List PE->Prop)=>let v0:=s.n;let v4:=v0.kept;let v6:=Step.n (zaB s);let v8:=v0.commit;let v16:=Step.o (zaB s);let v21:=(↑x:Int);let v22:=v4.entries;let v23:=v4.snap;let v24:=v6.kept.snap;let v26:=v0.peers.length;let v27:=(0:Int);let v30:=v23.config;let v32:=(↑(List.length V):Int);let v35:=List.map (zcy s) (List.take x V);let v36:=List.getD V x v27;let v37:=zbO v35;let v38:=v35.length;let v39:=zaT v0.peers v36;let v40:=zau v4 v37;let v41:=Int.toNat v39;let v42:=v36==v0.id;let v43:=decide (v21<v32);let v44:=Prod.snd v40==v27;let v45:=decide (v39>=v27);let v46:=zac v44 (Prod.fst v40==v4.term) false;True/\True/\(v43=true->(v27<=v21/\v21<v32/\True)/\True/\(v22.length<=17592186044416/\v0.yes.length<=17592186044416/\v26<=17592186044416/\v0.reads.length<=17592186044416/\s.o.records.length<=17592186044416/\s.o.messages.length<=17592186044416/\s.o.ready.length<=17592186044416/\s.o.lost.length<=17592186044416/\True)/\True/\((v45=true->v27<=v39)/\(v45=true->v39<(↑v26:Int))/\(v45=true->v41<v26)/\(v45=false->v42=true->v22.length<=17592186044416)/\(v45=false->v42=true->v0.yes.length<=17592186044416)/\(v45=false->v42=true->v26<=17592186044416)/\(v45=false->v42=true->v0.reads.length<=17592186044416)/\(v45=false->v42=true->s.o.records.length<=17592186044416)/\(v45=false->v42=true->s.o.messages.length<=17592186044416)/\(v45=false->v42=true->s.o.ready.length<=17592186044416)/\(v45=false->v42=true->s.o.lost.length<=17592186044416)/\True)/\((v38+List.length [zat v45 (Peer.match_ (List.getD v0.peers v41 default)) (zat v42 (Prod.fst (zam v4)) v27)])*(1024:Nat)<=140737488355328/\True)/\True/\V_1 [PE.a])/\(v43=false->(v38<=17592186044416/\v38<=1000000/\True)/\(v22.length<=17592186044416/\True)/\((v44=true->v44=true)/\(v44=true->v44=true)/\(v44=true->v44=true)/\(v44=true->v44=true)/\(v44=true->v44=true)/\(v44=true->v44=true)/\(v44=true->v44=true)/\(v44=true->v44=true)/\True)/\True/\zat v46 v0.id v0.id=v6.id/\zat v46 v0.role v0.role=v6.role/\zat v46 v4.term v4.term=v6.kept.term/\zat v46 v4.vote v4.vote=v6.kept.vote/\zat v46 v23.index v23.index=v24.index/\zat v46 v23.term v23.term=v24.term/\(if v46=true then v30.voters else v30.voters)=v24.config.voters/\(if v46=true then v30.learners else v30.learners)=v24.config.learners/\(if v46=true then v23.data else v23.data)=v24.data/\zat v46 (if v37>v8 then v37 else v8) v8=v6.commit/\zat v46 v0.lead v0.lead=v6.lead/\zat v46 v0.elapsed v0.elapsed=v6.elapsed/\zat v46 v0.round v0.round=v6.round/\qN15 v0 v6 (qO13 s.o v16 (s.o.lost=v16.lost/\True)))) (by intro x;kernel_rfl) ?_
 ·simp [hV]
 rintro j hj
 simp only [qN0,qN15,qN3,qO13,imp_self,implies_true,true_and,and_true,decide_eq_true_eq,decide_eq_false_iff_not]
 have hp:=fun v=>zdb s.n.peers v
 refine ⟨fun h6=>⟨⟨by omega,h6⟩,⟨b1,b2,b3,b4,c1,c2,c3,c4⟩,⟨fun _=>hp _,fun h=>?_,fun _ _=>b1,fun _ _=>b2,fun _ _=>b3,fun _ _=>b4,fun _ _=>c1,fun _ _=>c2,fun _ _=>c3,fun _ _=>c4⟩,?_,?_⟩,fun h6=>?_⟩
 ·have:=hp (V.getD j 0);omega
 ·rw [hV] at hv;simp only [List.length_map,List.length_take,List.length_cons,List.length_nil];omega
 ·refine Back.mk (j+1) (by show j+1<=_;omega) (by show _-(j+1)<_-j;omega) (p0:=let v21:=(0:Int);let v26:=(↑(List.length V):Int);let v28:=List.getD V j v21;let v29:=zaT s.n.peers v28;IntKind.wrap IntKind.i64 ((↑j:Int)+(1:Int))=(↑(j+(1:Nat)):Int)/\v26=v26/\V=V/\List.map (zcy s) (List.take j V)++[zat (decide (v29>=v21)) (Peer.match_ (List.getD s.n.peers (Int.toNat v29) default)) (zat (v28==s.n.id) (Prod.fst (zam s.n.kept)) v21)]=List.map (zcy s) (List.take (j+(1:Nat)) V)/\qN0 s.n s.n (qN3 s.n s.n (qO13 s.o s.o (s.o.lost=s.o.lost/\True)))) (by kernel_rfl) ?_
  simp only [qN0,qN15,qN3,qO13,true_and,and_true,zbN (i:=j) (by rw [hV] at hv;omega)]
  rw [zaL (d:=(0:Int)) (by omega),List.map_append]
  refine ⟨by omega,?_⟩
  have e:zcy s (V.getD j 0)=zat (decide (zaT s.n.peers (V.getD j 0)>=0)) (s.n.peers.getD (zaT s.n.peers (V.getD j 0)).toNat default).match_ (zat (V.getD j 0==s.n.id) (zam s.n.kept).1 0):=by
   unfold zcy zat
   by_cases h1:0<=zaT s.n.peers (V.getD j 0)<;>by_cases h2:V.getD j 0=s.n.id<;>simp [h1,h2]
  simp only [List.map_cons,List.map_nil,e]
 ·have:j=V.length:=by omega
  subst this
  rw [List.take_length]
  have hL:V.map (zcy s)=zbG s:=by rw [zbG,hV]
  rw [hL]
  have hll:(zbG s).length<=4000:=by rw [zbG,List.length_map];exact hv
  refine ⟨⟨by omega,by omega⟩,b1,?_⟩
  simp only [zbC]
  unfold zaB
  by_cases h1:(zau s.n.kept (zbO (zbG s))).2=0<;>by_cases h2:(zau s.n.kept (zbO (zbG s))).1=s.n.kept.term<;>simp [zac,zat,h1,h2]
  omega
def zk5:Ent:=zks 43 3 mW vrW [1] glW fun s=>([SmallN s.n,SmallO s.o,(za6 s.n).voters.length<=4000],.tup [],wMi (zaB s))
theorem zfb:zaf Tryz.prog zk5:=zdj (fnB Tryz.func43 (by decide) rfl) fun s h=>zt5 s (h _ (by simp)) (h _ (by simp)) (h _ (by simp))
def zc9 (r:Read) (p:Peer):Bool:=decide (r.round<=p.round)
def zxq (s:Step) (r:Read):List Int:=s.n.id::(s.n.peers.filter (zc9 r)).map (·.node)
def zba (s:Step) (r:Read):Bool:=mayC (za6 s.n)&&zbH (za6 s.n).voters (zxq s r)
def zbd (s:Step):Step:=⟨{s.n with reads:=s.n.reads.filter fun r=>!zba s r},{s.o with ready:=s.o.ready++s.n.reads.filter (zba s)}⟩
def wMoA (s:Step):List BE:=[.dead,.dead,.cells 87 (wCs [1] s 3 4 5 11 7 8 12 10),.row 71 [1] (.rEntry s.n.kept.entries),.row 3 [1] (.rInts s.n.yes),.row 102 [1] (.rPeer s.n.peers),.dead,.row 107 [2] (.rRecord s.o.records),.row 58 [2] (.rMessage s.o.messages),.dead,.row 3 [2] (.rInts s.o.lost),.row 123 [1] (.rRead s.n.reads),.row 123 [2] (.rRead s.o.ready)]
def tabRb:List Ent:=[zhQ,ziM]
theorem zij:∀ e∈tabRb,zaf Tryz.prog e:=zaa zdM (zaa zgJ zad)
theorem zrA (s:Step) (hn:SmallN s.n) (ho:SmallO s.o) (hr:s.o.ready.length<=10000) (hs:s.n.reads.length<=10000) (hp:s.n.peers.length<=10000):FnG Tryz.prog 73 3 (wMi s) [.ptr 2 0] (.tup []) (wMoA (zbd s)):=by
 refine FnG.of_vc (zak zij fun _=>none) Tryz.func73 rfl (by decide) rfl 300 (p:=fun (V:List PE->Prop)=>(s.n.kept.entries.length<=17592186044416/\s.n.yes.length<=17592186044416/\s.n.peers.length<=17592186044416/\s.n.reads.length<=17592186044416/\SmallN s.n/\True)/\True/\True/\V []) (by kernel_rfl) ?_
 simp only [qN0,qN1,qN15,qN7,qO16,imp_self,implies_true,true_and,and_true,zah,zai]
 obtain ⟨b1,b2,b3,b4,b5⟩:=hn.ls
 obtain ⟨c1,c2,c3,c4⟩:=ho.ls
 refine ⟨⟨b1,b2,b3,b4,hn⟩,?_⟩
 refine LoopG.head (zak zij fun _=>none) 0 (A:=Nat) (fun j=>j<=s.n.reads.length) (fun j=>[(20,.int .i64 j),(3,.own 13)]) (fun j=>[(2,.cells 87 (wCs [1] s 3 4 5 6 7 8 12 10)),(9,.dead),(12,.row 123 [2] (.rRead (s.o.ready++(s.n.reads.take j).filter (zba s)))),(13,.row 123 [] (.rRead ((s.n.reads.take j).filter fun r=>!zba s r)))]) (fun j=>s.n.reads.length-j) 0 (Nat.zero_le _) (p0:=let v17:=Config.learners (za6 s.n);let v18:=Config.voters (za6 s.n);let v28:=(↑(s.n.reads.length):Int);let v29:=List.take (0:Nat) s.n.reads;(0:Int)=(↑(0:Nat):Int)/\v28=v28/\qN0 s.n s.n (qN7 s.n s.n (s.o.ready=s.o.ready++List.filter (zba s) v29/\List.filter (fun (r:Read)=>!zba s r) v29=[]/\v18=v18/\v17=v17/\qN15 s.n s.n (s.o.records=s.o.records/\s.o.messages=s.o.messages/\s.o.lost=s.o.lost/\True)))) (by kernel_rfl) ?_ 300 (p:=fun (x:Nat) (V:List PE->Prop)=>let v2:=s.n.reads;let v3:=Step.n (zbd s);let v5:=Step.o (zbd s);let v7:=(↑x:Int);let v9:=v2.length;let v15:=decide (v7<(↑v9:Int));True/\True/\(v15=true->((0:Int)<=v7/\v7<(↑v9:Int)/\x<v9/\True)/\True/\True/\V [PE.a])/\(v15=false->True/\qN0 s.n v3 (qN1 s.n v3 (qO16 s.o v5 (List.filter (fun (r:Read)=>!zba s r) (List.take x v2)=v3.reads/\s.o.ready++List.filter (zba s) (List.take x v2)=v5.ready/\True))))) (by intro x;kernel_rfl) ?_
 ·simp
 rintro j hj
 simp only [qN0,qN1,qN15,qN7,qO16,imp_self,implies_true,true_and,and_true,decide_eq_true_eq,decide_eq_false_iff_not]
 refine ⟨fun h6=>⟨⟨by omega,by omega,by omega⟩,?_⟩,fun h6=>?_⟩
 ·refine LoopG.head (zak zij fun _=>none) 1 (A:=Nat) (fun i=>i<=s.n.peers.length) (fun i=>[(36,.int .i64 i),(6,.own 14)]) (fun i=>[(14,.row 3 [] (.rInts (s.n.id::((s.n.peers.take i).filter (zc9 (s.n.reads.getD j default))).map (·.node)))),(59,.dead)]) (fun i=>s.n.peers.length-i) 0 (Nat.zero_le _) (p0:=let v0:=s.n;let v2:=v0.reads;let v16:=Config.voters (za6 v0);let v18:=Config.learners (za6 v0);let v19:=(↑j:Int);let v29:=(↑(v0.peers.length):Int);let v30:=(↑(v2.length):Int);let v31:=List.getD v2 j default;let v32:=v31.round;let v33:=v31.index;let v34:=v31.token;let v35:=List.filter (fun (r:Read)=>!zba s r) (List.take j v2);let v36:=s.o.ready++List.filter (zba s) (List.take j v2);let v37:=decide (v19<v30);(0:Int)=(↑(0:Nat):Int)/\v29=v29/\v0.id=v0.id/\v34=v34/\v33=v33/\v32=v32/\v37=v37/\v19=v19/\v30=v30/\[v0.id]=v0.id::List.map (fun (x:Peer)=>x.node) (List.filter (zc9 v31) (List.take (0:Nat) v0.peers))/\v34=v34/\v33=v33/\v32=v32/\qN0 v0 v0 (qN7 v0 v0 (v36=v36/\v35=v35/\v16=v16/\v18=v18/\qN15 v0 v0 (s.o.records=s.o.records/\s.o.messages=s.o.messages/\s.o.lost=s.o.lost/\True)))) (by kernel_rfl) ?_ 300 (p:=fun (x:Nat) (V:List PE->Prop)=>let v2:=s.n.peers;let v3:=za6 s.n;let v4:=(↑x:Int);let v6:=List.take j s.n.reads;let v7:=(↑(v2.length):Int);let v8:=List.getD s.n.reads j default;let v9:=List.getD v2 x default;let v12:=List.length [v8];let v13:=s.n.id::List.map (fun (x:Peer)=>x.node) (List.filter (zc9 v8) (List.take x v2));let v14:=decide (v4<v7);let v16:=mayC v3&&zbH v3.voters v13;let v17:=decide (v9.round>=v8.round);True/\True/\(v14=true->((0:Int)<=v4/\v4<v7/\x<v2.length/\True)/\True/\True/\(v17=true->((v13.length+List.length [v9.node])*(1024:Nat)<=140737488355328/\True)/\True/\V [PE.a,PE.a])/\(v17=false->True/\V [PE.a,PE.b]))/\(v14=false->(v13.length<=17592186044416/\zaw v3/\True)/\True/\(v16=true->((List.length (s.o.ready++List.filter (zba s) v6)+v12)*(1024:Nat)<=140737488355328/\True)/\True/\V [PE.b,PE.a])/\(v16=false->((List.length (List.filter (fun (r:Read)=>!zba s r) v6)+v12)*(1024:Nat)<=140737488355328/\True)/\True/\V [PE.b,PE.b]))) (by intro x;kernel_rfl) ?_
  ·simp
  rintro i hi
  simp only [qN0,qN1,qN15,qN7,qO16,imp_self,implies_true,true_and,and_true,decide_eq_true_eq,decide_eq_false_iff_not]
  have hpl:((s.n.peers.take i).filter (zc9 (s.n.reads.getD j default))).length<=10000:=by
   have h1:=List.length_filter_le (zc9 (s.n.reads.getD j default)) (s.n.peers.take i)
   simp only [List.length_take] at h1;omega
  have hrl:∀ f:Read->Bool,((s.n.reads.take j).filter f).length<=10000:=fun f=>by
   have h1:=List.length_filter_le f (s.n.reads.take j)
   simp only [List.length_take] at h1;omega
  have hsn:∀ f:Read->Bool,(s.n.reads.take (j+1)).filter f=(s.n.reads.take j).filter f++(if f (s.n.reads.getD j default)=true then [s.n.reads.getD j default] else []):=fun f=>by
   rw [zaL (d:=(default:Read)) (by omega),List.filter_append]
   simp only [List.filter_cons,List.filter_nil]
  refine ⟨fun h7=>⟨⟨by omega,by omega,by omega⟩,fun h8=>⟨by simp only [List.length_cons,List.length_map,List.length_nil];omega,?_⟩,fun h8=>?_⟩,fun h7=>⟨⟨by simp only [List.length_cons,List.length_map];omega,zdo hn⟩,fun h8=>⟨by have:=hrl (zba s);simp only [List.length_append,List.length_cons,List.length_nil];omega,?_⟩,fun h8=>⟨by have:=hrl fun r=>!zba s r;simp only [List.length_cons,List.length_nil];omega,?_⟩⟩⟩
  ·refine Back.mk (i+1) (by show i+1<=_;omega) (by show _-(i+1)<_-i;omega) (p0:=let v0:=s.n;let v2:=v0.reads;let v3:=v0.peers;let v16:=Config.voters (za6 v0);let v18:=Config.learners (za6 v0);let v19:=(↑j:Int);let v29:=(↑(v3.length):Int);let v30:=(↑(v2.length):Int);let v31:=List.getD v2 j default;let v32:=v31.round;let v33:=v31.index;let v34:=v31.token;let v35:=List.filter (fun (r:Read)=>!zba s r) (List.take j v2);let v36:=s.o.ready++List.filter (zba s) (List.take j v2);let v37:=decide (v19<v30);IntKind.wrap IntKind.i64 ((↑i:Int)+(1:Int))=(↑(i+(1:Nat)):Int)/\v29=v29/\v0.id=v0.id/\v34=v34/\v33=v33/\v32=v32/\v37=v37/\v19=v19/\v30=v30/\v0.id::List.map (fun (x:Peer)=>x.node) (List.filter (zc9 v31) (List.take i v3))++[Peer.node (List.getD v3 i default)]=v0.id::List.map (fun (x:Peer)=>x.node) (List.filter (zc9 v31) (List.take (i+(1:Nat)) v3))/\v34=v34/\v33=v33/\v32=v32/\qN0 v0 v0 (qN7 v0 v0 (v36=v36/\v35=v35/\v16=v16/\v18=v18/\qN15 v0 v0 (s.o.records=s.o.records/\s.o.messages=s.o.messages/\s.o.lost=s.o.lost/\True)))) (by kernel_rfl) ?_
   simp only [qN0,qN1,qN15,qN7,qO16,true_and,and_true]
   rw [zaL (d:=(default:Peer)) (by omega),List.filter_append]
   have h9:zc9 (s.n.reads.getD j default) (s.n.peers.getD i default)=true:=by unfold zc9;simpa using h8
   simp only [qN0,qN1,qN15,qN7,qO16,zbN (i:=i) (by omega),List.filter_cons,List.filter_nil,h9,if_true,List.map_append,List.map_cons,List.map_nil,List.cons_append,true_and,and_true]
   omega
  ·refine Back.mk (i+1) (by show i+1<=_;omega) (by show _-(i+1)<_-i;omega) (p0:=let v0:=s.n;let v2:=v0.reads;let v3:=v0.peers;let v16:=Config.voters (za6 v0);let v18:=Config.learners (za6 v0);let v19:=(↑j:Int);let v29:=(↑(v3.length):Int);let v30:=(↑(v2.length):Int);let v31:=List.getD v2 j default;let v32:=v31.round;let v33:=v31.index;let v34:=v31.token;let v35:=List.filter (fun (r:Read)=>!zba s r) (List.take j v2);let v36:=s.o.ready++List.filter (zba s) (List.take j v2);let v37:=decide (v19<v30);IntKind.wrap IntKind.i64 ((↑i:Int)+(1:Int))=(↑(i+(1:Nat)):Int)/\v29=v29/\v0.id=v0.id/\v34=v34/\v33=v33/\v32=v32/\v37=v37/\v19=v19/\v30=v30/\v0.id::List.map (fun (x:Peer)=>x.node) (List.filter (zc9 v31) (List.take i v3))=v0.id::List.map (fun (x:Peer)=>x.node) (List.filter (zc9 v31) (List.take (i+(1:Nat)) v3))/\v34=v34/\v33=v33/\v32=v32/\qN0 v0 v0 (qN7 v0 v0 (v36=v36/\v35=v35/\v16=v16/\v18=v18/\qN15 v0 v0 (s.o.records=s.o.records/\s.o.messages=s.o.messages/\s.o.lost=s.o.lost/\True)))) (by kernel_rfl) ?_
   simp only [qN0,qN1,qN15,qN7,qO16,true_and,and_true]
   rw [zaL (d:=(default:Peer)) (by omega),List.filter_append]
   have h9:zc9 (s.n.reads.getD j default) (s.n.peers.getD i default)=false:=by unfold zc9;simpa using h8
   simp only [qN0,qN1,qN15,qN7,qO16,zbN (i:=i) (by omega),List.filter_cons,List.filter_nil,h9,if_false,List.append_nil,Bool.false_eq_true,true_and,and_true]
   omega
  ·have:i=s.n.peers.length:=by omega
   subst this
   rw [List.take_length] at h8
   have h9:zba s (s.n.reads.getD j default)=true:=h8
   refine Back.up (Back.mk (j+1) (by show j+1<=_;omega) (by show _-(j+1)<_-j;omega) (p0:=let v8:=s.n.reads;let v17:=Config.learners (za6 s.n);let v20:=Config.voters (za6 s.n);let v29:=(↑(v8.length):Int);let v30:=List.take (j+(1:Nat)) v8;IntKind.wrap IntKind.i64 ((↑j:Int)+(1:Int))=(↑(j+(1:Nat)):Int)/\v29=v29/\qN0 s.n s.n (qN7 s.n s.n (s.o.ready++List.filter (zba s) (List.take j v8)++[List.getD v8 j default]=s.o.ready++List.filter (zba s) v30/\List.filter (fun (r:Read)=>!zba s r) (List.take j v8)=List.filter (fun (r:Read)=>!zba s r) v30/\v20=v20/\v17=v17/\qN15 s.n s.n (s.o.records=s.o.records/\s.o.messages=s.o.messages/\s.o.lost=s.o.lost/\True)))) (by kernel_rfl) ?_)
   simp only [qN0,qN1,qN15,qN7,qO16,true_and,and_true]
   rw [hsn,hsn,if_pos h9,h9,if_neg (by decide)]
   simp only [qN0,qN1,qN15,qN7,qO16,zbN (i:=j) (by omega),List.append_nil,List.append_assoc,true_and,and_true]
   omega
  ·have:i=s.n.peers.length:=by omega
   subst this
   rw [List.take_length] at h8
   have h9:zba s (s.n.reads.getD j default)=false:=h8
   refine Back.up (Back.mk (j+1) (by show j+1<=_;omega) (by show _-(j+1)<_-j;omega) (p0:=let v8:=s.n.reads;let v17:=Config.learners (za6 s.n);let v20:=Config.voters (za6 s.n);let v29:=(↑(v8.length):Int);let v30:=List.take (j+(1:Nat)) v8;IntKind.wrap IntKind.i64 ((↑j:Int)+(1:Int))=(↑(j+(1:Nat)):Int)/\v29=v29/\qN0 s.n s.n (qN7 s.n s.n (s.o.ready++List.filter (zba s) (List.take j v8)=s.o.ready++List.filter (zba s) v30/\List.filter (fun (r:Read)=>!zba s r) (List.take j v8)++[List.getD v8 j default]=List.filter (fun (r:Read)=>!zba s r) v30/\v20=v20/\v17=v17/\qN15 s.n s.n (s.o.records=s.o.records/\s.o.messages=s.o.messages/\s.o.lost=s.o.lost/\True)))) (by kernel_rfl) ?_)
   simp only [qN0,qN1,qN15,qN7,qO16,true_and,and_true]
   rw [hsn,hsn,h9,if_neg (by decide),if_pos (by decide)]
   simp only [qN0,qN1,qN15,qN7,qO16,zbN (i:=j) (by omega),List.append_nil,List.append_assoc,true_and,and_true]
   omega
 ·obtain rfl:j=s.n.reads.length:=by omega
  simp only [List.take_length,zbd,and_self]
def zre:Ent:=zks 73 3 mW vrW [1] glW fun s=>([SmallN s.n,SmallO s.o,s.o.ready.length<=10000,s.n.reads.length<=10000,s.n.peers.length<=10000],.tup [],wMoA (zbd s))
theorem zof:zaf Tryz.prog zre:=zdj (fnB Tryz.func73 (by decide) rfl) fun s h=>zrA s (h _ (by simp)) (h _ (by simp)) (h _ (by simp)) (h _ (by simp)) (h _ (by simp))
def SmallD (c:Config):Prop:=c.voters.length<=4000/\c.learners.length<=4000
theorem SmallD.c {c:Config} (h:SmallD c):zaw c:=⟨Nat.le_trans h.1 (by decide),Nat.le_trans h.2 (by decide)⟩
theorem smallD0:SmallD ⟨[],[]⟩:=⟨by decide,by decide⟩
structure Few (B:Nat) (s:Step):Prop where
 entries:s.n.kept.entries.length<=B
 ec:∀ e∈s.n.kept.entries,SmallD e.config
 sc:SmallD s.n.kept.snap.config
 yes:s.n.yes.length<=B
 peers:s.n.peers.length<=5000
 reads:s.n.reads.length<=5000
 records:s.o.records.length<=B
 messages:s.o.messages.length<=B
 ready:s.o.ready.length<=B
 lost:s.o.lost.length<=B
theorem Few.mono {B C:Nat} {s:Step} (h:Few B s) (hb:B<=C):Few C s:=
 ⟨Nat.le_trans h.entries hb,h.ec,h.sc,Nat.le_trans h.yes hb,h.peers,h.reads,Nat.le_trans h.records hb,Nat.le_trans h.messages hb,Nat.le_trans h.ready hb,Nat.le_trans h.lost hb⟩
theorem Few.k {B:Nat} {s:Step} (h:Few B s) (hb:B<=1000000):zbQ s.n.kept:=⟨⟨Nat.le_trans h.entries hb,fun e he=>(h.ec e he).c⟩,h.sc.c⟩
theorem Few.sn {B:Nat} {s:Step} (h:Few B s) (hb:B<=1000000):SmallN s.n:=⟨h.k hb,Nat.le_trans h.yes hb,Nat.le_trans h.peers (by decide),Nat.le_trans h.reads (by decide)⟩
theorem Few.so {B:Nat} {s:Step} (h:Few B s) (hb:B<=1000000):SmallO s.o:=⟨Nat.le_trans h.records hb,Nat.le_trans h.messages hb,Nat.le_trans h.ready hb,Nat.le_trans h.lost hb⟩
theorem Few.cf {B:Nat} {s:Step} (h:Few B s):SmallD (za6 s.n):=by
 unfold za6 zav
 split
 ·unfold cfgR
  split
  ·rename_i e he
   exact h.ec e (by have:=List.mem_of_find?_eq_some he;simpa using this)
  ·exact h.sc
 ·exact smallD0
theorem Few.recd {B:Nat} {s:Step} {r:Record} (h:Few B s) (h1:SmallD r.entry.config) (h2:SmallD r.snap.config):Few (B+1) (recS s r):=by
 have hk:(recK s.n.kept r).entries.length<=B+1/\(∀ e∈(recK s.n.kept r).entries,SmallD e.config)/\SmallD (recK s.n.kept r).snap.config:=by
  have g1:=h.entries
  unfold recK
  split
  ·exact ⟨Nat.le_succ_of_le h.entries,h.ec,h.sc⟩
  split
  ·refine ⟨by simp only [List.length_append,List.length_cons,List.length_nil];omega,fun e he=>?_,h.sc⟩
   simp only [List.mem_append,List.mem_singleton] at he
   rcases he with he | rfl
   ·exact h.ec e he
   ·exact h1
  split
  ·exact ⟨by simp only [List.length_take];omega,fun e he=>h.ec e (List.mem_of_mem_take he),h.sc⟩
  split
  ·refine ⟨?_,fun e he=>?_,h2⟩
   ·show (if _ then _ else _:List Entry).length<=_
    split
    ·simp only [List.length_drop];omega
    ·simp
   ·have he:e∈(if (zau s.n.kept r.snap.index).2=0/\(zau s.n.kept r.snap.index).1=r.snap.term then s.n.kept.entries.drop (IntKind.i64.wrap (r.snap.index-s.n.kept.snap.index)).toNat else []):=he
    split at he
    ·exact h.ec e (List.mem_of_mem_drop he)
    ·cases he
  ·exact ⟨Nat.le_succ_of_le h.entries,h.ec,h.sc⟩
 exact ⟨hk.1,hk.2.1,hk.2.2,Nat.le_succ_of_le h.yes,h.peers,h.reads,by show (s.o.records++[r]).length<=_;have:=h.records;simp only [List.length_append,List.length_cons,List.length_nil];omega,Nat.le_succ_of_le h.messages,Nat.le_succ_of_le h.ready,Nat.le_succ_of_le h.lost⟩
theorem Few.run {B:Nat} {s:Step} (role:Int) (h:Few B s) (h1:1<=B):Few B (runS s role):=⟨h.entries,h.ec,h.sc,h1,h.peers,h.reads,h.records,h.messages,h.ready,h.lost⟩
theorem Few.lay {B:Nat} {s:Step} {e:Entry} (h:Few B s) (h1:SmallD e.config):Few (B+1) (layS s e):=h.recd h1 smallD0
theorem Few.send {B:Nat} {s:Step} (m:Message) (h:Few B s):Few (B+1) (zaR s m):=by
 have:=h.messages
 exact ⟨Nat.le_succ_of_le h.entries,h.ec,h.sc,Nat.le_succ_of_le h.yes,h.peers,h.reads,Nat.le_succ_of_le h.records,by show (s.o.messages++[msgS s m]).length<=_;simp only [List.length_append,List.length_cons,List.length_nil];omega,Nat.le_succ_of_le h.ready,Nat.le_succ_of_le h.lost⟩
theorem Few.ask {B:Nat} {s:Step} (m:Message) (h:Few B s):Few (B+4000) (askS s m):=by
 have h1:=h.messages
 have h2:=h.cf.1
 have h3:(za8 (za6 s.n).voters s.n.id).length<=(za6 s.n).voters.length:=List.length_filter_le _ _
 have g:=h.mono (show B<=B+4000 by omega)
 exact ⟨g.entries,g.ec,g.sc,g.yes,g.peers,g.reads,g.records,by show (s.o.messages++_).length<=_;simp only [List.length_append,List.length_map];omega,g.ready,g.lost⟩
theorem Few.all {B:Nat} {s:Step} (h:Few B s):Few (B+5000) (allS s):=by
 have h1:=h.messages
 have h2:=h.peers
 have g:=h.mono (show B<=B+5000 by omega)
 exact ⟨g.entries,g.ec,g.sc,g.yes,g.peers,g.reads,g.records,by show (s.o.messages++_).length<=_;simp only [List.length_append,List.length_map];omega,g.ready,g.lost⟩
theorem Few.count {B:Nat} {s:Step} (h:Few B s):Few B (zaB s):=by
 unfold zaB
 split
 ·exact ⟨h.entries,h.ec,h.sc,h.yes,h.peers,h.reads,h.records,h.messages,h.ready,h.lost⟩
 ·exact h
def zot:Entry:=⟨0,0,0,⟨[],[]⟩,zs⟩
def zgy:Entry:=⟨0,0,1,⟨[],[]⟩,zs⟩
def zd7 (s:Step) (o:Int):Peer:=⟨o,IntKind.i64.wrap ((zam s.n.kept).1+1),0,0⟩
def zhe (s:Step) (ps:List Peer):Step:=⟨{s.n with role:=4,lead:=s.n.id,elapsed:=0,yes:=[],peers:=ps},s.o⟩
def ledS (s:Step):Step:=zhe s ((zay s.n).map (zd7 s))
def zeF (s:Step):Step:=allS (zaB (layS (ledS s) zgy))
theorem Few.led {B:Nat} {s:Step} (h:Few B s):Few B (ledS s):=by
 have h1:(zay s.n).length<=16:=Nat.le_trans (List.length_filter_le _ _) (zef (za6 s.n)).2
 exact ⟨h.entries,h.ec,h.sc,Nat.zero_le _,by show (List.map _ _).length<=_;rw [List.length_map];omega,h.reads,h.records,h.messages,h.ready,h.lost⟩
theorem Few.rule {B:Nat} {s:Step} (h:Few B s):Few (B+5001) (zeF s):=((h.led.lay (e:=zgy) smallD0).count.all).mono (by omega)
def tabB:List Ent:=[eOth,zhJ,eLay,zk5,zrf]
theorem zoD:∀ e∈tabB,zaf Tryz.prog e:=zaa zlx (zaa zcV (zaa zl1 (zaa zfb (zaa zfT zad))))
theorem zva (s:Step) (hf:Few 80000 s):FnG Tryz.prog 68 3 (wMi s) [.ptr 2 0] (.tup []) (wMo (zeF s)):=by
 refine FnG.of_vc (zak zoD fun _=>none) Tryz.func68 rfl (by decide) rfl 300 (p:=fun (V:List PE->Prop)=>True/\(s.n.kept.entries.length<=17592186044416/\s.n.reads.length<=17592186044416/\SmallN (Node.mk s.n.id (4:Int) s.n.kept s.n.commit s.n.id (0:Int) [] [] s.n.round s.n.reads)/\True)/\V []) (by kernel_rfl) ?_
 simp only [qN0,qN12,qN15,qN3,qN7,qO13,imp_self,implies_true,true_and,and_true,zah,zai]
 have hol:(zay s.n).length<=16:=Nat.le_trans (List.length_filter_le _ _) (zef (za6 s.n)).2
 have hsn:=hf.sn (by decide)
 have hso:=hf.so (by decide)
 obtain ⟨b1,b2,b3,b4,b5⟩:=hsn.ls
 obtain ⟨c1,c2,c3,c4⟩:=hso.ls
 obtain ⟨L,hL⟩:∃ L,zay s.n=L:=⟨_,rfl⟩
 refine ⟨⟨b1,b4,⟨hsn.k,Nat.zero_le _,Nat.zero_le _,hsn.reads⟩⟩,?_⟩
 refine LoopG.head (zak zoD fun _=>none) 0 (A:=Nat) (fun j=>j<=L.length) (fun j=>[(35,.int .i64 j),(34,.int .i64 (L.length:Int)),(33,.sl [53] (.rInts L))]) (fun j=>[(2,.cells 87 (wCs [1] (zhe s ((L.take j).map (zd7 s))) 3 13 12 6 7 8 9 10)),(12,.row 102 [] (.rPeer ((L.take j).map (zd7 s)))),(13,.row 3 [] (.rInts []))]) (fun j=>L.length-j) 0 (Nat.zero_le _) (p0:=let v0:=s.n;let v16:=List.map (zd7 s) (List.take (0:Nat) L);let v17:=Step.n (zhe s v16);let v21:=zay (Node.mk v0.id (4:Int) v0.kept v0.commit v0.id (0:Int) [] [] v0.round v0.reads);(0:Int)=(↑(0:Nat):Int)/\(↑(v21.length):Int)=(↑(List.length L):Int)/\v21=L/\v0.id=v17.id/\(4:Int)=v17.role/\qN12 v0 v17 (v0.id=v17.lead/\(0:Int)=v17.elapsed/\v0.round=v17.round/\v16=[]/\zxu Int/\qN15 v0 v0 (qO13 s.o s.o (s.o.lost=s.o.lost/\True)))) (by kernel_rfl) ?_ 300 (p:=fun (x:Nat) (V:List PE->Prop)=>let v1:=Step.o (zeF s);let v2:=Step.n (zeF s);let v3:=s.n.reads;let v4:=s.n.kept.entries;let v5:=(↑x:Int);let v8:=(0:Int);let v9:=(↑(List.length L):Int);let v11:=List.map (zd7 s) (List.take x L);let v13:=Step.n (zhe s v11);let v15:=decide (v5<v9);let v16:=Entry.mk v8 v8 (1:Int) (Config.mk [] []) (ByteArray.mk #[]);let v17:=Kept.mk v13.kept.term v13.kept.vote v13.kept.snap v4;let v18:=Node.mk v13.id v13.role v17 v13.commit v13.lead v13.elapsed [] v11 v13.round v3;let v19:=layS (Step.mk v18 s.o) v16;let v21:=zaB v19;let v22:=allS v21;True/\True/\(v15=true->(v8<=v5/\v5<v9/\True)/\(v4.length<=17592186044416/\(0:Nat)<=17592186044416/\v11.length<=17592186044416/\v3.length<=17592186044416/\s.o.records.length<=17592186044416/\s.o.messages.length<=17592186044416/\s.o.ready.length<=17592186044416/\s.o.lost.length<=17592186044416/\(v11.length+List.length [Peer.mk (List.getD L x v8) (IntKind.wrap IntKind.i64 (Prod.fst (zam v17)+(1:Int))) v8 v8])*(1024:Nat)<=140737488355328/\True)/\True/\V [PE.a])/\(v15=false->(SmallN v18/\SmallO s.o/\zen v16/\True)/\(SmallN v19.n/\SmallO v19.o/\List.length (Config.voters (za6 v19.n))<=4000/\True)/\(SmallN v21.n/\v21.o.messages.length+v21.n.peers.length<=1000000/\True)/\qN0 v22.n v2 (qN3 v22.n v2 (qO13 v22.o v1 (v22.o.lost=v1.lost/\True))))) (by intro x;kernel_rfl) ?_
 ·refine ⟨rfl,by rw [<- hL];rfl,hL,?_⟩
  simp [zhe]
 rintro j hj
 simp only [qN0,qN12,qN15,qN3,qN7,qO13,imp_self,implies_true,true_and,and_true,decide_eq_true_eq,decide_eq_false_iff_not]
 have hml:(List.map (zd7 s) (List.take j L)).length<=16:=by simp only [List.length_map,List.length_take];rw [<- hL];omega
 have hle:∀ ps:List Peer,ps.length<=5000->Few 80000 (zhe s ps):=fun ps h=>⟨hf.entries,hf.ec,hf.sc,Nat.zero_le _,h,hf.reads,hf.records,hf.messages,hf.ready,hf.lost⟩
 refine ⟨fun h6=>⟨⟨by omega,h6⟩,⟨b1,by decide,by omega,b4,c1,c2,c3,c4,by simp only [List.length_cons,List.length_nil];omega⟩,?_⟩,fun h6=>?_⟩
 ·refine Back.mk (j+1) (by show j+1<=_;omega) (by show _-(j+1)<_-j;omega) (p0:=let v10:=(↑(List.length L):Int);let v11:=List.map (zd7 s) (List.take j L);let v12:=Step.n (zhe s v11);let v18:=List.map (zd7 s) (List.take (j+(1:Nat)) L);let v19:=Step.n (zhe s v18);IntKind.wrap IntKind.i64 ((↑j:Int)+(1:Int))=(↑(j+(1:Nat)):Int)/\v10=v10/\L=L/\qN0 v12 v19 (qN7 v12 v19 (v11++[Peer.mk (List.getD L j (0:Int)) (IntKind.wrap IntKind.i64 (Prod.fst (zam (Kept.mk v12.kept.term v12.kept.vote v12.kept.snap s.n.kept.entries))+(1:Int))) (0:Int) (0:Int)]=v18/\zxu Int/\qN15 s.n s.n (qO13 s.o s.o (s.o.lost=s.o.lost/\True))))) (by kernel_rfl) ?_
  have e1:=zaL (l:=L) (d:=(0:Int)) (i:=j) (by omega)
  rw [hL] at hol
  simp only [qN0,qN12,qN15,qN3,qN7,qO13,zbN (i:=j) (by omega),e1,List.map_append,List.map_cons,List.map_nil,true_and,and_true]
  refine ⟨by omega,?_⟩
  simp [zhe,zd7]
 ·obtain rfl:j=L.length:=by omega
  rw [List.take_length] at hml ⊢
  have k1:=hle _ (show (L.map (zd7 s)).length<=5000 by omega)
  have k2:=k1.lay (e:=zgy) smallD0
  have k3:=k2.count
  have e:zeF s=allS (zaB (layS (zhe s (L.map (zd7 s))) zgy)):=by rw [zeF,ledS,hL]
  refine ⟨⟨k1.sn (by decide),k1.so (by decide),smallD0.c⟩,⟨k2.sn (by decide),k2.so (by decide),?_⟩,?_⟩
  ·exact k2.cf.1
  ·refine ⟨⟨k3.sn (by decide),?_⟩,?_⟩
   ·have h1:=k3.messages
    have h2:=k3.peers
    exact Nat.le_trans (Nat.add_le_add h1 h2) (by decide)
   ·rw [e]
    repeat' apply And.intro
    all_goals rfl
def zcZ (t v:Int):Record:=⟨1,t,v,zot,0,zeg⟩
theorem zeq (t v:Int):SmallR (zcZ t v):=⟨smallD0.c,smallD0.c⟩
theorem zf0 (k:Kept) (t v:Int):zhi k (zcZ t v):=fun h=>absurd (show (1:Int)=3 from h) (by decide)
theorem Few.vote {B:Nat} {s:Step} (t v:Int) (h:Few B s):Few (B+1) (recS s (zcZ t v)):=h.recd smallD0 smallD0
def msgK (kind:Int):Message:=⟨kind,0,0,0,0,0,[],0,0,false,zeg,0,0,zs⟩
def stand1 (s:Step):Step:=runS (recS s (zcZ (IntKind.i64.wrap (s.n.kept.term+1)) s.n.id)) 3
def zbV (s:Step):Step:=if zaU (stand1 s).n then zeF (stand1 s) else askS (stand1 s) (msgK 3)
theorem Few.stand1 {B:Nat} {s:Step} (h:Few B s):Few (B+1) (stand1 s):=Few.run _ (h.vote _ _) (by omega)
theorem Few.stand {B:Nat} {s:Step} (h:Few B s):Few (B+5002) (zbV s):=by
 unfold zbV
 split
 ·exact h.stand1.rule.mono (by omega)
 ·exact (h.stand1.ask _).mono (by omega)
def zvR:Ent:=zks 68 3 mW vrW [1] glW fun s=>([Few 80000 s],.tup [],wMo (zeF s))
theorem zmH:zaf Tryz.prog zvR:=zdj (fnB Tryz.func68 (by decide) rfl) fun s h=>zva s (h _ (by simp))
def tabBc:List Ent:=[eRec,eRun,zvR,zwd]
theorem zsh:∀ e∈tabBc,zaf Tryz.prog e:=zaa ze2 (zaa zqC (zaa zmH (zaa zmS zad)))
theorem zsq (s:Step) (hf:Few 70000 s):FnG Tryz.prog 39 3 (wMi s) [.ptr 2 0] (.tup []) (wMo (zbV s)):=by
 refine FnG.of_vc (zak zsh fun _=>none) Tryz.func39 rfl (by decide) rfl 300 (p:=fun (V:List PE->Prop)=>let v0:=s.n.kept;let v1:=Step.n (zbV s);let v2:=Step.o (zbV s);let v18:=(0:Int);let v22:=ByteArray.mk #[];let v29:=Snap.mk v18 v18 (Config.mk [] []) v22;let v30:=Record.mk (1:Int) (IntKind.wrap IntKind.i64 (v0.term+(1:Int))) s.n.id (Entry.mk v18 v18 v18 (Config.mk [] []) v22) v18 v29;let v31:=recS s v30;let v32:=runS v31 (3:Int);let v35:=zeF v32;let v42:=askS v32 (Message.mk (3:Int) v18 v18 v18 v18 v18 [] v18 v18 false v29 v18 v18 v22);(s.o.records.length<=1000000/\v0.entries.length<=1000000/\SmallR v30/\zhi v0 v30/\(1:Int)≠(4:Int)/\True)/\(SmallN v31.n/\SmallO v31.o/\True)/\True/\((zaU v32.n)=true->(Few 80000 v32/\True)/\qN0 v35.n v1 (qN3 v35.n v1 (qO13 v35.o v2 (v35.o.lost=v2.lost/\True))))/\((zaU v32.n)=false->(SmallN v32.n/\SmallO v32.o/\v32.o.messages.length<=900000/\List.length (Config.voters (za6 v32.n))<=4000/\True)/\qN0 v42.n v1 (qN3 v42.n v1 (qO13 v42.o v2 (v42.o.lost=v2.lost/\True))))) (by kernel_rfl) ?_
 simp only [qN0,qN3,qO13,imp_self,implies_true,true_and,and_true,zah,zai]
 have k0:=hf.vote (IntKind.i64.wrap (s.n.kept.term+1)) s.n.id
 have k1:=hf.stand1
 refine ⟨⟨(hf.so (by decide)).records,(hf.sn (by decide)).ls.2.2.2.2,zeq _ _,zf0 _ _ _,by decide⟩,⟨k0.sn (by decide),k0.so (by decide)⟩,fun h=>?_,fun h=>?_⟩
 ·have h:zaU (stand1 s).n=true:=h
  rw [zbV,if_pos h]
  refine ⟨k1.mono (by decide),?_⟩
  repeat' apply And.intro
  all_goals rfl
 ·have h:zaU (stand1 s).n=false:=h
  rw [zbV,if_neg (by rw [h];decide)]
  refine ⟨⟨k1.sn (by decide),k1.so (by decide),Nat.le_trans k1.messages (by decide),k1.cf.1⟩,?_⟩
  repeat' apply And.intro
  all_goals rfl
def zce (s:Step) (t:Int):Step:=if s.n.kept.term<t then ⟨{(recS s (zcZ t 0)).n with lead:=0},(recS s (zcZ t 0)).o⟩ else s
def za9 (s:Step) (t:Int):Step:=⟨{(zce s t).n with role:=1,yes:=[],peers:=[],reads:=[]},{(zce s t).o with lost:=(zce s t).o.lost++s.n.reads.map (·.token)}⟩
theorem zvF (s:Step) (t:Int) (hf:Few 70000 s):FnG Tryz.prog 26 3 (wMi s) [.ptr 2 0,dInt.L.can t] (.tup []) (wMo (za9 s t)):=by
 refine FnG.of_vc (zak (zaa ze2 zad) fun _=>none) Tryz.func26 rfl (by decide) rfl 300 (p:=fun (V:List PE->Prop)=>let v0:=s.n.kept;let v2:=(0:Int);let v3:=decide (t>v0.term);let v4:=Record.mk (1:Int) t v2 (Entry.mk v2 v2 v2 (Config.mk [] []) (ByteArray.mk #[])) v2 (Snap.mk v2 v2 (Config.mk [] []) (ByteArray.mk #[]));True/\True/\(v3=true->(s.o.records.length<=1000000/\v0.entries.length<=1000000/\SmallR v4/\zhi v0 v4/\(1:Int)≠(4:Int)/\True)/\True/\True/\V [PE.a])/\(v3=false->True/\V [PE.b])) (by kernel_rfl) ?_
 simp only [qN0,qN15,qN17,qN18,qN7,qO13,imp_self,implies_true,true_and,and_true,zah,zai]
 obtain ⟨b1,b2,b3,b4,b5⟩:=(hf.sn (by decide)).ls
 have hrl:=hf.reads
 have hll:=hf.lost
 have hpre:s.o.records.length<=1000000/\s.n.kept.entries.length<=1000000/\SmallR (zcZ t 0)/\zhi s.n.kept (zcZ t 0)/\(1:Int)≠4:=⟨(hf.so (by decide)).records,b5,zeq _ _,zf0 _ _ _,by decide⟩
 refine ⟨fun h=>⟨hpre,?_⟩,fun h=>?_⟩
 ·have h:s.n.kept.term<t:=by simpa using h
  obtain ⟨s1,hs1⟩:∃ s1,(⟨{(recS s (zcZ t 0)).n with lead:=0},(recS s (zcZ t 0)).o⟩:Step)=s1:=⟨_,rfl⟩
  have e:za9 s t=⟨{s1.n with role:=1,yes:=[],peers:=[],reads:=[]},{s1.o with lost:=s1.o.lost++s.n.reads.map (·.token)}⟩:=by rw [za9,zce,if_pos h,hs1]
  rw [e]
  refine LoopG.head (zak (zaa ze2 zad) fun _=>none) 0 (A:=Nat) (fun j=>j<=s.n.reads.length) (fun j=>[(28,.int .i64 j),(27,.int .i64 (s.n.reads.length:Int))]) (fun j=>[(2,.cells 87 (wCs [1,31] s1 30 31 32 33 34 35 36 12)),(12,.row 3 [2,30] (.rInts (s1.o.lost++(s.n.reads.take j).map (·.token)))),(37,.dead)]) (fun j=>s.n.reads.length-j) 0 (Nat.zero_le _) (p0:=let v2:=s.n.reads;let v5:=(0:Int);let v6:=recS s (Record.mk (1:Int) t v5 (Entry.mk v5 v5 v5 (Config.mk [] []) (ByteArray.mk #[])) v5 (Snap.mk v5 v5 (Config.mk [] []) (ByteArray.mk #[])));let v7:=v6.o;let v8:=v6.n;v5=(↑(0:Nat):Int)/\(↑(v8.reads.length):Int)=(↑(v2.length):Int)/\qN0 v8 s1.n (v8.commit=s1.n.commit/\v5=s1.n.lead/\v8.elapsed=s1.n.elapsed/\v8.round=s1.n.round/\v7.lost=s1.o.lost++List.map (fun (x:Read)=>x.token) (List.take (0:Nat) v2)/\qN15 v8 v8 (v7.records=v7.records/\v7.messages=v7.messages/\v7.ready=v7.ready/\True))) (by kernel_rfl) ?_ 300 (p:=fun (x:Nat) (V:List PE->Prop)=>let v0:=s1.n;let v3:=s.n.reads;let v5:=(↑x:Int);let v7:=(1:Int);let v9:=(0:Int);let v12:=s1.o.lost++List.map (fun (x:Read)=>x.token) (List.take x v3);let v15:=decide (v5<(↑(v3.length):Int));let v17:=recS s (Record.mk v7 t v9 (Entry.mk v9 v9 v9 (Config.mk [] []) (ByteArray.mk #[])) v9 (Snap.mk v9 v9 (Config.mk [] []) (ByteArray.mk #[])));True/\True/\(v15=true->(v9<=v5/\v5<(↑(v17.n.reads.length):Int)/\x<v17.n.reads.length/\True)/\((v12.length+List.length [Read.token (List.getD v17.n.reads x default)])*(1024:Nat)<=140737488355328/\True)/\True/\V [PE.a])/\(v15=false->True/\v0.id=Node.id (let __src:=v0;Node.mk (Node.id __src) v7 (Node.kept __src) (Node.commit __src) (Node.lead __src) (Node.elapsed __src) [] [] (Node.round __src) [])/\v7=Node.role (let __src:=v0;Node.mk (Node.id __src) v7 (Node.kept __src) (Node.commit __src) (Node.lead __src) (Node.elapsed __src) [] [] (Node.round __src) [])/\qN17 v0 (let __src:=s1.n;Node.mk (Node.id __src) (1:Int) (Node.kept __src) (Node.commit __src) (Node.lead __src) (Node.elapsed __src) [] [] (Node.round __src) []) (v17.n.kept.entries=Kept.entries (Node.kept (let __src:=v0;Node.mk (Node.id __src) v7 (Node.kept __src) (Node.commit __src) (Node.lead __src) (Node.elapsed __src) [] [] (Node.round __src) []))/\Node.yes (let __src:=v0;Node.mk (Node.id __src) v7 (Node.kept __src) (Node.commit __src) (Node.lead __src) (Node.elapsed __src) [] [] (Node.round __src) [])=[]/\Node.peers (let __src:=v0;Node.mk (Node.id __src) v7 (Node.kept __src) (Node.commit __src) (Node.lead __src) (Node.elapsed __src) [] [] (Node.round __src) [])=[]/\Node.reads (let __src:=v0;Node.mk (Node.id __src) v7 (Node.kept __src) (Node.commit __src) (Node.lead __src) (Node.elapsed __src) [] [] (Node.round __src) [])=[]/\qO13 v17.o (let __src:=s1.o;Out.mk (Out.records __src) (Out.messages __src) (Out.ready __src) (s1.o.lost++List.map (fun (x:Read)=>x.token) s.n.reads)) (v12=Out.lost (let __src:=s1.o;Out.mk (Out.records __src) (Out.messages __src) (Out.ready __src) (s1.o.lost++List.map (fun (x:Read)=>x.token) v3))/\True)))) (by intro x;kernel_rfl) ?_
  ·subst hs1
   repeat' apply And.intro
   all_goals first | rfl | (simp;done) | (simp;rfl)
  rintro j hj
  subst hs1
  simp only [qN0,qN15,qN17,qN18,qN7,qO13,imp_self,implies_true,true_and,and_true,decide_eq_true_eq,decide_eq_false_iff_not]
  have hlt:((recS s (zcZ t 0)).o.lost++(s.n.reads.take j).map (·.token)).length<=75000:=by
   have:(s.n.reads.take j).length<=s.n.reads.length:=by simp only [List.length_take];omega
   simp only [List.length_append,List.length_map]
   have h9:(recS s (zcZ t 0)).o.lost.length<=70000:=hll
   omega
  refine ⟨fun h6=>⟨⟨by omega,h6,by show j<s.n.reads.length;omega⟩,Nat.le_trans (Nat.mul_le_mul_right _ (Nat.add_le_add_right hlt 1)) (by decide),?_⟩,fun h6=>?_⟩
  ·refine Back.mk (j+1) (by omega) (by omega) (p0:=let v0:=s.n.reads;let v1:=(0:Int);let v2:=(↑(v0.length):Int);let v3:=recS s (zcZ t v1);let v4:=v3.n;let v11:=v3.o.lost;let v21:=recS s (Record.mk (1:Int) t v1 (Entry.mk v1 v1 v1 (Config.mk [] []) (ByteArray.mk #[])) v1 (Snap.mk v1 v1 (Config.mk [] []) (ByteArray.mk #[])));IntKind.wrap IntKind.i64 ((↑j:Int)+(1:Int))=(↑(j+(1:Nat)):Int)/\v2=v2/\qN0 v4 v4 (v4.commit=v4.commit/\v1=v1/\v4.elapsed=v4.elapsed/\v4.round=v4.round/\v11++List.map (fun (x:Read)=>x.token) (List.take j v0)++[Read.token (List.getD v21.n.reads j default)]=v11++List.map (fun (x:Read)=>x.token) (List.take (j+(1:Nat)) v0)/\qN15 v21.n v21.n (v21.o.records=v21.o.records/\v21.o.messages=v21.o.messages/\v21.o.ready=v21.o.ready/\True))) (by kernel_rfl) ?_
   have e1:=zaL (l:=s.n.reads) (d:=(default:Read)) (i:=j) (by omega)
   simp only [qN0,qN15,qN17,qN18,qN7,qO13,zbN (i:=j) (by omega),e1,List.map_append,List.map_cons,List.map_nil,List.append_assoc,true_and,and_true]
   first | exact ⟨by omega,rfl⟩ | omega
  ·obtain rfl:j=s.n.reads.length:=by omega
   rw [List.take_length]
   repeat' apply And.intro
   all_goals rfl
 ·have h:¬ s.n.kept.term<t:=by simpa using h
  have e:za9 s t=⟨{s.n with role:=1,yes:=[],peers:=[],reads:=[]},{s.o with lost:=s.o.lost++s.n.reads.map (·.token)}⟩:=by rw [za9,zce,if_neg h]
  rw [e]
  refine LoopG.head (zak (zaa ze2 zad) fun _=>none) 0 (A:=Nat) (fun j=>j<=s.n.reads.length) (fun j=>[(28,.int .i64 j),(27,.int .i64 (s.n.reads.length:Int))]) (fun j=>[(2,.cells 87 (wCs [1] s 3 4 5 6 7 8 9 12)),(12,.row 3 [2] (.rInts (s.o.lost++(s.n.reads.take j).map (·.token)))),(10,.dead)]) (fun j=>s.n.reads.length-j) 0 (Nat.zero_le _) (p0:=let v26:=(↑(s.n.reads.length):Int);(0:Int)=(↑(0:Nat):Int)/\v26=v26/\qN0 s.n s.n (qN7 s.n s.n (s.o.lost=s.o.lost++List.map (fun (x:Read)=>x.token) (List.take (0:Nat) s.n.reads)/\qN15 s.n s.n (s.o.records=s.o.records/\s.o.messages=s.o.messages/\s.o.ready=s.o.ready/\True)))) (by kernel_rfl) ?_ 300 (p:=fun (x:Nat) (V:List PE->Prop)=>let v3:=s.n.reads;let v5:=(↑x:Int);let v8:=(1:Int);let v9:=v3.length;let v12:=s.o.lost++List.map (fun (x:Read)=>x.token) (List.take x v3);let v15:=decide (v5<(↑v9:Int));True/\True/\(v15=true->((0:Int)<=v5/\v5<(↑v9:Int)/\x<v9/\True)/\((v12.length+List.length [Read.token (List.getD v3 x default)])*(1024:Nat)<=140737488355328/\True)/\True/\V [PE.a])/\(v15=false->True/\s.n.id=Node.id (let __src:=s.n;Node.mk (Node.id __src) v8 (Node.kept __src) (Node.commit __src) (Node.lead __src) (Node.elapsed __src) [] [] (Node.round __src) [])/\v8=Node.role (let __src:=s.n;Node.mk (Node.id __src) v8 (Node.kept __src) (Node.commit __src) (Node.lead __src) (Node.elapsed __src) [] [] (Node.round __src) [])/\qN18 s.n (let __src:=s.n;Node.mk (Node.id __src) (1:Int) (Node.kept __src) (Node.commit __src) (Node.lead __src) (Node.elapsed __src) [] [] (Node.round __src) []) (Node.yes (let __src:=s.n;Node.mk (Node.id __src) v8 (Node.kept __src) (Node.commit __src) (Node.lead __src) (Node.elapsed __src) [] [] (Node.round __src) [])=[]/\Node.peers (let __src:=s.n;Node.mk (Node.id __src) v8 (Node.kept __src) (Node.commit __src) (Node.lead __src) (Node.elapsed __src) [] [] (Node.round __src) [])=[]/\Node.reads (let __src:=s.n;Node.mk (Node.id __src) v8 (Node.kept __src) (Node.commit __src) (Node.lead __src) (Node.elapsed __src) [] [] (Node.round __src) [])=[]/\qO13 s.o (let __src:=s.o;Out.mk (Out.records __src) (Out.messages __src) (Out.ready __src) (s.o.lost++List.map (fun (x:Read)=>x.token) s.n.reads)) (v12=Out.lost (let __src:=s.o;Out.mk (Out.records __src) (Out.messages __src) (Out.ready __src) (s.o.lost++List.map (fun (x:Read)=>x.token) v3))/\True)))) (by intro x;kernel_rfl) ?_
  ·repeat' apply And.intro
   all_goals first | rfl | (simp;done) | (simp;rfl)
  rintro j hj
  simp only [qN0,qN15,qN17,qN18,qN7,qO13,imp_self,implies_true,true_and,and_true,decide_eq_true_eq,decide_eq_false_iff_not]
  have hlt:(s.o.lost++(s.n.reads.take j).map (·.token)).length<=75000:=by
   have:(s.n.reads.take j).length<=s.n.reads.length:=by simp only [List.length_take];omega
   simp only [List.length_append,List.length_map]
   have h9:s.o.lost.length<=70000:=hll
   omega
  refine ⟨fun h6=>⟨⟨by omega,h6,by show j<s.n.reads.length;omega⟩,Nat.le_trans (Nat.mul_le_mul_right _ (Nat.add_le_add_right hlt 1)) (by decide),?_⟩,fun h6=>?_⟩
  ·refine Back.mk (j+1) (by omega) (by omega) (p0:=let v14:=s.n.reads;let v26:=(↑(v14.length):Int);IntKind.wrap IntKind.i64 ((↑j:Int)+(1:Int))=(↑(j+(1:Nat)):Int)/\v26=v26/\qN0 s.n s.n (qN7 s.n s.n (s.o.lost++List.map (fun (x:Read)=>x.token) (List.take j v14)++[Read.token (List.getD v14 j default)]=s.o.lost++List.map (fun (x:Read)=>x.token) (List.take (j+(1:Nat)) v14)/\qN15 s.n s.n (s.o.records=s.o.records/\s.o.messages=s.o.messages/\s.o.ready=s.o.ready/\True)))) (by kernel_rfl) ?_
   have e1:=zaL (l:=s.n.reads) (d:=(default:Read)) (i:=j) (by omega)
   simp only [qN0,qN15,qN17,qN18,qN7,qO13,zbN (i:=j) (by omega),e1,List.map_append,List.map_cons,List.map_nil,List.append_assoc,true_and,and_true]
   first | exact ⟨by omega,rfl⟩ | omega
  ·obtain rfl:j=s.n.reads.length:=by omega
   rw [List.take_length]
   repeat' apply And.intro
   all_goals rfl
def zq7:Ent:=zks 39 3 mW vrW [1] glW fun s=>([Few 70000 s],.tup [],wMo (zbV s))
theorem zkw:zaf Tryz.prog zq7:=zdj (fnB Tryz.func39 (by decide) rfl) fun s h=>zsq s (h _ (by simp))
def zqV:Ent:=zdk 26 3 mW dInt.L vrW [1,0] glW fun s t=>([Few 70000 s],.tup [],wMo (za9 s t))
theorem zfa:zaf Tryz.prog zqV:=zaY (fnB Tryz.func26 (by decide) rfl) fun s t h=>zvF s t (h _ (by simp))
def zgq (s:Step) (m:Message):Bool:=decide (m.term>s.n.kept.term)&&zeM s.n.kept m.index m.logTerm&&(s.n.lead==0||decide (s.n.elapsed>=6))
def zlb (m:Message) (ok:Bool):Message:=⟨2,0,m.from_,if ok then m.term else 0,0,0,[],0,0,ok,zeg,0,0,zs⟩
def zcj (s:Step) (m:Message):Step:=zaR s (zlb m (zgq s m))
theorem zs9 (s:Step) (m:Message) (hf:Few 70000 s):FnG Tryz.prog 27 3 (wMi s) [.ptr 2 0,dMessage.L.can m] (.tup []) (wMo (zcj s m)):=by
 refine FnG.of_vc (zak (zaa zk1 (zaa zeY zad)) fun _=>none) Tryz.func27 rfl (by decide) rfl 300 (p:=fun (V:List PE->Prop)=>let v2:=s.n.kept;let v3:=Step.o (zcj s m);let v4:=Step.n (zcj s m);let v7:=(0:Int);let v10:=s.n.lead==v7;let v11:=decide (m.term>v2.term);let v12:=zac v11 (zeM v2 m.index (Message.logTerm m)) false;let v13:=zac v12 (zac v10 true (decide (s.n.elapsed>=6))) false;let v14:=zat v13 v7 v7;let v15:=if v13=true then ByteArray.mk #[] else ByteArray.mk #[];let v16:=zaR s (Message.mk (zat v13 (2:Int) (2:Int)) v14 (zat v13 m.from_ m.from_) (zat v13 m.term v7) v14 v14 [] v14 v14 (zac v13 true false) (Snap.mk v14 v14 (Config.mk [] []) v15) v14 v14 v15);True/\True/\((v11=true->v11=true)/\(v11=true->v11=true)/\(v11=true->v11=true)/\(v11=true->v11=true)/\(v11=true->v11=true)/\(v11=true->v11=true)/\(v11=true->v11=true)/\(v11=true->v11=true)/\(v11=true->v11=true)/\(v11=true->v2.entries.length<=17592186044416)/\(v11=true->v11=true)/\(v12=true->v12=true)/\(v12=true->v12=true)/\(v12=true->v12=true)/\(v12=true->v12=true)/\(v12=true->v12=true)/\(v12=true->v12=true)/\((v12&&!v10)=true->(v12&&!v10)=true)/\((v12&&!v10)=true->(v12&&!v10)=true)/\((v12&&!v10)=true->(v12&&!v10)=true)/\((v12&&!v10)=true->(v12&&!v10)=true)/\((v12&&!v10)=true->(v12&&!v10)=true)/\(v12=true->v12=true)/\(v12=true->v10=false->(v12&&!v10)=true)/\(v12=true->v12=true)/\True)/\True/\(s.o.messages.length<=1000000/\True)/\qN0 v16.n v4 (qN3 v16.n v4 (qO13 v16.o v3 (v16.o.lost=v3.lost/\True)))) (by kernel_rfl) ?_
 simp only [qN0,qN3,qO13,imp_self,implies_true,true_and,and_true,zah,zai]
 refine ⟨⟨fun h=>(hf.sn (by decide)).ls.1,fun h1 h2=>by rw [h1,h2];rfl⟩,(hf.so (by decide)).messages,?_⟩
 obtain ⟨b,hb⟩:∃ b,zgq s m=b:=⟨_,rfl⟩
 rw [zcj,hb]
 unfold zgq at hb
 simp only [hb,zbC,zcs]
 cases b<;>(repeat' apply And.intro)<;>rfl
def zu3:Ent:=zdk 27 3 mW dMessage.L vrW [1,0] glW fun s m=>([Few 70000 s],.tup [],wMo (zcj s m))
theorem zqG:zaf Tryz.prog zu3:=zaY (fnB Tryz.func27 (by decide) rfl) fun s m h=>zs9 s m (h _ (by simp))
def zfZ (s:Step) (m:Message) (role term:Int):Bool:=s.n.role==role&&m.ok&&m.term==term
def yesS (s:Step) (m:Message):Step:=⟨{s.n with yes:=zcn s.n.yes m.from_},s.o⟩
def yesR (s:Step) (m:Message) (role term:Int):Step:=if zfZ s m role term then yesS s m else s
def yesB (s:Step) (m:Message) (role term:Int):Bool:=zfZ s m role term&&zaU (yesS s m).n
theorem zjn (l:List Int) (v:Int):(zcn l v).length<=16:=by
 unfold zcn
 split
 ·split
  ·assumption
  ·simp
 ·simp
theorem zwF (s:Step) (m:Message) (role term:Int) (hf:Few 70000 s):FnG Tryz.prog 67 3 (wMi s) [.ptr 2 0,dMessage.L.can m,dInt.L.can role,dInt.L.can term] (.bool (yesB s m role term)) (wMo (yesR s m role term)):=by
 refine FnG.of_vc (zak (zaa zhO (zaa ziK zad)) fun _=>none) Tryz.func67 rfl (by decide) rfl 300 (p:=fun (V:List PE->Prop)=>let v0:=s.n;let v9:=v0.reads;let v19:=yesR s m role term;let v20:=yesB s m role term;let v23:=zcn v0.yes m.from_;let v29:=v0.role != role;let v30:=zac v29 true !m.ok;let v31:=zac v30 true (m.term != term);let v32:=Node.mk v0.id v0.role v0.kept v0.commit v0.lead v0.elapsed v23 v0.peers v0.round v9;True/\(((!v29)=true->(!v29)=true)/\((!v29)=true->(!v29)=true)/\(v29=false->(!v29)=true)/\((!v30)=true->(!v30)=true)/\((!v30)=true->(!v30)=true)/\((!v30)=true->(!v30)=true)/\(v30=false->(!v30)=true)/\True)/\True/\(v31=true->True/\false=v20/\qN0 v0 v19.n (qN3 v0 v19.n (qO13 s.o v19.o (s.o.lost=v19.o.lost/\True))))/\(v31=false->(v0.yes.length<=17592186044416/\v0.yes.length<=1000000/\True)/\(v0.kept.entries.length<=17592186044416/\v23.length<=17592186044416/\v0.peers.length<=17592186044416/\v9.length<=17592186044416/\s.o.records.length<=17592186044416/\s.o.messages.length<=17592186044416/\s.o.ready.length<=17592186044416/\s.o.lost.length<=17592186044416/\SmallN v32/\True)/\zaU v32=v20/\qN0 v0 v19.n (qN19 v0 v19.n (v23=v19.n.yes/\v0.peers=v19.n.peers/\v9=v19.n.reads/\qO13 s.o v19.o (s.o.lost=v19.o.lost/\True))))) (by kernel_rfl) ?_
 simp only [qN0,qN19,qN3,qO13,imp_self,implies_true,true_and,and_true,zah,zai]
 refine ⟨⟨fun h=>by rw [h];rfl,fun h=>by rw [h];rfl⟩,fun h=>?_,fun h=>?_⟩
 ·have ho:zfZ s m role term=false:=by
   unfold zfZ
   revert h
   simp only [bne]
   cases (s.n.role==role)<;>cases m.ok<;>cases (m.term==term)<;>simp
  have e:yesR s m role term=s:=by rw [yesR,ho];rfl
  rw [e,yesB,ho]
  repeat' apply And.intro
  all_goals rfl
 ·have ho:zfZ s m role term=true:=by
   unfold zfZ
   revert h
   simp only [bne]
   cases (s.n.role==role)<;>cases m.ok<;>cases (m.term==term)<;>simp
  have e:yesR s m role term=yesS s m:=by rw [yesR,ho];rfl
  rw [e,yesB,ho]
  obtain ⟨b1,b2,b3,b4,b5⟩:=(hf.sn (by decide)).ls
  obtain ⟨c1,c2,c3,c4⟩:=(hf.so (by decide)).ls
  have hy:=hf.yes
  have hw:=zjn s.n.yes m.from_
  refine ⟨⟨by omega,by omega⟩,⟨b1,by omega,b3,b4,c1,c2,c3,c4,⟨(hf.sn (by decide)).k,by show (zcn s.n.yes m.from_).length<=_;omega,(hf.sn (by decide)).peers,(hf.sn (by decide)).reads⟩⟩,?_⟩
  repeat' apply And.intro
  all_goals rfl
def LogG (k:Kept):Prop:=onC k=true/\k.snap.index+k.entries.length<=900001000/\k.entries.length<10000
def TermG (k:Kept):Prop:=0<=k.term/\k.term<=900000001
theorem Few.yesS {B:Nat} {s:Step} (m:Message) (h:Few B s) (hb:16<=B):Few B (yesS s m):=⟨h.entries,h.ec,h.sc,Nat.le_trans (zjn _ _) hb,h.peers,h.reads,h.records,h.messages,h.ready,h.lost⟩
theorem Few.yr {B:Nat} {s:Step} {m:Message} {role term:Int} (h:Few B s) (hb:16<=B):Few B (yesR s m role term):=by
 unfold yesR
 split
 ·exact h.yesS m hb
 ·exact h
theorem Few.fl1 {B:Nat} {s:Step} (t:Int) (h:Few B s):Few (B+1) (zce s t):=by
 unfold zce
 split
 ·have:=h.vote t 0
  exact ⟨this.entries,this.ec,this.sc,this.yes,this.peers,this.reads,this.records,this.messages,this.ready,this.lost⟩
 ·exact h.mono (Nat.le_succ _)
theorem Few.fall {B:Nat} {s:Step} (t:Int) (h:Few B s):Few (B+5001) (za9 s t):=by
 have h1:=h.fl1 t
 have h2:=h.reads
 have h3:=h1.lost
 have g:=h1.mono (show B+1<=B+5001 by omega)
 exact ⟨g.entries,g.ec,g.sc,Nat.zero_le _,Nat.zero_le _,Nat.zero_le _,g.records,g.messages,g.ready,by show (_++_:List Int).length<=_;simp only [List.length_append,List.length_map];omega⟩
def eYes:Ent:=ztm 67 3 mW dMessage.L dInt.L dInt.L vrW [1,0,0,0] glW fun s m r t=>([Few 70000 s],.bool (yesB s m r t),wMo (yesR s m r t))
theorem zvN:zaf Tryz.prog eYes:=ziI (fnB Tryz.func67 (by decide) rfl) fun s m r t h=>zwF s m r t (h _ (by simp))
def tabBd:List Ent:=[eYes,zq7,zvR]
theorem zmg:∀ e∈tabBd,zaf Tryz.prog e:=zaa zvN (zaa zkw (zaa zmH zad))
def zaF (s:Step) (m:Message):Step:=if yesB s m 2 (IntKind.i64.wrap (s.n.kept.term+1)) then zbV (yesR s m 2 (IntKind.i64.wrap (s.n.kept.term+1))) else yesR s m 2 (IntKind.i64.wrap (s.n.kept.term+1))
theorem zpe (s:Step) (m:Message) (hf:Few 60000 s):FnG Tryz.prog 28 3 (wMi s) [.ptr 2 0,dMessage.L.can m] (.tup []) (wMo (zaF s m)):=by
 refine FnG.of_vc (zak zmg fun _=>none) Tryz.func28 rfl (by decide) rfl 300 (p:=fun (V:List PE->Prop)=>let v0:=Step.o (zaF s m);let v1:=Step.n (zaF s m);let v26:=IntKind.wrap IntKind.i64 (s.n.kept.term+(1:Int));let v27:=yesB s m (2:Int) v26;let v28:=yesR s m (2:Int) v26;let v30:=zbV v28;True/\(Few 70000 s/\True)/\True/\(v27=true->(Few 70000 v28/\True)/\qN0 v30.n v1 (qN3 v30.n v1 (qO13 v30.o v0 (v30.o.lost=v0.lost/\True))))/\(v27=false->qN0 v28.n v1 (qN3 v28.n v1 (qO13 v28.o v0 (v28.o.lost=v0.lost/\True))))) (by kernel_rfl) ?_
 simp only [qN0,qN3,qO13,imp_self,implies_true,true_and,and_true,zah,zai]
 have k1:=Few.yr (m:=m) (role:=2) (term:=IntKind.i64.wrap (s.n.kept.term+1)) hf (by decide)
 refine ⟨hf.mono (by decide),fun h=>?_,fun h=>?_⟩
 ·rw [zaF,if_pos h]
  refine ⟨k1.mono (by decide),?_⟩
  repeat' apply And.intro
  all_goals rfl
 ·rw [zaF,if_neg (by rw [h];decide)]
  repeat' apply And.intro
  all_goals rfl
def zlw:Ent:=zdk 28 3 mW dMessage.L vrW [1,0] glW fun s m=>([Few 60000 s],.tup [],wMo (zaF s m))
theorem zhL:zaf Tryz.prog zlw:=zaY (fnB Tryz.func28 (by decide) rfl) fun s m h=>zpe s m (h _ (by simp))
def zbb (s:Step) (m:Message):Step:=if yesB s m 3 s.n.kept.term then zeF (yesR s m 3 s.n.kept.term) else yesR s m 3 s.n.kept.term
theorem zrI (s:Step) (m:Message) (hf:Few 60000 s):FnG Tryz.prog 30 3 (wMi s) [.ptr 2 0,dMessage.L.can m] (.tup []) (wMo (zbb s m)):=by
 refine FnG.of_vc (zak zmg fun _=>none) Tryz.func30 rfl (by decide) rfl 300 (p:=fun (V:List PE->Prop)=>let v0:=Step.o (zbb s m);let v1:=s.n.kept.term;let v2:=Step.n (zbb s m);let v27:=yesB s m (3:Int) v1;let v28:=yesR s m (3:Int) v1;let v31:=zeF v28;True/\(Few 70000 s/\True)/\True/\(v27=true->(Few 80000 v28/\True)/\qN0 v31.n v2 (qN3 v31.n v2 (qO13 v31.o v0 (v31.o.lost=v0.lost/\True))))/\(v27=false->qN0 v28.n v2 (qN3 v28.n v2 (qO13 v28.o v0 (v28.o.lost=v0.lost/\True))))) (by kernel_rfl) ?_
 simp only [qN0,qN3,qO13,imp_self,implies_true,true_and,and_true,zah,zai]
 have k1:=Few.yr (m:=m) (role:=3) (term:=s.n.kept.term) hf (by decide)
 refine ⟨hf.mono (by decide),fun h=>?_,fun h=>?_⟩
 ·rw [zbb,if_pos h]
  refine ⟨k1.mono (by decide),?_⟩
  repeat' apply And.intro
  all_goals rfl
 ·rw [zbb,if_neg (by rw [h];decide)]
  repeat' apply And.intro
  all_goals rfl
def zq4:Ent:=zdk 30 3 mW dMessage.L vrW [1,0] glW fun s m=>([Few 60000 s],.tup [],wMo (zbb s m))
theorem zku:zaf Tryz.prog zq4:=zaY (fnB Tryz.func30 (by decide) rfl) fun s m h=>zrI s m (h _ (by simp))
def zf4 (s:Step) (m:Message):Bool:=m.term==s.n.kept.term&&(s.n.kept.vote==0||s.n.kept.vote==m.from_)&&zeM s.n.kept m.index m.logTerm
def zjp (m:Message) (ok:Bool):Message:=⟨4,0,m.from_,0,0,0,[],0,0,ok,zeg,0,0,zs⟩
def ze7 (s:Step) (m:Message):Step:=if zf4 s m then ⟨{s.n with elapsed:=0},s.o⟩ else s
def zep (s:Step) (m:Message):Step:=if zf4 s m&&s.n.kept.vote==0 then recS (ze7 s m) (zcZ s.n.kept.term m.from_) else ze7 s m
def zc6 (s:Step) (m:Message):Step:=zaR (zep s m) (zjp m (zf4 s m))
theorem zuR (s:Step) (m:Message) (hf:Few 60000 s):FnG Tryz.prog 29 3 (wMi s) [.ptr 2 0,dMessage.L.can m] (.tup []) (wMo (zc6 s m)):=by
 refine FnG.of_vc (zak (zaa zk1 (zaa ze2 (zaa zeY zad))) fun _=>none) Tryz.func29 rfl (by decide) rfl 300 (p:=fun (V:List PE->Prop)=>let v0:=s.n;let v6:=v0.kept;let v8:=Step.n (zc6 s m);let v9:=v6.vote;let v10:=v6.snap;let v11:=Step.o (zc6 s m);let v12:=v6.entries;let v15:=v10.config;let v22:=ByteArray.mk #[];let v33:=(0:Int);let v47:=m.term==v6.term;let v48:=v9==v33;let v49:=Snap.mk v33 v33 (Config.mk [] []) v22;let v50:=zac v47 (zac v48 true (v9==m.from_)) false;let v51:=zac v50 (zeM v6 m.index (Message.logTerm m)) false;let v52:=zat v51 v6.term v6.term;let v53:=zat v51 v9 v9;let v54:=Record.mk (1:Int) v52 m.from_ (Entry.mk v33 v33 v33 (Config.mk [] []) v22) v33 v49;let v55:=zac v51 (v53==v33) false;let v56:=Message.mk (4:Int) v33 m.from_ v33 v33 v33 [] v33 v33 v51 v49 v33 v33 v22;let v57:=Kept.mk v52 v53 (Snap.mk (zat v51 v10.index v10.index) (zat v51 v10.term v10.term) (Config.mk (if v51=true then v15.voters else v15.voters) (if v51=true then v15.learners else v15.learners)) (if v51=true then v10.data else v10.data)) v12;let v58:=Step.mk (Node.mk (zat v51 v0.id v0.id) (zat v51 v0.role v0.role) v57 (zat v51 v0.commit v0.commit) (zat v51 v0.lead v0.lead) (zat v51 v33 v0.elapsed) v0.yes v0.peers (zat v51 v0.round v0.round) v0.reads) s.o;let v59:=recS v58 v54;let v60:=zaR v58 v56;let v66:=zaR v59 v56;True/\((v47=true->v47=true)/\(v47=true->v47=true)/\(v47=true->v47=true)/\(v47=true->v47=true)/\(v47=true->v47=true)/\(v47=true->v47=true)/\(v47=true->v47=true)/\((v47&&!v48)=true->(v47&&!v48)=true)/\((v47&&!v48)=true->(v47&&!v48)=true)/\((v47&&!v48)=true->(v47&&!v48)=true)/\((v47&&!v48)=true->(v47&&!v48)=true)/\((v47&&!v48)=true->(v47&&!v48)=true)/\((v47&&!v48)=true->(v47&&!v48)=true)/\((v47&&!v48)=true->(v47&&!v48)=true)/\((v47&&!v48)=true->(v47&&!v48)=true)/\(v47=true->v47=true)/\(v47=true->v48=false->(v47&&!v48)=true)/\(v47=true->v47=true)/\(v50=true->v50=true)/\(v50=true->v50=true)/\(v50=true->v50=true)/\(v50=true->v50=true)/\(v50=true->v50=true)/\(v50=true->v50=true)/\(v50=true->v50=true)/\(v50=true->v50=true)/\(v50=true->v50=true)/\(v50=true->v12.length<=17592186044416)/\(v50=true->v50=true)/\True)/\True/\True/\((v51=true->v51=true)/\(v51=true->v51=true)/\(v51=true->v51=true)/\(v51=true->v51=true)/\(v51=true->v51=true)/\(v51=true->v51=true)/\(v51=true->v51=true)/\True)/\True/\(v55=true->(s.o.records.length<=1000000/\v12.length<=1000000/\SmallR v54/\zhi v57 v54/\(1:Int)≠(4:Int)/\True)/\(v59.o.messages.length<=1000000/\True)/\qN0 v66.n v8 (qN3 v66.n v8 (qO13 v66.o v11 (v66.o.lost=v11.lost/\True))))/\(v55=false->(s.o.messages.length<=1000000/\True)/\qN0 v60.n v8 (qN3 v60.n v8 (qO13 v60.o v11 (v60.o.lost=v11.lost/\True))))) (by kernel_rfl) ?_
 simp only [qN0,qN3,qO13,imp_self,implies_true,true_and,and_true,zah,zai]
 obtain ⟨b,hb⟩:∃ b,zf4 s m=b:=⟨_,rfl⟩
 have hb2:=hb
 unfold zf4 at hb2
 simp only [hb2,zbC,zcs]
 refine ⟨⟨fun h1 h2=>by rw [h1,h2];rfl,fun _=>(hf.sn (by decide)).ls.1⟩,fun h=>?_,fun h=>?_⟩
 ·have h:b=true/\(s.n.kept.vote==0)=true:=by simpa using h
  obtain ⟨rfl,h2⟩:=h
  have e:zc6 s m=zaR (recS ⟨{s.n with elapsed:=0},s.o⟩ (zcZ s.n.kept.term m.from_)) (zjp m true):=by
   rw [zc6,zep,ze7,hb,h2];rfl
  rw [e]
  refine ⟨⟨(hf.so (by decide)).records,(hf.sn (by decide)).ls.2.2.2.2,zeq _ _,zf0 _ _ _,by decide⟩,(hf.so (by decide)).messages,?_⟩
  repeat' apply And.intro
  all_goals rfl
 ·have h:b=true->(s.n.kept.vote==0)=false:=fun hb=>by rw [hb] at h;simpa using h
  have e:zc6 s m=zaR (if b then ⟨{s.n with elapsed:=0},s.o⟩ else s) (zjp m b):=by
   rw [zc6,zep,ze7,hb]
   cases b
   ·rfl
   ·rw [h rfl];rfl
  rw [e]
  refine ⟨(hf.so (by decide)).messages,?_⟩
  cases b<;>(repeat' apply And.intro)<;>rfl
def zxz:Ent:=zdk 29 3 mW dMessage.L vrW [1,0] glW fun s m=>([Few 60000 s],.tup [],wMo (zc6 s m))
theorem zto:zaf Tryz.prog zxz:=zaY (fnB Tryz.func29 (by decide) rfl) fun s m h=>zuR s m (h _ (by simp))
def za2 (s:Step) (m:Message):Bool:=!decide (m.term<s.n.kept.term)&&s.n.role != 4
def zab (s:Step) (m:Message):Step:=
 if m.term<s.n.kept.term then zaR s (zbT m false 0)
 else if s.n.role=4 then s
 else ⟨{(za9 s s.n.kept.term).n with lead:=m.from_,elapsed:=0},(za9 s s.n.kept.term).o⟩
theorem zqr (s:Step) (m:Message) (hf:Few 60000 s):FnG Tryz.prog 69 3 (wMi s) [.ptr 2 0,dMessage.L.can m] (.bool (za2 s m)) (wMo (zab s m)):=by
 refine FnG.of_vc (zak (zaa ziV (zaa zfa zad)) fun _=>none) Tryz.func69 rfl (by decide) rfl 300 (p:=fun (V:List PE->Prop)=>let v6:=Step.o (zab s m);let v7:=Step.n (zab s m);let v25:=za9 s s.n.kept.term;let v39:=zaR s (zbT m false (0:Int));let v45:=s.n.role==4;let v47:=decide (m.term<s.n.kept.term);True/\True/\True/\(v47=true->(s.o.messages.length<=1000000/\True)/\True/\false=za2 s m/\qN0 v39.n v7 (qN3 v39.n v7 (qO13 v39.o v6 (v39.o.lost=v6.lost/\True))))/\(v47=false->True/\True/\(v45=true->True/\false=za2 s m/\qN0 s.n v7 (qN3 s.n v7 (qO13 s.o v6 (s.o.lost=v6.lost/\True))))/\(v45=false->(Few 70000 s/\True)/\True/\True/\true=za2 s m/\qN0 v25.n v7 (v25.n.commit=v7.commit/\m.from_=v7.lead/\(0:Int)=v7.elapsed/\qN20 v25.n v7 (qO13 v25.o v6 (v25.o.lost=v6.lost/\True)))))) (by kernel_rfl) ?_
 simp only [qN0,qN20,qN3,qO13,imp_self,implies_true,true_and,and_true,zah,zai]
 refine ⟨fun h=>?_,fun h=>⟨fun h2=>?_,fun h2=>?_⟩⟩
 ·have h':m.term<s.n.kept.term:=by simpa using h
  have e:zab s m=zaR s (zbT m false 0):=by rw [zab,if_pos h']
  have e2:za2 s m=false:=by rw [za2,h];rfl
  rw [e,e2]
  refine ⟨(hf.so (by decide)).messages,?_⟩
  repeat' apply And.intro
  all_goals rfl
 ·have h':¬ m.term<s.n.kept.term:=by simpa using h
  have h2':s.n.role=4:=by simpa using h2
  have e:zab s m=s:=by rw [zab,if_neg h',if_pos h2']
  have e2:za2 s m=false:=by rw [za2,h,h2'];rfl
  rw [e,e2]
  repeat' apply And.intro
  all_goals rfl
 ·have h':¬ m.term<s.n.kept.term:=by simpa using h
  have h2':¬ s.n.role=4:=by simpa using h2
  have e:zab s m=⟨{(za9 s s.n.kept.term).n with lead:=m.from_,elapsed:=0},(za9 s s.n.kept.term).o⟩:=by rw [zab,if_neg h',if_neg h2']
  have e2:za2 s m=true:=by rw [za2,h];simp [h2']
  rw [e,e2]
  refine ⟨hf.mono (by decide),?_⟩
  repeat' apply And.intro
  all_goals rfl
def ziQ:Ent:=zdk 69 3 mW dMessage.L vrW [1,0] glW fun s m=>([Few 60000 s],.bool (za2 s m),wMo (zab s m))
theorem zfy:zaf Tryz.prog ziQ:=zaY (fnB Tryz.func69 (by decide) rfl) fun s m h=>zqr s m (h _ (by simp))
def outZ:Out:=⟨[],[],[],[]⟩
def zag (n:Node):Step:=⟨n,outZ⟩
def zf1 (n:Node):List BE:=[.dead,.dead,.cells 87 (n.osvs [1] 3 4 5 6++[.nil,.nil,.nil,.nil]),.row 71 [1] (.rEntry n.kept.entries),.row 3 [] (.rInts n.yes),.row 102 [] (.rPeer n.peers),.row 123 [] (.rRead n.reads)]
def tabE2:List Ent:=[ziU,zvT]
theorem zme:∀ e∈tabE2,zaf Tryz.prog e:=zaa zgN (zaa zmI zad)
theorem zr4 (n:Node) (hn:SmallN n) (hr:zan n=false):FnC Tryz.prog 22 [dNode.can n] (.tup [.any,.int .i64 1]) D2:=by
 refine FnG.of_vc (zak zme fun _=>none) Tryz.func22 rfl (by decide) rfl 300 (p:=fun (V:List PE->Prop)=>let v0:=errC n != 0;True/\(SmallN n/\True)/\True/\True/\(v0=true->True/\errC n=1/\True)/\(v0=false->(SmallN n/\True)/\(0:Int)=1/\True)) (by kernel_rfl) ?_
 simp only [imp_self,implies_true,true_and,and_true,zah,zai]
 refine ⟨hn,fun h=>?_,fun h=>?_⟩
 ·rw [errC,hr];rfl
 ·rw [errC,hr] at h;exact absurd h (by decide)
theorem zr3 (n:Node) (hn:SmallN n) (hr:zan n=true):FnC Tryz.prog 22 [dNode.can n] (.tup [.ptr 2 0,.int .i64 0]) (zf1 n):=by
 refine FnG.of_vc (zak zme fun _=>none) Tryz.func22 rfl (by decide) rfl 300 (p:=fun (V:List PE->Prop)=>let v11:=errC n != 0;True/\(SmallN n/\True)/\True/\True/\(v11=true->True/\False)/\(v11=false->(SmallN n/\True)/\(0:Int)=0/\qN0 n n (qN1 n n (n.reads=n.reads/\True)))) (by kernel_rfl) ?_
 simp only [qN0,qN1,imp_self,implies_true,true_and,and_true,zah,zai]
 refine ⟨hn,fun h=>?_,fun h=>?_⟩
 ·rw [errC,hr] at h;exact absurd h (by decide)
 exact hn
abbrev D11:List BE:=[.dead,.dead,.dead,.dead,.dead,.dead,.dead,.dead,.dead,.dead,.dead]
abbrev D10:List BE:=[.dead,.dead,.dead,.dead,.dead,.dead,.dead,.dead,.dead,.dead]
def endO (s:Step):SV:= .tup [.agg (s.n.svs [1,4]),.agg (s.o.svs [2,3]),.int .i64 0]
theorem zxx (s:Step) (hn:SmallN s.n) (ho:SmallO s.o):FnG Tryz.prog 25 3 (wMi s) [.ptr 2 0] (endO s) D11:=by
 refine FnG.of_vc (zak zad fun _=>none) Tryz.func25 rfl (by decide) rfl 300 (p:=fun (V:List PE->Prop)=>True/\True/\qN0 s.n s.n (qN21 s.n s.n (qO22 s.o s.o ((0:Int)=0/\True)))) (by kernel_rfl) ?_
 simp only [qN0,qN21,qO22,imp_self,implies_true,true_and,and_true,zah,zai]
 obtain ⟨b1,b2,b3,b4,b5⟩:=hn.ls
 obtain ⟨c1,c2,c3,c4⟩:=ho.ls
 exact ⟨b1,b2,b3,b4,c1,c2,c3,c4⟩
def eEnd:Ent:=zks 25 3 mW vrW [1] glW fun s=>([SmallN s.n,SmallO s.o],endO s,D11)
theorem zfz:zaf Tryz.prog eEnd:=zdj (fnB Tryz.func25 (by decide) rfl) fun s h=>zxx s (h _ (by simp)) (h _ (by simp))
theorem zvK (s:Step) (hn:SmallN s.n) (ho:SmallO s.o):FnG Tryz.prog 25 3 (sMi 87 s) [.ptr 2 0] (endO s) D10:=by
 refine FnG.of_vc (zak zad fun _=>none) Tryz.func25 rfl (by decide) rfl 300 (p:=fun (V:List PE->Prop)=>True/\True/\qN0 s.n s.n (qN23 s.n s.n (qO22 s.o s.o ((0:Int)=0/\True)))) (by kernel_rfl) ?_
 simp only [qN0,qN23,qO22,imp_self,implies_true,true_and,and_true,zah,zai]
 obtain ⟨b1,b2,b3,b4,b5⟩:=hn.ls
 obtain ⟨c1,c2,c3,c4⟩:=ho.ls
 exact ⟨b2,b3,b4,c1,c2,c3,c4⟩
def zwb:Ent:=zks 25 3 mWS vrS [1] glS fun s=>([SmallN s.n,SmallO s.o],endO s,D10)
theorem zmN:zaf Tryz.prog zwb:=zdj (fnB Tryz.func25 (by decide) rfl) fun s h=>zvK s (h _ (by simp)) (h _ (by simp))
def zxE:Ent:=ent1 22 dNode fun n=>([SmallN n,zan n=false],.tup [.any,.int .i64 1],D2)
theorem zmR:zaf Tryz.prog zxE:=za4 (fnB Tryz.func22 (by decide) rfl) fun n h=>zr4 n (h _ (by simp)) (h _ (by simp))
def zl4:Ent:=ent1 22 dNode fun n=>([SmallN n,zan n=true],.tup [.ptr 2 0,.int .i64 0],zf1 n)
theorem zcD:zaf Tryz.prog zl4:=za4 (fnB Tryz.func22 (by decide) rfl) fun n h=>zr3 n (h _ (by simp)) (h _ (by simp))
abbrev D3d:List BE:=[.dead,.dead,.dead]
def refO (n:Node) (o:Out) (e:Int):SV:= .tup [.agg (n.svs [1]),.agg (o.svs [2]),.int .i64 e]
theorem zhx (e:Int):FnC Tryz.prog 23 [dInt.can e] (refO zeroN outZ e) D3d:=by
 refine FnG.of_vc (zak zad fun _=>none) Tryz.func23 rfl (by decide) rfl 300 (p:=fun (V:List PE->Prop)=>let v0:=zeroN.kept;let v1:=v0.snap;let v3:=(0:Int);True/\True/\v3=zeroN.id/\v3=zeroN.role/\v3=v0.term/\v3=v0.vote/\v3=v1.index/\v3=v1.term/\v1.config.voters=[]/\v1.config.learners=[]/\ByteArray.mk #[]=v1.data/\v0.entries=[]/\v3=zeroN.commit/\v3=zeroN.lead/\v3=zeroN.elapsed/\zeroN.yes=[]/\zeroN.peers=[]/\v3=zeroN.round/\zeroN.reads=[]/\outZ.records=[]/\outZ.messages=[]/\outZ.ready=[]/\outZ.lost=[]/\e=e/\True) (by kernel_rfl) ?_
 simp only [imp_self,implies_true,true_and,and_true,zah,zai]
 repeat' apply And.intro
 all_goals rfl
def zb4:Ent:=ent1 23 dInt fun e=>([],refO zeroN outZ e,D3d)
theorem zaX:zaf Tryz.prog zb4:=za4 (zhx 0).1 fun n h=>zhx n
def tabT0:List Ent:=[zxE,zb4]
theorem zii:∀ e∈tabT0,zaf Tryz.prog e:=zaa zmR (zaa zaX zad)
theorem zrM (n:Node) (hn:SmallN n) (hr:zan n=false):FnC Tryz.prog 12 [dNode.can n] (refO zeroN outZ 1) D3d:=by
 refine FnG.of_vc (zak zii fun _=>none) Tryz.func12 rfl (by decide) rfl 300 (p:=fun (V:List PE->Prop)=>let v14:=(1:Int) != 0;True/\(SmallN n/\zan n=false/\True)/\True/\True/\(v14=true->True/\qN0 zeroN zeroN (qN24 zeroN zeroN (qO25 outZ outZ ((1:Int)=1/\True))))/\(v14=false->False)) (by kernel_rfl) ?_
 simp only [qN0,qN24,qO25,imp_self,implies_true,true_and,and_true,zah,zai]
 exact ⟨⟨hn,hr⟩,fun h=>absurd h (by decide)⟩
noncomputable def tabT1:List Ent:=[zl4,zb4,zrf,ePat,zhQ,zuw,eRun,zq7,zwd,eEnd]
theorem zrP:∀ e∈tabT1,zaf Tryz.prog e:=zaa zcD (zaa zaX (zaa zfT (zaa zvS (zaa zdM (zaa zq3 (zaa zqC (zaa zkw (zaa zmS (zaa zfz zad)))))))))
def elap (n:Node):Int:=if (1000:Int)<IntKind.i64.wrap (n.elapsed+1) then 1000 else IntKind.i64.wrap (n.elapsed+1)
def tick1 (n:Node):Step:=⟨{n with elapsed:=elap n},outZ⟩
def zlV (n:Node):Bool:=hasB (za6 n).voters n.id&&mayC (za6 n)
def zpf (n:Node):Message:=⟨1,0,0,IntKind.i64.wrap (n.kept.term+1),0,0,[],0,0,false,zeg,0,0,zs⟩
def zcM (n:Node):Step:=
 if n.role=4 then (if 2<=elap n then allS ⟨{n with elapsed:=0},outZ⟩ else tick1 n)
 else if elap n<patI n\/zlV n=false then tick1 n
 else if zaU (runS (tick1 n) 2).n then zbV (runS (tick1 n) 2) else askS (runS (tick1 n) 2) (zpf n)
theorem Few.tick1 {B:Nat} {n:Node} (h:Few B (zag n)):Few B (tick1 n):=⟨h.entries,h.ec,h.sc,h.yes,h.peers,h.reads,h.records,h.messages,h.ready,h.lost⟩
theorem zrL (n:Node) (hn:SmallN n) (hr:zan n=true) (hf:Few 50000 (zag n)):FnC Tryz.prog 12 [dNode.can n] (refO (zcM n).n (zcM n).o 0) D3d:=by
 refine FnG.of_vc (zak zrP fun _=>none) Tryz.func12 rfl (by decide) rfl 300 (p:=fun (V:List PE->Prop)=>let v1:=n.kept;let v3:=n.peers;let v6:=n.reads;let v10:=Step.o (zcM n);let v12:=Step.n (zcM n);let v32:=(0:Int);let v33:=(1000:Int);let v44:=Out.mk [] [] [] [];let v45:=n.role==4;let v47:=IntKind.wrap IntKind.i64 (n.elapsed+(1:Int));let v48:=Node.mk n.id n.role v1 n.commit n.lead v32 n.yes v3 n.round v6;let v49:=allS (Step.mk v48 v44);let v55:=if v33<v47 then v33 else v47;let v56:=Node.mk n.id n.role v1 n.commit n.lead v55 n.yes v3 n.round v6;let v58:=za6 v56;let v59:=runS (Step.mk v56 v44) (2:Int);let v60:=zbV v59;let v69:=zac v45 (decide (v55>=2)) false;let v70:=askS v59 (Message.mk (1:Int) v32 v32 (IntKind.wrap IntKind.i64 (v59.n.kept.term+(1:Int))) v32 v32 [] v32 v32 false (Snap.mk v32 v32 (Config.mk [] []) (ByteArray.mk #[])) v32 v32 (ByteArray.mk #[]));let v76:=zac v45 true (decide (v55<(patI v56)));let v77:=zac v76 true !(hasB v58.voters n.id&&mayC v58);True/\(SmallN n/\zan n=true/\True)/\True/\True/\((v32 != v32)=true->True/\qN0 zeroN v12 (qN24 zeroN v12 (qO25 outZ v10 (v32=v32/\True))))/\((v32 != v32)=false->True/\((v45=true->v45=true)/\(v45=true->v45=true)/\(v45=true->v45=true)/\(v45=true->v45=true)/\(v45=true->v45=true)/\(v45=true->v45=true)/\True)/\True/\(v69=true->True/\(SmallN v48/\(0:Nat)+v3.length<=1000000/\True)/\(SmallN v49.n/\SmallO v49.o/\True)/\qN0 v49.n v12 (qN24 v49.n v12 (qO25 v49.o v10 (v32=v32/\True))))/\(v69=false->(((!v45)=true->(!v45)=true)/\((!v45)=true->(!v45)=true)/\((!v45)=true->(!v45)=true)/\((!v45)=true->(!v45)=true)/\((!v45)=true->(!v45)=true)/\((!v45)=true->(!v45)=true)/\((!v45)=true->(!v45)=true)/\((!v45)=true->(!v45)=true)/\((!v45)=true->v1.entries.length<=17592186044416)/\((!v45)=true->n.yes.length<=17592186044416)/\((!v45)=true->v3.length<=17592186044416)/\((!v45)=true->v6.length<=17592186044416)/\((!v45)=true->(!v45)=true)/\((!v45)=true->(!v45)=true)/\(v45=false->(!v45)=true)/\((!v76)=true->(!v76)=true)/\((!v76)=true->(!v76)=true)/\((!v76)=true->(!v76)=true)/\((!v76)=true->(!v76)=true)/\((!v76)=true->v1.entries.length<=17592186044416)/\((!v76)=true->n.yes.length<=17592186044416)/\((!v76)=true->v3.length<=17592186044416)/\((!v76)=true->v6.length<=17592186044416)/\((!v76)=true->SmallN v56)/\((!v76)=true->(!v76)=true)/\((!v76)=true->(!v76)=true)/\((!v76)=true->(!v76)=true)/\((!v76)=true->(!v76)=true)/\((!v76)=true->(!v76)=true)/\((!v76)=true->(!v76)=true)/\((!v76)=true->zaw v58)/\((!v76)=true->(!v76)=true)/\(v76=false->(!v76)=true)/\True)/\True/\(v77=true->(SmallN v56/\SmallO v44/\True)/\qN0 n v12 (qN26 n v12 (v55=v12.elapsed/\qN27 n v12 ([]=v10.records/\[]=v10.messages/\[]=v10.ready/\[]=v10.lost/\v32=v32/\True))))/\(v77=false->(SmallN v56/\SmallO v44/\True)/\True/\((zaU v59.n)=true->(Few 70000 v59/\True)/\(SmallN v60.n/\SmallO v60.o/\True)/\qN0 v60.n v12 (qN24 v60.n v12 (qO25 v60.o v10 (v32=v32/\True))))/\((zaU v59.n)=false->(SmallN v59.n/\SmallO v59.o/\v59.o.messages.length<=900000/\List.length (Config.voters (za6 v59.n))<=4000/\True)/\(SmallN v70.n/\SmallO v70.o/\True)/\qN0 v70.n v12 (qN24 v70.n v12 (qO25 v70.o v10 (v32=v32/\True)))))))) (by kernel_rfl) ?_
 simp only [qN0,qN24,qN26,qN27,qO25,imp_self,implies_true,true_and,and_true,zah,zai,notF]
 refine ⟨⟨hn,hr⟩,fun h=>absurd h (by decide),fun _=>?_⟩
 have k1:=hf.tick1
 obtain ⟨b1,b2,b3,b4,b5⟩:=hn.ls
 have hp:=hf.peers
 refine ⟨fun h=>?_,fun h=>?_⟩
 ·have h:n.role=4/\2<=elap n:=by
   simp only [Bool.and_eq_true,beq_iff_eq,decide_eq_true_eq] at h
   exact h
  have e:zcM n=allS ⟨{n with elapsed:=0},outZ⟩:=by rw [zcM,if_pos h.1,if_pos h.2]
  have k:Few 50000 ⟨{n with elapsed:=0},outZ⟩:=⟨hf.entries,hf.ec,hf.sc,hf.yes,hf.peers,hf.reads,hf.records,hf.messages,hf.ready,hf.lost⟩
  have k2:=k.all
  rw [e]
  refine ⟨⟨k.sn (by decide),by show 0+n.peers.length<=_;have:n.peers.length<=5000:=hp;omega⟩,⟨k2.sn (by decide),k2.so (by decide)⟩,?_⟩
  repeat' apply And.intro
  all_goals rfl
 ·have h0:¬ (n.role=4/\2<=elap n):=by
   simp only [Bool.and_eq_false_iff,beq_eq_false_iff_ne,decide_eq_false_iff_not] at h
   rintro ⟨q1,q2⟩
   exact h.elim (fun h=>h q1) (fun h=>h q2)
  refine ⟨⟨fun _=>b1,fun _=>b2,fun _=>b3,fun _=>b4,fun _=>b1,fun _=>b2,fun _=>b3,fun _=>b4,fun _=>k1.sn (by decide),fun _=>k1.cf.c⟩,fun h=>?_,fun h=>?_⟩
  ·have h:n.role=4\/elap n<patI n\/zlV n=false:=by
    simp only [Bool.or_eq_true,beq_iff_eq,decide_eq_true_eq,Bool.not_eq_true',or_assoc] at h
    exact h
   have e:zcM n=tick1 n:=by
    rw [zcM]
    by_cases hr:n.role=4
    ·rw [if_pos hr,if_neg fun h2=>h0 ⟨hr,h2⟩]
    ·rw [if_neg hr,if_pos (h.resolve_left hr)]
   rw [e]
   refine ⟨⟨k1.sn (by decide),k1.so (by decide)⟩,?_⟩
   repeat' apply And.intro
   all_goals rfl
  ·have h:¬ n.role=4/\¬ (elap n<patI n\/zlV n=false):=by
    simp only [Bool.or_eq_false_iff,beq_eq_false_iff_ne,decide_eq_false_iff_not,Bool.not_eq_false',and_assoc] at h
    refine ⟨h.1,fun h2=>h2.elim h.2.1 fun h3=>?_⟩
    have h4:zlV n=true:=h.2.2
    rw [h3] at h4;cases h4
   have k2:=k1.run 2 (by decide)
   refine ⟨⟨k1.sn (by decide),k1.so (by decide)⟩,fun g=>?_,fun g=>?_⟩
   ·have g:zaU (runS (tick1 n) 2).n=true:=g
    have e:zcM n=zbV (runS (tick1 n) 2):=by rw [zcM,if_neg h.1,if_neg h.2,if_pos g]
    have k3:=k2.stand
    rw [e]
    refine ⟨k2.mono (by decide),⟨k3.sn (by decide),k3.so (by decide)⟩,?_⟩
    repeat' apply And.intro
    all_goals rfl
   ·have g:zaU (runS (tick1 n) 2).n=false:=g
    have e:zcM n=askS (runS (tick1 n) 2) (zpf n):=by rw [zcM,if_neg h.1,if_neg h.2,if_neg (by rw [g];decide)]
    have k3:=Few.ask (zpf n) k2
    rw [e]
    refine ⟨⟨k2.sn (by decide),k2.so (by decide),Nat.le_trans k2.messages (by decide),k2.cf.1⟩,⟨k3.sn (by decide),k3.so (by decide)⟩,?_⟩
    repeat' apply And.intro
    all_goals rfl
def zds (n:Node):Step×Int:=if zan n then (zcM n,0) else (⟨zeroN,outZ⟩,1)
theorem zuS (n:Node) (hf:Few 50000 (zag n)):FnC Tryz.prog 12 [dNode.can n] (refO (zds n).1.n (zds n).1.o (zds n).2) D3d:=by
 unfold zds
 cases hr:zan n
 ·exact zrM n (hf.sn (by decide)) hr
 ·exact zrL n (hf.sn (by decide)) hr hf
def zvP:Ent:=ent1 12 dNode fun n=>([Few 50000 (zag n)],refO (zds n).1.n (zds n).1.o (zds n).2,D3d)
theorem zmG:zaf Tryz.prog zvP:=za4 (fnB Tryz.func12 (by decide) rfl) fun n h=>zuS n (h _ (by simp))
def eNew:Ent:=ent2 9 dInt dKept fun id k=>([zbQ k],.tup [.agg ((newC id k).1.svs [1]),.int .i64 (newC id k).2],D2)
theorem zly:zaf Tryz.prog eNew:=za3 (fnB Tryz.func9 (by decide) rfl) fun id k h=>zxd id k (h _ (by simp))
def zmj:Kept:=⟨1,0,⟨1,1,⟨[1,2,3],[]⟩,zs⟩,[]⟩
def startN:Node:=newN 1 zmj
theorem zoI:newC 1 zmj=(startN,0):=by
 have h:zan (newN 1 zmj)=true:=by kernel_rfl
 rw [newC,h];rfl
theorem zsp:FnC Tryz.prog 19 [] (.tup [.agg (startN.svs [1]),.int .i64 0]) D2:=by
 refine FnG.of_vc (zak (zaa zly zad) fun _=>none) Tryz.func19 rfl (by decide) rfl 300 (p:=fun (V:List PE->Prop)=>let v3:=(1:Int);let v4:=[v3]++[(2:Int)]++[(3:Int)];let v5:=Kept.mk v3 (0:Int) (Snap.mk v3 v3 (Config.mk v4 []) (ByteArray.mk #[])) [];let v6:=newC v3 v5;True/\(v4.length<=17592186044416/\zbQ v5/\True)/\qN0 (Prod.fst v6) startN (qN24 (Prod.fst v6) startN (Prod.snd v6=0/\True))) (by kernel_rfl) ?_
 simp only [qN0,qN24,imp_self,implies_true,true_and,and_true,zah,zai]
 have e:=zoI
 simp only [zmj,zs] at e
 simp only [List.cons_append,List.nil_append,e,and_true]
 exact ⟨by decide,⟨⟨by decide,fun x hx=>by cases hx⟩,⟨by decide,by decide⟩⟩⟩
def zq6:Ent:=ent0 19 ([],.tup [.agg (startN.svs [1]),.int .i64 0],D2)
theorem zkv:zaf Tryz.prog zq6:=ziJ (fnB Tryz.func19 (by decide) rfl) fun _=>zsp
def zcg:Nat->Step
 | 0=>⟨startN,outZ⟩
 | n+1=>zcM (zcg n).n
theorem zjq:∀ j,j<10->zan (zcg j).n=true:=by
 have h:(List.range 10).all (fun j=>zan (zcg j).n)=true:=by kernel_rfl
 exact fun j hj=>List.all_eq_true.1 h j (List.mem_range.2 hj)
def fewB (s:Step):Bool:=
 decide (s.n.kept.entries.length<=50)&&s.n.kept.entries.all (fun e=>decide (e.config.voters.length<=50)&&decide (e.config.learners.length<=50))&&decide (s.n.kept.snap.config.voters.length<=50)&&decide (s.n.kept.snap.config.learners.length<=50) &&
 decide (s.n.yes.length<=50)&&decide (s.n.peers.length<=50)&&decide (s.n.reads.length<=50)&&decide (s.o.records.length<=50)&&decide (s.o.messages.length<=50)&&decide (s.o.ready.length<=50)&&decide (s.o.lost.length<=50)
theorem zqv {s:Step} (h:fewB s=true):Few 50000 s:=by
 unfold fewB at h
 simp only [Bool.and_eq_true,decide_eq_true_eq,List.all_eq_true] at h
 obtain ⟨⟨⟨⟨⟨⟨⟨⟨⟨⟨h1,h2⟩,h3⟩,h4⟩,h5⟩,h6⟩,h7⟩,h8⟩,h9⟩,h10⟩,h11⟩:=h
 exact ⟨by omega,fun e he=>by have:=h2 e he;exact ⟨by omega,by omega⟩,⟨by omega,by omega⟩,by omega,by omega,by omega,by omega,by omega,by omega,by omega⟩
theorem Few.z {B:Nat} {s:Step} (h:Few B s):Few B (zag s.n):=⟨h.entries,h.ec,h.sc,h.yes,h.peers,h.reads,Nat.zero_le _,Nat.zero_le _,Nat.zero_le _,Nat.zero_le _⟩
theorem zhn:∀ j,j<11->Few 50000 (zcg j):=by
 have h:(List.range 11).all (fun j=>fewB (zcg j))=true:=by kernel_rfl
 exact fun j hj=>zqv (List.all_eq_true.1 h j (List.mem_range.2 hj))
theorem zj8 {n:Node} (h:zan n=true):LogG n.kept/\TermG n.kept:=by
 have g:=right_iff.1 h
 have h1:=g.last
 rw [zax g.on] at h1
 have h2:=g.len
 have h3:=g.term
 unfold wi at h3
 simp only [Bool.and_eq_true,decide_eq_true_eq] at h3
 exact ⟨⟨g.on,by omega,by omega⟩,⟨h3.1,by omega⟩⟩
end Go.Proofs.YtkhphiahindnnaaGreat
namespace Go.Proofs.YtkhphiahindnnaaGreat
open Go.RowKit Go.ChangeShapes Go.WideShapes Go.Deep
theorem zpp {index:Int} {l:List Entry}:∀ {n j:Nat},j<=n->numT index l n=true->numT index l j=true
 | 0,j,hj,h=>by
  have:j=0:=by omega
  subst this;exact h
 | n+1,j,hj,h=>by
  by_cases e:j=n+1
  ·subst e;exact h
  ·simp only [numT,Bool.and_eq_true] at h
   exact zpp (by omega) h.1
theorem zvp {index:Int} {l:List Entry} {n j:Nat} (hj:j<n) (h:numT index l n=true):okx index (l.getD j default) j=true:=by
 have:=zpp (show j+1<=n from hj) h
 simp only [numT,Bool.and_eq_true] at this
 exact this.2
theorem zpn {index:Int} {x:Entry} {i:Nat} (hi:I64 index) (hx:I64 x.index) (hs:i<=1000000000) (h:okx index x i=true):x.index=index+1+i:=by
 unfold okx at h
 simp only [Bool.not_eq_true',Bool.or_eq_false_iff,decide_eq_false_iff_not,bne_eq_false_iff_eq] at h
 obtain ⟨h1,h2⟩:=h
 have e1:IntKind.i64.wrap (x.index-1)=x.index-1:=zaD ⟨by have:=hi.1;omega,by have:=hx.2;omega⟩
 rw [e1,IntKind.wrap_i64] at h2
 have:=hi.1;have:=hi.2;have:=hx.1;have:=hx.2
 omega
theorem znA {index:Int} {l:List Entry} (hi:I64 index) (hl:∀ x,x∈l->x.Ok) (hs:l.length<=1000000) (h:numF index l=true) {i:Nat} (hil:i<l.length):(l.getD i default).index=index+1+i:=
 zpn hi (hl _ (zb1 hil)).index (by omega) (zvp hil h)
theorem zbR {k:Kept} (h:onB k=true):(zb9 k).1=k.snap.index+k.entries.length:=by
 rw [zm8,if_pos h]
 unfold znL
 split
 ·rename_i h0;simp [zin,h0]
 ·rename_i h0
  have:=zcB (onB_iff.1 h) (i:=k.entries.length-1) (by omega)
  simp only [entP];omega
theorem zlY {k:Kept} (h:onB k=true) {i:Int} (hi:k.snap.index<i):(zaQ k i).2=0↔i<=(zb9 k).1:=by
 rw [zbR h]
 have hp:=onB_iff.1 h
 constructor
 ·intro ht
  apply Classical.byContradiction
  intro hgt
  rw [zfh h (by omega) (fun j hj=>by rw [zcB hp hj];omega)] at ht
  simp at ht
 ·intro hle
  have hj:(i-k.snap.index-1).toNat<k.entries.length:=by omega
  have:=zif h hj
  rw [zcB hp hj] at this
  have e:k.snap.index+1+((i-k.snap.index-1).toNat:Int)=i:=by omega
  rw [e] at this;rw [this]
theorem zkk {k:Kept} {x:Entry} (h:zbr k x=true):k.snap.index<x.index:=by
 unfold zbr at h
 simp only [Bool.and_eq_true,decide_eq_true_eq] at h
 exact h.1
theorem zkj {k:Kept} {x:Entry} (h:k.snap.index<x.index):zbr k x=!((zaQ k x.index).2==0&&(zaQ k x.index).1==x.term):=by
 unfold zbr
 simp only [h,decide_true,Bool.true_and]
 cases ((zaQ k x.index).2==0)<;>cases ((zaQ k x.index).1==x.term)<;>rfl
theorem zdK {k:Kept}:∀ {l:List Entry} {f:Nat},zas k l=(f:Int)->zbr k (l.getD f default)=true
 | [],f,h=>by simp only [zas] at h;omega
 | x::l,f,h=>by
  rw [zas] at h
  cases hx:zbr k x
  ·rw [hx] at h
   simp only [Bool.false_eq_true,if_false] at h
   split at h
   ·omega
   ·rcases zaG k l with h1 | ⟨g,h1,h2⟩
    ·contradiction
    ·have:f=g+1:=by omega
     subst this
     simpa using zdK h2
  ·rw [hx,if_pos rfl] at h
   have:f=0:=by omega
   subst this;simpa using hx
theorem zh8 (k:Kept) (l:List Entry):(zaI k l).length<=l.length+1:=by
 unfold zaI
 split
 ·simp
 ·split<;>simp<;>omega
end Go.Proofs.YtkhphiahindnnaaGreat
namespace Go.Proofs.YtkhphiahindnnaaGreat
open Go.RowKit Go.ChangeShapes Go.WideShapes Go.Deep
structure MH (k:Kept) (index term:Int) (l:List Entry):Prop where
 on:onB k=true
 num:numF index l=true
 bad:badB k index term=false
 hi:I64 index
 hl:∀ x,x∈l->x.Ok
 hs:l.length<=1000000
theorem MH.of {k:Kept} {index term:Int} {l:List Entry} (h:zbf k index term l=0) (hi:I64 index) (hl:∀ x,x∈l->x.Ok) (hs:l.length<=1000000):MH k index term l:=by
 unfold zbf at h
 split at h
 ·rename_i h1
  simp only [Bool.and_eq_true] at h1
  split at h
  ·cases h
  ·rename_i h2
   exact ⟨h1.1,h1.2,by simpa using h2,hi,hl,hs⟩
 ·cases h
noncomputable def f0 (k:Kept) (l:List Entry):Nat:=(zas k l).toNat
noncomputable def mK (k:Kept) (l:List Entry):Nat:=if zas k l = -1 then k.entries.length else ((l.getD (f0 k l) default).index-k.snap.index-1).toNat
noncomputable def nK (k:Kept) (l:List Entry):List Entry:=if zas k l = -1 then [] else l.drop (f0 k l)
noncomputable def cN (k:Kept) (l:List Entry):Nat:=if zas k l = -1 then 0 else if (l.getD (f0 k l) default).index<=(zb9 k).1 then 1 else 0
noncomputable def xK (k:Kept) (l:List Entry) (j:Nat):Kept:=⟨k.term,k.vote,k.snap,k.entries.take (mK k l)++(nK k l).take j⟩
noncomputable def stK (k:Kept) (l:List Entry) (i:Nat):Kept:=if i<cN k l then k else xK k l (i-cN k l)
theorem zdi {k:Kept}:∀ {l:List Entry} {f i:Nat},zas k l=(f:Int)->i<f->zbr k (l.getD i default)=false
 | [],f,i,h,hi=>by simp only [zas] at h;omega
 | x::l,f,i,h,hi=>by
  rw [zas] at h
  cases hx:zbr k x
  ·cases i with
   | zero=>simpa using hx
   | succ i=>
    rw [hx] at h
    simp only [Bool.false_eq_true,if_false] at h
    split at h
    ·omega
    ·have:=zdi (k:=k) (l:=l) (f:=f-1) (i:=i) (by omega) (by omega)
     simpa using this
  ·rw [hx,if_pos rfl] at h;omega
theorem zfx {k:Kept}:∀ {l:List Entry} {i:Nat},zas k l = -1->i<l.length->zbr k (l.getD i default)=false
 | [],i,h,hi=>by simp at hi
 | x::l,i,h,hi=>by
  rw [zas] at h
  cases hx:zbr k x
  ·cases i with
   | zero=>simpa using hx
   | succ i=>
    rw [hx] at h
    simp only [Bool.false_eq_true,if_false] at h
    have h1:zas k l = -1:=by
     rcases zaG k l with h2 | ⟨f,h2,h3⟩
     ·exact h2
     ·rw [if_neg (by omega)] at h;omega
    have:=zfx (k:=k) (l:=l) (i:=i) h1 (by simpa using hi)
    simpa using this
  ·rw [hx,if_pos rfl] at h;omega
section
variable {k : Kept} {index term : Int} {l : List Entry}
theorem MH.last (M:MH k index term l):index<=k.snap.index+k.entries.length:=by
 have h:=M.bad
 unfold badB at h
 simp only [Bool.or_eq_false_iff,decide_eq_false_iff_not] at h
 have:=h.1
 rw [zbR M.on] at this
 omega
theorem MH.idx (M:MH k index term l) {i:Nat} (h:i<l.length):(l.getD i default).index=index+1+i:=znA M.hi M.hl M.hs M.num h
theorem MH.old (M:MH k index term l) {i:Nat} (h:zbr k (l.getD i default)=false) (h2:k.snap.index<(l.getD i default).index):(zaQ k (l.getD i default).index)=((l.getD i default).term,0):=by
 rw [zkj h2] at h
 simp only [Bool.not_eq_false',Bool.and_eq_true,beq_iff_eq] at h
 exact Prod.ext h.2 h.1
theorem MH.first (M:MH k index term l) {f:Nat} (h:zas k l=(f:Int)) (hf:f<l.length):k.snap.index<(l.getD f default).index/\(l.getD f default).index<=k.snap.index+k.entries.length+1:=by
 refine ⟨zkk (zdK h),?_⟩
 rw [M.idx hf]
 have hlast:=M.last
 cases f with
 | zero=>simp;omega
 | succ g=>
  have hg:=zdi h (show g<g+1 by omega)
  have hgi:=M.idx (show g<l.length by omega)
  by_cases h2:k.snap.index<(l.getD g default).index
  ·have:=M.old hg h2
   have h3:(zaQ k (l.getD g default).index).2=0:=by rw [this]
   have h4:=(zlY M.on h2).1 h3
   rw [zbR M.on,hgi] at h4
   push_cast;omega
  ·rw [hgi] at h2;push_cast;omega
theorem MH.mK_eq (M:MH k index term l) {f:Nat} (h:zas k l=(f:Int)) (hf:f<l.length):(l.getD f default).index=k.snap.index+1+mK k l/\mK k l<=k.entries.length/\f0 k l=f/\nK k l=l.drop f:=by
 have h1:=M.first h hf
 have e:f0 k l=f:=by unfold f0;rw [h];rfl
 have hn:¬ zas k l = -1:=by omega
 refine ⟨?_,?_,e,?_⟩
 ·unfold mK;rw [if_neg hn,e];omega
 ·unfold mK;rw [if_neg hn,e];omega
 ·unfold nK;rw [if_neg hn,e]
theorem zdD (h:zas k l = -1):mK k l=k.entries.length/\nK k l=[]/\cN k l=0:=by
 unfold mK nK cN;simp [h]
theorem MH.mK_le (M:MH k index term l):mK k l<=k.entries.length:=by
 rcases zaG k l with h | ⟨f,hf,h⟩
 ·rw [(zdD h).1];exact Nat.le_refl _
 ·exact (M.mK_eq h hf).2.1
theorem MH.xK_old (M:MH k index term l) {j i:Nat} (h:i<mK k l):(xK k l j).en i=k.en i:=by
 have:=M.mK_le
 show (k.entries.take (mK k l)++(nK k l).take j).getD i default=k.entries.getD i default
 rw [List.getD_eq_getElem?_getD,List.getD_eq_getElem?_getD,List.getElem?_append_left (by simp;omega),List.getElem?_take,if_pos h]
theorem MH.xK_new (M:MH k index term l) {j i:Nat} (h:i<j) (h2:i<(nK k l).length):(xK k l j).en (mK k l+i)=(nK k l).getD i default:=by
 have:=M.mK_le
 show (k.entries.take (mK k l)++(nK k l).take j).getD (mK k l+i) default=_
 rw [List.getD_eq_getElem?_getD,List.getD_eq_getElem?_getD,List.getElem?_append_right (by simp;omega),List.getElem?_take]
 simp only [List.length_take,Nat.min_eq_left this]
 rw [if_pos (by omega),show mK k l+i-mK k l=i by omega]
theorem MH.xK_len (M:MH k index term l) {j:Nat} (h:j<=(nK k l).length):(xK k l j).entries.length=mK k l+j:=by
 have:=M.mK_le
 show (k.entries.take (mK k l)++(nK k l).take j).length=_
 simp;omega
theorem MH.nK_index (M:MH k index term l) {i:Nat} (h:i<(nK k l).length):((nK k l).getD i default).index=k.snap.index+1+mK k l+i:=by
 rcases zaG k l with h1 | ⟨f,hf,h1⟩
 ·rw [(zdD h1).2.1] at h;simp at h
 ·obtain ⟨e1,e2,e3,e4⟩:=M.mK_eq h1 hf
  rw [e4] at h ⊢
  have hd:(l.drop f).getD i default=l.getD (f+i) default:=by rw [List.getD_eq_getElem?_getD,List.getD_eq_getElem?_getD,List.getElem?_drop]
  rw [hd,M.idx (by simp at h;omega)]
  rw [M.idx hf] at e1
  push_cast;omega
theorem MH.xK_index (M:MH k index term l) {j i:Nat} (hj:j<=(nK k l).length) (h:i<mK k l+j):((xK k l j).en i).index=k.snap.index+1+i:=by
 by_cases h1:i<mK k l
 ·rw [M.xK_old h1]
  exact zcB (onB_iff.1 M.on) (by have:=M.mK_le;omega)
 ·have e:i=mK k l+(i-mK k l):=by omega
  rw [e,M.xK_new (by omega) (by omega),M.nK_index (by omega)]
  push_cast;omega
theorem MH.xK_on (M:MH k index term l) {j:Nat} (hj:j<=(nK k l).length) (h:mK k l+j<=10000):onB (xK k l j)=true:=by
 have hp:=onB_iff.1 M.on
 refine onB_iff.2 ⟨hp.1,by rw [M.xK_len hj];exact h,fun i hi=>?_⟩
 rw [M.xK_len hj] at hi
 have:=M.xK_index hj hi
 have h0:=hp.1
 unfold okAt
 rw [this]
 show _/\_=k.snap.index
 omega
theorem MH.st0 (M:MH k index term l):stK k l 0=k:=by
 unfold stK
 split
 ·rfl
 ·rename_i h
  have hc:cN k l=0:=by omega
  have hm:k.entries.length<=mK k l:=by
   rcases zaG k l with h1 | ⟨f,hf,h1⟩
   ·rw [(zdD h1).1];exact Nat.le_refl _
   ·obtain ⟨e1,e2,e3,e4⟩:=M.mK_eq h1 hf
    unfold cN at hc
    rw [if_neg (by omega),e3,zbR M.on] at hc
    split at hc
    ·cases hc
    ·omega
  unfold xK
  rw [hc,List.take_of_length_le hm]
  simp
theorem zm9 {α β:Type} {f:α->β} {l:List α} {i:Nat} {d:α} {e:β} (h:i<l.length):(l.map f).getD i e=f (l.getD i d):=by
 rw [zcd (by simpa using h),zcd h,List.getElem_map]
theorem MH.rec_at (M:MH k index term l) {i:Nat} (hi:i<(zaI k l).length):(i<cN k l/\(zaI k l).getD i default=zgQ (k.snap.index+1+mK k l)/\mK k l<k.entries.length)\/(cN k l<=i/\i-cN k l<(nK k l).length/\(zaI k l).getD i default=entR ((nK k l).getD (i-cN k l) default)):=by
 rcases zaG k l with h1 | ⟨f,hf,h1⟩
 ·unfold zaI at hi;rw [if_pos h1] at hi;simp at hi
 ·obtain ⟨e1,e2,e3,e4⟩:=M.mK_eq h1 hf
  have hn:¬ zas k l = -1:=by omega
  have ef:(zas k l).toNat=f:=e3
  unfold zaI at hi ⊢
  unfold cN
  rw [if_neg hn,ef] at hi ⊢
  rw [if_neg hn,e3,e4]
  rw [zbR M.on] at hi ⊢
  by_cases hc:(l.getD f default).index<=k.snap.index+k.entries.length
  ·rw [if_pos hc] at hi ⊢
   rw [if_pos hc]
   cases i with
   | zero=>exact .inl ⟨by omega,by rw [<- e1];rfl,by omega⟩
   | succ i=>
    refine .inr ⟨by omega,by simp at hi ⊢;omega,?_⟩
    have hlt:i<(l.drop f).length:=by simp at hi ⊢;omega
    show ((l.drop f).map entR).getD i default=entR ((l.drop f).getD i default)
    exact zm9 hlt
  ·rw [if_neg hc] at hi ⊢
   rw [if_neg hc]
   refine .inr ⟨by omega,by simpa using hi,?_⟩
   have hlt:i<(l.drop f).length:=by simpa using hi
   show ((l.drop f).map entR).getD i default=entR ((l.drop f).getD i default)
   exact zm9 hlt
theorem MH.recs_len (M:MH k index term l):(zaI k l).length=cN k l+(nK k l).length:=by
 rcases zaG k l with h1 | ⟨f,hf,h1⟩
 ·unfold zaI;rw [if_pos h1,(zdD h1).2.1,(zdD h1).2.2];rfl
 ·obtain ⟨e1,e2,e3,e4⟩:=M.mK_eq h1 hf
  have hn:¬ zas k l = -1:=by omega
  unfold zaI cN
  rw [if_neg hn,if_neg hn,e3,e4,show (zas k l).toNat=f from e3]
  split<;>simp<;>omega
theorem zpu {x:Entry} (h:x∈nK k l):x∈l:=by
 unfold nK at h
 split at h
 ·cases h
 ·exact List.mem_of_mem_drop h
end
end Go.Proofs.YtkhphiahindnnaaGreat
namespace Go.Proofs.YtkhphiahindnnaaGreat
open Go.RowKit Go.ChangeShapes Go.WideShapes Go.Deep
def recsS (s:Step) (l:List Record):Step:=l.foldl recS s
theorem zs3 (s:Step):∀ l:List Record,recsS s l=⟨{s.n with kept:=l.foldl recK s.n.kept},{s.o with records:=s.o.records++l}⟩:=by
 intro l
 induction l generalizing s with
 | nil=>simp [recsS]
 | cons r l ih=>
  show recsS (recS s r) l=_
  rw [ih]
  simp [recS]
theorem zxK (k:Kept) (l:List Entry):cN k l<=1:=by
 unfold cN
 split
 ·exact Nat.zero_le _
 ·split<;>omega
section
variable {k : Kept} {index term : Int} {l : List Entry}
theorem MH.cut_at (M:MH k index term l) (hk:k.Ok) {j:Nat} (hj:j<k.entries.length):IntKind.i64.wrap (IntKind.i64.wrap (k.snap.index+1+j-1)-k.snap.index)=j:=by
 have hp:=onB_iff.1 M.on
 have h0:=hp.1
 have h1:=zcB hp hj
 have hle:I64 (k.en j).index:=(hk.entries.2 _ (zb1 hj)).index
 have e1:=hle.1
 have e2:=hle.2
 rw [h1] at e1 e2
 rw [IntKind.wrap_i64,IntKind.wrap_i64]
 omega
theorem MH.step2 (M:MH k index term l) (hk:k.Ok) {i:Nat} (hi:i<(zaI k l).length):recK (stK k l i) ((zaI k l).getD i default)=stK k l (i+1):=by
 have hc:=zxK k l
 rcases M.rec_at hi with ⟨h1,h2,h3⟩ | ⟨h1,h2,h3⟩
 ·have hi0:i=0:=by omega
  subst hi0
  have e1:stK k l (0+1)=xK k l 0:=by unfold stK;rw [if_neg (by omega),show 0+1-cN k l=0 by omega]
  have ex:xK k l 0=⟨k.term,k.vote,k.snap,k.entries.take (mK k l)⟩:=by unfold xK;simp
  rw [M.st0,h2,e1,ex]
  show (⟨k.term,k.vote,k.snap,k.entries.take (IntKind.i64.wrap (IntKind.i64.wrap (k.snap.index+1+(mK k l:Int)-1)-k.snap.index)).toNat⟩:Kept)=_
  rw [M.cut_at hk h3,Int.toNat_natCast]
 ·have e0:stK k l i=xK k l (i-cN k l):=by unfold stK;rw [if_neg (by omega)]
  have e1:stK k l (i+1)=xK k l (i-cN k l+1):=by unfold stK;rw [if_neg (by omega),show i+1-cN k l=i-cN k l+1 by omega]
  have ex:xK k l (i-cN k l+1)=⟨k.term,k.vote,k.snap,(xK k l (i-cN k l)).entries++[(nK k l).getD (i-cN k l) default]⟩:=by
   unfold xK;rw [zaL (d:=default) h2];simp
  rw [e0,e1,h3,ex]
  rfl
theorem MH.recs (M:MH k index term l) (hk:k.Ok):∀ j,j<=(zaI k l).length->((zaI k l).take j).foldl recK k=stK k l j
 | 0,_=>by rw [M.st0];rfl
 | j+1,h=>by
  rw [zaL (d:=(default:Record)) h,List.foldl_append,M.recs hk j (by omega)]
  exact M.step2 hk h
theorem MH.recsS (M:MH k index term l) (hk:k.Ok) (s:Step) (hs:s.n.kept=k) {j:Nat} (hj:j<=(zaI k l).length):recsS s ((zaI k l).take j)=⟨{s.n with kept:=stK k l j},{s.o with records:=s.o.records++(zaI k l).take j}⟩:=by
 rw [zs3,hs,M.recs hk j hj]
theorem zuV {i:Nat} {e:Entry} (h:e∈(stK k l i).entries):e∈k.entries\/e∈l:=by
 unfold stK at h
 split at h
 ·exact .inl h
 ·rcases List.mem_append.1 h with h | h
  ·exact .inl (List.mem_of_mem_take h)
  ·exact .inr (zpu (List.mem_of_mem_take h))
theorem zuW (i:Nat):(stK k l i).entries.length<=k.entries.length+l.length:=by
 unfold stK
 split
 ·omega
 ·have:(nK k l).length<=l.length:=by unfold nK;split<;>simp
  show (k.entries.take (mK k l)++(nK k l).take (i-cN k l)).length<=_
  simp only [List.length_append,List.length_take];omega
theorem MH.recOk (M:MH k index term l) (hk:k.Ok) (hl:∀ e∈l,SmallD e.config) {i:Nat} (hi:i<(zaI k l).length):SmallR ((zaI k l).getD i default)/\zhi (stK k l i) ((zaI k l).getD i default)/\((zaI k l).getD i default).kind≠4:=by
 have hc:=zxK k l
 rcases M.rec_at hi with ⟨h1,h2,h3⟩ | ⟨h1,h2,h3⟩
 ·have hi0:i=0:=by omega
  subst hi0
  rw [M.st0,h2]
  refine ⟨⟨smallD0.c,smallD0.c⟩,fun _=>?_,by show (3:Int)≠4;decide⟩
  show 0<=IntKind.i64.wrap (IntKind.i64.wrap (k.snap.index+1+(mK k l:Int)-1)-k.snap.index)/\IntKind.i64.wrap (IntKind.i64.wrap (k.snap.index+1+(mK k l:Int)-1)-k.snap.index)<=_
  rw [M.cut_at hk h3]
  omega
 ·rw [h3]
  exact ⟨⟨(hl _ (zpu (zb1 h2))).c,smallD0.c⟩,fun h=>absurd (show (2:Int)=3 from h) (by decide),by show (2:Int)≠4;decide⟩
end
theorem Few.st {B:Nat} {s:Step} {l:List Entry} {L:List Record} {i:Nat} (h:Few B s) (hl:l.length<=4000) (hd:∀ e∈l,SmallD e.config) (hL:L.length<=4001):Few (B+4001) ⟨{s.n with kept:=stK s.n.kept l i},{s.o with records:=s.o.records++L}⟩:=by
 have h1:=h.entries
 have h2:=h.records
 have h3:=zuW (k:=s.n.kept) (l:=l) i
 have g:=h.mono (show B<=B+4001 by omega)
 refine ⟨by show (stK s.n.kept l i).entries.length<=_;omega,fun e he=>?_,?_,g.yes,g.peers,g.reads,by show (s.o.records++L).length<=_;simp only [List.length_append];omega,g.messages,g.ready,g.lost⟩
 ·rcases zuV he with he | he
  ·exact h.ec e he
  ·exact hd e he
 ·show SmallD (stK s.n.kept l i).snap.config
  rw [show (stK s.n.kept l i).snap=s.n.kept.snap by unfold stK;split<;>rfl]
  exact h.sc
end Go.Proofs.YtkhphiahindnnaaGreat
namespace Go.Proofs.YtkhphiahindnnaaGreat
open Go.RowKit Go.ChangeShapes Go.WideShapes Go.Deep
theorem wi_iff {m x:Int}:wi m x=true↔0<=x/\x<=m:=by simp [wi]
structure Core (n:Node):Prop where
 id:1<=n.id/\n.id<=5
 len:n.kept.entries.length<=9000
 on:onC n.kept=true
 term:0<=n.kept.term/\n.kept.term<=900000000
 vote:0<=n.kept.vote/\n.kept.vote<=900000000
 round:0<=n.round/\n.round<=900000000
 lead:0<=n.lead/\n.lead<=900000000
 last:n.kept.snap.index+n.kept.entries.length<=900000000
 elapsed:0<=n.elapsed/\n.elapsed<=1000
 lo:n.kept.snap.index<=n.commit
 hi:n.commit<=n.kept.snap.index+n.kept.entries.length
 yes:isC n.yes=true
 yesn:∀ y∈n.yes,1<=y/\y<=5
 confs:zcX n.kept=true
def zdt (n:Node):Bool:=if n.role=4 then zf6 n else decide (n.peers=[])&&decide (n.reads=[])
structure Good2 (n:Node):Prop where
 core:Core n
 role:1<=n.role/\n.role<=4
 rest:zdt n=true
theorem zou {x:Int} (hx:I64 x):wi 4 (IntKind.i64.wrap (x-1))=true↔1<=x/\x<=5:=by
 have h1:=hx.1
 have h2:=hx.2
 rw [wi_iff,IntKind.wrap_i64];omega
theorem zn2 {n:Node} (hi:I64 n.id) (hy:∀ y∈n.yes,I64 y):zan n=true↔Good2 n:=by
 rw [right_iff]
 constructor
 ·intro h
  have hl:=h.last
  have hh:=h.hi
  rw [zax h.on] at hl hh
  refine ⟨⟨(zou hi).1 h.id,h.len,h.on,wi_iff.1 h.term,wi_iff.1 h.vote,wi_iff.1 h.round,wi_iff.1 h.lead,hl,wi_iff.1 h.elapsed,h.lo,hh,h.yes,fun y hm=>(zou (hy y hm)).1 (List.all_eq_true.1 h.yesn y hm),h.confs⟩,⟨h.role1,h.role4⟩,h.rest⟩
 ·rintro ⟨c,⟨r1,r4⟩,hr⟩
  refine ⟨(zou hi).2 c.id,r1,r4,c.len,c.on,wi_iff.2 c.term,wi_iff.2 c.vote,wi_iff.2 c.round,wi_iff.2 c.lead,by rw [zax c.on];exact c.last,wi_iff.2 c.elapsed,c.lo,by rw [zax c.on];exact c.hi,c.yes,List.all_eq_true.2 fun y hm=>(zou (hy y hm)).2 (c.yesn y hm),c.confs,hr⟩
theorem Good2.right {n:Node} (h:Good2 n):zan n=true:=
 (zn2 (by have:=h.core.id;exact ⟨by omega,by omega⟩) (fun y hy=>by have:=h.core.yesn y hy;exact ⟨by omega,by omega⟩)).2 h
theorem zcu {k:Kept} (ho:onC k=true) {i:Int} (h1:k.snap.index<i) (h2:i<=k.snap.index+k.entries.length):zau k i=((k.entries.getD (i-k.snap.index-1).toNat default).term,0):=by
 rw [zau,if_pos ho,if_neg (by omega),if_pos ⟨h1,h2⟩]
theorem zfJ {k:Kept} {i:Int} (h:(zau k i).2=0):onC k=true/\k.snap.index<=i/\i<=k.snap.index+k.entries.length:=by
 unfold zau at h
 split at h
 ·rename_i ho
  split at h
  ·rename_i e;exact ⟨ho,by omega,by omega⟩
  ·split at h
   ·rename_i e;exact ⟨ho,by omega,by omega⟩
   ·exact absurd h (by decide)
 ·exact absurd h (by decide)
structure Fwd (n x:Node):Prop where
 id:x.id=n.id
 term:n.kept.term<=x.kept.term
 commit:n.commit<=x.commit
 snap:n.kept.snap.index<=x.kept.snap.index
 vote:x.kept.term=n.kept.term->n.kept.vote≠0->x.kept.vote=n.kept.vote
 ents:∀ i t,n.kept.snap.index<i->i<=n.commit->zau n.kept i=(t,0)->x.kept.snap.index<i->zau x.kept i=(t,0)
theorem Fwd.refl (n:Node):Fwd n n:=⟨rfl,Int.le_refl _,Int.le_refl _,Int.le_refl _,fun _ _=>rfl,fun _ _ _ _ h _=>h⟩
theorem Fwd.trans {n x y:Node} (h:Fwd n x) (k:Fwd x y):Fwd n y:=by
 refine ⟨k.id.trans h.id,Int.le_trans h.term k.term,Int.le_trans h.commit k.commit,Int.le_trans h.snap k.snap,fun e hv=>?_,fun i t h1 h2 h3 h4=>?_⟩
 ·have a:=h.term
  have b:=k.term
  have c:=h.vote (by omega) hv
  exact (k.vote (by omega) (by rw [c];exact hv)).trans c
 ·have a:=k.snap
  exact k.ents i t (by omega) (Int.le_trans h2 h.commit) (h.ents i t h1 h2 h3 (by omega)) h4
theorem Fwd.of_kept {n x:Node} (hi:x.id=n.id) (hk:x.kept=n.kept) (hc:n.commit<=x.commit):Fwd n x:=by
 refine ⟨hi,by rw [hk];exact Int.le_refl _,hc,by rw [hk];exact Int.le_refl _,fun _ _=>by rw [hk],fun i t _ _ h _=>by rw [hk];exact h⟩
theorem zpm {k:Kept} {e:Entry} (ho:onC k=true) (he:e.index=k.snap.index+k.entries.length+1) (hl:k.entries.length<10000):onC {k with entries:=k.entries++[e]}=true:=by
 have h:=onC_iff.1 ho
 refine onC_iff.2 ⟨h.1,by show (k.entries++[e]).length<=_;simp only [List.length_append,List.length_cons,List.length_nil];omega,fun i hi=>?_⟩
 have hi:i<(k.entries++[e]).length:=hi
 simp only [List.length_append,List.length_cons,List.length_nil] at hi
 by_cases h1:i<k.entries.length
 ·have h2:=h.2.2 i h1
  have e1:(k.entries++[e]).getD i default=k.entries.getD i default:=by rw [List.getD_eq_getElem?_getD,List.getD_eq_getElem?_getD,List.getElem?_append_left h1]
  unfold okAt Kept.en at h2 ⊢
  show 1<=((k.entries++[e]).getD i default).index/\((k.entries++[e]).getD i default).index-1-(i:Int)=k.snap.index
  rw [e1];exact h2
 ·have e0:i=k.entries.length:=by omega
  subst e0
  have e1:(k.entries++[e]).getD k.entries.length default=e:=by simp [List.getD]
  have h0:=h.1
  unfold okAt Kept.en
  show 1<=((k.entries++[e]).getD k.entries.length default).index/\((k.entries++[e]).getD k.entries.length default).index-1-(k.entries.length:Int)=k.snap.index
  rw [e1,he]
  omega
theorem zfP {α:Type} {l m:List α} {i:Nat} {d:α} (h:i<l.length):(l++m).getD i d=l.getD i d:=by
 rw [List.getD_eq_getElem?_getD,List.getD_eq_getElem?_getD,List.getElem?_append_left h]
def zfG (k:Kept):Config:=match k.entries.reverse.find? (fun e=>e.kind==2) with
 | some e=>e.config
 | none=>k.snap.config
theorem zdW {α:Type} {p q:α->Bool}:∀ {l:List α},(∀ x∈l,p x=q x)->l.find? p=l.find? q
 | [],_=>rfl
 | x::l,h=>by
  rw [List.find?_cons,List.find?_cons,h x (List.mem_cons_self ..),zdW (l:=l) fun y hy=>h y (List.mem_cons_of_mem _ hy)]
theorem zuh {k:Kept} (ho:onC k=true) {e:Entry} (he:e∈k.entries):k.snap.index<e.index/\e.index<=k.snap.index+k.entries.length:=by
 obtain ⟨i,hi,rfl⟩:=List.mem_iff_getElem.1 he
 have:=zn9 ho hi
 rw [zcd hi] at this
 omega
theorem zgT {n:Node} (ho:onC n.kept=true):za6 n=zfG n.kept:=by
 have hb:=(zdA ho).1
 have ht:(zau n.kept (zam n.kept).1).2=0:=by
  rw [zax ho,zau,if_pos ho]
  split
  ·rfl
  ·rw [if_pos ⟨by omega,Int.le_refl _⟩]
 rw [za6,zav,if_pos ht,cfgR,zfG]
 rw [zdW (q:=fun e=>e.kind==2) fun e he=>?_]
 ·cases List.find? (fun e=>e.kind==2) n.kept.entries.reverse<;>rfl
 ·have:=zuh ho (List.mem_reverse.1 he)
  rw [cfgB,zax ho,decide_eq_true this.2,Bool.true_and]
theorem zrn {k:Kept} {e:Entry} (h:e.kind≠2):zfG {k with entries:=k.entries++[e]}=zfG k:=by
 unfold zfG
 show (match (k.entries++[e]).reverse.find? _ with | some e=>e.config | none=>k.snap.config)=_
 rw [List.reverse_append]
 show (match (e::k.entries.reverse).find? _ with | some e=>e.config | none=>k.snap.config)=_
 rw [List.find?_cons,show (e.kind==2)=false by simpa using h]
theorem zgb {s:Step} {t v:Int} (h:Core s.n) (ht:0<=t/\t<=900000000) (hv:0<=v/\v<=900000000):Core (recS s (zcZ t v)).n:=
 ⟨h.id,h.len,h.on,ht,hv,h.round,h.lead,h.last,h.elapsed,h.lo,h.hi,h.yes,h.yesn,h.confs⟩
theorem zib {s:Step} {t v:Int} (h:s.n.kept.term<t\/t=s.n.kept.term/\s.n.kept.vote=0):Fwd s.n (recS s (zcZ t v)).n:=by
 refine ⟨rfl,by show s.n.kept.term<=t;omega,Int.le_refl _,Int.le_refl _,fun e hv=>?_,fun i u _ _ h _=>h⟩
 have e:t=s.n.kept.term:=e
 rcases h with h | h
 ·omega
 ·exact absurd h.2 hv
def cfOk (e:Entry):Prop:=e.kind=2->mayC e.config=true
theorem zjY {s:Step} {e:Entry} (h:Core s.n):(layS s e).n={s.n with kept:={s.n.kept with entries:=s.n.kept.entries++[⟨s.n.kept.snap.index+s.n.kept.entries.length+1,s.n.kept.term,e.kind,e.config,e.data⟩]}}:=by
 have hb:=(zdA h.on).1
 have hl:=h.last
 have e1:IntKind.i64.wrap ((zam s.n.kept).1+1)=s.n.kept.snap.index+s.n.kept.entries.length+1:=by
  rw [zax h.on,zaD ⟨by omega,by omega⟩]
 show (⟨s.n.id,s.n.role,{s.n.kept with entries:=s.n.kept.entries++[⟨IntKind.i64.wrap ((zam s.n.kept).1+1),s.n.kept.term,e.kind,e.config,e.data⟩]},s.n.commit,s.n.lead,s.n.elapsed,s.n.yes,s.n.peers,s.n.round,s.n.reads⟩:Node)=_
 rw [e1]
theorem zfO {s:Step} {e:Entry} (h:Core s.n) (hl:s.n.kept.entries.length<9000) (hi:s.n.kept.snap.index+s.n.kept.entries.length<900000000) (he:cfOk e):Core (layS s e).n:=by
 rw [zjY h]
 have hc:=h.confs
 have hln:(s.n.kept.entries++[(⟨s.n.kept.snap.index+s.n.kept.entries.length+1,s.n.kept.term,e.kind,e.config,e.data⟩:Entry)]).length=s.n.kept.entries.length+1:=by simp
 refine ⟨h.id,by show (_++_:List Entry).length<=_;omega,zpm h.on rfl (by omega),h.term,h.vote,h.round,h.lead,by show s.n.kept.snap.index+((_++_:List Entry).length:Int)<=_;rw [hln];omega,h.elapsed,h.lo,by have:=h.hi;show s.n.commit<=s.n.kept.snap.index+((_++_:List Entry).length:Int);rw [hln];omega,h.yes,h.yesn,?_⟩
 unfold zcX at hc ⊢
 rw [Bool.and_eq_true] at hc ⊢
 refine ⟨?_,hc.2⟩
 show (_++_:List Entry).all _=true
 rw [List.all_append,hc.1]
 simp only [List.all_cons,List.all_nil,Bool.and_true,Bool.true_and]
 by_cases hk:e.kind=2
 ·rw [he hk];simp
 ·simp [hk]
theorem zlm {s:Step} {e:Entry} (h:Core s.n) (hl:s.n.kept.entries.length<9000):Fwd s.n (layS s e).n:=by
 rw [zjY h]
 refine ⟨rfl,Int.le_refl _,Int.le_refl _,Int.le_refl _,fun _ _=>rfl,fun i t h1 h2 h3 h4=>?_⟩
 have hh:=h.hi
 rw [<- h3,zcu h.on h1 (by omega),zcu (zpm h.on rfl (by omega)) h4 (by show i<=s.n.kept.snap.index+((_++_:List Entry).length:Int);simp only [List.length_append,List.length_cons,List.length_nil];omega)]
 show (((s.n.kept.entries++[_]:List Entry).getD (i-s.n.kept.snap.index-1).toNat default).term,_)=_
 rw [zfP (by omega)]
theorem ziZ (s:Step):(zaB s).n=s.n\/∃ c,s.n.commit<=c/\(zau s.n.kept c).2=0/\(zaB s).n={s.n with commit:=c}:=by
 unfold zaB
 split
 ·rename_i h
  by_cases g:s.n.commit<=zbO (zbG s)
  ·exact .inr ⟨_,g,h.1,by rw [show max s.n.commit (zbO (zbG s))=zbO (zbG s) by omega]⟩
  ·exact .inl (by rw [show max s.n.commit (zbO (zbG s))=s.n.commit by omega])
 ·exact .inl rfl
theorem zeb {s:Step} (h:Core s.n):Core (zaB s).n/\Fwd s.n (zaB s).n:=by
 rcases ziZ s with e | ⟨c,h1,h2,e⟩
 ·rw [e];exact ⟨h,Fwd.refl _⟩
 ·rw [e]
  have:=zfJ h2
  exact ⟨⟨h.id,h.len,h.on,h.term,h.vote,h.round,h.lead,h.last,h.elapsed,Int.le_trans h.lo h1,this.2.2,h.yes,h.yesn,h.confs⟩,Fwd.of_kept rfl rfl h1⟩
theorem zea {s:Step}:zdt (zaB s).n=zdt s.n:=by
 rcases ziZ s with e | ⟨c,_,_,e⟩<;>rw [e]<;>rfl
theorem zjB {s:Step} {e:Entry} (h:Core s.n) (hl:s.n.kept.entries.length<9000) (hi:s.n.kept.snap.index+s.n.kept.entries.length<900000000) (he:cfOk e) (hk:e.kind≠2) (hp:s.n.peers.map (·.node)=zay s.n) (hr:s.n.reads.length<=100)
  (hb:∀ p∈s.n.peers,zdc (s.n.kept.snap.index+s.n.kept.entries.length+1) s.n.round p=true):zf6 (layS s e).n=true:=by
 have hc:=zfO h hl hi he
 have ho:=hc.on
 have hK:zfG (layS s e).n.kept=zfG s.n.kept:=by
  rw [zjY h];exact zrn (k:=s.n.kept) hk
 have e1:zay (layS s e).n=zay s.n:=by
  unfold zay
  rw [zgT ho,zgT h.on,hK];rfl
 have e2:(zam (layS s e).n.kept).1=s.n.kept.snap.index+s.n.kept.entries.length+1:=by
  rw [zax ho,zjY h]
  show s.n.kept.snap.index+((_++_:List Entry).length:Int)=_
  simp only [List.length_append,List.length_cons,List.length_nil];omega
 unfold zf6
 rw [e1,e2]
 simp only [Bool.and_eq_true,decide_eq_true_eq,List.all_eq_true]
 exact ⟨⟨hp,hr⟩,hb⟩
end Go.Proofs.YtkhphiahindnnaaGreat
namespace Go.Proofs.YtkhphiahindnnaaGreat
open Go.RowKit Go.ChangeShapes Go.WideShapes Go.Deep
set_option maxRecDepth 100000
def okE (m:Message) (i:Nat):Bool:=okx m.index (m.entries.getD i default) i&&!((m.entries.getD i default).kind==2&&!mayC (m.entries.getD i default).config)
def ziH (m:Message):Bool:=decide (m.entries.length<=8)&&(List.range m.entries.length).all (okE m)
def zki (n:Node) (m:Message):Bool:=m.to_==n.id&&m.from_ != n.id&&wi 4 (IntKind.i64.wrap (m.from_-1))&&decide (1<=m.kind)&&decide (m.kind<=7)&&wi 899999999 (IntKind.i64.wrap (m.term-1))
def zkE (m:Message):Bool:=if m.kind=7 then wi 899999999 (IntKind.i64.wrap (m.snap.index-1))&&mayC m.snap.config else if m.kind=5 then ziH m else true
def mayM (n:Node) (m:Message):Bool:=zki n m&&zkE m
structure SmallM (m:Message):Prop where
 e:zcG m.entries
 s:zaw m.snap.config
def tabE1:List Ent:=[zlu,zl0]
theorem zmf:∀ e∈tabE1,zaf Tryz.prog e:=zaa zhI (zaa zhN zad)
theorem zxk (s:Step) (m:Message) (hm:SmallM m):FnC Tryz.prog 24 [(dRpS 87).can s,dMessage.can m] (.bool (mayM s.n m)) D2:=by
 refine FnG.of_vc (zak zmf fun _=>none) Tryz.func24 rfl (by decide) rfl 300 (p:=fun (V:List PE->Prop)=>let v0:=m.kind;let v1:=m.snap.config;let v2:=s.n.id;let v3:=mayM s.n m;let v4:=(1:Int);let v5:=m.to_ != v2;let v6:=v0==5;let v7:=v0==7;let v8:=[IntKind.wrap IntKind.i64 (m.term-v4)];let v9:=[IntKind.wrap IntKind.i64 (m.from_-v4)];let v10:=[IntKind.wrap IntKind.i64 (m.snap.index-v4)];let v11:=zac v5 true (m.from_==v2);let v12:=!List.any v10 (offB (899999999:Int));let v13:=zac v11 true !!List.any v9 (offB (4:Int));let v14:=zac v13 true (decide (v0<v4));let v15:=zac v14 true (decide (v0>7));let v16:=zac v15 true !!List.any v8 (offB (899999999:Int));True/\(((!v5)=true->(!v5)=true)/\((!v5)=true->(!v5)=true)/\((!v5)=true->(!v5)=true)/\((!v5)=true->(!v5)=true)/\((!v5)=true->(!v5)=true)/\((!v5)=true->(!v5)=true)/\((!v5)=true->(!v5)=true)/\(v5=false->(!v5)=true)/\((!v11)=true->(!v11)=true)/\((!v11)=true->(!v11)=true)/\((!v11)=true->v9.length<=17592186044416)/\((!v11)=true->(!v11)=true)/\((!v11)=true->(!v11)=true)/\((!v11)=true->(!v11)=true)/\(v11=false->(!v11)=true)/\((!v13)=true->(!v13)=true)/\((!v13)=true->(!v13)=true)/\(v13=false->(!v13)=true)/\((!v14)=true->(!v14)=true)/\((!v14)=true->(!v14)=true)/\(v14=false->(!v14)=true)/\((!v15)=true->(!v15)=true)/\((!v15)=true->(!v15)=true)/\((!v15)=true->v8.length<=17592186044416)/\((!v15)=true->(!v15)=true)/\((!v15)=true->(!v15)=true)/\((!v15)=true->(!v15)=true)/\(v15=false->(!v15)=true)/\True)/\True/\(v16=true->True/\false=v3/\True)/\(v16=false->True/\True/\True/\(v7=true->(v10.length<=17592186044416/\(v12=true->v12=true)/\(v12=true->v12=true)/\(v12=true->v12=true)/\(v12=true->zaw v1)/\(v12=true->v12=true)/\(v12=true->v12=true)/\True)/\zac v12 (errM (mayC v1)==0) false=v3/\True)/\(v7=false->True/\True/\(v6=true->True/\V [PE.b,PE.b,PE.a])/\(v6=false->True/\true=v3/\True)))) (by kernel_rfl) ?_
 simp only [imp_self,implies_true,true_and,and_true,zah,zai,notF]
 have hH:(m.to_ != s.n.id||m.from_==s.n.id||!!List.any [IntKind.i64.wrap (m.from_-1)] (offB 4)||decide (m.kind<1)||decide (m.kind>7)||!!List.any [IntKind.i64.wrap (m.term-1)] (offB 899999999))=!zki s.n m:=by
  have e1:decide (m.kind<1)=!decide (1<=m.kind):=by rw [Bool.eq_iff_iff];simp
  have e2:decide (m.kind>7)=!decide (m.kind<=7):=by rw [Bool.eq_iff_iff];simp
  simp only [zki,List.any_cons,List.any_nil,Bool.or_false,zet,Bool.not_not,bne]
  rw [e1,e2]
  generalize decide (1<=m.kind)=x1
  generalize decide (m.kind<=7)=x2
  generalize (m.to_==s.n.id)=x3
  generalize (m.from_==s.n.id)=x4
  generalize wi 4 (IntKind.i64.wrap (m.from_-1))=x5
  generalize wi 899999999 (IntKind.i64.wrap (m.term-1))=x6
  cases x1<;>cases x2<;>cases x3<;>cases x4<;>cases x5<;>cases x6<;>rfl
 refine ⟨⟨fun _=>by simp,fun _=>by simp⟩,fun h=>?_,fun h=>⟨fun h7=>⟨⟨by simp,fun _=>hm.s⟩,?_⟩,fun h7=>⟨fun h5=>?_,fun h5=>?_⟩⟩⟩
 ·rw [hH] at h
  have h:zki s.n m=false:=by simpa using h
  rw [mayM,h];rfl
 ·rw [hH] at h
  have h:zki s.n m=true:=by simpa using h
  have h7:m.kind=7:=by simpa using h7
  rw [mayM,h,zkE,if_pos h7]
  simp only [List.any_cons,List.any_nil,Bool.or_false,zet,Bool.not_not,errM]
  cases mayC m.snap.config<;>simp
 ·rw [hH] at h
  have h:zki s.n m=true:=by simpa using h
  have h7:¬ m.kind=7:=by simpa using h7
  have h5:m.kind=5:=by simpa using h5
  have e:mayM s.n m=ziH m:=by rw [mayM,h,zkE,if_neg h7,if_pos h5];rfl
  rw [e]
  have hml:=hm.e.1
  refine LoopG.head (zak zmf fun _=>none) 0 (A:=Nat) (fun i=>i<=m.entries.length/\i<=8/\∀ k,k<i->okE m k=true) (fun i=>[(73,.int .i64 i),(72,.int .i64 (m.entries.length:Int)),(71,.sl [0] (.rEntry m.entries))]) (fun i=>[]) (fun i=>m.entries.length-i) 0 ⟨Nat.zero_le _,by decide,fun k hk=>absurd hk (by omega)⟩ (p0:=let v0:=Message.logTerm m;let v1:=m.entries;let v2:=m.snap;let v3:=v2.config;let v9:=(↑(v1.length):Int);(0:Int)=(↑(0:Nat):Int)/\v9=v9/\v1=v1/\m.kind=m.kind/\m.from_=m.from_/\m.to_=m.to_/\m.term=m.term/\m.index=m.index/\v0=v0/\v1=v1/\m.commit=m.commit/\m.round=m.round/\m.ok=m.ok/\v2.index=v2.index/\v2.term=v2.term/\v3.voters=v3.voters/\v3.learners=v3.learners/\v2.data=v2.data/\m.ask=m.ask/\m.seq=m.seq/\m.data=m.data/\True) (by kernel_rfl) ?_ 300 (p:=fun (x:Nat) (V:List PE->Prop)=>let v2:=(↑x:Int);let v3:=(↑(m.entries.length):Int);let v4:=List.getD m.entries x default;let v7:=v4.kind==2;let v8:=decide (v2>=8);let v9:=decide (v2<v3);let v10:=zac v8 true (decide (v4.index<=m.index));let v11:=zac v10 true (IntKind.wrap IntKind.i64 (IntKind.wrap IntKind.i64 (v4.index-(1:Int))-v2) != m.index);let v12:=!v11;let v13:=zac v11 true (zac v7 (errM (mayC v4.config) != 0) false);True/\True/\(v9=true->((0:Int)<=v2/\v2<v3/\True)/\(((!v8)=true->(!v8)=true)/\((!v8)=true->(!v8)=true)/\((!v8)=true->(!v8)=true)/\((!v8)=true->(!v8)=true)/\(v8=false->(!v8)=true)/\((!v10)=true->(!v10)=true)/\((!v10)=true->(!v10)=true)/\((!v10)=true->(!v10)=true)/\((!v10)=true->(!v10)=true)/\((!v10)=true->(!v10)=true)/\((!v10)=true->(!v10)=true)/\((!v10)=true->(!v10)=true)/\(v10=false->(!v10)=true)/\(v12=true->v12=true)/\(v12=true->v12=true)/\(v12=true->v12=true)/\((v12&&v7)=true->(v12&&v7)=true)/\((v12&&v7)=true->(v12&&v7)=true)/\((v12&&v7)=true->zaw v4.config)/\((v12&&v7)=true->(v12&&v7)=true)/\(v12=true->v12=true)/\(v12=true->v7=true->(v12&&v7)=true)/\(v11=false->v12=true)/\True)/\True/\(v13=true->True/\false=ziH m/\True)/\(v13=false->True/\V [PE.a,PE.b]))/\(v9=false->True/\true=ziH m/\True)) (by intro x;kernel_rfl) ?_
  ·repeat' apply And.intro
   all_goals first | trivial | rfl
  rintro i ⟨hi,hi8,hk⟩
  simp only [imp_self,implies_true,true_and,and_true,decide_eq_true_eq,decide_eq_false_iff_not,notF]
  have hC:∀ x:Entry,x=m.entries.getD i default->zac (zac (zac (decide ((i:Int)>=8)) true (decide (x.index<=m.index))) true (IntKind.i64.wrap (IntKind.i64.wrap (x.index-1)-i) != m.index)) true (zac (x.kind==2) (errM (mayC x.config) != 0) false)=!(decide (i<8)&&okE m i):=by
   rintro x rfl
   have e1:decide ((i:Int)>=8)=!decide (i<8):=by rw [Bool.eq_iff_iff];simp;omega
   have e2:∀ b:Bool,(errM b != (0:Int))=!b:=by intro b;cases b<;>rfl
   rw [e1,e2,okE,okx]
   generalize decide (i<8)=x1
   generalize decide ((m.entries.getD i default).index<=m.index)=x2
   generalize (IntKind.i64.wrap (IntKind.i64.wrap ((m.entries.getD i default).index-1)-i) != m.index)=x3
   generalize ((m.entries.getD i default).kind==2)=x4
   generalize mayC (m.entries.getD i default).config=x5
   cases x1<;>cases x2<;>cases x3<;>cases x4<;>cases x5<;>rfl
  rw [hC _ rfl]
  refine ⟨fun h6=>⟨⟨by omega,h6⟩,⟨fun h=>by simp [h],fun _=>hm.e.2 _ (zb1 (by omega)),fun h1 h2=>by rw [h1,h2];rfl⟩,fun h8=>?_,fun h8=>?_⟩,fun h6=>?_⟩
  ·have h8:¬ (i<8/\okE m i=true):=by
    rintro ⟨g1,g2⟩
    rw [g2] at h8;simp [g1] at h8
   symm
   rw [ziH,Bool.and_eq_false_iff]
   by_cases g:i<8
   ·right
    rw [List.all_eq_false]
    exact ⟨i,List.mem_range.2 (by omega),fun g2=>h8 ⟨g,g2⟩⟩
   ·left
    simp only [decide_eq_false_iff_not];omega
  ·have h8:i<8/\okE m i=true:=by simpa using h8
   refine Back.mk (i+1) ⟨by omega,by omega,fun k hk2=>?_⟩ (by omega) (p0:=let v0:=Message.logTerm m;let v1:=m.entries;let v2:=m.snap;let v3:=v2.config;let v9:=(↑(v1.length):Int);IntKind.wrap IntKind.i64 ((↑i:Int)+(1:Int))=(↑(i+(1:Nat)):Int)/\v9=v9/\v1=v1/\m.kind=m.kind/\m.from_=m.from_/\m.to_=m.to_/\m.term=m.term/\m.index=m.index/\v0=v0/\v1=v1/\m.commit=m.commit/\m.round=m.round/\m.ok=m.ok/\v2.index=v2.index/\v2.term=v2.term/\v3.voters=v3.voters/\v3.learners=v3.learners/\v2.data=v2.data/\m.ask=m.ask/\m.seq=m.seq/\m.data=m.data/\True) (by kernel_rfl) ?_
   ·by_cases e:k=i
    ·subst e;exact h8.2
    ·exact hk k (by omega)
   ·simp [zbN (i:=i) (by omega)]
  ·obtain rfl:i=m.entries.length:=by omega
   rw [ziH]
   have:(List.range m.entries.length).all (okE m)=true:=List.all_eq_true.2 fun k hk2=>hk k (List.mem_range.1 hk2)
   rw [this];simp [hi8]
 ·rw [hH] at h
  have h:zki s.n m=true:=by simpa using h
  have h7:¬ m.kind=7:=by simpa using h7
  have h5:¬ m.kind=5:=by simpa using h5
  rw [mayM,h,zkE,if_neg h7,if_neg h5];rfl
def zqN:Ent:=ent2 24 (dRpS 87) dMessage fun s m=>([SmallM m],.bool (mayM s.n m),D2)
theorem zfS:zaf Tryz.prog zqN:=za3 (fnB Tryz.func24 (by decide) rfl) fun s m h=>zxk s m (h _ (by simp))
end Go.Proofs.YtkhphiahindnnaaGreat
