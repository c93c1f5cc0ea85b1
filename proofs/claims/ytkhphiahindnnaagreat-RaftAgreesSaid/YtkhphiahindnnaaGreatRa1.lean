/- Parts of the proof, joined: the symbolic walk and what it is told of each function. Condition: as each theorem says. -/
import Derived.Test.YtkhphiahindnnaaGreatRows
import Derived.WalkKit
import Derived.ProofKit
import Derived.OpenShut
import Derived.Lib.Hide
import Derived.Deep.QuietTactic
import Derived.BigQuiet
import Derived.Deep.Slices
import Derived.ChangeArms
import Derived.Maps.AppendAt
import Derived.Deep.AppendLies
import Derived.RegionTactic
import Derived.OwnWalk
import Derived.Laws.CopyOwn
import Derived.Orders
set_option linter.unusedVariables false
set_option linter.unusedSimpArgs false
set_option linter.unusedSectionVars false
namespace Go.Proofs.YtkhphiahindnnaaGreat
open Go.RowKit Go.ChangeShapes Go.WideShapes Go.Deep
inductive Ty where
 | int (k:IntKind)
 | bool
 | str
 | sl (fs:List Ty)
inductive D where
 | int (n:Int)
 | bool (b:Bool)
 | str (s:ByteArray)
 | sl (rows:List (List D))
instance:Inhabited Ty:=⟨.bool⟩
instance:Inhabited D:=⟨.int 0⟩
inductive Rd (w:World) (S:Nat->Prop):Ty->Value->D->Prop
 | int {k:IntKind} {n:Int}:(Lit.int k n).wf=true->Rd w S (.int k) (.int k n) (.int n)
 | bool {b:Bool}:Rd w S .bool (.bool b) (.bool b)
 | str {s:ByteArray}:s.size<=140737488355328->Rd w S .str (.string s) (.str s)
 | emp {fs:List Ty} {a:Option Addr} {c:Nat}:(a=none->c=0)->c<=maxLen->Rd w S (.sl fs) (.slice a 0 c) (.sl [])
 | row {fs:List Ty} {b off n c:Nat} {rows:List (List D)} (vals:Nat->Nat->Value):0<n->n=rows.length->n<=c->c<=maxLen->n<=17592186044416->S b->b<w.heap.size ->
   (∀ i j,i<n->j<fs.length->w.cell? ⟨b,off+i*fs.length+j,none⟩=some (vals i j)) ->
   (∀ i,i<n->(rows.getD i []).length=fs.length) ->
   (∀ i j,i<n->j<fs.length->Rd w S (fs.getD j default) (vals i j) ((rows.getD i []).getD j default)) ->
   (∀ i j,i<n->j<fs.length->w.frozen? ⟨b,off+i*fs.length+j,none⟩=false) ->
   Rd w S (.sl fs) (.slice (some ⟨b,off,none⟩) n c) (.sl rows)
structure Same (S:Nat->Prop) (w w':World):Prop where
 size:w.heap.size<=w'.heap.size
 block:∀ b,S b->b<w.heap.size->w'.heap[b]? = w.heap[b]?
theorem Same.refl (S:Nat->Prop) (w:World):Same S w w:=⟨Nat.le_refl _,fun _ _ _=>rfl⟩
theorem Same.trans {S:Nat->Prop} {a b c:World} (h:Same S a b) (k:Same S b c):Same S a c:=
 ⟨Nat.le_trans h.size k.size,fun x hx hl=>(k.block x hx (Nat.lt_of_lt_of_le hl h.size)).trans (h.block x hx hl)⟩
theorem Same.mono {S T:Nat->Prop} {w w':World} (h:Same S w w') (hs:∀ b,T b->S b):Same T w w':=⟨h.size,fun b hb hl=>h.block b (hs b hb) hl⟩
theorem Same.below {S:Nat->Prop} {w w':World} (h:Below w.heap.size w w'):Same S w w':=⟨h.size,fun b _ hl=>h.block b hl⟩
theorem Same.of_grown {S:Nat->Prop} {w w':World} {row:Option Nat} (h:w.grownBy w' row) (hS:∀ b,S b->some b≠row):Same S w w' :=
 ⟨h.size,fun b hb hl=>h.block b hl (hS b hb)⟩
theorem Same.alloc (S:Nat->Prop) (w:World) (o:Obj):Same S w (w.alloc o):=Same.below ((Below.refl _ _).alloc (Nat.le_refl _) o)
theorem Same.setCell {S:Nat->Prop} {w:World} {p:Addr} (h:¬ S p.block) (v:Value):Same S w (w.setCell p v):=
 ⟨by simp [World.setCell],fun b hb _=>Below.heap_setCell _ _ _ _ (fun e=>h (e▸hb))⟩
theorem Same.cell {S:Nat->Prop} {w w':World} (h:Same S w w') {p:Addr} (hp:S p.block) (hl:p.block<w.heap.size):w'.cell? p=w.cell? p:=World.cell?_of_block (h.block _ hp hl)
theorem Same.frozen {S:Nat->Prop} {w w':World} (h:Same S w w') {p:Addr} (hp:S p.block) (hl:p.block<w.heap.size):w'.frozen? p=w.frozen? p:=World.frozen?_of_block (h.block _ hp hl)
theorem Rd.same {w w':World} {S:Nat->Prop} {t:Ty} {v:Value} {d:D} (h:Rd w S t v d) (hs:Same S w w'):Rd w' S t v d:=by
 induction h with
 | int h=>exact .int h
 | bool=>exact .bool
 | str h=>exact .str h
 | emp h h'=>exact .emp h h'
 | row vals h1 h2 h3 h4 h5 h6 h7 h8 h9 _ h11 ih=>
  exact .row vals h1 h2 h3 h4 h5 h6 (Nat.lt_of_lt_of_le h7 hs.size) (fun i j hi hj=>by rw [hs.cell h6 h7];exact h8 i j hi hj) h9 ih (fun i j hi hj=>by rw [hs.frozen h6 h7];exact h11 i j hi hj)
theorem Rd.mono {w:World} {S T:Nat->Prop} {t:Ty} {v:Value} {d:D} (h:Rd w S t v d) (hs:∀ b,b<w.heap.size->S b->T b):Rd w T t v d:=by
 induction h with
 | int h=>exact .int h
 | bool=>exact .bool
 | str h=>exact .str h
 | emp h h'=>exact .emp h h'
 | row vals h1 h2 h3 h4 h5 h6 h7 h8 h9 _ h11 ih=>exact .row vals h1 h2 h3 h4 h5 (hs _ h7 h6) h7 h8 h9 ih h11
def RdL (w:World) (S:Nat->Prop):List Ty->List Value->List D->Prop
 | [],[],[]=>True
 | t::ts,v::vs,d::ds=>Rd w S t v d/\RdL w S ts vs ds
 | _,_,_=>False
theorem RdL.same {w w':World} {S:Nat->Prop} (hs:Same S w w'):∀ {ts:List Ty} {vs:List Value} {ds:List D},RdL w S ts vs ds->RdL w' S ts vs ds
 | [],[],[],_=>trivial
 | _::_,_::_,_::_,h=>⟨h.1.same hs,RdL.same hs h.2⟩
 | _::_,[],_,h=>h.elim
 | _::_,_::_,[],h=>h.elim
 | [],_::_,_,h=>h.elim
 | [],[],_::_,h=>h.elim
theorem RdL.mono {w:World} {S T:Nat->Prop} (hs:∀ b,b<w.heap.size->S b->T b):∀ {ts:List Ty} {vs:List Value} {ds:List D},RdL w S ts vs ds->RdL w T ts vs ds
 | [],[],[],_=>trivial
 | _::_,_::_,_::_,h=>⟨h.1.mono hs,RdL.mono hs h.2⟩
 | _::_,[],_,h=>h.elim
 | _::_,_::_,[],h=>h.elim
 | [],_::_,_,h=>h.elim
 | [],[],_::_,h=>h.elim
theorem RdL.lens {w:World} {S:Nat->Prop}:∀ {ts:List Ty} {vs:List Value} {ds:List D},RdL w S ts vs ds->vs.length=ts.length/\ds.length=ts.length
 | [],[],[],_=>⟨rfl,rfl⟩
 | _::_,_::_,_::_,h=>by have:=RdL.lens h.2;simp [this.1,this.2]
 | _::_,[],_,h=>h.elim
 | _::_,_::_,[],h=>h.elim
 | [],_::_,_,h=>h.elim
 | [],[],_::_,h=>h.elim
theorem RdL.at {w:World} {S:Nat->Prop}:∀ {ts:List Ty} {vs:List Value} {ds:List D},RdL w S ts vs ds->∀ j,j<ts.length->Rd w S (ts.getD j default) (vs.getD j undef) (ds.getD j default)
 | [],[],[],_,j,hj=>absurd hj (by simp)
 | _::_,_::_,_::_,h,0,_=>h.1
 | _::ts,_::vs,_::ds,h,j+1,hj=>RdL.at (ts:=ts) (vs:=vs) (ds:=ds) h.2 j (by simpa using hj)
 | _::_,[],_,h,_,_=>h.elim
 | _::_,_::_,[],h,_,_=>h.elim
 | [],_::_,_,h,_,_=>h.elim
 | [],[],_::_,h,_,_=>h.elim
theorem RdL.of_at {w:World} {S:Nat->Prop}:∀ {ts:List Ty} {ds:List D} (f:Nat->Value),ds.length=ts.length->(∀ j,j<ts.length->Rd w S (ts.getD j default) (f j) (ds.getD j default))->RdL w S ts ((List.range ts.length).map f) ds
 | [],[],_,_,_=>trivial
 | [],_::_,_,h,_=>by simp at h
 | _::_,[],_,h,_=>by simp at h
 | t::ts,d::ds,f,h,hf=>by
  have e:(List.range (t::ts).length).map f=f 0::(List.range ts.length).map (fun j=>f (j+1)):=by
   rw [List.length_cons,List.range_succ_eq_map];simp [Function.comp_def]
  rw [e]
  exact ⟨hf 0 (by simp),RdL.of_at (fun j=>f (j+1)) (by simpa using h) (fun j hj=>hf (j+1) (by simpa using hj))⟩
abbrev Sl (w:World) (S:Nat->Prop) (fs:List Ty) (a:Option Addr) (n c:Nat) (rows:List (List D)):Prop:=Rd w S (.sl fs) (.slice a n c) (.sl rows)
theorem Sl.len {w:World} {S:Nat->Prop} {fs:List Ty} {a:Option Addr} {n c:Nat} {rows:List (List D)} (h:Sl w S fs a n c rows):rows.length=n:=by
 cases h with
 | emp _ _=>rfl
 | row _ _ h=>exact h.symm
theorem Sl.bd {w:World} {S:Nat->Prop} {fs:List Ty} {a:Option Addr} {n c:Nat} {rows:List (List D)} (h:Sl w S fs a n c rows):n<=c/\c<=9223372036854775807/\n<=17592186044416/\(a=none->n=0/\c=0):=by
 cases h with
 | emp h1 h2=>unfold maxLen at h2;exact ⟨Nat.zero_le _,by omega,by omega,fun e=>⟨rfl,h1 e⟩⟩
 | row _ h0 h1 h2 h3 h4=>unfold maxLen at h3;exact ⟨h2,by omega,h4,fun e=>by simp at e⟩
theorem Sl.rowAt {w:World} {S:Nat->Prop} {fs:List Ty} {a:Option Addr} {n c:Nat} {rows:List (List D)} (h:Sl w S fs a n c rows) (hp:0<n) :
  ∃ b off,a=some ⟨b,off,none⟩/\S b/\b<w.heap.size/\∃ vals:Nat->Nat->Value,(∀ i j,i<n->j<fs.length->w.cell? ⟨b,off+i*fs.length+j,none⟩=some (vals i j)) /\
   ∀ i,i<n->(rows.getD i []).length=fs.length/\∀ j,j<fs.length->Rd w S (fs.getD j default) (vals i j) ((rows.getD i []).getD j default):=by
 cases h with
 | emp _ _=>omega
 | row vals h1 h2 h3 h4 h5 h6 h7 h8 h9 h10 _=>exact ⟨_,_,rfl,h6,h7,vals,h8,fun i hi=>⟨h9 i hi,fun j hj=>h10 i j hi hj⟩⟩
theorem Sl.addr {w:World} {S:Nat->Prop} {fs:List Ty} {a:Option Addr} {n c:Nat} {rows:List (List D)} (h:Sl w S fs a n c rows) (hp:0<n):∃ b off,a=some ⟨b,off,none⟩:=by
 obtain ⟨b,off,e,_⟩:=h.rowAt hp;exact ⟨b,off,e⟩
theorem Sl.same {w w':World} {S:Nat->Prop} {fs:List Ty} {a:Option Addr} {n c:Nat} {rows:List (List D)} (h:Sl w S fs a n c rows) (hs:Same S w w'):Sl w' S fs a n c rows:=Rd.same h hs
def ints (xs:List Int):List (List D):=xs.map fun x=>[.int x]
abbrev I64 (x:Int):Prop:= -9223372036854775808<=x/\x<=9223372036854775807
abbrev SlI (w:World) (S:Nat->Prop) (a:Option Addr) (n c:Nat) (xs:List Int):Prop:=Sl w S [.int .i64] a n c (ints xs)
theorem lit_bd {x:Int} (h:(Lit.int .i64 x).wf=true):I64 x:=by
 simp only [Lit.wf,Bool.and_eq_true,decide_eq_true_eq] at h;exact h
theorem zcF {x:Int} (h:I64 x):(Lit.int .i64 x).wf=true:=by
 simp only [Lit.wf,Bool.and_eq_true,decide_eq_true_eq];exact h
theorem Rd.int_inv {w:World} {S:Nat->Prop} {k:IntKind} {v:Value} {d:D} (h:Rd w S (.int k) v d):∃ n,v = .int k n/\d = .int n/\(Lit.int k n).wf=true:=by
 cases h with | int h=>exact ⟨_,rfl,rfl,h⟩
theorem Rd.i64 {w:World} {S:Nat->Prop} {v:Value} {x:Int} (h:Rd w S (.int .i64) v (.int x)):v = .int .i64 x/\I64 x:=by
 cases h with | int h=>exact ⟨rfl,lit_bd h⟩
theorem Rd.u8 {w:World} {S:Nat->Prop} {v:Value} {x:Int} (h:Rd w S (.int .u8) v (.int x)):v = .int .u8 x/\0<=x/\x<=255:=by
 cases h with | int h=>simp only [Lit.wf,Bool.and_eq_true,decide_eq_true_eq] at h;exact ⟨rfl,h⟩
theorem Rd.bool' {w:World} {S:Nat->Prop} {v:Value} {x:Bool} (h:Rd w S .bool v (.bool x)):v = .bool x:=by
 cases h with | bool=>rfl
theorem Rd.str' {w:World} {S:Nat->Prop} {v:Value} {x:ByteArray} (h:Rd w S .str v (.str x)):v = .string x/\x.size<=140737488355328:=by
 cases h with | str h=>exact ⟨rfl,h⟩
theorem Rd.sl' {w:World} {S:Nat->Prop} {fs:List Ty} {v:Value} {rows:List (List D)} (h:Rd w S (.sl fs) v (.sl rows)):∃ a c,v = .slice a rows.length c/\Sl w S fs a rows.length c rows:=by
 cases h with
 | emp h1 h2=>exact ⟨_,_,rfl,.emp h1 h2⟩
 | row vals h1 h2 h3 h4 h5 h6 h7 h8 h9 h10 h11=>subst h2;exact ⟨_,_,rfl,.row vals h1 rfl h3 h4 h5 h6 h7 h8 h9 h10 h11⟩
theorem Rd.ofI64 {w:World} {S:Nat->Prop} {x:Int} (h:I64 x):Rd w S (.int .i64) (.int .i64 x) (.int x):= .int (zcF h)
theorem zap (xs:List Int):(ints xs).length=xs.length:=by simp [ints]
theorem zm6 {α:Type} (enc:α->List D):∀ (rows:List (List D)),(∀ r∈rows,∃ x,r=enc x)->∃ xs:List α,rows=xs.map enc
 | [],_=>⟨[],rfl⟩
 | r::rows,h=>by
  obtain ⟨x,hx⟩:=h r (List.mem_cons_self ..)
  obtain ⟨xs,hxs⟩:=zm6 enc rows (fun r hr=>h r (List.mem_cons_of_mem _ hr))
  exact ⟨x::xs,by rw [hx,hxs];rfl⟩
theorem Rd.dec {w:World} {S:Nat->Prop} {α:Type} (enc:α->List D) {ts:List Ty} {v:Value} {d:D} (hdec:∀ vs ds,RdL w S ts vs ds->∃ x,ds=enc x) (h:Rd w S (.sl ts) v d):∃ xs:List α,d = .sl (xs.map enc):=by
 cases h with
 | emp _ _=>exact ⟨[],rfl⟩
 | row vals h1 h2 h3 h4 h5 h6 h7 h8 h9 h10 h11=>
  rename_i rows
  obtain ⟨xs,hxs⟩:=zm6 enc rows (fun r hr=>by
   obtain ⟨i,hi,rfl⟩:=List.mem_iff_getElem.1 hr
   have e:rows.getD i []=rows[i]:=by simp [List.getD,hi]
   have:=RdL.of_at (w:=w) (S:=S) (ts:=ts) (ds:=rows[i]) (vals i) (by rw [<- e];exact h9 i (by omega)) (fun j hj=>by rw [<- e];exact h10 i j (by omega) hj)
   exact hdec _ _ this)
  exact ⟨xs,by rw [hxs]⟩
def strs (l:List ByteArray):List (List D):=l.map fun x=>[.str x]
def zfd (l:List Bool):List (List D):=l.map fun x=>[.bool x]
def Blk (w:World) (g:Nat) (t:TypeId) (cs:Array Value):Prop:=w.heap[g]? = some (.cells cs t (0,0))
theorem Blk.lt {w:World} {g:Nat} {t:TypeId} {cs:Array Value} (h:Blk w g t cs):g<w.heap.size:=(Array.getElem?_eq_some_iff.1 h).1
theorem Blk.cell {w:World} {g:Nat} {t:TypeId} {cs:Array Value} (h:Blk w g t cs) (i:Nat):w.cell? ⟨g,i,none⟩=cs[i]? := by
 unfold Blk at h;simp [World.cell?,h]
theorem Blk.frozen {w:World} {g:Nat} {t:TypeId} {cs:Array Value} (h:Blk w g t cs) (i:Nat):w.frozen? ⟨g,i,none⟩=false:=by
 unfold Blk at h;simp [World.frozen?,h]
theorem Blk.new (w:World) (t:TypeId) (cs:Array Value):Blk (w.alloc (.cells cs t)) w.heap.size t cs:=by
 unfold Blk;simp only [World.alloc,Array.getElem?_push_size]
theorem Blk.newAt (w:World) (g:Nat) (t:TypeId) (cs:Array Value) (hg:g=w.heap.size):Blk (w.alloc (.cells cs t)) g t cs:=by subst hg;exact Blk.new w t cs
theorem Blk.alloc {w:World} {g:Nat} {t:TypeId} {cs:Array Value} (h:Blk w g t cs) (o:Obj):Blk (w.alloc o) g t cs:=(Below.heap_alloc w o g h.lt).trans h
theorem Blk.below {w w':World} {g B:Nat} {t:TypeId} {cs:Array Value} (h:Blk w g t cs) (hb:Below B w w') (hg:g<B):Blk w' g t cs:=(hb.block g hg).trans h
theorem Blk.same {w w':World} {g:Nat} {S:Nat->Prop} {t:TypeId} {cs:Array Value} (h:Blk w g t cs) (hs:Same S w w') (hg:S g):Blk w' g t cs:=(hs.block g hg h.lt).trans h
theorem Blk.set {w:World} {g:Nat} {t:TypeId} {cs:Array Value} (h:Blk w g t cs) (i:Nat) (u:Value):Blk (w.setCell ⟨g,i,none⟩ u) g t (cs.setIfInBounds i u):=by
 unfold Blk at h ⊢
 simp [World.setCell,Array.getElem?_modify,h]
theorem Blk.far {w:World} {g:Nat} {t:TypeId} {cs:Array Value} (h:Blk w g t cs) {p:Addr} (hp:g≠p.block) (u:Value):Blk (w.setCell p u) g t cs:=(Below.heap_setCell w p u g hp).trans h
theorem Blk.grown {w w':World} {g:Nat} {t:TypeId} {cs:Array Value} {row:Option Nat} (h:Blk w g t cs) (hb:w.grownBy w' row) (hg:some g≠row):Blk w' g t cs:=(hb.block g h.lt hg).trans h
theorem Blk.drew {w:World} {g:Nat} {t:TypeId} {cs:Array Value} (h:Blk w g t cs):Blk w.drew g t cs:=h
theorem Blk.next {w w':World} {g:Nat} {t:TypeId} {cs:Array Value} (h:Blk w g t cs) (hb:Below w.heap.size w w'):Blk w' g t cs:=h.below hb h.lt
theorem zc4 {B:Nat} {w w':World} (h:Below B w w') (n:Nat):Below B w (w'.drewN n):=⟨h.os,h.tape,h.output,h.size,h.block⟩
theorem znK {α:Type} {l:List α} (h:l.length=2):∃ v0 v1,l=[v0,v1]:=by
 match l,h with
 | [v0,v1],_=>exact ⟨v0,v1,rfl⟩
theorem zjV {α:Type} {l:List α} (h:l.length=5):∃ v0 v1 v2 v3 v4,l=[v0,v1,v2,v3,v4]:=by
 match l,h with
 | [v0,v1,v2,v3,v4],_=>exact ⟨v0,v1,v2,v3,v4,rfl⟩
theorem zvv {α:Type} {l:List α} (h:l.length=6):∃ v0 v1 v2 v3 v4 v5,l=[v0,v1,v2,v3,v4,v5]:=by
 match l,h with
 | [v0,v1,v2,v3,v4,v5],_=>exact ⟨v0,v1,v2,v3,v4,v5,rfl⟩
theorem zvu {α:Type} {l:List α} (h:l.length=8):∃ v0 v1 v2 v3 v4 v5 v6 v7,l=[v0,v1,v2,v3,v4,v5,v6,v7]:=by
 match l,h with
 | [v0,v1,v2,v3,v4,v5,v6,v7],_=>exact ⟨v0,v1,v2,v3,v4,v5,v6,v7,rfl⟩
theorem box8 {w:World} {g:Nat} {t:TypeId} {v0 v1 v2 v3 v4 v5 v6 v7:Value} (h:Blk w g t #[v0,v1,v2,v3,v4,v5,v6,v7]):w.cell? ⟨g,0,none⟩=some v0/\w.cell? ⟨g,1,none⟩=some v1/\w.cell? ⟨g,2,none⟩=some v2/\w.cell? ⟨g,3,none⟩=some v3/\w.cell? ⟨g,4,none⟩=some v4/\w.cell? ⟨g,5,none⟩=some v5/\w.cell? ⟨g,6,none⟩=some v6/\w.cell? ⟨g,7,none⟩=some v7:=
 ⟨h.cell 0,h.cell 1,h.cell 2,h.cell 3,h.cell 4,h.cell 5,h.cell 6,h.cell 7⟩
theorem zpB {α:Type} {l:List α} (h:l.length=15):∃ v0 v1 v2 v3 v4 v5 v6 v7 v8 v9 v10 v11 v12 v13 v14,l=[v0,v1,v2,v3,v4,v5,v6,v7,v8,v9,v10,v11,v12,v13,v14]:=by
 match l,h with
 | [v0,v1,v2,v3,v4,v5,v6,v7,v8,v9,v10,v11,v12,v13,v14],_=>exact ⟨v0,v1,v2,v3,v4,v5,v6,v7,v8,v9,v10,v11,v12,v13,v14,rfl⟩
structure Config where
 voters:List Int
 learners:List Int
 deriving DecidableEq,Inhabited
def Config.ty:List Ty:=[.sl [.int .i64],.sl [.int .i64]]
def Config.enc (x:Config):List D:=[.sl (ints x.voters),.sl (ints x.learners)]
theorem Config.ty_len:Config.ty.length=2:=rfl
theorem Config.opens {w:World} {S:Nat->Prop} {vs:List Value} {x:Config} (h:RdL w S Config.ty vs x.enc):∃ (a0:Option Addr) (c0:Nat) (a1:Option Addr) (c1:Nat),vs=[.slice a0 (x.voters).length c0,.slice a1 (x.learners).length c1]/\SlI w S a0 (x.voters).length c0 x.voters/\SlI w S a1 (x.learners).length c1 x.learners:=by
 match vs,h with
 | [v0,v1],h=>
  obtain ⟨h0,h1,_⟩:=h
  obtain ⟨a0,c0,rfl,k0⟩:=h0.sl'
  rw [zap] at k0
  obtain ⟨a1,c1,rfl,k1⟩:=h1.sl'
  rw [zap] at k1
  exact ⟨a0,c0,a1,c1,(by simp [ints,zfd,strs,List.length_map]),k0,k1⟩
structure Entry where
 index:Int
 term:Int
 kind:Int
 config:Config
 data:ByteArray
 deriving DecidableEq,Inhabited
def Entry.ty:List Ty:=[.int .i64,.int .i64,.int .i64,.sl [.int .i64],.sl [.int .i64],.str]
def Entry.enc (x:Entry):List D:=[.int x.index,.int x.term,.int x.kind,.sl (ints x.config.voters),.sl (ints x.config.learners),.str x.data]
theorem Entry.ty_len:Entry.ty.length=6:=rfl
theorem Entry.opens {w:World} {S:Nat->Prop} {vs:List Value} {x:Entry} (h:RdL w S Entry.ty vs x.enc):∃ (a3:Option Addr) (c3:Nat) (a4:Option Addr) (c4:Nat),vs=[.int .i64 x.index,.int .i64 x.term,.int .i64 x.kind,.slice a3 (x.config.voters).length c3,.slice a4 (x.config.learners).length c4,.string x.data]/\I64 x.index/\I64 x.term/\I64 x.kind/\SlI w S a3 (x.config.voters).length c3 x.config.voters/\SlI w S a4 (x.config.learners).length c4 x.config.learners/\(x.data).size<=140737488355328:=by
 match vs,h with
 | [v0,v1,v2,v3,v4,v5],h=>
  obtain ⟨h0,h1,h2,h3,h4,h5,_⟩:=h
  obtain ⟨rfl,k0⟩:=h0.i64
  obtain ⟨rfl,k1⟩:=h1.i64
  obtain ⟨rfl,k2⟩:=h2.i64
  obtain ⟨a3,c3,rfl,k3⟩:=h3.sl'
  rw [zap] at k3
  obtain ⟨a4,c4,rfl,k4⟩:=h4.sl'
  rw [zap] at k4
  obtain ⟨rfl,k5⟩:=h5.str'
  exact ⟨a3,c3,a4,c4,(by simp [ints,zfd,strs,List.length_map]),k0,k1,k2,k3,k4,k5⟩
theorem Entry.row {w:World} {S:Nat->Prop} {b off n c i:Nat} {xs:List Entry} (h:Sl w S Entry.ty (some ⟨b,off,none⟩) n c (xs.map Entry.enc)) (hi:i<n):S b/\b<w.heap.size/\∃ (a3:Option Addr) (c3:Nat) (a4:Option Addr) (c4:Nat),w.cell? ⟨b,off+i*6,none⟩=some (.int .i64 (xs.getD i default).index)/\w.cell? ⟨b,off+i*6+1,none⟩=some (.int .i64 (xs.getD i default).term)/\w.cell? ⟨b,off+i*6+2,none⟩=some (.int .i64 (xs.getD i default).kind)/\w.cell? ⟨b,off+i*6+3,none⟩=some (.slice a3 ((xs.getD i default).config.voters).length c3)/\w.cell? ⟨b,off+i*6+4,none⟩=some (.slice a4 ((xs.getD i default).config.learners).length c4)/\w.cell? ⟨b,off+i*6+5,none⟩=some (.string (xs.getD i default).data)/\I64 (xs.getD i default).index/\I64 (xs.getD i default).term/\I64 (xs.getD i default).kind/\SlI w S a3 ((xs.getD i default).config.voters).length c3 (xs.getD i default).config.voters/\SlI w S a4 ((xs.getD i default).config.learners).length c4 (xs.getD i default).config.learners/\((xs.getD i default).data).size<=140737488355328:=by
 have hl:=h.len
 rw [List.length_map] at hl
 obtain ⟨b2,off2,e,hS,hb,vals,hc,hr⟩:=h.rowAt (by omega)
 simp only [Option.some.injEq,Addr.mk.injEq,and_true] at e
 obtain ⟨rfl,rfl⟩:=e
 have hr1:=hr i hi
 have he:(xs.map Entry.enc).getD i []=(xs.getD i default).enc:=by simp [List.getD,show i<xs.length by omega]
 rw [he] at hr1
 have hL:=RdL.of_at (ts:=Entry.ty) (vals i) hr1.1 hr1.2
 obtain ⟨a3,c3,a4,c4,e,k0,k1,k2,k3,k4,k5⟩:=Entry.opens hL
 rw [show Entry.ty.length=6 from rfl] at hc e
 simp only [List.range_succ,List.range_zero,List.nil_append,List.cons_append,List.map_cons,List.map_nil,List.cons.injEq,and_true] at e
 obtain ⟨e0,e1,e2,e3,e4,e5⟩:=e
 refine ⟨hS,hb,a3,c3,a4,c4,?_,?_,?_,?_,?_,?_,k0,k1,k2,k3,k4,k5⟩
 ·rw [<- e0];exact hc i 0 hi (by omega)
 ·rw [<- e1];exact hc i 1 hi (by omega)
 ·rw [<- e2];exact hc i 2 hi (by omega)
 ·rw [<- e3];exact hc i 3 hi (by omega)
 ·rw [<- e4];exact hc i 4 hi (by omega)
 ·rw [<- e5];exact hc i 5 hi (by omega)
structure Snap where
 index:Int
 term:Int
 config:Config
 data:ByteArray
 deriving DecidableEq,Inhabited
def Snap.ty:List Ty:=[.int .i64,.int .i64,.sl [.int .i64],.sl [.int .i64],.str]
def Snap.enc (x:Snap):List D:=[.int x.index,.int x.term,.sl (ints x.config.voters),.sl (ints x.config.learners),.str x.data]
theorem Snap.ty_len:Snap.ty.length=5:=rfl
theorem Snap.opens {w:World} {S:Nat->Prop} {vs:List Value} {x:Snap} (h:RdL w S Snap.ty vs x.enc):∃ (a2:Option Addr) (c2:Nat) (a3:Option Addr) (c3:Nat),vs=[.int .i64 x.index,.int .i64 x.term,.slice a2 (x.config.voters).length c2,.slice a3 (x.config.learners).length c3,.string x.data]/\I64 x.index/\I64 x.term/\SlI w S a2 (x.config.voters).length c2 x.config.voters/\SlI w S a3 (x.config.learners).length c3 x.config.learners/\(x.data).size<=140737488355328:=by
 match vs,h with
 | [v0,v1,v2,v3,v4],h=>
  obtain ⟨h0,h1,h2,h3,h4,_⟩:=h
  obtain ⟨rfl,k0⟩:=h0.i64
  obtain ⟨rfl,k1⟩:=h1.i64
  obtain ⟨a2,c2,rfl,k2⟩:=h2.sl'
  rw [zap] at k2
  obtain ⟨a3,c3,rfl,k3⟩:=h3.sl'
  rw [zap] at k3
  obtain ⟨rfl,k4⟩:=h4.str'
  exact ⟨a2,c2,a3,c3,(by simp [ints,zfd,strs,List.length_map]),k0,k1,k2,k3,k4⟩
structure Kept where
 term:Int
 vote:Int
 snap:Snap
 entries:List Entry
 deriving DecidableEq,Inhabited
def Kept.ty:List Ty:=[.int .i64,.int .i64,.int .i64,.int .i64,.sl [.int .i64],.sl [.int .i64],.str,.sl Entry.ty]
def Kept.enc (x:Kept):List D:=[.int x.term,.int x.vote,.int x.snap.index,.int x.snap.term,.sl (ints x.snap.config.voters),.sl (ints x.snap.config.learners),.str x.snap.data,.sl (x.entries.map Entry.enc)]
theorem Kept.ty_len:Kept.ty.length=8:=rfl
theorem Kept.opens {w:World} {S:Nat->Prop} {vs:List Value} {x:Kept} (h:RdL w S Kept.ty vs x.enc):∃ (a4:Option Addr) (c4:Nat) (a5:Option Addr) (c5:Nat) (a7:Option Addr) (c7:Nat),vs=[.int .i64 x.term,.int .i64 x.vote,.int .i64 x.snap.index,.int .i64 x.snap.term,.slice a4 (x.snap.config.voters).length c4,.slice a5 (x.snap.config.learners).length c5,.string x.snap.data,.slice a7 (x.entries).length c7]/\I64 x.term/\I64 x.vote/\I64 x.snap.index/\I64 x.snap.term/\SlI w S a4 (x.snap.config.voters).length c4 x.snap.config.voters/\SlI w S a5 (x.snap.config.learners).length c5 x.snap.config.learners/\(x.snap.data).size<=140737488355328/\Sl w S Entry.ty a7 (x.entries).length c7 ((x.entries).map Entry.enc):=by
 match vs,h with
 | [v0,v1,v2,v3,v4,v5,v6,v7],h=>
  obtain ⟨h0,h1,h2,h3,h4,h5,h6,h7,_⟩:=h
  obtain ⟨rfl,k0⟩:=h0.i64
  obtain ⟨rfl,k1⟩:=h1.i64
  obtain ⟨rfl,k2⟩:=h2.i64
  obtain ⟨rfl,k3⟩:=h3.i64
  obtain ⟨a4,c4,rfl,k4⟩:=h4.sl'
  rw [zap] at k4
  obtain ⟨a5,c5,rfl,k5⟩:=h5.sl'
  rw [zap] at k5
  obtain ⟨rfl,k6⟩:=h6.str'
  obtain ⟨a7,c7,rfl,k7⟩:=h7.sl'
  rw [List.length_map] at k7
  exact ⟨a4,c4,a5,c5,a7,c7,(by simp [ints,zfd,strs,List.length_map]),k0,k1,k2,k3,k4,k5,k6,k7⟩
structure Record where
 kind:Int
 term:Int
 vote:Int
 entry:Entry
 index:Int
 snap:Snap
 deriving DecidableEq,Inhabited
def Record.ty:List Ty:=[.int .i64,.int .i64,.int .i64,.int .i64,.int .i64,.int .i64,.sl [.int .i64],.sl [.int .i64],.str,.int .i64,.int .i64,.int .i64,.sl [.int .i64],.sl [.int .i64],.str]
def Record.enc (x:Record):List D:=[.int x.kind,.int x.term,.int x.vote,.int x.entry.index,.int x.entry.term,.int x.entry.kind,.sl (ints x.entry.config.voters),.sl (ints x.entry.config.learners),.str x.entry.data,.int x.index,.int x.snap.index,.int x.snap.term,.sl (ints x.snap.config.voters),.sl (ints x.snap.config.learners),.str x.snap.data]
theorem Record.ty_len:Record.ty.length=15:=rfl
theorem Record.opens {w:World} {S:Nat->Prop} {vs:List Value} {x:Record} (h:RdL w S Record.ty vs x.enc):∃ (a6:Option Addr) (c6:Nat) (a7:Option Addr) (c7:Nat) (a12:Option Addr) (c12:Nat) (a13:Option Addr) (c13:Nat),vs=[.int .i64 x.kind,.int .i64 x.term,.int .i64 x.vote,.int .i64 x.entry.index,.int .i64 x.entry.term,.int .i64 x.entry.kind,.slice a6 (x.entry.config.voters).length c6,.slice a7 (x.entry.config.learners).length c7,.string x.entry.data,.int .i64 x.index,.int .i64 x.snap.index,.int .i64 x.snap.term,.slice a12 (x.snap.config.voters).length c12,.slice a13 (x.snap.config.learners).length c13,.string x.snap.data]/\I64 x.kind/\I64 x.term/\I64 x.vote/\I64 x.entry.index/\I64 x.entry.term/\I64 x.entry.kind/\SlI w S a6 (x.entry.config.voters).length c6 x.entry.config.voters/\SlI w S a7 (x.entry.config.learners).length c7 x.entry.config.learners/\(x.entry.data).size<=140737488355328/\I64 x.index/\I64 x.snap.index/\I64 x.snap.term/\SlI w S a12 (x.snap.config.voters).length c12 x.snap.config.voters/\SlI w S a13 (x.snap.config.learners).length c13 x.snap.config.learners/\(x.snap.data).size<=140737488355328:=by
 match vs,h with
 | [v0,v1,v2,v3,v4,v5,v6,v7,v8,v9,v10,v11,v12,v13,v14],h=>
  obtain ⟨h0,h1,h2,h3,h4,h5,h6,h7,h8,h9,h10,h11,h12,h13,h14,_⟩:=h
  obtain ⟨rfl,k0⟩:=h0.i64
  obtain ⟨rfl,k1⟩:=h1.i64
  obtain ⟨rfl,k2⟩:=h2.i64
  obtain ⟨rfl,k3⟩:=h3.i64
  obtain ⟨rfl,k4⟩:=h4.i64
  obtain ⟨rfl,k5⟩:=h5.i64
  obtain ⟨a6,c6,rfl,k6⟩:=h6.sl'
  rw [zap] at k6
  obtain ⟨a7,c7,rfl,k7⟩:=h7.sl'
  rw [zap] at k7
  obtain ⟨rfl,k8⟩:=h8.str'
  obtain ⟨rfl,k9⟩:=h9.i64
  obtain ⟨rfl,k10⟩:=h10.i64
  obtain ⟨rfl,k11⟩:=h11.i64
  obtain ⟨a12,c12,rfl,k12⟩:=h12.sl'
  rw [zap] at k12
  obtain ⟨a13,c13,rfl,k13⟩:=h13.sl'
  rw [zap] at k13
  obtain ⟨rfl,k14⟩:=h14.str'
  exact ⟨a6,c6,a7,c7,a12,c12,a13,c13,(by simp [ints,zfd,strs,List.length_map]),k0,k1,k2,k3,k4,k5,k6,k7,k8,k9,k10,k11,k12,k13,k14⟩
theorem zvw {α:Type} {l:List α} (h:l.length=3):∃ v0 v1 v2,l=[v0,v1,v2]:=by
 match l,h with
 | [v0,v1,v2],_=>exact ⟨v0,v1,v2,rfl⟩
theorem znJ {α:Type} {l:List α} (h:l.length=4):∃ v0 v1 v2 v3,l=[v0,v1,v2,v3]:=by
 match l,h with
 | [v0,v1,v2,v3],_=>exact ⟨v0,v1,v2,v3,rfl⟩
theorem zpA {α:Type} {l:List α} (h:l.length=17):∃ v0 v1 v2 v3 v4 v5 v6 v7 v8 v9 v10 v11 v12 v13 v14 v15 v16,l=[v0,v1,v2,v3,v4,v5,v6,v7,v8,v9,v10,v11,v12,v13,v14,v15,v16]:=by
 match l,h with
 | [v0,v1,v2,v3,v4,v5,v6,v7,v8,v9,v10,v11,v12,v13,v14,v15,v16],_=>exact ⟨v0,v1,v2,v3,v4,v5,v6,v7,v8,v9,v10,v11,v12,v13,v14,v15,v16,rfl⟩
theorem zp9 {α:Type} {l:List α} (h:l.length=18):∃ v0 v1 v2 v3 v4 v5 v6 v7 v8 v9 v10 v11 v12 v13 v14 v15 v16 v17,l=[v0,v1,v2,v3,v4,v5,v6,v7,v8,v9,v10,v11,v12,v13,v14,v15,v16,v17]:=by
 match l,h with
 | [v0,v1,v2,v3,v4,v5,v6,v7,v8,v9,v10,v11,v12,v13,v14,v15,v16,v17],_=>exact ⟨v0,v1,v2,v3,v4,v5,v6,v7,v8,v9,v10,v11,v12,v13,v14,v15,v16,v17,rfl⟩
structure Change where
 kind:Int
 node:Int
 deriving DecidableEq,Inhabited
def Change.ty:List Ty:=[.int .i64,.int .i64]
def Change.enc (x:Change):List D:=[.int x.kind,.int x.node]
theorem Change.ty_len:Change.ty.length=2:=rfl
theorem Change.opens {w:World} {S:Nat->Prop} {vs:List Value} {x:Change} (h:RdL w S Change.ty vs x.enc):vs=[.int .i64 x.kind,.int .i64 x.node]/\I64 x.kind/\I64 x.node:=by
 match vs,h with
 | [v0,v1],h=>
  obtain ⟨h0,h1,_⟩:=h
  obtain ⟨rfl,k0⟩:=h0.i64
  obtain ⟨rfl,k1⟩:=h1.i64
  exact ⟨rfl,k0,k1⟩
structure Peer where
 node:Int
 next:Int
 match_:Int
 round:Int
 deriving DecidableEq,Inhabited
def Peer.ty:List Ty:=[.int .i64,.int .i64,.int .i64,.int .i64]
def Peer.enc (x:Peer):List D:=[.int x.node,.int x.next,.int x.match_,.int x.round]
theorem Peer.ty_len:Peer.ty.length=4:=rfl
theorem Peer.opens {w:World} {S:Nat->Prop} {vs:List Value} {x:Peer} (h:RdL w S Peer.ty vs x.enc):vs=[.int .i64 x.node,.int .i64 x.next,.int .i64 x.match_,.int .i64 x.round]/\I64 x.node/\I64 x.next/\I64 x.match_/\I64 x.round:=by
 match vs,h with
 | [v0,v1,v2,v3],h=>
  obtain ⟨h0,h1,h2,h3,_⟩:=h
  obtain ⟨rfl,k0⟩:=h0.i64
  obtain ⟨rfl,k1⟩:=h1.i64
  obtain ⟨rfl,k2⟩:=h2.i64
  obtain ⟨rfl,k3⟩:=h3.i64
  exact ⟨rfl,k0,k1,k2,k3⟩
structure Read where
 token:Int
 index:Int
 round:Int
 deriving DecidableEq,Inhabited
def Read.ty:List Ty:=[.int .i64,.int .i64,.int .i64]
def Read.enc (x:Read):List D:=[.int x.token,.int x.index,.int x.round]
theorem Read.ty_len:Read.ty.length=3:=rfl
theorem Read.opens {w:World} {S:Nat->Prop} {vs:List Value} {x:Read} (h:RdL w S Read.ty vs x.enc):vs=[.int .i64 x.token,.int .i64 x.index,.int .i64 x.round]/\I64 x.token/\I64 x.index/\I64 x.round:=by
 match vs,h with
 | [v0,v1,v2],h=>
  obtain ⟨h0,h1,h2,_⟩:=h
  obtain ⟨rfl,k0⟩:=h0.i64
  obtain ⟨rfl,k1⟩:=h1.i64
  obtain ⟨rfl,k2⟩:=h2.i64
  exact ⟨rfl,k0,k1,k2⟩
structure Message where
 kind:Int
 from_:Int
 to_:Int
 term:Int
 index:Int
 logTerm:Int
 entries:List Entry
 commit:Int
 round:Int
 ok:Bool
 snap:Snap
 ask:Int
 seq:Int
 data:ByteArray
 deriving DecidableEq,Inhabited
def Message.ty:List Ty:=[.int .i64,.int .i64,.int .i64,.int .i64,.int .i64,.int .i64,.sl Entry.ty,.int .i64,.int .i64,.bool,.int .i64,.int .i64,.sl [.int .i64],.sl [.int .i64],.str,.int .i64,.int .i64,.str]
def Message.enc (x:Message):List D:=[.int x.kind,.int x.from_,.int x.to_,.int x.term,.int x.index,.int x.logTerm,.sl (x.entries.map Entry.enc),.int x.commit,.int x.round,.bool x.ok,.int x.snap.index,.int x.snap.term,.sl (ints x.snap.config.voters),.sl (ints x.snap.config.learners),.str x.snap.data,.int x.ask,.int x.seq,.str x.data]
theorem Message.ty_len:Message.ty.length=18:=rfl
theorem Message.opens {w:World} {S:Nat->Prop} {vs:List Value} {x:Message} (h:RdL w S Message.ty vs x.enc):∃ (a6:Option Addr) (c6:Nat) (a12:Option Addr) (c12:Nat) (a13:Option Addr) (c13:Nat),vs=[.int .i64 x.kind,.int .i64 x.from_,.int .i64 x.to_,.int .i64 x.term,.int .i64 x.index,.int .i64 x.logTerm,.slice a6 (x.entries).length c6,.int .i64 x.commit,.int .i64 x.round,.bool x.ok,.int .i64 x.snap.index,.int .i64 x.snap.term,.slice a12 (x.snap.config.voters).length c12,.slice a13 (x.snap.config.learners).length c13,.string x.snap.data,.int .i64 x.ask,.int .i64 x.seq,.string x.data]/\I64 x.kind/\I64 x.from_/\I64 x.to_/\I64 x.term/\I64 x.index/\I64 x.logTerm/\Sl w S Entry.ty a6 (x.entries).length c6 ((x.entries).map Entry.enc)/\I64 x.commit/\I64 x.round/\I64 x.snap.index/\I64 x.snap.term/\SlI w S a12 (x.snap.config.voters).length c12 x.snap.config.voters/\SlI w S a13 (x.snap.config.learners).length c13 x.snap.config.learners/\(x.snap.data).size<=140737488355328/\I64 x.ask/\I64 x.seq/\(x.data).size<=140737488355328:=by
 match vs,h with
 | [v0,v1,v2,v3,v4,v5,v6,v7,v8,v9,v10,v11,v12,v13,v14,v15,v16,v17],h=>
  obtain ⟨h0,h1,h2,h3,h4,h5,h6,h7,h8,h9,h10,h11,h12,h13,h14,h15,h16,h17,_⟩:=h
  obtain ⟨rfl,k0⟩:=h0.i64
  obtain ⟨rfl,k1⟩:=h1.i64
  obtain ⟨rfl,k2⟩:=h2.i64
  obtain ⟨rfl,k3⟩:=h3.i64
  obtain ⟨rfl,k4⟩:=h4.i64
  obtain ⟨rfl,k5⟩:=h5.i64
  obtain ⟨a6,c6,rfl,k6⟩:=h6.sl'
  rw [List.length_map] at k6
  obtain ⟨rfl,k7⟩:=h7.i64
  obtain ⟨rfl,k8⟩:=h8.i64
  obtain rfl:=h9.bool'
  obtain ⟨rfl,k10⟩:=h10.i64
  obtain ⟨rfl,k11⟩:=h11.i64
  obtain ⟨a12,c12,rfl,k12⟩:=h12.sl'
  rw [zap] at k12
  obtain ⟨a13,c13,rfl,k13⟩:=h13.sl'
  rw [zap] at k13
  obtain ⟨rfl,k14⟩:=h14.str'
  obtain ⟨rfl,k15⟩:=h15.i64
  obtain ⟨rfl,k16⟩:=h16.i64
  obtain ⟨rfl,k17⟩:=h17.str'
  exact ⟨a6,c6,a12,c12,a13,c13,(by simp [ints,zfd,strs,List.length_map]),k0,k1,k2,k3,k4,k5,k6,k7,k8,k10,k11,k12,k13,k14,k15,k16,k17⟩
structure Node where
 id:Int
 role:Int
 kept:Kept
 commit:Int
 lead:Int
 elapsed:Int
 yes:List Int
 peers:List Peer
 round:Int
 reads:List Read
 deriving DecidableEq,Inhabited
def Node.ty:List Ty:=[.int .i64,.int .i64,.int .i64,.int .i64,.int .i64,.int .i64,.sl [.int .i64],.sl [.int .i64],.str,.sl Entry.ty,.int .i64,.int .i64,.int .i64,.sl [.int .i64],.sl Peer.ty,.int .i64,.sl Read.ty]
def Node.enc (x:Node):List D:=[.int x.id,.int x.role,.int x.kept.term,.int x.kept.vote,.int x.kept.snap.index,.int x.kept.snap.term,.sl (ints x.kept.snap.config.voters),.sl (ints x.kept.snap.config.learners),.str x.kept.snap.data,.sl (x.kept.entries.map Entry.enc),.int x.commit,.int x.lead,.int x.elapsed,.sl (ints x.yes),.sl (x.peers.map Peer.enc),.int x.round,.sl (x.reads.map Read.enc)]
theorem Node.ty_len:Node.ty.length=17:=rfl
theorem Node.opens {w:World} {S:Nat->Prop} {vs:List Value} {x:Node} (h:RdL w S Node.ty vs x.enc):∃ (a6:Option Addr) (c6:Nat) (a7:Option Addr) (c7:Nat) (a9:Option Addr) (c9:Nat) (a13:Option Addr) (c13:Nat) (a14:Option Addr) (c14:Nat) (a16:Option Addr) (c16:Nat),vs=[.int .i64 x.id,.int .i64 x.role,.int .i64 x.kept.term,.int .i64 x.kept.vote,.int .i64 x.kept.snap.index,.int .i64 x.kept.snap.term,.slice a6 (x.kept.snap.config.voters).length c6,.slice a7 (x.kept.snap.config.learners).length c7,.string x.kept.snap.data,.slice a9 (x.kept.entries).length c9,.int .i64 x.commit,.int .i64 x.lead,.int .i64 x.elapsed,.slice a13 (x.yes).length c13,.slice a14 (x.peers).length c14,.int .i64 x.round,.slice a16 (x.reads).length c16]/\I64 x.id/\I64 x.role/\I64 x.kept.term/\I64 x.kept.vote/\I64 x.kept.snap.index/\I64 x.kept.snap.term/\SlI w S a6 (x.kept.snap.config.voters).length c6 x.kept.snap.config.voters/\SlI w S a7 (x.kept.snap.config.learners).length c7 x.kept.snap.config.learners/\(x.kept.snap.data).size<=140737488355328/\Sl w S Entry.ty a9 (x.kept.entries).length c9 ((x.kept.entries).map Entry.enc)/\I64 x.commit/\I64 x.lead/\I64 x.elapsed/\SlI w S a13 (x.yes).length c13 x.yes/\Sl w S Peer.ty a14 (x.peers).length c14 ((x.peers).map Peer.enc)/\I64 x.round/\Sl w S Read.ty a16 (x.reads).length c16 ((x.reads).map Read.enc):=by
 match vs,h with
 | [v0,v1,v2,v3,v4,v5,v6,v7,v8,v9,v10,v11,v12,v13,v14,v15,v16],h=>
  obtain ⟨h0,h1,h2,h3,h4,h5,h6,h7,h8,h9,h10,h11,h12,h13,h14,h15,h16,_⟩:=h
  obtain ⟨rfl,k0⟩:=h0.i64
  obtain ⟨rfl,k1⟩:=h1.i64
  obtain ⟨rfl,k2⟩:=h2.i64
  obtain ⟨rfl,k3⟩:=h3.i64
  obtain ⟨rfl,k4⟩:=h4.i64
  obtain ⟨rfl,k5⟩:=h5.i64
  obtain ⟨a6,c6,rfl,k6⟩:=h6.sl'
  rw [zap] at k6
  obtain ⟨a7,c7,rfl,k7⟩:=h7.sl'
  rw [zap] at k7
  obtain ⟨rfl,k8⟩:=h8.str'
  obtain ⟨a9,c9,rfl,k9⟩:=h9.sl'
  rw [List.length_map] at k9
  obtain ⟨rfl,k10⟩:=h10.i64
  obtain ⟨rfl,k11⟩:=h11.i64
  obtain ⟨rfl,k12⟩:=h12.i64
  obtain ⟨a13,c13,rfl,k13⟩:=h13.sl'
  rw [zap] at k13
  obtain ⟨a14,c14,rfl,k14⟩:=h14.sl'
  rw [List.length_map] at k14
  obtain ⟨rfl,k15⟩:=h15.i64
  obtain ⟨a16,c16,rfl,k16⟩:=h16.sl'
  rw [List.length_map] at k16
  exact ⟨a6,c6,a7,c7,a9,c9,a13,c13,a14,c14,a16,c16,(by simp [ints,zfd,strs,List.length_map]),k0,k1,k2,k3,k4,k5,k6,k7,k8,k9,k10,k11,k12,k13,k14,k15,k16⟩
structure Out where
 records:List Record
 messages:List Message
 ready:List Read
 lost:List Int
 deriving DecidableEq,Inhabited
def Out.ty:List Ty:=[.sl Record.ty,.sl Message.ty,.sl Read.ty,.sl [.int .i64]]
def Out.enc (x:Out):List D:=[.sl (x.records.map Record.enc),.sl (x.messages.map Message.enc),.sl (x.ready.map Read.enc),.sl (ints x.lost)]
theorem Out.ty_len:Out.ty.length=4:=rfl
theorem Out.opens {w:World} {S:Nat->Prop} {vs:List Value} {x:Out} (h:RdL w S Out.ty vs x.enc):∃ (a0:Option Addr) (c0:Nat) (a1:Option Addr) (c1:Nat) (a2:Option Addr) (c2:Nat) (a3:Option Addr) (c3:Nat),vs=[.slice a0 (x.records).length c0,.slice a1 (x.messages).length c1,.slice a2 (x.ready).length c2,.slice a3 (x.lost).length c3]/\Sl w S Record.ty a0 (x.records).length c0 ((x.records).map Record.enc)/\Sl w S Message.ty a1 (x.messages).length c1 ((x.messages).map Message.enc)/\Sl w S Read.ty a2 (x.ready).length c2 ((x.ready).map Read.enc)/\SlI w S a3 (x.lost).length c3 x.lost:=by
 match vs,h with
 | [v0,v1,v2,v3],h=>
  obtain ⟨h0,h1,h2,h3,_⟩:=h
  obtain ⟨a0,c0,rfl,k0⟩:=h0.sl'
  rw [List.length_map] at k0
  obtain ⟨a1,c1,rfl,k1⟩:=h1.sl'
  rw [List.length_map] at k1
  obtain ⟨a2,c2,rfl,k2⟩:=h2.sl'
  rw [List.length_map] at k2
  obtain ⟨a3,c3,rfl,k3⟩:=h3.sl'
  rw [zap] at k3
  exact ⟨a0,c0,a1,c1,a2,c2,a3,c3,(by simp [ints,zfd,strs,List.length_map]),k0,k1,k2,k3⟩
@[simp] abbrev qN0 (a b : Node) (P : Prop) : Prop := a.id = b.id /\ a.role = b.role /\ a.kept.term = b.kept.term /\ a.kept.vote = b.kept.vote /\ a.kept.snap.index = b.kept.snap.index /\ a.kept.snap.term = b.kept.snap.term /\ a.kept.snap.config.voters = b.kept.snap.config.voters /\ a.kept.snap.config.learners = b.kept.snap.config.learners /\ a.kept.snap.data = b.kept.snap.data /\ P
@[simp] abbrev qN1 (a b : Node) (P : Prop) : Prop := a.commit = b.commit /\ a.lead = b.lead /\ a.elapsed = b.elapsed /\ a.round = b.round /\ a.kept.entries = b.kept.entries /\ a.yes = b.yes /\ a.peers = b.peers /\ P
@[simp] abbrev qN2 (a b : Node) (P : Prop) : Prop := a.kept.entries = b.kept.entries /\ a.commit = b.commit /\ a.lead = b.lead /\ a.elapsed = b.elapsed /\ a.yes = b.yes /\ a.peers = b.peers /\ a.round = b.round /\ P
@[simp] abbrev qN3 (a b : Node) (P : Prop) : Prop := a.commit = b.commit /\ a.lead = b.lead /\ a.elapsed = b.elapsed /\ a.round = b.round /\ a.kept.entries = b.kept.entries /\ a.yes = b.yes /\ a.peers = b.peers /\ a.reads = b.reads /\ P
@[simp] abbrev qO4 (a b : Out) (P : Prop) : Prop := a.records = b.records /\ a.ready = b.ready /\ a.lost = b.lost /\ P
@[simp] abbrev qN5 (a b : Node) (P : Prop) : Prop := a.kept.entries = b.kept.entries /\ a.commit = b.commit /\ a.lead = b.lead /\ a.elapsed = b.elapsed /\ a.round = b.round /\ a.yes = b.yes /\ a.peers = b.peers /\ a.reads = b.reads /\ P
@[simp] abbrev qN6 (a b : Node) (P : Prop) : Prop := a.kept.snap.index = b.kept.snap.index /\ a.kept.snap.term = b.kept.snap.term /\ a.kept.snap.config.voters = b.kept.snap.config.voters /\ a.kept.snap.config.learners = b.kept.snap.config.learners /\ a.kept.snap.data = b.kept.snap.data /\ a.commit = b.commit /\ a.lead = b.lead /\ a.elapsed = b.elapsed /\ a.round = b.round /\ a.kept.entries = b.kept.entries /\ a.yes = b.yes /\ a.peers = b.peers /\ a.reads = b.reads /\ P
@[simp] abbrev qN7 (a b : Node) (P : Prop) : Prop := a.commit = b.commit /\ a.lead = b.lead /\ a.elapsed = b.elapsed /\ a.round = b.round /\ P
@[simp] abbrev qN8 (a b : Node) (P : Prop) : Prop := a.yes = b.yes /\ a.peers = b.peers /\ a.reads = b.reads /\ P
@[simp] abbrev qN9 (a b : Node) (P : Prop) : Prop := a.id = b.id /\ a.role = b.role /\ a.kept.term = b.kept.term /\ a.kept.vote = b.kept.vote /\ P
@[simp] abbrev qN10 (a b : Node) (P : Prop) : Prop := a.kept.snap.index = b.kept.snap.index /\ a.kept.snap.term = b.kept.snap.term /\ a.kept.snap.config.voters = b.kept.snap.config.voters /\ a.kept.snap.config.learners = b.kept.snap.config.learners /\ a.kept.snap.data = b.kept.snap.data /\ a.kept.entries = b.kept.entries /\ P
@[simp] abbrev qN11 (a b : Node) (P : Prop) : Prop := a.commit = b.commit /\ a.lead = b.lead /\ a.elapsed = b.elapsed /\ a.round = b.round /\ a.yes = b.yes /\ a.peers = b.peers /\ a.reads = b.reads /\ P
@[simp] abbrev qN12 (a b : Node) (P : Prop) : Prop := a.kept.term = b.kept.term /\ a.kept.vote = b.kept.vote /\ a.kept.snap.index = b.kept.snap.index /\ a.kept.snap.term = b.kept.snap.term /\ a.kept.snap.config.voters = b.kept.snap.config.voters /\ a.kept.snap.config.learners = b.kept.snap.config.learners /\ a.kept.snap.data = b.kept.snap.data /\ a.commit = b.commit /\ P
@[simp] abbrev qO13 (a b : Out) (P : Prop) : Prop := a.records = b.records /\ a.messages = b.messages /\ a.ready = b.ready /\ P
@[simp] abbrev qN14 (a b : Node) (P : Prop) : Prop := a.kept.entries = b.kept.entries /\ a.yes = b.yes /\ a.peers = b.peers /\ P
@[simp] abbrev qN15 (a b : Node) (P : Prop) : Prop := a.kept.entries = b.kept.entries /\ a.yes = b.yes /\ a.peers = b.peers /\ a.reads = b.reads /\ P
@[simp] abbrev qO16 (a b : Out) (P : Prop) : Prop := a.records = b.records /\ a.messages = b.messages /\ a.lost = b.lost /\ P
@[simp] abbrev qN17 (a b : Node) (P : Prop) : Prop := a.kept.term = b.kept.term /\ a.kept.vote = b.kept.vote /\ a.kept.snap.index = b.kept.snap.index /\ a.kept.snap.term = b.kept.snap.term /\ a.kept.snap.config.voters = b.kept.snap.config.voters /\ a.kept.snap.config.learners = b.kept.snap.config.learners /\ a.kept.snap.data = b.kept.snap.data /\ a.commit = b.commit /\ a.lead = b.lead /\ a.elapsed = b.elapsed /\ a.round = b.round /\ P
@[simp] abbrev qN18 (a b : Node) (P : Prop) : Prop := a.kept.term = b.kept.term /\ a.kept.vote = b.kept.vote /\ a.kept.snap.index = b.kept.snap.index /\ a.kept.snap.term = b.kept.snap.term /\ a.kept.snap.config.voters = b.kept.snap.config.voters /\ a.kept.snap.config.learners = b.kept.snap.config.learners /\ a.kept.snap.data = b.kept.snap.data /\ a.commit = b.commit /\ a.lead = b.lead /\ a.elapsed = b.elapsed /\ a.round = b.round /\ a.kept.entries = b.kept.entries /\ P
@[simp] abbrev qN19 (a b : Node) (P : Prop) : Prop := a.commit = b.commit /\ a.lead = b.lead /\ a.elapsed = b.elapsed /\ a.round = b.round /\ a.kept.entries = b.kept.entries /\ P
@[simp] abbrev qN20 (a b : Node) (P : Prop) : Prop := a.round = b.round /\ a.kept.entries = b.kept.entries /\ a.yes = b.yes /\ a.peers = b.peers /\ a.reads = b.reads /\ P
@[simp] abbrev qN21 (a b : Node) (P : Prop) : Prop := a.kept.entries = b.kept.entries /\ a.kept.entries.length <= 17592186044416 /\ a.commit = b.commit /\ a.lead = b.lead /\ a.elapsed = b.elapsed /\ a.yes = b.yes /\ a.yes.length <= 17592186044416 /\ a.peers = b.peers /\ a.peers.length <= 17592186044416 /\ a.round = b.round /\ a.reads = b.reads /\ a.reads.length <= 17592186044416 /\ P
@[simp] abbrev qO22 (a b : Out) (P : Prop) : Prop := a.records = b.records /\ a.records.length <= 17592186044416 /\ a.messages = b.messages /\ a.messages.length <= 17592186044416 /\ a.ready = b.ready /\ a.ready.length <= 17592186044416 /\ a.lost = b.lost /\ a.lost.length <= 17592186044416 /\ P
@[simp] abbrev qN23 (a b : Node) (P : Prop) : Prop := a.kept.entries = b.kept.entries /\ a.commit = b.commit /\ a.lead = b.lead /\ a.elapsed = b.elapsed /\ a.yes = b.yes /\ a.yes.length <= 17592186044416 /\ a.peers = b.peers /\ a.peers.length <= 17592186044416 /\ a.round = b.round /\ a.reads = b.reads /\ a.reads.length <= 17592186044416 /\ P
@[simp] abbrev qN24 (a b : Node) (P : Prop) : Prop := a.kept.entries = b.kept.entries /\ a.commit = b.commit /\ a.lead = b.lead /\ a.elapsed = b.elapsed /\ a.yes = b.yes /\ a.peers = b.peers /\ a.round = b.round /\ a.reads = b.reads /\ P
@[simp] abbrev qO25 (a b : Out) (P : Prop) : Prop := a.records = b.records /\ a.messages = b.messages /\ a.ready = b.ready /\ a.lost = b.lost /\ P
@[simp] abbrev qN26 (a b : Node) (P : Prop) : Prop := a.kept.entries = b.kept.entries /\ a.commit = b.commit /\ a.lead = b.lead /\ P
@[simp] abbrev qN27 (a b : Node) (P : Prop) : Prop := a.yes = b.yes /\ a.peers = b.peers /\ a.round = b.round /\ a.reads = b.reads /\ P
@[simp] abbrev qO28 (a b : Out) (P : Prop) : Prop := a.messages = b.messages /\ a.ready = b.ready /\ a.lost = b.lost /\ P
structure Move where
 kind:Int
 node:Int
 at_:Int
 change:Change
 deriving DecidableEq,Inhabited
def Move.ty:List Ty:=[.int .i64,.int .i64,.int .i64,.int .i64,.int .i64]
def Move.enc (x:Move):List D:=[.int x.kind,.int x.node,.int x.at_,.int x.change.kind,.int x.change.node]
theorem Move.ty_len:Move.ty.length=5:=rfl
theorem Move.opens {w:World} {S:Nat->Prop} {vs:List Value} {x:Move} (h:RdL w S Move.ty vs x.enc):vs=[.int .i64 x.kind,.int .i64 x.node,.int .i64 x.at_,.int .i64 x.change.kind,.int .i64 x.change.node]/\I64 x.kind/\I64 x.node/\I64 x.at_/\I64 x.change.kind/\I64 x.change.node:=by
 match vs,h with
 | [v0,v1,v2,v3,v4],h=>
  obtain ⟨h0,h1,h2,h3,h4,_⟩:=h
  obtain ⟨rfl,k0⟩:=h0.i64
  obtain ⟨rfl,k1⟩:=h1.i64
  obtain ⟨rfl,k2⟩:=h2.i64
  obtain ⟨rfl,k3⟩:=h3.i64
  obtain ⟨rfl,k4⟩:=h4.i64
  exact ⟨rfl,k0,k1,k2,k3,k4⟩
theorem Move.dec {w:World} {S:Nat->Prop} {vs:List Value} {ds:List D} (h:RdL w S Move.ty vs ds):∃ x:Move,ds=x.enc:=by
 have hl:=h.lens
 rw [Move.ty_len] at hl
 obtain ⟨v0,v1,v2,v3,v4,rfl⟩:=zjV hl.1
 obtain ⟨d0,d1,d2,d3,d4,rfl⟩:=zjV hl.2
 obtain ⟨h0,h1,h2,h3,h4,_⟩:=h
 obtain ⟨x0,_,rfl,_⟩:=h0.int_inv
 obtain ⟨x1,_,rfl,_⟩:=h1.int_inv
 obtain ⟨x2,_,rfl,_⟩:=h2.int_inv
 obtain ⟨x3,_,rfl,_⟩:=h3.int_inv
 obtain ⟨x4,_,rfl,_⟩:=h4.int_inv
 exact ⟨⟨x0,x1,x2,⟨x3,x4⟩⟩,rfl⟩
def Win (w:World) (base:Nat) (e:TypeId) (size:Nat) (v:Value) (n:Nat) (xs:List Value):Prop:=
  xs.length=n*size /\
  ((v = .slice none 0 0 /\ n = 0) \/
   ∃ g o cap cur,v = .slice (some ⟨g,o,none⟩) n cap/\(size<18->o=0/\cur.size=cap*size)/\base<=g/\w.heap[g]? = some (.cells cur e (0,0))/\n<=cap/\cap<=maxLen/\o+cap*size<=cur.size/\(cur.toList.drop o).take (n*size)=xs)
theorem Win.of {w:World} {base:Nat} {e:TypeId} {size:Nat} {v:Value} {n:Nat} {xs:List Value} (h:w.ownsRow base e size v n xs):Win w base e size v n xs:=by
 refine ⟨h.1,?_⟩
 rcases h.2 with h2 | ⟨g,cap,cur,h1,h2,h3,h4,h5,h6,h7⟩
 ·exact .inl h2
 ·exact .inr ⟨g,0,cap,cur,h1,fun _=>⟨rfl,h6⟩,h2,h3,h4,h5,by rw [h6,Nat.zero_add];exact Nat.le_refl _,by rw [List.drop_zero];exact h7⟩
theorem Win.one {w:World} {base:Nat} {e:TypeId} {size:Nat} {v:Value} {n:Nat} {xs:List Value} (h:Win w base e size v n xs) (hs:size<18):w.ownsRow base e size v n xs:=by
 refine ⟨h.1,?_⟩
 rcases h.2 with h2 | ⟨g,o,cap,cur,h1,h0,h2,h3,h4,h5,h6,h7⟩
 ·exact .inl h2
 ·obtain ⟨e0,e1⟩:=h0 hs
  subst e0
  exact .inr ⟨g,cap,cur,h1,h2,h3,h4,h5,e1,by rw [List.drop_zero] at h7;exact h7⟩
theorem Win.cells {w:World} {base:Nat} {e:TypeId} {size:Nat} {n c g o:Nat} {xs:List Value} (h:Win w base e size (.slice (some ⟨g,o,none⟩) n c) n xs):∀ j u,xs[j]? = some u->w.cell? ((⟨g,o,none⟩:Addr).add j)=some u:=by
 intro j u hu
 rcases h.2 with ⟨h1,_⟩ | ⟨g',o',cap,cur,h1,_,_,h3,_,_,_,h7⟩
 ·cases h1
 ·simp only [Value.slice.injEq,Option.some.injEq,Addr.mk.injEq] at h1
  obtain ⟨⟨rfl,rfl,_⟩,_,rfl⟩:=h1
  have hadd:(⟨g,o,none⟩:Addr).add j=⟨g,o+j,none⟩:=by unfold Addr.add;split<;>simp_all
  rw [hadd,cell_of_row w g (o+j) cur e (0,0) h3]
  rw [<- h7,List.getElem?_take] at hu
  split at hu
  ·rw [List.getElem?_drop] at hu
   rw [<- Array.getElem?_toList]
   exact hu
  ·cases hu
def OwnR (base:Nat) (w:World) (E:TypeId) (S:Nat->Prop) (fs:List Ty) (v:Value) (rows:List (List D)):Prop:=
 ∃ cells,Win w base E fs.length v rows.length cells/\∀ i,i<rows.length->RdL w (fun b=>S b/\v.ownBlock≠some b) fs ((cells.drop (i*fs.length)).take fs.length) (rows.getD i [])
theorem OwnR.takeV {base:Nat} {w:World} {E:TypeId} {S:Nat->Prop} {fs:List Ty} {ad:Option Addr} {m c k:Nat} {rows:List (List D)} (h:OwnR base w E S fs (.slice ad m c) rows) (hk:k<=rows.length):OwnR base w E S fs (.slice ad k c) (rows.take k):=by
 obtain ⟨cells,ho,hr⟩:=h
 have hkl:(rows.take k).length=k:=by rw [List.length_take];omega
 have hmul:k*fs.length<=rows.length*fs.length:=Nat.mul_le_mul_right _ hk
 have hcl:cells.length=rows.length*fs.length:=ho.1
 refine ⟨cells.take (k*fs.length),⟨by rw [hkl,List.length_take];omega,?_⟩,fun i hi=>?_⟩
 ·rcases ho.2 with ⟨e,e2⟩ | ⟨g,o,cap,cur,e,e0,e1,e2,e3,e4,e5,e6⟩
  ·simp only [Value.slice.injEq] at e
   obtain ⟨rfl,_,rfl⟩:=e
   have:k=0:=by omega
   subst this
   exact .inl ⟨rfl,hkl⟩
  ·simp only [Value.slice.injEq] at e
   obtain ⟨rfl,_,rfl⟩:=e
   exact .inr ⟨g,o,c,cur,by rw [hkl],e0,e1,e2,by omega,e4,e5,by rw [hkl,<- e6,List.take_take,Nat.min_eq_left hmul]⟩
 ·rw [hkl] at hi
  have h1:(rows.take k).getD i []=rows.getD i []:=by simp [List.getD,List.getElem?_take,hi]
  have h2:((cells.take (k*fs.length)).drop (i*fs.length)).take fs.length=(cells.drop (i*fs.length)).take fs.length:=by
   have:(i+1)*fs.length<=k*fs.length:=Nat.mul_le_mul_right _ hi
   rw [Nat.add_mul,Nat.one_mul] at this
   apply List.ext_getElem?
   intro j
   simp only [List.getElem?_take,List.getElem?_drop]
   by_cases hj:j<fs.length
   ·rw [if_pos hj,if_pos hj,if_pos (by omega)]
   ·rw [if_neg hj,if_neg hj]
  rw [h1,h2]
  exact (hr i (by omega)).mono fun b _ hb=>⟨hb.1,by have:=hb.2;cases ad<;>exact this⟩
theorem OwnR.dropV {base:Nat} {w:World} {E:TypeId} {S:Nat->Prop} {fs:List Ty} {ad:Option Addr} {m c l:Nat} {rows:List (List D)} (h:OwnR base w E S fs (.slice ad m c) rows) (hw:18<=fs.length) (hl:l<=rows.length):OwnR base w E S fs (.slice (if c=l then ad else ad.map (·.add (l*fs.length))) (rows.length-l) (c-l)) (rows.drop l):=by
 obtain ⟨cells,ho,hr⟩:=h
 have hkl:(rows.drop l).length=rows.length-l:=List.length_drop
 have hmul:l*fs.length<=rows.length*fs.length:=Nat.mul_le_mul_right _ hl
 have hcl:cells.length=rows.length*fs.length:=ho.1
 have hb0:∀ b,Value.ownBlock (.slice (if c=l then ad else ad.map (·.add (l*fs.length))) (rows.length-l) (c-l))=some b↔Value.ownBlock (.slice ad m c)=some b:=fun b=>by
  cases ad with
  | none=>split<;>exact Iff.rfl
  | some ad=>
   split
   ·exact Iff.rfl
   ·have:(ad.add (l*fs.length)).block=ad.block:=by unfold Addr.add;split<;>rfl
    show some (ad.add (l*fs.length)).block=some b↔some ad.block=some b
    rw [this]
 refine ⟨cells.drop (l*fs.length),⟨by rw [hkl,List.length_drop,hcl,Nat.sub_mul],?_⟩,fun i hi=>?_⟩
 ·rcases ho.2 with ⟨e,e2⟩ | ⟨g,o,cap,cur,e,e0,e1,e2,e3,e4,e5,e6⟩
  ·simp only [Value.slice.injEq] at e
   obtain ⟨rfl,_,rfl⟩:=e
   have:l=0:=by omega
   subst this
   refine .inl ⟨?_,by rw [hkl];omega⟩
   rw [e2];simp
  ·simp only [Value.slice.injEq] at e
   obtain ⟨rfl,_,rfl⟩:=e
   by_cases hc:c=l
   ·subst hc
    refine .inr ⟨g,o,0,cur,?_,fun hs=>absurd hs (by omega),e1,e2,by rw [hkl];omega,Nat.zero_le _,by omega,?_⟩
    ·rw [hkl,if_pos rfl,Nat.sub_self]
    ·rw [hkl,show rows.length-c=0 by omega,Nat.zero_mul,List.take_zero,List.drop_eq_nil_of_le (by rw [hcl];exact Nat.mul_le_mul_right _ (by omega))]
   ·refine .inr ⟨g,o+l*fs.length,c-l,cur,?_,fun hs=>absurd hs (by omega),e1,e2,by rw [hkl];omega,by omega,?_,?_⟩
    ·rw [hkl,if_neg hc,Option.map_some,WideShapes.add_plain]
    ·have:(c-l)*fs.length+l*fs.length=c*fs.length:=by rw [<- Nat.add_mul];congr 1;omega
     omega
    ·rw [hkl,<- e6,List.drop_take,List.drop_drop,Nat.sub_mul]
 ·rw [hkl] at hi
  have h1:(rows.drop l).getD i []=rows.getD (l+i) []:=by simp [List.getD,List.getElem?_drop]
  have h2:((cells.drop (l*fs.length)).drop (i*fs.length)).take fs.length=(cells.drop ((l+i)*fs.length)).take fs.length:=by rw [List.drop_drop,Nat.add_mul]
  rw [h1,h2]
  exact (hr (l+i) (by omega)).mono fun b _ hb=>⟨hb.1,fun e=>hb.2 ((hb0 b).1 e)⟩
theorem OwnR.nil (base:Nat) (w:World) (E:TypeId) (S:Nat->Prop) (fs:List Ty):OwnR base w E S fs (.slice none 0 0) []:=
 ⟨[],Win.of (World.ownsRow_nil _ _ _ _),fun i h=>absurd h (by simp)⟩
theorem Same.ownsRow {w w':World} {base:Nat} {E:TypeId} {size:Nat} {v:Value} {n:Nat} {xs:List Value} {S:Nat->Prop} (h:Win w base E size v n xs) (hs:Same S w w') (hS:∀ g,v.ownBlock=some g->S g):Win w' base E size v n xs:=by
 refine ⟨h.1,?_⟩
 rcases h.2 with h2 | ⟨g,o,cap,cur,hv,h0,hg,hh,r⟩
 ·exact Or.inl h2
 ·exact Or.inr ⟨g,o,cap,cur,hv,h0,hg,(hs.block g (hS g (by subst hv;rfl)) (Array.getElem?_eq_some_iff.1 hh).1).trans hh,r⟩
theorem OwnR.same {base:Nat} {w w':World} {E:TypeId} {S T:Nat->Prop} {fs:List Ty} {v:Value} {rows:List (List D)} (h:OwnR base w E S fs v rows) (hs:Same T w w') (h1:∀ b,S b->T b) (h2:∀ b,v.ownBlock=some b->T b):OwnR base w' E S fs v rows:=by
 obtain ⟨cells,ho,hr⟩:=h
 exact ⟨cells,hs.ownsRow ho h2,fun i hi=>(hr i hi).same (hs.mono fun b hb=>h1 b hb.1)⟩
theorem OwnR.below {base:Nat} {w w':World} {E:TypeId} {S:Nat->Prop} {fs:List Ty} {v:Value} {rows:List (List D)} (h:OwnR base w E S fs v rows) (hb:Below w.heap.size w w'):OwnR base w' E S fs v rows:=
 h.same (Same.below (S:=fun _=>True) hb) (fun _ _=>trivial) (fun _ _=>trivial)
theorem OwnR.lt {base:Nat} {w:World} {E:TypeId} {S:Nat->Prop} {fs:List Ty} {v:Value} {rows:List (List D)} (h:OwnR base w E S fs v rows):∀ b,v.ownBlock=some b->base<=b/\b<w.heap.size:=by
 obtain ⟨cells,ho,_⟩:=h
 intro b hb
 rcases ho.2 with ⟨rfl,_⟩ | ⟨g,o,cap,cur,rfl,_,hg,hh,_⟩
 ·simp [Value.ownBlock] at hb
 ·simp [Value.ownBlock] at hb
  subst hb
  exact ⟨hg,(Array.getElem?_eq_some_iff.1 hh).1⟩
theorem OwnR.form {base:Nat} {w:World} {E:TypeId} {S:Nat->Prop} {fs:List Ty} {v:Value} {rows:List (List D)} (h:OwnR base w E S fs v rows):∃ a c,v = .slice a rows.length c:=by
 obtain ⟨cells,⟨_,⟨rfl,hn⟩ | ⟨g,o,cap,cur,rfl,_⟩⟩,_⟩:=h
 ·exact ⟨none,0,by rw [hn]⟩
 ·exact ⟨_,_,rfl⟩
theorem OwnR.mono {base base':Nat} {w:World} {E:TypeId} {S T:Nat->Prop} {fs:List Ty} {v:Value} {rows:List (List D)} (h:OwnR base w E S fs v rows) (hb:base'<=base) (hs:∀ b,S b->T b):OwnR base' w E T fs v rows:=by
 obtain ⟨cells,ho,hr⟩:=h
 refine ⟨cells,⟨ho.1,?_⟩,fun i hi=>(hr i hi).mono fun b _ hb=>⟨hs b hb.1,hb.2⟩⟩
 rcases ho.2 with h2 | ⟨g,o,cap,cur,hv,h0,hg,hh,r⟩
 ·exact Or.inl h2
 ·exact Or.inr ⟨g,o,cap,cur,hv,h0,by omega,hh,r⟩
theorem Sl.mk {w:World} {S:Nat->Prop} {fs:List Ty} {b off c:Nat} {rows:List (List D)} (cells:List Value) (hn:0<rows.length) (hc:rows.length<=c) (hm:c<=maxLen) (h44:rows.length<=17592186044416) (hS:S b) (hb:b<w.heap.size)
  (hl:cells.length=rows.length*fs.length) (hcell:∀ m v,cells[m]? = some v->w.cell? ⟨b,off+m,none⟩=some v)
  (hr:∀ i,i<rows.length->RdL w S fs ((cells.drop (i*fs.length)).take fs.length) (rows.getD i [])) (hfz:∀ m,w.frozen? ⟨b,off+m,none⟩=false):Sl w S fs (some ⟨b,off,none⟩) rows.length c rows:=by
 have key:∀ i j,i<rows.length->j<fs.length->i*fs.length+j<cells.length:=by
  intro i j hi hj
  have:(i+1)*fs.length<=rows.length*fs.length:=Nat.mul_le_mul_right _ hi
  rw [Nat.add_mul] at this;omega
 refine .row (fun i j=>cells.getD (i*fs.length+j) undef) hn rfl hc hm h44 hS hb (fun i j hi hj=>?_) (fun i hi=>(hr i hi).lens.2) (fun i j hi hj=>?_) (fun i j _ _=>by rw [Nat.add_assoc];exact hfz _)
 ·have h1:=key i j hi hj
  rw [Nat.add_assoc]
  refine hcell _ _ ?_
  simp [List.getD,h1]
 ·have:=(hr i hi).at j hj
  have e:((cells.drop (i*fs.length)).take fs.length).getD j undef=cells.getD (i*fs.length+j) undef:=by
   simp [List.getD,hj]
  rwa [e] at this
theorem OwnR.slO {base:Nat} {w:World} {E:TypeId} {S:Nat->Prop} {fs:List Ty} {v:Value} {rows:List (List D)} (h:OwnR base w E S fs v rows) (T:Nat->Prop) (h1:∀ b,S b->T b) (h2:∀ b,base<=b->v.ownBlock=some b->T b) (h44:rows.length<=17592186044416) :
  ∃ a c,v = .slice a rows.length c/\Sl w T fs a rows.length c rows:=by
 obtain ⟨cells,⟨hl,⟨rfl,hn⟩ | ⟨g,o,cap,cur,rfl,h0,hg,hh,hc,hm,hs,ht⟩⟩,hr⟩:=h
 ·have hx:rows=[]:=List.eq_nil_of_length_eq_zero hn
  subst hx
  exact ⟨none,0,rfl,.emp (fun _=>rfl) (by simp [maxLen])⟩
 ·refine ⟨_,_,rfl,?_⟩
  by_cases hp:0<rows.length
  ·refine Sl.mk cells hp hc hm h44 (h2 g hg rfl) (Array.getElem?_eq_some_iff.1 hh).1 hl (fun m u hu=>?_) (fun i hi=>(hr i hi).mono fun b _ hb=>h1 b hb.1) (fun m=>by simp [World.frozen?,hh])
   rw [<- ht] at hu
   have hlt:m<rows.length*fs.length:=by
    rw [ht] at hu
    have:=(List.getElem?_eq_some_iff.1 hu).1
    omega
   rw [List.getElem?_take,if_pos hlt,List.getElem?_drop] at hu
   simp only [World.cell?,hh]
   rw [<- Array.getElem?_toList];exact hu
  ·have hx:rows=[]:=List.eq_nil_of_length_eq_zero (by omega)
   subst hx
   exact .emp (fun e=>by simp at e) hm
theorem OwnR.sl {base:Nat} {w:World} {E:TypeId} {S:Nat->Prop} {fs:List Ty} {v:Value} {rows:List (List D)} (h:OwnR base w E S fs v rows) (T:Nat->Prop) (h1:∀ b,S b->T b) (h2:∀ b,base<=b->T b) (h44:rows.length<=17592186044416) :
  ∃ a c,v = .slice a rows.length c/\Sl w T fs a rows.length c rows:=h.slO T h1 (fun b hb _=>h2 b hb) h44
theorem OwnR.grows {base:Nat} {w w':World} {E:TypeId} {S:Nat->Prop} {fs:List Ty} {v v':Value} {rows ds:List (List D)} {cells news:List Value}
  (hr:∀ i,i<rows.length->RdL w (fun b=>S b/\v.ownBlock≠some b) fs ((cells.drop (i*fs.length)).take fs.length) (rows.getD i [])) (hcl:cells.length=rows.length*fs.length)
  (hn:∀ i,i<ds.length->RdL w (fun b=>S b/\v.ownBlock≠some b) fs ((news.drop (i*fs.length)).take fs.length) (ds.getD i []))
  (ho:Win w' base E fs.length v' (rows.length+ds.length) (cells++news)) (hg:w.grownBy w' v.ownBlock) (hat:v'.ownBlock=v.ownBlock\/v'.ownBlock=some w.heap.size):OwnR base w' E S fs v' (rows++ds):=by
 have up:∀ (cs:List Value) (d:List D),RdL w (fun b=>S b/\v.ownBlock≠some b) fs cs d->RdL w' (fun b=>S b/\v'.ownBlock≠some b) fs cs d:=by
  intro cs d h
  have h1:RdL w (fun b=>(S b/\v'.ownBlock≠some b)/\v.ownBlock≠some b) fs cs d:=h.mono fun b hb hs=>by
   refine ⟨⟨hs.1,?_⟩,hs.2⟩
   rcases hat with e | e
   ·rw [e];exact hs.2
   ·rw [e];intro e';cases e';omega
  have h2:=h1.same (w':=w') (Same.of_grown hg fun b hb e=>hb.2 e.symm)
  exact h2.mono fun b _ hs=>hs.1
 refine ⟨cells++news,by rw [List.length_append];exact ho,fun i hi=>?_⟩
 rw [List.length_append] at hi
 by_cases h:i<rows.length
 ·have h1:i*fs.length+fs.length<=cells.length:=by
   rw [hcl]
   have:(i+1)*fs.length<=rows.length*fs.length:=Nat.mul_le_mul_right _ h
   rw [Nat.add_mul] at this;omega
  have e1:((cells++news).drop (i*fs.length)).take fs.length=(cells.drop (i*fs.length)).take fs.length:=by
   rw [List.drop_append_of_le_length (by omega),List.take_append_of_le_length (by simp;omega)]
  have e2:(rows++ds).getD i []=rows.getD i []:=by simp [List.getD,List.getElem?_append_left h]
  rw [e1,e2]
  exact up _ _ (hr i h)
 ·have hi2:i=rows.length+(i-rows.length):=by omega
  generalize i-rows.length=m at hi2
  subst hi2
  have e1:(cells++news).drop ((rows.length+m)*fs.length)=news.drop (m*fs.length):=by
   rw [Nat.add_mul,<- hcl,List.drop_append,List.drop_eq_nil_of_le (by omega),List.nil_append]
   congr 1;omega
  have e2:(rows++ds).getD (rows.length+m) []=ds.getD m []:=by simp [List.getD,List.getElem?_append_right]
  rw [e1,e2]
  exact up _ _ (hn m (by omega))
theorem zfw {α:Type} (f:Nat->Nat->α) (n k:Nat):((List.range n).flatMap fun i=>(List.range k).map (f i)).length=n*k:=by
 induction n with
 | zero=>simp
 | succ n ih=>simp [List.range_succ,List.flatMap_append] at ih ⊢;rw [ih,Nat.add_mul];omega
theorem zqs {α:Type} (f:Nat->Nat->α) (n k:Nat):∀ i,i<n->(((List.range n).flatMap fun i=>(List.range k).map (f i)).drop (i*k)).take k=(List.range k).map (f i):=by
 induction n with
 | zero=>intro i hi;omega
 | succ n ih=>
  intro i hi
  have hl:=zfw f n k
  rw [List.range_succ,List.flatMap_append]
  by_cases h:i<n
  ·have:(i+1)*k<=n*k:=Nat.mul_le_mul_right _ h
   rw [Nat.add_mul] at this
   rw [List.drop_append_of_le_length (by omega),List.take_append_of_le_length (by rw [List.length_drop];omega),ih i h]
  ·have:i=n:=by omega
   subst this
   rw [List.drop_append,List.drop_eq_nil_of_le (by omega),hl,Nat.sub_self]
   simp only [List.nil_append,List.drop_zero,List.flatMap_cons,List.flatMap_nil,List.append_nil]
   exact List.take_of_length_le (by simp)
theorem zmC {α:Type} (f:Nat->Nat->α) (n k m:Nat) (u:α) (h:((List.range n).flatMap fun i=>(List.range k).map (f i))[m]? = some u):∃ i j,i<n/\j<k/\m=i*k+j/\u=f i j:=by
 have hm:=(List.getElem?_eq_some_iff.1 h).1
 rw [zfw] at hm
 have hk:0<k:=by
  rcases Nat.eq_zero_or_pos k with h0 | h0
  ·subst h0;simp at hm
  ·exact h0
 have hi:m / k<n:=Nat.div_lt_of_lt_mul (by rw [Nat.mul_comm];exact hm)
 have hj:m % k<k:=Nat.mod_lt _ hk
 have hmm:m=(m / k)*k+m % k:=by rw [Nat.mul_comm];exact (Nat.div_add_mod m k).symm
 refine ⟨m / k,m % k,hi,hj,hmm,?_⟩
 have h1:=zqs f n k (m / k) hi
 have h2:((((List.range n).flatMap fun i=>(List.range k).map (f i)).drop (m / k*k)).take k)[m % k]? = some u:=by
  rw [List.getElem?_take,if_pos hj,List.getElem?_drop,<- hmm];exact h
 rw [h1] at h2
 simp [hj] at h2
 exact h2.symm
theorem Rd.one {w:World} {S:Nat->Prop} {t:Ty} {v:Value} {d:D} (h:Rd w S t v d):v.oneCell'=true:=by
 cases h<;>rfl
theorem RdL.ones {w:World} {S:Nat->Prop}:∀ {ts:List Ty} {vs:List Value} {ds:List D},RdL w S ts vs ds->∀ u∈vs,u.oneCell'=true
 | [],[],[],_,u,hu=>by simp at hu
 | _::ts,_::vs,_::ds,h,u,hu=>by
  rcases List.mem_cons.1 hu with e | hu
  ·subst e;exact h.1.one
  ·exact RdL.ones (ts:=ts) (vs:=vs) (ds:=ds) h.2 u hu
 | _::_,[],_,h,_,_=>h.elim
 | _::_,_::_,[],h,_,_=>h.elim
 | [],_::_,_,h,_,_=>h.elim
 | [],[],_::_,h,_,_=>h.elim
def Info (P:Program) (E:TypeId) (k bytes:Nat):Prop:=∃ (i:TypeInfo) (z:Value),P.info? E=some i/\i.zero=some z/\i.size=k/\i.bytes=bytes/\z.cells.size=k
theorem zeE {P:Program} {w:World} (t ty e:TypeId) (i:TypeInfo) (ht:P.underlying t=some (.slice e)) (hi:P.info? e=some i)
  (g o sLen sCap:Nat) (cur:Array Value) (hg:w.heap[g]? = some (.cells cur e (0,0)))
  (a:Addr) (m c:Nat) (news:List Value) (hl:news.length=m*i.size) (hnews:∀ j u,news[j]? = some u->w.cell? (a.add j)=some u) (h1:∀ u∈news,u.oneCell'=true)
  (hroom:sLen+m<=sCap) (hfit:o+sLen*i.size+news.length<=cur.size) :
  (Builtin.append_ #[t,t] ty #[.slice (some ⟨g,o,none⟩) sLen sCap,.slice (some a) m c]).run P w =
   .ok (.slice (some ⟨g,o,none⟩) (sLen+m) sCap) (w.setRow g (cur.toList.take (o+sLen*i.size)++news++cur.toList.drop (o+sLen*i.size+news.length)).toArray):=by
 have hf:=run_firstCells_some (P:=P) w i.size m a m c news hl hnews
 have hst:=run_storeCells_at P g (o+sLen*i.size) e news 0 cur w hg (by simpa using hfit) h1
 simp only [Nat.add_zero] at hst
 have hadd:(⟨g,o,none⟩:Addr).add (sLen*i.size)=⟨g,o+sLen*i.size,none⟩:=by unfold Addr.add;split<;>simp_all
 simp [Builtin.append_,run_underlying ht,sizeOf,typeInfo,hi,Builtin.lenOf,hroom,hf,hadd,hst]
theorem zhc {P:Program} (w:World) (base:Nat) (t ty e:TypeId) (i:TypeInfo) (z:Value) (size bytes:Nat) (ht:P.underlying t=some (.slice e)) (hi:P.info? e=some i) (hz:i.zero=some z)
  (hsize:i.size=size) (hby:i.bytes=bytes) (hzs:z.cells.size=size) (hsz:0<size)
  (v:Value) (n:Nat) (xs:List Value) (hown:Win w base e size v n xs)
  (a:Addr) (m c:Nat) (news:List Value) (hl:news.length=m*size) (hnews:∀ j u,news[j]? = some u->w.cell? (a.add j)=some u) (h1:∀ u∈news,u.oneCell'=true)
  (h63:n+m<=maxLen) (hbytes:(n+m)*bytes<=140737488355328) (hbase:base<=w.heap.size) :
  ∃ v' w',(Builtin.append_ #[t,t] ty #[v,.slice (some a) m c]).run P w = .ok v' w'/\Win w' base e size v' (n+m) (xs++news)/\w.grownBy w' v.ownBlock/\(v'.ownBlock=v.ownBlock\/v'.ownBlock=some w.heap.size):=by
 by_cases h0:w.ownsRow base e size v n xs
 ·obtain ⟨v',w',q1,q2,q3,_,q5⟩:=run_append_own_at (P:=P) w base t ty e i z size bytes ht hi hz hsize hby hzs hsz v n xs h0 a m c news hl hnews h1 h63 hbytes hbase
  exact ⟨v',w',q1,Win.of q2,q3,q5⟩
 ·subst hsize
  subst hby
  have hsmall:n+m<=9223372036854775807:=by simp only [maxLen] at h63;omega
  have hlen:(xs++news).length=(n+m)*i.size:=by rw [List.length_append,hown.1,hl,Nat.add_mul]
  rcases hown.2 with h2 | ⟨g,o,cap,cur,rfl,ho,hbg,hg,hnc,hcm,hcs,htake⟩
  ·exact absurd ⟨hown.1,.inl h2⟩ h0
  ·by_cases hroom:n+m<=cap
   ·have hfit:o+n*i.size+news.length<=cur.size:=by
     have:(n+m)*i.size<=cap*i.size:=Nat.mul_le_mul_right _ hroom
     rw [Nat.add_mul] at this
     rw [hl];omega
    have hr:=zeE (P:=P) (w:=w) t ty e i ht hi g o n cap cur hg a m c news hl hnews h1 hroom hfit
    refine ⟨_,_,hr,⟨hlen,.inr ⟨g,o,cap,_,rfl,fun hs2=>⟨(ho hs2).1,?_⟩,hbg,setRow_heap w g cur _ e _ hg,hroom,hcm,?_,?_⟩⟩,⟨rfl,rfl,rfl,by simp,fun k _ hk=>setRow_other w g k _ (fun e=>hk (by simp [Value.ownBlock,e]))⟩,Or.inl rfl⟩
    ·have:=(ho hs2).2
     simp only [List.size_toArray,List.length_append,List.length_take,List.length_drop,Array.length_toList]
     omega
    ·simp only [List.size_toArray,List.length_append,List.length_take,List.length_drop,Array.length_toList]
     omega
    ·have hxl:=hown.1
     have e1:cur.toList.take (o+n*i.size)=cur.toList.take o++xs:=by rw [List.take_add,htake]
     show List.take ((n+m)*i.size) (List.drop o (cur.toList.take (o+n*i.size)++news++cur.toList.drop (o+n*i.size+news.length)))=_
     have e2:(cur.toList.take o).length=o:=by
      rw [List.length_take,Array.length_toList]
      omega
     rw [e1,List.append_assoc,List.append_assoc,List.drop_append_of_le_length (by rw [e2];exact Nat.le_refl _),List.drop_eq_nil_of_le (by rw [e2];exact Nat.le_refl _),List.nil_append,<- List.append_assoc,<- hlen]
     exact List.take_left
   ·have holds:∀ j u,xs[j]? = some u->w.cell? ((⟨g,o,none⟩:Addr).add j)=some u:=hown.cells
    have hr:=run_append_grow (P:=P) w t ty e i z ht hi hz ⟨g,o,none⟩ n cap xs hown.1 holds a m c news hl hnews (by omega) (by omega) (growslice_fits (by omega) hbytes)
    have hge:=grownCap_ge w (n+m) cap e
    have hcm2:grownCap w (n+m) cap e<=maxLen:=grownCap_le_maxLen w (n+m) cap e h63
    refine ⟨_,_,hr,⟨hlen,.inr ⟨w.heap.size,0,_,_,rfl,fun _=>⟨rfl,?_⟩,hbase,heap_alloc_new w.drew _,hge,hcm2,Nat.le_of_eq ?_,?_⟩⟩,⟨rfl,rfl,rfl,by simp,fun k hk _=>(by first | exact heap_alloc_old w.drew _ k hk | exact heap_alloc_old w.drew _ hk)⟩,Or.inr rfl⟩
    ·simp only [Array.size_append,List.size_toArray,size_zeroCells,hzs,hown.1,hl,<- Nat.add_mul,Nat.zero_add]
     congr 1
     omega
    ·simp only [Array.size_append,List.size_toArray,size_zeroCells,hzs,hown.1,hl,<- Nat.add_mul,Nat.zero_add]
     congr 1
     omega
    ·simp only [Array.toList_append,List.append_assoc,List.drop_zero]
     rw [<- List.append_assoc,<- hlen]
     exact List.take_left
theorem zkS {P:Program} {w w2:World} {base:Nat} {t ty E:TypeId} {S:Nat->Prop} {fs:List Ty} {k bytes:Nat} (hk:fs.length=k) (hk0:0<k) (hkb:k<=64) (hbb:bytes<=1024) (ht:P.underlying t=some (.slice E)) (hi:Info P E k bytes)
  {v:Value} {rows:List (List D)} (hown:OwnR base w E S fs v rows) (hw2:Below w.heap.size w w2) (ad:Addr) (m c:Nat) (news:List Value) (ds:List (List D)) (hdm:ds.length=m)
  (hl:news.length=m*k) (hnews:∀ j u,news[j]? = some u->w2.cell? (ad.add j)=some u) (h1:∀ u∈news,u.oneCell'=true)
  (hn:∀ i,i<ds.length->RdL w2 (fun b=>S b/\v.ownBlock≠some b) fs ((news.drop (i*fs.length)).take fs.length) (ds.getD i [])) (hb:(rows.length+m)*1024<=140737488355328) (hbase:base<=w2.heap.size) :
  ∃ v' w',(Builtin.append_ #[t,t] ty #[v,.slice (some ad) m c]).run P w2 = .ok v' w'/\OwnR base w' E S fs v' (rows++ds)/\w2.grownBy w' v.ownBlock/\(v'.ownBlock=v.ownBlock\/v'.ownBlock=some w2.heap.size):=by
 subst hk
 obtain ⟨i,z,e1,e2,e3,e4,e5⟩:=hi
 obtain ⟨cells,ho,hr⟩:=hown.below hw2
 have hbb2:(rows.length+m)*bytes<=140737488355328:=Nat.le_trans (Nat.mul_le_mul_left _ hbb) hb
 obtain ⟨v',w',q1,q2,q3,q5⟩:=zhc (P:=P) w2 base t ty E i z fs.length bytes ht e1 e2 e3 e4 e5 hk0 v rows.length cells ho ad m c news hl hnews h1 (by unfold maxLen;omega) hbb2 hbase
 exact ⟨v',w',q1,OwnR.grows hr ho.1 hn (by rw [hdm];exact q2) q3 q5,q3,q5⟩
def Ty.flat:Ty->Bool
 | .sl _=>false
 | _=>true
theorem Rd.any {w:World} {S T:Nat->Prop} {t:Ty} {v:Value} {d:D} (hf:t.flat=true) (h:Rd w S t v d):Rd w T t v d:=by
 cases h with
 | int h=>exact .int h
 | bool=>exact .bool
 | str h=>exact .str h
 | emp _ _=>simp [Ty.flat] at hf
 | row _ _ _ _ _ _ _ _ _ _ _ _=>simp [Ty.flat] at hf
def nu (xs:List Int) (i:Nat):Int:=xs.getD i 0
theorem SlI.cell {w:World} {S:Nat->Prop} {b off n c i:Nat} {xs:List Int} (h:SlI w S (some ⟨b,off,none⟩) n c xs) (hi:i<n):b<w.heap.size/\w.cell? ⟨b,off+i,none⟩=some (.int .i64 (nu xs i))/\I64 (nu xs i):=by
 have hl:=h.len
 rw [zap] at hl
 obtain ⟨b2,off2,e,hS,hb,vals,hc,hr⟩:=h.rowAt (by omega)
 simp only [Option.some.injEq,Addr.mk.injEq,and_true] at e
 obtain ⟨rfl,rfl⟩:=e
 have h1:=(hr i hi).2 0 (by decide)
 have he:((ints xs).getD i []).getD 0 default = .int (nu xs i):=by simp [ints,List.getD,nu,show i<xs.length by omega]
 rw [he] at h1
 obtain ⟨e1,e2⟩:=Rd.i64 h1
 have h2:=hc i 0 hi (by decide)
 simp only [List.length_cons,List.length_nil,Nat.zero_add,Nat.mul_one,Nat.add_zero] at h2
 exact ⟨hb,by rw [h2,e1],e2⟩
theorem SlI.i64 {w:World} {S:Nat->Prop} {a:Option Addr} {n c:Nat} {xs:List Int} (h:SlI w S a n c xs):∀ x∈xs,I64 x:=by
 intro x hx
 obtain ⟨i,hi,rfl⟩:=List.mem_iff_getElem.1 hx
 have hl:=h.len
 rw [zap] at hl
 obtain ⟨b,off,rfl⟩:=h.addr (by omega)
 have:=(SlI.cell h (show i<n by omega)).2.2
 simpa [nu,List.getD,hi] using this
inductive OD
 | no
def OD.pr:OD->World->(Nat->Prop)->Nat->Prop
 | .no,_,_,_=>False
theorem OD.lt:∀ {o:OD} {w:World} {F:Nat->Prop} {b x:Nat},o.pr w F b->F x->x<w.heap.size
 | .no,_,_,_,_,h,_=>h.elim
theorem OD.frame:∀ {o:OD} {w w':World} {F:Nat->Prop} {b:Nat},o.pr w F b->(∀ x,F x->w'.heap[x]? = w.heap[x]?)->o.pr w' F b
 | .no,_,_,_,_,h,_=>h.elim
def OD.ite (c:Bool):OD->OD->Option OD
 | .no,.no=>some .no
theorem OD.ite_t:∀ {a b o:OD},OD.ite true a b=some o->o=a
 | .no,.no,.no,_=>rfl
theorem OD.ite_f:∀ {a b o:OD},OD.ite false a b=some o->o=b
 | .no,.no,.no,_=>rfl
def OD.eqP:OD->OD->Option Prop
 | .no,.no=>some True
theorem OD.eqP_ok:∀ {a b:OD} {p:Prop},OD.eqP a b=some p->p->a=b
 | .no,.no,_,_,_=>rfl
end Go.Proofs.YtkhphiahindnnaaGreat
namespace Go.Proofs.YtkhphiahindnnaaGreat
open Go.RowKit Go.ChangeShapes Go.WideShapes Go.Deep
inductive RL
 | rInts (l:List Int)
 | rEntry (l:List Entry)
 | rRecord (l:List Record)
 | rBytes (l:List Int)
 | rPeer (l:List Peer)
 | rRead (l:List Read)
 | rMessage (l:List Message)
 | rNode (l:List Node)
 | rMove (l:List Move)
def RL.tys:RL->List Ty
 | .rInts l=>[.int .i64]
 | .rEntry l=>Entry.ty
 | .rRecord l=>Record.ty
 | .rBytes l=>[.int .u8]
 | .rPeer l=>Peer.ty
 | .rRead l=>Read.ty
 | .rMessage l=>Message.ty
 | .rNode l=>Node.ty
 | .rMove l=>Move.ty
def RL.rows:RL->List (List D)
 | .rInts l=>ints l
 | .rEntry l=>l.map Entry.enc
 | .rRecord l=>l.map Record.enc
 | .rBytes l=>ints l
 | .rPeer l=>l.map Peer.enc
 | .rRead l=>l.map Read.enc
 | .rMessage l=>l.map Message.enc
 | .rNode l=>l.map Node.enc
 | .rMove l=>l.map Move.enc
def RL.len:RL->Nat
 | .rInts l=>l.length
 | .rEntry l=>l.length
 | .rRecord l=>l.length
 | .rBytes l=>l.length
 | .rPeer l=>l.length
 | .rRead l=>l.length
 | .rMessage l=>l.length
 | .rNode l=>l.length
 | .rMove l=>l.length
def RL.emp:RL->RL
 | .rInts l=> .rInts []
 | .rEntry l=> .rEntry []
 | .rRecord l=> .rRecord []
 | .rBytes l=> .rBytes []
 | .rPeer l=> .rPeer []
 | .rRead l=> .rRead []
 | .rMessage l=> .rMessage []
 | .rNode l=> .rNode []
 | .rMove l=> .rMove []
def RL.take:RL->Nat->RL
 | .rInts l,n=> .rInts (l.take n)
 | .rEntry l,n=> .rEntry (l.take n)
 | .rRecord l,n=> .rRecord (l.take n)
 | .rBytes l,n=> .rBytes (l.take n)
 | .rPeer l,n=> .rPeer (l.take n)
 | .rRead l,n=> .rRead (l.take n)
 | .rMessage l,n=> .rMessage (l.take n)
 | .rNode l,n=> .rNode (l.take n)
 | .rMove l,n=> .rMove (l.take n)
def RL.drop:RL->Nat->RL
 | .rInts l,n=> .rInts (l.drop n)
 | .rEntry l,n=> .rEntry (l.drop n)
 | .rRecord l,n=> .rRecord (l.drop n)
 | .rBytes l,n=> .rBytes (l.drop n)
 | .rPeer l,n=> .rPeer (l.drop n)
 | .rRead l,n=> .rRead (l.drop n)
 | .rMessage l,n=> .rMessage (l.drop n)
 | .rNode l,n=> .rNode (l.drop n)
 | .rMove l,n=> .rMove (l.drop n)
def RL.app:RL->RL->Option RL
 | .rInts l,.rInts m=>some (.rInts (l++m))
 | .rEntry l,.rEntry m=>some (.rEntry (l++m))
 | .rRecord l,.rRecord m=>some (.rRecord (l++m))
 | .rBytes l,.rBytes m=>some (.rBytes (l++m))
 | .rPeer l,.rPeer m=>some (.rPeer (l++m))
 | .rRead l,.rRead m=>some (.rRead (l++m))
 | .rMessage l,.rMessage m=>some (.rMessage (l++m))
 | .rNode l,.rNode m=>some (.rNode (l++m))
 | .rMove l,.rMove m=>some (.rMove (l++m))
 | _,_=>none
def RL.ite (b:Bool):RL->RL->Option RL
 | .rInts l,.rInts m=>some (.rInts (if b then l else m))
 | .rEntry l,.rEntry m=>some (.rEntry (if b then l else m))
 | .rRecord l,.rRecord m=>some (.rRecord (if b then l else m))
 | .rBytes l,.rBytes m=>some (.rBytes (if b then l else m))
 | .rPeer l,.rPeer m=>some (.rPeer (if b then l else m))
 | .rRead l,.rRead m=>some (.rRead (if b then l else m))
 | .rMessage l,.rMessage m=>some (.rMessage (if b then l else m))
 | .rNode l,.rNode m=>some (.rNode (if b then l else m))
 | .rMove l,.rMove m=>some (.rMove (if b then l else m))
 | _,_=>none
inductive SV
 | any
 | int (k:IntKind) (n:Int)
 | bool (b:Bool)
 | str (s:ByteArray)
 | nil
 | np
 | sl (ls:List Nat) (r:RL)
 | own (t:Nat)
 | ptr (t off:Nat)
 | mp (t:Nat)
 | el (ls:List Nat) (r:RL) (i off:Nat)
 | oel (t sz i off:Nat)
 | ov (t n:Nat)
 | agg (vs:List SV)
 | tup (vs:List SV)
 | fn (f:Nat)
 | clo (f:Nat) (cs:List SV)
 | rp (ls:List Nat) (T:Nat) (cs:List SV) (off:Nat)
 | gd (b:Bool) (v:SV)
 | ub (p q:Prop)
 | ro (ls:List Nat) (o:OD)
instance:Inhabited SV:=⟨.any⟩
def Config.svs (ls:List Nat) (x:Config):List SV:=[.sl ls (.rInts x.voters),.sl ls (.rInts x.learners)]
def Entry.svs (ls:List Nat) (x:Entry):List SV:=[.int .i64 x.index,.int .i64 x.term,.int .i64 x.kind,.sl ls (.rInts x.config.voters),.sl ls (.rInts x.config.learners),.str x.data]
def Snap.svs (ls:List Nat) (x:Snap):List SV:=[.int .i64 x.index,.int .i64 x.term,.sl ls (.rInts x.config.voters),.sl ls (.rInts x.config.learners),.str x.data]
def Kept.svs (ls:List Nat) (x:Kept):List SV:=[.int .i64 x.term,.int .i64 x.vote,.int .i64 x.snap.index,.int .i64 x.snap.term,.sl ls (.rInts x.snap.config.voters),.sl ls (.rInts x.snap.config.learners),.str x.snap.data,.sl ls (.rEntry x.entries)]
def Record.svs (ls:List Nat) (x:Record):List SV:=[.int .i64 x.kind,.int .i64 x.term,.int .i64 x.vote,.int .i64 x.entry.index,.int .i64 x.entry.term,.int .i64 x.entry.kind,.sl ls (.rInts x.entry.config.voters),.sl ls (.rInts x.entry.config.learners),.str x.entry.data,.int .i64 x.index,.int .i64 x.snap.index,.int .i64 x.snap.term,.sl ls (.rInts x.snap.config.voters),.sl ls (.rInts x.snap.config.learners),.str x.snap.data]
def Change.svs (ls:List Nat) (x:Change):List SV:=[.int .i64 x.kind,.int .i64 x.node]
def Peer.svs (ls:List Nat) (x:Peer):List SV:=[.int .i64 x.node,.int .i64 x.next,.int .i64 x.match_,.int .i64 x.round]
def Read.svs (ls:List Nat) (x:Read):List SV:=[.int .i64 x.token,.int .i64 x.index,.int .i64 x.round]
def Message.svs (ls:List Nat) (x:Message):List SV:=[.int .i64 x.kind,.int .i64 x.from_,.int .i64 x.to_,.int .i64 x.term,.int .i64 x.index,.int .i64 x.logTerm,.sl ls (.rEntry x.entries),.int .i64 x.commit,.int .i64 x.round,.bool x.ok,.int .i64 x.snap.index,.int .i64 x.snap.term,.sl ls (.rInts x.snap.config.voters),.sl ls (.rInts x.snap.config.learners),.str x.snap.data,.int .i64 x.ask,.int .i64 x.seq,.str x.data]
def Node.svs (ls:List Nat) (x:Node):List SV:=[.int .i64 x.id,.int .i64 x.role,.int .i64 x.kept.term,.int .i64 x.kept.vote,.int .i64 x.kept.snap.index,.int .i64 x.kept.snap.term,.sl ls (.rInts x.kept.snap.config.voters),.sl ls (.rInts x.kept.snap.config.learners),.str x.kept.snap.data,.sl ls (.rEntry x.kept.entries),.int .i64 x.commit,.int .i64 x.lead,.int .i64 x.elapsed,.sl ls (.rInts x.yes),.sl ls (.rPeer x.peers),.int .i64 x.round,.sl ls (.rRead x.reads)]
def Out.svs (ls:List Nat) (x:Out):List SV:=[.sl ls (.rRecord x.records),.sl ls (.rMessage x.messages),.sl ls (.rRead x.ready),.sl ls (.rInts x.lost)]
def Move.svs (ls:List Nat) (x:Move):List SV:=[.int .i64 x.kind,.int .i64 x.node,.int .i64 x.at_,.int .i64 x.change.kind,.int .i64 x.change.node]
def RL.elem (ls:List Nat):RL->Nat->List SV
 | .rInts l,i=>[.int .i64 (l.getD i 0)]
 | .rEntry l,i=>Entry.svs ls (l.getD i default)
 | .rRecord l,i=>Record.svs ls (l.getD i default)
 | .rBytes l,i=>[.int .u8 (l.getD i 0)]
 | .rPeer l,i=>Peer.svs ls (l.getD i default)
 | .rRead l,i=>Read.svs ls (l.getD i default)
 | .rMessage l,i=>Message.svs ls (l.getD i default)
 | .rNode l,i=>Node.svs ls (l.getD i default)
 | .rMove l,i=>Move.svs ls (l.getD i default)
def SV.asInts:SV->Option (List Int×List Nat)
 | .sl ls (.rInts l)=>some (l,ls)
 | .nil=>some ([],[])
 | _=>none
def SV.asEntry:SV->Option (List Entry×List Nat)
 | .sl ls (.rEntry l)=>some (l,ls)
 | .nil=>some ([],[])
 | _=>none
def SV.asRecord:SV->Option (List Record×List Nat)
 | .sl ls (.rRecord l)=>some (l,ls)
 | .nil=>some ([],[])
 | _=>none
def SV.asPeer:SV->Option (List Peer×List Nat)
 | .sl ls (.rPeer l)=>some (l,ls)
 | .nil=>some ([],[])
 | _=>none
def SV.asRead:SV->Option (List Read×List Nat)
 | .sl ls (.rRead l)=>some (l,ls)
 | .nil=>some ([],[])
 | _=>none
def SV.asMessage:SV->Option (List Message×List Nat)
 | .sl ls (.rMessage l)=>some (l,ls)
 | .nil=>some ([],[])
 | _=>none
def SV.asMove:SV->Option (List Move×List Nat)
 | .sl ls (.rMove l)=>some (l,ls)
 | .nil=>some ([],[])
 | _=>none
def Config.of:List SV->Option (Config×List Nat)
 | [s0,s1]=>match s0.asInts with | some (v0,m0)=>(match s1.asInts with | some (v1,m1)=>(some (⟨v0,v1⟩,m0++m1)) | none=>none) | none=>none
 | _=>none
def Entry.of:List SV->Option (Entry×List Nat)
 | [.int .i64 v0,.int .i64 v1,.int .i64 v2,s3,s4,.str v5]=>match s3.asInts with | some (v3,m3)=>(match s4.asInts with | some (v4,m4)=>(some (⟨v0,v1,v2,⟨v3,v4⟩,v5⟩,m3++m4)) | none=>none) | none=>none
 | _=>none
def Snap.of:List SV->Option (Snap×List Nat)
 | [.int .i64 v0,.int .i64 v1,s2,s3,.str v4]=>match s2.asInts with | some (v2,m2)=>(match s3.asInts with | some (v3,m3)=>(some (⟨v0,v1,⟨v2,v3⟩,v4⟩,m2++m3)) | none=>none) | none=>none
 | _=>none
def Kept.of:List SV->Option (Kept×List Nat)
 | [.int .i64 v0,.int .i64 v1,.int .i64 v2,.int .i64 v3,s4,s5,.str v6,s7]=>match s4.asInts with | some (v4,m4)=>(match s5.asInts with | some (v5,m5)=>(match s7.asEntry with | some (v7,m7)=>(some (⟨v0,v1,⟨v2,v3,⟨v4,v5⟩,v6⟩,v7⟩,m4++m5++m7)) | none=>none) | none=>none) | none=>none
 | _=>none
def Record.of:List SV->Option (Record×List Nat)
 | [.int .i64 v0,.int .i64 v1,.int .i64 v2,.int .i64 v3,.int .i64 v4,.int .i64 v5,s6,s7,.str v8,.int .i64 v9,.int .i64 v10,.int .i64 v11,s12,s13,.str v14]=>match s6.asInts with | some (v6,m6)=>(match s7.asInts with | some (v7,m7)=>(match s12.asInts with | some (v12,m12)=>(match s13.asInts with | some (v13,m13)=>(some (⟨v0,v1,v2,⟨v3,v4,v5,⟨v6,v7⟩,v8⟩,v9,⟨v10,v11,⟨v12,v13⟩,v14⟩⟩,m6++m7++m12++m13)) | none=>none) | none=>none) | none=>none) | none=>none
 | _=>none
def Change.of:List SV->Option (Change×List Nat)
 | [.int .i64 v0,.int .i64 v1]=>some (⟨v0,v1⟩,[])
 | _=>none
def Peer.of:List SV->Option (Peer×List Nat)
 | [.int .i64 v0,.int .i64 v1,.int .i64 v2,.int .i64 v3]=>some (⟨v0,v1,v2,v3⟩,[])
 | _=>none
def Read.of:List SV->Option (Read×List Nat)
 | [.int .i64 v0,.int .i64 v1,.int .i64 v2]=>some (⟨v0,v1,v2⟩,[])
 | _=>none
def Message.of:List SV->Option (Message×List Nat)
 | [.int .i64 v0,.int .i64 v1,.int .i64 v2,.int .i64 v3,.int .i64 v4,.int .i64 v5,s6,.int .i64 v7,.int .i64 v8,.bool v9,.int .i64 v10,.int .i64 v11,s12,s13,.str v14,.int .i64 v15,.int .i64 v16,.str v17]=>match s6.asEntry with | some (v6,m6)=>(match s12.asInts with | some (v12,m12)=>(match s13.asInts with | some (v13,m13)=>(some (⟨v0,v1,v2,v3,v4,v5,v6,v7,v8,v9,⟨v10,v11,⟨v12,v13⟩,v14⟩,v15,v16,v17⟩,m6++m12++m13)) | none=>none) | none=>none) | none=>none
 | _=>none
def Node.of:List SV->Option (Node×List Nat)
 | [.int .i64 v0,.int .i64 v1,.int .i64 v2,.int .i64 v3,.int .i64 v4,.int .i64 v5,s6,s7,.str v8,s9,.int .i64 v10,.int .i64 v11,.int .i64 v12,s13,s14,.int .i64 v15,s16]=>match s6.asInts with | some (v6,m6)=>(match s7.asInts with | some (v7,m7)=>(match s9.asEntry with | some (v9,m9)=>(match s13.asInts with | some (v13,m13)=>(match s14.asPeer with | some (v14,m14)=>(match s16.asRead with | some (v16,m16)=>(some (⟨v0,v1,⟨v2,v3,⟨v4,v5,⟨v6,v7⟩,v8⟩,v9⟩,v10,v11,v12,v13,v14,v15,v16⟩,m6++m7++m9++m13++m14++m16)) | none=>none) | none=>none) | none=>none) | none=>none) | none=>none) | none=>none
 | _=>none
def Out.of:List SV->Option (Out×List Nat)
 | [s0,s1,s2,s3]=>match s0.asRecord with | some (v0,m0)=>(match s1.asMessage with | some (v1,m1)=>(match s2.asRead with | some (v2,m2)=>(match s3.asInts with | some (v3,m3)=>(some (⟨v0,v1,v2,v3⟩,m0++m1++m2++m3)) | none=>none) | none=>none) | none=>none) | none=>none
 | _=>none
def Move.of:List SV->Option (Move×List Nat)
 | [.int .i64 v0,.int .i64 v1,.int .i64 v2,.int .i64 v3,.int .i64 v4]=>some (⟨v0,v1,v2,⟨v3,v4⟩⟩,[])
 | _=>none
def RL.snoc:RL->List SV->Option (RL×List Nat)
 | .rInts l,[.int .i64 n]=>some (.rInts (l++[n]),[])
 | .rEntry l,cs=>match Entry.of cs with | some (x,m)=>some (.rEntry (l++[x]),m) | none=>none
 | .rRecord l,cs=>match Record.of cs with | some (x,m)=>some (.rRecord (l++[x]),m) | none=>none
 | .rBytes l,[.int .u8 n]=>some (.rBytes (l++[n]),[])
 | .rPeer l,cs=>match Peer.of cs with | some (x,m)=>some (.rPeer (l++[x]),m) | none=>none
 | .rRead l,cs=>match Read.of cs with | some (x,m)=>some (.rRead (l++[x]),m) | none=>none
 | .rMessage l,cs=>match Message.of cs with | some (x,m)=>some (.rMessage (l++[x]),m) | none=>none
 | .rNode l,cs=>match Node.of cs with | some (x,m)=>some (.rNode (l++[x]),m) | none=>none
 | .rMove l,cs=>match Move.of cs with | some (x,m)=>some (.rMove (l++[x]),m) | none=>none
 | .rInts _,_=>none
 | .rBytes _,_=>none
def RL.put:RL->Nat->List SV->Option (RL×List Nat)
 | .rInts l,i,[.int .i64 n]=>some (.rInts (l.set i n),[])
 | .rEntry l,i,cs=>match Entry.of cs with | some (x,m)=>some (.rEntry (l.set i x),m) | none=>none
 | .rRecord l,i,cs=>match Record.of cs with | some (x,m)=>some (.rRecord (l.set i x),m) | none=>none
 | .rBytes l,i,[.int .u8 n]=>some (.rBytes (l.set i n),[])
 | .rPeer l,i,cs=>match Peer.of cs with | some (x,m)=>some (.rPeer (l.set i x),m) | none=>none
 | .rRead l,i,cs=>match Read.of cs with | some (x,m)=>some (.rRead (l.set i x),m) | none=>none
 | .rMessage l,i,cs=>match Message.of cs with | some (x,m)=>some (.rMessage (l.set i x),m) | none=>none
 | .rNode l,i,cs=>match Node.of cs with | some (x,m)=>some (.rNode (l.set i x),m) | none=>none
 | .rMove l,i,cs=>match Move.of cs with | some (x,m)=>some (.rMove (l.set i x),m) | none=>none
 | .rInts _,_,_=>none
 | .rBytes _,_,_=>none
structure Env where
 β:Nat->Option Value
 σ:Nat->Nat->Prop
 φ:Nat->Nat->Prop
def Env.set (E:Env) (ls:List Nat) (b:Nat):Prop:=∃ i,i∈ls/\E.σ i b
mutual
/-- v is as sv says -/
def DenV (E:Env) (w:World):SV->Value->Prop
 | .any,_=>True
 | .int k n,v=>v = .int k n/\(Lit.int k n).wf=true
 | .bool b,v=>v = .bool b
 | .str s,v=>v = .string s/\s.size<=140737488355328
 | .nil,v=>v = .slice none 0 0
 | .np,v=>v = .pointer none
 | .sl ls r,v=>Rd w (E.set ls) (.sl r.tys) v (.sl r.rows)
 | .own t,v=>E.β t=some v/\v.oneCell'=true
 | .ptr t off,v=>∃ b,E.β t=some (.pointer (some ⟨b,0,none⟩))/\v = .pointer (some ⟨b,off,none⟩)
 | .mp t,v=>∃ b,E.β t=some (.pointer (some ⟨b,0,none⟩))/\v = .map (some b)
 | .el ls r i off,v=>i<r.len/\∃ b o c,v = .pointer (some ⟨b,o+i*r.tys.length+off,none⟩)/\Rd w (E.set ls) (.sl r.tys) (.slice (some ⟨b,o,none⟩) r.len c) (.sl r.rows)
 | .oel t sz i off,v=>∃ b o n c,E.β t=some (.slice (some ⟨b,o,none⟩) n c)/\v = .pointer (some ⟨b,o+i*sz+off,none⟩)
 | .ov t n,v=>∃ ad m c,E.β t=some (.slice ad m c)/\n<=m/\v = .slice ad n c
 | .agg vs,v=>∃ xs,v = .agg xs.toArray/\DenL E w vs xs
 | .tup vs,v=>∃ xs,v = .tuple xs.toArray/\DenL E w vs xs
 | .fn f,v=>v = .func (.func f) #[] #[]
 | .clo f cs,v=>∃ xs,v = .func (.func f) #[] xs.toArray/\DenL E w cs xs
 | .rp ls T cs off,v=>∃ b xs,v = .pointer (some ⟨b,off,none⟩)/\E.set ls b/\w.heap[b]? = some (.cells xs.toArray T (0,0))/\DenL E w cs xs
 | .gd b s,v=>(b=true->DenV E w s v)/\(b=false->v=undef)
 | .ub p q,v=>∃ b,v = .bool b/\(b=true->p)/\(b=false->q)
 | .ro ls o,v=>∃ (b:Nat) (F:Nat->Prop),v = .pointer (some ⟨b,0,none⟩)/\o.pr w F b/\∀ x,F x->E.set ls x
def DenL (E:Env) (w:World):List SV->List Value->Prop
 | [],[]=>True
 | s::ss,x::xs=>DenV E w s x/\DenL E w ss xs
 | _,_=>False
end
theorem RL.rows_len (r:RL):r.rows.length=r.len:=by cases r<;>simp [RL.rows,RL.len,ints,strs,zfd]
theorem RL.tys_pos (r:RL):0<r.tys.length/\r.tys.length<=64:=by cases r<;>(simp only [RL.tys];decide)
theorem zaP {E:Env} {w:World} {S:Nat->Prop} {v:Value} {n:Int} (h:Rd w S (.int .i64) v (.int n)):DenV E w (.int .i64 n) v:=by cases h with | int h=>exact ⟨rfl,h⟩
theorem leafU {E:Env} {w:World} {S:Nat->Prop} {v:Value} {n:Int} (h:Rd w S (.int .u8) v (.int n)):DenV E w (.int .u8 n) v:=by cases h with | int h=>exact ⟨rfl,h⟩
theorem rdU {E:Env} {w:World} {S:Nat->Prop} {v:Value} {n:Int} (h:DenV E w (.int .u8 n) v):Rd w S (.int .u8) v (.int n):=by obtain ⟨rfl,h⟩:=h;exact .int h
theorem leafB {E:Env} {w:World} {S:Nat->Prop} {v:Value} {n:Bool} (h:Rd w S .bool v (.bool n)):DenV E w (.bool n) v:=by cases h with | bool=>exact rfl
theorem zjW {E:Env} {w:World} {S:Nat->Prop} {v:Value} {n:ByteArray} (h:Rd w S .str v (.str n)):DenV E w (.str n) v:=by cases h with | str h=>exact ⟨rfl,h⟩
theorem rdI {E:Env} {w:World} {S:Nat->Prop} {v:Value} {n:Int} (h:DenV E w (.int .i64 n) v):Rd w S (.int .i64) v (.int n):=by obtain ⟨rfl,h⟩:=h;exact .int h
theorem rdB {E:Env} {w:World} {S:Nat->Prop} {v:Value} {n:Bool} (h:DenV E w (.bool n) v):Rd w S .bool v (.bool n):=by have:v = .bool n:=h;subst this;exact .bool
theorem rdS {E:Env} {w:World} {S:Nat->Prop} {v:Value} {n:ByteArray} (h:DenV E w (.str n) v):Rd w S .str v (.str n):=by obtain ⟨rfl,h⟩:=h;exact .str h
theorem DenL.len0 {E:Env} {w:World}:∀ {ss:List SV} {vs:List Value},DenL E w ss vs->vs.length=ss.length
 | [],[],_=>rfl
 | _::ss,_::vs,h=>by simp [DenL.len0 h.2]
 | [],_::_,h=>h.elim
 | _::_,[],h=>h.elim
theorem Config.svs_of {E:Env} {w:World} {ls:List Nat} {vs:List Value} {x:Config} (h:RdL w (E.set ls) Config.ty vs x.enc):DenL E w (x.svs ls) vs:=by
 have hl:=h.lens.1
 rw [Config.ty_len] at hl
 obtain ⟨v0,v1,rfl⟩:=znK hl
 obtain ⟨h0,h1,_⟩:=h
 exact ⟨h0,h1,trivial⟩
theorem Config.svs_rd {E:Env} {w:World} {ls:List Nat} {vs:List Value} {x:Config} (h:DenL E w (x.svs ls) vs):RdL w (E.set ls) Config.ty vs x.enc:=by
 have hl:vs.length=2:=h.len0
 obtain ⟨v0,v1,rfl⟩:=znK hl
 obtain ⟨h0,h1,_⟩:=h
 exact ⟨h0,h1,trivial⟩
theorem Entry.svs_of {E:Env} {w:World} {ls:List Nat} {vs:List Value} {x:Entry} (h:RdL w (E.set ls) Entry.ty vs x.enc):DenL E w (x.svs ls) vs:=by
 have hl:=h.lens.1
 rw [Entry.ty_len] at hl
 obtain ⟨v0,v1,v2,v3,v4,v5,rfl⟩:=zvv hl
 obtain ⟨h0,h1,h2,h3,h4,h5,_⟩:=h
 exact ⟨zaP h0,zaP h1,zaP h2,h3,h4,zjW h5,trivial⟩
theorem Entry.svs_rd {E:Env} {w:World} {ls:List Nat} {vs:List Value} {x:Entry} (h:DenL E w (x.svs ls) vs):RdL w (E.set ls) Entry.ty vs x.enc:=by
 have hl:vs.length=6:=h.len0
 obtain ⟨v0,v1,v2,v3,v4,v5,rfl⟩:=zvv hl
 obtain ⟨h0,h1,h2,h3,h4,h5,_⟩:=h
 exact ⟨rdI h0,rdI h1,rdI h2,h3,h4,rdS h5,trivial⟩
theorem Snap.svs_of {E:Env} {w:World} {ls:List Nat} {vs:List Value} {x:Snap} (h:RdL w (E.set ls) Snap.ty vs x.enc):DenL E w (x.svs ls) vs:=by
 have hl:=h.lens.1
 rw [Snap.ty_len] at hl
 obtain ⟨v0,v1,v2,v3,v4,rfl⟩:=zjV hl
 obtain ⟨h0,h1,h2,h3,h4,_⟩:=h
 exact ⟨zaP h0,zaP h1,h2,h3,zjW h4,trivial⟩
theorem Snap.svs_rd {E:Env} {w:World} {ls:List Nat} {vs:List Value} {x:Snap} (h:DenL E w (x.svs ls) vs):RdL w (E.set ls) Snap.ty vs x.enc:=by
 have hl:vs.length=5:=h.len0
 obtain ⟨v0,v1,v2,v3,v4,rfl⟩:=zjV hl
 obtain ⟨h0,h1,h2,h3,h4,_⟩:=h
 exact ⟨rdI h0,rdI h1,h2,h3,rdS h4,trivial⟩
theorem Kept.svs_of {E:Env} {w:World} {ls:List Nat} {vs:List Value} {x:Kept} (h:RdL w (E.set ls) Kept.ty vs x.enc):DenL E w (x.svs ls) vs:=by
 have hl:=h.lens.1
 rw [Kept.ty_len] at hl
 obtain ⟨v0,v1,v2,v3,v4,v5,v6,v7,rfl⟩:=zvu hl
 obtain ⟨h0,h1,h2,h3,h4,h5,h6,h7,_⟩:=h
 exact ⟨zaP h0,zaP h1,zaP h2,zaP h3,h4,h5,zjW h6,h7,trivial⟩
theorem Kept.svs_rd {E:Env} {w:World} {ls:List Nat} {vs:List Value} {x:Kept} (h:DenL E w (x.svs ls) vs):RdL w (E.set ls) Kept.ty vs x.enc:=by
 have hl:vs.length=8:=h.len0
 obtain ⟨v0,v1,v2,v3,v4,v5,v6,v7,rfl⟩:=zvu hl
 obtain ⟨h0,h1,h2,h3,h4,h5,h6,h7,_⟩:=h
 exact ⟨rdI h0,rdI h1,rdI h2,rdI h3,h4,h5,rdS h6,h7,trivial⟩
theorem Record.svs_of {E:Env} {w:World} {ls:List Nat} {vs:List Value} {x:Record} (h:RdL w (E.set ls) Record.ty vs x.enc):DenL E w (x.svs ls) vs:=by
 have hl:=h.lens.1
 rw [Record.ty_len] at hl
 obtain ⟨v0,v1,v2,v3,v4,v5,v6,v7,v8,v9,v10,v11,v12,v13,v14,rfl⟩:=zpB hl
 obtain ⟨h0,h1,h2,h3,h4,h5,h6,h7,h8,h9,h10,h11,h12,h13,h14,_⟩:=h
 exact ⟨zaP h0,zaP h1,zaP h2,zaP h3,zaP h4,zaP h5,h6,h7,zjW h8,zaP h9,zaP h10,zaP h11,h12,h13,zjW h14,trivial⟩
theorem Record.svs_rd {E:Env} {w:World} {ls:List Nat} {vs:List Value} {x:Record} (h:DenL E w (x.svs ls) vs):RdL w (E.set ls) Record.ty vs x.enc:=by
 have hl:vs.length=15:=h.len0
 obtain ⟨v0,v1,v2,v3,v4,v5,v6,v7,v8,v9,v10,v11,v12,v13,v14,rfl⟩:=zpB hl
 obtain ⟨h0,h1,h2,h3,h4,h5,h6,h7,h8,h9,h10,h11,h12,h13,h14,_⟩:=h
 exact ⟨rdI h0,rdI h1,rdI h2,rdI h3,rdI h4,rdI h5,h6,h7,rdS h8,rdI h9,rdI h10,rdI h11,h12,h13,rdS h14,trivial⟩
theorem Change.svs_of {E:Env} {w:World} {ls:List Nat} {vs:List Value} {x:Change} (h:RdL w (E.set ls) Change.ty vs x.enc):DenL E w (x.svs ls) vs:=by
 have hl:=h.lens.1
 rw [Change.ty_len] at hl
 obtain ⟨v0,v1,rfl⟩:=znK hl
 obtain ⟨h0,h1,_⟩:=h
 exact ⟨zaP h0,zaP h1,trivial⟩
theorem Change.svs_rd {E:Env} {w:World} {ls:List Nat} {vs:List Value} {x:Change} (h:DenL E w (x.svs ls) vs):RdL w (E.set ls) Change.ty vs x.enc:=by
 have hl:vs.length=2:=h.len0
 obtain ⟨v0,v1,rfl⟩:=znK hl
 obtain ⟨h0,h1,_⟩:=h
 exact ⟨rdI h0,rdI h1,trivial⟩
theorem Peer.svs_of {E:Env} {w:World} {ls:List Nat} {vs:List Value} {x:Peer} (h:RdL w (E.set ls) Peer.ty vs x.enc):DenL E w (x.svs ls) vs:=by
 have hl:=h.lens.1
 rw [Peer.ty_len] at hl
 obtain ⟨v0,v1,v2,v3,rfl⟩:=znJ hl
 obtain ⟨h0,h1,h2,h3,_⟩:=h
 exact ⟨zaP h0,zaP h1,zaP h2,zaP h3,trivial⟩
theorem Peer.svs_rd {E:Env} {w:World} {ls:List Nat} {vs:List Value} {x:Peer} (h:DenL E w (x.svs ls) vs):RdL w (E.set ls) Peer.ty vs x.enc:=by
 have hl:vs.length=4:=h.len0
 obtain ⟨v0,v1,v2,v3,rfl⟩:=znJ hl
 obtain ⟨h0,h1,h2,h3,_⟩:=h
 exact ⟨rdI h0,rdI h1,rdI h2,rdI h3,trivial⟩
theorem Read.svs_of {E:Env} {w:World} {ls:List Nat} {vs:List Value} {x:Read} (h:RdL w (E.set ls) Read.ty vs x.enc):DenL E w (x.svs ls) vs:=by
 have hl:=h.lens.1
 rw [Read.ty_len] at hl
 obtain ⟨v0,v1,v2,rfl⟩:=zvw hl
 obtain ⟨h0,h1,h2,_⟩:=h
 exact ⟨zaP h0,zaP h1,zaP h2,trivial⟩
theorem Read.svs_rd {E:Env} {w:World} {ls:List Nat} {vs:List Value} {x:Read} (h:DenL E w (x.svs ls) vs):RdL w (E.set ls) Read.ty vs x.enc:=by
 have hl:vs.length=3:=h.len0
 obtain ⟨v0,v1,v2,rfl⟩:=zvw hl
 obtain ⟨h0,h1,h2,_⟩:=h
 exact ⟨rdI h0,rdI h1,rdI h2,trivial⟩
theorem Message.svs_of {E:Env} {w:World} {ls:List Nat} {vs:List Value} {x:Message} (h:RdL w (E.set ls) Message.ty vs x.enc):DenL E w (x.svs ls) vs:=by
 have hl:=h.lens.1
 rw [Message.ty_len] at hl
 obtain ⟨v0,v1,v2,v3,v4,v5,v6,v7,v8,v9,v10,v11,v12,v13,v14,v15,v16,v17,rfl⟩:=zp9 hl
 obtain ⟨h0,h1,h2,h3,h4,h5,h6,h7,h8,h9,h10,h11,h12,h13,h14,h15,h16,h17,_⟩:=h
 exact ⟨zaP h0,zaP h1,zaP h2,zaP h3,zaP h4,zaP h5,h6,zaP h7,zaP h8,leafB h9,zaP h10,zaP h11,h12,h13,zjW h14,zaP h15,zaP h16,zjW h17,trivial⟩
theorem Message.svs_rd {E:Env} {w:World} {ls:List Nat} {vs:List Value} {x:Message} (h:DenL E w (x.svs ls) vs):RdL w (E.set ls) Message.ty vs x.enc:=by
 have hl:vs.length=18:=h.len0
 obtain ⟨v0,v1,v2,v3,v4,v5,v6,v7,v8,v9,v10,v11,v12,v13,v14,v15,v16,v17,rfl⟩:=zp9 hl
 obtain ⟨h0,h1,h2,h3,h4,h5,h6,h7,h8,h9,h10,h11,h12,h13,h14,h15,h16,h17,_⟩:=h
 exact ⟨rdI h0,rdI h1,rdI h2,rdI h3,rdI h4,rdI h5,h6,rdI h7,rdI h8,rdB h9,rdI h10,rdI h11,h12,h13,rdS h14,rdI h15,rdI h16,rdS h17,trivial⟩
theorem Node.svs_of {E:Env} {w:World} {ls:List Nat} {vs:List Value} {x:Node} (h:RdL w (E.set ls) Node.ty vs x.enc):DenL E w (x.svs ls) vs:=by
 have hl:=h.lens.1
 rw [Node.ty_len] at hl
 obtain ⟨v0,v1,v2,v3,v4,v5,v6,v7,v8,v9,v10,v11,v12,v13,v14,v15,v16,rfl⟩:=zpA hl
 obtain ⟨h0,h1,h2,h3,h4,h5,h6,h7,h8,h9,h10,h11,h12,h13,h14,h15,h16,_⟩:=h
 exact ⟨zaP h0,zaP h1,zaP h2,zaP h3,zaP h4,zaP h5,h6,h7,zjW h8,h9,zaP h10,zaP h11,zaP h12,h13,h14,zaP h15,h16,trivial⟩
theorem Node.svs_rd {E:Env} {w:World} {ls:List Nat} {vs:List Value} {x:Node} (h:DenL E w (x.svs ls) vs):RdL w (E.set ls) Node.ty vs x.enc:=by
 have hl:vs.length=17:=h.len0
 obtain ⟨v0,v1,v2,v3,v4,v5,v6,v7,v8,v9,v10,v11,v12,v13,v14,v15,v16,rfl⟩:=zpA hl
 obtain ⟨h0,h1,h2,h3,h4,h5,h6,h7,h8,h9,h10,h11,h12,h13,h14,h15,h16,_⟩:=h
 exact ⟨rdI h0,rdI h1,rdI h2,rdI h3,rdI h4,rdI h5,h6,h7,rdS h8,h9,rdI h10,rdI h11,rdI h12,h13,h14,rdI h15,h16,trivial⟩
theorem Out.svs_of {E:Env} {w:World} {ls:List Nat} {vs:List Value} {x:Out} (h:RdL w (E.set ls) Out.ty vs x.enc):DenL E w (x.svs ls) vs:=by
 have hl:=h.lens.1
 rw [Out.ty_len] at hl
 obtain ⟨v0,v1,v2,v3,rfl⟩:=znJ hl
 obtain ⟨h0,h1,h2,h3,_⟩:=h
 exact ⟨h0,h1,h2,h3,trivial⟩
theorem Out.svs_rd {E:Env} {w:World} {ls:List Nat} {vs:List Value} {x:Out} (h:DenL E w (x.svs ls) vs):RdL w (E.set ls) Out.ty vs x.enc:=by
 have hl:vs.length=4:=h.len0
 obtain ⟨v0,v1,v2,v3,rfl⟩:=znJ hl
 obtain ⟨h0,h1,h2,h3,_⟩:=h
 exact ⟨h0,h1,h2,h3,trivial⟩
theorem Move.svs_of {E:Env} {w:World} {ls:List Nat} {vs:List Value} {x:Move} (h:RdL w (E.set ls) Move.ty vs x.enc):DenL E w (x.svs ls) vs:=by
 have hl:=h.lens.1
 rw [Move.ty_len] at hl
 obtain ⟨v0,v1,v2,v3,v4,rfl⟩:=zjV hl
 obtain ⟨h0,h1,h2,h3,h4,_⟩:=h
 exact ⟨zaP h0,zaP h1,zaP h2,zaP h3,zaP h4,trivial⟩
theorem Move.svs_rd {E:Env} {w:World} {ls:List Nat} {vs:List Value} {x:Move} (h:DenL E w (x.svs ls) vs):RdL w (E.set ls) Move.ty vs x.enc:=by
 have hl:vs.length=5:=h.len0
 obtain ⟨v0,v1,v2,v3,v4,rfl⟩:=zjV hl
 obtain ⟨h0,h1,h2,h3,h4,_⟩:=h
 exact ⟨rdI h0,rdI h1,rdI h2,rdI h3,rdI h4,trivial⟩
theorem Env.set_mono {E:Env} {ls ms:List Nat} (h:∀ i,i∈ls->i∈ms):∀ b,E.set ls b->E.set ms b:=fun b ⟨i,hi,hs⟩=>⟨i,h i hi,hs⟩
theorem SV.asInts_ok {E:Env} {w:World} {s:SV} {v:Value} {l:List Int} {m ls:List Nat} (h:s.asInts=some (l,m)) (hm:∀ i,i∈m->i∈ls) (hd:DenV E w s v):DenV E w (.sl ls (.rInts l)) v:=by
 cases s with
 | sl ls2 r=>
  cases r with
  | rInts l2=>
   simp only [SV.asInts,Option.some.injEq,Prod.mk.injEq] at h
   obtain ⟨rfl,rfl⟩:=h
   exact Rd.mono hd (fun b _=>Env.set_mono hm b)
  | _=>simp [SV.asInts] at h
 | nil=>
  simp only [SV.asInts,Option.some.injEq,Prod.mk.injEq] at h
  obtain ⟨rfl,rfl⟩:=h
  have:v = .slice none 0 0:=hd
  subst this
  exact .emp (fun _=>rfl) (by decide)
 | _=>simp [SV.asInts] at h
theorem SV.asEntry_ok {E:Env} {w:World} {s:SV} {v:Value} {l:List Entry} {m ls:List Nat} (h:s.asEntry=some (l,m)) (hm:∀ i,i∈m->i∈ls) (hd:DenV E w s v):DenV E w (.sl ls (.rEntry l)) v:=by
 cases s with
 | sl ls2 r=>
  cases r with
  | rEntry l2=>
   simp only [SV.asEntry,Option.some.injEq,Prod.mk.injEq] at h
   obtain ⟨rfl,rfl⟩:=h
   exact Rd.mono hd (fun b _=>Env.set_mono hm b)
  | _=>simp [SV.asEntry] at h
 | nil=>
  simp only [SV.asEntry,Option.some.injEq,Prod.mk.injEq] at h
  obtain ⟨rfl,rfl⟩:=h
  have:v = .slice none 0 0:=hd
  subst this
  exact .emp (fun _=>rfl) (by decide)
 | _=>simp [SV.asEntry] at h
theorem SV.asRecord_ok {E:Env} {w:World} {s:SV} {v:Value} {l:List Record} {m ls:List Nat} (h:s.asRecord=some (l,m)) (hm:∀ i,i∈m->i∈ls) (hd:DenV E w s v):DenV E w (.sl ls (.rRecord l)) v:=by
 cases s with
 | sl ls2 r=>
  cases r with
  | rRecord l2=>
   simp only [SV.asRecord,Option.some.injEq,Prod.mk.injEq] at h
   obtain ⟨rfl,rfl⟩:=h
   exact Rd.mono hd (fun b _=>Env.set_mono hm b)
  | _=>simp [SV.asRecord] at h
 | nil=>
  simp only [SV.asRecord,Option.some.injEq,Prod.mk.injEq] at h
  obtain ⟨rfl,rfl⟩:=h
  have:v = .slice none 0 0:=hd
  subst this
  exact .emp (fun _=>rfl) (by decide)
 | _=>simp [SV.asRecord] at h
theorem SV.asPeer_ok {E:Env} {w:World} {s:SV} {v:Value} {l:List Peer} {m ls:List Nat} (h:s.asPeer=some (l,m)) (hm:∀ i,i∈m->i∈ls) (hd:DenV E w s v):DenV E w (.sl ls (.rPeer l)) v:=by
 cases s with
 | sl ls2 r=>
  cases r with
  | rPeer l2=>
   simp only [SV.asPeer,Option.some.injEq,Prod.mk.injEq] at h
   obtain ⟨rfl,rfl⟩:=h
   exact Rd.mono hd (fun b _=>Env.set_mono hm b)
  | _=>simp [SV.asPeer] at h
 | nil=>
  simp only [SV.asPeer,Option.some.injEq,Prod.mk.injEq] at h
  obtain ⟨rfl,rfl⟩:=h
  have:v = .slice none 0 0:=hd
  subst this
  exact .emp (fun _=>rfl) (by decide)
 | _=>simp [SV.asPeer] at h
theorem SV.asRead_ok {E:Env} {w:World} {s:SV} {v:Value} {l:List Read} {m ls:List Nat} (h:s.asRead=some (l,m)) (hm:∀ i,i∈m->i∈ls) (hd:DenV E w s v):DenV E w (.sl ls (.rRead l)) v:=by
 cases s with
 | sl ls2 r=>
  cases r with
  | rRead l2=>
   simp only [SV.asRead,Option.some.injEq,Prod.mk.injEq] at h
   obtain ⟨rfl,rfl⟩:=h
   exact Rd.mono hd (fun b _=>Env.set_mono hm b)
  | _=>simp [SV.asRead] at h
 | nil=>
  simp only [SV.asRead,Option.some.injEq,Prod.mk.injEq] at h
  obtain ⟨rfl,rfl⟩:=h
  have:v = .slice none 0 0:=hd
  subst this
  exact .emp (fun _=>rfl) (by decide)
 | _=>simp [SV.asRead] at h
theorem SV.asMessage_ok {E:Env} {w:World} {s:SV} {v:Value} {l:List Message} {m ls:List Nat} (h:s.asMessage=some (l,m)) (hm:∀ i,i∈m->i∈ls) (hd:DenV E w s v):DenV E w (.sl ls (.rMessage l)) v:=by
 cases s with
 | sl ls2 r=>
  cases r with
  | rMessage l2=>
   simp only [SV.asMessage,Option.some.injEq,Prod.mk.injEq] at h
   obtain ⟨rfl,rfl⟩:=h
   exact Rd.mono hd (fun b _=>Env.set_mono hm b)
  | _=>simp [SV.asMessage] at h
 | nil=>
  simp only [SV.asMessage,Option.some.injEq,Prod.mk.injEq] at h
  obtain ⟨rfl,rfl⟩:=h
  have:v = .slice none 0 0:=hd
  subst this
  exact .emp (fun _=>rfl) (by decide)
 | _=>simp [SV.asMessage] at h
theorem SV.asMove_ok {E:Env} {w:World} {s:SV} {v:Value} {l:List Move} {m ls:List Nat} (h:s.asMove=some (l,m)) (hm:∀ i,i∈m->i∈ls) (hd:DenV E w s v):DenV E w (.sl ls (.rMove l)) v:=by
 cases s with
 | sl ls2 r=>
  cases r with
  | rMove l2=>
   simp only [SV.asMove,Option.some.injEq,Prod.mk.injEq] at h
   obtain ⟨rfl,rfl⟩:=h
   exact Rd.mono hd (fun b _=>Env.set_mono hm b)
  | _=>simp [SV.asMove] at h
 | nil=>
  simp only [SV.asMove,Option.some.injEq,Prod.mk.injEq] at h
  obtain ⟨rfl,rfl⟩:=h
  have:v = .slice none 0 0:=hd
  subst this
  exact .emp (fun _=>rfl) (by decide)
 | _=>simp [SV.asMove] at h
theorem Config.of_ok {E:Env} {w:World} {ss:List SV} {vs:List Value} {x:Config} {m:List Nat} (h:Config.of ss=some (x,m)) (hd:DenL E w ss vs):DenL E w (x.svs m) vs:=by
 unfold Config.of at h
 split at h
 ·have hl:=hd.len0
  obtain ⟨u0,u1,rfl⟩:=znK hl
  obtain ⟨h0,h1,_⟩:=hd
  split at h
  case h_2=>simp at h
  rename_i e0
  split at h
  case h_2=>simp at h
  rename_i e1
  simp only [Option.some.injEq,Prod.mk.injEq] at h
  obtain ⟨rfl,rfl⟩:=h
  exact ⟨SV.asInts_ok e0 (by simp (config:={contextual:=true})) h0,SV.asInts_ok e1 (by simp (config:={contextual:=true})) h1,trivial⟩
 ·simp at h
theorem Entry.of_ok {E:Env} {w:World} {ss:List SV} {vs:List Value} {x:Entry} {m:List Nat} (h:Entry.of ss=some (x,m)) (hd:DenL E w ss vs):DenL E w (x.svs m) vs:=by
 unfold Entry.of at h
 split at h
 ·have hl:=hd.len0
  obtain ⟨u0,u1,u2,u3,u4,u5,rfl⟩:=zvv hl
  obtain ⟨h0,h1,h2,h3,h4,h5,_⟩:=hd
  split at h
  case h_2=>simp at h
  rename_i e3
  split at h
  case h_2=>simp at h
  rename_i e4
  simp only [Option.some.injEq,Prod.mk.injEq] at h
  obtain ⟨rfl,rfl⟩:=h
  exact ⟨h0,h1,h2,SV.asInts_ok e3 (by simp (config:={contextual:=true})) h3,SV.asInts_ok e4 (by simp (config:={contextual:=true})) h4,h5,trivial⟩
 ·simp at h
theorem Snap.of_ok {E:Env} {w:World} {ss:List SV} {vs:List Value} {x:Snap} {m:List Nat} (h:Snap.of ss=some (x,m)) (hd:DenL E w ss vs):DenL E w (x.svs m) vs:=by
 unfold Snap.of at h
 split at h
 ·have hl:=hd.len0
  obtain ⟨u0,u1,u2,u3,u4,rfl⟩:=zjV hl
  obtain ⟨h0,h1,h2,h3,h4,_⟩:=hd
  split at h
  case h_2=>simp at h
  rename_i e2
  split at h
  case h_2=>simp at h
  rename_i e3
  simp only [Option.some.injEq,Prod.mk.injEq] at h
  obtain ⟨rfl,rfl⟩:=h
  exact ⟨h0,h1,SV.asInts_ok e2 (by simp (config:={contextual:=true})) h2,SV.asInts_ok e3 (by simp (config:={contextual:=true})) h3,h4,trivial⟩
 ·simp at h
theorem Kept.of_ok {E:Env} {w:World} {ss:List SV} {vs:List Value} {x:Kept} {m:List Nat} (h:Kept.of ss=some (x,m)) (hd:DenL E w ss vs):DenL E w (x.svs m) vs:=by
 unfold Kept.of at h
 split at h
 ·have hl:=hd.len0
  obtain ⟨u0,u1,u2,u3,u4,u5,u6,u7,rfl⟩:=zvu hl
  obtain ⟨h0,h1,h2,h3,h4,h5,h6,h7,_⟩:=hd
  split at h
  case h_2=>simp at h
  rename_i e4
  split at h
  case h_2=>simp at h
  rename_i e5
  split at h
  case h_2=>simp at h
  rename_i e7
  simp only [Option.some.injEq,Prod.mk.injEq] at h
  obtain ⟨rfl,rfl⟩:=h
  exact ⟨h0,h1,h2,h3,SV.asInts_ok e4 (by simp (config:={contextual:=true})) h4,SV.asInts_ok e5 (by simp (config:={contextual:=true})) h5,h6,SV.asEntry_ok e7 (by simp (config:={contextual:=true})) h7,trivial⟩
 ·simp at h
theorem Record.of_ok {E:Env} {w:World} {ss:List SV} {vs:List Value} {x:Record} {m:List Nat} (h:Record.of ss=some (x,m)) (hd:DenL E w ss vs):DenL E w (x.svs m) vs:=by
 unfold Record.of at h
 split at h
 ·have hl:=hd.len0
  obtain ⟨u0,u1,u2,u3,u4,u5,u6,u7,u8,u9,u10,u11,u12,u13,u14,rfl⟩:=zpB hl
  obtain ⟨h0,h1,h2,h3,h4,h5,h6,h7,h8,h9,h10,h11,h12,h13,h14,_⟩:=hd
  split at h
  case h_2=>simp at h
  rename_i e6
  split at h
  case h_2=>simp at h
  rename_i e7
  split at h
  case h_2=>simp at h
  rename_i e12
  split at h
  case h_2=>simp at h
  rename_i e13
  simp only [Option.some.injEq,Prod.mk.injEq] at h
  obtain ⟨rfl,rfl⟩:=h
  exact ⟨h0,h1,h2,h3,h4,h5,SV.asInts_ok e6 (by simp (config:={contextual:=true})) h6,SV.asInts_ok e7 (by simp (config:={contextual:=true})) h7,h8,h9,h10,h11,SV.asInts_ok e12 (by simp (config:={contextual:=true})) h12,SV.asInts_ok e13 (by simp (config:={contextual:=true})) h13,h14,trivial⟩
 ·simp at h
theorem Change.of_ok {E:Env} {w:World} {ss:List SV} {vs:List Value} {x:Change} {m:List Nat} (h:Change.of ss=some (x,m)) (hd:DenL E w ss vs):DenL E w (x.svs m) vs:=by
 unfold Change.of at h
 split at h
 ·have hl:=hd.len0
  obtain ⟨u0,u1,rfl⟩:=znK hl
  obtain ⟨h0,h1,_⟩:=hd
  simp only [Option.some.injEq,Prod.mk.injEq] at h
  obtain ⟨rfl,rfl⟩:=h
  exact ⟨h0,h1,trivial⟩
 ·simp at h
theorem Peer.of_ok {E:Env} {w:World} {ss:List SV} {vs:List Value} {x:Peer} {m:List Nat} (h:Peer.of ss=some (x,m)) (hd:DenL E w ss vs):DenL E w (x.svs m) vs:=by
 unfold Peer.of at h
 split at h
 ·have hl:=hd.len0
  obtain ⟨u0,u1,u2,u3,rfl⟩:=znJ hl
  obtain ⟨h0,h1,h2,h3,_⟩:=hd
  simp only [Option.some.injEq,Prod.mk.injEq] at h
  obtain ⟨rfl,rfl⟩:=h
  exact ⟨h0,h1,h2,h3,trivial⟩
 ·simp at h
theorem Read.of_ok {E:Env} {w:World} {ss:List SV} {vs:List Value} {x:Read} {m:List Nat} (h:Read.of ss=some (x,m)) (hd:DenL E w ss vs):DenL E w (x.svs m) vs:=by
 unfold Read.of at h
 split at h
 ·have hl:=hd.len0
  obtain ⟨u0,u1,u2,rfl⟩:=zvw hl
  obtain ⟨h0,h1,h2,_⟩:=hd
  simp only [Option.some.injEq,Prod.mk.injEq] at h
  obtain ⟨rfl,rfl⟩:=h
  exact ⟨h0,h1,h2,trivial⟩
 ·simp at h
theorem Message.of_ok {E:Env} {w:World} {ss:List SV} {vs:List Value} {x:Message} {m:List Nat} (h:Message.of ss=some (x,m)) (hd:DenL E w ss vs):DenL E w (x.svs m) vs:=by
 unfold Message.of at h
 split at h
 ·have hl:=hd.len0
  obtain ⟨u0,u1,u2,u3,u4,u5,u6,u7,u8,u9,u10,u11,u12,u13,u14,u15,u16,u17,rfl⟩:=zp9 hl
  obtain ⟨h0,h1,h2,h3,h4,h5,h6,h7,h8,h9,h10,h11,h12,h13,h14,h15,h16,h17,_⟩:=hd
  split at h
  case h_2=>simp at h
  rename_i e6
  split at h
  case h_2=>simp at h
  rename_i e12
  split at h
  case h_2=>simp at h
  rename_i e13
  simp only [Option.some.injEq,Prod.mk.injEq] at h
  obtain ⟨rfl,rfl⟩:=h
  exact ⟨h0,h1,h2,h3,h4,h5,SV.asEntry_ok e6 (by simp (config:={contextual:=true})) h6,h7,h8,h9,h10,h11,SV.asInts_ok e12 (by simp (config:={contextual:=true})) h12,SV.asInts_ok e13 (by simp (config:={contextual:=true})) h13,h14,h15,h16,h17,trivial⟩
 ·simp at h
theorem Node.of_ok {E:Env} {w:World} {ss:List SV} {vs:List Value} {x:Node} {m:List Nat} (h:Node.of ss=some (x,m)) (hd:DenL E w ss vs):DenL E w (x.svs m) vs:=by
 unfold Node.of at h
 split at h
 ·have hl:=hd.len0
  obtain ⟨u0,u1,u2,u3,u4,u5,u6,u7,u8,u9,u10,u11,u12,u13,u14,u15,u16,rfl⟩:=zpA hl
  obtain ⟨h0,h1,h2,h3,h4,h5,h6,h7,h8,h9,h10,h11,h12,h13,h14,h15,h16,_⟩:=hd
  split at h
  case h_2=>simp at h
  rename_i e6
  split at h
  case h_2=>simp at h
  rename_i e7
  split at h
  case h_2=>simp at h
  rename_i e9
  split at h
  case h_2=>simp at h
  rename_i e13
  split at h
  case h_2=>simp at h
  rename_i e14
  split at h
  case h_2=>simp at h
  rename_i e16
  simp only [Option.some.injEq,Prod.mk.injEq] at h
  obtain ⟨rfl,rfl⟩:=h
  exact ⟨h0,h1,h2,h3,h4,h5,SV.asInts_ok e6 (by simp (config:={contextual:=true})) h6,SV.asInts_ok e7 (by simp (config:={contextual:=true})) h7,h8,SV.asEntry_ok e9 (by simp (config:={contextual:=true})) h9,h10,h11,h12,SV.asInts_ok e13 (by simp (config:={contextual:=true})) h13,SV.asPeer_ok e14 (by simp (config:={contextual:=true})) h14,h15,SV.asRead_ok e16 (by simp (config:={contextual:=true})) h16,trivial⟩
 ·simp at h
theorem Out.of_ok {E:Env} {w:World} {ss:List SV} {vs:List Value} {x:Out} {m:List Nat} (h:Out.of ss=some (x,m)) (hd:DenL E w ss vs):DenL E w (x.svs m) vs:=by
 unfold Out.of at h
 split at h
 ·have hl:=hd.len0
  obtain ⟨u0,u1,u2,u3,rfl⟩:=znJ hl
  obtain ⟨h0,h1,h2,h3,_⟩:=hd
  split at h
  case h_2=>simp at h
  rename_i e0
  split at h
  case h_2=>simp at h
  rename_i e1
  split at h
  case h_2=>simp at h
  rename_i e2
  split at h
  case h_2=>simp at h
  rename_i e3
  simp only [Option.some.injEq,Prod.mk.injEq] at h
  obtain ⟨rfl,rfl⟩:=h
  exact ⟨SV.asRecord_ok e0 (by simp (config:={contextual:=true})) h0,SV.asMessage_ok e1 (by simp (config:={contextual:=true})) h1,SV.asRead_ok e2 (by simp (config:={contextual:=true})) h2,SV.asInts_ok e3 (by simp (config:={contextual:=true})) h3,trivial⟩
 ·simp at h
theorem Move.of_ok {E:Env} {w:World} {ss:List SV} {vs:List Value} {x:Move} {m:List Nat} (h:Move.of ss=some (x,m)) (hd:DenL E w ss vs):DenL E w (x.svs m) vs:=by
 unfold Move.of at h
 split at h
 ·have hl:=hd.len0
  obtain ⟨u0,u1,u2,u3,u4,rfl⟩:=zjV hl
  obtain ⟨h0,h1,h2,h3,h4,_⟩:=hd
  simp only [Option.some.injEq,Prod.mk.injEq] at h
  obtain ⟨rfl,rfl⟩:=h
  exact ⟨h0,h1,h2,h3,h4,trivial⟩
 ·simp at h
theorem RL.elem_ok {E:Env} {w:World} {ls:List Nat} {r:RL} {i:Nat} (hi:i<r.len) {vs:List Value} (h:RdL w (E.set ls) r.tys vs (r.rows.getD i [])):DenL E w (r.elem ls i) vs:=by
 cases r with
 | rInts l=>
  have e:(ints l).getD i []=[.int (l.getD i 0)]:=by simp only [RL.len] at hi;simp [ints,List.getD,hi]
  simp only [RL.rows,RL.tys] at h;rw [e] at h
  match vs,h with
  | [v],h=>exact ⟨zaP h.1,trivial⟩
 | rEntry l=>
  have e:(l.map Entry.enc).getD i []=(l.getD i default).enc:=by simp only [RL.len] at hi;simp [List.getD,hi]
  simp only [RL.rows,RL.tys] at h;rw [e] at h
  exact Entry.svs_of h
 | rRecord l=>
  have e:(l.map Record.enc).getD i []=(l.getD i default).enc:=by simp only [RL.len] at hi;simp [List.getD,hi]
  simp only [RL.rows,RL.tys] at h;rw [e] at h
  exact Record.svs_of h
 | rBytes l=>
  have e:(ints l).getD i []=[.int (l.getD i 0)]:=by simp only [RL.len] at hi;simp [ints,List.getD,hi]
  simp only [RL.rows,RL.tys] at h;rw [e] at h
  match vs,h with
  | [v],h=>exact ⟨leafU h.1,trivial⟩
 | rPeer l=>
  have e:(l.map Peer.enc).getD i []=(l.getD i default).enc:=by simp only [RL.len] at hi;simp [List.getD,hi]
  simp only [RL.rows,RL.tys] at h;rw [e] at h
  exact Peer.svs_of h
 | rRead l=>
  have e:(l.map Read.enc).getD i []=(l.getD i default).enc:=by simp only [RL.len] at hi;simp [List.getD,hi]
  simp only [RL.rows,RL.tys] at h;rw [e] at h
  exact Read.svs_of h
 | rMessage l=>
  have e:(l.map Message.enc).getD i []=(l.getD i default).enc:=by simp only [RL.len] at hi;simp [List.getD,hi]
  simp only [RL.rows,RL.tys] at h;rw [e] at h
  exact Message.svs_of h
 | rNode l=>
  have e:(l.map Node.enc).getD i []=(l.getD i default).enc:=by simp only [RL.len] at hi;simp [List.getD,hi]
  simp only [RL.rows,RL.tys] at h;rw [e] at h
  exact Node.svs_of h
 | rMove l=>
  have e:(l.map Move.enc).getD i []=(l.getD i default).enc:=by simp only [RL.len] at hi;simp [List.getD,hi]
  simp only [RL.rows,RL.tys] at h;rw [e] at h
  exact Move.svs_of h
theorem RL.app_ok {a b r:RL} (h:a.app b=some r):r.rows=a.rows++b.rows/\r.tys=a.tys/\b.tys=a.tys/\r.len=a.len+b.len:=by
 cases a<;>cases b<;>simp only [RL.app,Option.some.injEq,reduceCtorEq] at h<;>subst h<;>simp [RL.rows,RL.tys,RL.len,ints,strs,zfd]
theorem RL.ite_t {a b r:RL} (h:RL.ite true a b=some r):r=a:=by cases a<;>cases b<;>simp_all [RL.ite]
theorem RL.ite_f {a b r:RL} (h:RL.ite false a b=some r):r=b:=by cases a<;>cases b<;>simp_all [RL.ite]
theorem RL.take_ok (r:RL) (n:Nat):(r.take n).rows=r.rows.take n/\(r.take n).tys=r.tys/\(r.take n).len=min n r.len:=by cases r<;>simp [RL.take,RL.rows,RL.tys,RL.len,ints,strs,zfd]
theorem RL.drop_ok (r:RL) (n:Nat):(r.drop n).rows=r.rows.drop n/\(r.drop n).tys=r.tys/\(r.drop n).len=r.len-n:=by cases r<;>simp [RL.drop,RL.rows,RL.tys,RL.len,ints,strs,zfd]
theorem RL.emp_ok (r:RL):r.emp.rows=[]/\r.emp.tys=r.tys/\r.emp.len=0:=by cases r<;>simp [RL.emp,RL.rows,RL.tys,RL.len,ints,strs,zfd]
theorem zmv {E:Env} {w:World} {m:List Nat} {s:SV} {t:Ty} {d:D} (hs:∀ v,DenV E w s v->Rd w (E.set m) t v d) {vs:List Value} (h:DenL E w [s] vs):RdL w (E.set m) [t] vs [d]:=by
 match vs,h with
 | [v],h=>exact ⟨hs v h.1,trivial⟩
theorem RL.snoc_ok {r r2:RL} {cs:List SV} {m:List Nat} (h:r.snoc cs=some (r2,m)):r2.tys=r.tys/\r2.len=r.len+1/\∃ ds,r2.rows=r.rows++[ds]/\∀ (E:Env) (w:World) (vs:List Value),DenL E w cs vs->RdL w (E.set m) r.tys vs ds:=by
 cases r with
 | rInts l=>
  match cs,h with
  | [.int .i64 n],h=>
   simp only [RL.snoc,Option.some.injEq,Prod.mk.injEq] at h
   obtain ⟨rfl,rfl⟩:=h
   exact ⟨rfl,by simp [RL.len],[.int n],by simp [RL.rows,ints],fun E w vs hd=>zmv (fun v hv=>rdI hv) hd⟩
 | rEntry l=>
  simp only [RL.snoc] at h
  split at h
  case h_2=>simp at h
  rename_i x m2 e
  simp only [Option.some.injEq,Prod.mk.injEq] at h
  obtain ⟨rfl,rfl⟩:=h
  exact ⟨rfl,by simp [RL.len],x.enc,by simp [RL.rows],fun E w vs hd=>Entry.svs_rd (Entry.of_ok e hd)⟩
 | rRecord l=>
  simp only [RL.snoc] at h
  split at h
  case h_2=>simp at h
  rename_i x m2 e
  simp only [Option.some.injEq,Prod.mk.injEq] at h
  obtain ⟨rfl,rfl⟩:=h
  exact ⟨rfl,by simp [RL.len],x.enc,by simp [RL.rows],fun E w vs hd=>Record.svs_rd (Record.of_ok e hd)⟩
 | rBytes l=>
  match cs,h with
  | [.int .u8 n],h=>
   simp only [RL.snoc,Option.some.injEq,Prod.mk.injEq] at h
   obtain ⟨rfl,rfl⟩:=h
   exact ⟨rfl,by simp [RL.len],[.int n],by simp [RL.rows,ints],fun E w vs hd=>zmv (fun v hv=>rdU hv) hd⟩
 | rPeer l=>
  simp only [RL.snoc] at h
  split at h
  case h_2=>simp at h
  rename_i x m2 e
  simp only [Option.some.injEq,Prod.mk.injEq] at h
  obtain ⟨rfl,rfl⟩:=h
  exact ⟨rfl,by simp [RL.len],x.enc,by simp [RL.rows],fun E w vs hd=>Peer.svs_rd (Peer.of_ok e hd)⟩
 | rRead l=>
  simp only [RL.snoc] at h
  split at h
  case h_2=>simp at h
  rename_i x m2 e
  simp only [Option.some.injEq,Prod.mk.injEq] at h
  obtain ⟨rfl,rfl⟩:=h
  exact ⟨rfl,by simp [RL.len],x.enc,by simp [RL.rows],fun E w vs hd=>Read.svs_rd (Read.of_ok e hd)⟩
 | rMessage l=>
  simp only [RL.snoc] at h
  split at h
  case h_2=>simp at h
  rename_i x m2 e
  simp only [Option.some.injEq,Prod.mk.injEq] at h
  obtain ⟨rfl,rfl⟩:=h
  exact ⟨rfl,by simp [RL.len],x.enc,by simp [RL.rows],fun E w vs hd=>Message.svs_rd (Message.of_ok e hd)⟩
 | rNode l=>
  simp only [RL.snoc] at h
  split at h
  case h_2=>simp at h
  rename_i x m2 e
  simp only [Option.some.injEq,Prod.mk.injEq] at h
  obtain ⟨rfl,rfl⟩:=h
  exact ⟨rfl,by simp [RL.len],x.enc,by simp [RL.rows],fun E w vs hd=>Node.svs_rd (Node.of_ok e hd)⟩
 | rMove l=>
  simp only [RL.snoc] at h
  split at h
  case h_2=>simp at h
  rename_i x m2 e
  simp only [Option.some.injEq,Prod.mk.injEq] at h
  obtain ⟨rfl,rfl⟩:=h
  exact ⟨rfl,by simp [RL.len],x.enc,by simp [RL.rows],fun E w vs hd=>Move.svs_rd (Move.of_ok e hd)⟩
theorem RL.put_ok {r r2:RL} (i:Nat) {cs:List SV} {m:List Nat} (h:r.put i cs=some (r2,m)):r2.tys=r.tys/\r2.len=r.len/\∃ ds,r2.rows=r.rows.set i ds/\∀ (E:Env) (w:World) (vs:List Value),DenL E w cs vs->RdL w (E.set m) r.tys vs ds:=by
 cases r with
 | rInts l=>
  match cs,h with
  | [.int .i64 n],h=>
   simp only [RL.put,Option.some.injEq,Prod.mk.injEq] at h
   obtain ⟨rfl,rfl⟩:=h
   exact ⟨rfl,by simp [RL.len],[.int n],by simp [RL.rows,ints,List.map_set],fun E w vs hd=>zmv (fun v hv=>rdI hv) hd⟩
 | rEntry l=>
  simp only [RL.put] at h
  split at h
  case h_2=>simp at h
  rename_i x m2 e
  simp only [Option.some.injEq,Prod.mk.injEq] at h
  obtain ⟨rfl,rfl⟩:=h
  exact ⟨rfl,by simp [RL.len],x.enc,by simp [RL.rows,List.map_set],fun E w vs hd=>Entry.svs_rd (Entry.of_ok e hd)⟩
 | rRecord l=>
  simp only [RL.put] at h
  split at h
  case h_2=>simp at h
  rename_i x m2 e
  simp only [Option.some.injEq,Prod.mk.injEq] at h
  obtain ⟨rfl,rfl⟩:=h
  exact ⟨rfl,by simp [RL.len],x.enc,by simp [RL.rows,List.map_set],fun E w vs hd=>Record.svs_rd (Record.of_ok e hd)⟩
 | rBytes l=>
  match cs,h with
  | [.int .u8 n],h=>
   simp only [RL.put,Option.some.injEq,Prod.mk.injEq] at h
   obtain ⟨rfl,rfl⟩:=h
   exact ⟨rfl,by simp [RL.len],[.int n],by simp [RL.rows,ints,List.map_set],fun E w vs hd=>zmv (fun v hv=>rdU hv) hd⟩
 | rPeer l=>
  simp only [RL.put] at h
  split at h
  case h_2=>simp at h
  rename_i x m2 e
  simp only [Option.some.injEq,Prod.mk.injEq] at h
  obtain ⟨rfl,rfl⟩:=h
  exact ⟨rfl,by simp [RL.len],x.enc,by simp [RL.rows,List.map_set],fun E w vs hd=>Peer.svs_rd (Peer.of_ok e hd)⟩
 | rRead l=>
  simp only [RL.put] at h
  split at h
  case h_2=>simp at h
  rename_i x m2 e
  simp only [Option.some.injEq,Prod.mk.injEq] at h
  obtain ⟨rfl,rfl⟩:=h
  exact ⟨rfl,by simp [RL.len],x.enc,by simp [RL.rows,List.map_set],fun E w vs hd=>Read.svs_rd (Read.of_ok e hd)⟩
 | rMessage l=>
  simp only [RL.put] at h
  split at h
  case h_2=>simp at h
  rename_i x m2 e
  simp only [Option.some.injEq,Prod.mk.injEq] at h
  obtain ⟨rfl,rfl⟩:=h
  exact ⟨rfl,by simp [RL.len],x.enc,by simp [RL.rows,List.map_set],fun E w vs hd=>Message.svs_rd (Message.of_ok e hd)⟩
 | rNode l=>
  simp only [RL.put] at h
  split at h
  case h_2=>simp at h
  rename_i x m2 e
  simp only [Option.some.injEq,Prod.mk.injEq] at h
  obtain ⟨rfl,rfl⟩:=h
  exact ⟨rfl,by simp [RL.len],x.enc,by simp [RL.rows,List.map_set],fun E w vs hd=>Node.svs_rd (Node.of_ok e hd)⟩
 | rMove l=>
  simp only [RL.put] at h
  split at h
  case h_2=>simp at h
  rename_i x m2 e
  simp only [Option.some.injEq,Prod.mk.injEq] at h
  obtain ⟨rfl,rfl⟩:=h
  exact ⟨rfl,by simp [RL.len],x.enc,by simp [RL.rows,List.map_set],fun E w vs hd=>Move.svs_rd (Move.of_ok e hd)⟩
def RL.eqP:RL->RL->Option Prop
 | .rInts l,.rInts m=>some (l=m)
 | .rEntry l,.rEntry m=>some (l=m)
 | .rRecord l,.rRecord m=>some (l=m)
 | .rBytes l,.rBytes m=>some (l=m)
 | .rPeer l,.rPeer m=>some (l=m)
 | .rRead l,.rRead m=>some (l=m)
 | .rMessage l,.rMessage m=>some (l=m)
 | .rNode l,.rNode m=>some (l=m)
 | .rMove l,.rMove m=>some (l=m)
 | _,_=>none
theorem RL.eqP_ok {a b:RL} {p:Prop} (h:RL.eqP a b=some p) (hp:p):a=b:=by cases a<;>cases b<;>simp only [RL.eqP,Option.some.injEq,reduceCtorEq] at h<;>subst h<;>rw [hp]
def RL.nilP:RL->Prop
 | .rInts l=>l=[]
 | .rEntry l=>l=[]
 | .rRecord l=>l=[]
 | .rBytes l=>l=[]
 | .rPeer l=>l=[]
 | .rRead l=>l=[]
 | .rMessage l=>l=[]
 | .rNode l=>l=[]
 | .rMove l=>l=[]
theorem RL.nilP_ok {a:RL} (h:a.nilP):a.rows=[]:=by cases a<;>simp only [RL.nilP] at h<;>subst h<;>rfl
def RL.ofT (T:TypeId):Option RL:=
 if T=3 then some (.rInts []) else
 if T=71 then some (.rEntry []) else
 if T=107 then some (.rRecord []) else
 if T=5 then some (.rBytes []) else
 if T=102 then some (.rPeer []) else
 if T=123 then some (.rRead []) else
 if T=58 then some (.rMessage []) else
 if T=49 then some (.rNode []) else
 if T=32 then some (.rMove []) else
 none
theorem RL.ofT_ok {T:TypeId} {r:RL} (h:RL.ofT T=some r):r.rows=[]:=by
 unfold RL.ofT at h
 repeat
  split at h
  ·simp only [Option.some.injEq] at h;subst h;rfl
 simp at h
def zbE (l:List Int):Prop:=l.length<=17592186044416/\∀ x,x∈l->I64 x
theorem zbj {w:World} {S:Nat->Prop} {a:Option Addr} {n c:Nat} {l:List Int} (h:SlI w S a n c l):zbE l:=by
 have h1:=h.len
 have h2:=h.bd
 rw [zap] at h1
 exact ⟨by omega,h.i64⟩
theorem zoT {w:World} {S:Nat->Prop} {ts:List Ty} {α:Type} {enc:α->List D} {v:Value} {l:List α} (h:Rd w S (.sl ts) v (.sl (l.map enc))):∀ x,x∈l->∃ vs,RdL w S ts vs (enc x):=by
 intro x hx
 obtain ⟨i,hi,rfl⟩:=List.mem_iff_getElem.1 hx
 obtain ⟨a,c,rfl,hs⟩:=h.sl'
 rw [List.length_map] at hs
 obtain ⟨b,off,_,_,_,vals,_,hr⟩:=hs.rowAt (by omega)
 obtain ⟨h1,h2⟩:=hr i hi
 have e:(l.map enc).getD i []=enc l[i]:=by simp [List.getD,hi]
 rw [e] at h1 h2
 exact ⟨_,RdL.of_at (vals i) h1 h2⟩
theorem zca {w:World} {S:Nat->Prop} {ts:List Ty} {α:Type} {enc:α->List D} {a:Option Addr} {n c:Nat} {l:List α} {p:α->Prop} (h:Sl w S ts a n c (l.map enc)) (hp:∀ x vs,RdL w S ts vs (enc x)->p x):l.length<=17592186044416/\∀ x,x∈l->p x:=by
 have h1:=h.len
 have h2:=h.bd
 rw [List.length_map] at h1
 exact ⟨by omega,fun x hx=>by obtain ⟨vs,hv⟩:=zoT h x hx;exact hp x vs hv⟩
structure Config.Ok (x:Config):Prop where
 voters:zbE x.voters
 learners:zbE x.learners
theorem Config.ok_of {w:World} {S:Nat->Prop} {vs:List Value} {x:Config} (h:RdL w S Config.ty vs x.enc):x.Ok:=by
 obtain ⟨a0,c0,a1,c1,_,h0,h1⟩:=Config.opens h
 exact ⟨zbj h0,zbj h1⟩
structure Entry.Ok (x:Entry):Prop where
 index:I64 x.index
 term:I64 x.term
 kind:I64 x.kind
 config_voters:zbE x.config.voters
 config_learners:zbE x.config.learners
 data:x.data.size<=140737488355328
theorem Entry.ok_of {w:World} {S:Nat->Prop} {vs:List Value} {x:Entry} (h:RdL w S Entry.ty vs x.enc):x.Ok:=by
 obtain ⟨a3,c3,a4,c4,_,h0,h1,h2,h3,h4,h5⟩:=Entry.opens h
 exact ⟨h0,h1,h2,zbj h3,zbj h4,h5⟩
structure Snap.Ok (x:Snap):Prop where
 index:I64 x.index
 term:I64 x.term
 config_voters:zbE x.config.voters
 config_learners:zbE x.config.learners
 data:x.data.size<=140737488355328
theorem Snap.ok_of {w:World} {S:Nat->Prop} {vs:List Value} {x:Snap} (h:RdL w S Snap.ty vs x.enc):x.Ok:=by
 obtain ⟨a2,c2,a3,c3,_,h0,h1,h2,h3,h4⟩:=Snap.opens h
 exact ⟨h0,h1,zbj h2,zbj h3,h4⟩
structure Kept.Ok (x:Kept):Prop where
 term:I64 x.term
 vote:I64 x.vote
 snap_index:I64 x.snap.index
 snap_term:I64 x.snap.term
 snap_config_voters:zbE x.snap.config.voters
 snap_config_learners:zbE x.snap.config.learners
 snap_data:x.snap.data.size<=140737488355328
 entries:(x.entries.length<=17592186044416/\∀ y,y∈x.entries->Entry.Ok y)
theorem Kept.ok_of {w:World} {S:Nat->Prop} {vs:List Value} {x:Kept} (h:RdL w S Kept.ty vs x.enc):x.Ok:=by
 obtain ⟨a4,c4,a5,c5,a7,c7,_,h0,h1,h2,h3,h4,h5,h6,h7⟩:=Kept.opens h
 exact ⟨h0,h1,h2,h3,zbj h4,zbj h5,h6,zca h7 (fun _ _ hr=>Entry.ok_of hr)⟩
structure Record.Ok (x:Record):Prop where
 kind:I64 x.kind
 term:I64 x.term
 vote:I64 x.vote
 entry_index:I64 x.entry.index
 entry_term:I64 x.entry.term
 entry_kind:I64 x.entry.kind
 entry_config_voters:zbE x.entry.config.voters
 entry_config_learners:zbE x.entry.config.learners
 entry_data:x.entry.data.size<=140737488355328
 index:I64 x.index
 snap_index:I64 x.snap.index
 snap_term:I64 x.snap.term
 snap_config_voters:zbE x.snap.config.voters
 snap_config_learners:zbE x.snap.config.learners
 snap_data:x.snap.data.size<=140737488355328
theorem Record.ok_of {w:World} {S:Nat->Prop} {vs:List Value} {x:Record} (h:RdL w S Record.ty vs x.enc):x.Ok:=by
 obtain ⟨a6,c6,a7,c7,a12,c12,a13,c13,_,h0,h1,h2,h3,h4,h5,h6,h7,h8,h9,h10,h11,h12,h13,h14⟩:=Record.opens h
 exact ⟨h0,h1,h2,h3,h4,h5,zbj h6,zbj h7,h8,h9,h10,h11,zbj h12,zbj h13,h14⟩
structure Change.Ok (x:Change):Prop where
 kind:I64 x.kind
 node:I64 x.node
theorem Change.ok_of {w:World} {S:Nat->Prop} {vs:List Value} {x:Change} (h:RdL w S Change.ty vs x.enc):x.Ok:=by
 obtain ⟨_,h0,h1⟩:=Change.opens h
 exact ⟨h0,h1⟩
structure Peer.Ok (x:Peer):Prop where
 node:I64 x.node
 next:I64 x.next
 match_:I64 x.match_
 round:I64 x.round
theorem Peer.ok_of {w:World} {S:Nat->Prop} {vs:List Value} {x:Peer} (h:RdL w S Peer.ty vs x.enc):x.Ok:=by
 obtain ⟨_,h0,h1,h2,h3⟩:=Peer.opens h
 exact ⟨h0,h1,h2,h3⟩
structure Read.Ok (x:Read):Prop where
 token:I64 x.token
 index:I64 x.index
 round:I64 x.round
theorem Read.ok_of {w:World} {S:Nat->Prop} {vs:List Value} {x:Read} (h:RdL w S Read.ty vs x.enc):x.Ok:=by
 obtain ⟨_,h0,h1,h2⟩:=Read.opens h
 exact ⟨h0,h1,h2⟩
structure Message.Ok (x:Message):Prop where
 kind:I64 x.kind
 from_:I64 x.from_
 to_:I64 x.to_
 term:I64 x.term
 index:I64 x.index
 logTerm:I64 x.logTerm
 entries:(x.entries.length<=17592186044416/\∀ y,y∈x.entries->Entry.Ok y)
 commit:I64 x.commit
 round:I64 x.round
 ok:True
 snap_index:I64 x.snap.index
 snap_term:I64 x.snap.term
 snap_config_voters:zbE x.snap.config.voters
 snap_config_learners:zbE x.snap.config.learners
 snap_data:x.snap.data.size<=140737488355328
 ask:I64 x.ask
 seq:I64 x.seq
 data:x.data.size<=140737488355328
theorem Message.ok_of {w:World} {S:Nat->Prop} {vs:List Value} {x:Message} (h:RdL w S Message.ty vs x.enc):x.Ok:=by
 obtain ⟨a6,c6,a12,c12,a13,c13,_,h0,h1,h2,h3,h4,h5,h6,h7,h8,h10,h11,h12,h13,h14,h15,h16,h17⟩:=Message.opens h
 exact ⟨h0,h1,h2,h3,h4,h5,zca h6 (fun _ _ hr=>Entry.ok_of hr),h7,h8,trivial,h10,h11,zbj h12,zbj h13,h14,h15,h16,h17⟩
structure Node.Ok (x:Node):Prop where
 id:I64 x.id
 role:I64 x.role
 kept_term:I64 x.kept.term
 kept_vote:I64 x.kept.vote
 kept_snap_index:I64 x.kept.snap.index
 kept_snap_term:I64 x.kept.snap.term
 kept_snap_config_voters:zbE x.kept.snap.config.voters
 kept_snap_config_learners:zbE x.kept.snap.config.learners
 kept_snap_data:x.kept.snap.data.size<=140737488355328
 kept_entries:(x.kept.entries.length<=17592186044416/\∀ y,y∈x.kept.entries->Entry.Ok y)
 commit:I64 x.commit
 lead:I64 x.lead
 elapsed:I64 x.elapsed
 yes:zbE x.yes
 peers:(x.peers.length<=17592186044416/\∀ y,y∈x.peers->Peer.Ok y)
 round:I64 x.round
 reads:(x.reads.length<=17592186044416/\∀ y,y∈x.reads->Read.Ok y)
theorem Node.ok_of {w:World} {S:Nat->Prop} {vs:List Value} {x:Node} (h:RdL w S Node.ty vs x.enc):x.Ok:=by
 obtain ⟨a6,c6,a7,c7,a9,c9,a13,c13,a14,c14,a16,c16,_,h0,h1,h2,h3,h4,h5,h6,h7,h8,h9,h10,h11,h12,h13,h14,h15,h16⟩:=Node.opens h
 exact ⟨h0,h1,h2,h3,h4,h5,zbj h6,zbj h7,h8,zca h9 (fun _ _ hr=>Entry.ok_of hr),h10,h11,h12,zbj h13,zca h14 (fun _ _ hr=>Peer.ok_of hr),h15,zca h16 (fun _ _ hr=>Read.ok_of hr)⟩
structure Out.Ok (x:Out):Prop where
 records:(x.records.length<=17592186044416/\∀ y,y∈x.records->Record.Ok y)
 messages:(x.messages.length<=17592186044416/\∀ y,y∈x.messages->Message.Ok y)
 ready:(x.ready.length<=17592186044416/\∀ y,y∈x.ready->Read.Ok y)
 lost:zbE x.lost
theorem Out.ok_of {w:World} {S:Nat->Prop} {vs:List Value} {x:Out} (h:RdL w S Out.ty vs x.enc):x.Ok:=by
 obtain ⟨a0,c0,a1,c1,a2,c2,a3,c3,_,h0,h1,h2,h3⟩:=Out.opens h
 exact ⟨zca h0 (fun _ _ hr=>Record.ok_of hr),zca h1 (fun _ _ hr=>Message.ok_of hr),zca h2 (fun _ _ hr=>Read.ok_of hr),zbj h3⟩
structure Move.Ok (x:Move):Prop where
 kind:I64 x.kind
 node:I64 x.node
 at_:I64 x.at_
 change_kind:I64 x.change.kind
 change_node:I64 x.change.node
theorem Move.ok_of {w:World} {S:Nat->Prop} {vs:List Value} {x:Move} (h:RdL w S Move.ty vs x.enc):x.Ok:=by
 obtain ⟨_,h0,h1,h2,h3,h4⟩:=Move.opens h
 exact ⟨h0,h1,h2,h3,h4⟩
end Go.Proofs.YtkhphiahindnnaaGreat
namespace Go.Proofs.YtkhphiahindnnaaGreat
open Go.RowKit Go.ChangeShapes Go.WideShapes Go.Deep
structure Env.Le (E E':Env):Prop where
 β:∀ t v,E.β t=some v->E'.β t=some v
 σ:∀ i b,E.σ i b->E'.σ i b
theorem Env.Le.refl (E:Env):E.Le E:=⟨fun _ _ h=>h,fun _ _ h=>h⟩
theorem Env.Le.trans {a b c:Env} (h:a.Le b) (k:b.Le c):a.Le c:=⟨fun t v x=>k.β t v (h.β t v x),fun i b x=>k.σ i b (h.σ i b x)⟩
def Env.lab (E:Env) (b:Nat):Prop:=∃ i,E.σ i b
theorem Env.set_lab {E:Env} {ls:List Nat} {b:Nat} (h:E.set ls b):E.lab b:=⟨h.choose,h.choose_spec.2⟩
theorem Env.Le.set {E E':Env} (h:E.Le E') {ls:List Nat} {b:Nat} (hb:E.set ls b):E'.set ls b:=by
 obtain ⟨i,hi,hs⟩:=hb;exact ⟨i,hi,h.σ i b hs⟩
mutual
theorem DenV.mono {E E':Env} {w w':World} (hE:E.Le E') (hS:Same E.lab w w'):∀ (s:SV) (v:Value),DenV E w s v->DenV E' w' s v
 | .any,_,_=>trivial
 | .int _ _,_,h=>h
 | .bool _,_,h=>h
 | .str _,_,h=>h
 | .nil,_,h=>h
 | .np,_,h=>h
 | .sl ls r,v,h=>Rd.mono (Rd.same h (hS.mono fun b hb=>Env.set_lab hb)) (fun b _ hb=>hE.set hb)
 | .own t,v,h=>⟨hE.β _ _ h.1,h.2⟩
 | .ptr t off,v,h=>by obtain ⟨b,h1,h2⟩:=h;exact ⟨b,hE.β _ _ h1,h2⟩
 | .mp t,v,h=>by obtain ⟨b,h1,h2⟩:=h;exact ⟨b,hE.β _ _ h1,h2⟩
 | .el ls r i off,v,h=>by
  obtain ⟨h0,b,o,c,h1,h2⟩:=h
  exact ⟨h0,b,o,c,h1,Rd.mono (Rd.same h2 (hS.mono fun b hb=>Env.set_lab hb)) (fun b _ hb=>hE.set hb)⟩
 | .oel t sz i off,v,h=>by obtain ⟨b,o,n,c,h1,h2⟩:=h;exact ⟨b,o,n,c,hE.β _ _ h1,h2⟩
 | .ov t n,v,h=>by obtain ⟨ad,m,c,h1,h2⟩:=h;exact ⟨ad,m,c,hE.β _ _ h1,h2⟩
 | .agg vs,v,h=>by obtain ⟨xs,h1,h2⟩:=h;exact ⟨xs,h1,DenL.mono hE hS vs xs h2⟩
 | .tup vs,v,h=>by obtain ⟨xs,h1,h2⟩:=h;exact ⟨xs,h1,DenL.mono hE hS vs xs h2⟩
 | .fn _,_,h=>h
 | .clo f cs,v,h=>by obtain ⟨xs,h1,h2⟩:=h;exact ⟨xs,h1,DenL.mono hE hS cs xs h2⟩
 | .rp ls T cs off,v,h=>by
  obtain ⟨b,xs,h1,h2,h3,h4⟩:=h
  exact ⟨b,xs,h1,hE.set h2,(hS.block b (Env.set_lab h2) (Array.getElem?_eq_some_iff.1 h3).1).trans h3,DenL.mono hE hS cs xs h4⟩
 | .gd b s,v,h=>⟨fun hb=>DenV.mono hE hS s v (h.1 hb),h.2⟩
 | .ub _ _,_,h=>h
 | .ro ls o,v,h=>by
  obtain ⟨b,F,h1,h2,h3⟩:=h
  exact ⟨b,F,h1,OD.frame h2 (fun x hx=>hS.block x (Env.set_lab (h3 x hx)) (OD.lt h2 hx)),fun x hx=>hE.set (h3 x hx)⟩
theorem DenL.mono {E E':Env} {w w':World} (hE:E.Le E') (hS:Same E.lab w w'):∀ (ss:List SV) (vs:List Value),DenL E w ss vs->DenL E' w' ss vs
 | [],[],_=>trivial
 | s::ss,x::xs,h=>⟨DenV.mono hE hS s x h.1,DenL.mono hE hS ss xs h.2⟩
 | [],_::_,h=>h.elim
 | _::_,[],h=>h.elim
end
theorem DenL.len {E:Env} {w:World}:∀ {ss:List SV} {vs:List Value},DenL E w ss vs->vs.length=ss.length
 | [],[],_=>rfl
 | _::ss,_::vs,h=>by simp [DenL.len h.2]
 | [],_::_,h=>h.elim
 | _::_,[],h=>h.elim
theorem DenL.at {E:Env} {w:World}:∀ {ss:List SV} {vs:List Value},DenL E w ss vs->∀ i,i<ss.length->DenV E w (ss.getD i .any) (vs.getD i undef)
 | s::ss,x::xs,h,0,_=>h.1
 | s::ss,x::xs,h,i+1,hi=>DenL.at (ss:=ss) (vs:=xs) h.2 i (by simpa using hi)
 | [],_,_,i,hi=>absurd hi (by simp)
 | _::_,[],h,_,_=>h.elim
theorem DenL.any {E:Env} {w:World} {ss:List SV} {vs:List Value} (h:DenL E w ss vs) (i:Nat):DenV E w (ss.getD i .any) (vs.getD i undef):=by
 by_cases hi:i<ss.length
 ·exact h.at i hi
 ·simp [List.getD,Nat.le_of_not_lt hi,DenV]
theorem DenL.take {E:Env} {w:World}:∀ {ss:List SV} {vs:List Value},DenL E w ss vs->∀ n,DenL E w (ss.take n) (vs.take n)
 | _::ss,_::xs,h,0=>by simp [DenL]
 | _::ss,_::xs,h,n+1=>by simp only [List.take_succ_cons];exact ⟨h.1,DenL.take (ss:=ss) (vs:=xs) h.2 n⟩
 | [],[],_,_=>by simp [DenL]
 | [],_::_,h,_=>h.elim
 | _::_,[],h,_=>h.elim
theorem DenL.drop {E:Env} {w:World}:∀ {ss:List SV} {vs:List Value},DenL E w ss vs->∀ n,DenL E w (ss.drop n) (vs.drop n)
 | _::ss,_::xs,h,0=>h
 | _::ss,_::xs,h,n+1=>by simp only [List.drop_succ_cons];exact DenL.drop (ss:=ss) (vs:=xs) h.2 n
 | [],[],_,_=>by simp [DenL]
 | [],_::_,h,_=>h.elim
 | _::_,[],h,_=>h.elim
theorem DenL.app {E:Env} {w:World}:∀ {ss:List SV} {vs:List Value} {ts:List SV} {us:List Value},DenL E w ss vs->DenL E w ts us->DenL E w (ss++ts) (vs++us)
 | _::ss,_::xs,_,_,h,k=>⟨h.1,DenL.app (ss:=ss) (vs:=xs) h.2 k⟩
 | [],[],_,_,_,k=>k
 | [],_::_,_,_,h,_=>h.elim
 | _::_,[],_,_,h,_=>h.elim
def SV.flat:SV->Bool
 | .int _ _ | .bool _ | .str _ | .nil | .sl _ _ | .own _ | .ptr _ _ | .fn _=>true
 | _=>false
theorem SV.flat_one {E:Env} {w:World} {s:SV} {v:Value} (hf:s.flat=true) (h:DenV E w s v):v.oneCell'=true:=by
 cases s<;>simp only [SV.flat,Bool.false_eq_true] at hf
 case int=>obtain ⟨rfl,_⟩:=h;rfl
 case bool=>have:v=_:=h;subst this;rfl
 case str=>obtain ⟨rfl,_⟩:=h;rfl
 case nil=>have:v=_:=h;subst this;rfl
 case sl=>exact Rd.one h
 case own=>exact h.2
 case ptr=>obtain ⟨b,_,rfl⟩:=h;rfl
 case fn=>have:v=_:=h;subst this;rfl
theorem DenL.ones {E:Env} {w:World}:∀ {ss:List SV} {vs:List Value},ss.all SV.flat=true->DenL E w ss vs->∀ v∈vs,v.oneCell'=true
 | [],[],_,_,_,h=>by cases h
 | s::ss,x::xs,hf,h,v,hv=>by
  simp only [List.all_cons,Bool.and_eq_true] at hf
  rcases List.mem_cons.1 hv with rfl | hv
  ·exact SV.flat_one hf.1 h.1
  ·exact DenL.ones hf.2 h.2 v hv
 | [],_::_,_,h,_,_=>h.elim
 | _::_,[],_,h,_,_=>h.elim
inductive BE
 | empty
 | dead
 | cells (T:TypeId) (vs:List SV)
 | row (T:TypeId) (ls:List Nat) (r:RL)
 | obj (o:OD)
instance:Inhabited BE:=⟨.dead⟩
def BE.live:BE->Bool
 | .cells .. | .row .. | .obj _=>true
 | _=>false
def zaV:Value->Option Nat
 | .pointer (some a)=>some a.block
 | .slice (some a) _ _=>some a.block
 | _=>none
theorem zaN {v:Value} (h:∃ a n c,v = .slice a n c):v.ownBlock=zaV v:=by
 obtain ⟨a,n,c,rfl⟩:=h
 cases a<;>rfl
def Fo (E:Env) (t:Nat) (v:Value):BE->Nat->Prop
 | .obj _,b=>E.φ t b
 | _,b=>zaV v=some b
def Has (E:Env) (m:Nat->BE) (t b:Nat):Prop:=(m t).live=true/\∃ v,E.β t=some v/\Fo E t v (m t) b
def BE.isO:BE->Bool
 | .obj _=>true
 | _=>false
theorem Fo.iff {E:Env} {t b:Nat} {v:Value} {e e':BE} (h:e'.isO=e.isO) (hf:Fo E t v e' b):Fo E t v e b:=by
 cases e<;>cases e'<;>first | exact hf | (simp only [BE.isO,reduceCtorEq] at h)
theorem Has.cells {E:Env} {m:Nat->BE} {t b:Nat} {T:TypeId} {vs:List SV} {v:Value} (hm:m t = .cells T vs) (hv:E.β t=some v) (hb:zaV v=some b):Has E m t b:=⟨by rw [hm];rfl,v,hv,by rw [hm];exact hb⟩
theorem Has.row {E:Env} {m:Nat->BE} {t b:Nat} {T:TypeId} {ls:List Nat} {r:RL} {v:Value} (hm:m t = .row T ls r) (hv:E.β t=some v) (hb:zaV v=some b):Has E m t b:=⟨by rw [hm];rfl,v,hv,by rw [hm];exact hb⟩
structure BelowX (base:Nat) (X:Nat->Prop) (w w':World):Prop where
 os:w'.os=w.os
 tape:w'.tape=w.tape
 output:w'.output=w.output
 size:w.heap.size<=w'.heap.size
 block:∀ b,b<base->¬ X b->w'.heap[b]? = w.heap[b]?
theorem BelowX.refl (base:Nat) (X:Nat->Prop) (w:World):BelowX base X w w:=⟨rfl,rfl,rfl,Nat.le_refl _,fun _ _ _=>rfl⟩
structure Cx where
 X:Nat->Prop
 nl:Nat
 S:Nat->Nat->Prop
 B:Nat->Option Value
structure MemOk (base:Nat) (X:Cx) (w0:World) (E:Env) (m:Nat->BE) (w:World):Prop where
 empty:∀ t,m t = .empty->E.β t=none/\∀ b,¬ E.σ t b
 cells:∀ t T vs,m t = .cells T vs->∃ b xs,E.β t=some (.pointer (some ⟨b,0,none⟩))/\w.heap[b]? = some (.cells xs.toArray T (0,0))/\DenL E w vs xs/\vs.all SV.flat=true
 row:∀ t T ls r,m t = .row T ls r->∃ v,E.β t=some v/\OwnR 0 w T (E.set ls) r.tys v r.rows
 lab:∀ i b,E.σ i b->b<w.heap.size/\(X.nl<=i->base<=b\/X.X b)
 dis:∀ i j b,E.σ i b->E.σ j b->i=j
 low:∀ i,i<X.nl->m i ≠ .empty
 sep:∀ t b,Has E m t b->¬ E.lab b/\(base<=b\/X.X b)
 old:∀ i b,i<X.nl->E.σ i b->X.S i b
 inj:∀ t u b,Has E m t b->Has E m u b->t=u
 keep:∀ t v,X.B t=some v->E.β t=some v
 below:BelowX base X.X w0 w
 base:base<=w.heap.size
 obj:∀ t o,m t = .obj o->∃ b,E.β t=some (.pointer (some ⟨b,0,none⟩))/\o.pr w (E.φ t) b
theorem MemOk.lt {base:Nat} {X:Cx} {w0 w:World} {E:Env} {m:Nat->BE} (h:MemOk base X w0 E m w) {t:Nat} {b:Nat} (hb:Has E m t b):b<w.heap.size:=by
 obtain ⟨hl,v,hv,hvb⟩:=hb
 cases hm:m t with
 | empty=>simp [hm,BE.live] at hl
 | dead=>simp [hm,BE.live] at hl
 | obj o=>
  obtain ⟨b',h1,h2⟩:=h.obj t o hm
  rw [hm] at hvb
  exact OD.lt h2 hvb
 | cells T vs=>
  rw [hm] at hvb
  have hvb:zaV v=some b:=hvb
  obtain ⟨b',xs,h1,h2,_⟩:=h.cells t T vs hm
  rw [hv] at h1;cases h1
  simp [zaV] at hvb;subst hvb
  exact (Array.getElem?_eq_some_iff.1 h2).1
 | row T ls r=>
  rw [hm] at hvb
  have hvb:zaV v=some b:=hvb
  obtain ⟨v',h1,h2⟩:=h.row t T ls r hm
  rw [hv] at h1;cases h1
  refine (h2.lt b ?_).2
  obtain ⟨a,c,e⟩:=h2.form
  rw [zaN ⟨a,_,c,e⟩];exact hvb
def zaM {α:Type} (d:α):List (Nat×α)->Nat->α
 | [],_=>d
 | (k,v)::r,t=>bif Nat.beq k t then v else zaM d r t
theorem zbz {α:Type} (d:α) (k:Nat) (v:α) (r:List (Nat×α)) (t:Nat):zaM d ((k,v)::r) t=if t=k then v else zaM d r t:=by
 show (bif Nat.beq k t then v else zaM d r t)=_
 by_cases h:t=k
 ·subst h;simp
 ·have:Nat.beq k t=false:=by
   cases hb:Nat.beq k t
   ·rfl
   ·exact absurd (Nat.eq_of_beq_eq_true hb).symm h
  rw [this,if_neg h];rfl
structure St where
 tm:List (Nat×SV)
 nt:Nat
 mm:List (Nat×BE)
 nx:Nat
def St.s (st:St) (i:Nat):SV:=zaM .any st.tm i
def St.m (st:St) (t:Nat):BE:=zaM .empty st.mm t
structure St.Ok (base:Nat) (X:Cx) (w0:World) (E:Env) (st:St) (a:Act) (w:World):Prop where
 defers:a.defers=[]
 size:a.tmps.size=st.nt
 tm:∀ i,DenV E w (st.s i) (a.tmps.getD i undef)
 mem:MemOk base X w0 E st.m w
def ofC:Value->SV
 | .int k n=>if (Lit.int k n).wf then .int k n else .any
 | .bool b=> .bool b
 | .string s=>if s.size<=1000000 then .str s else .any
 | .slice none 0 0=> .nil
 | .pointer none=> .np
 | _=> .any
theorem zuj (E:Env) (w:World) (v:Value):DenV E w (ofC v) v:=by
 unfold ofC
 split
 ·split
  ·exact ⟨rfl,by assumption⟩
  ·trivial
 ·exact rfl
 ·split
  ·exact ⟨rfl,by omega⟩
  ·trivial
 ·exact rfl
 ·exact rfl
 ·trivial
def St.ev (st:St):Operand->SV
 | .tmp t=>st.s t
 | .const v=>ofC v
 | .func f=> .fn f
 | .global _=> .any
theorem St.Ok.ev {base:Nat} {X:Cx} {w0:World} {E:Env} {st:St} {a:Act} {w:World} (h:st.Ok base X w0 E a w) (x:Operand):DenV E w (st.ev x) (a.eval x):=by
 cases x with
 | tmp t=>exact h.tm t
 | const v=>exact zuj E w v
 | func f=>exact rfl
 | global g=>trivial
def zal:SV->SV×List Prop
 | .gd g s=>(s,[g=true])
 | s=>(s,[])
theorem zae {E:Env} {w:World} {s:SV} {v:Value} (h:DenV E w s v) (hn:∀ p∈(zal s).2,p):DenV E w (zal s).1 v:=by
 cases s<;>first | exact h | skip
 case gd g s=>exact h.1 (hn (g=true) (by simp [zal]))
structure Upd where
 needs:List Prop
 val:SV
 mem:List (Nat×BE)
def putF:List (Nat×BE)->(Nat->BE)->Nat->BE
 | [],m=>m
 | (t,e)::r,m=>fun u=>if u=t then e else putF r m u
theorem zgn:∀ (l:List (Nat×BE)) (mm:List (Nat×BE)),zaM .empty (l++mm)=putF l (zaM .empty mm)
 | [],_=>rfl
 | (t,e)::r,mm=>by
  funext u
  show zaM .empty ((t,e)::(r++mm)) u=_
  rw [zbz,zgn r mm];rfl
def St.app (st:St) (dst:Option Tmp) (u:Upd):St:=
 {st with tm:=match dst with | some d=>(d,bif Nat.blt d st.nt then u.val else .any)::st.tm | none=>st.tm,mm:=u.mem++st.mm}
theorem St.app_m (st:St) (dst:Option Tmp) (u:Upd):(st.app dst u).m=putF u.mem st.m:=by
 show zaM .empty (u.mem++st.mm)=_
 rw [zgn];rfl
theorem zfD {α:Type} (d n:Nat) (x y:α):(bif Nat.blt d n then x else y)=if d<n then x else y:=by
 by_cases h:d<n
 ·have:Nat.blt d n=true:=by simp [Nat.blt];omega
  rw [this,if_pos h];rfl
 ·have:Nat.blt d n=false:=by
   cases hb:Nat.blt d n
   ·rfl
   ·simp [Nat.blt] at hb;omega
  rw [this,if_neg h];rfl
theorem St.app_s (st:St) (d:Nat) (u:Upd) (i:Nat):(st.app (some d) u).s i=if i=d then (if d<st.nt then u.val else .any) else st.s i:=by
 show zaM .any ((d,_)::st.tm) i=_
 rw [zbz,zfD];rfl
theorem zs5 (a:Act) (d i:Nat) (v:Value):(a.put (some d) v).tmps.getD i undef=if i=d then (if d<a.tmps.size then v else undef) else a.tmps.getD i undef:=by
 simp only [Act.put,Array.getD_eq_getD_getElem?,Array.getElem?_setIfInBounds]
 by_cases h:d=i
 ·subst h
  by_cases h2:d<a.tmps.size<;>simp [h2]
 ·have:¬ i=d:=fun e=>h e.symm
  simp [h,this]
theorem St.Ok.next {base:Nat} {X:Cx} {w0:World} {E E':Env} {st:St} {a:Act} {w w':World} (h:st.Ok base X w0 E a w) (hE:E.Le E') (hS:Same E.lab w w') {dst:Option Tmp} {v:Value} {u:Upd}
  (hv:DenV E' w' u.val v) (hm:MemOk base X w0 E' (putF u.mem st.m) w'):(st.app dst u).Ok base X w0 E' (a.put dst v) w':=by
 cases dst with
 | none=>exact ⟨h.defers,h.size,fun i=>DenV.mono hE hS _ _ (h.tm i),by rw [St.app_m];exact hm⟩
 | some d=>
  refine ⟨h.defers,by simp [St.app,Act.put,h.size],fun i=>?_,by rw [St.app_m];exact hm⟩
  rw [zs5,St.app_s,h.size]
  by_cases h1:i=d
  ·rw [if_pos h1,if_pos h1]
   by_cases h2:d<st.nt
   ·rw [if_pos h2,if_pos h2];exact hv
   ·rw [if_neg h2];trivial
  ·rw [if_neg h1,if_neg h1];exact DenV.mono hE hS _ _ (h.tm i)
end Go.Proofs.YtkhphiahindnnaaGreat
namespace Go.Proofs.YtkhphiahindnnaaGreat
open Go.RowKit Go.ChangeShapes Go.WideShapes Go.Deep
def upd (m:Nat->BE) (t:Nat) (e:BE) (u:Nat):BE:=if u=t then e else m u
theorem zbi (m:Nat->BE) (t:Nat) (e:BE):upd m t e t=e:=if_pos rfl
theorem zbg (m:Nat->BE) {t u:Nat} (e:BE) (h:u≠t):upd m t e u=m u:=if_neg h
def Holds (E:Env) (w:World) (t:Nat) (v:Value):BE->Prop
 | .obj o=>∃ b,v = .pointer (some ⟨b,0,none⟩)/\o.pr w (E.φ t) b
 | .cells T vs=>∃ b xs,v = .pointer (some ⟨b,0,none⟩)/\w.heap[b]? = some (.cells xs.toArray T (0,0))/\DenL E w vs xs/\vs.all SV.flat=true
 | .row T ls r=>OwnR 0 w T (E.set ls) r.tys v r.rows
 | .dead=>True
 | .empty=>False
theorem MemOk.holds {base:Nat} {X:Cx} {w0 w:World} {E:Env} {m:Nat->BE} (h:MemOk base X w0 E m w) {t:Nat} (hl:(m t).live=true):∃ v,E.β t=some v/\Holds E w t v (m t):=by
 cases hm:m t with
 | empty=>simp [hm,BE.live] at hl
 | dead=>simp [hm,BE.live] at hl
 | cells T vs=>obtain ⟨b,xs,h1,h2,h3,h4⟩:=h.cells t T vs hm;exact ⟨_,h1,b,xs,rfl,h2,h3,h4⟩
 | row T ls r=>exact h.row t T ls r hm
 | obj o=>obtain ⟨b,h1,h2⟩:=h.obj t o hm;exact ⟨_,h1,b,rfl,h2⟩
theorem Holds.block {E:Env} {w:World} {t:Nat} {v:Value} {e:BE} (h:Holds E w t v e) (hl:e.live=true) {b:Nat} (hb:Fo E t v e b):b<w.heap.size:=by
 cases e with
 | empty=>cases h
 | dead=>cases hl
 | obj o=>obtain ⟨b',_,h2⟩:=h;exact OD.lt h2 hb
 | cells T vs=>have hb:zaV v=some b:=hb;obtain ⟨b',xs,rfl,h2,_⟩:=h;simp [zaV] at hb;subst hb;exact (Array.getElem?_eq_some_iff.1 h2).1
 | row T ls r=>
  have hb:zaV v=some b:=hb
  have h:OwnR 0 w T (E.set ls) r.tys v r.rows:=h
  obtain ⟨a,c,e⟩:=h.form
  exact (h.lt b (by rw [zaN ⟨a,_,c,e⟩];exact hb)).2
theorem Holds.mono {E E':Env} {w w':World} {t:Nat} {v:Value} {e:BE} (h:Holds E w t v e) (hE:E.Le E') (hφ:E'.φ t=E.φ t) (hS:Same E.lab w w') (hb:∀ b,Fo E t v e b->w'.heap[b]? = w.heap[b]?):Holds E' w' t v e:=by
 cases e with
 | obj o=>
  obtain ⟨b,rfl,h2⟩:=h
  exact ⟨b,rfl,by rw [hφ];exact OD.frame h2 hb⟩
 | empty=>exact h
 | dead=>exact h
 | cells T vs=>
  obtain ⟨b,xs,rfl,h2,h3,h4⟩:=h
  exact ⟨b,xs,rfl,(hb b rfl).trans h2,DenL.mono hE hS _ _ h3,h4⟩
 | row T ls r=>
  have h:OwnR 0 w T (E.set ls) r.tys v r.rows:=h
  show OwnR 0 w' T (E'.set ls) r.tys v r.rows
  obtain ⟨a,c,ev⟩:=h.form
  have hs:Same (fun b=>E.lab b\/zaV v=some b) w w':=⟨hS.size,fun b hb' hl=>hb'.elim (fun x=>hS.block b x hl) (fun x=>hb b x)⟩
  exact (h.same hs (fun b hb' => .inl (Env.set_lab hb')) (fun b hb' => .inr (by rw [<- zaN ⟨a,_,c,ev⟩];exact hb'))).mono (Nat.le_refl _) (fun b hb'=>hE.set hb')
theorem MemOk.go {base:Nat} {X:Cx} {w0 w w':World} {E E':Env} {m m':Nat->BE} (h:MemOk base X w0 E m w) (hE:E.Le E') (hS:Same E.lab w w') (L:Nat->Prop)
  (hm:∀ t,¬ L t->m' t=m t/\E'.β t=E.β t/\E'.φ t=E.φ t) (hσ:∀ t,¬ L t->m t = .empty->∀ b,¬ E'.σ t b) (hk:∀ t b,¬ L t->Has E m t b->w'.heap[b]? = w.heap[b]?)
  (hL:∀ t,L t->m' t ≠ .empty/\((m' t).live=true->∃ v,E'.β t=some v/\Holds E' w' t v (m' t)))
  (hlab:∀ i b,E'.σ i b->b<w'.heap.size/\(X.nl<=i->base<=b\/X.X b)) (hdis:∀ i j b,E'.σ i b->E'.σ j b->i=j) (hsep:∀ t b,Has E' m' t b->¬ E'.lab b/\(base<=b\/X.X b)) (hold:∀ i b,i<X.nl->E'.σ i b->X.S i b) (hinj:∀ t u b,Has E' m' t b->Has E' m' u b->t=u)
  (hb:BelowX base X.X w w'):MemOk base X w0 E' m' w':=by
 have key:∀ t,(m' t).live=true->∃ v,E'.β t=some v/\Holds E' w' t v (m' t):=by
  intro t hl
  by_cases ht:L t
  ·exact (hL t ht).2 hl
  ·obtain ⟨e1,e2,e3⟩:=hm t ht
   rw [e1] at hl ⊢
   obtain ⟨v,hv,hh⟩:=h.holds hl
   refine ⟨v,by rw [e2];exact hv,hh.mono hE e3 hS (fun b hvb=>hk t b ht ⟨hl,v,hv,hvb⟩)⟩
 refine ⟨fun t ht=>?_,fun t T vs ht=>?_,fun t T ls r ht=>?_,hlab,hdis,fun i hi he=>?_,hsep,hold,hinj,fun t v hv=>hE.β t v (h.keep t v hv),?_,Nat.le_trans h.base hb.size,fun t o ht=>?_⟩
 ·by_cases hl:L t
  ·exact absurd ht (hL t hl).1
  ·obtain ⟨e1,e2,e3⟩:=hm t hl
   rw [e1] at ht
   exact ⟨by rw [e2];exact (h.empty t ht).1,hσ t hl ht⟩
 ·obtain ⟨v,hv,hh⟩:=key t (by rw [ht];rfl)
  rw [ht] at hh
  obtain ⟨b,xs,rfl,h2,h3,h4⟩:=hh
  exact ⟨b,xs,hv,h2,h3,h4⟩
 ·obtain ⟨v,hv,hh⟩:=key t (by rw [ht];rfl)
  rw [ht] at hh
  exact ⟨v,hv,hh⟩
 ·by_cases hl:L i
  ·exact absurd he (hL i hl).1
  ·rw [(hm i hl).1] at he;exact h.low i hi he
 ·exact ⟨hb.os.trans h.below.os,hb.tape.trans h.below.tape,hb.output.trans h.below.output,Nat.le_trans h.below.size hb.size,fun b h1 h2=>(hb.block b h1 h2).trans (h.below.block b h1 h2)⟩
 ·obtain ⟨v,hv,hh⟩:=key t (by rw [ht];rfl)
  rw [ht] at hh
  obtain ⟨b,rfl,h2⟩:=hh
  exact ⟨b,hv,h2⟩
theorem MemOk.kill {base:Nat} {X:Cx} {w0 w:World} {E:Env} {m:Nat->BE} (h:MemOk base X w0 E m w) (t:Nat):MemOk base X w0 E (upd m t .dead) w:=by
 have hh:∀ u b,Has E (upd m t .dead) u b->Has E m u b:=by
  intro u b ⟨hl,hv⟩
  by_cases e:u=t
  ·subst e;rw [zbi] at hl;cases hl
  ·rw [zbg _ _ e] at hl hv;exact ⟨hl,hv⟩
 refine h.go (Env.Le.refl E) ⟨Nat.le_refl _,fun _ _ _=>rfl⟩ (fun u=>u=t) (fun u hu=>⟨zbg _ _ hu,rfl,rfl⟩) (fun u hu hm=>(h.empty u hm).2) (fun _ _ _ _=>rfl)
  (fun u hu=>by subst hu;rw [zbi];exact ⟨(by simp),fun hl=>by cases hl⟩) h.lab h.dis (fun u b hb=>h.sep u b (hh u b hb)) h.old (fun u v b h1 h2=>h.inj u v b (hh u b h1) (hh v b h2)) (BelowX.refl _ _ _)
def Env.setβ (E:Env) (c:Nat) (v:Value):Env:=⟨fun t=>if t=c then some v else E.β t,E.σ,E.φ⟩
theorem Env.setβ_le {E:Env} {c:Nat} (h:E.β c=none) (v:Value):E.Le (E.setβ c v):=
 ⟨fun t u ht=>by
  by_cases e:t=c
  ·subst e;rw [h] at ht;cases ht
  ·show (if t=c then _ else _)=_;rw [if_neg e];exact ht,fun _ _ h=>h⟩
theorem MemOk.take {base:Nat} {X:Cx} {w0 w w':World} {E:Env} {m:Nat->BE} (h:MemOk base X w0 E m w) {c:Nat} (hc:m c = .empty) (v:Value) (e:BE) (he:e ≠ .empty)
  (hsz:w.heap.size<=w'.heap.size) (hw:∀ b,(E.lab b\/∃ t,Has E m t b)->w'.heap[b]? = w.heap[b]?) (hbx:BelowX base X.X w w')
  (hfree:∀ b,zaV v=some b->¬ E.lab b/\(∀ t,¬ Has E m t b)/\(base<=b\/X.X b)) (hcont:Holds (E.setβ c v) w' c v e) (heo:∀ o,e ≠ .obj o:=by intro o ho;cases ho):MemOk base X w0 (E.setβ c v) (upd m c e) w':=by
 have hE:=Env.setβ_le (h.empty c hc).1 v
 have hh:∀ u b,u≠c->Has (E.setβ c v) (upd m c e) u b->Has E m u b:=by
  intro u b hu ⟨hl,x,hx,hxb⟩
  rw [zbg _ _ hu] at hl hxb
  have:E.β u=some x:=by have:(if u=c then some v else E.β u)=some x:=hx;rwa [if_neg hu] at this
  exact ⟨hl,x,this,(by cases hmu:m u<;>rw [hmu] at hxb<;>exact hxb)⟩
 have hcb:∀ b,Has (E.setβ c v) (upd m c e) c b->zaV v=some b:=by
  intro b ⟨_,x,hx,hxb⟩
  have:(if c=c then some v else E.β c)=some x:=hx
  rw [if_pos rfl] at this
  cases this
  rw [zbi] at hxb
  cases e with
  | obj o=>exact absurd rfl (heo o)
  | _=>exact hxb
 refine h.go hE ⟨hsz,fun b hb _=>hw b (.inl hb)⟩ (fun u=>u=c) (fun u hu=>⟨zbg _ _ hu,if_neg hu,rfl⟩) (fun u hu hm=>(h.empty u hm).2) (fun u b hu hb=>hw b (.inr ⟨u,hb⟩))
  (fun u hu=>by subst hu;rw [zbi];exact ⟨he,fun _=>⟨v,if_pos rfl,hcont⟩⟩)
  (fun i b hb=>⟨Nat.lt_of_lt_of_le (h.lab i b hb).1 hsz,(h.lab i b hb).2⟩) h.dis (fun u b hb=>?_) h.old (fun u x b h1 h2=>?_) hbx
 ·by_cases e2:u=c
  ·subst e2;obtain ⟨f1,f2,f3⟩:=hfree b (hcb b hb);exact ⟨f1,f3⟩
  ·exact h.sep u b (hh u b e2 hb)
 ·by_cases e2:u=c
  ·by_cases e3:x=c
   ·rw [e2,e3]
   ·subst e2;exact absurd (hh x b e3 h2) ((hfree b (hcb b h1)).2.1 x)
  ·by_cases e3:x=c
   ·subst e3;exact absurd (hh u b e2 h1) ((hfree b (hcb b h2)).2.1 u)
   ·exact h.inj u x b (hh u b e2 h1) (hh x b e3 h2)
theorem MemOk.poke {base:Nat} {X:Cx} {w0 w w':World} {E:Env} {m:Nat->BE} (h:MemOk base X w0 E m w) {t:Nat} (hl:(m t).live=true) {v:Value} (hv:E.β t=some v) (e:BE) (hel:e.live=true)
  (hsz:w.heap.size<=w'.heap.size) (hw:∀ b,zaV v≠some b->b<w.heap.size->w'.heap[b]? = w.heap[b]?) (hos:w'.os=w.os/\w'.tape=w.tape/\w'.output=w.output) (hcont:Holds E w' t v e) (hmo:∀ o,m t ≠ .obj o:=by intro o ho;simp_all) (heo:∀ o,e ≠ .obj o:=by intro o ho;cases ho):MemOk base X w0 E (upd m t e) w':=by
 have hh:∀ u b,Has E (upd m t e) u b->Has E m u b:=by
  intro u b ⟨h1,h2⟩
  by_cases e2:u=t
  ·subst e2
   refine ⟨hl,?_⟩
   obtain ⟨x,hx,hxb⟩:=h2
   rw [zbi] at hxb
   refine ⟨x,hx,?_⟩
   cases e with
   | obj o=>exact absurd rfl (heo o)
   | _=>cases hmu:m u with
    | obj o=>exact absurd hmu (hmo o)
    | _=>exact hxb
  ·rw [zbg _ _ e2] at h1 h2;exact ⟨h1,h2⟩
 have hof:∀ b,zaV v=some b->Fo E t v (m t) b:=fun b hb=>by
  cases hmu:m t with
  | obj o=>exact absurd hmu (hmo o)
  | _=>exact hb
 have hne:∀ b,E.lab b->zaV v≠some b:=fun b hb hvb=>(h.sep t b ⟨hl,v,hv,hof b hvb⟩).1 hb
 refine h.go (Env.Le.refl E) ⟨hsz,fun b hb hlt=>hw b (hne b hb) hlt⟩ (fun u=>u=t) (fun u hu=>⟨zbg _ _ hu,rfl,rfl⟩) (fun u hu hm=>(h.empty u hm).2)
  (fun u b hu hb=>hw b (fun hvb=>hu (h.inj u t b hb ⟨hl,v,hv,hof b hvb⟩)) (h.lt hb))
  (fun u hu=>by subst hu;rw [zbi];exact ⟨fun e2=>(by rw [e2] at hel;cases hel),fun _=>⟨v,hv,hcont⟩⟩)
  (fun i b hb=>⟨Nat.lt_of_lt_of_le (h.lab i b hb).1 hsz,(h.lab i b hb).2⟩) h.dis (fun u b hb=>h.sep u b (hh u b hb)) h.old (fun u x b h1 h2=>h.inj u x b (hh u b h1) (hh x b h2))
  ⟨hos.1,hos.2.1,hos.2.2,hsz,fun b hb hX=>?_⟩
 by_cases hvb:zaV v=some b
 ·rcases (h.sep t b ⟨hl,v,hv,hof b hvb⟩).2 with h1 | h1
  ·omega
  ·exact absurd h1 hX
 ·exact hw b hvb (Nat.lt_of_lt_of_le hb h.base)
theorem MemOk.drew {base:Nat} {X:Cx} {w0 w:World} {E:Env} {m:Nat->BE} (h:MemOk base X w0 E m w) (n:Nat):MemOk base X w0 E m {w with drawn:=n}:=
 h.go (Env.Le.refl E) ⟨Nat.le_refl _,fun _ _ _=>rfl⟩ (fun _=>False) (fun _ _=>⟨rfl,rfl,rfl⟩) (fun t _ hm=>(h.empty t hm).2) (fun _ _ _ _=>rfl) (fun _ h=>h.elim) h.lab h.dis h.sep h.old h.inj ⟨rfl,rfl,rfl,Nat.le_refl _,fun _ _ _=>rfl⟩
theorem zic (m:Nat->BE) {t c:Nat} (x y:BE) (h:t≠c):upd (upd m t x) c y=upd (upd m c y) t x:=by
 funext u
 unfold upd
 by_cases h1:u=c
 ·by_cases h2:u=t
  ·exact absurd (h2.symm.trans h1) h
  ·simp [h1,h2];intro e;exact absurd e.symm h
 ·simp [h1]
theorem zcp (t:Nat) (e:BE) (m:Nat->BE):putF [(t,e)] m=upd m t e:=rfl
theorem zd6 (t:Nat) (e:BE) (r:List (Nat×BE)) (m:Nat->BE):putF ((t,e)::r) m=upd (putF r m) t e:=rfl
end Go.Proofs.YtkhphiahindnnaaGreat
namespace Go.Proofs.YtkhphiahindnnaaGreat
open Go.RowKit Go.ChangeShapes Go.WideShapes Go.Deep
structure Cfg where
 kd:TypeId->Option RL
 orc:Nat->FuncId->St->List SV->Option Upd
 orw:FuncId->St->List SV->Option (List Prop×List Nat×SV)
def Does (P:Program) (base:Nat) (X:Cx) (w0:World) (st:St) (o:Oper) (u:Upd):Prop:=
 ∀ (E:Env) (a:Act) (w:World) (K:Act->World->Prop) (Q:Exit->Act->World->Prop),st.Ok base X w0 E a w->(∀ p∈u.needs,p) ->
  (∀ E' w' v,E.Le E'->Same E.lab w w'->DenV E' w' u.val v->MemOk base X w0 E' (putF u.mem st.m) w'->K (a.put o.dst v) w')->o.wp P a w K Q
theorem zbo {P:Program} {o:Oper} {a:Act} {w w':World} {v:Value} {K:Act->World->Prop} {Q:Exit->Act->World->Prop} (h:(execOp a.eval o).run P w = .ok (.value v) w') (hK:K (a.put o.dst v) w'):o.wp P a w K Q:=by
 unfold Oper.wp;rw [h];exact hK
theorem zlP {P:Program} {o:Oper} {a:Act} {w w':World} {K:Act->World->Prop} {Q:Exit->Act->World->Prop} (h:(execOp a.eval o).run P w = .ok .skip w') (hK:K (a.put o.dst undef) w'):o.wp P a w K Q:=by
 unfold Oper.wp;rw [h];exact hK
theorem Same.rfl' {S:Nat->Prop} {w:World}:Same S w w:=⟨Nat.le_refl _,fun _ _ _=>rfl⟩
theorem Does.pure {P:Program} {base:Nat} {X:Cx} {w0:World} {st:St} {o:Oper} {n:List Prop} {s:SV}
  (h:∀ E a w,st.Ok base X w0 E a w->(∀ p∈n,p)->∃ v,(execOp a.eval o).run P w = .ok (.value v) w/\DenV E w s v):Does P base X w0 st o ⟨n,s,[]⟩:=by
 intro E a w K Q hst hn hK
 obtain ⟨v,h1,h2⟩:=h E a w hst hn
 exact zbo h1 (hK E w v (Env.Le.refl E) Same.rfl' h2 hst.mem)
def zac (b x y:Bool):Bool:=if b then x else y
def zat (b:Bool) (x y:Int):Int:=if b then x else y
theorem zah (b x:Bool):zac b x false=(b&&x):=by cases b<;>rfl
theorem zai (b y:Bool):zac b true y=(b||y):=by cases b<;>rfl
mutual
def mrgV (b:Bool):SV->SV->SV
 | .int k n,.int k' n'=>if k=k' then .int k (zat b n n') else .any
 | .bool x,.bool y=> .bool (zac b x y)
 | .str x,.str y=> .str (if b then x else y)
 | .nil,.nil=> .nil
 | .nil,.sl ls r=>match RL.ite b r.emp r with | some r2=> .sl ls r2 | none=> .any
 | .sl ls r,.nil=>match RL.ite b r r.emp with | some r2=> .sl ls r2 | none=> .any
 | .sl ls r,.sl ls' r'=>match RL.ite b r r' with | some r2=> .sl (ls++ls') r2 | none=> .any
 | .own t,.own t'=>if t=t' then .own t else .any
 | .ptr t o,.ptr t' o'=>if t=t' then (if o=o' then .ptr t o else .any) else .any
 | .mp t,.mp t'=>if t=t' then .mp t else .any
 | .agg vs,.agg us=>if vs.length=us.length then .agg (mrgL b vs us) else .any
 | .tup vs,.tup us=>if vs.length=us.length then .tup (mrgL b vs us) else .any
 | _,_=> .any
def mrgL (b:Bool):List SV->List SV->List SV
 | s::ss,t::ts=>mrgV b s t::mrgL b ss ts
 | _,_=>[]
end
theorem zvq {E:Env} {w:World} {ls:List Nat} {r:RL} {v:Value} (h:DenV E w .nil v):DenV E w (.sl ls r.emp) v:=by
 have:v = .slice none 0 0:=h
 subst this
 show Rd w (E.set ls) (.sl r.emp.tys) _ (.sl r.emp.rows)
 rw [r.emp_ok.1]
 exact .emp (fun _=>rfl) (by decide)
theorem setl {E:Env} {w:World} {ls ms:List Nat} {r:RL} {v:Value} (hm:∀ i,i∈ls->i∈ms) (h:DenV E w (.sl ls r) v):DenV E w (.sl ms r) v:=
 Rd.mono h (fun b _=>Env.set_mono hm b)
mutual
theorem zpv {E:Env} {w:World}:∀ (s t:SV) (v:Value),DenV E w s v->DenV E w (mrgV true s t) v:=by
 intro s t v h
 unfold mrgV
 split
 ·split
  ·exact h
  ·trivial
 ·exact h
 ·exact h
 ·exact h
 ·split
  ·rename_i e;rw [RL.ite_t e];exact zvq h
  ·trivial
 ·split
  ·rename_i e;rw [RL.ite_t e];exact h
  ·trivial
 ·split
  ·rename_i e;rw [RL.ite_t e];exact setl (fun i hi=>List.mem_append_left _ hi) h
  ·trivial
 ·split
  ·exact h
  ·trivial
 ·split
  ·split
   ·exact h
   ·trivial
  ·trivial
 ·split
  ·exact h
  ·trivial
 ·split
  ·rename_i e
   obtain ⟨xs,h1,h2⟩:=h
   exact ⟨xs,h1,mrgL_t _ _ xs e h2⟩
  ·trivial
 ·split
  ·rename_i e
   obtain ⟨xs,h1,h2⟩:=h
   exact ⟨xs,h1,mrgL_t _ _ xs e h2⟩
  ·trivial
 ·trivial
theorem mrgL_t {E:Env} {w:World}:∀ (ss ts:List SV) (vs:List Value),ss.length=ts.length->DenL E w ss vs->DenL E w (mrgL true ss ts) vs
 | [],[],[],_,_=>by unfold mrgL;trivial
 | s::ss,t::ts,x::xs,hl,h=>by unfold mrgL;exact ⟨zpv s t x h.1,mrgL_t ss ts xs (by simpa using hl) h.2⟩
 | [],_::_,_,hl,_=>by simp at hl
 | _::_,[],_,hl,_=>by simp at hl
 | [],[],_::_,_,h=>h.elim
 | _::_,_::_,[],_,h=>h.elim
end
mutual
theorem zpw {E:Env} {w:World}:∀ (s t:SV) (v:Value),DenV E w t v->DenV E w (mrgV false s t) v:=by
 intro s t v h
 unfold mrgV
 split
 ·split
  ·rename_i e;subst e;exact h
  ·trivial
 ·exact h
 ·exact h
 ·exact h
 ·split
  ·rename_i e;rw [RL.ite_f e];exact h
  ·trivial
 ·split
  ·rename_i e;rw [RL.ite_f e];exact zvq h
  ·trivial
 ·split
  ·rename_i e;rw [RL.ite_f e];exact setl (fun i hi=>List.mem_append_right _ hi) h
  ·trivial
 ·split
  ·rename_i e;subst e;exact h
  ·trivial
 ·split
  ·split
   ·rename_i e1 e2;subst e1;subst e2;exact h
   ·trivial
  ·trivial
 ·split
  ·rename_i e;subst e;exact h
  ·trivial
 ·split
  ·rename_i e
   obtain ⟨xs,h1,h2⟩:=h
   exact ⟨xs,h1,mrgL_f _ _ xs e h2⟩
  ·trivial
 ·split
  ·rename_i e
   obtain ⟨xs,h1,h2⟩:=h
   exact ⟨xs,h1,mrgL_f _ _ xs e h2⟩
  ·trivial
 ·trivial
theorem mrgL_f {E:Env} {w:World}:∀ (ss ts:List SV) (vs:List Value),ss.length=ts.length->DenL E w ts vs->DenL E w (mrgL false ss ts) vs
 | [],[],[],_,_=>by unfold mrgL;trivial
 | s::ss,t::ts,x::xs,hl,h=>by unfold mrgL;exact ⟨zpw s t x h.1,mrgL_f ss ts xs (by simpa using hl) h.2⟩
 | [],_::_,_,hl,_=>by simp at hl
 | _::_,[],_,hl,_=>by simp at hl
 | [],[],_::_,_,h=>h.elim
 | _::_,_::_,[],_,h=>h.elim
end
theorem zsK {E:Env} {w:World} (b:Bool) {s t:SV} {v u:Value} (hs:b=true->DenV E w s v) (ht:b=false->DenV E w t u):DenV E w (mrgV b s t) (if b then v else u):=by
 cases b
 ·exact zpw s t u (ht rfl)
 ·exact zpv s t v (hs rfl)
section ops
variable {P : Program} {base : Nat} {X : Cx} {w0 : World} {st : St}
def zlI (st:St) (x:Operand):Upd:=⟨(zal (st.ev x)).2,(zal (st.ev x)).1,[]⟩
theorem zna (o:Oper) (x:Operand) (ho:o.op = .move x\/o.op = .assign x):Does P base X w0 st o (zlI st x):=
 Does.pure fun E a w h hn=>⟨a.eval x,by rcases ho with ho | ho<;>simp [execOp,ho,pure,Sem.run],zae (h.ev x) hn⟩
def ztB (st:St) (c x y:Operand):Option Upd:=
 match zal (st.ev c),zal (st.ev x),zal (st.ev y) with
 | (.bool b,n),(s,n1),(t,n2)=>some ⟨n++n1.map (fun p=>b=true->p)++n2.map (fun p=>b=false->p),mrgV b s t,[]⟩
 | _,_,_=>none
theorem ztA (o:Oper) (c x y:Operand) (ho:o.op = .pick c x y) {u:Upd} (hu:ztB st c x y=some u):Does P base X w0 st o u:=by
 unfold ztB at hu
 split at hu
 case h_2=>simp at hu
 rename_i b n s n1 t n2 e1 e2 e3
 simp only [Option.some.injEq] at hu
 subst hu
 refine Does.pure fun E a w h hn=>?_
 have h1:=zae (h.ev c) (fun p hp=>hn p (by rw [e1] at hp;simp [hp]))
 rw [e1] at h1
 have h1:a.eval c = .bool b:=h1
 refine ⟨if b then a.eval x else a.eval y,by cases b<;>simp [execOp,ho,h1,asBool,pure,Sem.run,bind,Sem.bind],zsK b (fun hb=>?_) (fun hb=>?_)⟩
 ·have h2:=zae (h.ev x) (fun p hp=>hn (b=true->p) (by rw [e2] at hp;simp only [List.mem_append,List.mem_map];exact .inl (.inr ⟨p,hp,rfl⟩)) hb)
  rw [e2] at h2;exact h2
 ·have h2:=zae (h.ev y) (fun p hp=>hn (b=false->p) (by rw [e3] at hp;simp only [List.mem_append,List.mem_map];exact .inr ⟨p,hp,rfl⟩) hb)
  rw [e3] at h2;exact h2
def SV.cells:SV->List SV
 | .agg vs=>vs
 | s=>[s]
theorem zfV {E:Env} {w:World} {s:SV} {v:Value} (hf:s.cells.all SV.flat=true) (h:DenV E w s v):∃ xs,v.cells=xs.toArray/\DenL E w s.cells xs:=by
  cases s
  case agg vs=>
    obtain ⟨xs,rfl,h2⟩:=h
    exact ⟨xs,rfl,h2⟩
  all_goals
    simp only [SV.cells,List.all_cons,List.all_nil,Bool.and_true] at hf
    first
      | (simp [SV.flat] at hf;done)
      | (refine ⟨[v], ?_, h, trivial⟩
         have:=SV.flat_one hf h
         cases v<;>simp_all [Value.cells,Value.oneCell'])
def ofCs (z:Value):List SV:=z.cells.toList.map ofC
theorem ziv (E:Env) (w:World):∀ (l:List Value),DenL E w (l.map ofC) l
 | []=>trivial
 | v::l=>⟨zuj E w v,ziv E w l⟩
theorem zhp {E:Env} {w:World} (h:MemOk base X w0 E st.m w) {c:Nat} (hc:st.m c = .empty) (T:TypeId) {vs:List SV} {xs:List Value} (hd:DenL E w vs xs) (hf:vs.all SV.flat=true) :
  MemOk base X w0 (E.setβ c (.pointer (some ⟨w.heap.size,0,none⟩))) (putF [(c,.cells T vs)] st.m) (w.alloc (.cells xs.toArray T))/\E.Le (E.setβ c (.pointer (some ⟨w.heap.size,0,none⟩)))/\Same E.lab w (w.alloc (.cells xs.toArray T)):=by
 have hE:=Env.setβ_le (h.empty c hc).1 (.pointer (some ⟨w.heap.size,0,none⟩))
 have hS:Same E.lab w (w.alloc (.cells xs.toArray T)):=Same.alloc _ _ _
 refine ⟨?_,hE,hS⟩
 rw [zcp]
 refine h.take hc _ _ (by simp) (by simp) (fun b hb=>?_) ⟨rfl,rfl,rfl,by simp,fun b hb _=>Below.heap_alloc _ _ _ (Nat.lt_of_lt_of_le hb h.base)⟩ (fun b hb=>?_) ⟨w.heap.size,xs,rfl,heap_alloc_new _ _,DenL.mono hE hS _ _ hd,hf⟩
 ·have:b<w.heap.size:=by
   rcases hb with ⟨i,hi⟩ | ⟨t,ht⟩
   ·exact (h.lab i b hi).1
   ·exact h.lt ht
  exact Below.heap_alloc _ _ _ this
 ·simp [zaV] at hb
  subst hb
  exact ⟨fun ⟨i,hi⟩=>Nat.lt_irrefl _ (h.lab i _ hi).1,fun t ht=>Nat.lt_irrefl _ (h.lt ht),.inl h.base⟩
def BE.isEmpty:BE->Bool
 | .empty=>true
 | _=>false
def St.free (st:St) (c:Nat):Bool:=(st.m c).isEmpty
theorem BE.of_empty {e:BE} (h:e.isEmpty=true):e = .empty:=by cases e<;>simp [BE.isEmpty] at h;rfl
theorem St.of_free {st:St} {c:Nat} (h:st.free c=true):st.m c = .empty:=BE.of_empty h
def cBox (st:St) (c:Nat) (T:TypeId) (x:Operand):Option Upd:=
 let s:=zal (st.ev x)
 if st.free c then (if s.1.cells.all SV.flat then some ⟨s.2,.ptr c 0,[(c,.cells T s.1.cells)]⟩ else none) else none
theorem zw1 (o:Oper) (c:Nat) (T:TypeId) (x:Operand) (ho:o.op = .box T x) {u:Upd} (hu:cBox st c T x=some u):Does P base X w0 st o u:=by
 unfold cBox at hu
 dsimp only at hu
 split at hu
 case isFalse=>simp at hu
 split at hu
 case isFalse=>simp at hu
 rename_i hc hf
 simp only [Option.some.injEq] at hu
 subst hu
 intro E a w K Q h hn hK
 have h1:=zae (h.ev x) hn
 obtain ⟨xs,hx,hd⟩:=zfV hf h1
 obtain ⟨m1,m2,m3⟩:=zhp h.mem (St.of_free hc) T hd hf
 refine zbo (v:= .pointer (some ⟨w.heap.size,0,none⟩)) (w':=w.alloc (.cells xs.toArray T)) ?_ (hK _ _ _ m2 m3 ⟨w.heap.size,if_pos rfl,rfl⟩ m1)
 simp only [execOp,ho,Instr.box,newVar,newRow,hx]
 rfl
def znd (P:Program) (st:St) (c:Nat) (T:TypeId):Option Upd:=
 match (P.info? T).bind (·.zero) with
 | some z=>if st.free c then (if (ofCs z).all SV.flat then some ⟨[],.ptr c 0,[(c,.cells T (ofCs z))]⟩ else none) else none
 | none=>none
theorem zrx (o:Oper) (c:Nat) (T:TypeId) (ho:o.op = .alloc T) {u:Upd} (hu:znd P st c T=some u):Does P base X w0 st o u:=by
 unfold znd at hu
 split at hu
 case h_2=>simp at hu
 rename_i z hz
 split at hu
 case isFalse=>simp at hu
 split at hu
 case isFalse=>simp at hu
 rename_i hc hf
 simp only [Option.some.injEq] at hu
 subst hu
 intro E a w K Q h hn hK
 obtain ⟨m1,m2,m3⟩:=zhp h.mem (St.of_free hc) T (ziv E w z.cells.toList) hf
 refine zbo (v:= .pointer (some ⟨w.heap.size,0,none⟩)) (w':=w.alloc (.cells z.cells.toList.toArray T)) ?_ (hK _ _ _ m2 m3 ⟨w.heap.size,if_pos rfl,rfl⟩ m1)
 cases hi:P.info? T with
 | none=>simp [hi] at hz
 | some i=>
  simp [hi] at hz
  simp [execOp,ho,Instr.alloc,zeroValue,typeInfo,Sem.run_bind,hi,hz,newVar,newRow]
end ops
end Go.Proofs.YtkhphiahindnnaaGreat
namespace Go.Proofs.YtkhphiahindnnaaGreat
open Go.RowKit Go.ChangeShapes Go.WideShapes Go.Deep
theorem Addr.add0 (b off j:Nat):(⟨b,off,none⟩:Addr).add j=⟨b,off+j,none⟩:=by
 unfold Addr.add;split<;>simp_all
section ops
variable {P : Program} {base : Nat} {X : Cx} {w0 : World} {st : St}
def zc3 (st:St):SV->Option (List SV×List Prop)
 | .ptr t off=>match st.m t with
  | .cells _ vs=>some (vs.drop off,[])
  | _=>none
 | .el ls r i off=>some ((r.elem ls i).drop off,[])
 | .oel t sz i off=>match st.m t with
  | .row _ ls r=>if sz=r.tys.length then some ((r.elem ls i).drop off,[i<r.len]) else none
  | _=>none
 | .rp _ _ cs off=>some (cs.drop off,[])
 | _=>none
theorem RdL.vals {w:World} {S:Nat->Prop} {fs:List Ty} {ds:List D} {f:Nat->Value} (hl:ds.length=fs.length) (h:∀ j,j<fs.length->Rd w S (fs.getD j default) (f j) (ds.getD j default)):RdL w S fs ((List.range fs.length).map f) ds:=RdL.of_at f hl h
theorem zec {E:Env} {a:Act} {w:World} (h:st.Ok base X w0 E a w) {s:SV} {cs:List SV} {n:List Prop} (hc:zc3 st s=some (cs,n)) (hn:∀ p∈n,p) {v:Value} (hv:DenV E w s v) :
  ∃ b off xs,v = .pointer (some ⟨b,off,none⟩)/\DenL E w cs xs/\∀ j u,xs[j]? = some u->w.cell? ⟨b,off+j,none⟩=some u:=by
 cases s
 case ptr t off=>
  simp only [zc3] at hc
  split at hc
  case h_2=>simp at hc
  rename_i T vs hm
  simp only [Option.some.injEq,Prod.mk.injEq] at hc
  obtain ⟨rfl,rfl⟩:=hc
  obtain ⟨b,hb,rfl⟩:=hv
  obtain ⟨b',xs,h1,h2,h3,h4⟩:=h.mem.cells t _ _ hm
  rw [h1] at hb
  simp only [Option.some.injEq,Value.pointer.injEq,Addr.mk.injEq,and_true] at hb
  subst hb
  refine ⟨b',off,xs.drop off,rfl,h3.drop off,fun j u hu=>?_⟩
  rw [List.getElem?_drop] at hu
  simp [World.cell?,h2,hu]
 case el ls r i off=>
  simp only [zc3,Option.some.injEq,Prod.mk.injEq] at hc
  obtain ⟨rfl,rfl⟩:=hc
  obtain ⟨hi,b,o,c,rfl,hr⟩:=hv
  have hlen:r.rows.length=r.len:=r.rows_len
  obtain ⟨b2,o2,e,hS,hb,vals,hcell,hrow⟩:=Sl.rowAt hr (by omega)
  simp only [Option.some.injEq,Addr.mk.injEq,and_true] at e
  obtain ⟨rfl,rfl⟩:=e
  have hL:=RdL.vals (hrow i hi).1 (hrow i hi).2
  refine ⟨b,_,((List.range r.tys.length).map (vals i)).drop off,rfl,(RL.elem_ok hi hL).drop off,fun j u hu=>?_⟩
  rw [List.getElem?_drop,List.getElem?_map] at hu
  by_cases hj:off+j<r.tys.length
  ·simp [hj] at hu
   rw [<- hu,show o+i*r.tys.length+off+j=o+i*r.tys.length+(off+j) by omega]
   exact hcell i _ hi hj
  ·simp [hj] at hu
 case oel t sz i off=>
  simp only [zc3] at hc
  split at hc
  case h_2=>simp at hc
  rename_i T ls r hm
  split at hc
  case isFalse=>simp at hc
  rename_i hsz
  simp only [Option.some.injEq,Prod.mk.injEq] at hc
  obtain ⟨rfl,rfl⟩:=hc
  have hi:i<r.len:=hn _ (by simp)
  obtain ⟨b,o,k,c,hb,rfl⟩:=hv
  obtain ⟨v',h1,cells,ho,hrow⟩:=h.mem.row t _ _ _ hm
  rw [h1] at hb
  simp only [Option.some.injEq] at hb
  subst hb
  have hlen:r.rows.length=r.len:=r.rows_len
  have hkk:k=r.rows.length:=by
   rcases ho.2 with ⟨e9,_⟩ | ⟨_,_,_,_,e9,_⟩
   ·cases e9
   ·simp only [Value.slice.injEq] at e9;exact e9.2.1
  subst hkk
  have hcell:=Win.cells ho
  have hL:RdL w (E.set ls) r.tys ((cells.drop (i*r.tys.length)).take r.tys.length) (r.rows.getD i []):=(hrow i (by omega)).mono fun b _ hb=>hb.1
  refine ⟨b,_,((cells.drop (i*r.tys.length)).take r.tys.length).drop off,rfl,(RL.elem_ok hi hL).drop off,fun j u hu=>?_⟩
  rw [List.getElem?_drop,List.getElem?_take] at hu
  split at hu
  ·rw [List.getElem?_drop] at hu
   have:=hcell _ u hu
   rw [WideShapes.add_plain] at this
   rw [<- this,hsz]
   congr 2
   omega
  ·simp at hu
 case rp ls T cs2 off=>
  simp only [zc3,Option.some.injEq,Prod.mk.injEq] at hc
  obtain ⟨rfl,rfl⟩:=hc
  obtain ⟨b,xs,rfl,h1,h2,h3⟩:=hv
  refine ⟨b,off,xs.drop off,rfl,h3.drop off,fun j u hu=>?_⟩
  rw [List.getElem?_drop] at hu
  simp [World.cell?,h2,hu]
 all_goals simp [zc3] at hc
def aggT (P:Program) (T:TypeId):Option Bool:=
 match P.underlying T with
 | some (.struct _) | some (.array _ _)=>some true
 | some _=>some false
 | none=>none
theorem zcN {T:TypeId} {b:Bool} (h:aggT P T=some b) (w:World):(isAgg T).run P w = .ok b w:=by
 unfold aggT at h
 unfold isAgg
 split at h
 case h_4=>simp at h
 all_goals
  rename_i hu
  simp only [Option.some.injEq] at h
  subst h
  rw [Sem.run_bind,run_underlying hu]
 ·simp [Sem.run_pure,Result.andThen]
 ·simp [Sem.run_pure,Result.andThen]
 ·rename_i d n1 n2
  cases d<;>first | (exfalso;simp_all;done) | simp [Sem.run_pure,Result.andThen]
def zc7 (P:Program) (T:TypeId):Option Nat:=(P.info? T).map (·.size)
theorem zaO {T:TypeId} {n:Nat} (h:zc7 P T=some n) (w:World):(sizeOf T).run P w = .ok n w:=by
 unfold zc7 at h
 cases hi:P.info? T with
 | none=>simp [hi] at h
 | some i=>simp [hi] at h;simp [sizeOf,typeInfo,hi,h,Sem.run_bind]
theorem zek {w:World} {b off:Nat} {xs:List Value} (hc:∀ j u,xs[j]? = some u->w.cell? ⟨b,off+j,none⟩=some u) (n:Nat) (hn:n<=xs.length):(loadCells ⟨b,off,none⟩ n).run P w = .ok (xs.take n).toArray w:=by
 have:=run_loadCells_list (P:=P) w ⟨b,off,none⟩ (xs.take n) (fun j u hu=>by
  rw [List.getElem?_take] at hu
  rw [Addr.add0]
  split at hu
  ·exact hc j u hu
  ·simp at hu)
 rwa [List.length_take,Nat.min_eq_left hn] at this
def ztG (P:Program) (st:St) (T:TypeId) (x:Operand):Option Upd:=
 match zc3 st (zal (st.ev x)).1,aggT P T,zc7 P T with
 | some (cs,n),some true,some k=>if k<=cs.length then some ⟨(zal (st.ev x)).2++n,.agg (cs.take k),[]⟩ else none
 | some (c::_,n),some false,_=>some ⟨(zal (st.ev x)).2++n,c,[]⟩
 | _,_,_=>none
theorem ztF (o:Oper) (T:TypeId) (x:Operand) (ho:o.op = .load T x) {u:Upd} (hu:ztG P st T x=some u):Does P base X w0 st o u:=by
 unfold ztG at hu
 split at hu
 case h_3=>simp at hu
 ·rename_i cs n k e1 e2 e3
  split at hu
  case isFalse=>simp at hu
  rename_i hk
  simp only [Option.some.injEq] at hu
  subst hu
  refine Does.pure fun E a w h hn=>?_
  have h1:=zae (h.ev x) (fun p hp=>hn p (List.mem_append_left _ hp))
  obtain ⟨b,off,xs,e,hd,hc⟩:=zec h e1 (fun p hp=>hn p (List.mem_append_right _ hp)) h1
  refine ⟨.agg (xs.take k).toArray,?_,xs.take k,rfl,hd.take k⟩
  simp only [execOp,ho,Instr.loadAt,e,Instr.sureAddr,loadVar,Sem.run_bind,Sem.run_pure,Result.andThen,zcN e2,if_true,zaO e3,zek hc k (by rw [hd.len];exact hk)]
 ·rename_i c rest n _ e1 e2
  simp only [Option.some.injEq] at hu
  subst hu
  refine Does.pure fun E a w h hn=>?_
  have h1:=zae (h.ev x) (fun p hp=>hn p (List.mem_append_left _ hp))
  obtain ⟨b,off,xs,e,hd,hc⟩:=zec h e1 (fun p hp=>hn p (List.mem_append_right _ hp)) h1
  match xs,hd with
  | x0::xs,hd=>
   refine ⟨x0,?_,hd.1⟩
   have:=hc 0 x0 rfl
   rw [Nat.add_zero] at this
   simp [execOp,ho,Instr.loadAt,e,Instr.sureAddr,loadVar,Sem.run_bind,zcN e2,run_load,this]
def zgg (vs ys:List SV) (off:Nat):List SV:=vs.take off++ys++vs.drop (off+ys.length)
theorem zny {vs ys:List SV} {off:Nat} (h1:vs.all SV.flat=true) (h2:ys.all SV.flat=true):(zgg vs ys off).all SV.flat=true:=by
 simp only [zgg,List.all_eq_true,List.mem_append] at *
 rintro x ((hx | hx) | hx)
 ·exact h1 x (List.mem_of_mem_take hx)
 ·exact h2 x hx
 ·exact h1 x (List.mem_of_mem_drop hx)
theorem zgf {E:Env} {w:World} {vs ys:List SV} {xs zs:List Value} (h:DenL E w vs xs) (k:DenL E w ys zs) (off:Nat):DenL E w (zgg vs ys off) (xs.take off++zs++xs.drop (off+zs.length)):=by
 rw [k.len];exact ((h.take off).app k).app (h.drop _)
theorem zeD {w:World} {T:TypeId} {n:Nat} (hs:zc7 P T=some n) {v:Value} {zs:List Value} (hv:v.cells=zs.toArray) (hn:zs.length=n) {b off:Nat} {xs:List Value} {Tb:TypeId} (hb:w.heap[b]? = some (.cells xs.toArray Tb (0,0)))
  (hl:off+zs.length<=xs.length) (h1:∀ u∈zs,u.oneCell'=true):(storeVar T ⟨b,off,none⟩ v).run P w = .ok () (w.setRow b (xs.take off++zs++xs.drop (off+zs.length)).toArray):=by
 subst hn
 have:=run_storeCells_at (P:=P) b off Tb zs 0 xs.toArray w hb (by simpa using hl) h1
 simp only [Nat.add_zero] at this
 simp only [storeVar,hv,Sem.run_bind,zaO hs,Result.andThen,List.size_toArray,ne_eq,not_true,if_false,Sem.run_pure]
 simpa using this
def zhW (P:Program) (st:St) (T:TypeId) (x y:Operand):Option Upd:=
 match zal (st.ev x),zal (st.ev y),zc7 P T with
 | (.ptr t off,n1),(s,n2),some k=>match st.m t with
  | .cells Tb vs=>if s.cells.all SV.flat then (if s.cells.length=k then (if off+k<=vs.length then some ⟨n1++n2,.any,[(t,.cells Tb (zgg vs s.cells off))]⟩ else none) else none) else none
  | _=>none
 | _,_,_=>none
theorem zrt (o:Oper) (T:TypeId) (x y:Operand) (ho:o.op = .store T x y) {u:Upd} (hu:zhW P st T x y=some u):Does P base X w0 st o u:=by
 unfold zhW at hu
 split at hu
 case h_2=>simp at hu
 rename_i t off n1 s n2 k e1 e2 e3
 split at hu
 case h_2=>simp at hu
 rename_i Tb vs hm
 split at hu
 case isFalse=>simp at hu
 split at hu
 case isFalse=>simp at hu
 split at hu
 case isFalse=>simp at hu
 rename_i hf hk hl
 simp only [Option.some.injEq] at hu
 subst hu
 intro E a w K Q h hn hK
 have h1:=zae (h.ev x) (fun p hp=>hn p (by rw [e1] at hp;exact List.mem_append_left _ hp))
 have h2:=zae (h.ev y) (fun p hp=>hn p (by rw [e2] at hp;exact List.mem_append_right _ hp))
 rw [e1] at h1
 rw [e2] at h2
 obtain ⟨zs,hz,hzd⟩:=zfV hf h2
 obtain ⟨b,hb,hx⟩:=h1
 obtain ⟨b',xs,c1,c2,c3,c4⟩:=h.mem.cells t _ _ hm
 rw [c1] at hb
 simp only [Option.some.injEq,Value.pointer.injEq,Addr.mk.injEq,and_true] at hb
 subst hb
 have hzl:zs.length=k:=by rw [hzd.len];exact hk
 have hxl:xs.length=vs.length:=c3.len
 have hrun:=zeD (P:=P) e3 hz hzl c2 (off:=off) (by omega) (DenL.ones hf hzd)
 have hne:∀ g,zaV (.pointer (some ⟨b',0,none⟩))≠some g->g≠b':=by intro g hg e;exact hg (by simp [zaV,e])
 have hS:Same E.lab w (w.setRow b' (xs.take off++zs++xs.drop (off+zs.length)).toArray):=by
  refine ⟨by simp,fun g hg _=>setRow_other w b' g _ (fun e=>?_)⟩
  subst e
  exact (h.mem.sep t _ (Has.cells hm c1 rfl)).1 hg
 refine zlP (w':=w.setRow b' (xs.take off++zs++xs.drop (off+zs.length)).toArray) ?_ (hK E _ _ (Env.Le.refl E) hS trivial ?_)
 ·simp only [execOp,ho,Instr.storeAt,hx,Instr.sureAddr,Sem.run_bind,Sem.run_pure,Result.andThen,hrun]
 ·rw [zcp]
  refine h.mem.poke (by show (st.m t).live=true;rw [hm];rfl) c1 _ rfl (by simp) (fun g hg _=>setRow_other w b' g _ (hne g hg)) ⟨rfl,rfl,rfl⟩ ⟨b',_,rfl,setRow_heap w b' _ _ Tb _ c2,zgf (DenL.mono (Env.Le.refl E) hS _ _ c3) (DenL.mono (Env.Le.refl E) hS _ _ hzd) off,zny c4 hf⟩
end ops
end Go.Proofs.YtkhphiahindnnaaGreat
namespace Go.Proofs.YtkhphiahindnnaaGreat
open Go.RowKit Go.ChangeShapes Go.WideShapes Go.Deep
section ops
variable {P : Program} {base : Nat} {X : Cx} {w0 : World} {st : St}
def ziF (P:Program) (T:TypeId) (f:Nat):Option (Nat×TypeId):=
 match P.underlying T with
 | some (.struct fs)=>match fs[f]? with
  | some fd=>some (fd.offset,fd.type)
  | none=>none
 | _=>none
theorem zhH {T:TypeId} {f off:Nat} {t:TypeId} (h:ziF P T f=some (off,t)):∃ fs fd,P.underlying T=some (.struct fs)/\fs[f]? = some fd/\fd.offset=off/\fd.type=t:=by
 unfold ziF at h
 split at h
 case h_2=>simp at h
 rename_i fs hu
 split at h
 case h_2=>simp at h
 rename_i fd hf
 simp only [Option.some.injEq,Prod.mk.injEq] at h
 exact ⟨fs,fd,hu,hf,h.1,h.2⟩
def zwP (s:SV) (n:Nat):SV:=
 match s with
 | .ptr t off=> .ptr t (off+n)
 | .el ls r i off=> .el ls r i (off+n)
 | .oel t sz i off=> .oel t sz i (off+n)
 | .rp ls T cs off=> .rp ls T cs (off+n)
 | _=> .any
def zpU:SV->Bool
 | .ptr .. | .el .. | .oel .. | .rp .. => true
 | _=>false
theorem zsy {E:Env} {w:World} {s:SV} {v:Value} (n:Nat) (h:DenV E w s v) (ha:zpU s=true):∃ b off,v = .pointer (some ⟨b,off,none⟩)/\DenV E w (zwP s n) (.pointer (some ⟨b,off+n,none⟩)):=by
 cases s<;>simp only [zpU,Bool.false_eq_true] at ha
 case ptr t off=>obtain ⟨b,h1,rfl⟩:=h;exact ⟨b,off,rfl,b,h1,rfl⟩
 case el ls r i off=>obtain ⟨h0,b,o,c,rfl,h2⟩:=h;exact ⟨b,_,rfl,h0,b,o,c,by rw [Nat.add_assoc],h2⟩
 case oel t sz i off=>obtain ⟨b,o,k,c,h1,rfl⟩:=h;exact ⟨b,_,rfl,b,o,k,c,h1,by rw [Nat.add_assoc]⟩
 case rp ls T cs off=>obtain ⟨b,xs,rfl,h1,h2,h3⟩:=h;exact ⟨b,off,rfl,b,xs,rfl,h1,h2,h3⟩
def zbD (P:Program) (st:St) (T:TypeId) (x:Operand) (f:Nat):Option Upd:=
 match ziF P T f with
 | some (off,t)=>match zc7 P t with
  | some k=>if k=0 then none else (if zpU (zal (st.ev x)).1 then some ⟨(zal (st.ev x)).2,zwP (zal (st.ev x)).1 off,[]⟩ else none)
  | none=>none
 | none=>none
theorem zjd (o:Oper) (T:TypeId) (x:Operand) (f:Nat) (ho:o.op = .fieldAddr T x f) {u:Upd} (hu:zbD P st T x f=some u):Does P base X w0 st o u:=by
 unfold zbD at hu
 split at hu
 case h_2=>simp at hu
 rename_i off t hf
 split at hu
 case h_2=>simp at hu
 rename_i k hk
 split at hu
 case isTrue=>simp at hu
 split at hu
 case isFalse=>simp at hu
 rename_i hk0 ha
 simp only [Option.some.injEq] at hu
 subst hu
 obtain ⟨fs,fd,h1,h2,rfl,rfl⟩:=zhH hf
 refine Does.pure fun E a w h hn=>?_
 obtain ⟨b,o2,e,hd⟩:=zsy fd.offset (zae (h.ev x) hn) ha
 refine ⟨_,?_,hd⟩
 simp [execOp,ho,Instr.fieldAt,run_underlying h1,h2,e,Instr.sureAddr,fieldPlace,zaO hk,hk0,Addr.add0]
def znb (P:Program) (st:St) (T:TypeId) (x:Operand) (f:Nat):Option Upd:=
 match ziF P T f,zal (st.ev x) with
 | some (off,t),(.agg vs,n)=>match aggT P t with
  | some true=>match zc7 P t with
   | some k=>if off+k<=vs.length then some ⟨n,.agg ((vs.drop off).take k),[]⟩ else none
   | none=>none
  | some false=>match vs[off]? with
   | some s=>some ⟨n,s,[]⟩
   | none=>none
  | none=>none
 | _,_=>none
theorem zru (o:Oper) (T:TypeId) (x:Operand) (f:Nat) (ho:o.op = .field T x f) {u:Upd} (hu:znb P st T x f=some u):Does P base X w0 st o u:=by
 unfold znb at hu
 split at hu
 case h_2=>simp at hu
 rename_i off t vs n hf e
 obtain ⟨fs,fd,h1,h2,rfl,rfl⟩:=zhH hf
 split at hu
 case h_3=>simp at hu
 ·rename_i ha
  split at hu
  case h_2=>simp at hu
  rename_i k hk
  split at hu
  case isFalse=>simp at hu
  rename_i hl
  simp only [Option.some.injEq] at hu
  subst hu
  refine Does.pure fun E a w h hn=>?_
  have hv:=zae (h.ev x) (fun p hp=>hn p (by rw [e] at hp;exact hp))
  rw [e] at hv
  obtain ⟨xs,hx,hd⟩:=hv
  refine ⟨.agg ((xs.drop fd.offset).take k).toArray,?_,_,rfl,(hd.drop _).take _⟩
  have e2:(xs.toArray.extract fd.offset (fd.offset+k))=((xs.drop fd.offset).take k).toArray:=by
   simp [List.extract_toArray,List.extract_eq_take_drop]
  simp [execOp,ho,Instr.field,run_underlying h1,h2,hx,asAgg,part,zcN ha,zaO hk]
 ·rename_i ha
  split at hu
  case h_2=>simp at hu
  rename_i s hs
  simp only [Option.some.injEq] at hu
  subst hu
  refine Does.pure fun E a w h hn=>?_
  have hv:=zae (h.ev x) (fun p hp=>hn p (by rw [e] at hp;exact hp))
  rw [e] at hv
  obtain ⟨xs,hx,hd⟩:=hv
  have hlt:fd.offset<vs.length:=(List.getElem?_eq_some_iff.1 hs).1
  have hd2:=hd.at fd.offset hlt
  have hlt2:fd.offset<xs.length:=by rw [hd.len];exact hlt
  have e3:vs.getD fd.offset .any=s:=by simp [List.getD,hs]
  rw [e3] at hd2
  have e4:xs.getD fd.offset undef=xs[fd.offset]:=by simp [List.getD,hlt2]
  rw [e4] at hd2
  refine ⟨_,?_,hd2⟩
  simp [execOp,ho,Instr.field,run_underlying h1,h2,hx,asAgg,part,zcN ha,hlt2]
def znT (place:Nat->Option (Nat×Nat)):List SV->List (Nat×SV)->Option (List SV)
 | cs,[]=>some cs
 | cs,(i,s)::r=>match place i with
  | some (off,k)=>if s.cells.all SV.flat then (if s.cells.length=k then (if off+k<=cs.length then znT place (zgg cs s.cells off) r else none) else none) else none
  | none=>none
theorem ztc (zs:List Value) (off:Nat):∀ (j:Nat) (cs:Array Value),off+j+zs.length<=cs.size ->
  ((zs.zipIdx j).foldl (fun cs (c,j)=>cs.setIfInBounds (off+j) c) cs).toList=cs.toList.take (off+j)++zs++cs.toList.drop (off+j+zs.length):=by
 induction zs with
 | nil=>intro j cs _;simp
 | cons z zs ih=>
  intro j cs h
  simp only [List.zipIdx_cons,List.foldl_cons,List.length_cons] at h ⊢
  have:=ih (j+1) (cs.setIfInBounds (off+j) z) (by simp;omega)
  rw [show off+(j+1)=off+j+1 by omega] at this
  rw [this]
  simp only [Array.toList_setIfInBounds]
  have hlt:off+j<cs.toList.length:=by simp;omega
  have e1:(cs.toList.set (off+j) z).take (off+j+1)=cs.toList.take (off+j)++[z]:=by
   rw [List.take_succ_eq_append_getElem (by simpa using hlt),List.take_set_of_le (by omega)]
   simp
  have e2:(cs.toList.set (off+j) z).drop (off+j+1+zs.length)=cs.toList.drop (off+j+(zs.length+1)):=by
   rw [List.drop_set_of_lt (by omega)];congr 1;omega
  rw [e1,e2];simp
theorem ziE {E:Env} {w:World} {place:Nat->Option (Nat×Nat)}:∀ {ps:List (Nat×SV)} {cs out:List SV} {vals:List (Nat×Value)} {zs:Array Value},znT place cs ps=some out->DenL E w cs zs.toList->vals.length=ps.length ->
  (∀ i,i<ps.length->(vals.getD i default).1=(ps.getD i default).1/\DenV E w (ps.getD i default).2 (vals.getD i default).2)->∃ r:Array Value,Instr.fill place zs vals=some r/\DenL E w out r.toList
 | [],cs,out,vals,zs,h,hd,hl,_=>by
  have:vals=[]:=List.eq_nil_of_length_eq_zero (by simpa using hl)
  subst this
  simp only [znT,Option.some.injEq] at h
  subst h
  exact ⟨zs,by simp [Instr.fill],hd⟩
 | (i,s)::r,cs,out,[],zs,h,hd,hl,_=>by simp at hl
 | (i,s)::r,cs,out,(i2,v)::vals,zs,h,hd,hl,hp=>by
  have h0:=hp 0 (by simp)
  simp at h0
  obtain ⟨rfl,hv⟩:=h0
  unfold znT at h
  split at h
  case h_2=>simp at h
  rename_i off k hpl
  split at h
  case isFalse=>simp at h
  split at h
  case isFalse=>simp at h
  split at h
  case isFalse=>simp at h
  rename_i hf hk hle
  obtain ⟨xs,hx,hxd⟩:=zfV hf hv
  have hxl:xs.length=k:=by rw [hxd.len];exact hk
  have hzl:zs.size=cs.length:=by have:=hd.len;simpa using this
  have hfold:=ztc xs off 0 zs (by simp;omega)
  simp only [Nat.add_zero] at hfold
  have hd2:DenL E w (zgg cs s.cells off) ((xs.zipIdx.foldl (fun cs (c,j)=>cs.setIfInBounds (off+j) c) zs).toList):=by
   rw [hfold];exact zgf hd hxd off
  obtain ⟨res,h3,h4⟩:=ziE (ps:=r) (vals:=vals) h hd2 (by simpa using hl) (fun j hj=>by have:=hp (j+1) (by simpa using hj);simpa using this)
  refine ⟨res,?_,h4⟩
  rw [Instr.fill,hpl]
  simp only [hx,List.size_toArray,hxl,ne_eq,not_true,false_or,decide_false,Bool.false_or]
  rw [if_neg (by simp;omega)]
  have e5:(xs.toArray.zipIdx.foldl (fun cs (c,j)=>cs.setIfInBounds (off+j) c) zs)=(xs.zipIdx.foldl (fun cs (c,j)=>cs.setIfInBounds (off+j) c) zs):=by
   simp [<- Array.foldl_toList]
  rw [<- h3]
  simp
def zck (st:St):List (Nat×Operand)->List (Nat×SV)×List Prop
 | []=>([],[])
 | (i,x)::r=>((i,(zal (st.ev x)).1)::(zck st r).1,(zal (st.ev x)).2++(zck st r).2)
def zgd (a:Act) (ps:List (Nat×Operand)):List (Nat×Value):=ps.map fun q=>(q.1,a.eval q.2)
theorem zgt {E:Env} {a:Act} {w:World} (h:st.Ok base X w0 E a w):∀ (ps:List (Nat×Operand)),(∀ p∈(zck st ps).2,p)->(zck st ps).1.length=ps.length/\∀ i,i<ps.length ->
  (((zgd a ps).getD i default).1=((zck st ps).1.getD i default).1/\DenV E w ((zck st ps).1.getD i default).2 ((zgd a ps).getD i default).2)
 | [],_=>⟨rfl,fun i hi=>absurd hi (by simp)⟩
 | (i,x)::r,hn=>by
  have ih:=zgt h r (fun p hp=>hn p (List.mem_append_right _ hp))
  refine ⟨by simp [zck,ih.1],fun j hj=>?_⟩
  cases j with
  | zero=>exact ⟨rfl,zae (h.ev x) (fun p hp=>hn p (List.mem_append_left _ hp))⟩
  | succ j=>have:=ih.2 j (by simpa using hj);simpa [zck,zgd] using this
def zmi (P:Program) (T:TypeId):Option (List (Nat×TypeId)):=
 match P.underlying T with
 | some (.struct fs)=>some (fs.toList.map fun f=>(f.offset,f.type))
 | _=>none
def zeJ (P:Program):List (Nat×TypeId)->Option (List (Nat×Nat))
 | []=>some []
 | (off,t)::r=>match zc7 P t,zeJ P r with
  | some k,some l=>some ((off,k)::l)
  | _,_=>none
theorem zht (w:World):∀ (fs:List Field) (l:List (Nat×Nat)),zeJ P (fs.map fun f=>(f.offset,f.type))=some l ->
  (List.mapM (fun (f:Field)=>(do pure (f.offset,<- sizeOf f.type):Sem (Nat×Nat))) fs).run P w = .ok l w
 | [],l,h=>by simp only [List.map_nil,zeJ,Option.some.injEq] at h;subst h;simp [Sem.run_pure]
 | f::fs,l,h=>by
  simp only [List.map_cons,zeJ] at h
  split at h
  case h_2=>simp at h
  rename_i k l2 h1 h2
  simp only [Option.some.injEq] at h
  subst h
  have ih:=zht w fs l2 h2
  simp only [List.mapM_cons,Sem.run_bind,zaO h1,Result.andThen,Sem.run_pure,ih]
def znc (P:Program) (st:St) (T:TypeId) (parts:Array (Nat×Operand)):Option Upd:=
 match (P.info? T).bind (·.zero),zmi P T with
 | some z,some fs=>match zeJ P fs with
  | some l=>match znT (fun i=>l[i]?) (ofCs z) (zck st parts.toList).1 with
   | some out=>some ⟨(zck st parts.toList).2,.agg out,[]⟩
   | none=>none
  | none=>none
 | _,_=>none
theorem zrw (o:Oper) (T:TypeId) (parts:Array (Nat×Operand)) (ho:o.op = .build T parts) {u:Upd} (hu:znc P st T parts=some u):Does P base X w0 st o u:=by
 unfold znc at hu
 split at hu
 case h_2=>simp at hu
 rename_i z fs hz hfs
 split at hu
 case h_2=>simp at hu
 rename_i l hl
 split at hu
 case h_2=>simp at hu
 rename_i out hout
 simp only [Option.some.injEq] at hu
 subst hu
 unfold zmi at hfs
 split at hfs
 case h_2=>simp at hfs
 rename_i flds hund
 simp only [Option.some.injEq] at hfs
 subst hfs
 refine Does.pure fun E a w h hn=>?_
 have hp:=zgt h parts.toList hn
 obtain ⟨r,hr,hd⟩:=ziE (E:=E) (w:=w) (zs:=z.cells) (vals:=zgd a parts.toList) hout (ziv E w z.cells.toList) (by rw [hp.1];simp [zgd]) (fun i hi=>hp.2 i (by rw [hp.1] at hi;exact hi))
 refine ⟨.agg r,?_,r.toList,by simp,hd⟩
 cases hi:P.info? T with
 | none=>simp [hi] at hz
 | some inf=>
  simp [hi] at hz
  have hpl:=zht (P:=P) w flds.toList l hl
  have hm:(flds.mapM fun (f:Field)=>(do pure (f.offset,<- sizeOf f.type):Sem (Nat×Nat))).run P w = .ok l.toArray w:=by
   rw [Array.mapM_eq_mapM_toList,map_eq_pure_bind,Sem.run_bind,hpl];simp [Sem.run_pure]
  have hrr:Instr.fill (l.toArray[·]?) z.cells (parts.map fun (i,x)=>(i,a.eval x)).toList=some r:=by
   have e:(parts.map fun (i,x)=>(i,a.eval x)).toList=zgd a parts.toList:=by simp [zgd]
   rw [e];simpa using hr
  simp only [execOp,ho,Instr.build,zeroValue,typeInfo,Sem.run_bind,run_program,hi,hz,Result.andThen,Sem.run_pure,run_underlying hund,hm,hrr]
end ops
end Go.Proofs.YtkhphiahindnnaaGreat
namespace Go.Proofs.YtkhphiahindnnaaGreat
open Go.RowKit Go.ChangeShapes Go.WideShapes Go.Deep
section ops
variable {P : Program} {base : Nat} {X : Cx} {w0 : World} {st : St}
theorem OwnR.bd {b:Nat} {w:World} {T:TypeId} {S:Nat->Prop} {fs:List Ty} {v:Value} {rows:List (List D)} (h:OwnR b w T S fs v rows):rows.length<=9223372036854775807:=by
 obtain ⟨cells,⟨_,⟨rfl,hn⟩ | ⟨g,o,cap,cur,rfl,_,_,_,h1,h2,_⟩⟩,_⟩:=h
 ·omega
 ·unfold maxLen at h2;omega
def zch (P:Program) (T:TypeId):Option TypeId:=
 match P.underlying T with
 | some (.slice e)=>some e
 | _=>none
theorem za5 {T e:TypeId} (h:zch P T=some e):P.underlying T=some (.slice e):=by
 unfold zch at h
 split at h
 case h_2=>simp at h
 rename_i hu
 simp only [Option.some.injEq] at h
 rw [hu,h]
def zed (P:Program) (st:St) (T:TypeId) (x i:Operand):Option Upd:=
 match zch P T,zal (st.ev i) with
 | some e,(.int k n,n1)=>match zal (st.ev x),zc7 P e with
  | (.sl ls r,n2),some sz=>if sz=r.tys.length then some ⟨n1++n2++[0<=n,n<(r.len:Int)],.el ls r n.toNat 0,[]⟩ else none
  | (.own t,n2),some sz=>match st.m t with
   | .row _ _ r=>if sz=r.tys.length then some ⟨n1++n2++[0<=n,n<(r.len:Int)],.oel t sz n.toNat 0,[]⟩ else none
   | _=>none
  | _,_=>none
 | _,_=>none
theorem zgi {T e:TypeId} (hu:P.underlying T=some (.slice e)) {sz:Nat} (hsz:zc7 P e=some sz) {b off len c:Nat} {k:IntKind} {n:Int} (h0:0<=n) (h1:n<(len:Int)) (w:World) :
  (Instr.indexAt T (.slice (some ⟨b,off,none⟩) len c) (.int k n)).run P w = .ok (.pointer (some ⟨b,off+n.toNat*sz,none⟩)) w:=by
 simp [Instr.indexAt,asIntOf,run_underlying hu,h0,h1,zaO hsz,Addr.add0,Sem.run_bind]
theorem zjc (o:Oper) (T:TypeId) (x i:Operand) (ho:o.op = .indexAddr T x i) {u:Upd} (hu:zed P st T x i=some u):Does P base X w0 st o u:=by
 unfold zed at hu
 split at hu
 case h_2=>simp at hu
 rename_i e k n n1 he ei
 have hund:=za5 he
 split at hu
 case h_3=>simp at hu
 ·rename_i ls r n2 sz ex hsz
  split at hu
  case isFalse=>simp at hu
  rename_i hrs
  simp only [Option.some.injEq] at hu
  subst hu
  refine Does.pure fun E a w h hn=>?_
  have hi:=zae (h.ev i) (fun p hp=>hn p (by rw [ei] at hp;simp [hp]))
  have hx:=zae (h.ev x) (fun p hp=>hn p (by rw [ex] at hp;simp [hp]))
  rw [ei] at hi
  rw [ex] at hx
  obtain ⟨hi,_⟩:=hi
  have h0:0<=n:=hn _ (by simp)
  have h1:n<(r.len:Int):=hn (n<(r.len:Int)) (by simp)
  have hlen:r.rows.length=r.len:=r.rows_len
  obtain ⟨ad,c,hv,hs⟩:=Rd.sl' hx
  obtain ⟨b,off,e1⟩:=Sl.addr hs (by omega)
  subst e1
  rw [hlen] at hv hs
  refine ⟨.pointer (some ⟨b,off+n.toNat*sz,none⟩),?_,(by omega:n.toNat<r.len),b,off,c,?_,hs⟩
  ·simp only [execOp,ho,hv,hi,Sem.run_bind,zgi hund hsz h0 h1,Result.andThen,Sem.run_pure]
  ·rw [hrs,Nat.add_zero]
 ·rename_i t n2 sz ex hsz
  split at hu
  case h_2=>simp at hu
  rename_i T' ls r hm
  split at hu
  case isFalse=>simp at hu
  rename_i hrs
  simp only [Option.some.injEq] at hu
  subst hu
  refine Does.pure fun E a w h hn=>?_
  have hi:=zae (h.ev i) (fun p hp=>hn p (by rw [ei] at hp;simp [hp]))
  have hx:=zae (h.ev x) (fun p hp=>hn p (by rw [ex] at hp;simp [hp]))
  rw [ei] at hi
  rw [ex] at hx
  obtain ⟨hi,_⟩:=hi
  have h0:0<=n:=hn _ (by simp)
  have h1:n<(r.len:Int):=hn (n<(r.len:Int)) (by simp)
  have hlen:r.rows.length=r.len:=r.rows_len
  obtain ⟨v',h2,cells,ho',hrow⟩:=h.mem.row t _ _ _ hm
  have hβ:=hx.1
  rw [h2] at hβ
  simp only [Option.some.injEq] at hβ
  rcases ho'.2 with ⟨e1,e2⟩ | ⟨g,oo,cap,cur,e1,_⟩
  ·omega
  ·rw [hlen] at e1
   rw [e1] at hβ h2
   refine ⟨.pointer (some ⟨g,oo+n.toNat*sz,none⟩),?_,g,oo,r.len,cap,h2,by simp⟩
   simp only [execOp,ho,<- hβ,hi,Sem.run_bind,zgi hund hsz h0 h1,Result.andThen,Sem.run_pure]
def zfW (st:St) (x:Operand) (i:Nat):Option Upd:=
 match zal (st.ev x) with
 | (.tup vs,n)=>match vs[i]? with
  | some s=>some ⟨n,s,[]⟩
  | none=>none
 | _=>none
theorem zlJ (o:Oper) (x:Operand) (i:Nat) (ho:o.op = .extract x i) {u:Upd} (hu:zfW st x i=some u):Does P base X w0 st o u:=by
 unfold zfW at hu
 split at hu
 case h_2=>simp at hu
 rename_i vs n e
 split at hu
 case h_2=>simp at hu
 rename_i s hs
 simp only [Option.some.injEq] at hu
 subst hu
 refine Does.pure fun E a w h hn=>?_
 have hx:=zae (h.ev x) (fun p hp=>hn p (by rw [e] at hp;exact hp))
 rw [e] at hx
 obtain ⟨xs,hv,hd⟩:=hx
 have hlt:i<vs.length:=(List.getElem?_eq_some_iff.1 hs).1
 have hd2:=hd.at i hlt
 have hlt2:i<xs.length:=by rw [hd.len];exact hlt
 rw [show vs.getD i .any=s by simp [List.getD,hs],show xs.getD i undef=xs[i] by simp [List.getD,hlt2]] at hd2
 refine ⟨_,?_,hd2⟩
 simp [execOp,ho,hv,Instr.extract,hlt2]
def binV (op:BinOp):SV->SV->Option (SV×List Prop)
 | .int k x,.int k' y=>if k=k' then match op with
  | .add=>some (.int k (k.wrap (x+y)),[])
  | .sub=>some (.int k (k.wrap (x-y)),[])
  | .mul=>some (.int k (k.wrap (x*y)),[])
  | .quo=>some (.int k (k.wrap (x.tdiv y)),[y≠0])
  | .rem=>some (.int k (x.tmod y),[y≠0,(Lit.int k (x.tmod y)).wf=true])
  | .eql=>some (.bool (x==y),[])
  | .neq=>some (.bool (x != y),[])
  | .lss=>some (.bool (decide (x<y)),[])
  | .leq=>some (.bool (decide (x<=y)),[])
  | .gtr=>some (.bool (decide (x>y)),[])
  | .geq=>some (.bool (decide (x>=y)),[])
  | _=>none
  else none
 | .str x,.str y=>match op with
  | .eql=>some (.bool (x.toList==y.toList),[])
  | .neq=>some (.bool !(x.toList==y.toList),[])
  | .add=>some (.str (x++y),[x.size+y.size<=140737488355328])
  | _=>none
 | _,_=>none
def binB (P:Program) (op:BinOp) (T:TypeId):SV->SV->Option SV
 | .bool x,.bool y=>match P.underlying T with
  | some .bool=>match op with
   | .eql=>some (.bool (x==y))
   | .neq=>some (.bool !(x==y))
   | _=>none
  | _=>none
 | _,_=>none
theorem zw8 {E:Env} {w:World} {op:BinOp} {s t r:SV} {n:List Prop} (h:binV op s t=some (r,n)) (hn:∀ p∈n,p) {v u:Value} (hv:DenV E w s v) (hu:DenV E w t u) (T:TypeId) (x y:Operand) :
  ∃ z,(do eqGuard op T x y v u;binOp op T v u:Sem Value).run P w = .ok z w/\DenV E w r z:=by
 unfold binV at h
 split at h
 ·rename_i k a k' b
  split at h
  case isFalse=>simp at h
  rename_i hk
  subst hk
  obtain ⟨rfl,_⟩:=hv
  obtain ⟨rfl,_⟩:=hu
  split at h<;>simp only [Option.some.injEq,Prod.mk.injEq,reduceCtorEq] at h
  all_goals obtain ⟨rfl,rfl⟩:=h
  case h_5=>
   have h1:b≠0:=hn _ (by simp)
   have h2:(Lit.int k (a.tmod b)).wf=true:=hn _ (by simp)
   exact ⟨_,by simp [eqGuard,binOp,Op.intDiv,h1],rfl,h2⟩
  case h_4=>
   have h1:b≠0:=hn _ (by simp)
   exact ⟨_,by simp [eqGuard,binOp,Op.intDiv,h1],rfl,wf_wrap _ _⟩
  all_goals
   refine ⟨_,by simp [eqGuard,binOp,Op.intArith,Op.intCmp];rfl,?_⟩
   first | exact ⟨rfl,wf_wrap _ _⟩ | rfl
 ·rename_i a b
  obtain ⟨rfl,ha⟩:=hv
  obtain ⟨rfl,hb⟩:=hu
  split at h<;>simp only [Option.some.injEq,Prod.mk.injEq,reduceCtorEq] at h
  all_goals obtain ⟨rfl,rfl⟩:=h
  case h_3=>
   have h1:a.size+b.size<=140737488355328:=hn _ (by simp)
   refine ⟨.string (a++b),?_,rfl,by simpa using h1⟩
   have h2:¬ (((a.size+b.size:Nat):Int)>IntKind.i64.max):=by
    have:IntKind.i64.max=9223372036854775807:=rfl
    rw [this];omega
   simp only [eqGuard,binOp,Op.stringOp]
   rw [if_neg h2]
   rfl
  all_goals
   refine ⟨_,by simp [eqGuard,binOp,Op.stringOp];rfl,?_⟩
   rfl
 ·simp at h
theorem zhu {T:TypeId} (hT:P.underlying T=some .bool) (a b:Bool) (w:World):(Op.equal T (.bool a) (.bool b)).run P w = .ok (a==b) w:=by
 unfold Op.equal Op.maxDepth
 unfold Op.equalIn
 rw [Sem.run_bind,run_underlying hT]
 rfl
theorem zw9 {E:Env} {w:World} {op:BinOp} {T:TypeId} {s t r:SV} (h:binB P op T s t=some r) {v u:Value} (hv:DenV E w s v) (hu:DenV E w t u) (x y:Operand) :
  ∃ z,(do eqGuard op T x y v u;binOp op T v u:Sem Value).run P w = .ok z w/\DenV E w r z:=by
 unfold binB at h
 split at h
 case h_2=>simp at h
 rename_i a b
 split at h
 case h_2=>simp at h
 rename_i hT
 have hv:v = .bool a:=hv
 have hu:u = .bool b:=hu
 subst hv;subst hu
 split at h<;>simp only [Option.some.injEq,reduceCtorEq] at h
 all_goals subst h
 ·exact ⟨.bool (a==b),by
   rw [show (do eqGuard .eql T x y (.bool a) (.bool b);binOp .eql T (.bool a) (.bool b):Sem Value)=(do eqGuard .eql T x y (.bool a) (.bool b);pure (.bool (<- Op.equal T (.bool a) (.bool b)))) from rfl]
   simp [eqGuard,zhu hT],rfl⟩
 ·exact ⟨.bool !(a==b),by
   rw [show (do eqGuard .neq T x y (.bool a) (.bool b);binOp .neq T (.bool a) (.bool b):Sem Value)=(do eqGuard .neq T x y (.bool a) (.bool b);pure (.bool (!(<- Op.equal T (.bool a) (.bool b))))) from rfl]
   simp [eqGuard,zhu hT],rfl⟩
def cBin (P:Program) (st:St) (op:BinOp) (T:TypeId) (x y:Operand):Option Upd:=
 match binV op (zal (st.ev x)).1 (zal (st.ev y)).1 with
 | some (r,n)=>some ⟨(zal (st.ev x)).2++(zal (st.ev y)).2++n,r,[]⟩
 | none=>match binB P op T (zal (st.ev x)).1 (zal (st.ev y)).1 with
  | some r=>some ⟨(zal (st.ev x)).2++(zal (st.ev y)).2,r,[]⟩
  | none=>none
theorem zw2 (o:Oper) (op:BinOp) (T T2:TypeId) (x y:Operand) (ho:o.op = .binOp op T x y T2) {u:Upd} (hu:cBin P st op T x y=some u):Does P base X w0 st o u:=by
 unfold cBin at hu
 split at hu
 ·rename_i r n hb
  simp only [Option.some.injEq] at hu
  subst hu
  refine Does.pure fun E a w h hn=>?_
  have hx:=zae (h.ev x) (fun p hp=>hn p (by simp [hp]))
  have hy:=zae (h.ev y) (fun p hp=>hn p (by simp [hp]))
  obtain ⟨z,h1,h2⟩:=zw8 (P:=P) hb (fun p hp=>hn p (by simp [hp])) hx hy T x y
  exact ⟨z,by rw [execOp,ho];simp only [Sem.run_bind] at h1 ⊢;rw [h1];rfl,h2⟩
 ·split at hu
  case h_2=>simp at hu
  rename_i r hb
  simp only [Option.some.injEq] at hu
  subst hu
  refine Does.pure fun E a w h hn=>?_
  have hx:=zae (h.ev x) (fun p hp=>hn p (by simp [hp]))
  have hy:=zae (h.ev y) (fun p hp=>hn p (by simp [hp]))
  obtain ⟨z,h1,h2⟩:=zw9 (P:=P) hb hx hy x y
  exact ⟨z,by rw [execOp,ho];simp only [Sem.run_bind] at h1 ⊢;rw [h1];rfl,h2⟩
def cUn (st:St) (op:UnOp) (x:Operand):Option Upd:=
 match op,zal (st.ev x) with
 | .not,(.bool b,n)=>some ⟨n,.bool !b,[]⟩
 | .neg,(.int k m,n)=>some ⟨n,.int k (k.wrap (0-m)),[]⟩
 | _,_=>none
theorem zxJ (o:Oper) (op:UnOp) (T:TypeId) (x:Operand) (ho:o.op = .unOp op T x) {u:Upd} (hu:cUn st op x=some u):Does P base X w0 st o u:=by
 unfold cUn at hu
 split at hu
 case h_3=>simp at hu
 ·rename_i b n e
  simp only [Option.some.injEq] at hu
  subst hu
  refine Does.pure fun E a w h hn=>?_
  have hx:=zae (h.ev x) (fun p hp=>hn p (by rw [e] at hp;exact hp))
  rw [e] at hx
  have hx:a.eval x = .bool b:=hx
  exact ⟨.bool !b,by simp [execOp,ho,hx,Op.unary],rfl⟩
 ·rename_i k m n e
  simp only [Option.some.injEq] at hu
  subst hu
  refine Does.pure fun E a w h hn=>?_
  have hx:=zae (h.ev x) (fun p hp=>hn p (by rw [e] at hp;exact hp))
  rw [e] at hx
  obtain ⟨hx,_⟩:=hx
  exact ⟨.int k (k.wrap (0-m)),by simp [execOp,ho,hx,Op.unary,Op.intArith],rfl,wf_wrap _ _⟩
def lenV (st:St):SV->Option Nat
 | .sl _ r=>some r.len
 | .own t=>match st.m t with
  | .row _ _ r=>some r.len
  | _=>none
 | .nil=>some 0
 | _=>none
theorem zvx {E:Env} {a:Act} {w:World} (h:st.Ok base X w0 E a w) {s:SV} {n:Nat} (hl:lenV st s=some n) {v:Value} (hv:DenV E w s v):∃ ad c,v = .slice ad n c/\n<=9223372036854775807:=by
 cases s<;>simp only [lenV,reduceCtorEq] at hl
 case nil=>simp only [Option.some.injEq] at hl;subst hl;exact ⟨none,0,hv,by omega⟩
 case sl ls r=>
  simp only [Option.some.injEq] at hl
  subst hl
  obtain ⟨ad,c,e,hs⟩:=Rd.sl' hv
  have:=hs.bd
  rw [r.rows_len] at e this
  exact ⟨ad,c,e,by omega⟩
 case own t=>
  split at hl
  case h_2=>simp at hl
  rename_i T ls r hm
  simp only [Option.some.injEq] at hl
  subst hl
  obtain ⟨v',h1,h2⟩:=h.mem.row t _ _ _ hm
  have:=hv.1
  rw [h1] at this
  simp only [Option.some.injEq] at this
  subst this
  obtain ⟨ad,c,e⟩:=h2.form
  have:=h2.bd
  rw [r.rows_len] at e this
  exact ⟨ad,c,e,this⟩
def cLen (P:Program) (st:St) (T:TypeId) (x:Operand):Option Upd:=
 match zch P T with
 | some _=>match lenV st (zal (st.ev x)).1 with
  | some n=>some ⟨(zal (st.ev x)).2,.int .i64 n,[]⟩
  | none=>none
 | none=>match P.underlying T,zal (st.ev x) with
  | some .string,(.str s,n)=>some ⟨n,.int .i64 s.size,[]⟩
  | _,_=>none
theorem zoP {o:Oper} {x:Operand} {T:TypeId} (ho:o.op = .call {callee:= .builtin .len,args:= #[x],argTypes:= #[T]}) (a:Act) (w:World) {v:Value} (h:(Builtin.len_ #[T] o.type #[a.eval x]).run P w = .ok v w) :
  (execOp a.eval o).run P w = .ok (.value v) w:=by
 simp only [execOp,ho,resolve,invoke,builtin,Sem.run_bind,Sem.run_pure,Result.andThen,List.map_toArray,List.map_cons,List.map_nil,h]
theorem zwv (o:Oper) (T:TypeId) (x:Operand) (ho:o.op = .call {callee:= .builtin .len,args:= #[x],argTypes:= #[T]}) {u:Upd} (hu:cLen P st T x=some u):Does P base X w0 st o u:=by
 unfold cLen at hu
 split at hu
 ·rename_i e he
  split at hu
  case h_2=>simp at hu
  rename_i n hl
  simp only [Option.some.injEq] at hu
  subst hu
  refine Does.pure fun E a w h hn=>?_
  obtain ⟨ad,c,hv,hb⟩:=zvx h hl (zae (h.ev x) hn)
  exact ⟨.int .i64 n,zoP ho a w (by simp [Builtin.len_,run_underlying (za5 he),hv,goInt]),rfl,zcF ⟨by omega,by omega⟩⟩
 ·split at hu
  case h_2=>simp at hu
  rename_i s n hT e
  simp only [Option.some.injEq] at hu
  subst hu
  refine Does.pure fun E a w h hn=>?_
  have hx:=zae (h.ev x) (fun p hp=>hn p (by rw [e] at hp;exact hp))
  rw [e] at hx
  obtain ⟨hx,hb⟩:=hx
  exact ⟨.int .i64 s.size,zoP ho a w (by simp [Builtin.len_,run_underlying hT,hx,goInt]),rfl,zcF ⟨by omega,by omega⟩⟩
end ops
end Go.Proofs.YtkhphiahindnnaaGreat
namespace Go.Proofs.YtkhphiahindnnaaGreat
open Go.RowKit Go.ChangeShapes Go.WideShapes Go.Deep
def FnB (P : Program) (f : FuncId) : Prop := ∃ fn, P.funcs[f]? = some fn ∧ fn.name ≠ "runtime.NumGoroutine" ∧ fn.body.isSome = true
def zgZ (P:Program) (C:Cfg):Prop:=∀ c f st svs u,C.orc c f st svs=some u->FnB P f/\∀ base X w0 E w vals,MemOk base X w0 E st.m w->DenL E w svs vals->(∀ p∈u.needs,p) ->
 Calls P f vals.toArray w (fun e w'=>∃ v E',e = .returned v/\E.Le E'/\Same E.lab w w'/\DenV E' w' u.val v/\MemOk base X w0 E' (putF u.mem st.m) w')
section ops
variable {P : Program} {base : Nat} {X : Cx} {w0 : World} {st : St}
def evL (st:St):List Operand->List SV×List Prop
 | []=>([],[])
 | x::r=>((zal (st.ev x)).1::(evL st r).1,(zal (st.ev x)).2++(evL st r).2)
theorem zmF {E:Env} {a:Act} {w:World} (h:st.Ok base X w0 E a w):∀ (xs:List Operand),(∀ p∈(evL st xs).2,p)->DenL E w (evL st xs).1 (xs.map a.eval)
 | [],_=>trivial
 | x::r,hn=>⟨zae (h.ev x) (fun p hp=>hn p (List.mem_append_left _ hp)),zmF h r (fun p hp=>hn p (List.mem_append_right _ hp))⟩
def cFun (C:Cfg) (c:Nat) (st:St) (f:FuncId) (xs:List Operand):Option Upd:=
 match C.orc c f st (evL st xs).1 with
 | some u=>some ⟨(evL st xs).2++u.needs,u.val,u.mem⟩
 | none=>none
theorem zf5 {f:FuncId} (h:FnB P f) (args:Array Value) (w:World):(callFunc f args).run P w = .ok (.enter f args) w:=by
 obtain ⟨fn,h1,h2,h3⟩:=h
 obtain ⟨cd,h4⟩:=Option.isSome_iff_exists.1 h3
 simp [callFunc,h1,h2,h4]
theorem zww {C:Cfg} (hC:zgZ P C) (o:Oper) (c:Nat) (f:FuncId) (xs:Array Operand) (ts:Array TypeId) (ho:o.op = .call {callee:= .value (.func f),args:=xs,argTypes:=ts}) {u:Upd} (hu:cFun C c st f xs.toList=some u):Does P base X w0 st o u:=by
 unfold cFun at hu
 split at hu
 case h_2=>simp at hu
 rename_i u2 hc
 simp only [Option.some.injEq] at hu
 subst hu
 obtain ⟨hf,hcall⟩:=hC _ _ _ _ _ hc
 intro E a w K Q h hn hK
 have hd:=zmF h xs.toList (fun p hp=>hn p (List.mem_append_left _ hp))
 have hrun:(execOp a.eval o).run P w = .ok (.enter f (xs.toList.map a.eval).toArray) w:=by
  have e:xs.map a.eval=(xs.toList.map a.eval).toArray:=by rw [<- Array.toList_map]
  simp only [execOp,ho,resolve,Act.eval,Deferred.ofValue,Sem.run_bind,Sem.run_pure,Result.andThen,invoke,e]
  simp [zf5 hf]
 unfold Oper.wp
 rw [hrun]
 refine Calls.mono (hcall base X w0 E w _ h.mem hd (fun p hp=>hn p (List.mem_append_right _ hp))) ?_
 rintro e w' ⟨v,E',rfl,h1,h2,h3,h4⟩
 exact hK E' w' v h1 h2 h3 h4
def SV.cap:SV->Bool
 | .rp .. => true
 | s=>s.flat
def cClo (C:Cfg) (c:Nat) (st:St) (x:Operand) (xs:List Operand):Option Upd:=
 match zal (st.ev x) with
 | (.fn f,n)=>match C.orc c f st (evL st xs).1 with
  | some u=>some ⟨n++((evL st xs).2++u.needs),u.val,u.mem⟩
  | none=>none
 | (.clo f cs,n)=>if cs.all SV.cap=true then (match C.orc c f st ((evL st xs).1++cs) with
  | some u=>some ⟨n++((evL st xs).2++u.needs),u.val,u.mem⟩
  | none=>none) else none
 | _=>none
theorem zw0 {C:Cfg} (hC:zgZ P C) (o:Oper) (c:Nat) (x:Operand) (xs:Array Operand) (ts:Array TypeId) (ho:o.op = .call {callee:= .value x,args:=xs,argTypes:=ts}) {u:Upd} (hu:cClo C c st x xs.toList=some u):Does P base X w0 st o u:=by
 have key:∀ (f:FuncId) (cs:List SV) (u2:Upd) (n:List Prop),C.orc c f st ((evL st xs.toList).1++cs)=some u2->(∀ (E:Env) (a:Act) (w:World),st.Ok base X w0 E a w->(∀ p∈n,p)->∃ vs:List Value,a.eval x = .func (.func f) #[] vs.toArray/\DenL E w cs vs) ->
   Does P base X w0 st o ⟨n++((evL st xs.toList).2++u2.needs),u2.val,u2.mem⟩:=by
  intro f cs u2 n hc hx
  obtain ⟨hf,hcall⟩:=hC _ _ _ _ _ hc
  intro E a w K Q h hn hK
  have hd:=zmF h xs.toList (fun p hp=>hn p (List.mem_append_right _ (List.mem_append_left _ hp)))
  obtain ⟨vs,hv,hcs⟩:=hx E a w h (fun p hp=>hn p (List.mem_append_left _ hp))
  have hrun:(execOp a.eval o).run P w = .ok (.enter f (xs.toList.map a.eval++vs).toArray) w:=by
   have e:xs.map a.eval=(xs.toList.map a.eval).toArray:=by rw [<- Array.toList_map]
   simp only [execOp,ho,resolve,hv,Deferred.ofValue,Sem.run_bind,Sem.run_pure,Result.andThen,invoke,e]
   simp [zf5 hf]
  unfold Oper.wp
  rw [hrun]
  refine Calls.mono (hcall base X w0 E w _ h.mem (DenL.app hd hcs) (fun p hp=>hn p (List.mem_append_right _ (List.mem_append_right _ hp)))) ?_
  rintro e w' ⟨v,E',rfl,h1,h2,h3,h4⟩
  exact hK E' w' v h1 h2 h3 h4
 unfold cClo at hu
 split at hu
 ·rename_i f n e
  split at hu
  case h_2=>simp at hu
  rename_i u2 hc
  simp only [Option.some.injEq] at hu
  subst hu
  refine key f [] u2 n (by rw [List.append_nil];exact hc) (fun E a w h hn=>?_)
  have:=zae (h.ev x) (fun p hp=>hn p (by rw [e] at hp;exact hp))
  rw [e] at this
  exact ⟨[],this,trivial⟩
 ·rename_i f cs n e
  split at hu
  case isFalse=>simp at hu
  split at hu
  case h_2=>simp at hu
  rename_i hfl _ u2 hc
  simp only [Option.some.injEq] at hu
  subst hu
  refine key f cs u2 n hc (fun E a w h hn=>?_)
  have:=zae (h.ev x) (fun p hp=>hn p (by rw [e] at hp;exact hp))
  rw [e] at this
  exact this
 ·simp at hu
def zor (P:Program) (st:St) (src dst:TypeId) (x:Operand):Option Upd:=
 match P.underlying src,P.underlying dst,zal (st.ev x) with
 | some (.int _),some (.int k),(.int _ m,n)=>some ⟨n,.int k (k.wrap m),[]⟩
 | some .string,some .string,(.str s,n)=>some ⟨n,.str s,[]⟩
 | _,_,_=>none
theorem ztQ (o:Oper) (src dst:TypeId) (x:Operand) (ho:o.op = .convert src dst x) {u:Upd} (hu:zor P st src dst x=some u):Does P base X w0 st o u:=by
 unfold zor at hu
 split at hu
 case h_3=>simp at hu
 ·rename_i k1 k k2 m n h1 h2 e
  simp only [Option.some.injEq] at hu
  subst hu
  refine Does.pure fun E a w h hn=>?_
  have hx:=zae (h.ev x) (fun p hp=>hn p (by rw [e] at hp;exact hp))
  rw [e] at hx
  obtain ⟨hx,_⟩:=hx
  exact ⟨.int k (k.wrap m),by simp [execOp,ho,hx,convert,run_underlying h1,run_underlying h2,Conv.intToInt],rfl,wf_wrap _ _⟩
 ·rename_i s n h1 h2 e
  simp only [Option.some.injEq] at hu
  subst hu
  refine Does.pure fun E a w h hn=>?_
  have hx:=zae (h.ev x) (fun p hp=>hn p (by rw [e] at hp;exact hp))
  rw [e] at hx
  obtain ⟨hx,hb⟩:=hx
  exact ⟨.string s,by simp [execOp,ho,hx,convert,run_underlying h1,run_underlying h2],rfl,hb⟩
def cNil (st:St) (x:Operand):Option Upd:=
 match zal (st.ev x) with
 | (.ptr t off,n)=>some ⟨n,.ptr t off,[]⟩
 | (.el ls r i off,n)=>some ⟨n,.el ls r i off,[]⟩
 | (.oel t sz i off,n)=>some ⟨n,.oel t sz i off,[]⟩
 | (.rp ls T cs off,n)=>some ⟨n,.rp ls T cs off,[]⟩
 | _=>none
theorem zwq (o:Oper) (x:Operand) (ho:o.op = .nilCheck x) {u:Upd} (hu:cNil st x=some u):Does P base X w0 st o u:=by
 unfold cNil at hu
 split at hu
 case h_5=>simp at hu
 all_goals
  rename_i e
  simp only [Option.some.injEq] at hu
  subst hu
  refine Does.pure fun E a w h hn=>?_
  have hx:=zae (h.ev x) (fun p hp=>hn p (by rw [e] at hp;exact hp))
  rw [e] at hx
  have hp:∃ ad,a.eval x = .pointer (some ad):=by
   first
    | (obtain ⟨b,_,e2⟩:=hx;exact ⟨_,e2⟩)
    | (obtain ⟨_,b,o2,c2,e2,_⟩:=hx;exact ⟨_,e2⟩)
    | (obtain ⟨b,oo,k,c2,_,e2⟩:=hx;exact ⟨_,e2⟩)
    | (obtain ⟨b,xs,e2,_⟩:=hx;exact ⟨_,e2⟩)
  obtain ⟨ad,e2⟩:=hp
  refine ⟨a.eval x,?_,hx⟩
  simp [execOp,ho,e2]
def core (P:Program) (C:Cfg) (more:Nat->St->TypeId->Op->Option Upd) (c:Nat) (st:St) (ty:TypeId):Op->Option Upd
 | .move x=>some (zlI st x)
 | .assign x=>some (zlI st x)
 | .pick a x y=>ztB st a x y
 | .box T x=>cBox st c T x
 | .alloc T=>znd P st c T
 | .build T ps=>znc P st T ps
 | .load T x=>ztG P st T x
 | .store T x y=>match zhW P st T x y with
  | some u=>some u
  | none=>more c st ty (.store T x y)
 | .fieldAddr T x f=>zbD P st T x f
 | .field T x f=>znb P st T x f
 | .indexAddr T x i=>zed P st T x i
 | .extract x i=>zfW st x i
 | .binOp op T x y T2=>match cBin P st op T x y with
  | some u=>some u
  | none=>more c st ty (.binOp op T x y T2)
 | .unOp op _ x=>cUn st op x
 | .convert s d x=>match zor P st s d x with
  | some u=>some u
  | none=>more c st ty (.convert s d x)
 | .nilCheck x=>cNil st x
 | .call ⟨.value (.func f),xs,ts⟩=>cFun C c st f xs.toList
 | .call ⟨.value (.tmp t),xs,ts⟩=>cClo C c st (.tmp t) xs.toList
 | .call ⟨.builtin .len,⟨[x]⟩,⟨[T]⟩⟩=>cLen P st T x
 | op=>more c st ty op
def zff (P:Program) (more:Nat->St->TypeId->Op->Option Upd):Prop:=∀ c st (o:Oper) u base X w0,more c st o.type o.op=some u->Does P base X w0 st o u
theorem zwi {C:Cfg} (hC:zgZ P C) {more:Nat->St->TypeId->Op->Option Upd} (hM:zff P more) (o:Oper) (c:Nat) {u:Upd} (hu:core P C more c st o.type o.op=some u):Does P base X w0 st o u:=by
 generalize ho:o.op=op at hu
 unfold core at hu
 split at hu
 ·simp only [Option.some.injEq] at hu;subst hu;exact zna o _ (.inl ho)
 ·simp only [Option.some.injEq] at hu;subst hu;exact zna o _ (.inr ho)
 ·exact ztA o _ _ _ ho hu
 ·exact zw1 o c _ _ ho hu
 ·exact zrx o c _ ho hu
 ·exact zrw o _ _ ho hu
 ·exact ztF o _ _ ho hu
 ·split at hu
  ·rename_i h2;simp only [Option.some.injEq] at hu;subst hu;exact zrt o _ _ _ ho h2
  ·exact hM c st o u base X w0 (by rw [ho];exact hu)
 ·exact zjd o _ _ _ ho hu
 ·exact zru o _ _ _ ho hu
 ·exact zjc o _ _ _ ho hu
 ·exact zlJ o _ _ ho hu
 ·split at hu
  ·rename_i h2;simp only [Option.some.injEq] at hu;subst hu;exact zw2 o _ _ _ _ _ ho h2
  ·exact hM c st o u base X w0 (by rw [ho];exact hu)
 ·exact zxJ o _ _ _ ho hu
 ·split at hu
  ·rename_i h2;simp only [Option.some.injEq] at hu;subst hu;exact ztQ o _ _ _ ho h2
  ·exact hM c st o u base X w0 (by rw [ho];exact hu)
 ·exact zwq o _ ho hu
 ·exact zww hC o c _ _ _ ho hu
 ·exact zw0 hC o c _ _ _ ho hu
 ·exact zwv o _ _ ho hu
 ·exact hM c st o u base X w0 (by rw [ho];exact hu)
def zcc:Op->Bool
 | .move _=>true
 | .assign _=>true
 | .nilCheck _=>true
 | .fieldAddr _ _ _=>true
 | _=>false
def zeh (P:Program) (C:Cfg) (more:Nat->St->TypeId->Op->Option Upd) (c:Nat) (st:St) (ty:TypeId) (op:Op):Option Upd:=
 match core P C more c st ty op with
 | some u=>some u
 | none=>bif zcc op then none else more c st ty op
theorem zmA {C:Cfg} (hC:zgZ P C) {more:Nat->St->TypeId->Op->Option Upd} (hM:zff P more) (o:Oper) (c:Nat) {u:Upd} (hu:zeh P C more c st o.type o.op=some u):Does P base X w0 st o u:=by
 unfold zeh at hu
 split at hu
 ·rename_i h;simp only [Option.some.injEq] at hu;subst hu;exact zwi hC hM o c h
 ·cases hm:zcc o.op
  ·rw [hm] at hu;exact hM c st o u base X w0 hu
  ·rw [hm] at hu;cases hu
theorem MemOk.freeze1 {E:Env} {w:World} {m:Nat->BE} (h:MemOk base X w0 E m w) {t:Nat} (hl:(m t).live=true) (htnl:X.nl<=t) :
  ∃ E',E.Le E'/\(∀ b,Has E m t b->E'.σ t b)/\MemOk base X w0 E' (putF [(t,.dead)] m) w:=by
 have hm:∀ u,putF [(t,.dead)] m u=if u=t then .dead else m u:=fun u=>rfl
 have hne:m t ≠ .empty:=by intro e;rw [e] at hl;cases hl
 refine ⟨⟨E.β,fun i b=>E.σ i b\/(i=t/\Has E m t b),E.φ⟩,⟨fun _ _ x=>x,fun _ _ x=> .inl x⟩,fun b hb=> .inr ⟨rfl,hb⟩,?_⟩
 have hhas:∀ u b,Has (⟨E.β,fun i b=>E.σ i b\/(i=t/\Has E m t b),E.φ⟩:Env) (putF [(t,.dead)] m) u b->Has E m u b/\u≠t:=by
  intro u b ⟨g1,g2⟩
  rw [hm] at g1 g2
  by_cases hu:u=t
  ·rw [if_pos hu] at g1;cases g1
  ·rw [if_neg hu] at g1 g2;exact ⟨⟨g1,g2⟩,hu⟩
 refine h.go ⟨fun _ _ x=>x,fun _ _ x=> .inl x⟩ Same.rfl' (fun u=>u=t) (fun u hu=>⟨by rw [hm,if_neg hu],rfl,rfl⟩)
  (fun u hu he b hb=>hb.elim ((h.empty u he).2 b) (fun g=>hu g.1)) (fun _ _ _ _=>rfl) (fun u hu=>?_) (fun i b hb=>?_) (fun i j b hi hj=>?_) (fun u b hb=>?_) (fun i b hi hb=>?_) (fun u v b h1 h2=>?_) (BelowX.refl _ _ _)
 ·have:putF [(t,.dead)] m u = .dead:=by rw [hm,if_pos hu]
  rw [this]
  exact ⟨by simp,fun g=>by cases g⟩
 ·rcases hb with hb | ⟨rfl,hb⟩
  ·exact h.lab i b hb
  ·exact ⟨h.lt hb,fun _=>(h.sep i b hb).2⟩
 ·rcases hi with hi | ⟨rfl,hi⟩<;>rcases hj with hj | ⟨rfl,hj⟩
  ·exact h.dis i j b hi hj
  ·exact absurd ⟨i,hi⟩ (h.sep j b hj).1
  ·exact absurd ⟨j,hj⟩ (h.sep i b hi).1
  ·rfl
 ·obtain ⟨h1,h2⟩:=hhas u b hb
  refine ⟨fun ⟨i,hi⟩=>?_,(h.sep u b h1).2⟩
  rcases hi with hi | ⟨rfl,hi⟩
  ·exact (h.sep u b h1).1 ⟨i,hi⟩
  ·exact h2 (h.inj u i b h1 hi)
 ·rcases hb with hb | ⟨rfl,hb⟩
  ·exact h.old i b hi hb
  ·omega
 ·exact h.inj u v b (hhas u b h1).1 (hhas v b h2).1
theorem MemOk.freezeL {E:Env} {w:World} {m:Nat->BE} (h:MemOk base X w0 E m w) {t c:Nat} (hl:(m t).live=true) (hc:m c = .empty) :
  ∃ E',E.Le E'/\(∀ b,Has E m t b->E'.σ c b)/\MemOk base X w0 E' (putF [(t,.dead),(c,.dead)] m) w:=by
 have htc:t≠c:=by intro e;subst e;rw [hc] at hl;cases hl
 have hcnl:X.nl<=c:=by
  rcases Nat.lt_or_ge c X.nl with hlt | hge
  ·exact absurd hc (h.low c hlt)
  ·exact hge
 have hnc:∀ b,¬ E.σ c b:=(h.empty c hc).2
 have hm:∀ u,putF [(t,.dead),(c,.dead)] m u=if u=t then .dead else if u=c then .dead else m u:=fun u=>rfl
 refine ⟨⟨E.β,fun i b=>E.σ i b\/(i=c/\Has E m t b),E.φ⟩,⟨fun _ _ x=>x,fun _ _ x=> .inl x⟩,fun b hb=> .inr ⟨rfl,hb⟩,?_⟩
 have hhas:∀ u b,Has (⟨E.β,fun i b=>E.σ i b\/(i=c/\Has E m t b),E.φ⟩:Env) (putF [(t,.dead),(c,.dead)] m) u b->Has E m u b/\u≠t:=by
  intro u b ⟨g1,g2⟩
  rw [hm] at g1 g2
  by_cases hu:u=t
  ·rw [if_pos hu] at g1;cases g1
  ·rw [if_neg hu] at g1 g2
   by_cases hu2:u=c
   ·rw [if_pos hu2] at g1;cases g1
   ·rw [if_neg hu2] at g1 g2;exact ⟨⟨g1,g2⟩,hu⟩
 refine h.go ⟨fun _ _ x=>x,fun _ _ x=> .inl x⟩ Same.rfl' (fun u=>u=t\/u=c) (fun u hu=>⟨by rw [hm,if_neg (fun e=>hu (.inl e)),if_neg (fun e=>hu (.inr e))],rfl,rfl⟩)
  (fun u hu he b hb=>hb.elim ((h.empty u he).2 b) (fun g=>hu (.inr g.1))) (fun _ _ _ _=>rfl) (fun u hu=>?_) (fun i b hb=>?_) (fun i j b hi hj=>?_) (fun u b hb=>?_) (fun i b hi hb=>?_) (fun u v b h1 h2=>?_) (BelowX.refl _ _ _)
 ·have:putF [(t,.dead),(c,.dead)] m u = .dead:=by
   rw [hm]
   rcases hu with rfl | rfl
   ·rw [if_pos rfl]
   ·split<;>simp
  rw [this]
  exact ⟨by simp,fun g=>by cases g⟩
 ·rcases hb with hb | ⟨rfl,hb⟩
  ·exact h.lab i b hb
  ·exact ⟨h.lt hb,fun _=>(h.sep t b hb).2⟩
 ·rcases hi with hi | ⟨rfl,hi⟩<;>rcases hj with hj | ⟨rfl,hj⟩
  ·exact h.dis i j b hi hj
  ·exact absurd ⟨i,hi⟩ (h.sep t b hj).1
  ·exact absurd ⟨j,hj⟩ (h.sep t b hi).1
  ·rfl
 ·obtain ⟨g1,g2⟩:=hhas u b hb
  refine ⟨fun ⟨i,hi⟩=>?_,(h.sep u b g1).2⟩
  rcases hi with hi | ⟨_,hi⟩
  ·exact (h.sep u b g1).1 ⟨i,hi⟩
  ·exact g2 (h.inj u t b g1 hi)
 ·rcases hb with hb | ⟨rfl,_⟩
  ·exact h.old i b hi hb
  ·omega
 ·exact h.inj u v b (hhas u b h1).1 (hhas v b h2).1
def lbF (t:Nat):Nat:=t+100000
def frz0 (st:St):SV->SV
 | .own t=>match st.m t with
  | .row _ ls r=> .sl (lbF t::ls) r
  | _=> .own t
 | s=>s
def zdJ (st:St):SV->List Nat
 | .own t=>match st.m t with
  | .row _ _ _=>[t]
  | _=>[]
 | _=>[]
def frz1 (st:St):SV->SV
 | .agg vs=> .agg (vs.map (frz0 st))
 | .own t=>frz0 st (.own t)
 | s=>s
def zfu (st:St):SV->List Nat
 | .agg vs=>vs.flatMap (zdJ st)
 | .own t=>zdJ st (.own t)
 | _=>[]
def ze9:List Operand->List Nat
 | []=>[]
 | .tmp t::r=>t::ze9 r
 | _::r=>ze9 r
def znB:List Nat->Bool
 | []=>true
 | a::r=>!r.contains a&&znB r
def zcT (st:St) (xs:List Operand):List Nat:=(ze9 xs).flatMap fun i=>zfu st (st.s i)
def frzN (st:St):List Nat->List Prop
 | []=>[]
 | t::ts=>match st.m t with
  | .row _ _ r=>(r.len<=17592186044416)::frzN st ts
  | _=>frzN st ts
theorem zmB {st:St} {t:Nat} {T:TypeId} {ls:List Nat} {r:RL} (hm:st.m t = .row T ls r):∀ {ts:List Nat},t∈ts->(r.len<=17592186044416)∈frzN st ts
 | u::ts,h=>by
  unfold frzN
  rcases List.mem_cons.1 h with rfl | h
  ·rw [hm];exact List.mem_cons_self ..
  ·have:=zmB hm h
   split
   ·exact List.mem_cons_of_mem _ this
   ·exact this
def ze3:List Nat->List (Nat×BE)
 | []=>[]
 | t::r=>(t,.dead)::(lbF t,.dead)::ze3 r
def zdu (st:St) (xs:List Operand):St:={st with tm:=(ze9 xs).map (fun i=>(i,frz1 st (st.s i)))++st.tm,mm:=ze3 (zcT st xs)++st.mm}
def full (P:Program) (C:Cfg) (more:Nat->St->TypeId->Op->Option Upd) (c:Nat) (st:St) (ty:TypeId) (op:Op):Option Upd:=
 match zeh P C more c st ty op with
 | some u=>some u
 | none=>bif zcc op then none else (match zcT st op.operands.toList with
  | []=>none
  | t::ts=>bif (t::ts).all (fun t=>st.free (lbF t))&&znB (t::ts) then (match zeh P C more c (zdu st op.operands.toList) ty op with
   | some u=>some ⟨frzN st (t::ts)++u.needs,u.val,u.mem++ze3 (t::ts)⟩
   | none=>none) else none)
theorem zcz {s:SV} {t:Nat} (h:t∈zdJ st s):s = .own t/\∃ T ls r,st.m t = .row T ls r/\frz0 st s = .sl (lbF t::ls) r:=by
 unfold zdJ at h
 split at h
 case h_2=>simp at h
 rename_i t2
 split at h
 case h_2=>simp at h
 rename_i T ls r hm
 rw [List.mem_singleton] at h
 subst h
 refine ⟨rfl,T,ls,r,hm,?_⟩
 simp only [frz0,hm]
theorem zqn {s:SV} (h:zdJ st s=[]):frz0 st s=s:=by
 unfold zdJ at h
 unfold frz0
 split
 ·rename_i t
  simp only at h
  split
  ·rename_i T ls r hm
   rw [hm] at h
   simp at h
  ·rfl
 ·rfl
theorem zfv (st:St) (s:SV):frz0 st s=s\/∃ t,t∈zdJ st s:=by
 cases h:zdJ st s with
 | nil=>exact .inl (zqn h)
 | cons t r=>exact .inr ⟨t,List.mem_cons_self ..⟩
theorem zd5:∀ (l:List Nat) (m:Nat->BE) (t:Nat),t∉l->(∀ u,u∈l->t≠lbF u)->putF (ze3 l) m t=m t
 | [],m,t,_,_=>rfl
 | a::l,m,t,h,h2=>by
  have h1:t≠a:=fun e=>h (by rw [e];exact List.mem_cons_self ..)
  have h3:=h2 a (List.mem_cons_self ..)
  show (if t=a then _ else if t=lbF a then _ else putF (ze3 l) m t)=_
  rw [if_neg h1,if_neg h3,zd5 l m t (fun e=>h (List.mem_cons_of_mem _ e)) (fun u hu=>h2 u (List.mem_cons_of_mem _ hu))]
theorem zqq {E:Env} {w:World}:∀ (ts:List Nat) (m:Nat->BE),MemOk base X w0 E m w->znB ts=true->(∀ t,t∈ts->(∃ T ls r,m t = .row T ls r)/\m (lbF t) = .empty) ->
  ∃ E',E.Le E'/\(∀ t b,t∈ts->Has E m t b->E'.σ (lbF t) b)/\MemOk base X w0 E' (putF (ze3 ts) m) w
 | [],m,h,_,_=>⟨E,Env.Le.refl E,fun t b ht=>(by cases ht),h⟩
 | t::ts,m,h,hd,hl=>by
  simp only [znB,Bool.and_eq_true,Bool.not_eq_true',List.contains_eq_mem,decide_eq_false_iff_not] at hd
  obtain ⟨E1,h1,h2,h3⟩:=zqq ts m h hd.2 (fun u hu=>hl u (List.mem_cons_of_mem _ hu))
  obtain ⟨⟨T,ls,r,hm⟩,he⟩:=hl t (List.mem_cons_self ..)
  have hk:=zd5 ts m t hd.1 (fun u hu e=>by
   have:=(hl u (List.mem_cons_of_mem _ hu)).2
   rw [<- e,hm] at this
   cases this)
  rw [hm] at hk
  have hk2:=zd5 ts m (lbF t) (fun hu=>by
   obtain ⟨_,_,_,h5⟩:=(hl _ (List.mem_cons_of_mem _ hu)).1
   rw [he] at h5
   cases h5) (fun u hu e=>by
   have:t=u:=by unfold lbF at e;omega
   exact hd.1 (this▸hu))
  rw [he] at hk2
  obtain ⟨E2,g1,g2,g3⟩:=h3.freezeL (t:=t) (c:=lbF t) (by rw [hk];rfl) hk2
  refine ⟨E2,h1.trans g1,fun u b hu hb=>?_,g3⟩
  rcases List.mem_cons.1 hu with rfl | hu
  ·obtain ⟨q1,v,q2,q3⟩:=hb
   rw [hm] at q3
   exact g2 b (Has.row hk (h1.β _ _ q2) q3)
  ·exact g1.σ _ _ (h2 u b hu hb)
theorem zqo {E E':Env} {w:World} (h:MemOk base X w0 E st.m w) (hE:E.Le E') {s:SV} {v:Value} (hd:DenV E w s v) (hσ:∀ t b,t∈zdJ st s->Has E st.m t b->E'.σ (lbF t) b) (hn:∀ t,t∈zdJ st s->∀ T ls r,st.m t = .row T ls r->r.len<=17592186044416):DenV E' w (frz0 st s) v:=by
 rcases zfv st s with e | ⟨t,ht⟩
 ·rw [e];exact DenV.mono hE (Same.refl _ _) _ _ hd
 ·obtain ⟨rfl,T,ls,r,hm,e⟩:=zcz ht
  rw [e]
  obtain ⟨v',h1,h2⟩:=h.row t _ _ _ hm
  have:=hd.1
  rw [h1] at this
  simp only [Option.some.injEq] at this
  subst this
  have hb:∀ b,v'.ownBlock=some b->E'.σ (lbF t) b:=fun b hb=>by
   obtain ⟨ad,c,e2⟩:=h2.form
   refine hσ t b ht (Has.row hm h1 ?_)
   rw [<- zaN ⟨ad,_,c,e2⟩];exact hb
  obtain ⟨a,c,e3,hs⟩:=h2.slO (E'.set (lbF t::ls)) (fun b ⟨i,hi,hs⟩=>⟨i,List.mem_cons_of_mem _ hi,hE.σ _ _ hs⟩) (fun b _ hb'=>⟨lbF t,List.mem_cons_self ..,hb b hb'⟩) (by rw [r.rows_len];exact hn t ht _ _ _ hm)
  rw [e3]
  exact hs
theorem zqj {E E':Env} {w:World} (h:MemOk base X w0 E st.m w) (hE:E.Le E'):∀ {ss:List SV} {vs:List Value},DenL E w ss vs->(∀ t b,t∈ss.flatMap (zdJ st)->Has E st.m t b->E'.σ (lbF t) b)->(∀ t,t∈ss.flatMap (zdJ st)->∀ T ls r,st.m t = .row T ls r->r.len<=17592186044416)->DenL E' w (ss.map (frz0 st)) vs
 | [],[],_,_,_=>trivial
 | s::ss,v::vs,hd,h1,h2=>⟨zqo h hE hd.1 (fun t b ht=>h1 t b (List.mem_append_left _ ht)) (fun t ht=>h2 t (List.mem_append_left _ ht)),zqj h hE hd.2 (fun t b ht=>h1 t b (List.mem_append_right _ ht)) (fun t ht=>h2 t (List.mem_append_right _ ht))⟩
 | [],_::_,hd,_,_=>hd.elim
 | _::_,[],hd,_,_=>hd.elim
theorem zvD {E E':Env} {w:World} (h:MemOk base X w0 E st.m w) (hE:E.Le E') {s:SV} {v:Value} (hd:DenV E w s v) (hσ:∀ t b,t∈zfu st s->Has E st.m t b->E'.σ (lbF t) b) (hn:∀ t,t∈zfu st s->∀ T ls r,st.m t = .row T ls r->r.len<=17592186044416):DenV E' w (frz1 st s) v:=by
 cases s with
 | agg vs=>
  obtain ⟨xs,hv,hl⟩:=hd
  exact ⟨xs,hv,zqj h hE hl hσ hn⟩
 | own t=>exact zqo h hE hd hσ hn
 | _=>exact DenV.mono hE (Same.refl _ _) _ _ hd
theorem zjU {f:Nat->SV}:∀ (l:List Nat) (tm:List (Nat×SV)) (i:Nat),zaM .any (l.map (fun i=>(i,f i))++tm) i=if i∈l then f i else zaM .any tm i
 | [],tm,i=>by simp
 | a::l,tm,i=>by
  rw [List.map_cons,List.cons_append,zbz,zjU l tm i]
  by_cases h:i=a
  ·subst h;rw [if_pos rfl,if_pos (List.mem_cons_self ..)]
  ·rw [if_neg h]
   by_cases h2:i∈l
   ·rw [if_pos h2,if_pos (List.mem_cons_of_mem _ h2)]
   ·rw [if_neg h2,if_neg (by simp [h,h2])]
theorem zgB (st:St) (xs:List Operand):(zdu st xs).m=putF (ze3 (zcT st xs)) st.m:=by
 funext t
 show zaM .empty (_++st.mm) t=_
 rw [zgn]
 rfl
theorem ziD (st:St) (xs:List Operand) (i:Nat):(zdu st xs).s i=if i∈ze9 xs then frz1 st (st.s i) else st.s i:=zjU (f:=fun i=>frz1 st (st.s i)) (ze9 xs) st.tm i
theorem zqk {s:SV} {t:Nat} (h:t∈zfu st s):∃ T ls r,st.m t = .row T ls r:=by
 cases s with
 | agg vs=>
  obtain ⟨x,_,hx⟩:=List.mem_flatMap.1 h
  obtain ⟨_,T,ls,r,h2,_⟩:=zcz hx
  exact ⟨T,ls,r,h2⟩
 | own u=>
  obtain ⟨_,T,ls,r,h2,_⟩:=zcz (s:= .own u) h
  exact ⟨T,ls,r,h2⟩
 | _=>simp [zfu] at h
theorem ztb {E:Env} {a:Act} {w:World} (h:st.Ok base X w0 E a w) (xs:List Operand) (hf:(zcT st xs).all (fun t=>st.free (lbF t))=true) (hd:znB (zcT st xs)=true) (hn:∀ p∈frzN st (zcT st xs),p):∃ E',E.Le E'/\(zdu st xs).Ok base X w0 E' a w:=by
 have hrow:∀ t,t∈zcT st xs->∃ T ls r,st.m t = .row T ls r:=fun t ht=>by
  obtain ⟨i,_,hi⟩:=List.mem_flatMap.1 ht
  exact zqk hi
 obtain ⟨E',h1,h2,h3⟩:=zqq (zcT st xs) st.m h.mem hd (fun t ht=>⟨hrow t ht,St.of_free (List.all_eq_true.1 hf t ht)⟩)
 refine ⟨E',h1,h.defers,h.size,fun i=>?_,by rw [zgB];exact h3⟩
 rw [ziD]
 by_cases hi:i∈ze9 xs
 ·rw [if_pos hi]
  have hsub:∀ t,t∈zfu st (st.s i)->t∈zcT st xs:=fun t ht=>List.mem_flatMap.2 ⟨i,hi,ht⟩
  exact zvD h.mem h1 (h.tm i) (fun t b ht=>h2 t b (hsub t ht)) (fun t ht T ls r hm=>hn _ (zmB hm (hsub t ht)))
 ·rw [if_neg hi]
  exact DenV.mono h1 (Same.refl _ _) _ _ (h.tm i)
theorem zj9:∀ (a b:List (Nat×BE)) (m:Nat->BE),putF (a++b) m=putF a (putF b m)
 | [],b,m=>rfl
 | (t,e)::a,b,m=>by
  rw [List.cons_append,zd6,zd6,zj9 a b m]
theorem zg9 {C:Cfg} (hC:zgZ P C) {more:Nat->St->TypeId->Op->Option Upd} (hM:zff P more) (o:Oper) (c:Nat) {u:Upd} (hu:full P C more c st o.type o.op=some u):Does P base X w0 st o u:=by
 unfold full at hu
 split at hu
 ·rename_i h;simp only [Option.some.injEq] at hu;subst hu;exact zmA hC hM o c h
 cases hm:zcc o.op
 case true=>rw [hm] at hu;cases hu
 rw [hm,cond_false] at hu
 split at hu
 ·cases hu
 rename_i t ts hts
 cases hb:((t::ts).all (fun t=>st.free (lbF t))&&znB (t::ts))
 ·rw [hb] at hu;cases hu
 rw [hb,cond_true] at hu
 rw [Bool.and_eq_true] at hb
 split at hu
 case h_2=>cases hu
 rename_i u2 h2
 simp only [Option.some.injEq] at hu
 subst hu
 intro E a w K Q h hn hK
 obtain ⟨E1,h1,hok⟩:=ztb h o.op.operands.toList (by rw [hts];exact hb.1) (by rw [hts];exact hb.2) (fun p hp=>hn p (List.mem_append_left _ (by rw [hts] at hp;exact hp)))
 refine zmA hC hM o c h2 E1 a w K Q hok (fun p hp=>hn p (List.mem_append_right _ hp)) (fun E' w' v g1 g2 g3 g4=>?_)
 refine hK E' w' v (h1.trans g1) (g2.mono fun b ⟨i,hi⟩=>⟨i,h1.σ _ _ hi⟩) g3 ?_
 rw [zgB,hts] at g4
 show MemOk base X w0 E' (putF (u2.mem++_) st.m) w'
 rw [zj9]
 exact g4
def zhD (ops:Array Oper) (st:St) (j:Nat) (pol:Bool):Option Bool:=
 match (ops[j]?).bind (·.dst) with
 | some t=>match st.s t with
  | .bool b=>match pol with
   | true=>some b
   | false=>some (!b)
  | .gd g (.bool b)=>match pol with
   | true=>some (g&&b)
   | false=>some (g&&!b)
  | _=>none
 | none=>none
theorem zeW {ops:Array Oper} {E:Env} {a:Act} {w:World} (h:st.Ok base X w0 E a w) {o:Oper} {j:Nat} {pol G:Bool} (hg:o.guard=some (j,pol)) (hG:zhD ops st j pol=some G):Region.wanted o (yielded ops a.tmps)=G:=by
 unfold zhD at hG
 split at hG
 case h_2=>simp at hG
 rename_i t ht
 have hd:=h.tm t
 simp only [Region.wanted,hg,yielded,ht]
 have hsome:∀ b,a.tmps.getD t undef = .bool b->a.tmps[t]? = some (.bool b):=by
  intro b hb
  rw [Array.getD_eq_getD_getElem?] at hb
  cases hq:a.tmps[t]? with
  | none=>rw [hq] at hb;simp [undef] at hb
  | some x=>rw [hq] at hb;simpa using hb
 split at hG
 case h_3=>simp at hG
 ·rename_i b e
  have hG:some (if pol then b else !b)=some G:=by cases pol<;>exact hG
  simp only [Option.some.injEq] at hG
  rw [e] at hd
  have:=hsome b hd
  simp only [Option.bind_some,this,<- hG]
  cases pol<;>cases b<;>rfl
 ·rename_i g b e
  have hG:some (g&&(if pol then b else !b))=some G:=by cases pol<;>exact hG
  simp only [Option.some.injEq] at hG
  rw [e] at hd
  cases g
  ·have hu:a.tmps.getD t undef=undef:=hd.2 rfl
   have:(a.tmps[t]? = none\/a.tmps[t]? = some undef):=by
    rw [Array.getD_eq_getD_getElem?] at hu
    cases hq:a.tmps[t]? with
    | none=>exact .inl rfl
    | some x=>rw [hq] at hu;right;simpa using hu
   rcases this with h1 | h1<;>simp [Option.bind_some,h1,<- hG,undef]
  ·have hb:a.tmps.getD t undef = .bool b:=hd.1 rfl
   have:=hsome b hb
   simp only [Option.bind_some,this,<- hG]
   cases pol<;>cases b<;>rfl
def zf2:List (Nat×BE)->Bool
 | []=>true
 | (_,.dead)::r=>zf2 r
 | _=>false
def zxs (c:Nat) (G fr:Bool) (u:Upd):Option Upd:=
 match u.val,u.mem with
 | .own t,[(t2,.row T ls r)]=>if fr=true/\t=c/\t2=c then some ⟨(G=true->r.len<=17592186044416)::u.needs.map (fun p=>G=true->p),.gd G (.sl (c::ls) r),[(c,.dead)]⟩ else none
 | _,_=>none
def wid:Op->Nat
 | .call ⟨.value _,_,_⟩=>24
 | _=>1
def zcI (l:List (Nat×BE)):List (Nat×BE):=l.map fun p=>(p.1,.dead)
theorem zcQ:∀ l:List (Nat×BE),zf2 (zcI l)=true
 | []=>rfl
 | (t,e)::r=>zcQ r
theorem zdF:∀ (l:List (Nat×BE)) (m:Nat->BE) (u:Nat),putF (zcI l) m u=if u∈l.map (·.1) then .dead else m u
 | [],m,u=>by simp [zcI,putF]
 | (t,e)::r,m,u=>by
  show (if u=t then BE.dead else putF (zcI r) m u)=_
  rw [zdF r m u]
  by_cases h:u=t
  ·subst h;rw [if_pos rfl,List.map_cons,if_pos (List.mem_cons_self ..)]
  ·rw [if_neg h,List.map_cons]
   by_cases g:u∈r.map (·.1)
   ·rw [if_pos g,if_pos (List.mem_cons_of_mem _ g)]
   ·rw [if_neg g,if_neg fun x=>by
     rcases List.mem_cons.1 x with x | x
     ·exact h x
     ·exact g x]
theorem zkW:∀ (l:List (Nat×BE)) (m:Nat->BE) (u:Nat),u∉l.map (·.1)->putF l m u=m u
 | [],m,u,_=>rfl
 | (t,e)::r,m,u,h=>by
  simp only [List.map_cons,List.mem_cons,not_or] at h
  show (if u=t then e else putF r m u)=m u
  rw [if_neg h.1,zkW r m u h.2]
theorem zmw:∀ (l:List (Nat×BE)) (m:Nat->BE) (u:Nat) (x:BE),zaM .empty l u=x->x ≠ .empty->putF l m u=x/\u∈l.map (·.1)
 | [],m,u,x,h,hx=>absurd h.symm hx
 | (t,e)::r,m,u,x,h,hx=>by
  rw [zbz] at h
  show (if u=t then e else putF r m u)=x/\_
  by_cases g:u=t
  ·rw [if_pos g] at h ⊢;exact ⟨h,by simp [g]⟩
  ·rw [if_neg g] at h ⊢
   have:=zmw r m u x h hx
   exact ⟨this.1,List.mem_cons_of_mem _ this.2⟩
def zuu (G:Bool) (fl:List Nat) (u:Upd):Option Upd:=
 match u.val with
 | .own t=>match fl.contains t,zaM .empty u.mem t with
  | true,.row T ls r=>some ⟨(G=true->r.len<=17592186044416)::u.needs.map (fun p=>G=true->p),.gd G (.sl (t::ls) r),zcI u.mem⟩
  | _,_=>none
 | v=>some ⟨u.needs.map (fun p=>G=true->p),.gd G v,zcI u.mem⟩
def orG (a b:Option Upd):Option Upd:=match a with
 | some u=>some u
 | none=>b
theorem zsD {a b:Option Upd} {u:Upd} (h:orG a b=some u):a=some u\/b=some u:=by
 cases a with
 | none=>exact .inr h
 | some x=>exact .inl h
def blkG:Nat->Nat->(Nat->Bool)->List Nat
 | 0,_,_=>[]
 | n+1,c,f=>if f c then c::blkG n (c+1) f else blkG n (c+1) f
theorem zlK:∀ {n c:Nat} {f:Nat->Bool} {t:Nat},t∈blkG n c f->f t=true
 | 0,_,_,_,h=>by cases h
 | n+1,c,f,t,h=>by
  unfold blkG at h
  split at h
  ·rename_i hf
   rcases List.mem_cons.1 h with h | h
   ·rw [h];exact hf
   ·exact zlK h
  ·exact zlK h
theorem zhY:∀ {n c:Nat} {f g:Nat->Bool},(∀ t,c<=t->t<c+n->f t=g t)->blkG n c f=blkG n c g
 | 0,_,_,_,_=>rfl
 | n+1,c,f,g,h=>by
  unfold blkG
  rw [h c (Nat.le_refl _) (by omega),zhY (n:=n) (c:=c+1) (f:=f) (g:=g) fun t h1 h2=>h t (by omega) (by omega)]
def zej (P:Program) (C:Cfg) (more:Nat->St->TypeId->Op->Option Upd) (ops:Array Oper) (c:Nat) (o:Oper) (st:St):Option Upd:=
 match o.guard with
 | none=>full P C more c st o.type o.op
 | some (j,pol)=>match zhD ops st j pol with
  | none=>none
  | some G=>match full P C more c st o.type o.op with
   | some u=>if zf2 u.mem then some ⟨u.needs.map (fun p=>G=true->p),.gd G u.val,u.mem⟩ else orG (zxs c G (st.free c) u) (zuu G (blkG (wid o.op) c st.free) u)
   | none=>none
theorem MemOk.deads {E:Env} {w:World}:∀ (l:List (Nat×BE)) (m:Nat->BE),zf2 l=true->MemOk base X w0 E m w->MemOk base X w0 E (putF l m) w
 | [],_,_,h=>h
 | (t,e)::r,m,hl,h=>by
  cases e<;>simp only [zf2,Bool.false_eq_true] at hl
  rw [zd6]
  exact (MemOk.deads r m hl h).kill t
theorem zjv {C:Cfg} (hC:zgZ P C) {more:Nat->St->TypeId->Op->Option Upd} (hM:zff P more) {ops:Array Oper} {c:Nat} {o:Oper} {u:Upd} (hu:zej P C more ops c o st=some u)
  {E:Env} {a:Act} {w:World} {K:Act->World->Prop} {Q:Exit->Act->World->Prop} (h:st.Ok base X w0 E a w) (hn:∀ p∈u.needs,p) (hK:∀ E' a' w',(st.app o.dst u).Ok base X w0 E' a' w'->K a' w') :
  if Region.wanted o (yielded ops a.tmps) then o.wp P a w K Q else K (a.put o.dst undef) w:=by
 unfold zej at hu
 split at hu
 ·rename_i hg
  rw [if_pos (by simp [Region.wanted,hg])]
  exact zg9 hC hM o c hu E a w K Q h hn (fun E' w' v h1 h2 h3 h4=>hK E' _ _ (h.next h1 h2 h3 h4))
 ·rename_i j pol hg
  split at hu
  case h_1=>simp at hu
  rename_i G hG
  split at hu
  case h_2=>simp at hu
  rename_i u2 hc
  split at hu
  case isFalse=>
   rcases zsD hu with hu | hu
   case inr=>
    have hkk:zcI u2.mem=zcI u2.mem:=rfl
    have hput:∀ m:Nat->BE,putF (zcI u2.mem) (putF u2.mem m)=putF (zcI u2.mem) m:=fun m=>by
     funext x
     rw [zdF,zdF]
     by_cases hx:x∈u2.mem.map (·.1)
     ·rw [if_pos hx,if_pos hx]
     ·rw [if_neg hx,if_neg hx,zkW _ _ _ hx]
    have plain:∀ s,u2.val=s->u=⟨u2.needs.map (fun p=>G=true->p),.gd G s,zcI u2.mem⟩->(if Region.wanted o (yielded ops a.tmps) then o.wp P a w K Q else K (a.put o.dst undef) w):=by
     intro s hs hu3
     subst hs
     subst hu3
     rw [zeW h hg hG]
     cases G
     ·rw [if_neg (by simp)]
      refine hK E _ _ (h.next (u:=⟨_,.gd false u2.val,zcI u2.mem⟩) (Env.Le.refl E) Same.rfl' (v:=undef) ⟨fun e=>(by cases e),fun _=>rfl⟩ ?_)
      exact h.mem.deads (zcI u2.mem) st.m (zcQ _)
     ·rw [if_pos rfl]
      refine zg9 hC hM o c hc E a w K Q h (fun p hp=>hn (true=true->p) (List.mem_map.2 ⟨p,hp,rfl⟩) rfl) (fun E' w' v h1 h2 h3 h4=>hK E' _ _ (h.next h1 h2 (u:=⟨_,.gd true u2.val,zcI u2.mem⟩) ⟨fun _=>h3,fun e=>(by cases e)⟩ ?_))
      have:=h4.deads (zcI u2.mem) _ (zcQ _)
      rwa [hput] at this
    unfold zuu at hu
    split at hu
    case h_2=>
     rename_i s hs
     exact plain _ rfl (Option.some.inj hu).symm
    rename_i t ev
    split at hu
    case h_2=>simp at hu
    rename_i T ls r hfl hlk
    simp only [Option.some.injEq] at hu
    subst hu
    have htf:st.free t=true:=by
     have hm:t∈blkG (wid o.op) c st.free:=by simpa using hfl
     exact zlK hm
    have hcE:st.m t = .empty:=St.of_free htf
    rw [zeW h hg hG]
    cases G
    ·rw [if_neg (by simp)]
     refine hK E _ _ (h.next (u:=⟨_,.gd false (.sl (t::ls) r),zcI u2.mem⟩) (Env.Le.refl E) Same.rfl' (v:=undef) ⟨fun e=>(by cases e),fun _=>rfl⟩ ?_)
     exact h.mem.deads (zcI u2.mem) st.m (zcQ _)
    ·rw [if_pos rfl]
     refine zg9 hC hM o c hc E a w K Q h (fun p hp=>hn (true=true->p) (List.mem_cons_of_mem _ (List.mem_map.2 ⟨p,hp,rfl⟩)) rfl) (fun E' w' v h1 h2 h3 h4=>?_)
     rw [ev] at h3
     obtain ⟨hrow,hkey⟩:=zmw u2.mem st.m t _ hlk (by simp)
     have hlive:(putF u2.mem st.m t).live=true:=by rw [hrow];rfl
     have htnl:X.nl<=t:=by
      rcases Nat.lt_or_ge t X.nl with hlt | hge
      ·exact absurd hcE (h.mem.low t hlt)
      ·exact hge
     obtain ⟨E2,hE2,hσ,hM2⟩:=h4.freeze1 hlive htnl
     have hM3:=hM2.deads (zcI u2.mem) _ (zcQ _)
     have e2:putF (zcI u2.mem) (putF [(t,.dead)] (putF u2.mem st.m))=putF (zcI u2.mem) st.m:=by
      funext x
      rw [zdF,zdF]
      by_cases hx:x∈u2.mem.map (·.1)
      ·rw [if_pos hx,if_pos hx]
      ·rw [if_neg hx,if_neg hx]
       have hxt:x≠t:=fun e=>hx (e▸hkey)
       show (if x=t then BE.dead else putF u2.mem st.m x)=st.m x
       rw [if_neg hxt,zkW _ _ _ hx]
     rw [e2] at hM3
     obtain ⟨v2,hβ,hO⟩:=h4.row t T ls r hrow
     have hx1:=h3.1
     rw [hβ] at hx1
     simp only [Option.some.injEq] at hx1
     subst hx1
     have g3:r.len<=17592186044416:=hn _ (List.mem_cons_self ..) rfl
     obtain ⟨ad,cc,hv,hsl⟩:=hO.slO (E2.set (t::ls)) (fun b ⟨i,hi,hs⟩=>⟨i,List.mem_cons_of_mem _ hi,hE2.σ i b hs⟩) (fun b _ hb=>⟨t,List.mem_cons_self ..,hσ b (Has.row hrow hβ (by
      obtain ⟨a5,c5,e5⟩:=hO.form
      rw [<- zaN ⟨a5,_,c5,e5⟩];exact hb))⟩) (by rw [r.rows_len];exact g3)
     refine hK E2 _ _ (h.next (h1.trans hE2) h2 (u:=⟨_,.gd true (.sl (t::ls) r),zcI u2.mem⟩) ⟨fun _=>?_,fun e=>(by cases e)⟩ hM3)
     rw [hv];exact hsl
   unfold zxs at hu
   split at hu
   case h_2=>simp at hu
   rename_i t t2 T ls r ev em
   split at hu
   case isFalse=>simp at hu
   rename_i hcond
   obtain ⟨hfr,rfl,rfl⟩:=hcond
   simp only [Option.some.injEq] at hu
   subst hu
   have hcE:st.m t2 = .empty:=St.of_free hfr
   rw [zeW h hg hG]
   cases G
   ·rw [if_neg (by simp)]
    refine hK E _ _ (h.next (u:=⟨_,.gd false (.sl (t2::ls) r),[(t2,.dead)]⟩) (Env.Le.refl E) Same.rfl' (v:=undef) ⟨fun e=>(by cases e),fun _=>rfl⟩ ?_)
    exact h.mem.deads [(t2,.dead)] st.m rfl
   ·rw [if_pos rfl]
    refine zg9 hC hM o t2 hc E a w K Q h (fun p hp=>hn (true=true->p) (List.mem_cons_of_mem _ (List.mem_map.2 ⟨p,hp,rfl⟩)) rfl) (fun E' w' v h1 h2 h3 h4=>?_)
    rw [em] at h4
    rw [ev] at h3
    have hrow:putF [(t2,.row T ls r)] st.m t2 = .row T ls r:=by show (if t2=t2 then _ else _)=_;rw [if_pos rfl]
    have hlive:(putF [(t2,.row T ls r)] st.m t2).live=true:=by rw [hrow];rfl
    have htnl:X.nl<=t2:=by
     rcases Nat.lt_or_ge t2 X.nl with hlt | hge
     ·exact absurd hcE (h.mem.low t2 hlt)
     ·exact hge
    obtain ⟨E2,hE2,hσ,hM2⟩:=h4.freeze1 hlive htnl
    have e2:putF [(t2,.dead)] (putF [(t2,.row T ls r)] st.m)=putF [(t2,.dead)] st.m:=by
     funext u
     show (if u=t2 then _ else if u=t2 then _ else _)=(if u=t2 then _ else _)
     by_cases hu:u=t2
     ·rw [if_pos hu,if_pos hu]
     ·rw [if_neg hu,if_neg hu,if_neg hu]
    rw [e2] at hM2
    obtain ⟨v2,hβ,hO⟩:=h4.row t2 T ls r hrow
    have hx1:=h3.1
    rw [hβ] at hx1
    simp only [Option.some.injEq] at hx1
    subst hx1
    have g3:r.len<=17592186044416:=hn _ (List.mem_cons_self ..) rfl
    obtain ⟨ad,cc,hv,hsl⟩:=hO.slO (E2.set (t2::ls)) (fun b ⟨i,hi,hs⟩=>⟨i,List.mem_cons_of_mem _ hi,hE2.σ i b hs⟩) (fun b _ hb=>⟨t2,List.mem_cons_self ..,hσ b (Has.row hrow hβ (by
     obtain ⟨a5,c5,e5⟩:=hO.form
     rw [<- zaN ⟨a5,_,c5,e5⟩];exact hb))⟩) (by rw [r.rows_len];exact g3)
    refine hK E2 _ _ (h.next (h1.trans hE2) h2 (u:=⟨_,.gd true (.sl (t2::ls) r),[(t2,.dead)]⟩) ⟨fun _=>?_,fun e=>(by cases e)⟩ hM2)
    rw [hv];exact hsl
  rename_i hd
  simp only [Option.some.injEq] at hu
  subst hu
  rw [zeW h hg hG]
  cases G
  ·rw [if_neg (by simp)]
   refine hK E _ _ (h.next (u:=⟨_,.gd false u2.val,u2.mem⟩) (Env.Le.refl E) Same.rfl' (v:=undef) ⟨fun e=>(by cases e),fun _=>rfl⟩ ?_)
   exact h.mem.deads u2.mem st.m hd
  ·rw [if_pos rfl]
   refine zg9 hC hM o c hc E a w K Q h (fun p hp=>hn (true=true->p) (List.mem_map.2 ⟨p,hp,rfl⟩) rfl) (fun E' w' v h1 h2 h3 h4=>hK E' _ _ (h.next h1 h2 (u:=⟨_,.gd true u2.val,u2.mem⟩) ⟨fun _=>h3,fun e=>(by cases e)⟩ h4))
inductive RO
 | ok (st:St) (n:List Prop)
 | bad (c:Nat) (o:Op) (st:St)
def zhv (P:Program) (C:Cfg) (more:Nat->St->TypeId->Op->Option Upd) (ops:Array Oper):Nat->List Oper->St->RO
 | _,[],st=> .ok st []
 | c,o::r,st=>match zej P C more ops c o st with
  | some u=>match zhv P C more ops (c+wid o.op) r (st.app o.dst u) with
   | .ok st2 n=> .ok st2 (u.needs++n)
   | .bad c o s=> .bad c o s
  | none=> .bad c o.op st
theorem zj2 {C:Cfg} (hC:zgZ P C) {more:Nat->St->TypeId->Op->Option Upd} (hM:zff P more) {ops:Array Oper} {Q:Exit->Act->World->Prop}:∀ (l:List Oper) (c:Nat) (st st2:St) (n:List Prop),zhv P C more ops c l st = .ok st2 n->(∀ p∈n,p) ->
  (∀ E' a' w',st2.Ok base X w0 E' a' w'->Q .normal a' w')->∀ (E:Env) (a:Act) (w:World),st.Ok base X w0 E a w->wpList P ops Q l a w
 | [],c,st,st2,n,hr,hn,hQ,E,a,w,h=>by
  simp only [zhv,RO.ok.injEq] at hr
  obtain ⟨rfl,rfl⟩:=hr
  exact wpList_nil (hQ E a w h)
 | o::l,c,st,st2,n,hr,hn,hQ,E,a,w,h=>by
  simp only [zhv] at hr
  split at hr
  case h_2=>simp at hr
  rename_i u hu
  split at hr
  case h_2=>simp at hr
  rename_i st3 n3 h3
  simp only [RO.ok.injEq] at hr
  obtain ⟨rfl,rfl⟩:=hr
  refine wpList_step fun K hK=>?_
  exact zjv hC hM hu h (fun p hp=>hn p (List.mem_append_left _ hp)) (fun E' a' w' h'=>hK a' w' (zj2 hC hM l (c+wid o.op) _ _ _ h3 (fun p hp=>hn p (List.mem_append_right _ hp)) hQ E' a' w' h'))
def St.grow (st:St) (n:Nat):St:={st with nx:=st.nx+n}
theorem St.Ok.grow {E:Env} {a:Act} {w:World} (h:st.Ok base X w0 E a w) (n:Nat):(st.grow n).Ok base X w0 E a w:=⟨h.defers,h.size,h.tm,h.mem⟩
def widS:List Oper->Nat
 | []=>0
 | o::r=>wid o.op+widS r
end ops
end Go.Proofs.YtkhphiahindnnaaGreat
namespace Go.Proofs.YtkhphiahindnnaaGreat
open Go.RowKit Go.ChangeShapes Go.WideShapes Go.Deep
inductive Key
 | t (n:Nat)
 | m (n:Nat)
 deriving DecidableEq
inductive KV
 | v (s:SV)
 | e (b:BE)
def St.get (st:St):Key->KV
 | .t n=> .v (st.s n)
 | .m n=> .e (st.m n)
def wrs (dst:Option Tmp) (u:Upd):List Key:=(match dst with | some d=>[Key.t d] | none=>[])++u.mem.map (fun p=>Key.m p.1)
def Key.has:List Key->Key->Bool
 | [],_=>false
 | .t a::r,.t b=>b==a||Key.has r (.t b)
 | .m a::r,.m b=>b==a||Key.has r (.m b)
 | _::r,k=>Key.has r k
theorem Key.has_iff:∀ (l:List Key) (k:Key),Key.has l k=true↔k∈l
 | [],k=>by simp [Key.has]
 | a::r,k=>by
  cases a<;>cases k<;>simp [Key.has,Key.has_iff r]
def Key.apart (a b:List Key):Bool:=a.all fun k=>!Key.has b k
theorem Key.apart_ok {a b:List Key} (h:Key.apart a b=true) {k:Key} (ha:k∈a):k∉b:=by
 intro hb
 have:=List.all_eq_true.1 h k ha
 rw [(Key.has_iff b k).2 hb] at this
 simp at this
theorem zpc:∀ (l:List (Nat×BE)) (m:Nat->BE) (t:Nat),t∉l.map (·.1)->putF l m t=m t
 | [],_,_,_=>rfl
 | (k,e)::r,m,t,h=>by
  simp only [List.map_cons,List.mem_cons,not_or] at h
  show (if t=k then e else putF r m t)=m t
  rw [if_neg h.1,zpc r m t h.2]
theorem zgo:∀ (l:List (Nat×BE)) (m m2:Nat->BE) (t:Nat),t∈l.map (·.1)->putF l m t=putF l m2 t
 | [],_,_,_,h=>by simp at h
 | (k,e)::r,m,m2,t,h=>by
  show (if t=k then e else putF r m t)=(if t=k then e else putF r m2 t)
  by_cases hk:t=k
  ·rw [if_pos hk,if_pos hk]
  ·rw [if_neg hk,if_neg hk]
   simp only [List.map_cons,List.mem_cons] at h
   exact zgo r m m2 t (h.resolve_left hk)
theorem St.app_ne {st:St} {dst:Option Tmp} {u:Upd} {k:Key} (h:k∉wrs dst u):(st.app dst u).get k=st.get k:=by
 simp only [wrs,List.mem_append,not_or] at h
 cases k with
 | t n=>
  cases dst with
  | none=>rfl
  | some d=>
   have hne:¬ n=d:=by intro e;exact h.1 (by simp [e])
   show KV.v ((st.app (some d) u).s n)=_
   rw [St.app_s,if_neg hne];rfl
 | m n=>
  show KV.e ((st.app dst u).m n)=_
  rw [St.app_m,zpc _ _ _ (fun hm=>h.2 ?_)];rfl
  obtain ⟨p,hp,e⟩:=List.mem_map.1 hm
  exact List.mem_map.2 ⟨p,hp,by rw [e]⟩
structure Like (a b:St):Prop where
 tm:a.nt=b.nt
 mm:a.nx=b.nx
theorem St.app_in {a b:St} (hl:Like a b) {dst:Option Tmp} {u:Upd} {k:Key} (h:k∈wrs dst u):(a.app dst u).get k=(b.app dst u).get k:=by
 simp only [wrs,List.mem_append] at h
 cases k with
 | t n=>
  rcases h with h | h
  ·cases dst with
   | none=>simp at h
   | some d=>
    simp at h
    subst h
    show KV.v ((a.app (some n) u).s n)=KV.v ((b.app (some n) u).s n)
    rw [St.app_s,St.app_s,hl.tm];simp
  ·simp at h
 | m n=>
  rcases h with h | h
  ·cases dst<;>simp at h
  ·obtain ⟨p,hp,e⟩:=List.mem_map.1 h
   simp only [Key.m.injEq] at e
   show KV.e ((a.app dst u).m n)=KV.e ((b.app dst u).m n)
   rw [St.app_m,St.app_m,zgo _ a.m b.m n (List.mem_map.2 ⟨p,hp,e⟩)]
theorem St.app_like (st:St) (dst:Option Tmp) (u:Upd):Like (st.app dst u) st:=⟨rfl,rfl⟩
theorem Like.trans {a b c:St} (h:Like a b) (k:Like b c):Like a c:=⟨h.tm.trans k.tm,h.mm.trans k.mm⟩
theorem Like.symm {a b:St} (h:Like a b):Like b a:=⟨h.tm.symm,h.mm.symm⟩
def apl (D:Nat->Bool):Nat->List (Option Tmp×Upd)->St->St
 | _,[],st=>st
 | i,(dst,u)::r,st=>apl D (i+1) r (if D i then st.app dst u else st)
theorem zfe (D:Nat->Bool):∀ (i:Nat) (l:List (Option Tmp×Upd)) (st:St),Like (apl D i l st) st
 | _,[],st=>⟨rfl,rfl⟩
 | i,(dst,u)::r,st=>by
  rw [apl]
  refine (zfe D (i+1) r _).trans ?_
  split
  ·exact St.app_like st dst u
  ·exact ⟨rfl,rfl⟩
def Wr (l:List (Option Tmp×Upd)) (i:Nat) (k:Key):Prop:=∃ d u,l[i]? = some (d,u)/\k∈wrs d u
theorem zgY {D D':Nat->Bool} {k:Key}:∀ (i:Nat) (l:List (Option Tmp×Upd)) (st st':St),Like st st'->st.get k=st'.get k->(∀ j,Wr l j k->D (i+j)=D' (i+j))->(apl D i l st).get k=(apl D' i l st').get k
 | _,[],st,st',_,h,_=>h
 | i,(dst,u)::r,st,st',hl,h,hD=>by
  rw [apl,apl]
  refine zgY (i+1) r _ _ ?_ ?_ (fun j hj=>?_)
  ·by_cases h1:D i=true
   ·by_cases h2:D' i=true
    ·rw [if_pos h1,if_pos h2];exact ((St.app_like st dst u).trans hl).trans (St.app_like st' dst u).symm
    ·rw [if_pos h1,if_neg h2];exact (St.app_like st dst u).trans hl
   ·by_cases h2:D' i=true
    ·rw [if_neg h1,if_pos h2];exact hl.trans (St.app_like st' dst u).symm
    ·rw [if_neg h1,if_neg h2];exact hl
  ·by_cases hk:k∈wrs dst u
   ·have:=hD 0 ⟨dst,u,rfl,hk⟩
    rw [Nat.add_zero] at this
    rw [this]
    by_cases h1:D' i=true
    ·rw [if_pos h1,if_pos h1];exact St.app_in hl hk
    ·rw [if_neg h1,if_neg h1];exact h
   ·have e1:(if D i=true then st.app dst u else st).get k=st.get k:=by split;exact St.app_ne hk;rfl
    have e2:(if D' i=true then st'.app dst u else st').get k=st'.get k:=by split;exact St.app_ne hk;rfl
    rw [e1,e2,h]
  ·obtain ⟨d,v,h1,h2⟩:=hj
   have:=hD (j+1) ⟨d,v,by simpa using h1,h2⟩
   rwa [show i+(j+1)=i+1+j by omega] at this
theorem znh {D:Nat->Bool} {k:Key}:∀ (i:Nat) (l:List (Option Tmp×Upd)) (st s2:St) (j:Nat) (d:Option Tmp) (u:Upd),l[j]? = some (d,u)->k∈wrs d u->D (i+j)=true->(∀ n,j<n->Wr l n k->D (i+n)=false)->Like st s2 ->
  (apl D i l st).get k=(s2.app d u).get k
 | _,[],_,_,j,_,_,h,_,_,_,_=>by simp at h
 | i,(dst,v)::r,st,s2,0,d,u,h,hk,hD,hn,hl=>by
  simp only [List.getElem?_cons_zero,Option.some.injEq,Prod.mk.injEq] at h
  obtain ⟨rfl,rfl⟩:=h
  rw [Nat.add_zero] at hD
  rw [apl,if_pos hD]
  have:(apl D (i+1) r (st.app dst v)).get k=(apl (fun _=>false) (i+1) r (st.app dst v)).get k:=by
   refine zgY _ _ _ _ ⟨rfl,rfl⟩ rfl (fun n hw=>?_)
   obtain ⟨d,u,h1,h2⟩:=hw
   have:=hn (n+1) (by omega) ⟨d,u,by simpa using h1,h2⟩
   rwa [show i+(n+1)=i+1+n by omega] at this
  rw [this]
  have e:∀ (l:List (Option Tmp×Upd)) (i:Nat) (s:St),apl (fun _=>false) i l s=s:=by
   intro l
   induction l with
   | nil=>intro i s;rfl
   | cons x l ih=>intro i s;obtain ⟨a,b⟩:=x;rw [apl];exact ih (i+1) s
  rw [e]
  exact St.app_in hl hk
 | i,(dst,v)::r,st,s2,j+1,d,u,h,hk,hD,hn,hl=>by
  rw [apl]
  refine znh (i+1) r _ s2 j d u (by simpa using h) hk (by rw [show i+1+j=i+(j+1) by omega];exact hD) (fun n hjn hw=>?_) ?_
  ·obtain ⟨d2,u2,h1,h2⟩:=hw
   have:=hn (n+1) (by omega) ⟨d2,u2,by simpa using h1,h2⟩
   rwa [show i+(n+1)=i+1+n by omega] at this
  ·split
   ·exact (St.app_like st dst v).trans hl
   ·exact hl
theorem zr9:∀ (i:Nat) (l:List (Option Tmp×Upd)) (st:St) (D:Nat->Bool),(∀ j,j<l.length->D (i+j)=true)->apl D i l st=apl (fun _=>true) i l st
 | _,[],_,_,_=>rfl
 | i,(d,u)::r,st,D,h=>by
  have h0:=h 0 (by simp)
  rw [Nat.add_zero] at h0
  rw [apl,apl,if_pos h0,if_pos rfl]
  exact zr9 (i+1) r _ D (fun j hj=>by have:=h (j+1) (by simpa using hj);rwa [show i+(j+1)=i+1+j by omega] at this)
theorem zfX:∀ (i:Nat) (l:List (Option Tmp×Upd)) (st:St) (D:Nat->Bool),(∀ j,j<l.length->D (i+j)=false)->apl D i l st=st
 | _,[],_,_,_=>rfl
 | i,(d,u)::r,st,D,h=>by
  have h0:=h 0 (by simp)
  rw [Nat.add_zero] at h0
  rw [apl,if_neg (by rw [h0];simp)]
  exact zfX (i+1) r _ D (fun j hj=>by have:=h (j+1) (by simpa using hj);rwa [show i+(j+1)=i+1+j by omega] at this)
section
variable {base : Nat} {X : Cx} {w0 : World}
theorem St.Ok.congr {a b:St} (hl:Like a b) (h:∀ k,a.get k=b.get k) {E:Env} {ac:Act} {w:World} (ho:a.Ok base X w0 E ac w):b.Ok base X w0 E ac w:=by
 have hm:a.m=b.m:=by funext t;have:=h (.m t);simpa [St.get] using this
 refine ⟨ho.defers,by rw [<- hl.tm];exact ho.size,fun i=>?_,by rw [<- hm];exact ho.mem⟩
 have:=h (.t i)
 simp only [St.get,KV.v.injEq] at this
 rw [<- this];exact ho.tm i
end
def ancs:List Oper->List Nat->List Nat
 | [],acc=>acc
 | o::r,acc=>ancs r (acc++[o.after.toList.foldl (fun s e=>if Region.binds .any e then s ||| 2 ^ e.on ||| acc.getD e.on 0 else s) 0])
def zrE (ops:List Oper) (D:Nat->Bool):Prop:=∀ i o,ops[i]? = some o->D i=true->∀ e∈o.after.toList,Region.binds .any e=true->D e.on=true
theorem zni {D:Nat->Bool} {acc:List Nat} (hacc:∀ j i,(acc.getD j 0).testBit i=true->D j=true->D i=true):∀ (es:List Edge) (s:Nat),(∀ e∈es,Region.binds .any e=true->D e.on=true)->(∀ i,s.testBit i=true->D i=true) ->
  ∀ i,(es.foldl (fun s e=>if Region.binds .any e then s ||| 2 ^ e.on ||| acc.getD e.on 0 else s) s).testBit i=true->D i=true
 | [],s,_,hs,i,h=>hs i h
 | e::es,s,he,hs,i,h=>by
  simp only [List.foldl_cons] at h
  refine zni hacc es _ (fun e' h'=>he e' (List.mem_cons_of_mem _ h')) (fun i hi=>?_) i h
  split at hi
  ·rename_i hb
   simp only [Nat.testBit_or,Bool.or_eq_true] at hi
   rcases hi with (hi | hi) | hi
   ·exact hs i hi
   ·rw [Nat.testBit_two_pow] at hi
    have:e.on=i:=by simpa using hi
    rw [<- this];exact he e (List.mem_cons_self ..) hb
   ·exact hacc _ i hi (he e (List.mem_cons_self ..) hb)
  ·exact hs i hi
theorem zlM {D:Nat->Bool}:∀ (l:List Oper) (acc:List Nat),(∀ i o,l[i]? = some o->D (acc.length+i)=true->∀ e∈o.after.toList,Region.binds .any e=true->D e.on=true) ->
  (∀ j i,(acc.getD j 0).testBit i=true->D j=true->D i=true)->∀ j i,((ancs l acc).getD j 0).testBit i=true->D j=true->D i=true
 | [],acc,_,h,j,i,hb,hj=>h j i hb hj
 | o::r,acc,hl,h,j,i,hb,hj=>by
  rw [ancs] at hb
  refine zlM r _ (fun i o ho hD=>?_) (fun j i hb hj=>?_) j i hb hj
  ·rw [List.length_append,List.length_singleton] at hD
   exact hl (i+1) o (by simpa using ho) (by rwa [show acc.length+(i+1)=acc.length+1+i by omega])
  ·by_cases hjl:j<acc.length
   ·rw [List.getD_eq_getElem?_getD,List.getElem?_append_left hjl,<- List.getD_eq_getElem?_getD] at hb;exact h j i hb hj
   ·by_cases hje:j=acc.length
    ·subst hje
     rw [List.getD_eq_getElem?_getD,List.getElem?_append_right (Nat.le_refl _)] at hb
     simp only [Nat.sub_self,List.getElem?_cons_zero,Option.getD_some] at hb
     exact zni h o.after.toList 0 (fun e he hbi=>hl 0 o rfl (by simpa using hj) e he hbi) (fun i hi=>by simp at hi) i hb
    ·rw [List.getD_eq_getElem?_getD,List.getElem?_eq_none (by simp;omega)] at hb
     simp at hb
end Go.Proofs.YtkhphiahindnnaaGreat
