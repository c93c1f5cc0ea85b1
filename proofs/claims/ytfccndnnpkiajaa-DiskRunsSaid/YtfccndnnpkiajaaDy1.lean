/- Parts of the proof, joined: the symbolic walk and what it is told of each function. Condition: as each theorem says. -/
import Derived.Test.YtfccndnnpkiajaaRows
import Derived.WalkKit
import Derived.ProofKit
import Derived.OpenShut
import Derived.Lib.Hide
import Derived.Deep.QuietTactic
import Derived.BigQuiet
import Derived.Deep.Slices
import Derived.ChangeArms
import Derived.Maps.AppendAt
import Derived.Deep.AppendLies
import Derived.RegionTactic
import Derived.OwnWalk
import Derived.Laws.CopyOwn
import Derived.Maps.Own
import Derived.Maps.OwnOps
import Derived.Maps.OwnSet
import Derived.Maps.Views
import Derived.KernelRfl
import Derived.Orders
import Derived.Lib.ReflectliteSwap
set_option linter.unusedVariables false
set_option linter.unusedSimpArgs false
set_option linter.unusedSectionVars false
namespace Go.Proofs.Ytfccndnnpkiajaa
open Go.RowKit Go.ChangeShapes Go.WideShapes Go.Deep
inductive Ty where
 | int (k:IntKind)
 | bool
 | str
 | sl (fs:List Ty)
inductive D where
 | int (n:Int)
 | bool (b:Bool)
 | str (s:ByteArray)
 | sl (rows:List (List D))
instance:Inhabited Ty:=⟨.bool⟩
instance:Inhabited D:=⟨.int 0⟩
inductive Rd (w:World) (S:Nat→Prop):Ty→Value→D→Prop
 | int {k:IntKind} {n:Int}:(Lit.int k n).wf=true→Rd w S (.int k) (.int k n) (.int n)
 | bool {b:Bool}:Rd w S .bool (.bool b) (.bool b)
 | str {s:ByteArray}:s.size≤140737488355328→Rd w S .str (.string s) (.str s)
 | emp {fs:List Ty} {a:Option Addr} {c:Nat}:(a=none→c=0)→c≤maxLen→Rd w S (.sl fs) (.slice a 0 c) (.sl [])
 | row {fs:List Ty} {b off n c:Nat} {rows:List (List D)} (vals:Nat→Nat→Value):0<n→n=rows.length→n≤c→c≤maxLen→n≤140737488355328→S b→b<w.heap.size →
   (∀ i j,i<n→j<fs.length→w.cell? ⟨b,off+i*fs.length+j,none⟩=some (vals i j)) →
   (∀ i,i<n→(rows.getD i []).length=fs.length) →
   (∀ i j,i<n→j<fs.length→Rd w S (fs.getD j default) (vals i j) ((rows.getD i []).getD j default)) →
   (∀ i j,i<n→j<fs.length→w.frozen? ⟨b,off+i*fs.length+j,none⟩=false) →
   Rd w S (.sl fs) (.slice (some ⟨b,off,none⟩) n c) (.sl rows)
structure Same (S:Nat→Prop) (w w':World):Prop where
 size:w.heap.size≤w'.heap.size
 block:∀ b,S b→b<w.heap.size→w'.heap[b]? = w.heap[b]?
theorem Same.refl (S:Nat→Prop) (w:World):Same S w w:=⟨Nat.le_refl _,fun _ _ _=>rfl⟩
theorem Same.trans {S:Nat→Prop} {a b c:World} (h:Same S a b) (k:Same S b c):Same S a c:=
 ⟨Nat.le_trans h.size k.size,fun x hx hl=>(k.block x hx (Nat.lt_of_lt_of_le hl h.size)).trans (h.block x hx hl)⟩
theorem Same.mono {S T:Nat→Prop} {w w':World} (h:Same S w w') (hs:∀ b,T b→S b):Same T w w':=⟨h.size,fun b hb hl=>h.block b (hs b hb) hl⟩
theorem Same.below {S:Nat→Prop} {w w':World} (h:Below w.heap.size w w'):Same S w w':=⟨h.size,fun b _ hl=>h.block b hl⟩
theorem Same.of_grown {S:Nat→Prop} {w w':World} {row:Option Nat} (h:w.grownBy w' row) (hS:∀ b,S b→some b≠row):Same S w w' :=
 ⟨h.size,fun b hb hl=>h.block b hl (hS b hb)⟩
theorem Same.alloc (S:Nat→Prop) (w:World) (o:Obj):Same S w (w.alloc o):=Same.below ((Below.refl _ _).alloc (Nat.le_refl _) o)
theorem Same.setCell {S:Nat→Prop} {w:World} {p:Addr} (h:¬ S p.block) (v:Value):Same S w (w.setCell p v):=
 ⟨by simp [World.setCell],fun b hb _=>Below.heap_setCell _ _ _ _ (fun e=>h (e▸hb))⟩
theorem Same.cell {S:Nat→Prop} {w w':World} (h:Same S w w') {p:Addr} (hp:S p.block) (hl:p.block<w.heap.size):w'.cell? p=w.cell? p:=World.cell?_of_block (h.block _ hp hl)
theorem Same.frozen {S:Nat→Prop} {w w':World} (h:Same S w w') {p:Addr} (hp:S p.block) (hl:p.block<w.heap.size):w'.frozen? p=w.frozen? p:=World.frozen?_of_block (h.block _ hp hl)
theorem Rd.same {w w':World} {S:Nat→Prop} {t:Ty} {v:Value} {d:D} (h:Rd w S t v d) (hs:Same S w w'):Rd w' S t v d:=by
 induction h with
 | int h=>exact .int h
 | bool=>exact .bool
 | str h=>exact .str h
 | emp h h'=>exact .emp h h'
 | row vals h1 h2 h3 h4 h5 h6 h7 h8 h9 _ h11 ih=>
  exact .row vals h1 h2 h3 h4 h5 h6 (Nat.lt_of_lt_of_le h7 hs.size) (fun i j hi hj=>by rw [hs.cell h6 h7];exact h8 i j hi hj) h9 ih (fun i j hi hj=>by rw [hs.frozen h6 h7];exact h11 i j hi hj)
theorem Rd.mono {w:World} {S T:Nat→Prop} {t:Ty} {v:Value} {d:D} (h:Rd w S t v d) (hs:∀ b,b<w.heap.size→S b→T b):Rd w T t v d:=by
 induction h with
 | int h=>exact .int h
 | bool=>exact .bool
 | str h=>exact .str h
 | emp h h'=>exact .emp h h'
 | row vals h1 h2 h3 h4 h5 h6 h7 h8 h9 _ h11 ih=>exact .row vals h1 h2 h3 h4 h5 (hs _ h7 h6) h7 h8 h9 ih h11
theorem Rd.here {w:World} {S:Nat→Prop} {t:Ty} {v:Value} {d:D} (h:Rd w S t v d):Rd w (fun b=>S b∧b<w.heap.size) t v d:=h.mono (fun b hb hs=>⟨hs,hb⟩)
def RdL (w:World) (S:Nat→Prop):List Ty→List Value→List D→Prop
 | [],[],[]=>True
 | t::ts,v::vs,d::ds=>Rd w S t v d∧RdL w S ts vs ds
 | _,_,_=>False
theorem RdL.same {w w':World} {S:Nat→Prop} (hs:Same S w w'):∀ {ts:List Ty} {vs:List Value} {ds:List D},RdL w S ts vs ds→RdL w' S ts vs ds
 | [],[],[],_=>trivial
 | _::_,_::_,_::_,h=>⟨h.1.same hs,RdL.same hs h.2⟩
 | _::_,[],_,h=>h.elim
 | _::_,_::_,[],h=>h.elim
 | [],_::_,_,h=>h.elim
 | [],[],_::_,h=>h.elim
theorem RdL.mono {w:World} {S T:Nat→Prop} (hs:∀ b,b<w.heap.size→S b→T b):∀ {ts:List Ty} {vs:List Value} {ds:List D},RdL w S ts vs ds→RdL w T ts vs ds
 | [],[],[],_=>trivial
 | _::_,_::_,_::_,h=>⟨h.1.mono hs,RdL.mono hs h.2⟩
 | _::_,[],_,h=>h.elim
 | _::_,_::_,[],h=>h.elim
 | [],_::_,_,h=>h.elim
 | [],[],_::_,h=>h.elim
theorem RdL.lens {w:World} {S:Nat→Prop}:∀ {ts:List Ty} {vs:List Value} {ds:List D},RdL w S ts vs ds→vs.length=ts.length∧ds.length=ts.length
 | [],[],[],_=>⟨rfl,rfl⟩
 | _::_,_::_,_::_,h=>by have:=RdL.lens h.2;simp [this.1,this.2]
 | _::_,[],_,h=>h.elim
 | _::_,_::_,[],h=>h.elim
 | [],_::_,_,h=>h.elim
 | [],[],_::_,h=>h.elim
theorem RdL.at {w:World} {S:Nat→Prop}:∀ {ts:List Ty} {vs:List Value} {ds:List D},RdL w S ts vs ds→∀ j,j<ts.length→Rd w S (ts.getD j default) (vs.getD j undef) (ds.getD j default)
 | [],[],[],_,j,hj=>absurd hj (by simp)
 | _::_,_::_,_::_,h,0,_=>h.1
 | _::ts,_::vs,_::ds,h,j+1,hj=>RdL.at (ts:=ts) (vs:=vs) (ds:=ds) h.2 j (by simpa using hj)
 | _::_,[],_,h,_,_=>h.elim
 | _::_,_::_,[],h,_,_=>h.elim
 | [],_::_,_,h,_,_=>h.elim
 | [],[],_::_,h,_,_=>h.elim
theorem RdL.of_at {w:World} {S:Nat→Prop}:∀ {ts:List Ty} {ds:List D} (f:Nat→Value),ds.length=ts.length→(∀ j,j<ts.length→Rd w S (ts.getD j default) (f j) (ds.getD j default))→RdL w S ts ((List.range ts.length).map f) ds
 | [],[],_,_,_=>trivial
 | [],_::_,_,h,_=>by simp at h
 | _::_,[],_,h,_=>by simp at h
 | t::ts,d::ds,f,h,hf=>by
  have e:(List.range (t::ts).length).map f=f 0::(List.range ts.length).map (fun j=>f (j+1)):=by
   rw [List.length_cons,List.range_succ_eq_map];simp [Function.comp_def]
  rw [e]
  exact ⟨hf 0 (by simp),RdL.of_at (fun j=>f (j+1)) (by simpa using h) (fun j hj=>hf (j+1) (by simpa using hj))⟩
abbrev Sl (w:World) (S:Nat→Prop) (fs:List Ty) (a:Option Addr) (n c:Nat) (rows:List (List D)):Prop:=Rd w S (.sl fs) (.slice a n c) (.sl rows)
theorem Sl.len {w:World} {S:Nat→Prop} {fs:List Ty} {a:Option Addr} {n c:Nat} {rows:List (List D)} (h:Sl w S fs a n c rows):rows.length=n:=by
 cases h with
 | emp _ _=>rfl
 | row _ _ h=>exact h.symm
theorem Sl.bd {w:World} {S:Nat→Prop} {fs:List Ty} {a:Option Addr} {n c:Nat} {rows:List (List D)} (h:Sl w S fs a n c rows):n≤c∧c≤9223372036854775807∧n≤140737488355328∧(a=none→n=0∧c=0):=by
 cases h with
 | emp h1 h2=>unfold maxLen at h2;exact ⟨Nat.zero_le _,by omega,by omega,fun e=>⟨rfl,h1 e⟩⟩
 | row _ h0 h1 h2 h3 h4=>unfold maxLen at h3;exact ⟨h2,by omega,h4,fun e=>by simp at e⟩
theorem Sl.rowAt {w:World} {S:Nat→Prop} {fs:List Ty} {a:Option Addr} {n c:Nat} {rows:List (List D)} (h:Sl w S fs a n c rows) (hp:0<n) :
  ∃ b off,a=some ⟨b,off,none⟩∧S b∧b<w.heap.size∧∃ vals:Nat→Nat→Value,(∀ i j,i<n→j<fs.length→w.cell? ⟨b,off+i*fs.length+j,none⟩=some (vals i j)) ∧
   ∀ i,i<n→(rows.getD i []).length=fs.length∧∀ j,j<fs.length→Rd w S (fs.getD j default) (vals i j) ((rows.getD i []).getD j default):=by
 cases h with
 | emp _ _=>omega
 | row vals h1 h2 h3 h4 h5 h6 h7 h8 h9 h10 _=>exact ⟨_,_,rfl,h6,h7,vals,h8,fun i hi=>⟨h9 i hi,fun j hj=>h10 i j hi hj⟩⟩
theorem Sl.thaw {w:World} {S:Nat→Prop} {fs:List Ty} {b off n c:Nat} {rows:List (List D)} (h:Sl w S fs (some ⟨b,off,none⟩) n c rows) {i j:Nat} (hi:i<n) (hj:j<fs.length):w.frozen? ⟨b,off+i*fs.length+j,none⟩=false:=by
 cases h with
 | emp _ _=>omega
 | row vals h1 h2 h3 h4 h5 h6 h7 h8 h9 h10 h11=>exact h11 i j hi hj
theorem Sl.addr {w:World} {S:Nat→Prop} {fs:List Ty} {a:Option Addr} {n c:Nat} {rows:List (List D)} (h:Sl w S fs a n c rows) (hp:0<n):∃ b off,a=some ⟨b,off,none⟩:=by
 obtain ⟨b,off,e,_⟩:=h.rowAt hp;exact ⟨b,off,e⟩
def ints (xs:List Int):List (List D):=xs.map fun x=>[.int x]
abbrev I64 (x:Int):Prop:= -9223372036854775808≤x∧x≤9223372036854775807
abbrev SlI (w:World) (S:Nat→Prop) (a:Option Addr) (n c:Nat) (xs:List Int):Prop:=Sl w S [.int .i64] a n c (ints xs)
theorem lit_bd {x:Int} (h:(Lit.int .i64 x).wf=true):I64 x:=by
 simp only [Lit.wf,Bool.and_eq_true,decide_eq_true_eq] at h;exact h
theorem zds {x:Int} (h:I64 x):(Lit.int .i64 x).wf=true:=by
 simp only [Lit.wf,Bool.and_eq_true,decide_eq_true_eq];exact h
theorem Rd.int_inv {w:World} {S:Nat→Prop} {k:IntKind} {v:Value} {d:D} (h:Rd w S (.int k) v d):∃ n,v = .int k n∧d = .int n∧(Lit.int k n).wf=true:=by
 cases h with | int h=>exact ⟨_,rfl,rfl,h⟩
theorem Rd.i64 {w:World} {S:Nat→Prop} {v:Value} {x:Int} (h:Rd w S (.int .i64) v (.int x)):v = .int .i64 x∧I64 x:=by
 cases h with | int h=>exact ⟨rfl,lit_bd h⟩
theorem Rd.u8 {w:World} {S:Nat→Prop} {v:Value} {x:Int} (h:Rd w S (.int .u8) v (.int x)):v = .int .u8 x∧0≤x∧x≤255:=by
 cases h with | int h=>simp only [Lit.wf,Bool.and_eq_true,decide_eq_true_eq] at h;exact ⟨rfl,h⟩
theorem Rd.bool' {w:World} {S:Nat→Prop} {v:Value} {x:Bool} (h:Rd w S .bool v (.bool x)):v = .bool x:=by
 cases h with | bool=>rfl
theorem Rd.bool_inv {w:World} {S:Nat→Prop} {v:Value} {d:D} (h:Rd w S .bool v d):∃ b,v = .bool b∧d = .bool b:=by
 cases h with | bool=>exact ⟨_,rfl,rfl⟩
theorem Rd.str_inv {w:World} {S:Nat→Prop} {v:Value} {d:D} (h:Rd w S .str v d):∃ s,v = .string s∧d = .str s:=by
 cases h with | str h=>exact ⟨_,rfl,rfl⟩
theorem Rd.str' {w:World} {S:Nat→Prop} {v:Value} {x:ByteArray} (h:Rd w S .str v (.str x)):v = .string x∧x.size≤140737488355328:=by
 cases h with | str h=>exact ⟨rfl,h⟩
theorem Rd.sl' {w:World} {S:Nat→Prop} {fs:List Ty} {v:Value} {rows:List (List D)} (h:Rd w S (.sl fs) v (.sl rows)):∃ a c,v = .slice a rows.length c∧Sl w S fs a rows.length c rows:=by
 cases h with
 | emp h1 h2=>exact ⟨_,_,rfl,.emp h1 h2⟩
 | row vals h1 h2 h3 h4 h5 h6 h7 h8 h9 h10 h11=>subst h2;exact ⟨_,_,rfl,.row vals h1 rfl h3 h4 h5 h6 h7 h8 h9 h10 h11⟩
theorem Rd.ofI64 {w:World} {S:Nat→Prop} {x:Int} (h:I64 x):Rd w S (.int .i64) (.int .i64 x) (.int x):= .int (zds h)
theorem zay (xs:List Int):(ints xs).length=xs.length:=by simp [ints]
theorem zgK {α:Type} (enc:α→List D):∀ (rows:List (List D)),(∀ r∈rows,∃ x,r=enc x)→∃ xs:List α,rows=xs.map enc
 | [],_=>⟨[],rfl⟩
 | r::rows,h=>by
  obtain ⟨x,hx⟩:=h r (List.mem_cons_self ..)
  obtain ⟨xs,hxs⟩:=zgK enc rows (fun r hr=>h r (List.mem_cons_of_mem _ hr))
  exact ⟨x::xs,by rw [hx,hxs];rfl⟩
theorem Rd.dec {w:World} {S:Nat→Prop} {α:Type} (enc:α→List D) {ts:List Ty} {v:Value} {d:D} (hdec:∀ vs ds,RdL w S ts vs ds→∃ x,ds=enc x) (h:Rd w S (.sl ts) v d):∃ xs:List α,d = .sl (xs.map enc):=by
 cases h with
 | emp _ _=>exact ⟨[],rfl⟩
 | row vals h1 h2 h3 h4 h5 h6 h7 h8 h9 h10 h11=>
  rename_i rows
  obtain ⟨xs,hxs⟩:=zgK enc rows (fun r hr=>by
   obtain ⟨i,hi,rfl⟩:=List.mem_iff_getElem.1 hr
   have e:rows.getD i []=rows[i]:=by simp [List.getD,hi]
   have:=RdL.of_at (w:=w) (S:=S) (ts:=ts) (ds:=rows[i]) (vals i) (by rw [← e];exact h9 i (by omega)) (fun j hj=>by rw [← e];exact h10 i j (by omega) hj)
   exact hdec _ _ this)
  exact ⟨xs,by rw [hxs]⟩
def strs (l:List ByteArray):List (List D):=l.map fun x=>[.str x]
def zbk (l:List Bool):List (List D):=l.map fun x=>[.bool x]
theorem zg4 (xs:List ByteArray):(strs xs).length=xs.length:=by simp [strs]
theorem zjH (xs:List Bool):(zbk xs).length=xs.length:=by simp [zbk]
theorem Rd.ofU8 {w:World} {S:Nat→Prop} {x:Int} (h:0≤x∧x≤255):Rd w S (.int .u8) (.int .u8 x) (.int x):= .int (by simp only [Lit.wf,Bool.and_eq_true,decide_eq_true_eq];exact h)
theorem zi5 {w:World} {S:Nat→Prop} {α:Type} {enc:α→D} {t:Ty} {v:Value} {d:D} (hd:∀ v d,Rd w S t v d→∃ x,d=enc x) (h:Rd w S (.sl [t]) v d):∃ xs:List α,d = .sl (xs.map fun x=>[enc x]):=by
 refine Rd.dec (fun x=>[enc x]) (fun vs ds hr=>?_) h
 match vs,ds,hr with
 | [v],[d],hr=>
  obtain ⟨n,rfl⟩:=hd _ _ hr.1
  exact ⟨n,rfl⟩
 | [],_,hr=>exact hr.elim
 | _::_::_,[_],hr=>exact hr.2.elim
 | [_],[],hr=>exact hr.elim
 | [_],_::_::_,hr=>exact hr.2.elim
 | _::_::_,[],hr=>exact hr.elim
 | _::_::_,_::_::_,hr=>exact hr.2.elim
theorem zjG {w:World} {S:Nat→Prop} {v:Value} {d:D} (h:Rd w S (.sl [.int .u8]) v d):∃ xs:List Int,d = .sl (ints xs):=zi5 (enc:=D.int) (fun _ _ h=>by obtain ⟨n,_,rfl,_⟩:=h.int_inv;exact ⟨n,rfl⟩) h
theorem zjI {w:World} {S:Nat→Prop} {v:Value} {d:D} (h:Rd w S (.sl [.bool]) v d):∃ xs:List Bool,d = .sl (zbk xs):=zi5 (enc:=D.bool) (fun _ _ h=>by obtain ⟨n,_,rfl⟩:=h.bool_inv;exact ⟨n,rfl⟩) h
def Blk (w:World) (g:Nat) (t:TypeId) (cs:Array Value):Prop:=w.heap[g]? = some (.cells cs t (0,0))
theorem Blk.lt {w:World} {g:Nat} {t:TypeId} {cs:Array Value} (h:Blk w g t cs):g<w.heap.size:=(Array.getElem?_eq_some_iff.1 h).1
theorem Blk.cell {w:World} {g:Nat} {t:TypeId} {cs:Array Value} (h:Blk w g t cs) (i:Nat):w.cell? ⟨g,i,none⟩=cs[i]? := by
 unfold Blk at h;simp [World.cell?,h]
theorem Blk.frozen {w:World} {g:Nat} {t:TypeId} {cs:Array Value} (h:Blk w g t cs) (i:Nat):w.frozen? ⟨g,i,none⟩=false:=by
 unfold Blk at h;simp [World.frozen?,h]
theorem Blk.new (w:World) (t:TypeId) (cs:Array Value):Blk (w.alloc (.cells cs t)) w.heap.size t cs:=by
 unfold Blk;simp only [World.alloc,Array.getElem?_push_size]
theorem Blk.newAt (w:World) (g:Nat) (t:TypeId) (cs:Array Value) (hg:g=w.heap.size):Blk (w.alloc (.cells cs t)) g t cs:=by subst hg;exact Blk.new w t cs
theorem Blk.alloc {w:World} {g:Nat} {t:TypeId} {cs:Array Value} (h:Blk w g t cs) (o:Obj):Blk (w.alloc o) g t cs:=(Below.heap_alloc w o g h.lt).trans h
theorem Blk.below {w w':World} {g B:Nat} {t:TypeId} {cs:Array Value} (h:Blk w g t cs) (hb:Below B w w') (hg:g<B):Blk w' g t cs:=(hb.block g hg).trans h
theorem Blk.same {w w':World} {g:Nat} {S:Nat→Prop} {t:TypeId} {cs:Array Value} (h:Blk w g t cs) (hs:Same S w w') (hg:S g):Blk w' g t cs:=(hs.block g hg h.lt).trans h
theorem Blk.set {w:World} {g:Nat} {t:TypeId} {cs:Array Value} (h:Blk w g t cs) (i:Nat) (u:Value):Blk (w.setCell ⟨g,i,none⟩ u) g t (cs.setIfInBounds i u):=by
 unfold Blk at h ⊢
 simp [World.setCell,Array.getElem?_modify,h]
theorem Blk.far {w:World} {g:Nat} {t:TypeId} {cs:Array Value} (h:Blk w g t cs) {p:Addr} (hp:g≠p.block) (u:Value):Blk (w.setCell p u) g t cs:=(Below.heap_setCell w p u g hp).trans h
theorem Blk.grown {w w':World} {g:Nat} {t:TypeId} {cs:Array Value} {row:Option Nat} (h:Blk w g t cs) (hb:w.grownBy w' row) (hg:some g≠row):Blk w' g t cs:=(hb.block g h.lt hg).trans h
theorem Blk.drew {w:World} {g:Nat} {t:TypeId} {cs:Array Value} (h:Blk w g t cs):Blk w.drew g t cs:=h
theorem Blk.next {w w':World} {g:Nat} {t:TypeId} {cs:Array Value} (h:Blk w g t cs) (hb:Below w.heap.size w w'):Blk w' g t cs:=h.below hb h.lt
theorem Same.drew (S:Nat→Prop) (w:World):Same S w w.drew:=⟨Nat.le_refl _,fun _ _ _=>rfl⟩
theorem Rd.drew {w:World} {S:Nat→Prop} {t:Ty} {v:Value} {d:D} (h:Rd w S t v d):Rd w.drew S t v d:=h.same (Same.drew S w)
theorem zk5 {α:Type} {l:List α} (h:l.length=2):∃ v0 v1,l=[v0,v1]:=by
 match l,h with
 | [v0,v1],_=>exact ⟨v0,v1,rfl⟩
theorem zk4 {α:Type} {l:List α} (h:l.length=4):∃ v0 v1 v2 v3,l=[v0,v1,v2,v3]:=by
 match l,h with
 | [v0,v1,v2,v3],_=>exact ⟨v0,v1,v2,v3,rfl⟩
theorem zeF {α:Type} {l:List α} (h:l.length=6):∃ v0 v1 v2 v3 v4 v5,l=[v0,v1,v2,v3,v4,v5]:=by
 match l,h with
 | [v0,v1,v2,v3,v4,v5],_=>exact ⟨v0,v1,v2,v3,v4,v5,rfl⟩
theorem box6 {w:World} {g:Nat} {t:TypeId} {v0 v1 v2 v3 v4 v5:Value} (h:Blk w g t #[v0,v1,v2,v3,v4,v5]):w.cell? ⟨g,0,none⟩=some v0∧w.cell? ⟨g,1,none⟩=some v1∧w.cell? ⟨g,2,none⟩=some v2∧w.cell? ⟨g,3,none⟩=some v3∧w.cell? ⟨g,4,none⟩=some v4∧w.cell? ⟨g,5,none⟩=some v5:=
 ⟨h.cell 0,h.cell 1,h.cell 2,h.cell 3,h.cell 4,h.cell 5⟩
structure File where
 name:ByteArray
 bytes:List Int
 deriving DecidableEq,Inhabited
def File.ty:List Ty:=[.str,.sl [.int .u8]]
def File.enc (x:File):List D:=[.str x.name,.sl (ints x.bytes)]
theorem File.ty_len:File.ty.length=2:=rfl
theorem File.enc_len (x:File):x.enc.length=2:=rfl
theorem File.opens {w:World} {S:Nat→Prop} {vs:List Value} {x:File} (h:RdL w S File.ty vs x.enc):∃ (a1:Option Addr) (c1:Nat),vs=[.string x.name,.slice a1 (x.bytes).length c1]∧(x.name).size≤140737488355328∧Sl w S [.int .u8] a1 (x.bytes).length c1 (ints x.bytes):=by
 match vs,h with
 | [v0,v1],h=>
  obtain ⟨h0,h1,_⟩:=h
  obtain ⟨rfl,k0⟩:=h0.str'
  obtain ⟨a1,c1,rfl,k1⟩:=h1.sl'
  rw [zay] at k1
  exact ⟨a1,c1,(by simp [ints,zbk,strs,List.length_map]),k0,k1⟩
structure DChange where
 kind:Int
 file:ByteArray
 at_:Int
 bytes:List Int
 deriving DecidableEq,Inhabited
def DChange.ty:List Ty:=[.int .i64,.str,.int .i64,.sl [.int .u8]]
def DChange.enc (x:DChange):List D:=[.int x.kind,.str x.file,.int x.at_,.sl (ints x.bytes)]
theorem DChange.ty_len:DChange.ty.length=4:=rfl
theorem DChange.enc_len (x:DChange):x.enc.length=4:=rfl
theorem DChange.opens {w:World} {S:Nat→Prop} {vs:List Value} {x:DChange} (h:RdL w S DChange.ty vs x.enc):∃ (a3:Option Addr) (c3:Nat),vs=[.int .i64 x.kind,.string x.file,.int .i64 x.at_,.slice a3 (x.bytes).length c3]∧I64 x.kind∧(x.file).size≤140737488355328∧I64 x.at_∧Sl w S [.int .u8] a3 (x.bytes).length c3 (ints x.bytes):=by
 match vs,h with
 | [v0,v1,v2,v3],h=>
  obtain ⟨h0,h1,h2,h3,_⟩:=h
  obtain ⟨rfl,k0⟩:=h0.i64
  obtain ⟨rfl,k1⟩:=h1.str'
  obtain ⟨rfl,k2⟩:=h2.i64
  obtain ⟨a3,c3,rfl,k3⟩:=h3.sl'
  rw [zay] at k3
  exact ⟨a3,c3,(by simp [ints,zbk,strs,List.length_map]),k0,k1,k2,k3⟩
structure DOp where
 kind:Int
 file:ByteArray
 at_:Int
 bytes:List Int
 keep:List Bool
 by_:Int
 deriving DecidableEq,Inhabited
def DOp.ty:List Ty:=[.int .i64,.str,.int .i64,.sl [.int .u8],.sl [.bool],.int .u8]
def DOp.enc (x:DOp):List D:=[.int x.kind,.str x.file,.int x.at_,.sl (ints x.bytes),.sl (zbk x.keep),.int x.by_]
theorem DOp.ty_len:DOp.ty.length=6:=rfl
theorem DOp.enc_len (x:DOp):x.enc.length=6:=rfl
theorem DOp.opens {w:World} {S:Nat→Prop} {vs:List Value} {x:DOp} (h:RdL w S DOp.ty vs x.enc):∃ (a3:Option Addr) (c3:Nat) (a4:Option Addr) (c4:Nat),vs=[.int .i64 x.kind,.string x.file,.int .i64 x.at_,.slice a3 (x.bytes).length c3,.slice a4 (x.keep).length c4,.int .u8 x.by_]∧I64 x.kind∧(x.file).size≤140737488355328∧I64 x.at_∧Sl w S [.int .u8] a3 (x.bytes).length c3 (ints x.bytes)∧Sl w S [.bool] a4 (x.keep).length c4 (zbk x.keep)∧(0≤x.by_∧x.by_≤255):=by
 match vs,h with
 | [v0,v1,v2,v3,v4,v5],h=>
  obtain ⟨h0,h1,h2,h3,h4,h5,_⟩:=h
  obtain ⟨rfl,k0⟩:=h0.i64
  obtain ⟨rfl,k1⟩:=h1.str'
  obtain ⟨rfl,k2⟩:=h2.i64
  obtain ⟨a3,c3,rfl,k3⟩:=h3.sl'
  rw [zay] at k3
  obtain ⟨a4,c4,rfl,k4⟩:=h4.sl'
  rw [zjH] at k4
  obtain ⟨rfl,k5⟩:=h5.u8
  exact ⟨a3,c3,a4,c4,(by simp [ints,zbk,strs,List.length_map]),k0,k1,k2,k3,k4,k5⟩
theorem DOp.dec {w:World} {S:Nat→Prop} {vs:List Value} {ds:List D} (h:RdL w S DOp.ty vs ds):∃ x:DOp,ds=x.enc:=by
 have hl:=h.lens
 rw [DOp.ty_len] at hl
 obtain ⟨v0,v1,v2,v3,v4,v5,rfl⟩:=zeF hl.1
 obtain ⟨d0,d1,d2,d3,d4,d5,rfl⟩:=zeF hl.2
 obtain ⟨h0,h1,h2,h3,h4,h5,_⟩:=h
 obtain ⟨x0,_,rfl,_⟩:=h0.int_inv
 obtain ⟨x1,_,rfl⟩:=h1.str_inv
 obtain ⟨x2,_,rfl,_⟩:=h2.int_inv
 obtain ⟨x3,rfl⟩:=zjG h3
 obtain ⟨x4,rfl⟩:=zjI h4
 obtain ⟨x5,_,rfl,_⟩:=h5.int_inv
 exact ⟨⟨x0,x1,x2,x3,x4,x5⟩,rfl⟩
structure RDisk where
 room:Int
 lasts:List File
 changes:List DChange
 down:Bool
 stops:Bool
 left:Int
 deriving DecidableEq,Inhabited
def RDisk.ty:List Ty:=[.int .i64,.sl File.ty,.sl DChange.ty,.bool,.bool,.int .i64]
def RDisk.enc (x:RDisk):List D:=[.int x.room,.sl (x.lasts.map File.enc),.sl (x.changes.map DChange.enc),.bool x.down,.bool x.stops,.int x.left]
theorem RDisk.ty_len:RDisk.ty.length=6:=rfl
def OwnR (base:Nat) (w:World) (E:TypeId) (S:Nat→Prop) (fs:List Ty) (v:Value) (rows:List (List D)):Prop:=
 ∃ cells,w.ownsRow base E fs.length v rows.length cells∧∀ i,i<rows.length→RdL w (fun b=>S b∧v.ownBlock≠some b) fs ((cells.drop (i*fs.length)).take fs.length) (rows.getD i [])
theorem OwnR.nil (base:Nat) (w:World) (E:TypeId) (S:Nat→Prop) (fs:List Ty):OwnR base w E S fs (.slice none 0 0) []:=
 ⟨[],World.ownsRow_nil _ _ _ _,fun i h=>absurd h (by simp)⟩
theorem Same.ownsRow {w w':World} {base:Nat} {E:TypeId} {size:Nat} {v:Value} {n:Nat} {xs:List Value} {S:Nat→Prop} (h:w.ownsRow base E size v n xs) (hs:Same S w w') (hS:∀ g,v.ownBlock=some g→S g):w'.ownsRow base E size v n xs:=by
 refine ⟨h.1,?_⟩
 rcases h.2 with h2 | ⟨g,cap,cur,hv,hg,hh,r⟩
 ·exact Or.inl h2
 ·exact Or.inr ⟨g,cap,cur,hv,hg,(hs.block g (hS g (by subst hv;rfl)) (Array.getElem?_eq_some_iff.1 hh).1).trans hh,r⟩
theorem OwnR.same {base:Nat} {w w':World} {E:TypeId} {S T:Nat→Prop} {fs:List Ty} {v:Value} {rows:List (List D)} (h:OwnR base w E S fs v rows) (hs:Same T w w') (h1:∀ b,S b→T b) (h2:∀ b,v.ownBlock=some b→T b):OwnR base w' E S fs v rows:=by
 obtain ⟨cells,ho,hr⟩:=h
 exact ⟨cells,hs.ownsRow ho h2,fun i hi=>(hr i hi).same (hs.mono fun b hb=>h1 b hb.1)⟩
theorem OwnR.below {base:Nat} {w w':World} {E:TypeId} {S:Nat→Prop} {fs:List Ty} {v:Value} {rows:List (List D)} (h:OwnR base w E S fs v rows) (hb:Below w.heap.size w w'):OwnR base w' E S fs v rows:=
 h.same (Same.below (S:=fun _=>True) hb) (fun _ _=>trivial) (fun _ _=>trivial)
theorem OwnR.lt {base:Nat} {w:World} {E:TypeId} {S:Nat→Prop} {fs:List Ty} {v:Value} {rows:List (List D)} (h:OwnR base w E S fs v rows):∀ b,v.ownBlock=some b→base≤b∧b<w.heap.size:=by
 obtain ⟨cells,ho,_⟩:=h
 exact World.ownsRow.lt ho
theorem OwnR.form {base:Nat} {w:World} {E:TypeId} {S:Nat→Prop} {fs:List Ty} {v:Value} {rows:List (List D)} (h:OwnR base w E S fs v rows):∃ a c,v = .slice a rows.length c:=by
 obtain ⟨cells,⟨_,⟨rfl,hn⟩ | ⟨g,cap,cur,rfl,_⟩⟩,_⟩:=h
 ·exact ⟨none,0,by rw [hn]⟩
 ·exact ⟨_,_,rfl⟩
theorem OwnR.mono {base base':Nat} {w:World} {E:TypeId} {S T:Nat→Prop} {fs:List Ty} {v:Value} {rows:List (List D)} (h:OwnR base w E S fs v rows) (hb:base'≤base) (hs:∀ b,S b→T b):OwnR base' w E T fs v rows:=by
 obtain ⟨cells,ho,hr⟩:=h
 refine ⟨cells,⟨ho.1,?_⟩,fun i hi=>(hr i hi).mono fun b _ hb=>⟨hs b hb.1,hb.2⟩⟩
 rcases ho.2 with h2 | ⟨g,cap,cur,hv,hg,hh,r⟩
 ·exact Or.inl h2
 ·exact Or.inr ⟨g,cap,cur,hv,by omega,hh,r⟩
theorem Sl.mk {w:World} {S:Nat→Prop} {fs:List Ty} {b off c:Nat} {rows:List (List D)} (cells:List Value) (hn:0<rows.length) (hc:rows.length≤c) (hm:c≤maxLen) (h44:rows.length≤140737488355328) (hS:S b) (hb:b<w.heap.size)
  (hl:cells.length=rows.length*fs.length) (hcell:∀ m v,cells[m]? = some v→w.cell? ⟨b,off+m,none⟩=some v)
  (hr:∀ i,i<rows.length→RdL w S fs ((cells.drop (i*fs.length)).take fs.length) (rows.getD i [])) (hfz:∀ m,w.frozen? ⟨b,off+m,none⟩=false):Sl w S fs (some ⟨b,off,none⟩) rows.length c rows:=by
 have key:∀ i j,i<rows.length→j<fs.length→i*fs.length+j<cells.length:=by
  intro i j hi hj
  have:(i+1)*fs.length≤rows.length*fs.length:=Nat.mul_le_mul_right _ hi
  rw [Nat.add_mul] at this;omega
 refine .row (fun i j=>cells.getD (i*fs.length+j) undef) hn rfl hc hm h44 hS hb (fun i j hi hj=>?_) (fun i hi=>(hr i hi).lens.2) (fun i j hi hj=>?_) (fun i j _ _=>by rw [Nat.add_assoc];exact hfz _)
 ·have h1:=key i j hi hj
  rw [Nat.add_assoc]
  refine hcell _ _ ?_
  simp [List.getD,h1]
 ·have:=(hr i hi).at j hj
  have e:((cells.drop (i*fs.length)).take fs.length).getD j undef=cells.getD (i*fs.length+j) undef:=by
   simp [List.getD,hj]
  rwa [e] at this
theorem OwnR.slO {base:Nat} {w:World} {E:TypeId} {S:Nat→Prop} {fs:List Ty} {v:Value} {rows:List (List D)} (h:OwnR base w E S fs v rows) (T:Nat→Prop) (h1:∀ b,S b→T b) (h2:∀ b,base≤b→v.ownBlock=some b→T b) (h44:rows.length≤140737488355328) :
  ∃ a c,v = .slice a rows.length c∧Sl w T fs a rows.length c rows:=by
 obtain ⟨cells,⟨hl,⟨rfl,hn⟩ | ⟨g,cap,cur,rfl,hg,hh,hc,hm,hs,ht⟩⟩,hr⟩:=h
 ·have hx:rows=[]:=List.eq_nil_of_length_eq_zero hn
  subst hx
  exact ⟨none,0,rfl,.emp (fun _=>rfl) (by simp [maxLen])⟩
 ·refine ⟨_,_,rfl,?_⟩
  by_cases hp:0<rows.length
  ·refine Sl.mk cells hp hc hm h44 (h2 g hg rfl) (Array.getElem?_eq_some_iff.1 hh).1 hl (fun m u hu=>?_) (fun i hi=>(hr i hi).mono fun b _ hb=>h1 b hb.1) (fun m=>by simp [World.frozen?,hh])
   rw [← ht] at hu
   have hlt:m<rows.length*fs.length:=by
    rw [ht] at hu
    have:=(List.getElem?_eq_some_iff.1 hu).1
    omega
   rw [List.getElem?_take,if_pos hlt] at hu
   rw [Nat.zero_add]
   simp only [World.cell?,hh]
   rw [← Array.getElem?_toList];exact hu
  ·have hx:rows=[]:=List.eq_nil_of_length_eq_zero (by omega)
   subst hx
   exact .emp (fun e=>by simp at e) hm
theorem OwnR.sl {base:Nat} {w:World} {E:TypeId} {S:Nat→Prop} {fs:List Ty} {v:Value} {rows:List (List D)} (h:OwnR base w E S fs v rows) (T:Nat→Prop) (h1:∀ b,S b→T b) (h2:∀ b,base≤b→T b) (h44:rows.length≤140737488355328) :
  ∃ a c,v = .slice a rows.length c∧Sl w T fs a rows.length c rows:=h.slO T h1 (fun b hb _=>h2 b hb) h44
theorem OwnR.grows {base:Nat} {w w':World} {E:TypeId} {S:Nat→Prop} {fs:List Ty} {v v':Value} {rows ds:List (List D)} {cells news:List Value}
  (hr:∀ i,i<rows.length→RdL w (fun b=>S b∧v.ownBlock≠some b) fs ((cells.drop (i*fs.length)).take fs.length) (rows.getD i [])) (hcl:cells.length=rows.length*fs.length)
  (hn:∀ i,i<ds.length→RdL w (fun b=>S b∧v.ownBlock≠some b) fs ((news.drop (i*fs.length)).take fs.length) (ds.getD i []))
  (ho:w'.ownsRow base E fs.length v' (rows.length+ds.length) (cells++news)) (hg:w.grownBy w' v.ownBlock) (hat:v'.ownBlock=v.ownBlock∨v'.ownBlock=some w.heap.size):OwnR base w' E S fs v' (rows++ds):=by
 have up:∀ (cs:List Value) (d:List D),RdL w (fun b=>S b∧v.ownBlock≠some b) fs cs d→RdL w' (fun b=>S b∧v'.ownBlock≠some b) fs cs d:=by
  intro cs d h
  have h1:RdL w (fun b=>(S b∧v'.ownBlock≠some b)∧v.ownBlock≠some b) fs cs d:=h.mono fun b hb hs=>by
   refine ⟨⟨hs.1,?_⟩,hs.2⟩
   rcases hat with e | e
   ·rw [e];exact hs.2
   ·rw [e];intro e';cases e';omega
  have h2:=h1.same (w':=w') (Same.of_grown hg fun b hb e=>hb.2 e.symm)
  exact h2.mono fun b _ hs=>hs.1
 refine ⟨cells++news,by rw [List.length_append];exact ho,fun i hi=>?_⟩
 rw [List.length_append] at hi
 by_cases h:i<rows.length
 ·have h1:i*fs.length+fs.length≤cells.length:=by
   rw [hcl]
   have:(i+1)*fs.length≤rows.length*fs.length:=Nat.mul_le_mul_right _ h
   rw [Nat.add_mul] at this;omega
  have e1:((cells++news).drop (i*fs.length)).take fs.length=(cells.drop (i*fs.length)).take fs.length:=by
   rw [List.drop_append_of_le_length (by omega),List.take_append_of_le_length (by simp;omega)]
  have e2:(rows++ds).getD i []=rows.getD i []:=by simp [List.getD,List.getElem?_append_left h]
  rw [e1,e2]
  exact up _ _ (hr i h)
 ·have hi2:i=rows.length+(i-rows.length):=by omega
  generalize i-rows.length=m at hi2
  subst hi2
  have e1:(cells++news).drop ((rows.length+m)*fs.length)=news.drop (m*fs.length):=by
   rw [Nat.add_mul,← hcl,List.drop_append,List.drop_eq_nil_of_le (by omega),List.nil_append]
   congr 1;omega
  have e2:(rows++ds).getD (rows.length+m) []=ds.getD m []:=by simp [List.getD,List.getElem?_append_right]
  rw [e1,e2]
  exact up _ _ (hn m (by omega))
theorem zde {α:Type} (f:Nat→Nat→α) (n k:Nat):((List.range n).flatMap fun i=>(List.range k).map (f i)).length=n*k:=by
 induction n with
 | zero=>simp
 | succ n ih=>simp [List.range_succ,List.flatMap_append] at ih ⊢;rw [ih,Nat.add_mul];omega
theorem ziY {α:Type} (f:Nat→Nat→α) (n k:Nat):∀ i,i<n→(((List.range n).flatMap fun i=>(List.range k).map (f i)).drop (i*k)).take k=(List.range k).map (f i):=by
 induction n with
 | zero=>intro i hi;omega
 | succ n ih=>
  intro i hi
  have hl:=zde f n k
  rw [List.range_succ,List.flatMap_append]
  by_cases h:i<n
  ·have:(i+1)*k≤n*k:=Nat.mul_le_mul_right _ h
   rw [Nat.add_mul] at this
   rw [List.drop_append_of_le_length (by omega),List.take_append_of_le_length (by rw [List.length_drop];omega),ih i h]
  ·have:i=n:=by omega
   subst this
   rw [List.drop_append,List.drop_eq_nil_of_le (by omega),hl,Nat.sub_self]
   simp only [List.nil_append,List.drop_zero,List.flatMap_cons,List.flatMap_nil,List.append_nil]
   exact List.take_of_length_le (by simp)
theorem zgQ {α:Type} (f:Nat→Nat→α) (n k m:Nat) (u:α) (h:((List.range n).flatMap fun i=>(List.range k).map (f i))[m]? = some u):∃ i j,i<n∧j<k∧m=i*k+j∧u=f i j:=by
 have hm:=(List.getElem?_eq_some_iff.1 h).1
 rw [zde] at hm
 have hk:0<k:=by
  rcases Nat.eq_zero_or_pos k with h0 | h0
  ·subst h0;simp at hm
  ·exact h0
 have hi:m / k<n:=Nat.div_lt_of_lt_mul (by rw [Nat.mul_comm];exact hm)
 have hj:m % k<k:=Nat.mod_lt _ hk
 have hmm:m=(m / k)*k+m % k:=by rw [Nat.mul_comm];exact (Nat.div_add_mod m k).symm
 refine ⟨m / k,m % k,hi,hj,hmm,?_⟩
 have h1:=ziY f n k (m / k) hi
 have h2:((((List.range n).flatMap fun i=>(List.range k).map (f i)).drop (m / k*k)).take k)[m % k]? = some u:=by
  rw [List.getElem?_take,if_pos hj,List.getElem?_drop,← hmm];exact h
 rw [h1] at h2
 simp [hj] at h2
 exact h2.symm
theorem Rd.one {w:World} {S:Nat→Prop} {t:Ty} {v:Value} {d:D} (h:Rd w S t v d):v.oneCell'=true:=by
 cases h<;>rfl
theorem RdL.ones {w:World} {S:Nat→Prop}:∀ {ts:List Ty} {vs:List Value} {ds:List D},RdL w S ts vs ds→∀ u∈vs,u.oneCell'=true
 | [],[],[],_,u,hu=>by simp at hu
 | _::ts,_::vs,_::ds,h,u,hu=>by
  rcases List.mem_cons.1 hu with e | hu
  ·subst e;exact h.1.one
  ·exact RdL.ones (ts:=ts) (vs:=vs) (ds:=ds) h.2 u hu
 | _::_,[],_,h,_,_=>h.elim
 | _::_,_::_,[],h,_,_=>h.elim
 | [],_::_,_,h,_,_=>h.elim
 | [],[],_::_,h,_,_=>h.elim
def Info (P:Program) (E:TypeId) (k bytes:Nat):Prop:=∃ (i:TypeInfo) (z:Value),P.info? E=some i∧i.zero=some z∧i.size=k∧i.bytes=bytes∧z.cells.size=k
theorem zfU {P:Program} {w w2:World} {base:Nat} {t ty E:TypeId} {S:Nat→Prop} {fs:List Ty} {k bytes:Nat} (hk:fs.length=k) (hk0:0<k) (hkb:k≤64) (hbb:bytes≤1024) (ht:P.underlying t=some (.slice E)) (hi:Info P E k bytes)
  {v:Value} {rows:List (List D)} (hown:OwnR base w E S fs v rows) (hw2:Below w.heap.size w w2) (ad:Addr) (m c:Nat) (news:List Value) (ds:List (List D)) (hdm:ds.length=m)
  (hl:news.length=m*k) (hnews:∀ j u,news[j]? = some u→w2.cell? (ad.add j)=some u) (h1:∀ u∈news,u.oneCell'=true)
  (hn:∀ i,i<ds.length→RdL w2 (fun b=>S b∧v.ownBlock≠some b) fs ((news.drop (i*fs.length)).take fs.length) (ds.getD i [])) (hb:(rows.length+m)*1024≤140737488355328) (hbase:base≤w2.heap.size) :
  ∃ v' w',(Builtin.append_ #[t,t] ty #[v,.slice (some ad) m c]).run P w2 = .ok v' w'∧OwnR base w' E S fs v' (rows++ds)∧w2.grownBy w' v.ownBlock∧(v'.ownBlock=v.ownBlock∨v'.ownBlock=some w2.heap.size):=by
 subst hk
 obtain ⟨i,z,e1,e2,e3,e4,e5⟩:=hi
 obtain ⟨cells,ho,hr⟩:=hown.below hw2
 have hbb2:(rows.length+m)*bytes≤140737488355328:=Nat.le_trans (Nat.mul_le_mul_left _ hbb) hb
 obtain ⟨v',w',q1,q2,q3,_,q5⟩:=run_append_own_at (P:=P) w2 base t ty E i z fs.length bytes ht e1 e2 e3 e4 e5 hk0 v rows.length cells ho ad m c news hl hnews h1 (by unfold maxLen;omega) hbb2 hbase
 exact ⟨v',w',q1,OwnR.grows hr ho.1 hn (by rw [hdm];exact q2) q3 q5,q3,q5⟩
theorem zl0 {P:Program} {w2:World} {o:Oper} {a:Act} {K:Act→World→Prop} {Q:Exit→Act→World→Prop} (s x:Operand) (t:TypeId)
  (ho:o.op = .call {callee:= .builtin .append,args:= #[s,x],argTypes:= #[t,t]}) (v xv:Value) (hs:a.eval s=v) (hx:a.eval x=xv)
  (R:Value→World→Prop) (hrun:∃ v' w',(Builtin.append_ #[t,t] o.type #[v,xv]).run P w2 = .ok v' w'∧R v' w') (h:∀ v' w',R v' w'→K (a.put o.dst v') w'):o.wp P a w2 K Q:=by
 obtain ⟨v',w',hrun,hR⟩:=hrun
 unfold Oper.wp execOp
 simp only [ho,resolve,invoke,builtin,Sem.run_bind,Sem.run_pure,Result.andThen_ok,List.map_toArray,List.map_cons,List.map_nil,hs,hx,hrun]
 exact h v' w' hR
def Ty.flat:Ty→Bool
 | .sl _=>false
 | _=>true
theorem Rd.any {w:World} {S T:Nat→Prop} {t:Ty} {v:Value} {d:D} (hf:t.flat=true) (h:Rd w S t v d):Rd w T t v d:=by
 cases h with
 | int h=>exact .int h
 | bool=>exact .bool
 | str h=>exact .str h
 | emp _ _=>simp [Ty.flat] at hf
 | row _ _ _ _ _ _ _ _ _ _ _ _=>simp [Ty.flat] at hf
def nu (xs:List Int) (i:Nat):Int:=xs.getD i 0
theorem SlI.cell {w:World} {S:Nat→Prop} {b off n c i:Nat} {xs:List Int} (h:SlI w S (some ⟨b,off,none⟩) n c xs) (hi:i<n):b<w.heap.size∧w.cell? ⟨b,off+i,none⟩=some (.int .i64 (nu xs i))∧I64 (nu xs i):=by
 have hl:=h.len
 rw [zay] at hl
 obtain ⟨b2,off2,e,hS,hb,vals,hc,hr⟩:=h.rowAt (by omega)
 simp only [Option.some.injEq,Addr.mk.injEq,and_true] at e
 obtain ⟨rfl,rfl⟩:=e
 have h1:=(hr i hi).2 0 (by decide)
 have he:((ints xs).getD i []).getD 0 default = .int (nu xs i):=by simp [ints,List.getD,nu,show i<xs.length by omega]
 rw [he] at h1
 obtain ⟨e1,e2⟩:=Rd.i64 h1
 have h2:=hc i 0 hi (by decide)
 simp only [List.length_cons,List.length_nil,Nat.zero_add,Nat.mul_one,Nat.add_zero] at h2
 exact ⟨hb,by rw [h2,e1],e2⟩
theorem SlI.i64 {w:World} {S:Nat→Prop} {a:Option Addr} {n c:Nat} {xs:List Int} (h:SlI w S a n c xs):∀ x∈xs,I64 x:=by
 intro x hx
 obtain ⟨i,hi,rfl⟩:=List.mem_iff_getElem.1 hx
 have hl:=h.len
 rw [zay] at hl
 obtain ⟨b,off,rfl⟩:=h.addr (by omega)
 have:=(SlI.cell h (show i<n by omega)).2.2
 simpa [nu,List.getD,hi] using this
def zb3 (x y:ByteArray):Bool:=Op.bytesLess x.toList y.toList
def leN (x y:ByteArray):Bool:=zb3 x y||x.toList==y.toList
def eqN (x y:ByteArray):Bool:=x.toList==y.toList
def zaj:List File→ByteArray→Int
 | [],_=> -1
 | x::l,n=>if eqN x.name n then 0 else (if zaj l n = -1 then -1 else zaj l n+1)
def zap (f:File):List File→List File
 | []=>[f]
 | x::l=>if leN f.name x.name then f::(x::l).filter (fun y=>!eqN y.name f.name) else x::zap f l
def za6 (l:List File) (n:ByteArray):List File:=l.filter (fun y=>!eqN y.name n)
def zaf (l:List File) (n:ByteArray):List Int:=if zaj l n<0 then [] else (l.getD (zaj l n).toNat default).bytes
def zaB (old:List Int) (at_:Nat) (b:List Int):List Int:=(List.range at_).map (fun i=>old.getD i 0)++b++old.drop (at_+b.length)
def zad (l:List File) (c:DChange):List File:=
 if c.kind=1 then zap ⟨c.file,zaB (zaf l c.file) c.at_.toNat c.bytes⟩ l
 else if c.kind=2 then (if zaj l c.file<0∨((zaf l c.file).length:Int)≤c.at_ then l else zap ⟨c.file,(zaf l c.file).take c.at_.toNat⟩ l)
 else za6 l c.file
def zaa (d:RDisk):List File:=d.changes.foldl zad d.lasts
def zae:List File→ByteArray→Option (List Int)
 | [],_=>none
 | x::l,n=>if eqN x.name n then some x.bytes else zae l n
def SortF (l:List File):Prop:=l.Pairwise fun a b=>zb3 a.name b.name=true
abbrev TDi:TypeId:=58
abbrev TCh:TypeId:=66
abbrev TFi:TypeId:=55
abbrev TBy:TypeId:=30
abbrev TSt:TypeId:=9
abbrev TIn:TypeId:=3
def ptrV (p:Nat):Value:= .pointer (some ⟨p,0,none⟩)
abbrev BRd (w:World) (S:Nat→Prop) (v:Value) (bs:List Int):Prop:=Rd w S (.sl [.int .u8]) v (.sl (ints bs))
def kS (s:ByteArray):Lit:= .string s.data.toList
theorem undS:Try.prog.underlying TSt=some .string:=by kernel_rfl
abbrev NmOk (s:ByteArray):Prop:=s.size≤140737488355328
def RV (v:Value):Option (DataW Value×List MemPlace):=some (.held v,[])
structure FilesAt (w:World) (S:Nat→Prop) (mb:Nat) (M:List File):Prop where
 D:∃ D:DataW Value,w.ownsMap Try.prog TSt RV mb M.length D∧Maps.size D=M.length∧∀ n,Maps.has D (kS n)=(zae M n).isSome∧∀ bs,zae M n=some bs→∃ v,(∀ z,D.atKey (kS n) z = .held v)∧BRd w S v bs
theorem FilesAt.blk {w:World} {S:Nat→Prop} {mb:Nat} {M:List File} (h:FilesAt w S mb M):∃ es c,w.heap[mb]? = some (.map es c):=by
 obtain ⟨D,⟨es,c,hb,_⟩,_⟩:=h.D
 exact ⟨es,c,hb⟩
theorem FilesAt.lt {w:World} {S:Nat→Prop} {mb:Nat} {M:List File} (h:FilesAt w S mb M):mb<w.heap.size:=by
 obtain ⟨es,c,hb⟩:=h.blk
 exact (Array.getElem?_eq_some_iff.1 hb).1
theorem FilesAt.kept {w w':World} {S T:Nat→Prop} {mb:Nat} {M:List File} (h:FilesAt w S mb M) (e:w'.heap[mb]? = w.heap[mb]?) (hs:Same S w w') (hT:∀ b,b<w.heap.size→S b→T b):FilesAt w' T mb M:=by
 obtain ⟨D,⟨es,c,hb,F,hsz,hD⟩,h2,h3⟩:=h.D
 refine ⟨D,⟨es,c,e.trans hb,F,hsz,hD⟩,h2,fun n=>⟨(h3 n).1,fun bs hbs=>?_⟩⟩
 obtain ⟨v,g1,g2⟩:=(h3 n).2 bs hbs
 exact ⟨v,g1,(g2.here.same (hs.mono fun b hb=>hb.1)).mono fun b _ hb=>hT b hb.2 hb.1⟩
abbrev fWr:FuncId:=54
abbrev fCu:FuncId:=48
abbrev fRm:FuncId:=49
inductive DoAt (w:World) (S:Nat→Prop) (c:DChange):Value→Prop
 | wr {p1 p2 p3:Nat} {bv:Value}:c.kind=1→(S p1∧S p2∧S p3)→Blk w p1 TSt #[.string c.file]→Blk w p2 TIn #[.int .i64 c.at_]→Blk w p3 TBy #[bv]→BRd w S bv c.bytes→DoAt w S c (.func (.func fWr) #[] #[ptrV p1,ptrV p2,ptrV p3])
 | cu {p1 p2:Nat}:c.kind=2→(S p1∧S p2)→Blk w p1 TSt #[.string c.file]→Blk w p2 TIn #[.int .i64 c.at_]→DoAt w S c (.func (.func fCu) #[] #[ptrV p1,ptrV p2])
 | rm {p1:Nat}:c.kind=3→S p1→Blk w p1 TSt #[.string c.file]→DoAt w S c (.func (.func fRm) #[] #[ptrV p1])
theorem DoAt.kept {w w':World} {S T:Nat→Prop} {c:DChange} {v:Value} (h:DoAt w S c v) (hs:Same S w w') (hT:∀ b,b<w.heap.size→S b→T b):DoAt w' T c v:=by
 have rd:∀ {u:Value} {bs:List Int},BRd w S u bs→BRd w' T u bs:=fun g=>(g.here.same (hs.mono fun b hb=>hb.1)).mono fun b _ hb=>hT b hb.2 hb.1
 cases h with
 | wr k hp b1 b2 b3 hr=>exact .wr k ⟨hT _ b1.lt hp.1,hT _ b2.lt hp.2.1,hT _ b3.lt hp.2.2⟩ (b1.same hs hp.1) (b2.same hs hp.2.1) (b3.same hs hp.2.2) (rd hr)
 | cu k hp b1 b2=>exact .cu k ⟨hT _ b1.lt hp.1,hT _ b2.lt hp.2⟩ (b1.same hs hp.1) (b2.same hs hp.2)
 | rm k hp b1=>exact .rm k (hT _ b1.lt hp) (b1.same hs hp)
def chAt (c:DChange):Int:=if c.kind=1 then c.at_ else 0
def chBy (c:DChange):List Int:=if c.kind=1 then c.bytes else []
structure ChAt (w:World) (S:Nat→Prop) (c:DChange) (cs:List Value):Prop where
 D:∃ dv bv,cs=[.string c.file,dv,.int .i64 (chAt c),bv,.bool (c.kind==1)]∧DoAt w S c dv∧BRd w S bv (chBy c)
 nm:NmOk c.file
 at0:0≤c.at_∧c.at_≤10000000
 by0:c.bytes.length≤10000000
theorem ChAt.kept {w w':World} {S T:Nat→Prop} {c:DChange} {cs:List Value} (h:ChAt w S c cs) (hs:Same S w w') (hT:∀ b,b<w.heap.size→S b→T b):ChAt w' T c cs:=by
 obtain ⟨dv,bv,e,h1,h2⟩:=h.D
 exact ⟨⟨dv,bv,e,h1.kept hs hT,(h2.here.same (hs.mono fun b hb=>hb.1)).mono fun b _ hb=>hT b hb.2 hb.1⟩,h.nm,h.at0,h.by0⟩
theorem ChAt.len {w:World} {S:Nat→Prop} {c:DChange} {cs:List Value} (h:ChAt w S c cs):cs.length=5:=by
 obtain ⟨dv,bv,e,_⟩:=h.D
 rw [e];rfl
def zgr:List File→List DChange→Prop
 | _,[]=>True
 | l,c::cs=>(c.kind=1→c.at_≤((zae l c.file).getD []).length)∧zgr (zad l c) cs
structure DkI (d:RDisk):Prop where
 sl:SortF d.lasts
 fb:∀ x∈d.lasts,x.bytes.length≤4194304
 ch:∀ c∈d.changes,0≤c.at_∧c.at_+c.bytes.length≤4194304∧NmOk c.file
 nm:∀ x∈d.lasts,NmOk x.name
 np:zgr d.lasts d.changes
 rm:1≤d.room∧d.room≤4194304
 i64:I64 d.left
def SB (F:Nat→Prop) (b m1 m2:Nat) (v:Value) (x:Nat):Prop:=F x∧x≠b∧x≠m1∧x≠m2∧v.ownBlock≠some x
def dkCs (d:RDisk) (m1 m2:Nat) (v:Value):Array Value:= #[.int .i64 d.room,.map (some m1),.map (some m2),v,.bool d.down,.bool d.stops,.int .i64 d.left]
structure DkAt (w:World) (b:Nat) (d:RDisk) (F:Nat→Prop) (m1 m2:Nat) (v:Value) (rows:List (List Value)):Prop where
 blk:Blk w b TDi (dkCs d m1 m2 v)
 la:FilesAt w (SB F b m1 m2 v) m1 d.lasts
 no:FilesAt w (SB F b m1 m2 v) m2 (zaa d)
 row:w.ownsRow 0 TCh 5 v d.changes.length rows.flatten
 rl:rows.length=d.changes.length
 ch:∀ i,i<d.changes.length→ChAt w (SB F b m1 m2 v) (d.changes.getD i default) (rows.getD i [])
 fl:∀ x,F x→x<w.heap.size
 fb:F b
 f1:F m1
 f2:F m2
 fv:∀ g,v.ownBlock=some g→F g
 mm:m1≠m2
 inv:DkI d
structure DkOk (w:World) (b:Nat) (d:RDisk) (F:Nat→Prop):Prop where
 o:∃ m1 m2 v rows,DkAt w b d F m1 m2 v rows
theorem zan {w w':World} {v:Value} {n:Nat} {xs:List Value} (h:w.ownsRow 0 TCh 5 v n xs) (e:∀ g,v.ownBlock=some g→w'.heap[g]? = w.heap[g]?):w'.ownsRow 0 TCh 5 v n xs:=by
 refine ⟨h.1,?_⟩
 rcases h.2 with h2 | ⟨g,cap,cur,rfl,h3,h4,h5⟩
 ·exact .inl h2
 ·exact .inr ⟨g,cap,cur,rfl,h3,(e g rfl).trans h4,h5⟩
theorem DkOk.lt {w:World} {b:Nat} {d:RDisk} {F:Nat→Prop} (h:DkOk w b d F) {x:Nat} (hx:F x):x<w.heap.size:=by
 obtain ⟨m1,m2,v,rows,h⟩:=h.o
 exact h.fl x hx/-! where the blocks are as they were -/
theorem zfw {w w':World} {b:Nat} (e:w'.heap[b]? = w.heap[b]?) (h:b<w.heap.size):b<w'.heap.size:=by
 rcases Nat.lt_or_ge b w'.heap.size with h1 | h1
 ·exact h1
 ·rw [Array.getElem?_eq_none h1,Array.getElem?_eq_getElem h] at e
  cases e
theorem Rd.eqs {w w':World} {S:Nat→Prop} {t:Ty} {v:Value} {d:D} (h:Rd w S t v d) (hs:∀ b,S b→b<w.heap.size→w'.heap[b]? = w.heap[b]?):Rd w' S t v d:=by
 induction h with
 | int h=>exact .int h
 | bool=>exact .bool
 | str h=>exact .str h
 | emp h h'=>exact .emp h h'
 | row vals h1 h2 h3 h4 h5 h6 h7 h8 h9 _ h11 ih=>
  exact .row vals h1 h2 h3 h4 h5 h6 (zfw (hs _ h6 h7) h7) (fun i j hi hj=>by rw [World.cell?_of_block (hs _ h6 h7)];exact h8 i j hi hj) h9 ih (fun i j hi hj=>by rw [World.frozen?_of_block (hs _ h6 h7)];exact h11 i j hi hj)
theorem FilesAt.eqs {w w':World} {S:Nat→Prop} {mb:Nat} {M:List File} (h:FilesAt w S mb M) (e:w'.heap[mb]? = w.heap[mb]?) (hs:∀ b,S b→b<w.heap.size→w'.heap[b]? = w.heap[b]?):FilesAt w' S mb M:=by
 obtain ⟨D,⟨es,c,hb,F,hsz,hD⟩,h2,h3⟩:=h.D
 refine ⟨D,⟨es,c,e.trans hb,F,hsz,hD⟩,h2,fun n=>⟨(h3 n).1,fun bs hbs=>?_⟩⟩
 obtain ⟨v,g1,g2⟩:=(h3 n).2 bs hbs
 exact ⟨v,g1,g2.eqs hs⟩
theorem DoAt.eqs {w w':World} {S:Nat→Prop} {c:DChange} {v:Value} (h:DoAt w S c v) (hs:∀ b,S b→b<w.heap.size→w'.heap[b]? = w.heap[b]?):DoAt w' S c v:=by
 have bx:∀ {p:Nat} {t:TypeId} {cs:Array Value},S p→Blk w p t cs→Blk w' p t cs:=fun hp hb=>(hs _ hp hb.lt).trans hb
 cases h with
 | wr k hp b1 b2 b3 hr=>exact .wr k hp (bx hp.1 b1) (bx hp.2.1 b2) (bx hp.2.2 b3) (hr.eqs hs)
 | cu k hp b1 b2=>exact .cu k hp (bx hp.1 b1) (bx hp.2 b2)
 | rm k hp b1=>exact .rm k hp (bx hp b1)
theorem ChAt.eqs {w w':World} {S:Nat→Prop} {c:DChange} {cs:List Value} (h:ChAt w S c cs) (hs:∀ b,S b→b<w.heap.size→w'.heap[b]? = w.heap[b]?):ChAt w' S c cs:=by
 obtain ⟨dv,bv,e,h1,h2⟩:=h.D
 exact ⟨⟨dv,bv,e,h1.eqs hs,h2.eqs hs⟩,h.nm,h.at0,h.by0⟩
theorem DkOk.eqs {w w':World} {b:Nat} {d:RDisk} {F:Nat→Prop} (h:DkOk w b d F) (e:∀ x,F x→w'.heap[x]? = w.heap[x]?):DkOk w' b d F:=by
 obtain ⟨m1,m2,v,rows,h⟩:=h.o
 have hs:∀ x,SB F b m1 m2 v x→x<w.heap.size→w'.heap[x]? = w.heap[x]? := fun x hx _=>e x hx.1
 exact ⟨m1,m2,v,rows,(e b h.fb).trans h.blk,h.la.eqs (e m1 h.f1) hs,h.no.eqs (e m2 h.f2) hs,zan h.row fun g hg=>e g (h.fv g hg),h.rl,fun i hi=>(h.ch i hi).eqs hs,fun x hx=>zfw (e x hx) (h.fl x hx),h.fb,h.f1,h.f2,h.fv,h.mm,h.inv⟩
inductive OD
 | no
 | disk (d:RDisk)
def OD.pr:OD→World→(Nat→Prop)→Nat→Prop
 | .no,_,_,_=>False
 | .disk d,w,F,b=>DkOk w b d F
theorem OD.lt:∀ {o:OD} {w:World} {F:Nat→Prop} {b x:Nat},o.pr w F b→F x→x<w.heap.size
 | .no,_,_,_,_,h,_=>h.elim
 | .disk _,_,_,_,_,h,hx=>DkOk.lt h hx
theorem OD.frame:∀ {o:OD} {w w':World} {F:Nat→Prop} {b:Nat},o.pr w F b→(∀ x,F x→w'.heap[x]? = w.heap[x]?)→o.pr w' F b
 | .no,_,_,_,_,h,_=>h.elim
 | .disk _,_,_,_,_,h,e=>DkOk.eqs h e
def OD.ite (c:Bool):OD→OD→Option OD
 | .no,.no=>some .no
 | .disk L,.disk M=>some (.disk (if c then L else M))
 | _,_=>none
theorem OD.ite_t:∀ {a b o:OD},OD.ite true a b=some o→o=a
 | .no,.no,.no,_=>rfl
 | .disk _,.disk _,_,h=>(Option.some.inj h).symm
theorem OD.ite_f:∀ {a b o:OD},OD.ite false a b=some o→o=b
 | .no,.no,.no,_=>rfl
 | .disk _,.disk _,_,h=>(Option.some.inj h).symm
def OD.eqP:OD→OD→Option Prop
 | .no,.no=>some True
 | .disk L,.disk M=>some (L=M)
 | _,_=>none
theorem OD.eqP_ok:∀ {a b:OD} {p:Prop},OD.eqP a b=some p→p→a=b
 | .no,.no,_,_,_=>rfl
 | .disk L,.disk M,_,h,hp=>by
  have e:(L=M)=_:=Option.some.inj h
  rw [← e] at hp
  rw [hp]
end Go.Proofs.Ytfccndnnpkiajaa
namespace Go.Proofs.Ytfccndnnpkiajaa
open Go.RowKit Go.ChangeShapes Go.WideShapes Go.Deep
inductive RL
 | rInts (l:List Int)
 | rBytes (l:List Int)
 | rStrs (l:List ByteArray)
 | rBools (l:List Bool)
 | rFile (l:List File)
 | rDChange (l:List DChange)
 | rDOp (l:List DOp)
def RL.tys:RL→List Ty
 | .rInts l=>[.int .i64]
 | .rBytes l=>[.int .u8]
 | .rStrs l=>[.str]
 | .rBools l=>[.bool]
 | .rFile l=>File.ty
 | .rDChange l=>DChange.ty
 | .rDOp l=>DOp.ty
def RL.rows:RL→List (List D)
 | .rInts l=>ints l
 | .rBytes l=>ints l
 | .rStrs l=>strs l
 | .rBools l=>zbk l
 | .rFile l=>l.map File.enc
 | .rDChange l=>l.map DChange.enc
 | .rDOp l=>l.map DOp.enc
def RL.len:RL→Nat
 | .rInts l=>l.length
 | .rBytes l=>l.length
 | .rStrs l=>l.length
 | .rBools l=>l.length
 | .rFile l=>l.length
 | .rDChange l=>l.length
 | .rDOp l=>l.length
def RL.emp:RL→RL
 | .rInts l=> .rInts []
 | .rBytes l=> .rBytes []
 | .rStrs l=> .rStrs []
 | .rBools l=> .rBools []
 | .rFile l=> .rFile []
 | .rDChange l=> .rDChange []
 | .rDOp l=> .rDOp []
def RL.take:RL→Nat→RL
 | .rInts l,n=> .rInts (l.take n)
 | .rBytes l,n=> .rBytes (l.take n)
 | .rStrs l,n=> .rStrs (l.take n)
 | .rBools l,n=> .rBools (l.take n)
 | .rFile l,n=> .rFile (l.take n)
 | .rDChange l,n=> .rDChange (l.take n)
 | .rDOp l,n=> .rDOp (l.take n)
def RL.drop:RL→Nat→RL
 | .rInts l,n=> .rInts (l.drop n)
 | .rBytes l,n=> .rBytes (l.drop n)
 | .rStrs l,n=> .rStrs (l.drop n)
 | .rBools l,n=> .rBools (l.drop n)
 | .rFile l,n=> .rFile (l.drop n)
 | .rDChange l,n=> .rDChange (l.drop n)
 | .rDOp l,n=> .rDOp (l.drop n)
def RL.app:RL→RL→Option RL
 | .rInts l,.rInts m=>some (.rInts (l++m))
 | .rBytes l,.rBytes m=>some (.rBytes (l++m))
 | .rStrs l,.rStrs m=>some (.rStrs (l++m))
 | .rBools l,.rBools m=>some (.rBools (l++m))
 | .rFile l,.rFile m=>some (.rFile (l++m))
 | .rDChange l,.rDChange m=>some (.rDChange (l++m))
 | .rDOp l,.rDOp m=>some (.rDOp (l++m))
 | _,_=>none
def RL.ite (b:Bool):RL→RL→Option RL
 | .rInts l,.rInts m=>some (.rInts (if b then l else m))
 | .rBytes l,.rBytes m=>some (.rBytes (if b then l else m))
 | .rStrs l,.rStrs m=>some (.rStrs (if b then l else m))
 | .rBools l,.rBools m=>some (.rBools (if b then l else m))
 | .rFile l,.rFile m=>some (.rFile (if b then l else m))
 | .rDChange l,.rDChange m=>some (.rDChange (if b then l else m))
 | .rDOp l,.rDOp m=>some (.rDOp (if b then l else m))
 | _,_=>none
inductive SV
 | any
 | int (k:IntKind) (n:Int)
 | bool (b:Bool)
 | str (s:ByteArray)
 | nil
 | np
 | sl (ls:List Nat) (r:RL)
 | own (t:Nat)
 | ptr (t off:Nat)
 | mp (t:Nat)
 | el (ls:List Nat) (r:RL) (i off:Nat)
 | oel (t sz i off:Nat)
 | agg (vs:List SV)
 | tup (vs:List SV)
 | fn (f:Nat)
 | clo (f:Nat) (cs:List SV)
 | rp (ls:List Nat) (T:Nat) (cs:List SV) (off:Nat)
 | gd (b:Bool) (v:SV)
 | ub (p q:Prop)
 | ro (ls:List Nat) (o:OD)
instance:Inhabited SV:=⟨.any⟩
def File.svs (ls:List Nat) (x:File):List SV:=[.str x.name,.sl ls (.rBytes x.bytes)]
def DChange.svs (ls:List Nat) (x:DChange):List SV:=[.int .i64 x.kind,.str x.file,.int .i64 x.at_,.sl ls (.rBytes x.bytes)]
def DOp.svs (ls:List Nat) (x:DOp):List SV:=[.int .i64 x.kind,.str x.file,.int .i64 x.at_,.sl ls (.rBytes x.bytes),.sl ls (.rBools x.keep),.int .u8 x.by_]
def RDisk.svs (ls:List Nat) (x:RDisk):List SV:=[.int .i64 x.room,.sl ls (.rFile x.lasts),.sl ls (.rDChange x.changes),.bool x.down,.bool x.stops,.int .i64 x.left]
def RL.elem (ls:List Nat):RL→Nat→List SV
 | .rInts l,i=>[.int .i64 (l.getD i 0)]
 | .rBytes l,i=>[.int .u8 (l.getD i 0)]
 | .rStrs l,i=>[.str (l.getD i default)]
 | .rBools l,i=>[.bool (l.getD i default)]
 | .rFile l,i=>File.svs ls (l.getD i default)
 | .rDChange l,i=>DChange.svs ls (l.getD i default)
 | .rDOp l,i=>DOp.svs ls (l.getD i default)
def SV.asInts:SV→Option (List Int×List Nat)
 | .sl ls (.rInts l)=>some (l,ls)
 | .nil=>some ([],[])
 | _=>none
def SV.asBytes:SV→Option (List Int×List Nat)
 | .sl ls (.rBytes l)=>some (l,ls)
 | .nil=>some ([],[])
 | _=>none
def SV.asStrs:SV→Option (List ByteArray×List Nat)
 | .sl ls (.rStrs l)=>some (l,ls)
 | .nil=>some ([],[])
 | _=>none
def SV.asBools:SV→Option (List Bool×List Nat)
 | .sl ls (.rBools l)=>some (l,ls)
 | .nil=>some ([],[])
 | _=>none
def SV.asFile:SV→Option (List File×List Nat)
 | .sl ls (.rFile l)=>some (l,ls)
 | .nil=>some ([],[])
 | _=>none
def SV.asDChange:SV→Option (List DChange×List Nat)
 | .sl ls (.rDChange l)=>some (l,ls)
 | .nil=>some ([],[])
 | _=>none
def SV.asDOp:SV→Option (List DOp×List Nat)
 | .sl ls (.rDOp l)=>some (l,ls)
 | .nil=>some ([],[])
 | _=>none
def File.of:List SV→Option (File×List Nat)
 | [.str v0,s1]=>match s1.asBytes with | some (v1,m1)=>(some (⟨v0,v1⟩,m1)) | none=>none
 | _=>none
def DChange.of:List SV→Option (DChange×List Nat)
 | [.int .i64 v0,.str v1,.int .i64 v2,s3]=>match s3.asBytes with | some (v3,m3)=>(some (⟨v0,v1,v2,v3⟩,m3)) | none=>none
 | _=>none
def DOp.of:List SV→Option (DOp×List Nat)
 | [.int .i64 v0,.str v1,.int .i64 v2,s3,s4,.int .u8 v5]=>match s3.asBytes with | some (v3,m3)=>(match s4.asBools with | some (v4,m4)=>(some (⟨v0,v1,v2,v3,v4,v5⟩,m3++m4)) | none=>none) | none=>none
 | _=>none
def RDisk.of:List SV→Option (RDisk×List Nat)
 | [.int .i64 v0,s1,s2,.bool v3,.bool v4,.int .i64 v5]=>match s1.asFile with | some (v1,m1)=>(match s2.asDChange with | some (v2,m2)=>(some (⟨v0,v1,v2,v3,v4,v5⟩,m1++m2)) | none=>none) | none=>none
 | _=>none
def RL.snoc:RL→List SV→Option (RL×List Nat)
 | .rInts l,[.int .i64 n]=>some (.rInts (l++[n]),[])
 | .rBytes l,[.int .u8 n]=>some (.rBytes (l++[n]),[])
 | .rStrs l,[.str n]=>some (.rStrs (l++[n]),[])
 | .rBools l,[.bool n]=>some (.rBools (l++[n]),[])
 | .rFile l,cs=>match File.of cs with | some (x,m)=>some (.rFile (l++[x]),m) | none=>none
 | .rDChange l,cs=>match DChange.of cs with | some (x,m)=>some (.rDChange (l++[x]),m) | none=>none
 | .rDOp l,cs=>match DOp.of cs with | some (x,m)=>some (.rDOp (l++[x]),m) | none=>none
 | .rInts _,_=>none
 | .rBytes _,_=>none
 | .rStrs _,_=>none
 | .rBools _,_=>none
def RL.put:RL→Nat→List SV→Option (RL×List Nat)
 | .rInts l,i,[.int .i64 n]=>some (.rInts (l.set i n),[])
 | .rBytes l,i,[.int .u8 n]=>some (.rBytes (l.set i n),[])
 | .rStrs l,i,[.str n]=>some (.rStrs (l.set i n),[])
 | .rBools l,i,[.bool n]=>some (.rBools (l.set i n),[])
 | .rFile l,i,cs=>match File.of cs with | some (x,m)=>some (.rFile (l.set i x),m) | none=>none
 | .rDChange l,i,cs=>match DChange.of cs with | some (x,m)=>some (.rDChange (l.set i x),m) | none=>none
 | .rDOp l,i,cs=>match DOp.of cs with | some (x,m)=>some (.rDOp (l.set i x),m) | none=>none
 | .rInts _,_,_=>none
 | .rBytes _,_,_=>none
 | .rStrs _,_,_=>none
 | .rBools _,_,_=>none
structure Env where
 β:Nat→Option Value
 σ:Nat→Nat→Prop
 φ:Nat→Nat→Prop
def Env.set (E:Env) (ls:List Nat) (b:Nat):Prop:=∃ i,i∈ls∧E.σ i b
mutual
/-- v is as sv says -/
def DenV (E:Env) (w:World):SV→Value→Prop
 | .any,_=>True
 | .int k n,v=>v = .int k n∧(Lit.int k n).wf=true
 | .bool b,v=>v = .bool b
 | .str s,v=>v = .string s∧s.size≤140737488355328
 | .nil,v=>v = .slice none 0 0
 | .np,v=>v = .pointer none
 | .sl ls r,v=>Rd w (E.set ls) (.sl r.tys) v (.sl r.rows)
 | .own t,v=>E.β t=some v∧v.oneCell'=true
 | .ptr t off,v=>∃ b,E.β t=some (.pointer (some ⟨b,0,none⟩))∧v = .pointer (some ⟨b,off,none⟩)
 | .mp t,v=>∃ b,E.β t=some (.pointer (some ⟨b,0,none⟩))∧v = .map (some b)
 | .el ls r i off,v=>i<r.len∧∃ b o c,v = .pointer (some ⟨b,o+i*r.tys.length+off,none⟩)∧Rd w (E.set ls) (.sl r.tys) (.slice (some ⟨b,o,none⟩) r.len c) (.sl r.rows)
 | .oel t sz i off,v=>∃ b n c,E.β t=some (.slice (some ⟨b,0,none⟩) n c)∧v = .pointer (some ⟨b,i*sz+off,none⟩)
 | .agg vs,v=>∃ xs,v = .agg xs.toArray∧DenL E w vs xs
 | .tup vs,v=>∃ xs,v = .tuple xs.toArray∧DenL E w vs xs
 | .fn f,v=>v = .func (.func f) #[] #[]
 | .clo f cs,v=>∃ xs,v = .func (.func f) #[] xs.toArray∧DenL E w cs xs
 | .rp ls T cs off,v=>∃ b xs,v = .pointer (some ⟨b,off,none⟩)∧E.set ls b∧w.heap[b]? = some (.cells xs.toArray T (0,0))∧DenL E w cs xs
 | .gd b s,v=>(b=true→DenV E w s v)∧(b=false→v=undef)
 | .ub p q,v=>∃ b,v = .bool b∧(b=true→p)∧(b=false→q)
 | .ro ls o,v=>∃ (b:Nat) (F:Nat→Prop),v = .pointer (some ⟨b,0,none⟩)∧o.pr w F b∧∀ x,F x→E.set ls x
def DenL (E:Env) (w:World):List SV→List Value→Prop
 | [],[]=>True
 | s::ss,x::xs=>DenV E w s x∧DenL E w ss xs
 | _,_=>False
end
theorem RL.rows_len (r:RL):r.rows.length=r.len:=by cases r<;>simp [RL.rows,RL.len,ints,strs,zbk]
theorem RL.tys_pos (r:RL):0<r.tys.length∧r.tys.length≤64:=by cases r<;>(simp only [RL.tys];decide)
theorem zga {E:Env} {w:World} {S:Nat→Prop} {v:Value} {n:Int} (h:Rd w S (.int .i64) v (.int n)):DenV E w (.int .i64 n) v:=by cases h with | int h=>exact ⟨rfl,h⟩
theorem zoa {E:Env} {w:World} {S:Nat→Prop} {v:Value} {n:Int} (h:Rd w S (.int .u8) v (.int n)):DenV E w (.int .u8 n) v:=by cases h with | int h=>exact ⟨rfl,h⟩
theorem rdU {E:Env} {w:World} {S:Nat→Prop} {v:Value} {n:Int} (h:DenV E w (.int .u8 n) v):Rd w S (.int .u8) v (.int n):=by obtain ⟨rfl,h⟩:=h;exact .int h
theorem zmH {E:Env} {w:World} {S:Nat→Prop} {v:Value} {n:Bool} (h:Rd w S .bool v (.bool n)):DenV E w (.bool n) v:=by cases h with | bool=>exact rfl
theorem zk7 {E:Env} {w:World} {S:Nat→Prop} {v:Value} {n:ByteArray} (h:Rd w S .str v (.str n)):DenV E w (.str n) v:=by cases h with | str h=>exact ⟨rfl,h⟩
theorem rdI {E:Env} {w:World} {S:Nat→Prop} {v:Value} {n:Int} (h:DenV E w (.int .i64 n) v):Rd w S (.int .i64) v (.int n):=by obtain ⟨rfl,h⟩:=h;exact .int h
theorem rdB {E:Env} {w:World} {S:Nat→Prop} {v:Value} {n:Bool} (h:DenV E w (.bool n) v):Rd w S .bool v (.bool n):=by have:v = .bool n:=h;subst this;exact .bool
theorem rdS {E:Env} {w:World} {S:Nat→Prop} {v:Value} {n:ByteArray} (h:DenV E w (.str n) v):Rd w S .str v (.str n):=by obtain ⟨rfl,h⟩:=h;exact .str h
theorem DenL.len0 {E:Env} {w:World}:∀ {ss:List SV} {vs:List Value},DenL E w ss vs→vs.length=ss.length
 | [],[],_=>rfl
 | _::ss,_::vs,h=>by simp [DenL.len0 h.2]
 | [],_::_,h=>h.elim
 | _::_,[],h=>h.elim
theorem File.svs_of {E:Env} {w:World} {ls:List Nat} {vs:List Value} {x:File} (h:RdL w (E.set ls) File.ty vs x.enc):DenL E w (x.svs ls) vs:=by
 have hl:=h.lens.1
 rw [File.ty_len] at hl
 obtain ⟨v0,v1,rfl⟩:=zk5 hl
 obtain ⟨h0,h1,_⟩:=h
 exact ⟨zk7 h0,h1,trivial⟩
theorem File.svs_rd {E:Env} {w:World} {ls:List Nat} {vs:List Value} {x:File} (h:DenL E w (x.svs ls) vs):RdL w (E.set ls) File.ty vs x.enc:=by
 have hl:vs.length=2:=h.len0
 obtain ⟨v0,v1,rfl⟩:=zk5 hl
 obtain ⟨h0,h1,_⟩:=h
 exact ⟨rdS h0,h1,trivial⟩
theorem DChange.svs_of {E:Env} {w:World} {ls:List Nat} {vs:List Value} {x:DChange} (h:RdL w (E.set ls) DChange.ty vs x.enc):DenL E w (x.svs ls) vs:=by
 have hl:=h.lens.1
 rw [DChange.ty_len] at hl
 obtain ⟨v0,v1,v2,v3,rfl⟩:=zk4 hl
 obtain ⟨h0,h1,h2,h3,_⟩:=h
 exact ⟨zga h0,zk7 h1,zga h2,h3,trivial⟩
theorem DChange.svs_rd {E:Env} {w:World} {ls:List Nat} {vs:List Value} {x:DChange} (h:DenL E w (x.svs ls) vs):RdL w (E.set ls) DChange.ty vs x.enc:=by
 have hl:vs.length=4:=h.len0
 obtain ⟨v0,v1,v2,v3,rfl⟩:=zk4 hl
 obtain ⟨h0,h1,h2,h3,_⟩:=h
 exact ⟨rdI h0,rdS h1,rdI h2,h3,trivial⟩
theorem DOp.svs_of {E:Env} {w:World} {ls:List Nat} {vs:List Value} {x:DOp} (h:RdL w (E.set ls) DOp.ty vs x.enc):DenL E w (x.svs ls) vs:=by
 have hl:=h.lens.1
 rw [DOp.ty_len] at hl
 obtain ⟨v0,v1,v2,v3,v4,v5,rfl⟩:=zeF hl
 obtain ⟨h0,h1,h2,h3,h4,h5,_⟩:=h
 exact ⟨zga h0,zk7 h1,zga h2,h3,h4,zoa h5,trivial⟩
theorem DOp.svs_rd {E:Env} {w:World} {ls:List Nat} {vs:List Value} {x:DOp} (h:DenL E w (x.svs ls) vs):RdL w (E.set ls) DOp.ty vs x.enc:=by
 have hl:vs.length=6:=h.len0
 obtain ⟨v0,v1,v2,v3,v4,v5,rfl⟩:=zeF hl
 obtain ⟨h0,h1,h2,h3,h4,h5,_⟩:=h
 exact ⟨rdI h0,rdS h1,rdI h2,h3,h4,rdU h5,trivial⟩
theorem RDisk.svs_of {E:Env} {w:World} {ls:List Nat} {vs:List Value} {x:RDisk} (h:RdL w (E.set ls) RDisk.ty vs x.enc):DenL E w (x.svs ls) vs:=by
 have hl:=h.lens.1
 rw [RDisk.ty_len] at hl
 obtain ⟨v0,v1,v2,v3,v4,v5,rfl⟩:=zeF hl
 obtain ⟨h0,h1,h2,h3,h4,h5,_⟩:=h
 exact ⟨zga h0,h1,h2,zmH h3,zmH h4,zga h5,trivial⟩
theorem RDisk.svs_rd {E:Env} {w:World} {ls:List Nat} {vs:List Value} {x:RDisk} (h:DenL E w (x.svs ls) vs):RdL w (E.set ls) RDisk.ty vs x.enc:=by
 have hl:vs.length=6:=h.len0
 obtain ⟨v0,v1,v2,v3,v4,v5,rfl⟩:=zeF hl
 obtain ⟨h0,h1,h2,h3,h4,h5,_⟩:=h
 exact ⟨rdI h0,h1,h2,rdB h3,rdB h4,rdI h5,trivial⟩
theorem Env.set_mono {E:Env} {ls ms:List Nat} (h:∀ i,i∈ls→i∈ms):∀ b,E.set ls b→E.set ms b:=fun b ⟨i,hi,hs⟩=>⟨i,h i hi,hs⟩
theorem SV.asBytes_ok {E:Env} {w:World} {s:SV} {v:Value} {l:List Int} {m ls:List Nat} (h:s.asBytes=some (l,m)) (hm:∀ i,i∈m→i∈ls) (hd:DenV E w s v):DenV E w (.sl ls (.rBytes l)) v:=by
 cases s with
 | sl ls2 r=>
  cases r with
  | rBytes l2=>
   simp only [SV.asBytes,Option.some.injEq,Prod.mk.injEq] at h
   obtain ⟨rfl,rfl⟩:=h
   exact Rd.mono hd (fun b _=>Env.set_mono hm b)
  | _=>simp [SV.asBytes] at h
 | nil=>
  simp only [SV.asBytes,Option.some.injEq,Prod.mk.injEq] at h
  obtain ⟨rfl,rfl⟩:=h
  have:v = .slice none 0 0:=hd
  subst this
  exact .emp (fun _=>rfl) (by decide)
 | _=>simp [SV.asBytes] at h
theorem SV.asStrs_ok {E:Env} {w:World} {s:SV} {v:Value} {l:List ByteArray} {m ls:List Nat} (h:s.asStrs=some (l,m)) (hm:∀ i,i∈m→i∈ls) (hd:DenV E w s v):DenV E w (.sl ls (.rStrs l)) v:=by
 cases s with
 | sl ls2 r=>
  cases r with
  | rStrs l2=>
   simp only [SV.asStrs,Option.some.injEq,Prod.mk.injEq] at h
   obtain ⟨rfl,rfl⟩:=h
   exact Rd.mono hd (fun b _=>Env.set_mono hm b)
  | _=>simp [SV.asStrs] at h
 | nil=>
  simp only [SV.asStrs,Option.some.injEq,Prod.mk.injEq] at h
  obtain ⟨rfl,rfl⟩:=h
  have:v = .slice none 0 0:=hd
  subst this
  exact .emp (fun _=>rfl) (by decide)
 | _=>simp [SV.asStrs] at h
theorem SV.asBools_ok {E:Env} {w:World} {s:SV} {v:Value} {l:List Bool} {m ls:List Nat} (h:s.asBools=some (l,m)) (hm:∀ i,i∈m→i∈ls) (hd:DenV E w s v):DenV E w (.sl ls (.rBools l)) v:=by
 cases s with
 | sl ls2 r=>
  cases r with
  | rBools l2=>
   simp only [SV.asBools,Option.some.injEq,Prod.mk.injEq] at h
   obtain ⟨rfl,rfl⟩:=h
   exact Rd.mono hd (fun b _=>Env.set_mono hm b)
  | _=>simp [SV.asBools] at h
 | nil=>
  simp only [SV.asBools,Option.some.injEq,Prod.mk.injEq] at h
  obtain ⟨rfl,rfl⟩:=h
  have:v = .slice none 0 0:=hd
  subst this
  exact .emp (fun _=>rfl) (by decide)
 | _=>simp [SV.asBools] at h
theorem SV.asFile_ok {E:Env} {w:World} {s:SV} {v:Value} {l:List File} {m ls:List Nat} (h:s.asFile=some (l,m)) (hm:∀ i,i∈m→i∈ls) (hd:DenV E w s v):DenV E w (.sl ls (.rFile l)) v:=by
 cases s with
 | sl ls2 r=>
  cases r with
  | rFile l2=>
   simp only [SV.asFile,Option.some.injEq,Prod.mk.injEq] at h
   obtain ⟨rfl,rfl⟩:=h
   exact Rd.mono hd (fun b _=>Env.set_mono hm b)
  | _=>simp [SV.asFile] at h
 | nil=>
  simp only [SV.asFile,Option.some.injEq,Prod.mk.injEq] at h
  obtain ⟨rfl,rfl⟩:=h
  have:v = .slice none 0 0:=hd
  subst this
  exact .emp (fun _=>rfl) (by decide)
 | _=>simp [SV.asFile] at h
theorem SV.asDChange_ok {E:Env} {w:World} {s:SV} {v:Value} {l:List DChange} {m ls:List Nat} (h:s.asDChange=some (l,m)) (hm:∀ i,i∈m→i∈ls) (hd:DenV E w s v):DenV E w (.sl ls (.rDChange l)) v:=by
 cases s with
 | sl ls2 r=>
  cases r with
  | rDChange l2=>
   simp only [SV.asDChange,Option.some.injEq,Prod.mk.injEq] at h
   obtain ⟨rfl,rfl⟩:=h
   exact Rd.mono hd (fun b _=>Env.set_mono hm b)
  | _=>simp [SV.asDChange] at h
 | nil=>
  simp only [SV.asDChange,Option.some.injEq,Prod.mk.injEq] at h
  obtain ⟨rfl,rfl⟩:=h
  have:v = .slice none 0 0:=hd
  subst this
  exact .emp (fun _=>rfl) (by decide)
 | _=>simp [SV.asDChange] at h
theorem SV.asDOp_ok {E:Env} {w:World} {s:SV} {v:Value} {l:List DOp} {m ls:List Nat} (h:s.asDOp=some (l,m)) (hm:∀ i,i∈m→i∈ls) (hd:DenV E w s v):DenV E w (.sl ls (.rDOp l)) v:=by
 cases s with
 | sl ls2 r=>
  cases r with
  | rDOp l2=>
   simp only [SV.asDOp,Option.some.injEq,Prod.mk.injEq] at h
   obtain ⟨rfl,rfl⟩:=h
   exact Rd.mono hd (fun b _=>Env.set_mono hm b)
  | _=>simp [SV.asDOp] at h
 | nil=>
  simp only [SV.asDOp,Option.some.injEq,Prod.mk.injEq] at h
  obtain ⟨rfl,rfl⟩:=h
  have:v = .slice none 0 0:=hd
  subst this
  exact .emp (fun _=>rfl) (by decide)
 | _=>simp [SV.asDOp] at h
theorem File.of_ok {E:Env} {w:World} {ss:List SV} {vs:List Value} {x:File} {m:List Nat} (h:File.of ss=some (x,m)) (hd:DenL E w ss vs):DenL E w (x.svs m) vs:=by
 unfold File.of at h
 split at h
 ·have hl:=hd.len0
  obtain ⟨u0,u1,rfl⟩:=zk5 hl
  obtain ⟨h0,h1,_⟩:=hd
  split at h
  case h_2=>simp at h
  rename_i e1
  simp only [Option.some.injEq,Prod.mk.injEq] at h
  obtain ⟨rfl,rfl⟩:=h
  exact ⟨h0,SV.asBytes_ok e1 (by simp (config:={contextual:=true})) h1,trivial⟩
 ·simp at h
theorem DChange.of_ok {E:Env} {w:World} {ss:List SV} {vs:List Value} {x:DChange} {m:List Nat} (h:DChange.of ss=some (x,m)) (hd:DenL E w ss vs):DenL E w (x.svs m) vs:=by
 unfold DChange.of at h
 split at h
 ·have hl:=hd.len0
  obtain ⟨u0,u1,u2,u3,rfl⟩:=zk4 hl
  obtain ⟨h0,h1,h2,h3,_⟩:=hd
  split at h
  case h_2=>simp at h
  rename_i e3
  simp only [Option.some.injEq,Prod.mk.injEq] at h
  obtain ⟨rfl,rfl⟩:=h
  exact ⟨h0,h1,h2,SV.asBytes_ok e3 (by simp (config:={contextual:=true})) h3,trivial⟩
 ·simp at h
theorem DOp.of_ok {E:Env} {w:World} {ss:List SV} {vs:List Value} {x:DOp} {m:List Nat} (h:DOp.of ss=some (x,m)) (hd:DenL E w ss vs):DenL E w (x.svs m) vs:=by
 unfold DOp.of at h
 split at h
 ·have hl:=hd.len0
  obtain ⟨u0,u1,u2,u3,u4,u5,rfl⟩:=zeF hl
  obtain ⟨h0,h1,h2,h3,h4,h5,_⟩:=hd
  split at h
  case h_2=>simp at h
  rename_i e3
  split at h
  case h_2=>simp at h
  rename_i e4
  simp only [Option.some.injEq,Prod.mk.injEq] at h
  obtain ⟨rfl,rfl⟩:=h
  exact ⟨h0,h1,h2,SV.asBytes_ok e3 (by simp (config:={contextual:=true})) h3,SV.asBools_ok e4 (by simp (config:={contextual:=true})) h4,h5,trivial⟩
 ·simp at h
theorem RDisk.of_ok {E:Env} {w:World} {ss:List SV} {vs:List Value} {x:RDisk} {m:List Nat} (h:RDisk.of ss=some (x,m)) (hd:DenL E w ss vs):DenL E w (x.svs m) vs:=by
 unfold RDisk.of at h
 split at h
 ·have hl:=hd.len0
  obtain ⟨u0,u1,u2,u3,u4,u5,rfl⟩:=zeF hl
  obtain ⟨h0,h1,h2,h3,h4,h5,_⟩:=hd
  split at h
  case h_2=>simp at h
  rename_i e1
  split at h
  case h_2=>simp at h
  rename_i e2
  simp only [Option.some.injEq,Prod.mk.injEq] at h
  obtain ⟨rfl,rfl⟩:=h
  exact ⟨h0,SV.asFile_ok e1 (by simp (config:={contextual:=true})) h1,SV.asDChange_ok e2 (by simp (config:={contextual:=true})) h2,h3,h4,h5,trivial⟩
 ·simp at h
theorem RL.elem_ok {E:Env} {w:World} {ls:List Nat} {r:RL} {i:Nat} (hi:i<r.len) {vs:List Value} (h:RdL w (E.set ls) r.tys vs (r.rows.getD i [])):DenL E w (r.elem ls i) vs:=by
 cases r with
 | rInts l=>
  have e:(ints l).getD i []=[.int (l.getD i 0)]:=by simp only [RL.len] at hi;simp [ints,List.getD,hi]
  simp only [RL.rows,RL.tys] at h;rw [e] at h
  match vs,h with
  | [v],h=>exact ⟨zga h.1,trivial⟩
 | rBytes l=>
  have e:(ints l).getD i []=[.int (l.getD i 0)]:=by simp only [RL.len] at hi;simp [ints,List.getD,hi]
  simp only [RL.rows,RL.tys] at h;rw [e] at h
  match vs,h with
  | [v],h=>exact ⟨zoa h.1,trivial⟩
 | rStrs l=>
  have e:(strs l).getD i []=[.str (l.getD i default)]:=by simp only [RL.len] at hi;simp [strs,List.getD,hi]
  simp only [RL.rows,RL.tys] at h;rw [e] at h
  match vs,h with
  | [v],h=>exact ⟨zk7 h.1,trivial⟩
 | rBools l=>
  have e:(zbk l).getD i []=[.bool (l.getD i default)]:=by simp only [RL.len] at hi;simp [zbk,List.getD,hi]
  simp only [RL.rows,RL.tys] at h;rw [e] at h
  match vs,h with
  | [v],h=>exact ⟨zmH h.1,trivial⟩
 | rFile l=>
  have e:(l.map File.enc).getD i []=(l.getD i default).enc:=by simp only [RL.len] at hi;simp [List.getD,hi]
  simp only [RL.rows,RL.tys] at h;rw [e] at h
  exact File.svs_of h
 | rDChange l=>
  have e:(l.map DChange.enc).getD i []=(l.getD i default).enc:=by simp only [RL.len] at hi;simp [List.getD,hi]
  simp only [RL.rows,RL.tys] at h;rw [e] at h
  exact DChange.svs_of h
 | rDOp l=>
  have e:(l.map DOp.enc).getD i []=(l.getD i default).enc:=by simp only [RL.len] at hi;simp [List.getD,hi]
  simp only [RL.rows,RL.tys] at h;rw [e] at h
  exact DOp.svs_of h
theorem RL.app_ok {a b r:RL} (h:a.app b=some r):r.rows=a.rows++b.rows∧r.tys=a.tys∧b.tys=a.tys∧r.len=a.len+b.len:=by
 cases a<;>cases b<;>simp only [RL.app,Option.some.injEq,reduceCtorEq] at h<;>subst h<;>simp [RL.rows,RL.tys,RL.len,ints,strs,zbk]
theorem RL.ite_t {a b r:RL} (h:RL.ite true a b=some r):r=a:=by cases a<;>cases b<;>simp_all [RL.ite]
theorem RL.ite_f {a b r:RL} (h:RL.ite false a b=some r):r=b:=by cases a<;>cases b<;>simp_all [RL.ite]
theorem RL.take_ok (r:RL) (n:Nat):(r.take n).rows=r.rows.take n∧(r.take n).tys=r.tys∧(r.take n).len=min n r.len:=by cases r<;>simp [RL.take,RL.rows,RL.tys,RL.len,ints,strs,zbk]
theorem RL.drop_ok (r:RL) (n:Nat):(r.drop n).rows=r.rows.drop n∧(r.drop n).tys=r.tys∧(r.drop n).len=r.len-n:=by cases r<;>simp [RL.drop,RL.rows,RL.tys,RL.len,ints,strs,zbk]
theorem RL.emp_ok (r:RL):r.emp.rows=[]∧r.emp.tys=r.tys∧r.emp.len=0:=by cases r<;>simp [RL.emp,RL.rows,RL.tys,RL.len,ints,strs,zbk]
theorem zdk {E:Env} {w:World} {m:List Nat} {s:SV} {t:Ty} {d:D} (hs:∀ v,DenV E w s v→Rd w (E.set m) t v d) {vs:List Value} (h:DenL E w [s] vs):RdL w (E.set m) [t] vs [d]:=by
 match vs,h with
 | [v],h=>exact ⟨hs v h.1,trivial⟩
theorem RL.snoc_ok {r r2:RL} {cs:List SV} {m:List Nat} (h:r.snoc cs=some (r2,m)):r2.tys=r.tys∧r2.len=r.len+1∧∃ ds,r2.rows=r.rows++[ds]∧∀ (E:Env) (w:World) (vs:List Value),DenL E w cs vs→RdL w (E.set m) r.tys vs ds:=by
 cases r with
 | rInts l=>
  match cs,h with
  | [.int .i64 n],h=>
   simp only [RL.snoc,Option.some.injEq,Prod.mk.injEq] at h
   obtain ⟨rfl,rfl⟩:=h
   exact ⟨rfl,by simp [RL.len],[.int n],by simp [RL.rows,ints],fun E w vs hd=>zdk (fun v hv=>rdI hv) hd⟩
 | rBytes l=>
  match cs,h with
  | [.int .u8 n],h=>
   simp only [RL.snoc,Option.some.injEq,Prod.mk.injEq] at h
   obtain ⟨rfl,rfl⟩:=h
   exact ⟨rfl,by simp [RL.len],[.int n],by simp [RL.rows,ints],fun E w vs hd=>zdk (fun v hv=>rdU hv) hd⟩
 | rStrs l=>
  match cs,h with
  | [.str n],h=>
   simp only [RL.snoc,Option.some.injEq,Prod.mk.injEq] at h
   obtain ⟨rfl,rfl⟩:=h
   exact ⟨rfl,by simp [RL.len],[.str n],by simp [RL.rows,strs],fun E w vs hd=>zdk (fun v hv=>rdS hv) hd⟩
 | rBools l=>
  match cs,h with
  | [.bool n],h=>
   simp only [RL.snoc,Option.some.injEq,Prod.mk.injEq] at h
   obtain ⟨rfl,rfl⟩:=h
   exact ⟨rfl,by simp [RL.len],[.bool n],by simp [RL.rows,zbk],fun E w vs hd=>zdk (fun v hv=>rdB hv) hd⟩
 | rFile l=>
  simp only [RL.snoc] at h
  split at h
  case h_2=>simp at h
  rename_i x m2 e
  simp only [Option.some.injEq,Prod.mk.injEq] at h
  obtain ⟨rfl,rfl⟩:=h
  exact ⟨rfl,by simp [RL.len],x.enc,by simp [RL.rows],fun E w vs hd=>File.svs_rd (File.of_ok e hd)⟩
 | rDChange l=>
  simp only [RL.snoc] at h
  split at h
  case h_2=>simp at h
  rename_i x m2 e
  simp only [Option.some.injEq,Prod.mk.injEq] at h
  obtain ⟨rfl,rfl⟩:=h
  exact ⟨rfl,by simp [RL.len],x.enc,by simp [RL.rows],fun E w vs hd=>DChange.svs_rd (DChange.of_ok e hd)⟩
 | rDOp l=>
  simp only [RL.snoc] at h
  split at h
  case h_2=>simp at h
  rename_i x m2 e
  simp only [Option.some.injEq,Prod.mk.injEq] at h
  obtain ⟨rfl,rfl⟩:=h
  exact ⟨rfl,by simp [RL.len],x.enc,by simp [RL.rows],fun E w vs hd=>DOp.svs_rd (DOp.of_ok e hd)⟩
theorem RL.put_ok {r r2:RL} (i:Nat) {cs:List SV} {m:List Nat} (h:r.put i cs=some (r2,m)):r2.tys=r.tys∧r2.len=r.len∧∃ ds,r2.rows=r.rows.set i ds∧∀ (E:Env) (w:World) (vs:List Value),DenL E w cs vs→RdL w (E.set m) r.tys vs ds:=by
 cases r with
 | rInts l=>
  match cs,h with
  | [.int .i64 n],h=>
   simp only [RL.put,Option.some.injEq,Prod.mk.injEq] at h
   obtain ⟨rfl,rfl⟩:=h
   exact ⟨rfl,by simp [RL.len],[.int n],by simp [RL.rows,ints,List.map_set],fun E w vs hd=>zdk (fun v hv=>rdI hv) hd⟩
 | rBytes l=>
  match cs,h with
  | [.int .u8 n],h=>
   simp only [RL.put,Option.some.injEq,Prod.mk.injEq] at h
   obtain ⟨rfl,rfl⟩:=h
   exact ⟨rfl,by simp [RL.len],[.int n],by simp [RL.rows,ints,List.map_set],fun E w vs hd=>zdk (fun v hv=>rdU hv) hd⟩
 | rStrs l=>
  match cs,h with
  | [.str n],h=>
   simp only [RL.put,Option.some.injEq,Prod.mk.injEq] at h
   obtain ⟨rfl,rfl⟩:=h
   exact ⟨rfl,by simp [RL.len],[.str n],by simp [RL.rows,strs,List.map_set],fun E w vs hd=>zdk (fun v hv=>rdS hv) hd⟩
 | rBools l=>
  match cs,h with
  | [.bool n],h=>
   simp only [RL.put,Option.some.injEq,Prod.mk.injEq] at h
   obtain ⟨rfl,rfl⟩:=h
   exact ⟨rfl,by simp [RL.len],[.bool n],by simp [RL.rows,zbk,List.map_set],fun E w vs hd=>zdk (fun v hv=>rdB hv) hd⟩
 | rFile l=>
  simp only [RL.put] at h
  split at h
  case h_2=>simp at h
  rename_i x m2 e
  simp only [Option.some.injEq,Prod.mk.injEq] at h
  obtain ⟨rfl,rfl⟩:=h
  exact ⟨rfl,by simp [RL.len],x.enc,by simp [RL.rows,List.map_set],fun E w vs hd=>File.svs_rd (File.of_ok e hd)⟩
 | rDChange l=>
  simp only [RL.put] at h
  split at h
  case h_2=>simp at h
  rename_i x m2 e
  simp only [Option.some.injEq,Prod.mk.injEq] at h
  obtain ⟨rfl,rfl⟩:=h
  exact ⟨rfl,by simp [RL.len],x.enc,by simp [RL.rows,List.map_set],fun E w vs hd=>DChange.svs_rd (DChange.of_ok e hd)⟩
 | rDOp l=>
  simp only [RL.put] at h
  split at h
  case h_2=>simp at h
  rename_i x m2 e
  simp only [Option.some.injEq,Prod.mk.injEq] at h
  obtain ⟨rfl,rfl⟩:=h
  exact ⟨rfl,by simp [RL.len],x.enc,by simp [RL.rows,List.map_set],fun E w vs hd=>DOp.svs_rd (DOp.of_ok e hd)⟩
def RL.eqP:RL→RL→Option Prop
 | .rInts l,.rInts m=>some (l=m)
 | .rBytes l,.rBytes m=>some (l=m)
 | .rStrs l,.rStrs m=>some (l=m)
 | .rBools l,.rBools m=>some (l=m)
 | .rFile l,.rFile m=>some (l=m)
 | .rDChange l,.rDChange m=>some (l=m)
 | .rDOp l,.rDOp m=>some (l=m)
 | _,_=>none
theorem RL.eqP_ok {a b:RL} {p:Prop} (h:RL.eqP a b=some p) (hp:p):a=b:=by cases a<;>cases b<;>simp only [RL.eqP,Option.some.injEq,reduceCtorEq] at h<;>subst h<;>rw [hp]
def RL.nilP:RL→Prop
 | .rInts l=>l=[]
 | .rBytes l=>l=[]
 | .rStrs l=>l=[]
 | .rBools l=>l=[]
 | .rFile l=>l=[]
 | .rDChange l=>l=[]
 | .rDOp l=>l=[]
theorem RL.nilP_ok {a:RL} (h:a.nilP):a.rows=[]:=by cases a<;>simp only [RL.nilP] at h<;>subst h<;>rfl
def RL.ofT (T:TypeId):Option RL:=
 if T=3 then some (.rInts []) else
 if T=5 then some (.rBytes []) else
 if T=9 then some (.rStrs []) else
 if T=4 then some (.rBools []) else
 if T=89 then some (.rFile []) else
 if T=92 then some (.rDChange []) else
 if T=32 then some (.rDOp []) else
 none
theorem RL.ofT_ok {T:TypeId} {r:RL} (h:RL.ofT T=some r):r.rows=[]:=by
 unfold RL.ofT at h
 repeat
  split at h
  ·simp only [Option.some.injEq] at h;subst h;rfl
 simp at h
def zec (l:List Int):Prop:=l.length≤140737488355328∧∀ x,x∈l→0≤x∧x≤255
def zma (l:List ByteArray):Prop:=l.length≤140737488355328∧∀ x,x∈l→x.size≤140737488355328
theorem zmv {w:World} {S:Nat→Prop} {ts:List Ty} {α:Type} {enc:α→List D} {v:Value} {l:List α} (h:Rd w S (.sl ts) v (.sl (l.map enc))):∀ x,x∈l→∃ vs,RdL w S ts vs (enc x):=by
 intro x hx
 obtain ⟨i,hi,rfl⟩:=List.mem_iff_getElem.1 hx
 obtain ⟨a,c,rfl,hs⟩:=h.sl'
 rw [List.length_map] at hs
 obtain ⟨b,off,_,_,_,vals,_,hr⟩:=hs.rowAt (by omega)
 obtain ⟨h1,h2⟩:=hr i hi
 have e:(l.map enc).getD i []=enc l[i]:=by simp [List.getD,hi]
 rw [e] at h1 h2
 exact ⟨_,RdL.of_at (vals i) h1 h2⟩
theorem zdH {w:World} {S:Nat→Prop} {ts:List Ty} {α:Type} {enc:α→List D} {a:Option Addr} {n c:Nat} {l:List α} {p:α→Prop} (h:Sl w S ts a n c (l.map enc)) (hp:∀ x vs,RdL w S ts vs (enc x)→p x):l.length≤140737488355328∧∀ x,x∈l→p x:=by
 have h1:=h.len
 have h2:=h.bd
 rw [List.length_map] at h1
 exact ⟨by omega,fun x hx=>by obtain ⟨vs,hv⟩:=zmv h x hx;exact hp x vs hv⟩
theorem zd7 {w:World} {S:Nat→Prop} {a:Option Addr} {n c:Nat} {l:List Int} (h:Sl w S [.int .u8] a n c (ints l)):zec l:=
 zdH (enc:=fun x:Int=>[D.int x]) h fun x vs hr=>by
  match vs,hr with
  | [v],hr=>exact hr.1.u8.2
theorem zmo {w:World} {S:Nat→Prop} {a:Option Addr} {n c:Nat} {l:List ByteArray} (h:Sl w S [.str] a n c (strs l)):zma l:=
 zdH (enc:=fun x:ByteArray=>[D.str x]) h fun x vs hr=>by
  match vs,hr with
  | [v],hr=>exact (hr.1.str').2
theorem zhd {w:World} {S:Nat→Prop} {a:Option Addr} {n c:Nat} {l:List Bool} (h:Sl w S [.bool] a n c (zbk l)):l.length≤140737488355328:=
 (zdH (enc:=fun x:Bool=>[D.bool x]) (p:=fun _=>True) h fun _ _ _=>trivial).1
structure File.Ok (x:File):Prop where
 name:x.name.size≤140737488355328
 bytes:zec x.bytes
theorem File.ok_of {w:World} {S:Nat→Prop} {vs:List Value} {x:File} (h:RdL w S File.ty vs x.enc):x.Ok:=by
 obtain ⟨a1,c1,_,h0,h1⟩:=File.opens h
 exact ⟨h0,zd7 h1⟩
structure DChange.Ok (x:DChange):Prop where
 kind:I64 x.kind
 file:x.file.size≤140737488355328
 at_:I64 x.at_
 bytes:zec x.bytes
theorem DChange.ok_of {w:World} {S:Nat→Prop} {vs:List Value} {x:DChange} (h:RdL w S DChange.ty vs x.enc):x.Ok:=by
 obtain ⟨a3,c3,_,h0,h1,h2,h3⟩:=DChange.opens h
 exact ⟨h0,h1,h2,zd7 h3⟩
structure DOp.Ok (x:DOp):Prop where
 kind:I64 x.kind
 file:x.file.size≤140737488355328
 at_:I64 x.at_
 bytes:zec x.bytes
 keep:x.keep.length≤140737488355328
 by_:(0≤x.by_∧x.by_≤255)
theorem DOp.ok_of {w:World} {S:Nat→Prop} {vs:List Value} {x:DOp} (h:RdL w S DOp.ty vs x.enc):x.Ok:=by
 obtain ⟨a3,c3,a4,c4,_,h0,h1,h2,h3,h4,h5⟩:=DOp.opens h
 exact ⟨h0,h1,h2,zd7 h3,zhd h4,h5⟩
inductive D.Sx:D→D→Prop
 | int (a b:Int):D.Sx (.int a) (.int b)
 | bool (a b:Bool):D.Sx (.bool a) (.bool b)
 | str (a b:ByteArray):D.Sx (.str a) (.str b)
 | sl {r q:List (List D)}:q.length=r.length→(∀ i,i<r.length→(q.getD i []).length=(r.getD i []).length)→(∀ i j,i<r.length→j<(r.getD i []).length→D.Sx ((r.getD i []).getD j default) ((q.getD i []).getD j default))→D.Sx (.sl r) (.sl q)
def D.Sh (d e:D):Prop:=D.Sx d e∧((∀ r,d ≠ .sl r)→e=d)
theorem D.Sx.int_inv {a:Int} {e:D} (h:D.Sx (.int a) e):∃ b,e = .int b:=by cases h;exact ⟨_,rfl⟩
theorem D.Sx.bool_inv {a:Bool} {e:D} (h:D.Sx (.bool a) e):∃ b,e = .bool b:=by cases h;exact ⟨_,rfl⟩
theorem zbT {α:Type} (d:α) (n:Nat) {p:Nat→α→Prop} (h:∀ i,i<n→∃ y,p i y):∃ m:List α,m.length=n∧∀ i,i<n→p i (m.getD i d):=by
 refine ⟨(List.range n).map fun i=>if h':i<n then (h i h').choose else d,by simp,fun i hi=>?_⟩
 have e:((List.range n).map fun i=>if h':i<n then (h i h').choose else d).getD i d=(h i hi).choose:=by simp [List.getD,hi]
 rw [e];exact (h i hi).choose_spec
theorem D.Sx.rows_inv {α:Type} [Inhabited α] {enc:α→List D} {l:List α} {e:D} {p:α→α→Prop} (h:D.Sx (.sl (l.map enc)) e) (hp:∀ x es,es.length=(enc x).length→(∀ j,j<(enc x).length→D.Sx ((enc x).getD j default) (es.getD j default))→∃ y,es=enc y∧p x y) :
  ∃ m:List α,e = .sl (m.map enc)∧m.length=l.length∧∀ i,i<l.length→p (l.getD i default) (m.getD i default):=by
 cases h with
 | sl h1 h2 h3=>
  rename_i q
  rw [List.length_map] at h1 h2 h3
  have he:∀ i,i<l.length→(l.map enc).getD i []=enc (l.getD i default):=fun i hi=>by simp [List.getD,hi]
  obtain ⟨m,hm,hpm⟩:=zbT (default:α) l.length (p:=fun i y=>q.getD i []=enc y∧p (l.getD i default) y) (fun i hi=>by
   refine hp _ _ ?_ ?_
   ·rw [h2 i hi,he i hi]
   ·intro j hj;have:=h3 i j hi (by rw [he i hi];exact hj);rwa [he i hi] at this)
  refine ⟨m,?_,hm,fun i hi=>(hpm i hi).2⟩
  congr 1
  apply List.ext_getElem (by simp [h1,hm])
  intro i g1 g2
  have hi:i<l.length:=by omega
  have:=(hpm i hi).1
  have e1:q.getD i []=q[i]:=by simp [List.getD,g1]
  have e2:m.getD i default=m[i]'(by omega):=by simp [List.getD,show i<m.length by omega]
  rw [e1,e2] at this
  simp [this]
theorem D.Sx.ints_inv {l:List Int} {e:D} (h:D.Sx (.sl (ints l)) e):∃ m:List Int,e = .sl (ints m)∧m.length=l.length:=by
 obtain ⟨m,h1,h2,_⟩:=D.Sx.rows_inv (enc:=fun x:Int=>[D.int x]) (p:=fun _ _=>True) h (fun x es h1 h2=>by
  match es,h1 with
  | [v],_=>
   obtain ⟨b,rfl⟩:=D.Sx.int_inv (h2 0 (by simp))
   exact ⟨b,rfl,trivial⟩)
 exact ⟨m,h1,h2⟩
theorem D.Sx.bools_inv {l:List Bool} {e:D} (h:D.Sx (.sl (zbk l)) e):∃ m:List Bool,e = .sl (zbk m)∧m.length=l.length:=by
 obtain ⟨m,h1,h2,_⟩:=D.Sx.rows_inv (enc:=fun x:Bool=>[D.bool x]) (p:=fun _ _=>True) h (fun x es h1 h2=>by
  match es,h1 with
  | [v],_=>
   obtain ⟨b,rfl⟩:=D.Sx.bool_inv (h2 0 (by simp))
   exact ⟨b,rfl,trivial⟩)
 exact ⟨m,h1,h2⟩
def LSh (ds es:List D):Prop:=es.length=ds.length∧∀ j,j<ds.length→D.Sh (ds.getD j default) (es.getD j default)
structure File.Like (x y:File):Prop where
 name:y.name=x.name
 bytes:y.bytes.length=x.bytes.length
theorem File.like_of {x:File} {es:List D} (hL:LSh x.enc es):∃ y:File,es=y.enc∧File.Like x y:=by
 obtain ⟨hl,h⟩:=hL
 obtain ⟨v0,v1,rfl⟩:=zk5 (show es.length=2 from hl)
 have h0:D.Sh (.str x.name) v0:=h 0 (by rw [File.enc_len];decide)
 obtain rfl:=h0.2 (fun r e=>by cases e)
 have h1:D.Sh (.sl (ints x.bytes)) v1:=h 1 (by rw [File.enc_len];decide)
 obtain ⟨b1,rfl,g1⟩:=h1.1.ints_inv
 exact ⟨⟨x.name,b1⟩,rfl,⟨rfl,g1⟩⟩
structure DChange.Like (x y:DChange):Prop where
 kind:y.kind=x.kind
 file:y.file=x.file
 at_:y.at_=x.at_
 bytes:y.bytes.length=x.bytes.length
theorem DChange.like_of {x:DChange} {es:List D} (hL:LSh x.enc es):∃ y:DChange,es=y.enc∧DChange.Like x y:=by
 obtain ⟨hl,h⟩:=hL
 obtain ⟨v0,v1,v2,v3,rfl⟩:=zk4 (show es.length=4 from hl)
 have h0:D.Sh (.int x.kind) v0:=h 0 (by rw [DChange.enc_len];decide)
 obtain rfl:=h0.2 (fun r e=>by cases e)
 have h1:D.Sh (.str x.file) v1:=h 1 (by rw [DChange.enc_len];decide)
 obtain rfl:=h1.2 (fun r e=>by cases e)
 have h2:D.Sh (.int x.at_) v2:=h 2 (by rw [DChange.enc_len];decide)
 obtain rfl:=h2.2 (fun r e=>by cases e)
 have h3:D.Sh (.sl (ints x.bytes)) v3:=h 3 (by rw [DChange.enc_len];decide)
 obtain ⟨b3,rfl,g3⟩:=h3.1.ints_inv
 exact ⟨⟨x.kind,x.file,x.at_,b3⟩,rfl,⟨rfl,rfl,rfl,g3⟩⟩
structure DOp.Like (x y:DOp):Prop where
 kind:y.kind=x.kind
 file:y.file=x.file
 at_:y.at_=x.at_
 bytes:y.bytes.length=x.bytes.length
 keep:y.keep.length=x.keep.length
 by_:y.by_=x.by_
theorem DOp.like_of {x:DOp} {es:List D} (hL:LSh x.enc es):∃ y:DOp,es=y.enc∧DOp.Like x y:=by
 obtain ⟨hl,h⟩:=hL
 obtain ⟨v0,v1,v2,v3,v4,v5,rfl⟩:=zeF (show es.length=6 from hl)
 have h0:D.Sh (.int x.kind) v0:=h 0 (by rw [DOp.enc_len];decide)
 obtain rfl:=h0.2 (fun r e=>by cases e)
 have h1:D.Sh (.str x.file) v1:=h 1 (by rw [DOp.enc_len];decide)
 obtain rfl:=h1.2 (fun r e=>by cases e)
 have h2:D.Sh (.int x.at_) v2:=h 2 (by rw [DOp.enc_len];decide)
 obtain rfl:=h2.2 (fun r e=>by cases e)
 have h3:D.Sh (.sl (ints x.bytes)) v3:=h 3 (by rw [DOp.enc_len];decide)
 obtain ⟨b3,rfl,g3⟩:=h3.1.ints_inv
 have h4:D.Sh (.sl (zbk x.keep)) v4:=h 4 (by rw [DOp.enc_len];decide)
 obtain ⟨b4,rfl,g4⟩:=h4.1.bools_inv
 have h5:D.Sh (.int x.by_) v5:=h 5 (by rw [DOp.enc_len];decide)
 obtain rfl:=h5.2 (fun r e=>by cases e)
 exact ⟨⟨x.kind,x.file,x.at_,b3,b4,x.by_⟩,rfl,⟨rfl,rfl,rfl,g3,g4,rfl⟩⟩
def RL.Like:RL→RL→Prop
 | .rInts l,.rInts m=>m=l
 | .rBytes l,.rBytes m=>m=l
 | .rStrs l,.rStrs m=>m=l
 | .rBools l,.rBools m=>m=l
 | .rFile l,.rFile m=>m.length=l.length∧∀ i,i<l.length→File.Like (l.getD i default) (m.getD i default)
 | .rDChange l,.rDChange m=>m.length=l.length∧∀ i,i<l.length→DChange.Like (l.getD i default) (m.getD i default)
 | .rDOp l,.rDOp m=>m.length=l.length∧∀ i,i<l.length→DOp.Like (l.getD i default) (m.getD i default)
 | _,_=>False
theorem zbq {α:Type} [Inhabited α] {enc:α→List D} {l:List α} {rows:List (List D)} {p:α→α→Prop} (hn:rows.length=(l.map enc).length) (h:∀ i,i<(l.map enc).length→LSh ((l.map enc).getD i []) (rows.getD i [])) (hp:∀ x es,LSh (enc x) es→∃ y,es=enc y∧p x y) :
  ∃ m:List α,rows=m.map enc∧m.length=l.length∧∀ i,i<l.length→p (l.getD i default) (m.getD i default):=by
 rw [List.length_map] at hn h
 have he:∀ i,i<l.length→(l.map enc).getD i []=enc (l.getD i default):=fun i hi=>by simp [List.getD,hi]
 obtain ⟨m,hm,hpm⟩:=zbT (default:α) l.length (p:=fun i y=>rows.getD i []=enc y∧p (l.getD i default) y) (fun i hi=>hp _ _ (by rw [← he i hi];exact h i hi))
 refine ⟨m,?_,hm,fun i hi=>(hpm i hi).2⟩
 apply List.ext_getElem (by simp [hn,hm])
 intro i g1 g2
 have hi:i<l.length:=by omega
 have:=(hpm i hi).1
 have e1:rows.getD i []=rows[i]:=by simp [List.getD,g1]
 have e2:m.getD i default=m[i]'(by omega):=by simp [List.getD,show i<m.length by omega]
 rw [e1,e2] at this
 simp [this]
theorem RL.like_of {r:RL} {rows:List (List D)} (hn:rows.length=r.rows.length) (h:∀ i,i<r.rows.length→LSh (r.rows.getD i []) (rows.getD i [])):∃ q:RL,q.rows=rows∧q.tys=r.tys∧q.len=r.len∧RL.Like r q:=by
 cases r with
 | rInts l=>
  obtain ⟨m,e1,e2,e3⟩:=zbq (enc:=fun x:Int=>[D.int x]) (p:=fun x y=>y=x) (rows:=rows) (l:=l) hn h (fun x es h=>by
   obtain ⟨h1,h2⟩:=h
   match es,h1 with
   | [v],_=>
    have:=(h2 0 (by simp)).2 (fun r e=>by simp at e)
    exact ⟨x,by simpa using this,rfl⟩)
  have:m=l:=List.ext_getElem e2 (fun i g1 g2=>by have:=e3 i g2;simpa [List.getD,g1,g2] using this)
  exact ⟨.rInts m,e1.symm,rfl,e2,this⟩
 | rBytes l=>
  obtain ⟨m,e1,e2,e3⟩:=zbq (enc:=fun x:Int=>[D.int x]) (p:=fun x y=>y=x) (rows:=rows) (l:=l) hn h (fun x es h=>by
   obtain ⟨h1,h2⟩:=h
   match es,h1 with
   | [v],_=>
    have:=(h2 0 (by simp)).2 (fun r e=>by simp at e)
    exact ⟨x,by simpa using this,rfl⟩)
  have:m=l:=List.ext_getElem e2 (fun i g1 g2=>by have:=e3 i g2;simpa [List.getD,g1,g2] using this)
  exact ⟨.rBytes m,e1.symm,rfl,e2,this⟩
 | rStrs l=>
  obtain ⟨m,e1,e2,e3⟩:=zbq (enc:=fun x:ByteArray=>[D.str x]) (p:=fun x y=>y=x) (rows:=rows) (l:=l) hn h (fun x es h=>by
   obtain ⟨h1,h2⟩:=h
   match es,h1 with
   | [v],_=>
    have:=(h2 0 (by simp)).2 (fun r e=>by simp at e)
    exact ⟨x,by simpa using this,rfl⟩)
  have:m=l:=List.ext_getElem e2 (fun i g1 g2=>by have:=e3 i g2;simpa [List.getD,g1,g2] using this)
  exact ⟨.rStrs m,e1.symm,rfl,e2,this⟩
 | rBools l=>
  obtain ⟨m,e1,e2,e3⟩:=zbq (enc:=fun x:Bool=>[D.bool x]) (p:=fun x y=>y=x) (rows:=rows) (l:=l) hn h (fun x es h=>by
   obtain ⟨h1,h2⟩:=h
   match es,h1 with
   | [v],_=>
    have:=(h2 0 (by simp)).2 (fun r e=>by simp at e)
    exact ⟨x,by simpa using this,rfl⟩)
  have:m=l:=List.ext_getElem e2 (fun i g1 g2=>by have:=e3 i g2;simpa [List.getD,g1,g2] using this)
  exact ⟨.rBools m,e1.symm,rfl,e2,this⟩
 | rFile l=>
  obtain ⟨m,e1,e2,e3⟩:=zbq (rows:=rows) (l:=l) hn h (fun x es h=>File.like_of h)
  exact ⟨.rFile m,e1.symm,rfl,e2,e2,e3⟩
 | rDChange l=>
  obtain ⟨m,e1,e2,e3⟩:=zbq (rows:=rows) (l:=l) hn h (fun x es h=>DChange.like_of h)
  exact ⟨.rDChange m,e1.symm,rfl,e2,e2,e3⟩
 | rDOp l=>
  obtain ⟨m,e1,e2,e3⟩:=zbq (rows:=rows) (l:=l) hn h (fun x es h=>DOp.like_of h)
  exact ⟨.rDOp m,e1.symm,rfl,e2,e2,e3⟩
def RL.All (r:RL) (p:RL→Prop):Prop:=
 match r with
 | .rInts l=>∀ m:List Int,RL.Like (.rInts l) (.rInts m)→p (.rInts m)
 | .rBytes l=>∀ m:List Int,RL.Like (.rBytes l) (.rBytes m)→p (.rBytes m)
 | .rStrs l=>∀ m:List ByteArray,RL.Like (.rStrs l) (.rStrs m)→p (.rStrs m)
 | .rBools l=>∀ m:List Bool,RL.Like (.rBools l) (.rBools m)→p (.rBools m)
 | .rFile l=>∀ m:List File,RL.Like (.rFile l) (.rFile m)→p (.rFile m)
 | .rDChange l=>∀ m:List DChange,RL.Like (.rDChange l) (.rDChange m)→p (.rDChange m)
 | .rDOp l=>∀ m:List DOp,RL.Like (.rDOp l) (.rDOp m)→p (.rDOp m)
theorem RL.All_mono {r:RL} {p q:RL→Prop} (h:RL.All r p) (hpq:∀ s,p s→q s):RL.All r q:=by
 cases r<;>exact fun m hm=>hpq _ (h m hm)
theorem RL.all_of {r q:RL} {p:RL→Prop} (h:RL.All r p) (hl:RL.Like r q):p q:=by
 cases r<;>cases q<;>first | exact h _ hl | exact hl.elim
end Go.Proofs.Ytfccndnnpkiajaa
namespace Go.Proofs.Ytfccndnnpkiajaa
open Go.RowKit Go.ChangeShapes Go.WideShapes Go.Deep
structure Env.Le (E E':Env):Prop where
 β:∀ t v,E.β t=some v→E'.β t=some v
 σ:∀ i b,E.σ i b→E'.σ i b
theorem Env.Le.refl (E:Env):E.Le E:=⟨fun _ _ h=>h,fun _ _ h=>h⟩
theorem Env.Le.trans {a b c:Env} (h:a.Le b) (k:b.Le c):a.Le c:=⟨fun t v x=>k.β t v (h.β t v x),fun i b x=>k.σ i b (h.σ i b x)⟩
def Env.lab (E:Env) (b:Nat):Prop:=∃ i,E.σ i b
theorem Env.set_lab {E:Env} {ls:List Nat} {b:Nat} (h:E.set ls b):E.lab b:=⟨h.choose,h.choose_spec.2⟩
theorem Env.Le.set {E E':Env} (h:E.Le E') {ls:List Nat} {b:Nat} (hb:E.set ls b):E'.set ls b:=by
 obtain ⟨i,hi,hs⟩:=hb;exact ⟨i,hi,h.σ i b hs⟩
mutual
theorem DenV.mono {E E':Env} {w w':World} (hE:E.Le E') (hS:Same E.lab w w'):∀ (s:SV) (v:Value),DenV E w s v→DenV E' w' s v
 | .any,_,_=>trivial
 | .int _ _,_,h=>h
 | .bool _,_,h=>h
 | .str _,_,h=>h
 | .nil,_,h=>h
 | .np,_,h=>h
 | .sl ls r,v,h=>Rd.mono (Rd.same h (hS.mono fun b hb=>Env.set_lab hb)) (fun b _ hb=>hE.set hb)
 | .own t,v,h=>⟨hE.β _ _ h.1,h.2⟩
 | .ptr t off,v,h=>by obtain ⟨b,h1,h2⟩:=h;exact ⟨b,hE.β _ _ h1,h2⟩
 | .mp t,v,h=>by obtain ⟨b,h1,h2⟩:=h;exact ⟨b,hE.β _ _ h1,h2⟩
 | .el ls r i off,v,h=>by
  obtain ⟨h0,b,o,c,h1,h2⟩:=h
  exact ⟨h0,b,o,c,h1,Rd.mono (Rd.same h2 (hS.mono fun b hb=>Env.set_lab hb)) (fun b _ hb=>hE.set hb)⟩
 | .oel t sz i off,v,h=>by obtain ⟨b,n,c,h1,h2⟩:=h;exact ⟨b,n,c,hE.β _ _ h1,h2⟩
 | .agg vs,v,h=>by obtain ⟨xs,h1,h2⟩:=h;exact ⟨xs,h1,DenL.mono hE hS vs xs h2⟩
 | .tup vs,v,h=>by obtain ⟨xs,h1,h2⟩:=h;exact ⟨xs,h1,DenL.mono hE hS vs xs h2⟩
 | .fn _,_,h=>h
 | .clo f cs,v,h=>by obtain ⟨xs,h1,h2⟩:=h;exact ⟨xs,h1,DenL.mono hE hS cs xs h2⟩
 | .rp ls T cs off,v,h=>by
  obtain ⟨b,xs,h1,h2,h3,h4⟩:=h
  exact ⟨b,xs,h1,hE.set h2,(hS.block b (Env.set_lab h2) (Array.getElem?_eq_some_iff.1 h3).1).trans h3,DenL.mono hE hS cs xs h4⟩
 | .gd b s,v,h=>⟨fun hb=>DenV.mono hE hS s v (h.1 hb),h.2⟩
 | .ub _ _,_,h=>h
 | .ro ls o,v,h=>by
  obtain ⟨b,F,h1,h2,h3⟩:=h
  exact ⟨b,F,h1,OD.frame h2 (fun x hx=>hS.block x (Env.set_lab (h3 x hx)) (OD.lt h2 hx)),fun x hx=>hE.set (h3 x hx)⟩
theorem DenL.mono {E E':Env} {w w':World} (hE:E.Le E') (hS:Same E.lab w w'):∀ (ss:List SV) (vs:List Value),DenL E w ss vs→DenL E' w' ss vs
 | [],[],_=>trivial
 | s::ss,x::xs,h=>⟨DenV.mono hE hS s x h.1,DenL.mono hE hS ss xs h.2⟩
 | [],_::_,h=>h.elim
 | _::_,[],h=>h.elim
end
theorem DenL.len {E:Env} {w:World}:∀ {ss:List SV} {vs:List Value},DenL E w ss vs→vs.length=ss.length
 | [],[],_=>rfl
 | _::ss,_::vs,h=>by simp [DenL.len h.2]
 | [],_::_,h=>h.elim
 | _::_,[],h=>h.elim
theorem DenL.at {E:Env} {w:World}:∀ {ss:List SV} {vs:List Value},DenL E w ss vs→∀ i,i<ss.length→DenV E w (ss.getD i .any) (vs.getD i undef)
 | s::ss,x::xs,h,0,_=>h.1
 | s::ss,x::xs,h,i+1,hi=>DenL.at (ss:=ss) (vs:=xs) h.2 i (by simpa using hi)
 | [],_,_,i,hi=>absurd hi (by simp)
 | _::_,[],h,_,_=>h.elim
theorem DenL.any {E:Env} {w:World} {ss:List SV} {vs:List Value} (h:DenL E w ss vs) (i:Nat):DenV E w (ss.getD i .any) (vs.getD i undef):=by
 by_cases hi:i<ss.length
 ·exact h.at i hi
 ·simp [List.getD,Nat.le_of_not_lt hi,DenV]
theorem DenL.take {E:Env} {w:World}:∀ {ss:List SV} {vs:List Value},DenL E w ss vs→∀ n,DenL E w (ss.take n) (vs.take n)
 | _::ss,_::xs,h,0=>by simp [DenL]
 | _::ss,_::xs,h,n+1=>by simp only [List.take_succ_cons];exact ⟨h.1,DenL.take (ss:=ss) (vs:=xs) h.2 n⟩
 | [],[],_,_=>by simp [DenL]
 | [],_::_,h,_=>h.elim
 | _::_,[],h,_=>h.elim
theorem DenL.drop {E:Env} {w:World}:∀ {ss:List SV} {vs:List Value},DenL E w ss vs→∀ n,DenL E w (ss.drop n) (vs.drop n)
 | _::ss,_::xs,h,0=>h
 | _::ss,_::xs,h,n+1=>by simp only [List.drop_succ_cons];exact DenL.drop (ss:=ss) (vs:=xs) h.2 n
 | [],[],_,_=>by simp [DenL]
 | [],_::_,h,_=>h.elim
 | _::_,[],h,_=>h.elim
theorem DenL.app {E:Env} {w:World}:∀ {ss:List SV} {vs:List Value} {ts:List SV} {us:List Value},DenL E w ss vs→DenL E w ts us→DenL E w (ss++ts) (vs++us)
 | _::ss,_::xs,_,_,h,k=>⟨h.1,DenL.app (ss:=ss) (vs:=xs) h.2 k⟩
 | [],[],_,_,_,k=>k
 | [],_::_,_,_,h,_=>h.elim
 | _::_,[],_,_,h,_=>h.elim
def SV.flat:SV→Bool
 | .int _ _ | .bool _ | .str _ | .nil | .sl _ _ | .own _ | .ptr _ _ | .fn _=>true
 | _=>false
theorem SV.flat_one {E:Env} {w:World} {s:SV} {v:Value} (hf:s.flat=true) (h:DenV E w s v):v.oneCell'=true:=by
 cases s<;>simp only [SV.flat,Bool.false_eq_true] at hf
 case int=>obtain ⟨rfl,_⟩:=h;rfl
 case bool=>have:v=_:=h;subst this;rfl
 case str=>obtain ⟨rfl,_⟩:=h;rfl
 case nil=>have:v=_:=h;subst this;rfl
 case sl=>exact Rd.one h
 case own=>exact h.2
 case ptr=>obtain ⟨b,_,rfl⟩:=h;rfl
 case fn=>have:v=_:=h;subst this;rfl
theorem DenL.ones {E:Env} {w:World}:∀ {ss:List SV} {vs:List Value},ss.all SV.flat=true→DenL E w ss vs→∀ v∈vs,v.oneCell'=true
 | [],[],_,_,_,h=>by cases h
 | s::ss,x::xs,hf,h,v,hv=>by
  simp only [List.all_cons,Bool.and_eq_true] at hf
  rcases List.mem_cons.1 hv with rfl | hv
  ·exact SV.flat_one hf.1 h.1
  ·exact DenL.ones hf.2 h.2 v hv
 | [],_::_,_,h,_,_=>h.elim
 | _::_,[],_,h,_,_=>h.elim
inductive BE
 | empty
 | dead
 | cells (T:TypeId) (vs:List SV)
 | row (T:TypeId) (ls:List Nat) (r:RL)
 | obj (o:OD)
instance:Inhabited BE:=⟨.dead⟩
def BE.live:BE→Bool
 | .cells .. | .row .. | .obj _=>true
 | _=>false
def za4:Value→Option Nat
 | .pointer (some a)=>some a.block
 | .slice (some a) _ _=>some a.block
 | _=>none
theorem zaq {v:Value} (h:∃ a n c,v = .slice a n c):v.ownBlock=za4 v:=by
 obtain ⟨a,n,c,rfl⟩:=h
 cases a<;>rfl
def Fo (E:Env) (t:Nat) (v:Value):BE→Nat→Prop
 | .obj _,b=>E.φ t b
 | _,b=>za4 v=some b
def Has (E:Env) (m:Nat→BE) (t b:Nat):Prop:=(m t).live=true∧∃ v,E.β t=some v∧Fo E t v (m t) b
def BE.isO:BE→Bool
 | .obj _=>true
 | _=>false
theorem Fo.iff {E:Env} {t b:Nat} {v:Value} {e e':BE} (h:e'.isO=e.isO) (hf:Fo E t v e' b):Fo E t v e b:=by
 cases e<;>cases e'<;>first | exact hf | (simp only [BE.isO,reduceCtorEq] at h)
theorem Has.cells {E:Env} {m:Nat→BE} {t b:Nat} {T:TypeId} {vs:List SV} {v:Value} (hm:m t = .cells T vs) (hv:E.β t=some v) (hb:za4 v=some b):Has E m t b:=⟨by rw [hm];rfl,v,hv,by rw [hm];exact hb⟩
theorem Has.row {E:Env} {m:Nat→BE} {t b:Nat} {T:TypeId} {ls:List Nat} {r:RL} {v:Value} (hm:m t = .row T ls r) (hv:E.β t=some v) (hb:za4 v=some b):Has E m t b:=⟨by rw [hm];rfl,v,hv,by rw [hm];exact hb⟩
structure BelowX (base:Nat) (X:Nat→Prop) (w w':World):Prop where
 os:w'.os=w.os
 tape:w'.tape=w.tape
 output:w'.output=w.output
 size:w.heap.size≤w'.heap.size
 block:∀ b,b<base→¬ X b→w'.heap[b]? = w.heap[b]?
theorem BelowX.refl (base:Nat) (X:Nat→Prop) (w:World):BelowX base X w w:=⟨rfl,rfl,rfl,Nat.le_refl _,fun _ _ _=>rfl⟩
structure Cx where
 X:Nat→Prop
 nl:Nat
 S:Nat→Nat→Prop
 B:Nat→Option Value
structure MemOk (base:Nat) (X:Cx) (w0:World) (E:Env) (m:Nat→BE) (w:World):Prop where
 empty:∀ t,m t = .empty→E.β t=none∧∀ b,¬ E.σ t b
 cells:∀ t T vs,m t = .cells T vs→∃ b xs,E.β t=some (.pointer (some ⟨b,0,none⟩))∧w.heap[b]? = some (.cells xs.toArray T (0,0))∧DenL E w vs xs∧vs.all SV.flat=true
 row:∀ t T ls r,m t = .row T ls r→∃ v,E.β t=some v∧OwnR 0 w T (E.set ls) r.tys v r.rows
 lab:∀ i b,E.σ i b→b<w.heap.size∧(X.nl≤i→base≤b∨X.X b)
 dis:∀ i j b,E.σ i b→E.σ j b→i=j
 low:∀ i,i<X.nl→m i ≠ .empty
 sep:∀ t b,Has E m t b→¬ E.lab b∧(base≤b∨X.X b)
 old:∀ i b,i<X.nl→E.σ i b→X.S i b
 inj:∀ t u b,Has E m t b→Has E m u b→t=u
 keep:∀ t v,X.B t=some v→E.β t=some v
 below:BelowX base X.X w0 w
 base:base≤w.heap.size
 obj:∀ t o,m t = .obj o→∃ b,E.β t=some (.pointer (some ⟨b,0,none⟩))∧o.pr w (E.φ t) b
theorem MemOk.lt {base:Nat} {X:Cx} {w0 w:World} {E:Env} {m:Nat→BE} (h:MemOk base X w0 E m w) {t:Nat} {b:Nat} (hb:Has E m t b):b<w.heap.size:=by
 obtain ⟨hl,v,hv,hvb⟩:=hb
 cases hm:m t with
 | empty=>simp [hm,BE.live] at hl
 | dead=>simp [hm,BE.live] at hl
 | obj o=>
  obtain ⟨b',h1,h2⟩:=h.obj t o hm
  rw [hm] at hvb
  exact OD.lt h2 hvb
 | cells T vs=>
  rw [hm] at hvb
  have hvb:za4 v=some b:=hvb
  obtain ⟨b',xs,h1,h2,_⟩:=h.cells t T vs hm
  rw [hv] at h1;cases h1
  simp [za4] at hvb;subst hvb
  exact (Array.getElem?_eq_some_iff.1 h2).1
 | row T ls r=>
  rw [hm] at hvb
  have hvb:za4 v=some b:=hvb
  obtain ⟨v',h1,h2⟩:=h.row t T ls r hm
  rw [hv] at h1;cases h1
  refine (h2.lt b ?_).2
  obtain ⟨a,c,e⟩:=h2.form
  rw [zaq ⟨a,_,c,e⟩];exact hvb
def zam {α:Type} (d:α):List (Nat×α)→Nat→α
 | [],_=>d
 | (k,v)::r,t=>bif Nat.beq k t then v else zam d r t
theorem zaz {α:Type} (d:α) (k:Nat) (v:α) (r:List (Nat×α)) (t:Nat):zam d ((k,v)::r) t=if t=k then v else zam d r t:=by
 show (bif Nat.beq k t then v else zam d r t)=_
 by_cases h:t=k
 ·subst h;simp
 ·have:Nat.beq k t=false:=by
   cases hb:Nat.beq k t
   ·rfl
   ·exact absurd (Nat.eq_of_beq_eq_true hb).symm h
  rw [this,if_neg h];rfl
structure St where
 tm:List (Nat×SV)
 nt:Nat
 mm:List (Nat×BE)
 nx:Nat
def St.s (st:St) (i:Nat):SV:=zam .any st.tm i
def St.m (st:St) (t:Nat):BE:=zam .empty st.mm t
structure St.Ok (base:Nat) (X:Cx) (w0:World) (E:Env) (st:St) (a:Act) (w:World):Prop where
 defers:a.defers=[]
 size:a.tmps.size=st.nt
 tm:∀ i,DenV E w (st.s i) (a.tmps.getD i undef)
 mem:MemOk base X w0 E st.m w
def ofC:Value→SV
 | .int k n=>if (Lit.int k n).wf then .int k n else .any
 | .bool b=> .bool b
 | .string s=>if s.size≤1000000 then .str s else .any
 | .slice none 0 0=> .nil
 | .pointer none=> .np
 | _=> .any
theorem zl8 (E:Env) (w:World) (v:Value):DenV E w (ofC v) v:=by
 unfold ofC
 split
 ·split
  ·exact ⟨rfl,by assumption⟩
  ·trivial
 ·exact rfl
 ·split
  ·exact ⟨rfl,by omega⟩
  ·trivial
 ·exact rfl
 ·exact rfl
 ·trivial
def St.ev (st:St):Operand→SV
 | .tmp t=>st.s t
 | .const v=>ofC v
 | .func f=> .fn f
 | .global _=> .any
theorem St.Ok.ev {base:Nat} {X:Cx} {w0:World} {E:Env} {st:St} {a:Act} {w:World} (h:st.Ok base X w0 E a w) (x:Operand):DenV E w (st.ev x) (a.eval x):=by
 cases x with
 | tmp t=>exact h.tm t
 | const v=>exact zl8 E w v
 | func f=>exact rfl
 | global g=>trivial
def zag:SV→SV×List Prop
 | .gd g s=>(s,[g=true])
 | s=>(s,[])
theorem zab {E:Env} {w:World} {s:SV} {v:Value} (h:DenV E w s v) (hn:∀ p∈(zag s).2,p):DenV E w (zag s).1 v:=by
 cases s<;>first | exact h | skip
 case gd g s=>exact h.1 (hn (g=true) (by simp [zag]))
structure Upd where
 needs:List Prop
 val:SV
 mem:List (Nat×BE)
def putF:List (Nat×BE)→(Nat→BE)→Nat→BE
 | [],m=>m
 | (t,e)::r,m=>fun u=>if u=t then e else putF r m u
theorem zdJ:∀ (l:List (Nat×BE)) (mm:List (Nat×BE)),zam .empty (l++mm)=putF l (zam .empty mm)
 | [],_=>rfl
 | (t,e)::r,mm=>by
  funext u
  show zam .empty ((t,e)::(r++mm)) u=_
  rw [zaz,zdJ r mm];rfl
def St.app (st:St) (dst:Option Tmp) (u:Upd):St:=
 {st with tm:=match dst with | some d=>(d,bif Nat.blt d st.nt then u.val else .any)::st.tm | none=>st.tm,mm:=u.mem++st.mm}
theorem St.app_m (st:St) (dst:Option Tmp) (u:Upd):(st.app dst u).m=putF u.mem st.m:=by
 show zam .empty (u.mem++st.mm)=_
 rw [zdJ];rfl
theorem zdr {α:Type} (d n:Nat) (x y:α):(bif Nat.blt d n then x else y)=if d<n then x else y:=by
 by_cases h:d<n
 ·have:Nat.blt d n=true:=by simp [Nat.blt];omega
  rw [this,if_pos h];rfl
 ·have:Nat.blt d n=false:=by
   cases hb:Nat.blt d n
   ·rfl
   ·simp [Nat.blt] at hb;omega
  rw [this,if_neg h];rfl
theorem St.app_s (st:St) (d:Nat) (u:Upd) (i:Nat):(st.app (some d) u).s i=if i=d then (if d<st.nt then u.val else .any) else st.s i:=by
 show zam .any ((d,_)::st.tm) i=_
 rw [zaz,zdr];rfl
theorem zkt (a:Act) (d i:Nat) (v:Value):(a.put (some d) v).tmps.getD i undef=if i=d then (if d<a.tmps.size then v else undef) else a.tmps.getD i undef:=by
 simp only [Act.put,Array.getD_eq_getD_getElem?,Array.getElem?_setIfInBounds]
 by_cases h:d=i
 ·subst h
  by_cases h2:d<a.tmps.size<;>simp [h2]
 ·have:¬ i=d:=fun e=>h e.symm
  simp [h,this]
theorem St.Ok.next {base:Nat} {X:Cx} {w0:World} {E E':Env} {st:St} {a:Act} {w w':World} (h:st.Ok base X w0 E a w) (hE:E.Le E') (hS:Same E.lab w w') {dst:Option Tmp} {v:Value} {u:Upd}
  (hv:DenV E' w' u.val v) (hm:MemOk base X w0 E' (putF u.mem st.m) w'):(st.app dst u).Ok base X w0 E' (a.put dst v) w':=by
 cases dst with
 | none=>exact ⟨h.defers,h.size,fun i=>DenV.mono hE hS _ _ (h.tm i),by rw [St.app_m];exact hm⟩
 | some d=>
  refine ⟨h.defers,by simp [St.app,Act.put,h.size],fun i=>?_,by rw [St.app_m];exact hm⟩
  rw [zkt,St.app_s,h.size]
  by_cases h1:i=d
  ·rw [if_pos h1,if_pos h1]
   by_cases h2:d<st.nt
   ·rw [if_pos h2,if_pos h2];exact hv
   ·rw [if_neg h2];trivial
  ·rw [if_neg h1,if_neg h1];exact DenV.mono hE hS _ _ (h.tm i)
end Go.Proofs.Ytfccndnnpkiajaa
namespace Go.Proofs.Ytfccndnnpkiajaa
open Go.RowKit Go.ChangeShapes Go.WideShapes Go.Deep
def upd (m:Nat→BE) (t:Nat) (e:BE) (u:Nat):BE:=if u=t then e else m u
theorem zaG (m:Nat→BE) (t:Nat) (e:BE):upd m t e t=e:=if_pos rfl
theorem zaH (m:Nat→BE) {t u:Nat} (e:BE) (h:u≠t):upd m t e u=m u:=if_neg h
def Holds (E:Env) (w:World) (t:Nat) (v:Value):BE→Prop
 | .obj o=>∃ b,v = .pointer (some ⟨b,0,none⟩)∧o.pr w (E.φ t) b
 | .cells T vs=>∃ b xs,v = .pointer (some ⟨b,0,none⟩)∧w.heap[b]? = some (.cells xs.toArray T (0,0))∧DenL E w vs xs∧vs.all SV.flat=true
 | .row T ls r=>OwnR 0 w T (E.set ls) r.tys v r.rows
 | .dead=>True
 | .empty=>False
theorem MemOk.holds {base:Nat} {X:Cx} {w0 w:World} {E:Env} {m:Nat→BE} (h:MemOk base X w0 E m w) {t:Nat} (hl:(m t).live=true):∃ v,E.β t=some v∧Holds E w t v (m t):=by
 cases hm:m t with
 | empty=>simp [hm,BE.live] at hl
 | dead=>simp [hm,BE.live] at hl
 | cells T vs=>obtain ⟨b,xs,h1,h2,h3,h4⟩:=h.cells t T vs hm;exact ⟨_,h1,b,xs,rfl,h2,h3,h4⟩
 | row T ls r=>exact h.row t T ls r hm
 | obj o=>obtain ⟨b,h1,h2⟩:=h.obj t o hm;exact ⟨_,h1,b,rfl,h2⟩
theorem Holds.block {E:Env} {w:World} {t:Nat} {v:Value} {e:BE} (h:Holds E w t v e) (hl:e.live=true) {b:Nat} (hb:Fo E t v e b):b<w.heap.size:=by
 cases e with
 | empty=>cases h
 | dead=>cases hl
 | obj o=>obtain ⟨b',_,h2⟩:=h;exact OD.lt h2 hb
 | cells T vs=>have hb:za4 v=some b:=hb;obtain ⟨b',xs,rfl,h2,_⟩:=h;simp [za4] at hb;subst hb;exact (Array.getElem?_eq_some_iff.1 h2).1
 | row T ls r=>
  have hb:za4 v=some b:=hb
  have h:OwnR 0 w T (E.set ls) r.tys v r.rows:=h
  obtain ⟨a,c,e⟩:=h.form
  exact (h.lt b (by rw [zaq ⟨a,_,c,e⟩];exact hb)).2
theorem Holds.mono {E E':Env} {w w':World} {t:Nat} {v:Value} {e:BE} (h:Holds E w t v e) (hE:E.Le E') (hφ:E'.φ t=E.φ t) (hS:Same E.lab w w') (hb:∀ b,Fo E t v e b→w'.heap[b]? = w.heap[b]?):Holds E' w' t v e:=by
 cases e with
 | obj o=>
  obtain ⟨b,rfl,h2⟩:=h
  exact ⟨b,rfl,by rw [hφ];exact OD.frame h2 hb⟩
 | empty=>exact h
 | dead=>exact h
 | cells T vs=>
  obtain ⟨b,xs,rfl,h2,h3,h4⟩:=h
  exact ⟨b,xs,rfl,(hb b rfl).trans h2,DenL.mono hE hS _ _ h3,h4⟩
 | row T ls r=>
  have h:OwnR 0 w T (E.set ls) r.tys v r.rows:=h
  show OwnR 0 w' T (E'.set ls) r.tys v r.rows
  obtain ⟨a,c,ev⟩:=h.form
  have hs:Same (fun b=>E.lab b∨za4 v=some b) w w':=⟨hS.size,fun b hb' hl=>hb'.elim (fun x=>hS.block b x hl) (fun x=>hb b x)⟩
  exact (h.same hs (fun b hb' => .inl (Env.set_lab hb')) (fun b hb' => .inr (by rw [← zaq ⟨a,_,c,ev⟩];exact hb'))).mono (Nat.le_refl _) (fun b hb'=>hE.set hb')
theorem MemOk.go {base:Nat} {X:Cx} {w0 w w':World} {E E':Env} {m m':Nat→BE} (h:MemOk base X w0 E m w) (hE:E.Le E') (hS:Same E.lab w w') (L:Nat→Prop)
  (hm:∀ t,¬ L t→m' t=m t∧E'.β t=E.β t∧E'.φ t=E.φ t) (hσ:∀ t,¬ L t→m t = .empty→∀ b,¬ E'.σ t b) (hk:∀ t b,¬ L t→Has E m t b→w'.heap[b]? = w.heap[b]?)
  (hL:∀ t,L t→m' t ≠ .empty∧((m' t).live=true→∃ v,E'.β t=some v∧Holds E' w' t v (m' t)))
  (hlab:∀ i b,E'.σ i b→b<w'.heap.size∧(X.nl≤i→base≤b∨X.X b)) (hdis:∀ i j b,E'.σ i b→E'.σ j b→i=j) (hsep:∀ t b,Has E' m' t b→¬ E'.lab b∧(base≤b∨X.X b)) (hold:∀ i b,i<X.nl→E'.σ i b→X.S i b) (hinj:∀ t u b,Has E' m' t b→Has E' m' u b→t=u)
  (hb:BelowX base X.X w w'):MemOk base X w0 E' m' w':=by
 have key:∀ t,(m' t).live=true→∃ v,E'.β t=some v∧Holds E' w' t v (m' t):=by
  intro t hl
  by_cases ht:L t
  ·exact (hL t ht).2 hl
  ·obtain ⟨e1,e2,e3⟩:=hm t ht
   rw [e1] at hl ⊢
   obtain ⟨v,hv,hh⟩:=h.holds hl
   refine ⟨v,by rw [e2];exact hv,hh.mono hE e3 hS (fun b hvb=>hk t b ht ⟨hl,v,hv,hvb⟩)⟩
 refine ⟨fun t ht=>?_,fun t T vs ht=>?_,fun t T ls r ht=>?_,hlab,hdis,fun i hi he=>?_,hsep,hold,hinj,fun t v hv=>hE.β t v (h.keep t v hv),?_,Nat.le_trans h.base hb.size,fun t o ht=>?_⟩
 ·by_cases hl:L t
  ·exact absurd ht (hL t hl).1
  ·obtain ⟨e1,e2,e3⟩:=hm t hl
   rw [e1] at ht
   exact ⟨by rw [e2];exact (h.empty t ht).1,hσ t hl ht⟩
 ·obtain ⟨v,hv,hh⟩:=key t (by rw [ht];rfl)
  rw [ht] at hh
  obtain ⟨b,xs,rfl,h2,h3,h4⟩:=hh
  exact ⟨b,xs,hv,h2,h3,h4⟩
 ·obtain ⟨v,hv,hh⟩:=key t (by rw [ht];rfl)
  rw [ht] at hh
  exact ⟨v,hv,hh⟩
 ·by_cases hl:L i
  ·exact absurd he (hL i hl).1
  ·rw [(hm i hl).1] at he;exact h.low i hi he
 ·exact ⟨hb.os.trans h.below.os,hb.tape.trans h.below.tape,hb.output.trans h.below.output,Nat.le_trans h.below.size hb.size,fun b h1 h2=>(hb.block b h1 h2).trans (h.below.block b h1 h2)⟩
 ·obtain ⟨v,hv,hh⟩:=key t (by rw [ht];rfl)
  rw [ht] at hh
  obtain ⟨b,rfl,h2⟩:=hh
  exact ⟨b,hv,h2⟩
theorem MemOk.kill {base:Nat} {X:Cx} {w0 w:World} {E:Env} {m:Nat→BE} (h:MemOk base X w0 E m w) (t:Nat):MemOk base X w0 E (upd m t .dead) w:=by
 have hh:∀ u b,Has E (upd m t .dead) u b→Has E m u b:=by
  intro u b ⟨hl,hv⟩
  by_cases e:u=t
  ·subst e;rw [zaG] at hl;cases hl
  ·rw [zaH _ _ e] at hl hv;exact ⟨hl,hv⟩
 refine h.go (Env.Le.refl E) ⟨Nat.le_refl _,fun _ _ _=>rfl⟩ (fun u=>u=t) (fun u hu=>⟨zaH _ _ hu,rfl,rfl⟩) (fun u hu hm=>(h.empty u hm).2) (fun _ _ _ _=>rfl)
  (fun u hu=>by subst hu;rw [zaG];exact ⟨(by simp),fun hl=>by cases hl⟩) h.lab h.dis (fun u b hb=>h.sep u b (hh u b hb)) h.old (fun u v b h1 h2=>h.inj u v b (hh u b h1) (hh v b h2)) (BelowX.refl _ _ _)
def Env.setβ (E:Env) (c:Nat) (v:Value):Env:=⟨fun t=>if t=c then some v else E.β t,E.σ,E.φ⟩
theorem Env.setβ_le {E:Env} {c:Nat} (h:E.β c=none) (v:Value):E.Le (E.setβ c v):=
 ⟨fun t u ht=>by
  by_cases e:t=c
  ·subst e;rw [h] at ht;cases ht
  ·show (if t=c then _ else _)=_;rw [if_neg e];exact ht,fun _ _ h=>h⟩
theorem MemOk.take {base:Nat} {X:Cx} {w0 w w':World} {E:Env} {m:Nat→BE} (h:MemOk base X w0 E m w) {c:Nat} (hc:m c = .empty) (v:Value) (e:BE) (he:e ≠ .empty)
  (hsz:w.heap.size≤w'.heap.size) (hw:∀ b,(E.lab b∨∃ t,Has E m t b)→w'.heap[b]? = w.heap[b]?) (hbx:BelowX base X.X w w')
  (hfree:∀ b,za4 v=some b→¬ E.lab b∧(∀ t,¬ Has E m t b)∧(base≤b∨X.X b)) (hcont:Holds (E.setβ c v) w' c v e) (heo:∀ o,e ≠ .obj o:=by intro o ho;cases ho):MemOk base X w0 (E.setβ c v) (upd m c e) w':=by
 have hE:=Env.setβ_le (h.empty c hc).1 v
 have hh:∀ u b,u≠c→Has (E.setβ c v) (upd m c e) u b→Has E m u b:=by
  intro u b hu ⟨hl,x,hx,hxb⟩
  rw [zaH _ _ hu] at hl hxb
  have:E.β u=some x:=by have:(if u=c then some v else E.β u)=some x:=hx;rwa [if_neg hu] at this
  exact ⟨hl,x,this,(by cases hmu:m u<;>rw [hmu] at hxb<;>exact hxb)⟩
 have hcb:∀ b,Has (E.setβ c v) (upd m c e) c b→za4 v=some b:=by
  intro b ⟨_,x,hx,hxb⟩
  have:(if c=c then some v else E.β c)=some x:=hx
  rw [if_pos rfl] at this
  cases this
  rw [zaG] at hxb
  cases e with
  | obj o=>exact absurd rfl (heo o)
  | _=>exact hxb
 refine h.go hE ⟨hsz,fun b hb _=>hw b (.inl hb)⟩ (fun u=>u=c) (fun u hu=>⟨zaH _ _ hu,if_neg hu,rfl⟩) (fun u hu hm=>(h.empty u hm).2) (fun u b hu hb=>hw b (.inr ⟨u,hb⟩))
  (fun u hu=>by subst hu;rw [zaG];exact ⟨he,fun _=>⟨v,if_pos rfl,hcont⟩⟩)
  (fun i b hb=>⟨Nat.lt_of_lt_of_le (h.lab i b hb).1 hsz,(h.lab i b hb).2⟩) h.dis (fun u b hb=>?_) h.old (fun u x b h1 h2=>?_) hbx
 ·by_cases e2:u=c
  ·subst e2;obtain ⟨f1,f2,f3⟩:=hfree b (hcb b hb);exact ⟨f1,f3⟩
  ·exact h.sep u b (hh u b e2 hb)
 ·by_cases e2:u=c
  ·by_cases e3:x=c
   ·rw [e2,e3]
   ·subst e2;exact absurd (hh x b e3 h2) ((hfree b (hcb b h1)).2.1 x)
  ·by_cases e3:x=c
   ·subst e3;exact absurd (hh u b e2 h1) ((hfree b (hcb b h2)).2.1 u)
   ·exact h.inj u x b (hh u b e2 h1) (hh x b e3 h2)
theorem MemOk.poke {base:Nat} {X:Cx} {w0 w w':World} {E:Env} {m:Nat→BE} (h:MemOk base X w0 E m w) {t:Nat} (hl:(m t).live=true) {v:Value} (hv:E.β t=some v) (e:BE) (hel:e.live=true)
  (hsz:w.heap.size≤w'.heap.size) (hw:∀ b,za4 v≠some b→b<w.heap.size→w'.heap[b]? = w.heap[b]?) (hos:w'.os=w.os∧w'.tape=w.tape∧w'.output=w.output) (hcont:Holds E w' t v e) (hmo:∀ o,m t ≠ .obj o:=by intro o ho;simp_all) (heo:∀ o,e ≠ .obj o:=by intro o ho;cases ho):MemOk base X w0 E (upd m t e) w':=by
 have hh:∀ u b,Has E (upd m t e) u b→Has E m u b:=by
  intro u b ⟨h1,h2⟩
  by_cases e2:u=t
  ·subst e2
   refine ⟨hl,?_⟩
   obtain ⟨x,hx,hxb⟩:=h2
   rw [zaG] at hxb
   refine ⟨x,hx,?_⟩
   cases e with
   | obj o=>exact absurd rfl (heo o)
   | _=>cases hmu:m u with
    | obj o=>exact absurd hmu (hmo o)
    | _=>exact hxb
  ·rw [zaH _ _ e2] at h1 h2;exact ⟨h1,h2⟩
 have hof:∀ b,za4 v=some b→Fo E t v (m t) b:=fun b hb=>by
  cases hmu:m t with
  | obj o=>exact absurd hmu (hmo o)
  | _=>exact hb
 have hne:∀ b,E.lab b→za4 v≠some b:=fun b hb hvb=>(h.sep t b ⟨hl,v,hv,hof b hvb⟩).1 hb
 refine h.go (Env.Le.refl E) ⟨hsz,fun b hb hlt=>hw b (hne b hb) hlt⟩ (fun u=>u=t) (fun u hu=>⟨zaH _ _ hu,rfl,rfl⟩) (fun u hu hm=>(h.empty u hm).2)
  (fun u b hu hb=>hw b (fun hvb=>hu (h.inj u t b hb ⟨hl,v,hv,hof b hvb⟩)) (h.lt hb))
  (fun u hu=>by subst hu;rw [zaG];exact ⟨fun e2=>(by rw [e2] at hel;cases hel),fun _=>⟨v,hv,hcont⟩⟩)
  (fun i b hb=>⟨Nat.lt_of_lt_of_le (h.lab i b hb).1 hsz,(h.lab i b hb).2⟩) h.dis (fun u b hb=>h.sep u b (hh u b hb)) h.old (fun u x b h1 h2=>h.inj u x b (hh u b h1) (hh x b h2))
  ⟨hos.1,hos.2.1,hos.2.2,hsz,fun b hb hX=>?_⟩
 by_cases hvb:za4 v=some b
 ·rcases (h.sep t b ⟨hl,v,hv,hof b hvb⟩).2 with h1 | h1
  ·omega
  ·exact absurd h1 hX
 ·exact hw b hvb (Nat.lt_of_lt_of_le hb h.base)
theorem MemOk.drew {base:Nat} {X:Cx} {w0 w:World} {E:Env} {m:Nat→BE} (h:MemOk base X w0 E m w) (n:Nat):MemOk base X w0 E m {w with drawn:=n}:=
 h.go (Env.Le.refl E) ⟨Nat.le_refl _,fun _ _ _=>rfl⟩ (fun _=>False) (fun _ _=>⟨rfl,rfl,rfl⟩) (fun t _ hm=>(h.empty t hm).2) (fun _ _ _ _=>rfl) (fun _ h=>h.elim) h.lab h.dis h.sep h.old h.inj ⟨rfl,rfl,rfl,Nat.le_refl _,fun _ _ _=>rfl⟩
theorem zgw (m:Nat→BE) {t c:Nat} (x y:BE) (h:t≠c):upd (upd m t x) c y=upd (upd m c y) t x:=by
 funext u
 unfold upd
 by_cases h1:u=c
 ·by_cases h2:u=t
  ·exact absurd (h2.symm.trans h1) h
  ·simp [h1,h2];intro e;exact absurd e.symm h
 ·simp [h1]
theorem zbw (t:Nat) (e:BE) (m:Nat→BE):putF [(t,e)] m=upd m t e:=rfl
theorem zc9 (t:Nat) (e:BE) (r:List (Nat×BE)) (m:Nat→BE):putF ((t,e)::r) m=upd (putF r m) t e:=rfl
end Go.Proofs.Ytfccndnnpkiajaa
namespace Go.Proofs.Ytfccndnnpkiajaa
open Go.RowKit Go.ChangeShapes Go.WideShapes Go.Deep
structure Cfg where
 kd:TypeId→Option RL
 orc:Nat→FuncId→St→List SV→Option Upd
 orw:FuncId→St→List SV→Option (List Prop×List Nat×SV)
def Does (P:Program) (base:Nat) (X:Cx) (w0:World) (st:St) (o:Oper) (u:Upd):Prop:=
 ∀ (E:Env) (a:Act) (w:World) (K:Act→World→Prop) (Q:Exit→Act→World→Prop),st.Ok base X w0 E a w→(∀ p∈u.needs,p) →
  (∀ E' w' v,E.Le E'→Same E.lab w w'→DenV E' w' u.val v→MemOk base X w0 E' (putF u.mem st.m) w'→K (a.put o.dst v) w')→o.wp P a w K Q
theorem zaM {P:Program} {o:Oper} {a:Act} {w w':World} {v:Value} {K:Act→World→Prop} {Q:Exit→Act→World→Prop} (h:(execOp a.eval o).run P w = .ok (.value v) w') (hK:K (a.put o.dst v) w'):o.wp P a w K Q:=by
 unfold Oper.wp;rw [h];exact hK
theorem zez {P:Program} {o:Oper} {a:Act} {w w':World} {K:Act→World→Prop} {Q:Exit→Act→World→Prop} (h:(execOp a.eval o).run P w = .ok .skip w') (hK:K (a.put o.dst undef) w'):o.wp P a w K Q:=by
 unfold Oper.wp;rw [h];exact hK
theorem Same.rfl' {S:Nat→Prop} {w:World}:Same S w w:=⟨Nat.le_refl _,fun _ _ _=>rfl⟩
theorem Does.pure {P:Program} {base:Nat} {X:Cx} {w0:World} {st:St} {o:Oper} {n:List Prop} {s:SV}
  (h:∀ E a w,st.Ok base X w0 E a w→(∀ p∈n,p)→∃ v,(execOp a.eval o).run P w = .ok (.value v) w∧DenV E w s v):Does P base X w0 st o ⟨n,s,[]⟩:=by
 intro E a w K Q hst hn hK
 obtain ⟨v,h1,h2⟩:=h E a w hst hn
 exact zaM h1 (hK E w v (Env.Le.refl E) Same.rfl' h2 hst.mem)
def zac (b x y:Bool):Bool:=if b then x else y
def zbc (b:Bool) (x y:Int):Int:=if b then x else y
mutual
def mrgV (b:Bool):SV→SV→SV
 | .int k n,.int k' n'=>if k=k' then .int k (zbc b n n') else .any
 | .bool x,.bool y=> .bool (zac b x y)
 | .str x,.str y=> .str (if b then x else y)
 | .nil,.nil=> .nil
 | .nil,.sl ls r=>match RL.ite b r.emp r with | some r2=> .sl ls r2 | none=> .any
 | .sl ls r,.nil=>match RL.ite b r r.emp with | some r2=> .sl ls r2 | none=> .any
 | .sl ls r,.sl ls' r'=>match RL.ite b r r' with | some r2=> .sl (ls++ls') r2 | none=> .any
 | .own t,.own t'=>if t=t' then .own t else .any
 | .ptr t o,.ptr t' o'=>if t=t' then (if o=o' then .ptr t o else .any) else .any
 | .mp t,.mp t'=>if t=t' then .mp t else .any
 | .agg vs,.agg us=>if vs.length=us.length then .agg (mrgL b vs us) else .any
 | .tup vs,.tup us=>if vs.length=us.length then .tup (mrgL b vs us) else .any
 | _,_=> .any
def mrgL (b:Bool):List SV→List SV→List SV
 | s::ss,t::ts=>mrgV b s t::mrgL b ss ts
 | _,_=>[]
end
theorem zmA {E:Env} {w:World} {ls:List Nat} {r:RL} {v:Value} (h:DenV E w .nil v):DenV E w (.sl ls r.emp) v:=by
 have:v = .slice none 0 0:=h
 subst this
 show Rd w (E.set ls) (.sl r.emp.tys) _ (.sl r.emp.rows)
 rw [r.emp_ok.1]
 exact .emp (fun _=>rfl) (by decide)
theorem setl {E:Env} {w:World} {ls ms:List Nat} {r:RL} {v:Value} (hm:∀ i,i∈ls→i∈ms) (h:DenV E w (.sl ls r) v):DenV E w (.sl ms r) v:=
 Rd.mono h (fun b _=>Env.set_mono hm b)
mutual
theorem zi7 {E:Env} {w:World}:∀ (s t:SV) (v:Value),DenV E w s v→DenV E w (mrgV true s t) v:=by
 intro s t v h
 unfold mrgV
 split
 ·split
  ·exact h
  ·trivial
 ·exact h
 ·exact h
 ·exact h
 ·split
  ·rename_i e;rw [RL.ite_t e];exact zmA h
  ·trivial
 ·split
  ·rename_i e;rw [RL.ite_t e];exact h
  ·trivial
 ·split
  ·rename_i e;rw [RL.ite_t e];exact setl (fun i hi=>List.mem_append_left _ hi) h
  ·trivial
 ·split
  ·exact h
  ·trivial
 ·split
  ·split
   ·exact h
   ·trivial
  ·trivial
 ·split
  ·exact h
  ·trivial
 ·split
  ·rename_i e
   obtain ⟨xs,h1,h2⟩:=h
   exact ⟨xs,h1,mrgL_t _ _ xs e h2⟩
  ·trivial
 ·split
  ·rename_i e
   obtain ⟨xs,h1,h2⟩:=h
   exact ⟨xs,h1,mrgL_t _ _ xs e h2⟩
  ·trivial
 ·trivial
theorem mrgL_t {E:Env} {w:World}:∀ (ss ts:List SV) (vs:List Value),ss.length=ts.length→DenL E w ss vs→DenL E w (mrgL true ss ts) vs
 | [],[],[],_,_=>by unfold mrgL;trivial
 | s::ss,t::ts,x::xs,hl,h=>by unfold mrgL;exact ⟨zi7 s t x h.1,mrgL_t ss ts xs (by simpa using hl) h.2⟩
 | [],_::_,_,hl,_=>by simp at hl
 | _::_,[],_,hl,_=>by simp at hl
 | [],[],_::_,_,h=>h.elim
 | _::_,_::_,[],_,h=>h.elim
end
mutual
theorem zi8 {E:Env} {w:World}:∀ (s t:SV) (v:Value),DenV E w t v→DenV E w (mrgV false s t) v:=by
 intro s t v h
 unfold mrgV
 split
 ·split
  ·rename_i e;subst e;exact h
  ·trivial
 ·exact h
 ·exact h
 ·exact h
 ·split
  ·rename_i e;rw [RL.ite_f e];exact h
  ·trivial
 ·split
  ·rename_i e;rw [RL.ite_f e];exact zmA h
  ·trivial
 ·split
  ·rename_i e;rw [RL.ite_f e];exact setl (fun i hi=>List.mem_append_right _ hi) h
  ·trivial
 ·split
  ·rename_i e;subst e;exact h
  ·trivial
 ·split
  ·split
   ·rename_i e1 e2;subst e1;subst e2;exact h
   ·trivial
  ·trivial
 ·split
  ·rename_i e;subst e;exact h
  ·trivial
 ·split
  ·rename_i e
   obtain ⟨xs,h1,h2⟩:=h
   exact ⟨xs,h1,mrgL_f _ _ xs e h2⟩
  ·trivial
 ·split
  ·rename_i e
   obtain ⟨xs,h1,h2⟩:=h
   exact ⟨xs,h1,mrgL_f _ _ xs e h2⟩
  ·trivial
 ·trivial
theorem mrgL_f {E:Env} {w:World}:∀ (ss ts:List SV) (vs:List Value),ss.length=ts.length→DenL E w ts vs→DenL E w (mrgL false ss ts) vs
 | [],[],[],_,_=>by unfold mrgL;trivial
 | s::ss,t::ts,x::xs,hl,h=>by unfold mrgL;exact ⟨zi8 s t x h.1,mrgL_f ss ts xs (by simpa using hl) h.2⟩
 | [],_::_,_,hl,_=>by simp at hl
 | _::_,[],_,hl,_=>by simp at hl
 | [],[],_::_,_,h=>h.elim
 | _::_,_::_,[],_,h=>h.elim
end
theorem zk3 {E:Env} {w:World} (b:Bool) {s t:SV} {v u:Value} (hs:b=true→DenV E w s v) (ht:b=false→DenV E w t u):DenV E w (mrgV b s t) (if b then v else u):=by
 cases b
 ·exact zi8 s t u (ht rfl)
 ·exact zi7 s t v (hs rfl)
section ops
variable {P : Program} {base : Nat} {X : Cx} {w0 : World} {st : St}
def zgn (st:St) (x:Operand):Upd:=⟨(zag (st.ev x)).2,(zag (st.ev x)).1,[]⟩
theorem zgZ (o:Oper) (x:Operand) (ho:o.op = .move x∨o.op = .assign x):Does P base X w0 st o (zgn st x):=
 Does.pure fun E a w h hn=>⟨a.eval x,by rcases ho with ho | ho<;>simp [execOp,ho,pure,Sem.run],zab (h.ev x) hn⟩
def zlf (st:St) (c x y:Operand):Option Upd:=
 match zag (st.ev c),zag (st.ev x),zag (st.ev y) with
 | (.bool b,n),(s,n1),(t,n2)=>some ⟨n++n1.map (fun p=>b=true→p)++n2.map (fun p=>b=false→p),mrgV b s t,[]⟩
 | _,_,_=>none
theorem zle (o:Oper) (c x y:Operand) (ho:o.op = .pick c x y) {u:Upd} (hu:zlf st c x y=some u):Does P base X w0 st o u:=by
 unfold zlf at hu
 split at hu
 case h_2=>simp at hu
 rename_i b n s n1 t n2 e1 e2 e3
 simp only [Option.some.injEq] at hu
 subst hu
 refine Does.pure fun E a w h hn=>?_
 have h1:=zab (h.ev c) (fun p hp=>hn p (by rw [e1] at hp;simp [hp]))
 rw [e1] at h1
 have h1:a.eval c = .bool b:=h1
 refine ⟨if b then a.eval x else a.eval y,by cases b<;>simp [execOp,ho,h1,asBool,pure,Sem.run,bind,Sem.bind],zk3 b (fun hb=>?_) (fun hb=>?_)⟩
 ·have h2:=zab (h.ev x) (fun p hp=>hn (b=true→p) (by rw [e2] at hp;simp only [List.mem_append,List.mem_map];exact .inl (.inr ⟨p,hp,rfl⟩)) hb)
  rw [e2] at h2;exact h2
 ·have h2:=zab (h.ev y) (fun p hp=>hn (b=false→p) (by rw [e3] at hp;simp only [List.mem_append,List.mem_map];exact .inr ⟨p,hp,rfl⟩) hb)
  rw [e3] at h2;exact h2
def SV.cells:SV→List SV
 | .agg vs=>vs
 | s=>[s]
theorem zd5 {E:Env} {w:World} {s:SV} {v:Value} (hf:s.cells.all SV.flat=true) (h:DenV E w s v):∃ xs,v.cells=xs.toArray∧DenL E w s.cells xs:=by
  cases s
  case agg vs=>
    obtain ⟨xs,rfl,h2⟩:=h
    exact ⟨xs,rfl,h2⟩
  all_goals
    simp only [SV.cells,List.all_cons,List.all_nil,Bool.and_true] at hf
    first
      | (simp [SV.flat] at hf;done)
      | (refine ⟨[v], ?_, h, trivial⟩
         have:=SV.flat_one hf h
         cases v<;>simp_all [Value.cells,Value.oneCell'])
def ofCs (z:Value):List SV:=z.cells.toList.map ofC
theorem zeB (E:Env) (w:World):∀ (l:List Value),DenL E w (l.map ofC) l
 | []=>trivial
 | v::l=>⟨zl8 E w v,zeB E w l⟩
theorem zeg {E:Env} {w:World} (h:MemOk base X w0 E st.m w) {c:Nat} (hc:st.m c = .empty) (T:TypeId) {vs:List SV} {xs:List Value} (hd:DenL E w vs xs) (hf:vs.all SV.flat=true) :
  MemOk base X w0 (E.setβ c (.pointer (some ⟨w.heap.size,0,none⟩))) (putF [(c,.cells T vs)] st.m) (w.alloc (.cells xs.toArray T))∧E.Le (E.setβ c (.pointer (some ⟨w.heap.size,0,none⟩)))∧Same E.lab w (w.alloc (.cells xs.toArray T)):=by
 have hE:=Env.setβ_le (h.empty c hc).1 (.pointer (some ⟨w.heap.size,0,none⟩))
 have hS:Same E.lab w (w.alloc (.cells xs.toArray T)):=Same.alloc _ _ _
 refine ⟨?_,hE,hS⟩
 rw [zbw]
 refine h.take hc _ _ (by simp) (by simp) (fun b hb=>?_) ⟨rfl,rfl,rfl,by simp,fun b hb _=>Below.heap_alloc _ _ _ (Nat.lt_of_lt_of_le hb h.base)⟩ (fun b hb=>?_) ⟨w.heap.size,xs,rfl,heap_alloc_new _ _,DenL.mono hE hS _ _ hd,hf⟩
 ·have:b<w.heap.size:=by
   rcases hb with ⟨i,hi⟩ | ⟨t,ht⟩
   ·exact (h.lab i b hi).1
   ·exact h.lt ht
  exact Below.heap_alloc _ _ _ this
 ·simp [za4] at hb
  subst hb
  exact ⟨fun ⟨i,hi⟩=>Nat.lt_irrefl _ (h.lab i _ hi).1,fun t ht=>Nat.lt_irrefl _ (h.lt ht),.inl h.base⟩
def BE.isEmpty:BE→Bool
 | .empty=>true
 | _=>false
def St.free (st:St) (c:Nat):Bool:=(st.m c).isEmpty
theorem BE.of_empty {e:BE} (h:e.isEmpty=true):e = .empty:=by cases e<;>simp [BE.isEmpty] at h;rfl
theorem St.of_free {st:St} {c:Nat} (h:st.free c=true):st.m c = .empty:=BE.of_empty h
def cBox (st:St) (c:Nat) (T:TypeId) (x:Operand):Option Upd:=
 let s:=zag (st.ev x)
 if st.free c then (if s.1.cells.all SV.flat then some ⟨s.2,.ptr c 0,[(c,.cells T s.1.cells)]⟩ else none) else none
theorem zn2 (o:Oper) (c:Nat) (T:TypeId) (x:Operand) (ho:o.op = .box T x) {u:Upd} (hu:cBox st c T x=some u):Does P base X w0 st o u:=by
 unfold cBox at hu
 dsimp only at hu
 split at hu
 case isFalse=>simp at hu
 split at hu
 case isFalse=>simp at hu
 rename_i hc hf
 simp only [Option.some.injEq] at hu
 subst hu
 intro E a w K Q h hn hK
 have h1:=zab (h.ev x) hn
 obtain ⟨xs,hx,hd⟩:=zd5 hf h1
 obtain ⟨m1,m2,m3⟩:=zeg h.mem (St.of_free hc) T hd hf
 refine zaM (v:= .pointer (some ⟨w.heap.size,0,none⟩)) (w':=w.alloc (.cells xs.toArray T)) ?_ (hK _ _ _ m2 m3 ⟨w.heap.size,if_pos rfl,rfl⟩ m1)
 simp only [execOp,ho,Instr.box,newVar,newRow,hx]
 rfl
def zhc (P:Program) (st:St) (c:Nat) (T:TypeId):Option Upd:=
 match (P.info? T).bind (·.zero) with
 | some z=>if st.free c then (if (ofCs z).all SV.flat then some ⟨[],.ptr c 0,[(c,.cells T (ofCs z))]⟩ else none) else none
 | none=>none
theorem zjF (o:Oper) (c:Nat) (T:TypeId) (ho:o.op = .alloc T) {u:Upd} (hu:zhc P st c T=some u):Does P base X w0 st o u:=by
 unfold zhc at hu
 split at hu
 case h_2=>simp at hu
 rename_i z hz
 split at hu
 case isFalse=>simp at hu
 split at hu
 case isFalse=>simp at hu
 rename_i hc hf
 simp only [Option.some.injEq] at hu
 subst hu
 intro E a w K Q h hn hK
 obtain ⟨m1,m2,m3⟩:=zeg h.mem (St.of_free hc) T (zeB E w z.cells.toList) hf
 refine zaM (v:= .pointer (some ⟨w.heap.size,0,none⟩)) (w':=w.alloc (.cells z.cells.toList.toArray T)) ?_ (hK _ _ _ m2 m3 ⟨w.heap.size,if_pos rfl,rfl⟩ m1)
 cases hi:P.info? T with
 | none=>simp [hi] at hz
 | some i=>
  simp [hi] at hz
  simp [execOp,ho,Instr.alloc,zeroValue,typeInfo,Sem.run_bind,hi,hz,newVar,newRow]
end ops
end Go.Proofs.Ytfccndnnpkiajaa
namespace Go.Proofs.Ytfccndnnpkiajaa
open Go.RowKit Go.ChangeShapes Go.WideShapes Go.Deep
theorem Addr.add0 (b off j:Nat):(⟨b,off,none⟩:Addr).add j=⟨b,off+j,none⟩:=by
 unfold Addr.add;split<;>simp_all
section ops
variable {P : Program} {base : Nat} {X : Cx} {w0 : World} {st : St}
def zbu (st:St):SV→Option (List SV×List Prop)
 | .ptr t off=>match st.m t with
  | .cells _ vs=>some (vs.drop off,[])
  | _=>none
 | .el ls r i off=>some ((r.elem ls i).drop off,[])
 | .oel t sz i off=>match st.m t with
  | .row _ ls r=>if sz=r.tys.length then some ((r.elem ls i).drop off,[i<r.len]) else none
  | _=>none
 | .rp _ _ cs off=>some (cs.drop off,[])
 | _=>none
theorem RdL.vals {w:World} {S:Nat→Prop} {fs:List Ty} {ds:List D} {f:Nat→Value} (hl:ds.length=fs.length) (h:∀ j,j<fs.length→Rd w S (fs.getD j default) (f j) (ds.getD j default)):RdL w S fs ((List.range fs.length).map f) ds:=RdL.of_at f hl h
theorem zcl {E:Env} {a:Act} {w:World} (h:st.Ok base X w0 E a w) {s:SV} {cs:List SV} {n:List Prop} (hc:zbu st s=some (cs,n)) (hn:∀ p∈n,p) {v:Value} (hv:DenV E w s v) :
  ∃ b off xs,v = .pointer (some ⟨b,off,none⟩)∧DenL E w cs xs∧∀ j u,xs[j]? = some u→w.cell? ⟨b,off+j,none⟩=some u:=by
 cases s
 case ptr t off=>
  simp only [zbu] at hc
  split at hc
  case h_2=>simp at hc
  rename_i T vs hm
  simp only [Option.some.injEq,Prod.mk.injEq] at hc
  obtain ⟨rfl,rfl⟩:=hc
  obtain ⟨b,hb,rfl⟩:=hv
  obtain ⟨b',xs,h1,h2,h3,h4⟩:=h.mem.cells t _ _ hm
  rw [h1] at hb
  simp only [Option.some.injEq,Value.pointer.injEq,Addr.mk.injEq,and_true] at hb
  subst hb
  refine ⟨b',off,xs.drop off,rfl,h3.drop off,fun j u hu=>?_⟩
  rw [List.getElem?_drop] at hu
  simp [World.cell?,h2,hu]
 case el ls r i off=>
  simp only [zbu,Option.some.injEq,Prod.mk.injEq] at hc
  obtain ⟨rfl,rfl⟩:=hc
  obtain ⟨hi,b,o,c,rfl,hr⟩:=hv
  have hlen:r.rows.length=r.len:=r.rows_len
  obtain ⟨b2,o2,e,hS,hb,vals,hcell,hrow⟩:=Sl.rowAt hr (by omega)
  simp only [Option.some.injEq,Addr.mk.injEq,and_true] at e
  obtain ⟨rfl,rfl⟩:=e
  have hL:=RdL.vals (hrow i hi).1 (hrow i hi).2
  refine ⟨b,_,((List.range r.tys.length).map (vals i)).drop off,rfl,(RL.elem_ok hi hL).drop off,fun j u hu=>?_⟩
  rw [List.getElem?_drop,List.getElem?_map] at hu
  by_cases hj:off+j<r.tys.length
  ·simp [hj] at hu
   rw [← hu,show o+i*r.tys.length+off+j=o+i*r.tys.length+(off+j) by omega]
   exact hcell i _ hi hj
  ·simp [hj] at hu
 case oel t sz i off=>
  simp only [zbu] at hc
  split at hc
  case h_2=>simp at hc
  rename_i T ls r hm
  split at hc
  case isFalse=>simp at hc
  rename_i hsz
  simp only [Option.some.injEq,Prod.mk.injEq] at hc
  obtain ⟨rfl,rfl⟩:=hc
  have hi:i<r.len:=hn _ (by simp)
  obtain ⟨b,k,c,hb,rfl⟩:=hv
  obtain ⟨v',h1,cells,ho,hrow⟩:=h.mem.row t _ _ _ hm
  rw [h1] at hb
  simp only [Option.some.injEq] at hb
  subst hb
  have hlen:r.rows.length=r.len:=r.rows_len
  have hcell:=World.ownsRow.cells ho (g:=b) rfl
  have hL:RdL w (E.set ls) r.tys ((cells.drop (i*r.tys.length)).take r.tys.length) (r.rows.getD i []):=(hrow i (by omega)).mono fun b _ hb=>hb.1
  refine ⟨b,_,((cells.drop (i*r.tys.length)).take r.tys.length).drop off,rfl,(RL.elem_ok hi hL).drop off,fun j u hu=>?_⟩
  rw [List.getElem?_drop,List.getElem?_take] at hu
  split at hu
  ·rw [List.getElem?_drop] at hu
   have:=hcell _ u hu
   rw [Addr.add0] at this
   rw [← this,hsz]
   congr 2
   omega
  ·simp at hu
 case rp ls T cs2 off=>
  simp only [zbu,Option.some.injEq,Prod.mk.injEq] at hc
  obtain ⟨rfl,rfl⟩:=hc
  obtain ⟨b,xs,rfl,h1,h2,h3⟩:=hv
  refine ⟨b,off,xs.drop off,rfl,h3.drop off,fun j u hu=>?_⟩
  rw [List.getElem?_drop] at hu
  simp [World.cell?,h2,hu]
 all_goals simp [zbu] at hc
def aggT (P:Program) (T:TypeId):Option Bool:=
 match P.underlying T with
 | some (.struct _) | some (.array _ _)=>some true
 | some _=>some false
 | none=>none
theorem zb4 {T:TypeId} {b:Bool} (h:aggT P T=some b) (w:World):(isAgg T).run P w = .ok b w:=by
 unfold aggT at h
 unfold isAgg
 split at h
 case h_4=>simp at h
 all_goals
  rename_i hu
  simp only [Option.some.injEq] at h
  subst h
  rw [Sem.run_bind,run_underlying hu]
 ·simp [Sem.run_pure,Result.andThen]
 ·simp [Sem.run_pure,Result.andThen]
 ·rename_i d n1 n2
  cases d<;>first | (exfalso;simp_all;done) | simp [Sem.run_pure,Result.andThen]
def zbi (P:Program) (T:TypeId):Option Nat:=(P.info? T).map (·.size)
theorem zav {T:TypeId} {n:Nat} (h:zbi P T=some n) (w:World):(sizeOf T).run P w = .ok n w:=by
 unfold zbi at h
 cases hi:P.info? T with
 | none=>simp [hi] at h
 | some i=>simp [hi] at h;simp [sizeOf,typeInfo,hi,h,Sem.run_bind]
theorem zcq {w:World} {b off:Nat} {xs:List Value} (hc:∀ j u,xs[j]? = some u→w.cell? ⟨b,off+j,none⟩=some u) (n:Nat) (hn:n≤xs.length):(loadCells ⟨b,off,none⟩ n).run P w = .ok (xs.take n).toArray w:=by
 have:=run_loadCells_list (P:=P) w ⟨b,off,none⟩ (xs.take n) (fun j u hu=>by
  rw [List.getElem?_take] at hu
  rw [Addr.add0]
  split at hu
  ·exact hc j u hu
  ·simp at hu)
 rwa [List.length_take,Nat.min_eq_left hn] at this
def zlk (P:Program) (st:St) (T:TypeId) (x:Operand):Option Upd:=
 match zbu st (zag (st.ev x)).1,aggT P T,zbi P T with
 | some (cs,n),some true,some k=>if k≤cs.length then some ⟨(zag (st.ev x)).2++n,.agg (cs.take k),[]⟩ else none
 | some (c::_,n),some false,_=>some ⟨(zag (st.ev x)).2++n,c,[]⟩
 | _,_,_=>none
theorem zlj (o:Oper) (T:TypeId) (x:Operand) (ho:o.op = .load T x) {u:Upd} (hu:zlk P st T x=some u):Does P base X w0 st o u:=by
 unfold zlk at hu
 split at hu
 case h_3=>simp at hu
 ·rename_i cs n k e1 e2 e3
  split at hu
  case isFalse=>simp at hu
  rename_i hk
  simp only [Option.some.injEq] at hu
  subst hu
  refine Does.pure fun E a w h hn=>?_
  have h1:=zab (h.ev x) (fun p hp=>hn p (List.mem_append_left _ hp))
  obtain ⟨b,off,xs,e,hd,hc⟩:=zcl h e1 (fun p hp=>hn p (List.mem_append_right _ hp)) h1
  refine ⟨.agg (xs.take k).toArray,?_,xs.take k,rfl,hd.take k⟩
  simp only [execOp,ho,Instr.loadAt,e,Instr.sureAddr,loadVar,Sem.run_bind,Sem.run_pure,Result.andThen,zb4 e2,if_true,zav e3,zcq hc k (by rw [hd.len];exact hk)]
 ·rename_i c rest n _ e1 e2
  simp only [Option.some.injEq] at hu
  subst hu
  refine Does.pure fun E a w h hn=>?_
  have h1:=zab (h.ev x) (fun p hp=>hn p (List.mem_append_left _ hp))
  obtain ⟨b,off,xs,e,hd,hc⟩:=zcl h e1 (fun p hp=>hn p (List.mem_append_right _ hp)) h1
  match xs,hd with
  | x0::xs,hd=>
   refine ⟨x0,?_,hd.1⟩
   have:=hc 0 x0 rfl
   rw [Nat.add_zero] at this
   simp [execOp,ho,Instr.loadAt,e,Instr.sureAddr,loadVar,Sem.run_bind,zb4 e2,run_load,this]
def splice (vs ys:List SV) (off:Nat):List SV:=vs.take off++ys++vs.drop (off+ys.length)
theorem zho {vs ys:List SV} {off:Nat} (h1:vs.all SV.flat=true) (h2:ys.all SV.flat=true):(splice vs ys off).all SV.flat=true:=by
 simp only [splice,List.all_eq_true,List.mem_append] at *
 rintro x ((hx | hx) | hx)
 ·exact h1 x (List.mem_of_mem_take hx)
 ·exact h2 x hx
 ·exact h1 x (List.mem_of_mem_drop hx)
theorem zdE {E:Env} {w:World} {vs ys:List SV} {xs zs:List Value} (h:DenL E w vs xs) (k:DenL E w ys zs) (off:Nat):DenL E w (splice vs ys off) (xs.take off++zs++xs.drop (off+zs.length)):=by
 rw [k.len];exact ((h.take off).app k).app (h.drop _)
theorem zc6 {w:World} {T:TypeId} {n:Nat} (hs:zbi P T=some n) {v:Value} {zs:List Value} (hv:v.cells=zs.toArray) (hn:zs.length=n) {b off:Nat} {xs:List Value} {Tb:TypeId} (hb:w.heap[b]? = some (.cells xs.toArray Tb (0,0)))
  (hl:off+zs.length≤xs.length) (h1:∀ u∈zs,u.oneCell'=true):(storeVar T ⟨b,off,none⟩ v).run P w = .ok () (w.setRow b (xs.take off++zs++xs.drop (off+zs.length)).toArray):=by
 subst hn
 have:=run_storeCells_at (P:=P) b off Tb zs 0 xs.toArray w hb (by simpa using hl) h1
 simp only [Nat.add_zero] at this
 simp only [storeVar,hv,Sem.run_bind,zav hs,Result.andThen,List.size_toArray,ne_eq,not_true,if_false,Sem.run_pure]
 simpa using this
def zew (P:Program) (st:St) (T:TypeId) (x y:Operand):Option Upd:=
 match zag (st.ev x),zag (st.ev y),zbi P T with
 | (.ptr t off,n1),(s,n2),some k=>match st.m t with
  | .cells Tb vs=>if s.cells.all SV.flat then (if s.cells.length=k then (if off+k≤vs.length then some ⟨n1++n2,.any,[(t,.cells Tb (splice vs s.cells off))]⟩ else none) else none) else none
  | _=>none
 | _,_,_=>none
theorem zjC (o:Oper) (T:TypeId) (x y:Operand) (ho:o.op = .store T x y) {u:Upd} (hu:zew P st T x y=some u):Does P base X w0 st o u:=by
 unfold zew at hu
 split at hu
 case h_2=>simp at hu
 rename_i t off n1 s n2 k e1 e2 e3
 split at hu
 case h_2=>simp at hu
 rename_i Tb vs hm
 split at hu
 case isFalse=>simp at hu
 split at hu
 case isFalse=>simp at hu
 split at hu
 case isFalse=>simp at hu
 rename_i hf hk hl
 simp only [Option.some.injEq] at hu
 subst hu
 intro E a w K Q h hn hK
 have h1:=zab (h.ev x) (fun p hp=>hn p (by rw [e1] at hp;exact List.mem_append_left _ hp))
 have h2:=zab (h.ev y) (fun p hp=>hn p (by rw [e2] at hp;exact List.mem_append_right _ hp))
 rw [e1] at h1
 rw [e2] at h2
 obtain ⟨zs,hz,hzd⟩:=zd5 hf h2
 obtain ⟨b,hb,hx⟩:=h1
 obtain ⟨b',xs,c1,c2,c3,c4⟩:=h.mem.cells t _ _ hm
 rw [c1] at hb
 simp only [Option.some.injEq,Value.pointer.injEq,Addr.mk.injEq,and_true] at hb
 subst hb
 have hzl:zs.length=k:=by rw [hzd.len];exact hk
 have hxl:xs.length=vs.length:=c3.len
 have hrun:=zc6 (P:=P) e3 hz hzl c2 (off:=off) (by omega) (DenL.ones hf hzd)
 have hne:∀ g,za4 (.pointer (some ⟨b',0,none⟩))≠some g→g≠b':=by intro g hg e;exact hg (by simp [za4,e])
 have hS:Same E.lab w (w.setRow b' (xs.take off++zs++xs.drop (off+zs.length)).toArray):=by
  refine ⟨by simp,fun g hg _=>setRow_other w b' g _ (fun e=>?_)⟩
  subst e
  exact (h.mem.sep t _ (Has.cells hm c1 rfl)).1 hg
 refine zez (w':=w.setRow b' (xs.take off++zs++xs.drop (off+zs.length)).toArray) ?_ (hK E _ _ (Env.Le.refl E) hS trivial ?_)
 ·simp only [execOp,ho,Instr.storeAt,hx,Instr.sureAddr,Sem.run_bind,Sem.run_pure,Result.andThen,hrun]
 ·rw [zbw]
  refine h.mem.poke (by show (st.m t).live=true;rw [hm];rfl) c1 _ rfl (by simp) (fun g hg _=>setRow_other w b' g _ (hne g hg)) ⟨rfl,rfl,rfl⟩ ⟨b',_,rfl,setRow_heap w b' _ _ Tb _ c2,zdE (DenL.mono (Env.Le.refl E) hS _ _ c3) (DenL.mono (Env.Le.refl E) hS _ _ hzd) off,zho c4 hf⟩
end ops
end Go.Proofs.Ytfccndnnpkiajaa
namespace Go.Proofs.Ytfccndnnpkiajaa
open Go.RowKit Go.ChangeShapes Go.WideShapes Go.Deep
section ops
variable {P : Program} {base : Nat} {X : Cx} {w0 : World} {st : St}
def zeR (P:Program) (T:TypeId) (f:Nat):Option (Nat×TypeId):=
 match P.underlying T with
 | some (.struct fs)=>match fs[f]? with
  | some fd=>some (fd.offset,fd.type)
  | none=>none
 | _=>none
theorem zer {T:TypeId} {f off:Nat} {t:TypeId} (h:zeR P T f=some (off,t)):∃ fs fd,P.underlying T=some (.struct fs)∧fs[f]? = some fd∧fd.offset=off∧fd.type=t:=by
 unfold zeR at h
 split at h
 case h_2=>simp at h
 rename_i fs hu
 split at h
 case h_2=>simp at h
 rename_i fd hf
 simp only [Option.some.injEq,Prod.mk.injEq] at h
 exact ⟨fs,fd,hu,hf,h.1,h.2⟩
def znM (s:SV) (n:Nat):SV:=
 match s with
 | .ptr t off=> .ptr t (off+n)
 | .el ls r i off=> .el ls r i (off+n)
 | .oel t sz i off=> .oel t sz i (off+n)
 | .rp ls T cs off=> .rp ls T cs (off+n)
 | _=> .any
def ziM:SV→Bool
 | .ptr .. | .el .. | .oel .. | .rp .. => true
 | _=>false
theorem zkd {E:Env} {w:World} {s:SV} {v:Value} (n:Nat) (h:DenV E w s v) (ha:ziM s=true):∃ b off,v = .pointer (some ⟨b,off,none⟩)∧DenV E w (znM s n) (.pointer (some ⟨b,off+n,none⟩)):=by
 cases s<;>simp only [ziM,Bool.false_eq_true] at ha
 case ptr t off=>obtain ⟨b,h1,rfl⟩:=h;exact ⟨b,off,rfl,b,h1,rfl⟩
 case el ls r i off=>obtain ⟨h0,b,o,c,rfl,h2⟩:=h;exact ⟨b,_,rfl,h0,b,o,c,by rw [Nat.add_assoc],h2⟩
 case oel t sz i off=>obtain ⟨b,k,c,h1,rfl⟩:=h;exact ⟨b,_,rfl,b,k,c,h1,by rw [Nat.add_assoc]⟩
 case rp ls T cs off=>obtain ⟨b,xs,rfl,h1,h2,h3⟩:=h;exact ⟨b,off,rfl,b,xs,rfl,h1,h2,h3⟩
def zaS (P:Program) (st:St) (T:TypeId) (x:Operand) (f:Nat):Option Upd:=
 match zeR P T f with
 | some (off,t)=>match zbi P t with
  | some k=>if k=0 then none else (if ziM (zag (st.ev x)).1 then some ⟨(zag (st.ev x)).2,znM (zag (st.ev x)).1 off,[]⟩ else none)
  | none=>none
 | none=>none
theorem zeX (o:Oper) (T:TypeId) (x:Operand) (f:Nat) (ho:o.op = .fieldAddr T x f) {u:Upd} (hu:zaS P st T x f=some u):Does P base X w0 st o u:=by
 unfold zaS at hu
 split at hu
 case h_2=>simp at hu
 rename_i off t hf
 split at hu
 case h_2=>simp at hu
 rename_i k hk
 split at hu
 case isTrue=>simp at hu
 split at hu
 case isFalse=>simp at hu
 rename_i hk0 ha
 simp only [Option.some.injEq] at hu
 subst hu
 obtain ⟨fs,fd,h1,h2,rfl,rfl⟩:=zer hf
 refine Does.pure fun E a w h hn=>?_
 obtain ⟨b,o2,e,hd⟩:=zkd fd.offset (zab (h.ev x) hn) ha
 refine ⟨_,?_,hd⟩
 simp [execOp,ho,Instr.fieldAt,run_underlying h1,h2,e,Instr.sureAddr,fieldPlace,zav hk,hk0,Addr.add0]
def zha (P:Program) (st:St) (T:TypeId) (x:Operand) (f:Nat):Option Upd:=
 match zeR P T f,zag (st.ev x) with
 | some (off,t),(.agg vs,n)=>match aggT P t with
  | some true=>match zbi P t with
   | some k=>if off+k≤vs.length then some ⟨n,.agg ((vs.drop off).take k),[]⟩ else none
   | none=>none
  | some false=>match vs[off]? with
   | some s=>some ⟨n,s,[]⟩
   | none=>none
  | none=>none
 | _,_=>none
theorem zjD (o:Oper) (T:TypeId) (x:Operand) (f:Nat) (ho:o.op = .field T x f) {u:Upd} (hu:zha P st T x f=some u):Does P base X w0 st o u:=by
 unfold zha at hu
 split at hu
 case h_2=>simp at hu
 rename_i off t vs n hf e
 obtain ⟨fs,fd,h1,h2,rfl,rfl⟩:=zer hf
 split at hu
 case h_3=>simp at hu
 ·rename_i ha
  split at hu
  case h_2=>simp at hu
  rename_i k hk
  split at hu
  case isFalse=>simp at hu
  rename_i hl
  simp only [Option.some.injEq] at hu
  subst hu
  refine Does.pure fun E a w h hn=>?_
  have hv:=zab (h.ev x) (fun p hp=>hn p (by rw [e] at hp;exact hp))
  rw [e] at hv
  obtain ⟨xs,hx,hd⟩:=hv
  refine ⟨.agg ((xs.drop fd.offset).take k).toArray,?_,_,rfl,(hd.drop _).take _⟩
  have e2:(xs.toArray.extract fd.offset (fd.offset+k))=((xs.drop fd.offset).take k).toArray:=by
   simp [List.extract_toArray,List.extract_eq_take_drop]
  simp [execOp,ho,Instr.field,run_underlying h1,h2,hx,asAgg,part,zb4 ha,zav hk]
 ·rename_i ha
  split at hu
  case h_2=>simp at hu
  rename_i s hs
  simp only [Option.some.injEq] at hu
  subst hu
  refine Does.pure fun E a w h hn=>?_
  have hv:=zab (h.ev x) (fun p hp=>hn p (by rw [e] at hp;exact hp))
  rw [e] at hv
  obtain ⟨xs,hx,hd⟩:=hv
  have hlt:fd.offset<vs.length:=(List.getElem?_eq_some_iff.1 hs).1
  have hd2:=hd.at fd.offset hlt
  have hlt2:fd.offset<xs.length:=by rw [hd.len];exact hlt
  have e3:vs.getD fd.offset .any=s:=by simp [List.getD,hs]
  rw [e3] at hd2
  have e4:xs.getD fd.offset undef=xs[fd.offset]:=by simp [List.getD,hlt2]
  rw [e4] at hd2
  refine ⟨_,?_,hd2⟩
  simp [execOp,ho,Instr.field,run_underlying h1,h2,hx,asAgg,part,zb4 ha,hlt2]
def zh9 (place:Nat→Option (Nat×Nat)):List SV→List (Nat×SV)→Option (List SV)
 | cs,[]=>some cs
 | cs,(i,s)::r=>match place i with
  | some (off,k)=>if s.cells.all SV.flat then (if s.cells.length=k then (if off+k≤cs.length then zh9 place (splice cs s.cells off) r else none) else none) else none
  | none=>none
theorem zkI (zs:List Value) (off:Nat):∀ (j:Nat) (cs:Array Value),off+j+zs.length≤cs.size →
  ((zs.zipIdx j).foldl (fun cs (c,j)=>cs.setIfInBounds (off+j) c) cs).toList=cs.toList.take (off+j)++zs++cs.toList.drop (off+j+zs.length):=by
 induction zs with
 | nil=>intro j cs _;simp
 | cons z zs ih=>
  intro j cs h
  simp only [List.zipIdx_cons,List.foldl_cons,List.length_cons] at h ⊢
  have:=ih (j+1) (cs.setIfInBounds (off+j) z) (by simp;omega)
  rw [show off+(j+1)=off+j+1 by omega] at this
  rw [this]
  simp only [Array.toList_setIfInBounds]
  have hlt:off+j<cs.toList.length:=by simp;omega
  have e1:(cs.toList.set (off+j) z).take (off+j+1)=cs.toList.take (off+j)++[z]:=by
   rw [List.take_succ_eq_append_getElem (by simpa using hlt),List.take_set_of_le (by omega)]
   simp
  have e2:(cs.toList.set (off+j) z).drop (off+j+1+zs.length)=cs.toList.drop (off+j+(zs.length+1)):=by
   rw [List.drop_set_of_lt (by omega)];congr 1;omega
  rw [e1,e2];simp
theorem zeQ {E:Env} {w:World} {place:Nat→Option (Nat×Nat)}:∀ {ps:List (Nat×SV)} {cs out:List SV} {vals:List (Nat×Value)} {zs:Array Value},zh9 place cs ps=some out→DenL E w cs zs.toList→vals.length=ps.length →
  (∀ i,i<ps.length→(vals.getD i default).1=(ps.getD i default).1∧DenV E w (ps.getD i default).2 (vals.getD i default).2)→∃ r:Array Value,Instr.fill place zs vals=some r∧DenL E w out r.toList
 | [],cs,out,vals,zs,h,hd,hl,_=>by
  have:vals=[]:=List.eq_nil_of_length_eq_zero (by simpa using hl)
  subst this
  simp only [zh9,Option.some.injEq] at h
  subst h
  exact ⟨zs,by simp [Instr.fill],hd⟩
 | (i,s)::r,cs,out,[],zs,h,hd,hl,_=>by simp at hl
 | (i,s)::r,cs,out,(i2,v)::vals,zs,h,hd,hl,hp=>by
  have h0:=hp 0 (by simp)
  simp at h0
  obtain ⟨rfl,hv⟩:=h0
  unfold zh9 at h
  split at h
  case h_2=>simp at h
  rename_i off k hpl
  split at h
  case isFalse=>simp at h
  split at h
  case isFalse=>simp at h
  split at h
  case isFalse=>simp at h
  rename_i hf hk hle
  obtain ⟨xs,hx,hxd⟩:=zd5 hf hv
  have hxl:xs.length=k:=by rw [hxd.len];exact hk
  have hzl:zs.size=cs.length:=by have:=hd.len;simpa using this
  have hfold:=zkI xs off 0 zs (by simp;omega)
  simp only [Nat.add_zero] at hfold
  have hd2:DenL E w (splice cs s.cells off) ((xs.zipIdx.foldl (fun cs (c,j)=>cs.setIfInBounds (off+j) c) zs).toList):=by
   rw [hfold];exact zdE hd hxd off
  obtain ⟨res,h3,h4⟩:=zeQ (ps:=r) (vals:=vals) h hd2 (by simpa using hl) (fun j hj=>by have:=hp (j+1) (by simpa using hj);simpa using this)
  refine ⟨res,?_,h4⟩
  rw [Instr.fill,hpl]
  simp only [hx,List.size_toArray,hxl,ne_eq,not_true,false_or,decide_false,Bool.false_or]
  rw [if_neg (by simp;omega)]
  have e5:(xs.toArray.zipIdx.foldl (fun cs (c,j)=>cs.setIfInBounds (off+j) c) zs)=(xs.zipIdx.foldl (fun cs (c,j)=>cs.setIfInBounds (off+j) c) zs):=by
   simp [← Array.foldl_toList]
  rw [← h3]
  simp
def zbf (st:St):List (Nat×Operand)→List (Nat×SV)×List Prop
 | []=>([],[])
 | (i,x)::r=>((i,(zag (st.ev x)).1)::(zbf st r).1,(zag (st.ev x)).2++(zbf st r).2)
def zdB (a:Act) (ps:List (Nat×Operand)):List (Nat×Value):=ps.map fun q=>(q.1,a.eval q.2)
theorem zdL {E:Env} {a:Act} {w:World} (h:st.Ok base X w0 E a w):∀ (ps:List (Nat×Operand)),(∀ p∈(zbf st ps).2,p)→(zbf st ps).1.length=ps.length∧∀ i,i<ps.length →
  (((zdB a ps).getD i default).1=((zbf st ps).1.getD i default).1∧DenV E w ((zbf st ps).1.getD i default).2 ((zdB a ps).getD i default).2)
 | [],_=>⟨rfl,fun i hi=>absurd hi (by simp)⟩
 | (i,x)::r,hn=>by
  have ih:=zdL h r (fun p hp=>hn p (List.mem_append_right _ hp))
  refine ⟨by simp [zbf,ih.1],fun j hj=>?_⟩
  cases j with
  | zero=>exact ⟨rfl,zab (h.ev x) (fun p hp=>hn p (List.mem_append_left _ hp))⟩
  | succ j=>have:=ih.2 j (by simpa using hj);simpa [zbf,zdB] using this
def zg3 (P:Program) (T:TypeId):Option (List (Nat×TypeId)):=
 match P.underlying T with
 | some (.struct fs)=>some (fs.toList.map fun f=>(f.offset,f.type))
 | _=>none
def zcA (P:Program):List (Nat×TypeId)→Option (List (Nat×Nat))
 | []=>some []
 | (off,t)::r=>match zbi P t,zcA P r with
  | some k,some l=>some ((off,k)::l)
  | _,_=>none
theorem zej (w:World):∀ (fs:List Field) (l:List (Nat×Nat)),zcA P (fs.map fun f=>(f.offset,f.type))=some l →
  (List.mapM (fun (f:Field)=>(do pure (f.offset,← sizeOf f.type):Sem (Nat×Nat))) fs).run P w = .ok l w
 | [],l,h=>by simp only [List.map_nil,zcA,Option.some.injEq] at h;subst h;simp [Sem.run_pure]
 | f::fs,l,h=>by
  simp only [List.map_cons,zcA] at h
  split at h
  case h_2=>simp at h
  rename_i k l2 h1 h2
  simp only [Option.some.injEq] at h
  subst h
  have ih:=zej w fs l2 h2
  simp only [List.mapM_cons,Sem.run_bind,zav h1,Result.andThen,Sem.run_pure,ih]
def zhb (P:Program) (st:St) (T:TypeId) (parts:Array (Nat×Operand)):Option Upd:=
 match (P.info? T).bind (·.zero),zg3 P T with
 | some z,some fs=>match zcA P fs with
  | some l=>match zh9 (fun i=>l[i]?) (ofCs z) (zbf st parts.toList).1 with
   | some out=>some ⟨(zbf st parts.toList).2,.agg out,[]⟩
   | none=>none
  | none=>none
 | _,_=>none
theorem zjE (o:Oper) (T:TypeId) (parts:Array (Nat×Operand)) (ho:o.op = .build T parts) {u:Upd} (hu:zhb P st T parts=some u):Does P base X w0 st o u:=by
 unfold zhb at hu
 split at hu
 case h_2=>simp at hu
 rename_i z fs hz hfs
 split at hu
 case h_2=>simp at hu
 rename_i l hl
 split at hu
 case h_2=>simp at hu
 rename_i out hout
 simp only [Option.some.injEq] at hu
 subst hu
 unfold zg3 at hfs
 split at hfs
 case h_2=>simp at hfs
 rename_i flds hund
 simp only [Option.some.injEq] at hfs
 subst hfs
 refine Does.pure fun E a w h hn=>?_
 have hp:=zdL h parts.toList hn
 obtain ⟨r,hr,hd⟩:=zeQ (E:=E) (w:=w) (zs:=z.cells) (vals:=zdB a parts.toList) hout (zeB E w z.cells.toList) (by rw [hp.1];simp [zdB]) (fun i hi=>hp.2 i (by rw [hp.1] at hi;exact hi))
 refine ⟨.agg r,?_,r.toList,by simp,hd⟩
 cases hi:P.info? T with
 | none=>simp [hi] at hz
 | some inf=>
  simp [hi] at hz
  have hpl:=zej (P:=P) w flds.toList l hl
  have hm:(flds.mapM fun (f:Field)=>(do pure (f.offset,← sizeOf f.type):Sem (Nat×Nat))).run P w = .ok l.toArray w:=by
   rw [Array.mapM_eq_mapM_toList,map_eq_pure_bind,Sem.run_bind,hpl];simp [Sem.run_pure]
  have hrr:Instr.fill (l.toArray[·]?) z.cells (parts.map fun (i,x)=>(i,a.eval x)).toList=some r:=by
   have e:(parts.map fun (i,x)=>(i,a.eval x)).toList=zdB a parts.toList:=by simp [zdB]
   rw [e];simpa using hr
  simp only [execOp,ho,Instr.build,zeroValue,typeInfo,Sem.run_bind,run_program,hi,hz,Result.andThen,Sem.run_pure,run_underlying hund,hm,hrr]
end ops
end Go.Proofs.Ytfccndnnpkiajaa
namespace Go.Proofs.Ytfccndnnpkiajaa
open Go.RowKit Go.ChangeShapes Go.WideShapes Go.Deep
section ops
variable {P : Program} {base : Nat} {X : Cx} {w0 : World} {st : St}
theorem OwnR.bd {b:Nat} {w:World} {T:TypeId} {S:Nat→Prop} {fs:List Ty} {v:Value} {rows:List (List D)} (h:OwnR b w T S fs v rows):rows.length≤9223372036854775807:=by
 obtain ⟨cells,⟨_,⟨rfl,hn⟩ | ⟨g,cap,cur,rfl,_,_,h1,h2,_⟩⟩,_⟩:=h
 ·omega
 ·unfold maxLen at h2;omega
def zbe (P:Program) (T:TypeId):Option TypeId:=
 match P.underlying T with
 | some (.slice e)=>some e
 | _=>none
theorem zao {T e:TypeId} (h:zbe P T=some e):P.underlying T=some (.slice e):=by
 unfold zbe at h
 split at h
 case h_2=>simp at h
 rename_i hu
 simp only [Option.some.injEq] at h
 rw [hu,h]
def zcn (P:Program) (st:St) (T:TypeId) (x i:Operand):Option Upd:=
 match zbe P T,zag (st.ev i) with
 | some e,(.int k n,n1)=>match zag (st.ev x),zbi P e with
  | (.sl ls r,n2),some sz=>if sz=r.tys.length then some ⟨n1++n2++[0≤n,n<(r.len:Int)],.el ls r n.toNat 0,[]⟩ else none
  | (.own t,n2),some sz=>match st.m t with
   | .row _ _ r=>if sz=r.tys.length then some ⟨n1++n2++[0≤n,n<(r.len:Int)],.oel t sz n.toNat 0,[]⟩ else none
   | _=>none
  | _,_=>none
 | _,_=>none
theorem zdG {T e:TypeId} (hu:P.underlying T=some (.slice e)) {sz:Nat} (hsz:zbi P e=some sz) {b off len c:Nat} {k:IntKind} {n:Int} (h0:0≤n) (h1:n<(len:Int)) (w:World) :
  (Instr.indexAt T (.slice (some ⟨b,off,none⟩) len c) (.int k n)).run P w = .ok (.pointer (some ⟨b,off+n.toNat*sz,none⟩)) w:=by
 simp [Instr.indexAt,asIntOf,run_underlying hu,h0,h1,zav hsz,Addr.add0,Sem.run_bind]
theorem zeW (o:Oper) (T:TypeId) (x i:Operand) (ho:o.op = .indexAddr T x i) {u:Upd} (hu:zcn P st T x i=some u):Does P base X w0 st o u:=by
 unfold zcn at hu
 split at hu
 case h_2=>simp at hu
 rename_i e k n n1 he ei
 have hund:=zao he
 split at hu
 case h_3=>simp at hu
 ·rename_i ls r n2 sz ex hsz
  split at hu
  case isFalse=>simp at hu
  rename_i hrs
  simp only [Option.some.injEq] at hu
  subst hu
  refine Does.pure fun E a w h hn=>?_
  have hi:=zab (h.ev i) (fun p hp=>hn p (by rw [ei] at hp;simp [hp]))
  have hx:=zab (h.ev x) (fun p hp=>hn p (by rw [ex] at hp;simp [hp]))
  rw [ei] at hi
  rw [ex] at hx
  obtain ⟨hi,_⟩:=hi
  have h0:0≤n:=hn _ (by simp)
  have h1:n<(r.len:Int):=hn (n<(r.len:Int)) (by simp)
  have hlen:r.rows.length=r.len:=r.rows_len
  obtain ⟨ad,c,hv,hs⟩:=Rd.sl' hx
  obtain ⟨b,off,e1⟩:=Sl.addr hs (by omega)
  subst e1
  rw [hlen] at hv hs
  refine ⟨.pointer (some ⟨b,off+n.toNat*sz,none⟩),?_,(by omega:n.toNat<r.len),b,off,c,?_,hs⟩
  ·simp only [execOp,ho,hv,hi,Sem.run_bind,zdG hund hsz h0 h1,Result.andThen,Sem.run_pure]
  ·rw [hrs,Nat.add_zero]
 ·rename_i t n2 sz ex hsz
  split at hu
  case h_2=>simp at hu
  rename_i T' ls r hm
  split at hu
  case isFalse=>simp at hu
  rename_i hrs
  simp only [Option.some.injEq] at hu
  subst hu
  refine Does.pure fun E a w h hn=>?_
  have hi:=zab (h.ev i) (fun p hp=>hn p (by rw [ei] at hp;simp [hp]))
  have hx:=zab (h.ev x) (fun p hp=>hn p (by rw [ex] at hp;simp [hp]))
  rw [ei] at hi
  rw [ex] at hx
  obtain ⟨hi,_⟩:=hi
  have h0:0≤n:=hn _ (by simp)
  have h1:n<(r.len:Int):=hn (n<(r.len:Int)) (by simp)
  have hlen:r.rows.length=r.len:=r.rows_len
  obtain ⟨v',h2,cells,ho',hrow⟩:=h.mem.row t _ _ _ hm
  have hβ:=hx.1
  rw [h2] at hβ
  simp only [Option.some.injEq] at hβ
  rcases ho'.2 with ⟨e1,e2⟩ | ⟨g,cap,cur,e1,_⟩
  ·omega
  ·rw [hlen] at e1
   rw [e1] at hβ h2
   refine ⟨.pointer (some ⟨g,0+n.toNat*sz,none⟩),?_,g,r.len,cap,h2,by simp⟩
   simp only [execOp,ho,← hβ,hi,Sem.run_bind,zdG hund hsz h0 h1,Result.andThen,Sem.run_pure]
def zd6 (st:St) (x:Operand) (i:Nat):Option Upd:=
 match zag (st.ev x) with
 | (.tup vs,n)=>match vs[i]? with
  | some s=>some ⟨n,s,[]⟩
  | none=>none
 | _=>none
theorem zgo (o:Oper) (x:Operand) (i:Nat) (ho:o.op = .extract x i) {u:Upd} (hu:zd6 st x i=some u):Does P base X w0 st o u:=by
 unfold zd6 at hu
 split at hu
 case h_2=>simp at hu
 rename_i vs n e
 split at hu
 case h_2=>simp at hu
 rename_i s hs
 simp only [Option.some.injEq] at hu
 subst hu
 refine Does.pure fun E a w h hn=>?_
 have hx:=zab (h.ev x) (fun p hp=>hn p (by rw [e] at hp;exact hp))
 rw [e] at hx
 obtain ⟨xs,hv,hd⟩:=hx
 have hlt:i<vs.length:=(List.getElem?_eq_some_iff.1 hs).1
 have hd2:=hd.at i hlt
 have hlt2:i<xs.length:=by rw [hd.len];exact hlt
 rw [show vs.getD i .any=s by simp [List.getD,hs],show xs.getD i undef=xs[i] by simp [List.getD,hlt2]] at hd2
 refine ⟨_,?_,hd2⟩
 simp [execOp,ho,hv,Instr.extract,hlt2]
def binV (op:BinOp):SV→SV→Option (SV×List Prop)
 | .int k x,.int k' y=>if k=k' then match op with
  | .add=>some (.int k (k.wrap (x+y)),[])
  | .sub=>some (.int k (k.wrap (x-y)),[])
  | .mul=>some (.int k (k.wrap (x*y)),[])
  | .quo=>some (.int k (k.wrap (x.tdiv y)),[y≠0])
  | .rem=>some (.int k (x.tmod y),[y≠0,(Lit.int k (x.tmod y)).wf=true])
  | .eql=>some (.bool (x==y),[])
  | .neq=>some (.bool (x != y),[])
  | .lss=>some (.bool (decide (x<y)),[])
  | .leq=>some (.bool (decide (x≤y)),[])
  | .gtr=>some (.bool (decide (x>y)),[])
  | .geq=>some (.bool (decide (x≥y)),[])
  | _=>none
  else none
 | .str x,.str y=>match op with
  | .eql=>some (.bool (x.toList==y.toList),[])
  | .neq=>some (.bool !(x.toList==y.toList),[])
  | .add=>some (.str (x++y),[x.size+y.size≤140737488355328])
  | _=>none
 | _,_=>none
def binB (P:Program) (op:BinOp) (T:TypeId):SV→SV→Option SV
 | .bool x,.bool y=>match P.underlying T with
  | some .bool=>match op with
   | .eql=>some (.bool (x==y))
   | .neq=>some (.bool !(x==y))
   | _=>none
  | _=>none
 | _,_=>none
theorem zn8 {E:Env} {w:World} {op:BinOp} {s t r:SV} {n:List Prop} (h:binV op s t=some (r,n)) (hn:∀ p∈n,p) {v u:Value} (hv:DenV E w s v) (hu:DenV E w t u) (T:TypeId) (x y:Operand) :
  ∃ z,(do eqGuard op T x y v u;binOp op T v u:Sem Value).run P w = .ok z w∧DenV E w r z:=by
 unfold binV at h
 split at h
 ·rename_i k a k' b
  split at h
  case isFalse=>simp at h
  rename_i hk
  subst hk
  obtain ⟨rfl,_⟩:=hv
  obtain ⟨rfl,_⟩:=hu
  split at h<;>simp only [Option.some.injEq,Prod.mk.injEq,reduceCtorEq] at h
  all_goals obtain ⟨rfl,rfl⟩:=h
  case h_5=>
   have h1:b≠0:=hn _ (by simp)
   have h2:(Lit.int k (a.tmod b)).wf=true:=hn _ (by simp)
   exact ⟨_,by simp [eqGuard,binOp,Op.intDiv,h1],rfl,h2⟩
  case h_4=>
   have h1:b≠0:=hn _ (by simp)
   exact ⟨_,by simp [eqGuard,binOp,Op.intDiv,h1],rfl,wf_wrap _ _⟩
  all_goals
   refine ⟨_,by simp [eqGuard,binOp,Op.intArith,Op.intCmp];rfl,?_⟩
   first | exact ⟨rfl,wf_wrap _ _⟩ | rfl
 ·rename_i a b
  obtain ⟨rfl,ha⟩:=hv
  obtain ⟨rfl,hb⟩:=hu
  split at h<;>simp only [Option.some.injEq,Prod.mk.injEq,reduceCtorEq] at h
  all_goals obtain ⟨rfl,rfl⟩:=h
  case h_3=>
   have h1:a.size+b.size≤140737488355328:=hn _ (by simp)
   refine ⟨.string (a++b),?_,rfl,by simpa using h1⟩
   have h2:¬ (((a.size+b.size:Nat):Int)>IntKind.i64.max):=by
    have:IntKind.i64.max=9223372036854775807:=rfl
    rw [this];omega
   simp only [eqGuard,binOp,Op.stringOp]
   rw [if_neg h2]
   rfl
  all_goals
   refine ⟨_,by simp [eqGuard,binOp,Op.stringOp];rfl,?_⟩
   rfl
 ·simp at h
theorem zek {T:TypeId} (hT:P.underlying T=some .bool) (a b:Bool) (w:World):(Op.equal T (.bool a) (.bool b)).run P w = .ok (a==b) w:=by
 unfold Op.equal Op.maxDepth
 unfold Op.equalIn
 rw [Sem.run_bind,run_underlying hT]
 rfl
theorem zn9 {E:Env} {w:World} {op:BinOp} {T:TypeId} {s t r:SV} (h:binB P op T s t=some r) {v u:Value} (hv:DenV E w s v) (hu:DenV E w t u) (x y:Operand) :
  ∃ z,(do eqGuard op T x y v u;binOp op T v u:Sem Value).run P w = .ok z w∧DenV E w r z:=by
 unfold binB at h
 split at h
 case h_2=>simp at h
 rename_i a b
 split at h
 case h_2=>simp at h
 rename_i hT
 have hv:v = .bool a:=hv
 have hu:u = .bool b:=hu
 subst hv;subst hu
 split at h<;>simp only [Option.some.injEq,reduceCtorEq] at h
 all_goals subst h
 ·exact ⟨.bool (a==b),by
   rw [show (do eqGuard .eql T x y (.bool a) (.bool b);binOp .eql T (.bool a) (.bool b):Sem Value)=(do eqGuard .eql T x y (.bool a) (.bool b);pure (.bool (← Op.equal T (.bool a) (.bool b)))) from rfl]
   simp [eqGuard,zek hT],rfl⟩
 ·exact ⟨.bool !(a==b),by
   rw [show (do eqGuard .neq T x y (.bool a) (.bool b);binOp .neq T (.bool a) (.bool b):Sem Value)=(do eqGuard .neq T x y (.bool a) (.bool b);pure (.bool (!(← Op.equal T (.bool a) (.bool b))))) from rfl]
   simp [eqGuard,zek hT],rfl⟩
def cBin (P:Program) (st:St) (op:BinOp) (T:TypeId) (x y:Operand):Option Upd:=
 match binV op (zag (st.ev x)).1 (zag (st.ev y)).1 with
 | some (r,n)=>some ⟨(zag (st.ev x)).2++(zag (st.ev y)).2++n,r,[]⟩
 | none=>match binB P op T (zag (st.ev x)).1 (zag (st.ev y)).1 with
  | some r=>some ⟨(zag (st.ev x)).2++(zag (st.ev y)).2,r,[]⟩
  | none=>none
theorem zn3 (o:Oper) (op:BinOp) (T T2:TypeId) (x y:Operand) (ho:o.op = .binOp op T x y T2) {u:Upd} (hu:cBin P st op T x y=some u):Does P base X w0 st o u:=by
 unfold cBin at hu
 split at hu
 ·rename_i r n hb
  simp only [Option.some.injEq] at hu
  subst hu
  refine Does.pure fun E a w h hn=>?_
  have hx:=zab (h.ev x) (fun p hp=>hn p (by simp [hp]))
  have hy:=zab (h.ev y) (fun p hp=>hn p (by simp [hp]))
  obtain ⟨z,h1,h2⟩:=zn8 (P:=P) hb (fun p hp=>hn p (by simp [hp])) hx hy T x y
  exact ⟨z,by rw [execOp,ho];simp only [Sem.run_bind] at h1 ⊢;rw [h1];rfl,h2⟩
 ·split at hu
  case h_2=>simp at hu
  rename_i r hb
  simp only [Option.some.injEq] at hu
  subst hu
  refine Does.pure fun E a w h hn=>?_
  have hx:=zab (h.ev x) (fun p hp=>hn p (by simp [hp]))
  have hy:=zab (h.ev y) (fun p hp=>hn p (by simp [hp]))
  obtain ⟨z,h1,h2⟩:=zn9 (P:=P) hb hx hy x y
  exact ⟨z,by rw [execOp,ho];simp only [Sem.run_bind] at h1 ⊢;rw [h1];rfl,h2⟩
def cUn (st:St) (op:UnOp) (x:Operand):Option Upd:=
 match op,zag (st.ev x) with
 | .not,(.bool b,n)=>some ⟨n,.bool !b,[]⟩
 | .neg,(.int k m,n)=>some ⟨n,.int k (k.wrap (0-m)),[]⟩
 | _,_=>none
theorem zot (o:Oper) (op:UnOp) (T:TypeId) (x:Operand) (ho:o.op = .unOp op T x) {u:Upd} (hu:cUn st op x=some u):Does P base X w0 st o u:=by
 unfold cUn at hu
 split at hu
 case h_3=>simp at hu
 ·rename_i b n e
  simp only [Option.some.injEq] at hu
  subst hu
  refine Does.pure fun E a w h hn=>?_
  have hx:=zab (h.ev x) (fun p hp=>hn p (by rw [e] at hp;exact hp))
  rw [e] at hx
  have hx:a.eval x = .bool b:=hx
  exact ⟨.bool !b,by simp [execOp,ho,hx,Op.unary],rfl⟩
 ·rename_i k m n e
  simp only [Option.some.injEq] at hu
  subst hu
  refine Does.pure fun E a w h hn=>?_
  have hx:=zab (h.ev x) (fun p hp=>hn p (by rw [e] at hp;exact hp))
  rw [e] at hx
  obtain ⟨hx,_⟩:=hx
  exact ⟨.int k (k.wrap (0-m)),by simp [execOp,ho,hx,Op.unary,Op.intArith],rfl,wf_wrap _ _⟩
def lenV (st:St):SV→Option Nat
 | .sl _ r=>some r.len
 | .own t=>match st.m t with
  | .row _ _ r=>some r.len
  | _=>none
 | .nil=>some 0
 | _=>none
theorem zmG {E:Env} {a:Act} {w:World} (h:st.Ok base X w0 E a w) {s:SV} {n:Nat} (hl:lenV st s=some n) {v:Value} (hv:DenV E w s v):∃ ad c,v = .slice ad n c∧n≤9223372036854775807:=by
 cases s<;>simp only [lenV,reduceCtorEq] at hl
 case nil=>simp only [Option.some.injEq] at hl;subst hl;exact ⟨none,0,hv,by omega⟩
 case sl ls r=>
  simp only [Option.some.injEq] at hl
  subst hl
  obtain ⟨ad,c,e,hs⟩:=Rd.sl' hv
  have:=hs.bd
  rw [r.rows_len] at e this
  exact ⟨ad,c,e,by omega⟩
 case own t=>
  split at hl
  case h_2=>simp at hl
  rename_i T ls r hm
  simp only [Option.some.injEq] at hl
  subst hl
  obtain ⟨v',h1,h2⟩:=h.mem.row t _ _ _ hm
  have:=hv.1
  rw [h1] at this
  simp only [Option.some.injEq] at this
  subst this
  obtain ⟨ad,c,e⟩:=h2.form
  have:=h2.bd
  rw [r.rows_len] at e this
  exact ⟨ad,c,e,this⟩
def cLen (P:Program) (st:St) (T:TypeId) (x:Operand):Option Upd:=
 match zbe P T with
 | some _=>match lenV st (zag (st.ev x)).1 with
  | some n=>some ⟨(zag (st.ev x)).2,.int .i64 n,[]⟩
  | none=>none
 | none=>match P.underlying T,zag (st.ev x) with
  | some .string,(.str s,n)=>some ⟨n,.int .i64 s.size,[]⟩
  | _,_=>none
theorem zih {o:Oper} {x:Operand} {T:TypeId} (ho:o.op = .call {callee:= .builtin .len,args:= #[x],argTypes:= #[T]}) (a:Act) (w:World) {v:Value} (h:(Builtin.len_ #[T] o.type #[a.eval x]).run P w = .ok v w) :
  (execOp a.eval o).run P w = .ok (.value v) w:=by
 simp only [execOp,ho,resolve,invoke,builtin,Sem.run_bind,Sem.run_pure,Result.andThen,List.map_toArray,List.map_cons,List.map_nil,h]
theorem znw (o:Oper) (T:TypeId) (x:Operand) (ho:o.op = .call {callee:= .builtin .len,args:= #[x],argTypes:= #[T]}) {u:Upd} (hu:cLen P st T x=some u):Does P base X w0 st o u:=by
 unfold cLen at hu
 split at hu
 ·rename_i e he
  split at hu
  case h_2=>simp at hu
  rename_i n hl
  simp only [Option.some.injEq] at hu
  subst hu
  refine Does.pure fun E a w h hn=>?_
  obtain ⟨ad,c,hv,hb⟩:=zmG h hl (zab (h.ev x) hn)
  exact ⟨.int .i64 n,zih ho a w (by simp [Builtin.len_,run_underlying (zao he),hv,goInt]),rfl,zds ⟨by omega,by omega⟩⟩
 ·split at hu
  case h_2=>simp at hu
  rename_i s n hT e
  simp only [Option.some.injEq] at hu
  subst hu
  refine Does.pure fun E a w h hn=>?_
  have hx:=zab (h.ev x) (fun p hp=>hn p (by rw [e] at hp;exact hp))
  rw [e] at hx
  obtain ⟨hx,hb⟩:=hx
  exact ⟨.int .i64 s.size,zih ho a w (by simp [Builtin.len_,run_underlying hT,hx,goInt]),rfl,zds ⟨by omega,by omega⟩⟩
end ops
end Go.Proofs.Ytfccndnnpkiajaa
namespace Go.Proofs.Ytfccndnnpkiajaa
open Go.RowKit Go.ChangeShapes Go.WideShapes Go.Deep
def FnB (P : Program) (f : FuncId) : Prop := ∃ fn, P.funcs[f]? = some fn ∧ fn.name ≠ "runtime.NumGoroutine" ∧ fn.body.isSome = true
def zdv (P:Program) (C:Cfg):Prop:=∀ c f st svs u,C.orc c f st svs=some u→FnB P f∧∀ base X w0 E w vals,MemOk base X w0 E st.m w→DenL E w svs vals→(∀ p∈u.needs,p) →
 Calls P f vals.toArray w (fun e w'=>∃ v E',e = .returned v∧E.Le E'∧Same E.lab w w'∧DenV E' w' u.val v∧MemOk base X w0 E' (putF u.mem st.m) w')
section ops
variable {P : Program} {base : Nat} {X : Cx} {w0 : World} {st : St}
def evL (st:St):List Operand→List SV×List Prop
 | []=>([],[])
 | x::r=>((zag (st.ev x)).1::(evL st r).1,(zag (st.ev x)).2++(evL st r).2)
theorem zfB {E:Env} {a:Act} {w:World} (h:st.Ok base X w0 E a w):∀ (xs:List Operand),(∀ p∈(evL st xs).2,p)→DenL E w (evL st xs).1 (xs.map a.eval)
 | [],_=>trivial
 | x::r,hn=>⟨zab (h.ev x) (fun p hp=>hn p (List.mem_append_left _ hp)),zfB h r (fun p hp=>hn p (List.mem_append_right _ hp))⟩
def cFun (C:Cfg) (c:Nat) (st:St) (f:FuncId) (xs:List Operand):Option Upd:=
 match C.orc c f st (evL st xs).1 with
 | some u=>some ⟨(evL st xs).2++u.needs,u.val,u.mem⟩
 | none=>none
theorem za9 {f:FuncId} (h:FnB P f) (args:Array Value) (w:World):(callFunc f args).run P w = .ok (.enter f args) w:=by
 obtain ⟨fn,h1,h2,h3⟩:=h
 obtain ⟨cd,h4⟩:=Option.isSome_iff_exists.1 h3
 simp [callFunc,h1,h2,h4]
theorem znx {C:Cfg} (hC:zdv P C) (o:Oper) (c:Nat) (f:FuncId) (xs:Array Operand) (ts:Array TypeId) (ho:o.op = .call {callee:= .value (.func f),args:=xs,argTypes:=ts}) {u:Upd} (hu:cFun C c st f xs.toList=some u):Does P base X w0 st o u:=by
 unfold cFun at hu
 split at hu
 case h_2=>simp at hu
 rename_i u2 hc
 simp only [Option.some.injEq] at hu
 subst hu
 obtain ⟨hf,hcall⟩:=hC _ _ _ _ _ hc
 intro E a w K Q h hn hK
 have hd:=zfB h xs.toList (fun p hp=>hn p (List.mem_append_left _ hp))
 have hrun:(execOp a.eval o).run P w = .ok (.enter f (xs.toList.map a.eval).toArray) w:=by
  have e:xs.map a.eval=(xs.toList.map a.eval).toArray:=by rw [← Array.toList_map]
  simp only [execOp,ho,resolve,Act.eval,Deferred.ofValue,Sem.run_bind,Sem.run_pure,Result.andThen,invoke,e]
  simp [za9 hf]
 unfold Oper.wp
 rw [hrun]
 refine Calls.mono (hcall base X w0 E w _ h.mem hd (fun p hp=>hn p (List.mem_append_right _ hp))) ?_
 rintro e w' ⟨v,E',rfl,h1,h2,h3,h4⟩
 exact hK E' w' v h1 h2 h3 h4
def SV.cap:SV→Bool
 | .rp .. => true
 | s=>s.flat
def cClo (C:Cfg) (c:Nat) (st:St) (x:Operand) (xs:List Operand):Option Upd:=
 match zag (st.ev x) with
 | (.fn f,n)=>match C.orc c f st (evL st xs).1 with
  | some u=>some ⟨n++((evL st xs).2++u.needs),u.val,u.mem⟩
  | none=>none
 | (.clo f cs,n)=>if cs.all SV.cap=true then (match C.orc c f st ((evL st xs).1++cs) with
  | some u=>some ⟨n++((evL st xs).2++u.needs),u.val,u.mem⟩
  | none=>none) else none
 | _=>none
theorem zn1 {C:Cfg} (hC:zdv P C) (o:Oper) (c:Nat) (x:Operand) (xs:Array Operand) (ts:Array TypeId) (ho:o.op = .call {callee:= .value x,args:=xs,argTypes:=ts}) {u:Upd} (hu:cClo C c st x xs.toList=some u):Does P base X w0 st o u:=by
 have key:∀ (f:FuncId) (cs:List SV) (u2:Upd) (n:List Prop),C.orc c f st ((evL st xs.toList).1++cs)=some u2→(∀ (E:Env) (a:Act) (w:World),st.Ok base X w0 E a w→(∀ p∈n,p)→∃ vs:List Value,a.eval x = .func (.func f) #[] vs.toArray∧DenL E w cs vs) →
   Does P base X w0 st o ⟨n++((evL st xs.toList).2++u2.needs),u2.val,u2.mem⟩:=by
  intro f cs u2 n hc hx
  obtain ⟨hf,hcall⟩:=hC _ _ _ _ _ hc
  intro E a w K Q h hn hK
  have hd:=zfB h xs.toList (fun p hp=>hn p (List.mem_append_right _ (List.mem_append_left _ hp)))
  obtain ⟨vs,hv,hcs⟩:=hx E a w h (fun p hp=>hn p (List.mem_append_left _ hp))
  have hrun:(execOp a.eval o).run P w = .ok (.enter f (xs.toList.map a.eval++vs).toArray) w:=by
   have e:xs.map a.eval=(xs.toList.map a.eval).toArray:=by rw [← Array.toList_map]
   simp only [execOp,ho,resolve,hv,Deferred.ofValue,Sem.run_bind,Sem.run_pure,Result.andThen,invoke,e]
   simp [za9 hf]
  unfold Oper.wp
  rw [hrun]
  refine Calls.mono (hcall base X w0 E w _ h.mem (DenL.app hd hcs) (fun p hp=>hn p (List.mem_append_right _ (List.mem_append_right _ hp)))) ?_
  rintro e w' ⟨v,E',rfl,h1,h2,h3,h4⟩
  exact hK E' w' v h1 h2 h3 h4
 unfold cClo at hu
 split at hu
 ·rename_i f n e
  split at hu
  case h_2=>simp at hu
  rename_i u2 hc
  simp only [Option.some.injEq] at hu
  subst hu
  refine key f [] u2 n (by rw [List.append_nil];exact hc) (fun E a w h hn=>?_)
  have:=zab (h.ev x) (fun p hp=>hn p (by rw [e] at hp;exact hp))
  rw [e] at this
  exact ⟨[],this,trivial⟩
 ·rename_i f cs n e
  split at hu
  case isFalse=>simp at hu
  split at hu
  case h_2=>simp at hu
  rename_i hfl _ u2 hc
  simp only [Option.some.injEq] at hu
  subst hu
  refine key f cs u2 n hc (fun E a w h hn=>?_)
  have:=zab (h.ev x) (fun p hp=>hn p (by rw [e] at hp;exact hp))
  rw [e] at this
  exact this
 ·simp at hu
def zhP (P:Program) (st:St) (src dst:TypeId) (x:Operand):Option Upd:=
 match P.underlying src,P.underlying dst,zag (st.ev x) with
 | some (.int _),some (.int k),(.int _ m,n)=>some ⟨n,.int k (k.wrap m),[]⟩
 | some .string,some .string,(.str s,n)=>some ⟨n,.str s,[]⟩
 | _,_,_=>none
theorem zlt (o:Oper) (src dst:TypeId) (x:Operand) (ho:o.op = .convert src dst x) {u:Upd} (hu:zhP P st src dst x=some u):Does P base X w0 st o u:=by
 unfold zhP at hu
 split at hu
 case h_3=>simp at hu
 ·rename_i k1 k k2 m n h1 h2 e
  simp only [Option.some.injEq] at hu
  subst hu
  refine Does.pure fun E a w h hn=>?_
  have hx:=zab (h.ev x) (fun p hp=>hn p (by rw [e] at hp;exact hp))
  rw [e] at hx
  obtain ⟨hx,_⟩:=hx
  exact ⟨.int k (k.wrap m),by simp [execOp,ho,hx,convert,run_underlying h1,run_underlying h2,Conv.intToInt],rfl,wf_wrap _ _⟩
 ·rename_i s n h1 h2 e
  simp only [Option.some.injEq] at hu
  subst hu
  refine Does.pure fun E a w h hn=>?_
  have hx:=zab (h.ev x) (fun p hp=>hn p (by rw [e] at hp;exact hp))
  rw [e] at hx
  obtain ⟨hx,hb⟩:=hx
  exact ⟨.string s,by simp [execOp,ho,hx,convert,run_underlying h1,run_underlying h2],rfl,hb⟩
def cNil (st:St) (x:Operand):Option Upd:=
 match zag (st.ev x) with
 | (.ptr t off,n)=>some ⟨n,.ptr t off,[]⟩
 | (.el ls r i off,n)=>some ⟨n,.el ls r i off,[]⟩
 | (.oel t sz i off,n)=>some ⟨n,.oel t sz i off,[]⟩
 | (.rp ls T cs off,n)=>some ⟨n,.rp ls T cs off,[]⟩
 | _=>none
theorem znr (o:Oper) (x:Operand) (ho:o.op = .nilCheck x) {u:Upd} (hu:cNil st x=some u):Does P base X w0 st o u:=by
 unfold cNil at hu
 split at hu
 case h_5=>simp at hu
 all_goals
  rename_i e
  simp only [Option.some.injEq] at hu
  subst hu
  refine Does.pure fun E a w h hn=>?_
  have hx:=zab (h.ev x) (fun p hp=>hn p (by rw [e] at hp;exact hp))
  rw [e] at hx
  have hp:∃ ad,a.eval x = .pointer (some ad):=by
   first
    | (obtain ⟨b,_,e2⟩:=hx;exact ⟨_,e2⟩)
    | (obtain ⟨_,b,o2,c2,e2,_⟩:=hx;exact ⟨_,e2⟩)
    | (obtain ⟨b,k,c2,_,e2⟩:=hx;exact ⟨_,e2⟩)
    | (obtain ⟨b,xs,e2,_⟩:=hx;exact ⟨_,e2⟩)
  obtain ⟨ad,e2⟩:=hp
  refine ⟨a.eval x,?_,hx⟩
  simp [execOp,ho,e2]
def core (P:Program) (C:Cfg) (more:Nat→St→TypeId→Op→Option Upd) (c:Nat) (st:St) (ty:TypeId):Op→Option Upd
 | .move x=>some (zgn st x)
 | .assign x=>some (zgn st x)
 | .pick a x y=>zlf st a x y
 | .box T x=>cBox st c T x
 | .alloc T=>zhc P st c T
 | .build T ps=>zhb P st T ps
 | .load T x=>zlk P st T x
 | .store T x y=>match zew P st T x y with
  | some u=>some u
  | none=>more c st ty (.store T x y)
 | .fieldAddr T x f=>zaS P st T x f
 | .field T x f=>zha P st T x f
 | .indexAddr T x i=>zcn P st T x i
 | .extract x i=>zd6 st x i
 | .binOp op T x y T2=>match cBin P st op T x y with
  | some u=>some u
  | none=>more c st ty (.binOp op T x y T2)
 | .unOp op _ x=>cUn st op x
 | .convert s d x=>match zhP P st s d x with
  | some u=>some u
  | none=>more c st ty (.convert s d x)
 | .nilCheck x=>cNil st x
 | .call ⟨.value (.func f),xs,ts⟩=>cFun C c st f xs.toList
 | .call ⟨.value (.tmp t),xs,ts⟩=>cClo C c st (.tmp t) xs.toList
 | .call ⟨.builtin .len,⟨[x]⟩,⟨[T]⟩⟩=>cLen P st T x
 | op=>more c st ty op
def zct (P:Program) (more:Nat→St→TypeId→Op→Option Upd):Prop:=∀ c st (o:Oper) u base X w0,more c st o.type o.op=some u→Does P base X w0 st o u
theorem znm {C:Cfg} (hC:zdv P C) {more:Nat→St→TypeId→Op→Option Upd} (hM:zct P more) (o:Oper) (c:Nat) {u:Upd} (hu:core P C more c st o.type o.op=some u):Does P base X w0 st o u:=by
 generalize ho:o.op=op at hu
 unfold core at hu
 split at hu
 ·simp only [Option.some.injEq] at hu;subst hu;exact zgZ o _ (.inl ho)
 ·simp only [Option.some.injEq] at hu;subst hu;exact zgZ o _ (.inr ho)
 ·exact zle o _ _ _ ho hu
 ·exact zn2 o c _ _ ho hu
 ·exact zjF o c _ ho hu
 ·exact zjE o _ _ ho hu
 ·exact zlj o _ _ ho hu
 ·split at hu
  ·rename_i h2;simp only [Option.some.injEq] at hu;subst hu;exact zjC o _ _ _ ho h2
  ·exact hM c st o u base X w0 (by rw [ho];exact hu)
 ·exact zeX o _ _ _ ho hu
 ·exact zjD o _ _ _ ho hu
 ·exact zeW o _ _ _ ho hu
 ·exact zgo o _ _ ho hu
 ·split at hu
  ·rename_i h2;simp only [Option.some.injEq] at hu;subst hu;exact zn3 o _ _ _ _ _ ho h2
  ·exact hM c st o u base X w0 (by rw [ho];exact hu)
 ·exact zot o _ _ _ ho hu
 ·split at hu
  ·rename_i h2;simp only [Option.some.injEq] at hu;subst hu;exact zlt o _ _ _ ho h2
  ·exact hM c st o u base X w0 (by rw [ho];exact hu)
 ·exact znr o _ ho hu
 ·exact znx hC o c _ _ _ ho hu
 ·exact zn1 hC o c _ _ _ ho hu
 ·exact znw o _ _ ho hu
 ·exact hM c st o u base X w0 (by rw [ho];exact hu)
def zbd:Op→Bool
 | .move _=>true
 | .assign _=>true
 | .nilCheck _=>true
 | .fieldAddr _ _ _=>true
 | _=>false
def zco (P:Program) (C:Cfg) (more:Nat→St→TypeId→Op→Option Upd) (c:Nat) (st:St) (ty:TypeId) (op:Op):Option Upd:=
 match core P C more c st ty op with
 | some u=>some u
 | none=>bif zbd op then none else more c st ty op
theorem zgO {C:Cfg} (hC:zdv P C) {more:Nat→St→TypeId→Op→Option Upd} (hM:zct P more) (o:Oper) (c:Nat) {u:Upd} (hu:zco P C more c st o.type o.op=some u):Does P base X w0 st o u:=by
 unfold zco at hu
 split at hu
 ·rename_i h;simp only [Option.some.injEq] at hu;subst hu;exact znm hC hM o c h
 ·cases hm:zbd o.op
  ·rw [hm] at hu;exact hM c st o u base X w0 hu
  ·rw [hm] at hu;cases hu
theorem MemOk.freeze1 {E:Env} {w:World} {m:Nat→BE} (h:MemOk base X w0 E m w) {t:Nat} (hl:(m t).live=true) (htnl:X.nl≤t) :
  ∃ E',E.Le E'∧(∀ b,Has E m t b→E'.σ t b)∧MemOk base X w0 E' (putF [(t,.dead)] m) w:=by
 have hm:∀ u,putF [(t,.dead)] m u=if u=t then .dead else m u:=fun u=>rfl
 have hne:m t ≠ .empty:=by intro e;rw [e] at hl;cases hl
 refine ⟨⟨E.β,fun i b=>E.σ i b∨(i=t∧Has E m t b),E.φ⟩,⟨fun _ _ x=>x,fun _ _ x=> .inl x⟩,fun b hb=> .inr ⟨rfl,hb⟩,?_⟩
 have hhas:∀ u b,Has (⟨E.β,fun i b=>E.σ i b∨(i=t∧Has E m t b),E.φ⟩:Env) (putF [(t,.dead)] m) u b→Has E m u b∧u≠t:=by
  intro u b ⟨g1,g2⟩
  rw [hm] at g1 g2
  by_cases hu:u=t
  ·rw [if_pos hu] at g1;cases g1
  ·rw [if_neg hu] at g1 g2;exact ⟨⟨g1,g2⟩,hu⟩
 refine h.go ⟨fun _ _ x=>x,fun _ _ x=> .inl x⟩ Same.rfl' (fun u=>u=t) (fun u hu=>⟨by rw [hm,if_neg hu],rfl,rfl⟩)
  (fun u hu he b hb=>hb.elim ((h.empty u he).2 b) (fun g=>hu g.1)) (fun _ _ _ _=>rfl) (fun u hu=>?_) (fun i b hb=>?_) (fun i j b hi hj=>?_) (fun u b hb=>?_) (fun i b hi hb=>?_) (fun u v b h1 h2=>?_) (BelowX.refl _ _ _)
 ·have:putF [(t,.dead)] m u = .dead:=by rw [hm,if_pos hu]
  rw [this]
  exact ⟨by simp,fun g=>by cases g⟩
 ·rcases hb with hb | ⟨rfl,hb⟩
  ·exact h.lab i b hb
  ·exact ⟨h.lt hb,fun _=>(h.sep i b hb).2⟩
 ·rcases hi with hi | ⟨rfl,hi⟩<;>rcases hj with hj | ⟨rfl,hj⟩
  ·exact h.dis i j b hi hj
  ·exact absurd ⟨i,hi⟩ (h.sep j b hj).1
  ·exact absurd ⟨j,hj⟩ (h.sep i b hi).1
  ·rfl
 ·obtain ⟨h1,h2⟩:=hhas u b hb
  refine ⟨fun ⟨i,hi⟩=>?_,(h.sep u b h1).2⟩
  rcases hi with hi | ⟨rfl,hi⟩
  ·exact (h.sep u b h1).1 ⟨i,hi⟩
  ·exact h2 (h.inj u i b h1 hi)
 ·rcases hb with hb | ⟨rfl,hb⟩
  ·exact h.old i b hi hb
  ·omega
 ·exact h.inj u v b (hhas u b h1).1 (hhas v b h2).1
theorem MemOk.freezeL {E:Env} {w:World} {m:Nat→BE} (h:MemOk base X w0 E m w) {t c:Nat} (hl:(m t).live=true) (hc:m c = .empty) :
  ∃ E',E.Le E'∧(∀ b,Has E m t b→E'.σ c b)∧MemOk base X w0 E' (putF [(t,.dead),(c,.dead)] m) w:=by
 have htc:t≠c:=by intro e;subst e;rw [hc] at hl;cases hl
 have hcnl:X.nl≤c:=by
  rcases Nat.lt_or_ge c X.nl with hlt | hge
  ·exact absurd hc (h.low c hlt)
  ·exact hge
 have hnc:∀ b,¬ E.σ c b:=(h.empty c hc).2
 have hm:∀ u,putF [(t,.dead),(c,.dead)] m u=if u=t then .dead else if u=c then .dead else m u:=fun u=>rfl
 refine ⟨⟨E.β,fun i b=>E.σ i b∨(i=c∧Has E m t b),E.φ⟩,⟨fun _ _ x=>x,fun _ _ x=> .inl x⟩,fun b hb=> .inr ⟨rfl,hb⟩,?_⟩
 have hhas:∀ u b,Has (⟨E.β,fun i b=>E.σ i b∨(i=c∧Has E m t b),E.φ⟩:Env) (putF [(t,.dead),(c,.dead)] m) u b→Has E m u b∧u≠t:=by
  intro u b ⟨g1,g2⟩
  rw [hm] at g1 g2
  by_cases hu:u=t
  ·rw [if_pos hu] at g1;cases g1
  ·rw [if_neg hu] at g1 g2
   by_cases hu2:u=c
   ·rw [if_pos hu2] at g1;cases g1
   ·rw [if_neg hu2] at g1 g2;exact ⟨⟨g1,g2⟩,hu⟩
 refine h.go ⟨fun _ _ x=>x,fun _ _ x=> .inl x⟩ Same.rfl' (fun u=>u=t∨u=c) (fun u hu=>⟨by rw [hm,if_neg (fun e=>hu (.inl e)),if_neg (fun e=>hu (.inr e))],rfl,rfl⟩)
  (fun u hu he b hb=>hb.elim ((h.empty u he).2 b) (fun g=>hu (.inr g.1))) (fun _ _ _ _=>rfl) (fun u hu=>?_) (fun i b hb=>?_) (fun i j b hi hj=>?_) (fun u b hb=>?_) (fun i b hi hb=>?_) (fun u v b h1 h2=>?_) (BelowX.refl _ _ _)
 ·have:putF [(t,.dead),(c,.dead)] m u = .dead:=by
   rw [hm]
   rcases hu with rfl | rfl
   ·rw [if_pos rfl]
   ·split<;>simp
  rw [this]
  exact ⟨by simp,fun g=>by cases g⟩
 ·rcases hb with hb | ⟨rfl,hb⟩
  ·exact h.lab i b hb
  ·exact ⟨h.lt hb,fun _=>(h.sep t b hb).2⟩
 ·rcases hi with hi | ⟨rfl,hi⟩<;>rcases hj with hj | ⟨rfl,hj⟩
  ·exact h.dis i j b hi hj
  ·exact absurd ⟨i,hi⟩ (h.sep t b hj).1
  ·exact absurd ⟨j,hj⟩ (h.sep t b hi).1
  ·rfl
 ·obtain ⟨g1,g2⟩:=hhas u b hb
  refine ⟨fun ⟨i,hi⟩=>?_,(h.sep u b g1).2⟩
  rcases hi with hi | ⟨_,hi⟩
  ·exact (h.sep u b g1).1 ⟨i,hi⟩
  ·exact g2 (h.inj u t b g1 hi)
 ·rcases hb with hb | ⟨rfl,_⟩
  ·exact h.old i b hi hb
  ·omega
 ·exact h.inj u v b (hhas u b h1).1 (hhas v b h2).1
def lbF (t:Nat):Nat:=t+100000
def frz0 (st:St):SV→SV
 | .own t=>match st.m t with
  | .row _ ls r=> .sl (lbF t::ls) r
  | _=> .own t
 | s=>s
def zbZ (st:St):SV→List Nat
 | .own t=>match st.m t with
  | .row _ _ _=>[t]
  | _=>[]
 | _=>[]
def frz1 (st:St):SV→SV
 | .agg vs=> .agg (vs.map (frz0 st))
 | .own t=>frz0 st (.own t)
 | s=>s
def zdc (st:St):SV→List Nat
 | .agg vs=>vs.flatMap (zbZ st)
 | .own t=>zbZ st (.own t)
 | _=>[]
def zc1:List Operand→List Nat
 | []=>[]
 | .tmp t::r=>t::zc1 r
 | _::r=>zc1 r
def zhy:List Nat→Bool
 | []=>true
 | a::r=>!r.contains a&&zhy r
def zbC (st:St) (xs:List Operand):List Nat:=(zc1 xs).flatMap fun i=>zdc st (st.s i)
def frzN (st:St):List Nat→List Prop
 | []=>[]
 | t::ts=>match st.m t with
  | .row _ _ r=>(r.len≤140737488355328)::frzN st ts
  | _=>frzN st ts
theorem zgP {st:St} {t:Nat} {T:TypeId} {ls:List Nat} {r:RL} (hm:st.m t = .row T ls r):∀ {ts:List Nat},t∈ts→(r.len≤140737488355328)∈frzN st ts
 | u::ts,h=>by
  unfold frzN
  rcases List.mem_cons.1 h with rfl | h
  ·rw [hm];exact List.mem_cons_self ..
  ·have:=zgP hm h
   split
   ·exact List.mem_cons_of_mem _ this
   ·exact this
def zcy:List Nat→List (Nat×BE)
 | []=>[]
 | t::r=>(t,.dead)::(lbF t,.dead)::zcy r
def zbO (st:St) (xs:List Operand):St:={st with tm:=(zc1 xs).map (fun i=>(i,frz1 st (st.s i)))++st.tm,mm:=zcy (zbC st xs)++st.mm}
def full (P:Program) (C:Cfg) (more:Nat→St→TypeId→Op→Option Upd) (c:Nat) (st:St) (ty:TypeId) (op:Op):Option Upd:=
 match zco P C more c st ty op with
 | some u=>some u
 | none=>bif zbd op then none else (match zbC st op.operands.toList with
  | []=>none
  | t::ts=>bif (t::ts).all (fun t=>st.free (lbF t))&&zhy (t::ts) then (match zco P C more c (zbO st op.operands.toList) ty op with
   | some u=>some ⟨frzN st (t::ts)++u.needs,u.val,u.mem++zcy (t::ts)⟩
   | none=>none) else none)
theorem zbr {s:SV} {t:Nat} (h:t∈zbZ st s):s = .own t∧∃ T ls r,st.m t = .row T ls r∧frz0 st s = .sl (lbF t::ls) r:=by
 unfold zbZ at h
 split at h
 case h_2=>simp at h
 rename_i t2
 split at h
 case h_2=>simp at h
 rename_i T ls r hm
 rw [List.mem_singleton] at h
 subst h
 refine ⟨rfl,T,ls,r,hm,?_⟩
 simp only [frz0,hm]
theorem ziU {s:SV} (h:zbZ st s=[]):frz0 st s=s:=by
 unfold zbZ at h
 unfold frz0
 split
 ·rename_i t
  simp only at h
  split
  ·rename_i T ls r hm
   rw [hm] at h
   simp at h
  ·rfl
 ·rfl
theorem zdd (st:St) (s:SV):frz0 st s=s∨∃ t,t∈zbZ st s:=by
 cases h:zbZ st s with
 | nil=>exact .inl (ziU h)
 | cons t r=>exact .inr ⟨t,List.mem_cons_self ..⟩
theorem zbS:∀ (l:List Nat) (m:Nat→BE) (t:Nat),t∉l→(∀ u,u∈l→t≠lbF u)→putF (zcy l) m t=m t
 | [],m,t,_,_=>rfl
 | a::l,m,t,h,h2=>by
  have h1:t≠a:=fun e=>h (by rw [e];exact List.mem_cons_self ..)
  have h3:=h2 a (List.mem_cons_self ..)
  show (if t=a then _ else if t=lbF a then _ else putF (zcy l) m t)=_
  rw [if_neg h1,if_neg h3,zbS l m t (fun e=>h (List.mem_cons_of_mem _ e)) (fun u hu=>h2 u (List.mem_cons_of_mem _ hu))]
theorem ziX {E:Env} {w:World}:∀ (ts:List Nat) (m:Nat→BE),MemOk base X w0 E m w→zhy ts=true→(∀ t,t∈ts→(∃ T ls r,m t = .row T ls r)∧m (lbF t) = .empty) →
  ∃ E',E.Le E'∧(∀ t b,t∈ts→Has E m t b→E'.σ (lbF t) b)∧MemOk base X w0 E' (putF (zcy ts) m) w
 | [],m,h,_,_=>⟨E,Env.Le.refl E,fun t b ht=>(by cases ht),h⟩
 | t::ts,m,h,hd,hl=>by
  simp only [zhy,Bool.and_eq_true,Bool.not_eq_true',List.contains_eq_mem,decide_eq_false_iff_not] at hd
  obtain ⟨E1,h1,h2,h3⟩:=ziX ts m h hd.2 (fun u hu=>hl u (List.mem_cons_of_mem _ hu))
  obtain ⟨⟨T,ls,r,hm⟩,he⟩:=hl t (List.mem_cons_self ..)
  have hk:=zbS ts m t hd.1 (fun u hu e=>by
   have:=(hl u (List.mem_cons_of_mem _ hu)).2
   rw [← e,hm] at this
   cases this)
  rw [hm] at hk
  have hk2:=zbS ts m (lbF t) (fun hu=>by
   obtain ⟨_,_,_,h5⟩:=(hl _ (List.mem_cons_of_mem _ hu)).1
   rw [he] at h5
   cases h5) (fun u hu e=>by
   have:t=u:=by unfold lbF at e;omega
   exact hd.1 (this▸hu))
  rw [he] at hk2
  obtain ⟨E2,g1,g2,g3⟩:=h3.freezeL (t:=t) (c:=lbF t) (by rw [hk];rfl) hk2
  refine ⟨E2,h1.trans g1,fun u b hu hb=>?_,g3⟩
  rcases List.mem_cons.1 hu with rfl | hu
  ·obtain ⟨q1,v,q2,q3⟩:=hb
   rw [hm] at q3
   exact g2 b (Has.row hk (h1.β _ _ q2) q3)
  ·exact g1.σ _ _ (h2 u b hu hb)
theorem ziV {E E':Env} {w:World} (h:MemOk base X w0 E st.m w) (hE:E.Le E') {s:SV} {v:Value} (hd:DenV E w s v) (hσ:∀ t b,t∈zbZ st s→Has E st.m t b→E'.σ (lbF t) b) (hn:∀ t,t∈zbZ st s→∀ T ls r,st.m t = .row T ls r→r.len≤140737488355328):DenV E' w (frz0 st s) v:=by
 rcases zdd st s with e | ⟨t,ht⟩
 ·rw [e];exact DenV.mono hE (Same.refl _ _) _ _ hd
 ·obtain ⟨rfl,T,ls,r,hm,e⟩:=zbr ht
  rw [e]
  obtain ⟨v',h1,h2⟩:=h.row t _ _ _ hm
  have:=hd.1
  rw [h1] at this
  simp only [Option.some.injEq] at this
  subst this
  have hb:∀ b,v'.ownBlock=some b→E'.σ (lbF t) b:=fun b hb=>by
   obtain ⟨ad,c,e2⟩:=h2.form
   refine hσ t b ht (Has.row hm h1 ?_)
   rw [← zaq ⟨ad,_,c,e2⟩];exact hb
  obtain ⟨a,c,e3,hs⟩:=h2.slO (E'.set (lbF t::ls)) (fun b ⟨i,hi,hs⟩=>⟨i,List.mem_cons_of_mem _ hi,hE.σ _ _ hs⟩) (fun b _ hb'=>⟨lbF t,List.mem_cons_self ..,hb b hb'⟩) (by rw [r.rows_len];exact hn t ht _ _ _ hm)
  rw [e3]
  exact hs
theorem ziQ {E E':Env} {w:World} (h:MemOk base X w0 E st.m w) (hE:E.Le E'):∀ {ss:List SV} {vs:List Value},DenL E w ss vs→(∀ t b,t∈ss.flatMap (zbZ st)→Has E st.m t b→E'.σ (lbF t) b)→(∀ t,t∈ss.flatMap (zbZ st)→∀ T ls r,st.m t = .row T ls r→r.len≤140737488355328)→DenL E' w (ss.map (frz0 st)) vs
 | [],[],_,_,_=>trivial
 | s::ss,v::vs,hd,h1,h2=>⟨ziV h hE hd.1 (fun t b ht=>h1 t b (List.mem_append_left _ ht)) (fun t ht=>h2 t (List.mem_append_left _ ht)),ziQ h hE hd.2 (fun t b ht=>h1 t b (List.mem_append_right _ ht)) (fun t ht=>h2 t (List.mem_append_right _ ht))⟩
 | [],_::_,hd,_,_=>hd.elim
 | _::_,[],hd,_,_=>hd.elim
theorem zmQ {E E':Env} {w:World} (h:MemOk base X w0 E st.m w) (hE:E.Le E') {s:SV} {v:Value} (hd:DenV E w s v) (hσ:∀ t b,t∈zdc st s→Has E st.m t b→E'.σ (lbF t) b) (hn:∀ t,t∈zdc st s→∀ T ls r,st.m t = .row T ls r→r.len≤140737488355328):DenV E' w (frz1 st s) v:=by
 cases s with
 | agg vs=>
  obtain ⟨xs,hv,hl⟩:=hd
  exact ⟨xs,hv,ziQ h hE hl hσ hn⟩
 | own t=>exact ziV h hE hd hσ hn
 | _=>exact DenV.mono hE (Same.refl _ _) _ _ hd
theorem zfz {f:Nat→SV}:∀ (l:List Nat) (tm:List (Nat×SV)) (i:Nat),zam .any (l.map (fun i=>(i,f i))++tm) i=if i∈l then f i else zam .any tm i
 | [],tm,i=>by simp
 | a::l,tm,i=>by
  rw [List.map_cons,List.cons_append,zaz,zfz l tm i]
  by_cases h:i=a
  ·subst h;rw [if_pos rfl,if_pos (List.mem_cons_self ..)]
  ·rw [if_neg h]
   by_cases h2:i∈l
   ·rw [if_pos h2,if_pos (List.mem_cons_of_mem _ h2)]
   ·rw [if_neg h2,if_neg (by simp [h,h2])]
theorem zdV (st:St) (xs:List Operand):(zbO st xs).m=putF (zcy (zbC st xs)) st.m:=by
 funext t
 show zam .empty (_++st.mm) t=_
 rw [zdJ]
 rfl
theorem zeP (st:St) (xs:List Operand) (i:Nat):(zbO st xs).s i=if i∈zc1 xs then frz1 st (st.s i) else st.s i:=zfz (f:=fun i=>frz1 st (st.s i)) (zc1 xs) st.tm i
theorem ziR {s:SV} {t:Nat} (h:t∈zdc st s):∃ T ls r,st.m t = .row T ls r:=by
 cases s with
 | agg vs=>
  obtain ⟨x,_,hx⟩:=List.mem_flatMap.1 h
  obtain ⟨_,T,ls,r,h2,_⟩:=zbr hx
  exact ⟨T,ls,r,h2⟩
 | own u=>
  obtain ⟨_,T,ls,r,h2,_⟩:=zbr (s:= .own u) h
  exact ⟨T,ls,r,h2⟩
 | _=>simp [zdc] at h
theorem zkH {E:Env} {a:Act} {w:World} (h:st.Ok base X w0 E a w) (xs:List Operand) (hf:(zbC st xs).all (fun t=>st.free (lbF t))=true) (hd:zhy (zbC st xs)=true) (hn:∀ p∈frzN st (zbC st xs),p):∃ E',E.Le E'∧(zbO st xs).Ok base X w0 E' a w:=by
 have hrow:∀ t,t∈zbC st xs→∃ T ls r,st.m t = .row T ls r:=fun t ht=>by
  obtain ⟨i,_,hi⟩:=List.mem_flatMap.1 ht
  exact ziR hi
 obtain ⟨E',h1,h2,h3⟩:=ziX (zbC st xs) st.m h.mem hd (fun t ht=>⟨hrow t ht,St.of_free (List.all_eq_true.1 hf t ht)⟩)
 refine ⟨E',h1,h.defers,h.size,fun i=>?_,by rw [zdV];exact h3⟩
 rw [zeP]
 by_cases hi:i∈zc1 xs
 ·rw [if_pos hi]
  have hsub:∀ t,t∈zdc st (st.s i)→t∈zbC st xs:=fun t ht=>List.mem_flatMap.2 ⟨i,hi,ht⟩
  exact zmQ h.mem h1 (h.tm i) (fun t b ht=>h2 t b (hsub t ht)) (fun t ht T ls r hm=>hn _ (zgP hm (hsub t ht)))
 ·rw [if_neg hi]
  exact DenV.mono h1 (Same.refl _ _) _ _ (h.tm i)
theorem zfm:∀ (a b:List (Nat×BE)) (m:Nat→BE),putF (a++b) m=putF a (putF b m)
 | [],b,m=>rfl
 | (t,e)::a,b,m=>by
  rw [List.cons_append,zc9,zc9,zfm a b m]
theorem zdT {C:Cfg} (hC:zdv P C) {more:Nat→St→TypeId→Op→Option Upd} (hM:zct P more) (o:Oper) (c:Nat) {u:Upd} (hu:full P C more c st o.type o.op=some u):Does P base X w0 st o u:=by
 unfold full at hu
 split at hu
 ·rename_i h;simp only [Option.some.injEq] at hu;subst hu;exact zgO hC hM o c h
 cases hm:zbd o.op
 case true=>rw [hm] at hu;cases hu
 rw [hm,cond_false] at hu
 split at hu
 ·cases hu
 rename_i t ts hts
 cases hb:((t::ts).all (fun t=>st.free (lbF t))&&zhy (t::ts))
 ·rw [hb] at hu;cases hu
 rw [hb,cond_true] at hu
 rw [Bool.and_eq_true] at hb
 split at hu
 case h_2=>cases hu
 rename_i u2 h2
 simp only [Option.some.injEq] at hu
 subst hu
 intro E a w K Q h hn hK
 obtain ⟨E1,h1,hok⟩:=zkH h o.op.operands.toList (by rw [hts];exact hb.1) (by rw [hts];exact hb.2) (fun p hp=>hn p (List.mem_append_left _ (by rw [hts] at hp;exact hp)))
 refine zgO hC hM o c h2 E1 a w K Q hok (fun p hp=>hn p (List.mem_append_right _ hp)) (fun E' w' v g1 g2 g3 g4=>?_)
 refine hK E' w' v (h1.trans g1) (g2.mono fun b ⟨i,hi⟩=>⟨i,h1.σ _ _ hi⟩) g3 ?_
 rw [zdV,hts] at g4
 show MemOk base X w0 E' (putF (u2.mem++_) st.m) w'
 rw [zfm]
 exact g4
def zep (ops:Array Oper) (st:St) (j:Nat) (pol:Bool):Option Bool:=
 match (ops[j]?).bind (·.dst) with
 | some t=>match st.s t with
  | .bool b=>match pol with
   | true=>some b
   | false=>some (!b)
  | .gd g (.bool b)=>match pol with
   | true=>some (g&&b)
   | false=>some (g&&!b)
  | _=>none
 | none=>none
theorem zcJ {ops:Array Oper} {E:Env} {a:Act} {w:World} (h:st.Ok base X w0 E a w) {o:Oper} {j:Nat} {pol G:Bool} (hg:o.guard=some (j,pol)) (hG:zep ops st j pol=some G):Region.wanted o (yielded ops a.tmps)=G:=by
 unfold zep at hG
 split at hG
 case h_2=>simp at hG
 rename_i t ht
 have hd:=h.tm t
 simp only [Region.wanted,hg,yielded,ht]
 have hsome:∀ b,a.tmps.getD t undef = .bool b→a.tmps[t]? = some (.bool b):=by
  intro b hb
  rw [Array.getD_eq_getD_getElem?] at hb
  cases hq:a.tmps[t]? with
  | none=>rw [hq] at hb;simp [undef] at hb
  | some x=>rw [hq] at hb;simpa using hb
 split at hG
 case h_3=>simp at hG
 ·rename_i b e
  have hG:some (if pol then b else !b)=some G:=by cases pol<;>exact hG
  simp only [Option.some.injEq] at hG
  rw [e] at hd
  have:=hsome b hd
  simp only [Option.bind_some,this,← hG]
  cases pol<;>cases b<;>rfl
 ·rename_i g b e
  have hG:some (g&&(if pol then b else !b))=some G:=by cases pol<;>exact hG
  simp only [Option.some.injEq] at hG
  rw [e] at hd
  cases g
  ·have hu:a.tmps.getD t undef=undef:=hd.2 rfl
   have:(a.tmps[t]? = none∨a.tmps[t]? = some undef):=by
    rw [Array.getD_eq_getD_getElem?] at hu
    cases hq:a.tmps[t]? with
    | none=>exact .inl rfl
    | some x=>rw [hq] at hu;right;simpa using hu
   rcases this with h1 | h1<;>simp [Option.bind_some,h1,← hG,undef]
  ·have hb:a.tmps.getD t undef = .bool b:=hd.1 rfl
   have:=hsome b hb
   simp only [Option.bind_some,this,← hG]
   cases pol<;>cases b<;>rfl
def zdi:List (Nat×BE)→Bool
 | []=>true
 | (_,.dead)::r=>zdi r
 | _=>false
def zoi (c:Nat) (G fr:Bool) (u:Upd):Option Upd:=
 match u.val,u.mem with
 | .own t,[(t2,.row T ls r)]=>if fr=true∧t=c∧t2=c then some ⟨(G=true→r.len≤140737488355328)::u.needs.map (fun p=>G=true→p),.gd G (.sl (c::ls) r),[(c,.dead)]⟩ else none
 | _,_=>none
def wid:Op→Nat
 | .call ⟨.value _,_,_⟩=>24
 | _=>1
def zb1 (l:List (Nat×BE)):List (Nat×BE):=l.map fun p=>(p.1,.dead)
theorem zbB:∀ l:List (Nat×BE),zdi (zb1 l)=true
 | []=>rfl
 | (t,e)::r=>zbB r
theorem zbY:∀ (l:List (Nat×BE)) (m:Nat→BE) (u:Nat),putF (zb1 l) m u=if u∈l.map (·.1) then .dead else m u
 | [],m,u=>by simp [zb1,putF]
 | (t,e)::r,m,u=>by
  show (if u=t then BE.dead else putF (zb1 r) m u)=_
  rw [zbY r m u]
  by_cases h:u=t
  ·subst h;rw [if_pos rfl,List.map_cons,if_pos (List.mem_cons_self ..)]
  ·rw [if_neg h,List.map_cons]
   by_cases g:u∈r.map (·.1)
   ·rw [if_pos g,if_pos (List.mem_cons_of_mem _ g)]
   ·rw [if_neg g,if_neg fun x=>by
     rcases List.mem_cons.1 x with x | x
     ·exact h x
     ·exact g x]
theorem zfX:∀ (l:List (Nat×BE)) (m:Nat→BE) (u:Nat),u∉l.map (·.1)→putF l m u=m u
 | [],m,u,_=>rfl
 | (t,e)::r,m,u,h=>by
  simp only [List.map_cons,List.mem_cons,not_or] at h
  show (if u=t then e else putF r m u)=m u
  rw [if_neg h.1,zfX r m u h.2]
theorem zgF:∀ (l:List (Nat×BE)) (m:Nat→BE) (u:Nat) (x:BE),zam .empty l u=x→x ≠ .empty→putF l m u=x∧u∈l.map (·.1)
 | [],m,u,x,h,hx=>absurd h.symm hx
 | (t,e)::r,m,u,x,h,hx=>by
  rw [zaz] at h
  show (if u=t then e else putF r m u)=x∧_
  by_cases g:u=t
  ·rw [if_pos g] at h ⊢;exact ⟨h,by simp [g]⟩
  ·rw [if_neg g] at h ⊢
   have:=zgF r m u x h hx
   exact ⟨this.1,List.mem_cons_of_mem _ this.2⟩
def zlH (G:Bool) (fl:List Nat) (u:Upd):Option Upd:=
 match u.val with
 | .own t=>match fl.contains t,zam .empty u.mem t with
  | true,.row T ls r=>some ⟨(G=true→r.len≤140737488355328)::u.needs.map (fun p=>G=true→p),.gd G (.sl (t::ls) r),zb1 u.mem⟩
  | _,_=>none
 | v=>some ⟨u.needs.map (fun p=>G=true→p),.gd G v,zb1 u.mem⟩
def orG (a b:Option Upd):Option Upd:=match a with
 | some u=>some u
 | none=>b
theorem zkz {a b:Option Upd} {u:Upd} (h:orG a b=some u):a=some u∨b=some u:=by
 cases a with
 | none=>exact .inr h
 | some x=>exact .inl h
def blkG:Nat→Nat→(Nat→Bool)→List Nat
 | 0,_,_=>[]
 | n+1,c,f=>if f c then c::blkG n (c+1) f else blkG n (c+1) f
theorem zgp:∀ {n c:Nat} {f:Nat→Bool} {t:Nat},t∈blkG n c f→f t=true
 | 0,_,_,_,h=>by cases h
 | n+1,c,f,t,h=>by
  unfold blkG at h
  split at h
  ·rename_i hf
   rcases List.mem_cons.1 h with h | h
   ·rw [h];exact hf
   ·exact zgp h
  ·exact zgp h
theorem zey:∀ {n c:Nat} {f g:Nat→Bool},(∀ t,c≤t→t<c+n→f t=g t)→blkG n c f=blkG n c g
 | 0,_,_,_,_=>rfl
 | n+1,c,f,g,h=>by
  unfold blkG
  rw [h c (Nat.le_refl _) (by omega),zey (n:=n) (c:=c+1) (f:=f) (g:=g) fun t h1 h2=>h t (by omega) (by omega)]
def zcp (P:Program) (C:Cfg) (more:Nat→St→TypeId→Op→Option Upd) (ops:Array Oper) (c:Nat) (o:Oper) (st:St):Option Upd:=
 match o.guard with
 | none=>full P C more c st o.type o.op
 | some (j,pol)=>match zep ops st j pol with
  | none=>none
  | some G=>match full P C more c st o.type o.op with
   | some u=>if zdi u.mem then some ⟨u.needs.map (fun p=>G=true→p),.gd G u.val,u.mem⟩ else orG (zoi c G (st.free c) u) (zlH G (blkG (wid o.op) c st.free) u)
   | none=>none
theorem MemOk.deads {E:Env} {w:World}:∀ (l:List (Nat×BE)) (m:Nat→BE),zdi l=true→MemOk base X w0 E m w→MemOk base X w0 E (putF l m) w
 | [],_,_,h=>h
 | (t,e)::r,m,hl,h=>by
  cases e<;>simp only [zdi,Bool.false_eq_true] at hl
  rw [zc9]
  exact (MemOk.deads r m hl h).kill t
theorem zdD {C:Cfg} (hC:zdv P C) {more:Nat→St→TypeId→Op→Option Upd} (hM:zct P more) {ops:Array Oper} {c:Nat} {o:Oper} {u:Upd} (hu:zcp P C more ops c o st=some u)
  {E:Env} {a:Act} {w:World} {K:Act→World→Prop} {Q:Exit→Act→World→Prop} (h:st.Ok base X w0 E a w) (hn:∀ p∈u.needs,p) (hK:∀ E' a' w',(st.app o.dst u).Ok base X w0 E' a' w'→K a' w') :
  if Region.wanted o (yielded ops a.tmps) then o.wp P a w K Q else K (a.put o.dst undef) w:=by
 unfold zcp at hu
 split at hu
 ·rename_i hg
  rw [if_pos (by simp [Region.wanted,hg])]
  exact zdT hC hM o c hu E a w K Q h hn (fun E' w' v h1 h2 h3 h4=>hK E' _ _ (h.next h1 h2 h3 h4))
 ·rename_i j pol hg
  split at hu
  case h_1=>simp at hu
  rename_i G hG
  split at hu
  case h_2=>simp at hu
  rename_i u2 hc
  split at hu
  case isFalse=>
   rcases zkz hu with hu | hu
   case inr=>
    have hkk:zb1 u2.mem=zb1 u2.mem:=rfl
    have hput:∀ m:Nat→BE,putF (zb1 u2.mem) (putF u2.mem m)=putF (zb1 u2.mem) m:=fun m=>by
     funext x
     rw [zbY,zbY]
     by_cases hx:x∈u2.mem.map (·.1)
     ·rw [if_pos hx,if_pos hx]
     ·rw [if_neg hx,if_neg hx,zfX _ _ _ hx]
    have plain:∀ s,u2.val=s→u=⟨u2.needs.map (fun p=>G=true→p),.gd G s,zb1 u2.mem⟩→(if Region.wanted o (yielded ops a.tmps) then o.wp P a w K Q else K (a.put o.dst undef) w):=by
     intro s hs hu3
     subst hs
     subst hu3
     rw [zcJ h hg hG]
     cases G
     ·rw [if_neg (by simp)]
      refine hK E _ _ (h.next (u:=⟨_,.gd false u2.val,zb1 u2.mem⟩) (Env.Le.refl E) Same.rfl' (v:=undef) ⟨fun e=>(by cases e),fun _=>rfl⟩ ?_)
      exact h.mem.deads (zb1 u2.mem) st.m (zbB _)
     ·rw [if_pos rfl]
      refine zdT hC hM o c hc E a w K Q h (fun p hp=>hn (true=true→p) (List.mem_map.2 ⟨p,hp,rfl⟩) rfl) (fun E' w' v h1 h2 h3 h4=>hK E' _ _ (h.next h1 h2 (u:=⟨_,.gd true u2.val,zb1 u2.mem⟩) ⟨fun _=>h3,fun e=>(by cases e)⟩ ?_))
      have:=h4.deads (zb1 u2.mem) _ (zbB _)
      rwa [hput] at this
    unfold zlH at hu
    split at hu
    case h_2=>
     rename_i s hs
     exact plain _ rfl (Option.some.inj hu).symm
    rename_i t ev
    split at hu
    case h_2=>simp at hu
    rename_i T ls r hfl hlk
    simp only [Option.some.injEq] at hu
    subst hu
    have htf:st.free t=true:=by
     have hm:t∈blkG (wid o.op) c st.free:=by simpa using hfl
     exact zgp hm
    have hcE:st.m t = .empty:=St.of_free htf
    rw [zcJ h hg hG]
    cases G
    ·rw [if_neg (by simp)]
     refine hK E _ _ (h.next (u:=⟨_,.gd false (.sl (t::ls) r),zb1 u2.mem⟩) (Env.Le.refl E) Same.rfl' (v:=undef) ⟨fun e=>(by cases e),fun _=>rfl⟩ ?_)
     exact h.mem.deads (zb1 u2.mem) st.m (zbB _)
    ·rw [if_pos rfl]
     refine zdT hC hM o c hc E a w K Q h (fun p hp=>hn (true=true→p) (List.mem_cons_of_mem _ (List.mem_map.2 ⟨p,hp,rfl⟩)) rfl) (fun E' w' v h1 h2 h3 h4=>?_)
     rw [ev] at h3
     obtain ⟨hrow,hkey⟩:=zgF u2.mem st.m t _ hlk (by simp)
     have hlive:(putF u2.mem st.m t).live=true:=by rw [hrow];rfl
     have htnl:X.nl≤t:=by
      rcases Nat.lt_or_ge t X.nl with hlt | hge
      ·exact absurd hcE (h.mem.low t hlt)
      ·exact hge
     obtain ⟨E2,hE2,hσ,hM2⟩:=h4.freeze1 hlive htnl
     have hM3:=hM2.deads (zb1 u2.mem) _ (zbB _)
     have e2:putF (zb1 u2.mem) (putF [(t,.dead)] (putF u2.mem st.m))=putF (zb1 u2.mem) st.m:=by
      funext x
      rw [zbY,zbY]
      by_cases hx:x∈u2.mem.map (·.1)
      ·rw [if_pos hx,if_pos hx]
      ·rw [if_neg hx,if_neg hx]
       have hxt:x≠t:=fun e=>hx (e▸hkey)
       show (if x=t then BE.dead else putF u2.mem st.m x)=st.m x
       rw [if_neg hxt,zfX _ _ _ hx]
     rw [e2] at hM3
     obtain ⟨v2,hβ,hO⟩:=h4.row t T ls r hrow
     have hx1:=h3.1
     rw [hβ] at hx1
     simp only [Option.some.injEq] at hx1
     subst hx1
     have g3:r.len≤140737488355328:=hn _ (List.mem_cons_self ..) rfl
     obtain ⟨ad,cc,hv,hsl⟩:=hO.slO (E2.set (t::ls)) (fun b ⟨i,hi,hs⟩=>⟨i,List.mem_cons_of_mem _ hi,hE2.σ i b hs⟩) (fun b _ hb=>⟨t,List.mem_cons_self ..,hσ b (Has.row hrow hβ (by
      obtain ⟨a5,c5,e5⟩:=hO.form
      rw [← zaq ⟨a5,_,c5,e5⟩];exact hb))⟩) (by rw [r.rows_len];exact g3)
     refine hK E2 _ _ (h.next (h1.trans hE2) h2 (u:=⟨_,.gd true (.sl (t::ls) r),zb1 u2.mem⟩) ⟨fun _=>?_,fun e=>(by cases e)⟩ hM3)
     rw [hv];exact hsl
   unfold zoi at hu
   split at hu
   case h_2=>simp at hu
   rename_i t t2 T ls r ev em
   split at hu
   case isFalse=>simp at hu
   rename_i hcond
   obtain ⟨hfr,rfl,rfl⟩:=hcond
   simp only [Option.some.injEq] at hu
   subst hu
   have hcE:st.m t2 = .empty:=St.of_free hfr
   rw [zcJ h hg hG]
   cases G
   ·rw [if_neg (by simp)]
    refine hK E _ _ (h.next (u:=⟨_,.gd false (.sl (t2::ls) r),[(t2,.dead)]⟩) (Env.Le.refl E) Same.rfl' (v:=undef) ⟨fun e=>(by cases e),fun _=>rfl⟩ ?_)
    exact h.mem.deads [(t2,.dead)] st.m rfl
   ·rw [if_pos rfl]
    refine zdT hC hM o t2 hc E a w K Q h (fun p hp=>hn (true=true→p) (List.mem_cons_of_mem _ (List.mem_map.2 ⟨p,hp,rfl⟩)) rfl) (fun E' w' v h1 h2 h3 h4=>?_)
    rw [em] at h4
    rw [ev] at h3
    have hrow:putF [(t2,.row T ls r)] st.m t2 = .row T ls r:=by show (if t2=t2 then _ else _)=_;rw [if_pos rfl]
    have hlive:(putF [(t2,.row T ls r)] st.m t2).live=true:=by rw [hrow];rfl
    have htnl:X.nl≤t2:=by
     rcases Nat.lt_or_ge t2 X.nl with hlt | hge
     ·exact absurd hcE (h.mem.low t2 hlt)
     ·exact hge
    obtain ⟨E2,hE2,hσ,hM2⟩:=h4.freeze1 hlive htnl
    have e2:putF [(t2,.dead)] (putF [(t2,.row T ls r)] st.m)=putF [(t2,.dead)] st.m:=by
     funext u
     show (if u=t2 then _ else if u=t2 then _ else _)=(if u=t2 then _ else _)
     by_cases hu:u=t2
     ·rw [if_pos hu,if_pos hu]
     ·rw [if_neg hu,if_neg hu,if_neg hu]
    rw [e2] at hM2
    obtain ⟨v2,hβ,hO⟩:=h4.row t2 T ls r hrow
    have hx1:=h3.1
    rw [hβ] at hx1
    simp only [Option.some.injEq] at hx1
    subst hx1
    have g3:r.len≤140737488355328:=hn _ (List.mem_cons_self ..) rfl
    obtain ⟨ad,cc,hv,hsl⟩:=hO.slO (E2.set (t2::ls)) (fun b ⟨i,hi,hs⟩=>⟨i,List.mem_cons_of_mem _ hi,hE2.σ i b hs⟩) (fun b _ hb=>⟨t2,List.mem_cons_self ..,hσ b (Has.row hrow hβ (by
     obtain ⟨a5,c5,e5⟩:=hO.form
     rw [← zaq ⟨a5,_,c5,e5⟩];exact hb))⟩) (by rw [r.rows_len];exact g3)
    refine hK E2 _ _ (h.next (h1.trans hE2) h2 (u:=⟨_,.gd true (.sl (t2::ls) r),[(t2,.dead)]⟩) ⟨fun _=>?_,fun e=>(by cases e)⟩ hM2)
    rw [hv];exact hsl
  rename_i hd
  simp only [Option.some.injEq] at hu
  subst hu
  rw [zcJ h hg hG]
  cases G
  ·rw [if_neg (by simp)]
   refine hK E _ _ (h.next (u:=⟨_,.gd false u2.val,u2.mem⟩) (Env.Le.refl E) Same.rfl' (v:=undef) ⟨fun e=>(by cases e),fun _=>rfl⟩ ?_)
   exact h.mem.deads u2.mem st.m hd
  ·rw [if_pos rfl]
   refine zdT hC hM o c hc E a w K Q h (fun p hp=>hn (true=true→p) (List.mem_map.2 ⟨p,hp,rfl⟩) rfl) (fun E' w' v h1 h2 h3 h4=>hK E' _ _ (h.next h1 h2 (u:=⟨_,.gd true u2.val,u2.mem⟩) ⟨fun _=>h3,fun e=>(by cases e)⟩ h4))
inductive RO
 | ok (st:St) (n:List Prop)
 | bad (c:Nat) (o:Op) (st:St)
def zc7 (P:Program) (C:Cfg) (more:Nat→St→TypeId→Op→Option Upd) (ops:Array Oper):Nat→List Oper→St→RO
 | _,[],st=> .ok st []
 | c,o::r,st=>match zcp P C more ops c o st with
  | some u=>match zc7 P C more ops (c+wid o.op) r (st.app o.dst u) with
   | .ok st2 n=> .ok st2 (u.needs++n)
   | .bad c o s=> .bad c o s
  | none=> .bad c o.op st
theorem zfj {C:Cfg} (hC:zdv P C) {more:Nat→St→TypeId→Op→Option Upd} (hM:zct P more) {ops:Array Oper} {Q:Exit→Act→World→Prop}:∀ (l:List Oper) (c:Nat) (st st2:St) (n:List Prop),zc7 P C more ops c l st = .ok st2 n→(∀ p∈n,p) →
  (∀ E' a' w',st2.Ok base X w0 E' a' w'→Q .normal a' w')→∀ (E:Env) (a:Act) (w:World),st.Ok base X w0 E a w→wpList P ops Q l a w
 | [],c,st,st2,n,hr,hn,hQ,E,a,w,h=>by
  simp only [zc7,RO.ok.injEq] at hr
  obtain ⟨rfl,rfl⟩:=hr
  exact wpList_nil (hQ E a w h)
 | o::l,c,st,st2,n,hr,hn,hQ,E,a,w,h=>by
  simp only [zc7] at hr
  split at hr
  case h_2=>simp at hr
  rename_i u hu
  split at hr
  case h_2=>simp at hr
  rename_i st3 n3 h3
  simp only [RO.ok.injEq] at hr
  obtain ⟨rfl,rfl⟩:=hr
  refine wpList_step fun K hK=>?_
  exact zdD hC hM hu h (fun p hp=>hn p (List.mem_append_left _ hp)) (fun E' a' w' h'=>hK a' w' (zfj hC hM l (c+wid o.op) _ _ _ h3 (fun p hp=>hn p (List.mem_append_right _ hp)) hQ E' a' w' h'))
def St.grow (st:St) (n:Nat):St:={st with nx:=st.nx+n}
theorem St.Ok.grow {E:Env} {a:Act} {w:World} (h:st.Ok base X w0 E a w) (n:Nat):(st.grow n).Ok base X w0 E a w:=⟨h.defers,h.size,h.tm,h.mem⟩
def widS:List Oper→Nat
 | []=>0
 | o::r=>wid o.op+widS r
end ops
end Go.Proofs.Ytfccndnnpkiajaa
namespace Go.Proofs.Ytfccndnnpkiajaa
open Go.RowKit Go.ChangeShapes Go.WideShapes Go.Deep
inductive Key
 | t (n:Nat)
 | m (n:Nat)
 deriving DecidableEq
inductive KV
 | v (s:SV)
 | e (b:BE)
def St.get (st:St):Key→KV
 | .t n=> .v (st.s n)
 | .m n=> .e (st.m n)
def wrs (dst:Option Tmp) (u:Upd):List Key:=(match dst with | some d=>[Key.t d] | none=>[])++u.mem.map (fun p=>Key.m p.1)
def Key.has:List Key→Key→Bool
 | [],_=>false
 | .t a::r,.t b=>b==a||Key.has r (.t b)
 | .m a::r,.m b=>b==a||Key.has r (.m b)
 | _::r,k=>Key.has r k
theorem Key.has_iff:∀ (l:List Key) (k:Key),Key.has l k=true↔k∈l
 | [],k=>by simp [Key.has]
 | a::r,k=>by
  cases a<;>cases k<;>simp [Key.has,Key.has_iff r]
def Key.apart (a b:List Key):Bool:=a.all fun k=>!Key.has b k
theorem Key.apart_ok {a b:List Key} (h:Key.apart a b=true) {k:Key} (ha:k∈a):k∉b:=by
 intro hb
 have:=List.all_eq_true.1 h k ha
 rw [(Key.has_iff b k).2 hb] at this
 simp at this
theorem ziy:∀ (l:List (Nat×BE)) (m:Nat→BE) (t:Nat),t∉l.map (·.1)→putF l m t=m t
 | [],_,_,_=>rfl
 | (k,e)::r,m,t,h=>by
  simp only [List.map_cons,List.mem_cons,not_or] at h
  show (if t=k then e else putF r m t)=m t
  rw [if_neg h.1,ziy r m t h.2]
theorem zdK:∀ (l:List (Nat×BE)) (m m2:Nat→BE) (t:Nat),t∈l.map (·.1)→putF l m t=putF l m2 t
 | [],_,_,_,h=>by simp at h
 | (k,e)::r,m,m2,t,h=>by
  show (if t=k then e else putF r m t)=(if t=k then e else putF r m2 t)
  by_cases hk:t=k
  ·rw [if_pos hk,if_pos hk]
  ·rw [if_neg hk,if_neg hk]
   simp only [List.map_cons,List.mem_cons] at h
   exact zdK r m m2 t (h.resolve_left hk)
theorem St.app_ne {st:St} {dst:Option Tmp} {u:Upd} {k:Key} (h:k∉wrs dst u):(st.app dst u).get k=st.get k:=by
 simp only [wrs,List.mem_append,not_or] at h
 cases k with
 | t n=>
  cases dst with
  | none=>rfl
  | some d=>
   have hne:¬ n=d:=by intro e;exact h.1 (by simp [e])
   show KV.v ((st.app (some d) u).s n)=_
   rw [St.app_s,if_neg hne];rfl
 | m n=>
  show KV.e ((st.app dst u).m n)=_
  rw [St.app_m,ziy _ _ _ (fun hm=>h.2 ?_)];rfl
  obtain ⟨p,hp,e⟩:=List.mem_map.1 hm
  exact List.mem_map.2 ⟨p,hp,by rw [e]⟩
structure Like (a b:St):Prop where
 tm:a.nt=b.nt
 mm:a.nx=b.nx
theorem St.app_in {a b:St} (hl:Like a b) {dst:Option Tmp} {u:Upd} {k:Key} (h:k∈wrs dst u):(a.app dst u).get k=(b.app dst u).get k:=by
 simp only [wrs,List.mem_append] at h
 cases k with
 | t n=>
  rcases h with h | h
  ·cases dst with
   | none=>simp at h
   | some d=>
    simp at h
    subst h
    show KV.v ((a.app (some n) u).s n)=KV.v ((b.app (some n) u).s n)
    rw [St.app_s,St.app_s,hl.tm];simp
  ·simp at h
 | m n=>
  rcases h with h | h
  ·cases dst<;>simp at h
  ·obtain ⟨p,hp,e⟩:=List.mem_map.1 h
   simp only [Key.m.injEq] at e
   show KV.e ((a.app dst u).m n)=KV.e ((b.app dst u).m n)
   rw [St.app_m,St.app_m,zdK _ a.m b.m n (List.mem_map.2 ⟨p,hp,e⟩)]
theorem St.app_like (st:St) (dst:Option Tmp) (u:Upd):Like (st.app dst u) st:=⟨rfl,rfl⟩
theorem Like.trans {a b c:St} (h:Like a b) (k:Like b c):Like a c:=⟨h.tm.trans k.tm,h.mm.trans k.mm⟩
theorem Like.symm {a b:St} (h:Like a b):Like b a:=⟨h.tm.symm,h.mm.symm⟩
def apl (D:Nat→Bool):Nat→List (Option Tmp×Upd)→St→St
 | _,[],st=>st
 | i,(dst,u)::r,st=>apl D (i+1) r (if D i then st.app dst u else st)
theorem zcR (D:Nat→Bool):∀ (i:Nat) (l:List (Option Tmp×Upd)) (st:St),Like (apl D i l st) st
 | _,[],st=>⟨rfl,rfl⟩
 | i,(dst,u)::r,st=>by
  rw [apl]
  refine (zcR D (i+1) r _).trans ?_
  split
  ·exact St.app_like st dst u
  ·exact ⟨rfl,rfl⟩
def Wr (l:List (Option Tmp×Upd)) (i:Nat) (k:Key):Prop:=∃ d u,l[i]? = some (d,u)∧k∈wrs d u
theorem zeb {D D':Nat→Bool} {k:Key}:∀ (i:Nat) (l:List (Option Tmp×Upd)) (st st':St),Like st st'→st.get k=st'.get k→(∀ j,Wr l j k→D (i+j)=D' (i+j))→(apl D i l st).get k=(apl D' i l st').get k
 | _,[],st,st',_,h,_=>h
 | i,(dst,u)::r,st,st',hl,h,hD=>by
  rw [apl,apl]
  refine zeb (i+1) r _ _ ?_ ?_ (fun j hj=>?_)
  ·by_cases h1:D i=true
   ·by_cases h2:D' i=true
    ·rw [if_pos h1,if_pos h2];exact ((St.app_like st dst u).trans hl).trans (St.app_like st' dst u).symm
    ·rw [if_pos h1,if_neg h2];exact (St.app_like st dst u).trans hl
   ·by_cases h2:D' i=true
    ·rw [if_neg h1,if_pos h2];exact hl.trans (St.app_like st' dst u).symm
    ·rw [if_neg h1,if_neg h2];exact hl
  ·by_cases hk:k∈wrs dst u
   ·have:=hD 0 ⟨dst,u,rfl,hk⟩
    rw [Nat.add_zero] at this
    rw [this]
    by_cases h1:D' i=true
    ·rw [if_pos h1,if_pos h1];exact St.app_in hl hk
    ·rw [if_neg h1,if_neg h1];exact h
   ·have e1:(if D i=true then st.app dst u else st).get k=st.get k:=by split;exact St.app_ne hk;rfl
    have e2:(if D' i=true then st'.app dst u else st').get k=st'.get k:=by split;exact St.app_ne hk;rfl
    rw [e1,e2,h]
  ·obtain ⟨d,v,h1,h2⟩:=hj
   have:=hD (j+1) ⟨d,v,by simpa using h1,h2⟩
   rwa [show i+(j+1)=i+1+j by omega] at this
theorem zhe {D:Nat→Bool} {k:Key}:∀ (i:Nat) (l:List (Option Tmp×Upd)) (st s2:St) (j:Nat) (d:Option Tmp) (u:Upd),l[j]? = some (d,u)→k∈wrs d u→D (i+j)=true→(∀ n,j<n→Wr l n k→D (i+n)=false)→Like st s2 →
  (apl D i l st).get k=(s2.app d u).get k
 | _,[],_,_,j,_,_,h,_,_,_,_=>by simp at h
 | i,(dst,v)::r,st,s2,0,d,u,h,hk,hD,hn,hl=>by
  simp only [List.getElem?_cons_zero,Option.some.injEq,Prod.mk.injEq] at h
  obtain ⟨rfl,rfl⟩:=h
  rw [Nat.add_zero] at hD
  rw [apl,if_pos hD]
  have:(apl D (i+1) r (st.app dst v)).get k=(apl (fun _=>false) (i+1) r (st.app dst v)).get k:=by
   refine zeb _ _ _ _ ⟨rfl,rfl⟩ rfl (fun n hw=>?_)
   obtain ⟨d,u,h1,h2⟩:=hw
   have:=hn (n+1) (by omega) ⟨d,u,by simpa using h1,h2⟩
   rwa [show i+(n+1)=i+1+n by omega] at this
  rw [this]
  have e:∀ (l:List (Option Tmp×Upd)) (i:Nat) (s:St),apl (fun _=>false) i l s=s:=by
   intro l
   induction l with
   | nil=>intro i s;rfl
   | cons x l ih=>intro i s;obtain ⟨a,b⟩:=x;rw [apl];exact ih (i+1) s
  rw [e]
  exact St.app_in hl hk
 | i,(dst,v)::r,st,s2,j+1,d,u,h,hk,hD,hn,hl=>by
  rw [apl]
  refine zhe (i+1) r _ s2 j d u (by simpa using h) hk (by rw [show i+1+j=i+(j+1) by omega];exact hD) (fun n hjn hw=>?_) ?_
  ·obtain ⟨d2,u2,h1,h2⟩:=hw
   have:=hn (n+1) (by omega) ⟨d2,u2,by simpa using h1,h2⟩
   rwa [show i+(n+1)=i+1+n by omega] at this
  ·split
   ·exact (St.app_like st dst v).trans hl
   ·exact hl
theorem zjM:∀ (i:Nat) (l:List (Option Tmp×Upd)) (st:St) (D:Nat→Bool),(∀ j,j<l.length→D (i+j)=true)→apl D i l st=apl (fun _=>true) i l st
 | _,[],_,_,_=>rfl
 | i,(d,u)::r,st,D,h=>by
  have h0:=h 0 (by simp)
  rw [Nat.add_zero] at h0
  rw [apl,apl,if_pos h0,if_pos rfl]
  exact zjM (i+1) r _ D (fun j hj=>by have:=h (j+1) (by simpa using hj);rwa [show i+(j+1)=i+1+j by omega] at this)
theorem zd8:∀ (i:Nat) (l:List (Option Tmp×Upd)) (st:St) (D:Nat→Bool),(∀ j,j<l.length→D (i+j)=false)→apl D i l st=st
 | _,[],_,_,_=>rfl
 | i,(d,u)::r,st,D,h=>by
  have h0:=h 0 (by simp)
  rw [Nat.add_zero] at h0
  rw [apl,if_neg (by rw [h0];simp)]
  exact zd8 (i+1) r _ D (fun j hj=>by have:=h (j+1) (by simpa using hj);rwa [show i+(j+1)=i+1+j by omega] at this)
section
variable {base : Nat} {X : Cx} {w0 : World}
theorem St.Ok.congr {a b:St} (hl:Like a b) (h:∀ k,a.get k=b.get k) {E:Env} {ac:Act} {w:World} (ho:a.Ok base X w0 E ac w):b.Ok base X w0 E ac w:=by
 have hm:a.m=b.m:=by funext t;have:=h (.m t);simpa [St.get] using this
 refine ⟨ho.defers,by rw [← hl.tm];exact ho.size,fun i=>?_,by rw [← hm];exact ho.mem⟩
 have:=h (.t i)
 simp only [St.get,KV.v.injEq] at this
 rw [← this];exact ho.tm i
end
def ancs:List Oper→List Nat→List Nat
 | [],acc=>acc
 | o::r,acc=>ancs r (acc++[o.after.toList.foldl (fun s e=>if Region.binds .any e then s ||| 2 ^ e.on ||| acc.getD e.on 0 else s) 0])
def zjP (ops:List Oper) (D:Nat→Bool):Prop:=∀ i o,ops[i]? = some o→D i=true→∀ e∈o.after.toList,Region.binds .any e=true→D e.on=true
theorem zhf {D:Nat→Bool} {acc:List Nat} (hacc:∀ j i,(acc.getD j 0).testBit i=true→D j=true→D i=true):∀ (es:List Edge) (s:Nat),(∀ e∈es,Region.binds .any e=true→D e.on=true)→(∀ i,s.testBit i=true→D i=true) →
  ∀ i,(es.foldl (fun s e=>if Region.binds .any e then s ||| 2 ^ e.on ||| acc.getD e.on 0 else s) s).testBit i=true→D i=true
 | [],s,_,hs,i,h=>hs i h
 | e::es,s,he,hs,i,h=>by
  simp only [List.foldl_cons] at h
  refine zhf hacc es _ (fun e' h'=>he e' (List.mem_cons_of_mem _ h')) (fun i hi=>?_) i h
  split at hi
  ·rename_i hb
   simp only [Nat.testBit_or,Bool.or_eq_true] at hi
   rcases hi with (hi | hi) | hi
   ·exact hs i hi
   ·rw [Nat.testBit_two_pow] at hi
    have:e.on=i:=by simpa using hi
    rw [← this];exact he e (List.mem_cons_self ..) hb
   ·exact hacc _ i hi (he e (List.mem_cons_self ..) hb)
  ·exact hs i hi
theorem zgq {D:Nat→Bool}:∀ (l:List Oper) (acc:List Nat),(∀ i o,l[i]? = some o→D (acc.length+i)=true→∀ e∈o.after.toList,Region.binds .any e=true→D e.on=true) →
  (∀ j i,(acc.getD j 0).testBit i=true→D j=true→D i=true)→∀ j i,((ancs l acc).getD j 0).testBit i=true→D j=true→D i=true
 | [],acc,_,h,j,i,hb,hj=>h j i hb hj
 | o::r,acc,hl,h,j,i,hb,hj=>by
  rw [ancs] at hb
  refine zgq r _ (fun i o ho hD=>?_) (fun j i hb hj=>?_) j i hb hj
  ·rw [List.length_append,List.length_singleton] at hD
   exact hl (i+1) o (by simpa using ho) (by rwa [show acc.length+(i+1)=acc.length+1+i by omega])
  ·by_cases hjl:j<acc.length
   ·rw [List.getD_eq_getElem?_getD,List.getElem?_append_left hjl,← List.getD_eq_getElem?_getD] at hb;exact h j i hb hj
   ·by_cases hje:j=acc.length
    ·subst hje
     rw [List.getD_eq_getElem?_getD,List.getElem?_append_right (Nat.le_refl _)] at hb
     simp only [Nat.sub_self,List.getElem?_cons_zero,Option.getD_some] at hb
     exact zhf h o.after.toList 0 (fun e he hbi=>hl 0 o rfl (by simpa using hj) e he hbi) (fun i hi=>by simp at hi) i hb
    ·rw [List.getD_eq_getElem?_getD,List.getElem?_eq_none (by simp;omega)] at hb
     simp at hb
end Go.Proofs.Ytfccndnnpkiajaa
namespace Go.Proofs.Ytfccndnnpkiajaa
open Go.RowKit Go.ChangeShapes Go.WideShapes Go.Deep
def zai:SV→List Nat
 | .ptr t _=>[t]
 | .mp t=>[t]
 | .own t=>[t]
 | .oel t _ _ _=>[t]
 | _=>[]
def svR:SV→List Nat
 | .rp _ _ vs _=>vs.flatMap zai
 | s=>zai s
def za2:SV→List Nat
 | .agg vs=>vs.flatMap zai
 | .gd _ (.agg vs)=>vs.flatMap zai
 | .gd _ (.clo _ vs)=>vs.flatMap svR
 | .gd _ s=>svR s
 | .clo _ vs=>vs.flatMap svR
 | s=>svR s
def zaO (st:St) (ss:List SV):List Nat:=
 ss.flatMap za2++(ss.flatMap za2).flatMap fun t=>match st.m t with | .cells _ vs=>vs.flatMap zai | _=>[]
theorem zbQ (op:Op):0<wid op:=by unfold wid;split<;>decide
def blkN:Nat→Nat→List Nat
 | _,0=>[]
 | c,n+1=>c::blkN (c+1) n
theorem zbM:∀ (n c t:Nat),t∈blkN c n↔c≤t∧t<c+n
 | 0,c,t=>by simp [blkN]
 | n+1,c,t=>by rw [blkN,List.mem_cons,zbM n];omega
structure Agree (a b:St) (c n:Nat) (xs:List Operand):Prop where
 like:Like a b
 ev:∀ x,x∈xs→a.ev x=b.ev x
 m:∀ t,t∈blkN c n∨t∈zaO a (xs.map fun x=>(zag (a.ev x)).1)→a.m t=b.m t
 w:∀ t,t∈zaO a (xs.map fun x=>(zag (a.ev x)).1)→a.m (lbF t)=b.m (lbF t)
theorem znh {st:St} {ss:List SV} {s:SV} (hs:s∈ss) {t:Nat} (ht:t∈zai s):t∈zaO st ss:=by
 refine List.mem_append_left _ (List.mem_flatMap.2 ⟨s,hs,?_⟩)
 cases s<;>first | exact ht | (simp [zai] at ht)
theorem Agree.tag {a b:St} {c n:Nat} {xs:List Operand} (h:Agree a b c n xs) {x:Operand} (hx:x∈xs) {t:Nat} (ht:t∈zai (zag (a.ev x)).1):a.m t=b.m t:=
 h.m t (.inr (znh (List.mem_map.2 ⟨x,hx,rfl⟩) ht))
theorem Agree.cells {a b:St} {c n:Nat} {xs:List Operand} (h:Agree a b c n xs) {x:Operand} (hx:x∈xs):zbu a (zag (a.ev x)).1=zbu b (zag (a.ev x)).1:=by
 have:=fun t=>h.tag hx (t:=t)
 cases hs:(zag (a.ev x)).1<;>simp only [zbu]<;>rw [hs] at this<;>rw [this _ (by simp [zai])]
theorem Agree.len {a b:St} {c n:Nat} {xs:List Operand} (h:Agree a b c n xs) {x:Operand} (hx:x∈xs):lenV a (zag (a.ev x)).1=lenV b (zag (a.ev x)).1:=by
 have:=fun t=>h.tag hx (t:=t)
 cases hs:(zag (a.ev x)).1<;>simp only [lenV]<;>rw [hs] at this<;>rw [this _ (by simp [zai])]
theorem Agree.free {a b:St} {c n:Nat} {xs:List Operand} (h:Agree a b c n xs) (hn:0<n):a.free c=b.free c:=by
 simp only [St.free,h.m c (.inl ((zbM n c c).2 ⟨Nat.le_refl _,by omega⟩))]
def zdt (C:Cfg):Prop:=∀ c f a b svs,Like a b→(∀ t,t∈blkN c 24∨t∈zaO a svs→a.m t=b.m t)→C.orc c f a svs=C.orc c f b svs
def zca (more:Nat→St→TypeId→Op→Option Upd):Prop:=∀ c a b ty op,Agree a b c (wid op) op.operands.toList→more c a ty op=more c b ty op
theorem zcM {a b:St}:∀ (xs:List Operand),(∀ x,x∈xs→a.ev x=b.ev x)→evL a xs=evL b xs
 | [],_=>rfl
 | x::r,h=>by rw [evL,evL,h x (List.mem_cons_self ..),zcM r (fun y hy=>h y (List.mem_cons_of_mem _ hy))]
theorem zge {a:St}:∀ (xs:List Operand),(evL a xs).1=xs.map fun x=>(zag (a.ev x)).1
 | []=>rfl
 | x::r=>by rw [evL,List.map_cons,zge r]
theorem zbV {a b:St}:∀ (xs:List (Nat×Operand)),(∀ x,x∈xs.map (·.2)→a.ev x=b.ev x)→zbf a xs=zbf b xs
 | [],_=>rfl
 | (i,x)::r,h=>by rw [zbf,zbf,h x (by simp),zbV r (fun y hy=>h y (List.mem_cons_of_mem _ hy))]
theorem zhM {P:Program} {C:Cfg} {more:Nat→St→TypeId→Op→Option Upd} (hC:zdt C) (hM:zca more) {c:Nat} {a b:St} {ty:TypeId} {op:Op} (h:Agree a b c (wid op) op.operands.toList):core P C more c a ty op=core P C more c b ty op:=by
 have hev:=h.ev
 unfold core
 split
 ·rename_i x;simp only [zgn,hev x (by simp [Op.operands])]
 ·rename_i x;simp only [zgn,hev x (by simp [Op.operands])]
 ·rename_i x y z;simp only [zlf,hev x (by simp [Op.operands]),hev y (by simp [Op.operands]),hev z (by simp [Op.operands])]
 ·rename_i T x;simp only [cBox,hev x (by simp [Op.operands]),h.free (zbQ _)]
 ·simp only [zhc,h.free (zbQ _)]
 ·rename_i T ps
  simp only [zhb]
  rw [zbV ps.toList (fun x hx=>hev x (by simpa [Op.operands] using hx))]
 ·rename_i T x
  simp only [zlk]
  rw [h.cells (x:=x) (by simp [Op.operands]),hev x (by simp [Op.operands])]
 ·rename_i T x y
  have e:zew P a T x y=zew P b T x y:=by
   have hx:=hev x (by simp [Op.operands])
   have ht:=fun t=>h.tag (x:=x) (by simp [Op.operands]) (t:=t)
   simp only [zew,hev y (by simp [Op.operands])]
   rw [← hx]
   rcases hs:zag (a.ev x) with ⟨s,n⟩
   rw [hs] at ht
   cases s
   case ptr t off=>
    have e2:=ht t (by simp [zai])
    rcases zag (b.ev y) with ⟨s2,n2⟩
    cases zbi P T with
    | none=>rfl
    | some k=>simp only [e2]
   all_goals rfl
  rw [e,hM c a b ty _ h]
 ·rename_i T x f;simp only [zaS,hev x (by simp [Op.operands])]
 ·rename_i T x f;simp only [zha,hev x (by simp [Op.operands])]
 ·rename_i T x i
  simp only [zcn,hev i (by simp [Op.operands])]
  have hx:=hev x (by simp [Op.operands])
  have ht:=fun t=>h.tag (x:=x) (by simp [Op.operands]) (t:=t)
  rw [← hx]
  rcases hs:zag (a.ev x) with ⟨s,n⟩
  rw [hs] at ht
  cases zbe P T with
  | none=>rfl
  | some e=>
   rcases zag (b.ev i) with ⟨si,n1⟩
   cases si
   case int k m=>
    cases hz:zbi P e with
    | none=>cases s<;>simp only [hz]
    | some sz=>
     cases s
     case own t=>simp only [hz];rw [ht t (by simp [zai])]
     all_goals simp only [hz]
   all_goals rfl
 ·rename_i x i;simp only [zd6,hev x (by simp [Op.operands])]
 ·rename_i op T x y T2
  have e:cBin P a op T x y=cBin P b op T x y:=by simp only [cBin,hev x (by simp [Op.operands]),hev y (by simp [Op.operands])]
  rw [e,hM c a b ty _ h]
 ·rename_i op T x;simp only [cUn,hev x (by simp [Op.operands])]
 ·rename_i s d x
  have e:zhP P a s d x=zhP P b s d x:=by simp only [zhP,hev x (by simp [Op.operands])]
  rw [e,hM c a b ty _ h]
 ·rename_i x;simp only [cNil,hev x (by simp [Op.operands])]
 ·rename_i f xs ts
  have hmem:∀ x,x∈xs.toList→x∈(Op.call ⟨.value (.func f),xs,ts⟩).operands.toList:=fun x hx=>by simp [Op.operands,Call.operands];exact .inr (by simpa using hx)
  have e2:=zcM xs.toList (fun x hx=>hev x (hmem x hx))
  have e3:=hC c f a b (evL a xs.toList).1 h.like (fun t ht=>h.m t (by
   rcases ht with ht | ht
   ·exact .inl ht
   ·right
    rw [zge] at ht
    simp only [zaO,List.mem_append,List.mem_flatMap] at ht ⊢
    have key:∀ s,s∈List.map (fun x=>(zag (a.ev x)).1) xs.toList→s∈List.map (fun x=>(zag (a.ev x)).1) (Op.call ⟨.value (.func f),xs,ts⟩).operands.toList:=by
     intro s hs
     obtain ⟨x,hx,e⟩:=List.mem_map.1 hs
     exact List.mem_map.2 ⟨x,hmem x hx,e⟩
    rcases ht with ⟨s,h1,h2⟩ | ⟨t2,⟨s,h1,h2⟩,h3⟩
    ·exact .inl ⟨s,key s h1,h2⟩
    ·exact .inr ⟨t2,⟨s,key s h1,h2⟩,h3⟩))
  simp only [cFun]
  rw [e3,e2]
 ·rename_i t0 xs ts
  have hmem:∀ x,x∈xs.toList→x∈(Op.call ⟨.value (.tmp t0),xs,ts⟩).operands.toList:=fun x hx=>by simp [Op.operands,Call.operands];exact .inr (by simpa using hx)
  have e2:=zcM xs.toList (fun x hx=>hev x (hmem x hx))
  have e0:=hev (.tmp t0) (by simp [Op.operands,Call.operands])
  have key:∀ f cs,(∀ s,s∈cs→∃ x,x∈(Op.call ⟨.value (.tmp t0),xs,ts⟩).operands.toList∧(∀ t,t∈svR s→t∈za2 (zag (a.ev x)).1))→(∀ s,s∈cs→za2 s=svR s)→C.orc c f a ((evL a xs.toList).1++cs)=C.orc c f b ((evL a xs.toList).1++cs):=by
   intro f cs hcs hlf
   refine hC c f a b _ h.like (fun t ht=>h.m t ?_)
   rcases ht with ht | ht
   ·exact .inl ht
   ·right
    rw [zge] at ht
    have hin:∀ t2,t2∈((xs.toList.map fun x=>(zag (a.ev x)).1)++cs).flatMap za2→t2∈(List.map (fun x=>(zag (a.ev x)).1) (Op.call ⟨.value (.tmp t0),xs,ts⟩).operands.toList).flatMap za2:=by
     intro t2 h2
     obtain ⟨s,hs,h3⟩:=List.mem_flatMap.1 h2
     rcases List.mem_append.1 hs with hs | hs
     ·obtain ⟨x,hx,e⟩:=List.mem_map.1 hs
      exact List.mem_flatMap.2 ⟨s,List.mem_map.2 ⟨x,hmem x hx,e⟩,h3⟩
     ·obtain ⟨x,hx,h4⟩:=hcs s hs
      exact List.mem_flatMap.2 ⟨_,List.mem_map.2 ⟨x,hx,rfl⟩,h4 t2 (by rw [← hlf s hs];exact h3)⟩
    simp only [zaO,List.mem_append] at ht ⊢
    rcases ht with h1 | h1
    ·exact .inl (hin t h1)
    ·obtain ⟨t2,h2,h3⟩:=List.mem_flatMap.1 h1
     exact .inr (List.mem_flatMap.2 ⟨t2,hin t2 h2,h3⟩)
  simp only [cClo]
  rw [← e2,← e0]
  rcases hs:zag (a.ev (.tmp t0)) with ⟨s,n⟩
  cases s
  case fn f=>simp only [];have:=key f [] (fun s hs=>by cases hs) (fun s hs=>by cases hs);rw [List.append_nil] at this;rw [this]
  case clo f cs=>
   by_cases hfl:cs.all SV.cap=true
   ·have:=key f cs (fun s hs2=>⟨.tmp t0,by simp [Op.operands,Call.operands],fun t ht=>by rw [hs];exact List.mem_flatMap.2 ⟨s,hs2,ht⟩⟩) (fun s hs2=>by
     have:=List.all_eq_true.1 hfl s hs2
     cases s<;>first | rfl | (simp [SV.cap,SV.flat] at this))
    simp only [hfl,if_true,this]
   ·simp only [hfl,if_false,Bool.false_eq_true]
  all_goals rfl
 ·rename_i x T
  simp only [cLen]
  rw [h.len (x:=x) (by simp [Op.operands,Call.operands]),hev x (by simp [Op.operands,Call.operands])]
 ·exact hM c a b ty _ h
theorem zdU {P:Program} {C:Cfg} {more:Nat→St→TypeId→Op→Option Upd} (hC:zdt C) (hM:zca more) {c:Nat} {a b:St} {ty:TypeId} {op:Op} (h:Agree a b c (wid op) op.operands.toList):zco P C more c a ty op=zco P C more c b ty op:=by
 unfold zco;rw [zhM (P:=P) (ty:=ty) hC hM h,hM c a b ty op h]
theorem ziW {a b:St} {s:SV} (h:∀ t,t∈zai s→a.m t=b.m t):frz0 a s=frz0 b s∧zbZ a s=zbZ b s:=by
 cases s
 case own t=>
  have:=h t (by simp [zai])
  simp only [frz0,zbZ,this,and_self]
 all_goals exact ⟨rfl,rfl⟩
theorem zmR {a b:St} {s:SV} (h:∀ t,t∈za2 (zag s).1→a.m t=b.m t):frz1 a s=frz1 b s∧zdc a s=zdc b s:=by
 cases s
 case agg vs=>
  have h:∀ t,t∈vs.flatMap zai→a.m t=b.m t:=h
  have key:∀ (l:List SV),(∀ t,t∈l.flatMap zai→a.m t=b.m t)→l.map (frz0 a)=l.map (frz0 b)∧l.flatMap (zbZ a)=l.flatMap (zbZ b):=by
   intro l
   induction l with
   | nil=>intro _;exact ⟨rfl,rfl⟩
   | cons x l ih=>
    intro hl
    have h1:=ziW (a:=a) (b:=b) (s:=x) (fun t ht=>hl t (List.mem_append_left _ ht))
    have h2:=ih (fun t ht=>hl t (List.mem_append_right _ ht))
    simp only [List.map_cons,List.flatMap_cons,h1.1,h1.2,h2.1,h2.2,and_self]
  exact ⟨congrArg SV.agg (key vs h).1,(key vs h).2⟩
 case own u=>exact ziW (s:= .own u) fun t ht=>h t ht
 all_goals exact ⟨rfl,rfl⟩
theorem zc0:∀ {xs:List Operand} {i:Nat},i∈zc1 xs → .tmp i∈xs
 | [],i,h=>by simp [zc1] at h
 | x::r,i,h=>by
  cases x with
  | tmp t=>
   rcases List.mem_cons.1 h with e | h
   ·rw [e];exact List.mem_cons_self ..
   ·exact List.mem_cons_of_mem _ (zc0 h)
  | _=>exact List.mem_cons_of_mem _ (zc0 h)
theorem zb6:∀ {xs:List Operand} {i:Nat},.tmp i∈xs→i∈zc1 xs
 | [],i,h=>by cases h
 | x::r,i,h=>by
  rcases List.mem_cons.1 h with e | h2
  ·rw [← e];exact List.mem_cons_self ..
  ·cases x with
   | tmp t=>exact List.mem_cons_of_mem _ (zb6 h2)
   | _=>exact zb6 (xs:=r) h2
theorem ziT {st:St} {s:SV} {t:Nat} (h:t∈zai (frz0 st s)):t∈zai s:=by
 rcases zdd st s with e | ⟨u,hu⟩
 ·rwa [e] at h
 ·obtain ⟨rfl,T,ls,r,_,e⟩:=zbr hu
  rw [e] at h
  simp [zai] at h
theorem ziS {st:St} {s:SV} {t:Nat} (h:t∈za2 (zag (frz1 st s)).1):t∈za2 (zag s).1:=by
 cases s
 case agg vs=>
  obtain ⟨x,hx,ht⟩:=List.mem_flatMap.1 h
  obtain ⟨y,hy,rfl⟩:=List.mem_map.1 hx
  exact List.mem_flatMap.2 ⟨y,hy,ziT ht⟩
 case own u=>
  rcases zdd st (.own u) with e | ⟨v,hv⟩
  ·rwa [show frz1 st (.own u)=frz0 st (.own u) from rfl,e] at h
  ·obtain ⟨_,T,ls,r,_,e⟩:=zbr hv
   rw [show frz1 st (.own u)=frz0 st (.own u) from rfl,e] at h
   have h:t∈([]:List Nat):=h
   cases h
 all_goals exact h
theorem zh5 {P:Program} {C:Cfg} {more:Nat→St→TypeId→Op→Option Upd} (hC:zdt C) (hM:zca more) {c:Nat} {a b:St} {ty:TypeId} {op:Op} (h:Agree a b c (wid op) op.operands.toList):full P C more c a ty op=full P C more c b ty op:=by
 generalize hxs:op.operands.toList=xs at h
 have hag:Agree a b c (wid op) op.operands.toList:=by rw [hxs];exact h
 have htag:∀ i,i∈zc1 xs→∀ t,t∈za2 (zag (a.s i)).1→t∈zaO a (xs.map fun x=>(zag (a.ev x)).1):=fun i hi t ht=>
  List.mem_append_left _ (List.mem_flatMap.2 ⟨(zag (a.s i)).1,List.mem_map.2 ⟨.tmp i,zc0 hi,rfl⟩,ht⟩)
 have hs:∀ i,i∈zc1 xs→a.s i=b.s i:=fun i hi=>h.ev (.tmp i) (zc0 hi)
 have he:∀ i,i∈zc1 xs→frz1 a (a.s i)=frz1 b (b.s i)∧zdc a (a.s i)=zdc b (b.s i):=fun i hi=>by
  rw [← hs i hi]
  exact zmR fun t ht=>h.m t (.inr (htag i hi t ht))
 have hts:zbC a xs=zbC b xs:=by
  unfold zbC
  have:∀ (l:List Nat),(∀ i,i∈l→i∈zc1 xs)→(l.flatMap fun i=>zdc a (a.s i))=l.flatMap fun i=>zdc b (b.s i):=by
   intro l
   induction l with
   | nil=>intro _;rfl
   | cons x l ih=>
    intro hl
    rw [List.flatMap_cons,List.flatMap_cons,(he x (hl x (List.mem_cons_self ..))).2,ih fun i hi=>hl i (List.mem_cons_of_mem _ hi)]
  exact this _ fun i hi=>hi
 have hdt:∀ t,t∈zbC a xs→t∈zaO a (xs.map fun x=>(zag (a.ev x)).1):=fun t ht=>by
  obtain ⟨i,hi,h2⟩:=List.mem_flatMap.1 ht
  refine htag i hi t ?_
  cases hsi:a.s i with
  | agg vs=>
   rw [hsi] at h2
   obtain ⟨x,hx,h3⟩:=List.mem_flatMap.1 h2
   obtain ⟨rfl,_⟩:=zbr h3
   exact List.mem_flatMap.2 ⟨_,hx,by simp [zai]⟩
  | own u=>
   rw [hsi] at h2
   obtain ⟨e,_⟩:=zbr (s:= .own u) h2
   cases e
   exact List.mem_singleton.2 rfl
  | _=>rw [hsi] at h2;simp [zdc] at h2
 have hin:∀ t,t∈zbC a xs→a.m t=b.m t:=fun t ht=>h.m t (.inr (hdt t ht))
 have hfr:∀ l:List Nat,(∀ t,t∈l→t∈zbC a xs)→l.all (fun t=>a.free (lbF t))=l.all (fun t=>b.free (lbF t)):=by
  intro l
  induction l with
  | nil=>intro _;rfl
  | cons x l ih=>
   intro hl
   rw [List.all_cons,List.all_cons,ih fun t ht=>hl t (List.mem_cons_of_mem _ ht)]
   simp only [St.free,h.w x (hdt x (hl x (List.mem_cons_self ..)))]
 have hN:∀ l:List Nat,(∀ t,t∈l→t∈zbC a xs)→frzN a l=frzN b l:=by
  intro l
  induction l with
  | nil=>intro _;rfl
  | cons x l ih=>
   intro hl
   have h1:=hin x (hl x (List.mem_cons_self ..))
   have h2:=ih fun t ht=>hl t (List.mem_cons_of_mem _ ht)
   unfold frzN
   rw [h2,h1]
 have hm:∀ t,a.m t=b.m t→(zbO a xs).m t=(zbO b xs).m t:=fun t ht=>by
  rw [zdV,zdV,hts]
  have:∀ (l:List Nat),putF (zcy l) a.m t=putF (zcy l) b.m t:=by
   intro l
   induction l with
   | nil=>exact ht
   | cons x l ih=>
    show (if t=x then _ else if t=lbF x then _ else putF (zcy l) a.m t)=(if t=x then _ else if t=lbF x then _ else putF (zcy l) b.m t)
    rw [ih]
  exact this _
 have hag2:Agree (zbO a xs) (zbO b xs) c (wid op) xs:=by
  have hev:∀ x,x∈xs→(zbO a xs).ev x=(zbO b xs).ev x:=fun x hx=>by
   cases x with
   | tmp i=>
    show (zbO a xs).s i=(zbO b xs).s i
    rw [zeP,zeP,if_pos (zb6 hx),if_pos (zb6 hx)]
    exact (he i (zb6 hx)).1
   | _=>rfl
  have hsub:∀ t,t∈(xs.map fun x=>(zag ((zbO a xs).ev x)).1).flatMap za2→t∈(xs.map fun x=>(zag (a.ev x)).1).flatMap za2:=fun t ht=>by
   obtain ⟨s,hs,h3⟩:=List.mem_flatMap.1 ht
   obtain ⟨x,hx,rfl⟩:=List.mem_map.1 hs
   refine List.mem_flatMap.2 ⟨_,List.mem_map.2 ⟨x,hx,rfl⟩,?_⟩
   cases x with
   | tmp i=>
    have h3:t∈za2 (zag ((zbO a xs).s i)).1:=h3
    rw [zeP,if_pos (zb6 hx)] at h3
    exact ziS h3
   | _=>exact h3
  have hdp:∀ t,t∈zaO (zbO a xs) (xs.map fun x=>(zag ((zbO a xs).ev x)).1)→t∈zaO a (xs.map fun x=>(zag (a.ev x)).1):=fun t ht=>by
   rcases List.mem_append.1 ht with ht | ht
   ·exact List.mem_append_left _ (hsub t ht)
   ·obtain ⟨u,hu,h3⟩:=List.mem_flatMap.1 ht
    refine List.mem_append_right _ (List.mem_flatMap.2 ⟨u,hsub u hu,?_⟩)
    rw [zdV] at h3
    have key:∀ (l:List Nat),putF (zcy l) a.m u=a.m u∨putF (zcy l) a.m u = .dead:=by
     intro l
     induction l with
     | nil=>exact .inl rfl
     | cons x l ih=>
      show (if u=x then _ else if u=lbF x then _ else putF (zcy l) a.m u)=_∨(if u=x then _ else if u=lbF x then _ else putF (zcy l) a.m u)=_
      by_cases e:u=x
      ·rw [if_pos e];exact .inr rfl
      ·rw [if_neg e]
       by_cases e2:u=lbF x
       ·rw [if_pos e2];exact .inr rfl
       ·rw [if_neg e2];exact ih
    rcases key (zbC a xs) with e | e
    ·rw [e] at h3;exact h3
    ·rw [e] at h3;cases h3
  refine ⟨⟨h.like.tm,h.like.mm⟩,hev,fun t ht=>hm t (h.m t (ht.imp id (hdp t))),fun t ht=>hm _ (h.w t (hdp t ht))⟩
 unfold full
 rw [hxs,zdU hC hM hag,hts]
 rw [zdU hC hM (a:=zbO a xs) (b:=zbO b xs) (by rw [hxs];exact hag2)]
 have h2:=hN (zbC a xs) fun t ht=>ht
 have h4:=hfr (zbC a xs) fun t ht=>ht
 rw [hts] at h2 h4
 split
 ·rfl
 ·cases hts2:zbC b xs with
  | nil=>rfl
  | cons t ts=>rw [hts2] at h2 h4;simp only [h2,h4]
def rds (ops:Array Oper) (c:Nat) (o:Oper) (st:St):List Key:=
 (o.looksAt ops).map Key.t++(bif zbd o.op then [] else ((zaO st (o.op.operands.toList.map fun x=>(zag (st.ev x)).1)).map lbF++(blkN c (wid o.op)++zaO st (o.op.operands.toList.map fun x=>(zag (st.ev x)).1))).map Key.m)
theorem zeE {P:Program} {C:Cfg} {more:Nat→St→TypeId→Op→Option Upd} {c:Nat} {a b:St} {ty:TypeId} {op:Op} (hm:zbd op=true) (hev:∀ x,x∈op.operands.toList→a.ev x=b.ev x) :
  zco P C more c a ty op=zco P C more c b ty op∧∀ u,zco P C more c b ty op=some u→u.mem=[]:=by
 cases op<;>simp only [zbd,Bool.false_eq_true] at hm
 case move x=>
  have e:=hev x (by simp [Op.operands])
  simp only [zco,core,zgn,e,Option.some.injEq]
  exact ⟨trivial,fun u h=>by subst h;rfl⟩
 case assign x=>
  have e:=hev x (by simp [Op.operands])
  simp only [zco,core,zgn,e,Option.some.injEq]
  exact ⟨trivial,fun u h=>by subst h;rfl⟩
 case nilCheck x=>
  have e:=hev x (by simp [Op.operands])
  have e2:cNil a x=cNil b x:=by simp only [cNil,e]
  simp only [zco,core,e2,zbd,cond_true]
  refine ⟨trivial,fun u h=>?_⟩
  split at h
  ·rename_i u2 h2
   simp only [Option.some.injEq] at h
   subst h
   unfold cNil at h2
   split at h2<;>first | (simp only [Option.some.injEq] at h2;subst h2;rfl) | cases h2
  ·cases h
 case fieldAddr T x f=>
  have e:=hev x (by simp [Op.operands])
  have e2:zaS P a T x f=zaS P b T x f:=by simp only [zaS,e]
  simp only [zco,core,e2,zbd,cond_true]
  refine ⟨trivial,fun u h=>?_⟩
  split at h
  ·rename_i u2 h2
   simp only [Option.some.injEq] at h
   subst h
   unfold zaS at h2
   split at h2
   ·split at h2
    ·split at h2
     ·cases h2
     ·split at h2
      ·simp only [Option.some.injEq] at h2;subst h2;rfl
      ·cases h2
    ·cases h2
   ·cases h2
  ·cases h
theorem zdo {P:Program} {C:Cfg} {more:Nat→St→TypeId→Op→Option Upd} {c:Nat} {a:St} {ty:TypeId} {op:Op} (hm:zbd op=true):full P C more c a ty op=zco P C more c a ty op:=by
 unfold full
 cases zco P C more c a ty op with
 | some u=>rfl
 | none=>rw [hm];rfl
theorem zft {P:Program} {C:Cfg} {more:Nat→St→TypeId→Op→Option Upd} {c:Nat} {a b:St} {ty:TypeId} {op:Op} (hm:zbd op=true) (hev:∀ x,x∈op.operands.toList→a.ev x=b.ev x) :
  full P C more c a ty op=full P C more c b ty op∧∀ u,full P C more c b ty op=some u→u.mem=[]:=by
 rw [zdo hm,zdo hm]
 exact zeE hm hev
theorem zff {P:Program} {C:Cfg} {more:Nat→St→TypeId→Op→Option Upd} (hC:zdt C) (hM:zca more) {ops:Array Oper} {c:Nat} {o:Oper} {a b:St} (hl:Like a b) (h:∀ k,k∈rds ops c o a→a.get k=b.get k) :
  zcp P C more ops c o a=zcp P C more ops c o b:=by
 have ht:∀ t,t∈o.looksAt ops→a.s t=b.s t:=fun t ht=>by
  have:=h (.t t) (List.mem_append_left _ (List.mem_map.2 ⟨t,ht,rfl⟩))
  simpa [St.get] using this
 have hev:∀ x,x∈o.op.operands.toList→a.ev x=b.ev x:=by
  intro x hx
  cases x with
  | tmp t=>
   refine ht t ?_
   simp only [Oper.looksAt,List.mem_append,List.mem_filterMap]
   exact .inl ⟨.tmp t,hx,rfl⟩
  | _=>rfl
 have hgb:∀ j pol,o.guard=some (j,pol)→zep ops a j pol=zep ops b j pol:=by
  intro j pol hg
  unfold zep
  cases hd:(ops[j]?).bind (·.dst) with
  | none=>rfl
  | some t=>
   simp only []
   rw [ht t (by simp [Oper.looksAt,hg,hd])]
 cases hml:zbd o.op with
 | true=>
  obtain ⟨hf,hmm⟩:=zft (P:=P) (C:=C) (more:=more) (c:=c) (ty:=o.type) hml hev
  unfold zcp
  cases hg:o.guard with
  | none=>exact hf
  | some jp=>
   obtain ⟨j,pol⟩:=jp
   simp only [hgb j pol hg,hf]
   cases hr:full P C more c b o.type o.op with
   | none=>rfl
   | some u=>
    have hd:zdi u.mem=true:=by rw [hmm u hr];rfl
    simp only [hd,if_true]
 | false=>
  have hag:Agree a b c (wid o.op) o.op.operands.toList:=⟨hl,hev,fun t ht2=>by
   have:=h (.m t) (by unfold rds;rw [hml];exact List.mem_append_right _ (List.mem_map.2 ⟨t,List.mem_append_right _ (List.mem_append.2 ht2),rfl⟩))
   simpa [St.get] using this,fun t ht2=>by
   have:=h (.m (lbF t)) (by unfold rds;rw [hml];exact List.mem_append_right _ (List.mem_map.2 ⟨lbF t,List.mem_append_left _ (List.mem_map.2 ⟨t,ht2,rfl⟩),rfl⟩))
   simpa [St.get] using this⟩
  have hcore:full P C more c a o.type o.op=full P C more c b o.type o.op:=zh5 hC hM hag
  unfold zcp
  cases hg:o.guard with
  | none=>exact hcore
  | some jp=>
   obtain ⟨j,pol⟩:=jp
   have hfr:a.free c=b.free c:=hag.free (zbQ _)
   have hbl:blkG (wid o.op) c a.free=blkG (wid o.op) c b.free:=zey fun t h1 h2=>by
    simp only [St.free,hag.m t (.inl ((zbM (wid o.op) c t).2 ⟨h1,h2⟩))]
   simp only [hgb j pol hg,hcore,hfr,hbl]
inductive RU
 | ok (us:List (Option Tmp×Upd)) (rs:List (List Key)) (st:St)
 | bad (c:Nat) (o:Op) (st:St)
def runU (P:Program) (C:Cfg) (more:Nat→St→TypeId→Op→Option Upd) (ops:Array Oper):Nat→List Oper→St→RU
 | _,[],st=> .ok [] [] st
 | c,o::r,st=>match zcp P C more ops c o st with
  | some u=>match runU P C more ops (c+wid o.op) r (st.app o.dst u) with
   | .ok us rs st2=> .ok ((o.dst,u)::us) (rds ops c o st::rs) st2
   | .bad c o s=> .bad c o s
  | none=> .bad c o.op st
theorem zfV {P:Program} {C:Cfg} {more:Nat→St→TypeId→Op→Option Upd} {ops:Array Oper}:∀ (l:List Oper) (c:Nat) (st st2:St) (us:List (Option Tmp×Upd)) (rs:List (List Key)),runU P C more ops c l st = .ok us rs st2 →
  us.length=l.length∧rs.length=l.length∧st2=apl (fun _=>true) 0 us st∧∀ i o,l[i]? = some o→∃ u,us[i]? = some (o.dst,u)∧rs[i]? = some (rds ops (c+widS (l.take i)) o (apl (fun n=>decide (n<i)) 0 us st))∧zcp P C more ops (c+widS (l.take i)) o (apl (fun n=>decide (n<i)) 0 us st)=some u
 | [],c,st,st2,us,rs,h=>by
  simp only [runU,RU.ok.injEq] at h
  obtain ⟨rfl,rfl,rfl⟩:=h
  exact ⟨rfl,rfl,rfl,fun i o h=>by simp at h⟩
 | o::l,c,st,st2,us,rs,h=>by
  simp only [runU] at h
  split at h
  case h_2=>simp at h
  rename_i u hu
  split at h
  case h_2=>simp at h
  rename_i us2 rs2 st3 h2
  simp only [RU.ok.injEq] at h
  obtain ⟨rfl,rfl,rfl⟩:=h
  obtain ⟨h3,h4,h5,h6⟩:=zfV l (c+wid o.op) _ _ _ _ h2
  have shiftD:∀ (l:List (Option Tmp×Upd)) (n:Nat) (D D':Nat→Bool) (s:St),(∀ i,D (n+1+i)=D' (n+i))→apl D (n+1) l s=apl D' n l s:=by
   intro l
   induction l with
   | nil=>intro _ _ _ _ _;rfl
   | cons x l ih=>
    intro n D D' s hD
    obtain ⟨d,v⟩:=x
    rw [apl,apl]
    have h0:=hD 0
    rw [Nat.add_zero,Nat.add_zero] at h0
    rw [h0]
    exact ih (n+1) D D' _ (fun i=>by have:=hD (i+1);rwa [show n+1+(i+1)=n+1+1+i by omega,show n+(i+1)=n+1+i by omega] at this)
  refine ⟨by simp [h3],by simp [h4],?_,fun i o' ho=>?_⟩
  ·rw [h5,apl,if_pos rfl]
   exact (shiftD us2 0 _ _ _ (fun _=>rfl)).symm
  ·cases i with
   | zero=>
    simp only [List.getElem?_cons_zero,Option.some.injEq] at ho
    subst ho
    have e:apl (fun n=>decide (n<0)) 0 ((o.dst,u)::us2) st=st:=zd8 _ _ _ _ (fun j _=>by simp)
    refine ⟨u,rfl,?_,?_⟩
    ·rw [e];rfl
    ·rw [e];exact hu
   | succ i=>
    obtain ⟨u2,h7,h8,h9⟩:=h6 i o' (by simpa using ho)
    have e:apl (fun n=>decide (n<i+1)) 0 ((o.dst,u)::us2) st=apl (fun n=>decide (n<i)) 0 us2 (st.app o.dst u):=by
     rw [apl,if_pos (by simp)]
     exact shiftD us2 0 _ _ _ (fun j=>by simp only [Nat.zero_add,decide_eq_decide];omega)
    refine ⟨u2,by simpa using h7,?_,?_⟩
    ·rw [e,List.take_succ_cons,show c+widS (o::l.take i)=c+wid o.op+widS (l.take i) by rw [widS];omega];simpa using h8
    ·rw [e,List.take_succ_cons,show c+widS (o::l.take i)=c+wid o.op+widS (l.take i) by rw [widS];omega];exact h9
def ziN (ua:Option Tmp×Upd) (ra:List Key) (ub:Option Tmp×Upd) (rb:List Key):Bool:=
 Key.apart (wrs ua.1 ua.2) (wrs ub.1 ub.2)&&Key.apart (wrs ua.1 ua.2) rb&&Key.apart (wrs ub.1 ub.2) ra
def zcG (an:Nat) (ub:Option Tmp×Upd) (rb:List Key):Nat→List (Option Tmp×Upd)→List (List Key)→Bool
 | i,ua::us,ra::rs=>(an.testBit i||ziN ua ra ub rb)&&zcG an ub rb (i+1) us rs
 | _,_,_=>true
def zcH (us:List (Option Tmp×Upd)) (rs:List (List Key)) (an:List Nat):Nat→List (Option Tmp×Upd)→List (List Key)→Bool
 | j,ub::usb,rb::rsb=>zcG (an.getD j 0) ub rb 0 (us.take j) (rs.take j)&&zcH us rs an (j+1) usb rsb
 | _,_,_=>true
theorem zcw {an:Nat} {ub:Option Tmp×Upd} {rb:List Key}:∀ (k:Nat) (us:List (Option Tmp×Upd)) (rs:List (List Key)),zcG an ub rb k us rs=true→∀ i ua ra,us[i]? = some ua→rs[i]? = some ra→an.testBit (k+i)=true∨ziN ua ra ub rb=true
 | k,u::us,r::rs,h,i,ua,ra,hu,hr=>by
  simp only [zcG,Bool.and_eq_true,Bool.or_eq_true] at h
  cases i with
  | zero=>simp only [List.getElem?_cons_zero,Option.some.injEq] at hu hr;subst hu;subst hr;exact h.1
  | succ i=>have:=zcw (k+1) us rs h.2 i ua ra (by simpa using hu) (by simpa using hr);rwa [show k+(i+1)=k+1+i by omega]
 | _,[],_,_,i,_,_,hu,_=>by simp at hu
 | _,_::_,[],_,i,_,_,_,hr=>by simp at hr
theorem zcx {us:List (Option Tmp×Upd)} {rs:List (List Key)} {an:List Nat}:∀ (k:Nat) (usb:List (Option Tmp×Upd)) (rsb:List (List Key)),zcH us rs an k usb rsb=true→∀ j ub rb,usb[j]? = some ub→rsb[j]? = some rb→zcG (an.getD (k+j) 0) ub rb 0 (us.take (k+j)) (rs.take (k+j))=true
 | k,u::usb,r::rsb,h,j,ub,rb,hu,hr=>by
  simp only [zcH,Bool.and_eq_true] at h
  cases j with
  | zero=>simp only [List.getElem?_cons_zero,Option.some.injEq] at hu hr;subst hu;subst hr;exact h.1
  | succ j=>have:=zcx (k+1) usb rsb h.2 j ub rb (by simpa using hu) (by simpa using hr);rwa [show k+(j+1)=k+1+j by omega]
 | _,[],_,_,j,_,_,hu,_=>by simp at hu
 | _,_::_,[],_,j,_,_,_,hr=>by simp at hr
def fwd:Nat→List Oper→Bool
 | _,[]=>true
 | i,o::r=>o.after.toList.all (fun e=>Nat.blt e.on i||!Region.binds .any e)&&fwd (i+1) r
theorem ziP:∀ (k:Nat) (l:List Oper),fwd k l=true→∀ i o,l[i]? = some o→∀ e∈o.after.toList,Region.binds .any e=true→e.on<k+i
 | k,o::r,h,i,o',ho,e,he,hb=>by
  simp only [fwd,Bool.and_eq_true] at h
  cases i with
  | zero=>
   simp only [List.getElem?_cons_zero,Option.some.injEq] at ho
   subst ho
   have:=List.all_eq_true.1 h.1 e he
   simp only [Bool.or_eq_true,hb,Bool.not_true,Bool.false_eq_true,or_false] at this
   have:=this
   simp [Nat.blt] at this
   omega
  | succ i=>have:=ziP (k+1) r h.2 i o' (by simpa using ho) e he hb;omega
 | _,[],_,i,o',ho,_,_,_=>by simp at ho
section
variable {P : Program} {base : Nat} {X : Cx} {w0 : World} {st : St}
theorem draws {C:Cfg} (hC:zdv P C) (hCl:zdt C) {more:Nat→St→TypeId→Op→Option Upd} (hM:zct P more) (hMl:zca more) {ops:Array Oper} {Q:Exit→Act→World→Prop} {c:Nat} {us:List (Option Tmp×Upd)} {rs:List (List Key)} {st2:St}
  (hr:runU P C more ops c ops.toList st = .ok us rs st2) (hf:fwd 0 ops.toList=true) (hi:zcH us rs (ancs ops.toList []) 0 us rs=true) (hn:∀ x,x∈us→∀ p,p∈x.2.needs→p)
  (hQ:∀ E a w,st2.Ok base X w0 E a w→Q .normal a w):∀ (fuel:Nat) (listed:Array Bool),listed.size=ops.size→(listed.toList.filter (!·)).length=fuel→zjP ops.toList (fun i=>listed.getD i false) →
  ∀ E a w,(apl (fun i=>listed.getD i false) 0 us st).Ok base X w0 E a w→wpAny P .any ops Q fuel listed a w:=by
 obtain ⟨hul,hrl,hst2,hat⟩:=zfV ops.toList c st st2 us rs hr
 have hsz:ops.toList.length=ops.size:=Array.length_toList
 -- two operations that hang together are ordered
 have hdep:∀ (D:Nat→Bool),zjP ops.toList D→∀ i j ui ri uj rj,us[i]? = some ui→rs[i]? = some ri→us[j]? = some uj→rs[j]? = some rj→i<j→D j=true→D i=false→ziN ui ri uj rj=true:=by
  intro D hD i j ui ri uj rj h1 h2 h3 h4 hij hj hi'
  have:=zcx 0 us rs hi j uj rj h3 h4
  rw [Nat.zero_add] at this
  rcases zcw 0 _ _ this i ui ri (by rw [List.getElem?_take,if_pos hij];exact h1) (by rw [List.getElem?_take,if_pos hij];exact h2) with h5 | h5
  ·rw [Nat.zero_add] at h5
   have:=zgq ops.toList [] (fun i o ho hd=>hD i o ho (by simpa using hd)) (fun j i hb _=>by simp at hb) j i h5 hj
   rw [hi'] at this;cases this
  ·exact h5
 intro fuel
 induction fuel with
 | zero=>
  intro listed hls hfl hcl E a w h
  have hall:∀ i,i<ops.size→listed.getD i false=true:=by
   intro i hi
   have hz:listed.toList.filter (!·)=[]:=List.eq_nil_of_length_eq_zero hfl
   have hm:listed[i]'(by omega)∈listed.toList:=by simp
   have:=List.filter_eq_nil_iff.1 hz _ hm
   rw [Array.getD_eq_getD_getElem?,Array.getElem?_eq_getElem (by omega)]
   simpa using this
  refine ⟨?_,?_⟩
  ·unfold Region.ready
   refine List.filter_eq_nil_iff.2 fun i hi=>?_
   have hi':=List.mem_range.1 hi
   have:=hall i hi'
   have e:listed.getD i true=true:=by
    rw [Array.getD_eq_getD_getElem?,Array.getElem?_eq_getElem (by omega)] at this ⊢
    simpa using this
   simp [e]
  ·refine hQ E a w ?_
   rw [hst2]
   rw [zjM 0 us st (fun i=>listed.getD i false) (fun j hj=>by rw [Nat.zero_add];exact hall j (by omega))] at h
   exact h
 | succ fuel ih=>
  intro listed hls hfl hcl E a w h
  refine ⟨fun hnil=>?_,fun j hj=>?_⟩
  ·-- the least one that is not listed is ready
   exfalso
   have hex:∃ i,i<ops.size∧listed.getD i false=false:=by
    have hne:listed.toList.filter (!·)≠[]:=by intro e;rw [e] at hfl;simp at hfl
    obtain ⟨b,hb⟩:=List.exists_mem_of_ne_nil _ hne
    obtain ⟨h1,h2⟩:=List.mem_filter.1 hb
    obtain ⟨i,hi,e⟩:=List.mem_iff_getElem.1 h1
    have hi2:i<listed.size:=by simpa using hi
    refine ⟨i,by omega,?_⟩
    rw [Array.getD_eq_getD_getElem?,Array.getElem?_eq_getElem hi2]
    simp at h2 e ⊢
    rw [e];exact h2
   have key:∀ n i,i≤n→i<ops.size→listed.getD i false=false→False:=by
    intro n
    induction n with
    | zero=>
     intro i hin hi hl
     have hi0:i=0:=by omega
     subst hi0
     have hmem:0∈Region.ready .any ops listed:=by
      unfold Region.ready
      refine List.mem_filter.2 ⟨List.mem_range.2 hi,?_⟩
      have e1:listed.getD 0 true=false:=by
       rw [Array.getD_eq_getD_getElem?,Array.getElem?_eq_getElem (by omega)] at hl ⊢;simpa using hl
      rw [e1,Array.getElem?_eq_getElem hi]
      simp only [Bool.not_false,Option.map_some,Option.getD_some,Bool.true_and]
      rw [← Array.all_toList]
      refine List.all_eq_true.2 fun e he=>?_
      cases hb:Region.binds .any e
      ·rfl
      ·have:=ziP 0 ops.toList hf 0 ops[0] (by rw [Array.getElem?_toList,Array.getElem?_eq_getElem hi]) e he hb;omega
     rw [hnil] at hmem;cases hmem
    | succ n ihn=>
     intro i hin hi hl
     have hmem:i∈Region.ready .any ops listed:=by
      unfold Region.ready
      refine List.mem_filter.2 ⟨List.mem_range.2 hi,?_⟩
      have e1:listed.getD i true=false:=by
       rw [Array.getD_eq_getD_getElem?,Array.getElem?_eq_getElem (by omega)] at hl ⊢;simpa using hl
      rw [e1,Array.getElem?_eq_getElem hi]
      simp only [Bool.not_false,Option.map_some,Option.getD_some,Bool.true_and]
      rw [← Array.all_toList]
      refine List.all_eq_true.2 fun e he=>?_
      cases hb:Region.binds .any e
      ·rfl
      ·have hlt:=ziP 0 ops.toList hf i ops[i] (by rw [Array.getElem?_toList,Array.getElem?_eq_getElem hi]) e he hb
       cases hd:listed.getD e.on false
       ·exact (ihn e.on (by omega) (by omega) hd).elim
       ·rfl
     rw [hnil] at hmem;cases hmem
   obtain ⟨i,hi,hl⟩:=hex
   exact key i i (Nat.le_refl _) hi hl
  ·unfold Region.ready at hj
   obtain ⟨hj1,hj2⟩:=List.mem_filter.1 hj
   have hjs:=List.mem_range.1 hj1
   obtain ⟨hj3,hj4⟩:=Bool.and_eq_true _ _▸hj2
   have hjl:listed.getD j false=false:=by
    rw [Array.getD_eq_getD_getElem?,Array.getElem?_eq_getElem (by omega)] at hj3 ⊢
    simpa using hj3
   have hoj:ops.toList[j]? = some ops[j]:=by rw [Array.getElem?_toList,Array.getElem?_eq_getElem hjs]
   have hpre:∀ e∈ops[j].after.toList,Region.binds .any e=true→listed.getD e.on false=true:=by
    rw [Array.getElem?_eq_getElem hjs] at hj4
    simp only [Option.map_some,Option.getD_some] at hj4
    rw [← Array.all_toList] at hj4
    intro e he hb
    have:=List.all_eq_true.1 hj4 e he
    rw [hb] at this
    simpa using this
   obtain ⟨u,hu1,hu2,hu3⟩:=hat j ops[j] hoj
   let D:=fun i=>listed.getD i false
   -- a writer of a key that j looks at or writes
   have hrd:∀ i ui ri,us[i]? = some ui→rs[i]? = some ri→i≠j→∀ k,k∈wrs ui.1 ui.2→(k∈rds ops (c+widS (ops.toList.take j)) ops[j] (apl (fun n=>decide (n<j)) 0 us st)∨k∈wrs ops[j].dst u)→D i=decide (i<j):=by
    intro i ui ri h1 h2 hne k hk hor
    by_cases hij:i<j
    ·rw [decide_eq_true hij]
     cases hd:D i
     ·-- then i stands ahead of j: closed with j
      exfalso
      have hind:=zcx 0 us rs hi j _ _ hu1 hu2
      rw [Nat.zero_add] at hind
      rcases zcw 0 _ _ hind i ui ri (by rw [List.getElem?_take,if_pos hij];exact h1) (by rw [List.getElem?_take,if_pos hij];exact h2) with h5 | h5
      ·rw [Nat.zero_add] at h5
       have hcl2:zjP ops.toList (fun n=>decide (n=j)||D n):=by
        intro n o ho hd' e he hb
        simp only [Bool.or_eq_true,decide_eq_true_eq] at hd' ⊢
        rcases hd' with rfl | hd'
        ·rw [hoj] at ho;cases ho;exact .inr (hpre e he hb)
        ·exact .inr (hcl n o ho hd' e he hb)
       have:=zgq (D:=fun n=>decide (n=j)||D n) ops.toList [] (fun i o ho hd=>hcl2 i o ho (by simpa using hd)) (fun j i hb _=>by simp at hb) j i h5 (by simp)
       simp only [Bool.or_eq_true,decide_eq_true_eq] at this
       rcases this with h6 | h6
       ·exact hne h6
       ·rw [hd] at h6;cases h6
      ·simp only [ziN,Bool.and_eq_true] at h5
       rcases hor with h6 | h6
       ·exact Key.apart_ok h5.1.2 hk h6
       ·exact Key.apart_ok h5.1.1 hk h6
     ·rfl
    ·rw [decide_eq_false hij]
     cases hd:D i
     ·rfl
     ·exfalso
      have h5:=hdep D hcl j i _ _ ui ri hu1 hu2 h1 h2 (by omega) hd hjl
      simp only [ziN,Bool.and_eq_true] at h5
      rcases hor with h6 | h6
      ·exact Key.apart_ok h5.2 hk h6
      ·exact Key.apart_ok h5.1.1 h6 hk
   have hrsAt:∀ (i:Nat) (ui:Option Tmp×Upd),us[i]? = some ui→∃ ri,rs[i]? = some ri:=by
    intro i ui h1
    have:=(List.getElem?_eq_some_iff.1 h1).1
    exact ⟨rs[i]'(by omega),List.getElem?_eq_getElem _⟩
   have hlikeD:=(zcR D 0 us st)
   have hlikeJ:=(zcR (fun n=>decide (n<j)) 0 us st)
   -- what the operation does here is what it does in the text's order
   have hstep:zcp P C more ops (c+widS (ops.toList.take j)) ops[j] (apl D 0 us st)=some u:=by
    rw [← hu3]
    refine (zff hCl hMl (hlikeJ.trans hlikeD.symm) (fun k hk=>?_)).symm
    refine zeb 0 us st st ⟨rfl,rfl⟩ rfl (fun n hw=>?_)
    obtain ⟨d,v,h1,h2⟩:=hw
    obtain ⟨rn,h3⟩:=hrsAt n _ h1
    rw [Nat.zero_add]
    by_cases hne:n=j
    ·subst hne
     show decide (n<n)=D n
     rw [show D n=false from hjl];simp
    ·exact (hrd n (d,v) rn h1 h3 hne k h2 (.inl hk)).symm
   have hlisted:∀ i,(listed.setIfInBounds j true).getD i false=(decide (i=j)||D i):=by
    intro i
    simp only [Array.getD_eq_getD_getElem?,Array.getElem?_setIfInBounds,D]
    by_cases e:j=i
    ·subst e;simp [hls,hjs]
    ·have:¬ i=j:=fun e2=>e e2.symm
     simp [e,this]
   unfold wpOp
   rw [Array.getElem?_eq_getElem hjs]
   simp only []
   have hres:=zdD hC hM hstep (Q:=Q) (K:=wpAny P .any ops Q fuel (listed.setIfInBounds j true)) h (fun p hp=>hn _ (List.mem_of_getElem? hu1) p hp) (fun E' a' w' h'=>?_)
   ·split
    ·rename_i hw;rw [if_pos hw] at hres;exact .inl hres
    ·rename_i hw;rw [if_neg hw] at hres;exact hres
   ·refine ih _ (by simpa using hls) ?_ ?_ E' a' w' ?_
    ·have e1:listed.toList=listed.toList.take j++false::listed.toList.drop (j+1):=by
      have hjl2:listed[j]'(by omega)=false:=by
       rw [Array.getD_eq_getD_getElem?,Array.getElem?_eq_getElem (by omega)] at hjl;simpa using hjl
      rw [← hjl2,← Array.getElem_toList (by rw [Array.length_toList];omega),← List.drop_eq_getElem_cons,List.take_append_drop]
     have e2:(listed.setIfInBounds j true).toList=listed.toList.take j++true::listed.toList.drop (j+1):=by
      rw [Array.toList_setIfInBounds,List.set_eq_take_append_cons_drop,if_pos (by rw [Array.length_toList];omega)]
     rw [e1] at hfl
     rw [e2]
     simp only [List.filter_append,List.length_append,List.filter_cons,Bool.not_false,Bool.not_true,if_true,Bool.false_eq_true,if_false,List.length_cons] at hfl ⊢
     omega
    ·intro n o ho hd e he hb
     have hd:(listed.setIfInBounds j true).getD n false=true:=hd
     show (listed.setIfInBounds j true).getD e.on false=true
     rw [hlisted] at hd ⊢
     simp only [Bool.or_eq_true,decide_eq_true_eq] at hd ⊢
     rcases hd with rfl | hd
     ·rw [hoj] at ho;cases ho;exact .inr (hpre e he hb)
     ·exact .inr (hcl n o ho hd e he hb)
    ·have e3:(fun i=>(listed.setIfInBounds j true).getD i false)=(fun i=>decide (i=j)||D i):=funext hlisted
     rw [e3]
     refine St.Ok.congr ?_ (fun k=>?_) h'
     ·exact ((St.app_like _ _ _).trans hlikeD).trans (zcR _ 0 us st).symm
     ·by_cases hk:k∈wrs ops[j].dst u
      ·have hu1':us[j]? = some (ops[j].dst,u):=hu1
       refine (zhe 0 us st _ j _ u hu1' hk (by simp) (fun n hjn hw=>?_) hlikeD.symm).symm
       obtain ⟨d,v,h1,h2⟩:=hw
       obtain ⟨rn,h3⟩:=hrsAt n _ h1
       have:=hrd n (d,v) rn h1 h3 (by omega) k h2 (.inr hk)
       rw [Nat.zero_add]
       simp only [this]
       have hx:¬ n=j:=by omega
       have hy:¬ n<j:=by omega
       simp [hx,hy]
      ·rw [St.app_ne hk]
       refine zeb 0 us st st ⟨rfl,rfl⟩ rfl (fun n hw=>?_)
       obtain ⟨d,v,h1,h2⟩:=hw
       rw [Nat.zero_add]
       by_cases hne:n=j
       ·subst hne
        rw [hu1] at h1
        simp only [Option.some.injEq,Prod.mk.injEq] at h1
        obtain ⟨rfl,rfl⟩:=h1
        exact absurd h2 hk
       ·simp [hne]
end
end Go.Proofs.Ytfccndnnpkiajaa
namespace Go.Proofs.Ytfccndnnpkiajaa
open Go.RowKit Go.ChangeShapes Go.WideShapes Go.Deep
theorem Rd.flat_ty {w w2:World} {S S2:Nat→Prop} {t t0:Ty} {v:Value} {d d0:D} (hf:t0.flat=true) (h0:Rd w S t0 v d0) (h:Rd w2 S2 t v d):t=t0:=by
 cases h0 with
 | int _=>cases h;rfl
 | bool=>cases h;rfl
 | str _=>cases h;rfl
 | emp _ _=>simp [Ty.flat] at hf
 | row _ _ _ _ _ _ _ _ _ _ _ _=>simp [Ty.flat] at hf
theorem Rd.anyW {w w':World} {S T:Nat→Prop} {t:Ty} {v:Value} {d:D} (hf:t.flat=true) (h:Rd w S t v d):Rd w' T t v d:=by
 cases h with
 | int h=>exact .int h
 | bool=>exact .bool
 | str h=>exact .str h
 | emp _ _=>simp [Ty.flat] at hf
 | row _ _ _ _ _ _ _ _ _ _ _ _=>simp [Ty.flat] at hf
theorem Rd.flat_sx {w w2:World} {S S2:Nat→Prop} {t:Ty} {v u:Value} {d e:D} (hf:t.flat=true) (h:Rd w S t v d) (k:Rd w2 S2 t u e):D.Sx d e:=by
 cases h with
 | int h=>cases k;exact .int _ _
 | bool=>cases k;exact .bool _ _
 | str h=>cases k;exact .str _ _
 | emp _ _=>simp [Ty.flat] at hf
 | row _ _ _ _ _ _ _ _ _ _ _ _=>simp [Ty.flat] at hf
section poke
variable {w : World} {p : Addr} {v0 u : Value} {t0 : Ty} {d0 d1 : D} {S0 : Nat → Prop} (hf : t0.flat = true) (h0 : Rd w S0 t0 v0 d0) (h1 : Rd w S0 t0 u d1) (hc : w.cell? p = some v0)
include hf h0 h1 hc
theorem Rd.poke {S:Nat→Prop} {t:Ty} {v:Value} {d:D} (h:Rd w S t v d):∃ d',Rd (w.setCell p u) S t v d'∧D.Sx d d':=by
 induction h with
 | int h=>exact ⟨_,.int h,.int _ _⟩
 | bool=>exact ⟨_,.bool,.bool _ _⟩
 | str h=>exact ⟨_,.str h,.str _ _⟩
 | emp h h'=>exact ⟨.sl [],.emp h h',.sl rfl (fun i hi=>absurd hi (by simp)) (fun i j hi=>absurd hi (by simp))⟩
 | row vals g1 g2 g3 g4 g5 g6 g7 g8 g9 g10 g11 ih=>
  rename_i fs b off n c rows
  have key:∀ i j,i<n→j<fs.length→∃ e,Rd (w.setCell p u) S (fs.getD j default) (if (⟨b,off+i*fs.length+j,none⟩:Addr)=p then u else vals i j) e∧D.Sx ((rows.getD i []).getD j default) e:=by
   intro i j hi hj
   by_cases hp:(⟨b,off+i*fs.length+j,none⟩:Addr)=p
   ·rw [if_pos hp]
    have hv:vals i j=v0:=by
     have:=g8 i j hi hj
     rw [hp,hc] at this
     exact (Option.some.inj this).symm
    have hr:=g10 i j hi hj
    rw [hv] at hr
    have ht:=Rd.flat_ty hf h0 hr
    rw [ht]
    rw [ht] at hr
    exact ⟨d1,Rd.anyW hf h1,Rd.flat_sx hf hr h1⟩
   ·rw [if_neg hp]
    exact ih i j hi hj
  obtain ⟨q,hq,hqr⟩:=zbT ([]:List D) n (p:=fun i (row:List D)=>row.length=fs.length∧∀ j,j<fs.length→Rd (w.setCell p u) S (fs.getD j default) (if (⟨b,off+i*fs.length+j,none⟩:Addr)=p then u else vals i j) (row.getD j default)∧D.Sx ((rows.getD i []).getD j default) (row.getD j default)) (fun i hi=>by
   obtain ⟨m,hm,hmr⟩:=zbT (default:D) fs.length (p:=fun j e=>Rd (w.setCell p u) S (fs.getD j default) (if (⟨b,off+i*fs.length+j,none⟩:Addr)=p then u else vals i j) e∧D.Sx ((rows.getD i []).getD j default) e) (fun j hj=>key i j hi hj)
   exact ⟨m,hm,hmr⟩)
  refine ⟨.sl q,.row (fun i j=>if (⟨b,off+i*fs.length+j,none⟩:Addr)=p then u else vals i j) g1 hq.symm g3 g4 g5 g6 (by simp [World.setCell];exact g7) (fun i j hi hj=>?_) (fun i hi=>(hqr i hi).1) (fun i j hi hj=>((hqr i hi).2 j hj).1) (fun i j hi hj=>by rw [World.frozen?_setCell];exact g11 i j hi hj),.sl (by omega) (fun i hi=>?_) (fun i j hi hj=>?_)⟩
  ·by_cases hp:(⟨b,off+i*fs.length+j,none⟩:Addr)=p
   ·simp only [if_pos hp]
    rw [hp]
    exact World.cell?_setCell_same _ _ _ hc
   ·simp only [if_neg hp]
    rw [World.cell?_setCell_other _ _ _ _ (fun e=>hp e.symm)]
    exact g8 i j hi hj
  ·rw [(hqr i (by omega)).1,g9 i (by omega)]
  ·rw [g9 i (by omega)] at hj
   exact ((hqr i (by omega)).2 j hj).2
theorem RdL.poke {S:Nat→Prop}:∀ {fs:List Ty} {vs:List Value} {ds:List D},RdL w S fs vs ds→∃ es,RdL (w.setCell p u) S fs vs es∧LSh ds es
 | [],[],[],_=>⟨[],trivial,rfl,fun j hj=>absurd hj (by simp)⟩
 | t::ts,v::vs,d::ds,h=>by
  obtain ⟨es,k1,k2,k3⟩:=RdL.poke h.2
  obtain ⟨e,k4,k5⟩:∃ e,Rd (w.setCell p u) S t v e∧D.Sh d e:=by
   cases h.1 with
   | int g=>exact ⟨_,.int g,.int _ _,fun _=>rfl⟩
   | bool=>exact ⟨_,.bool,.bool _ _,fun _=>rfl⟩
   | str g=>exact ⟨_,.str g,.str _ _,fun _=>rfl⟩
   | emp g1 g2=>
    obtain ⟨e,q1,q2⟩:=Rd.poke hf h0 h1 hc (.emp g1 g2:Rd w S _ _ _)
    exact ⟨e,q1,q2,fun hn=>absurd rfl (hn _)⟩
   | row vals g1 g2 g3 g4 g5 g6 g7 g8 g9 g10 g11=>
    obtain ⟨e,q1,q2⟩:=Rd.poke hf h0 h1 hc (.row vals g1 g2 g3 g4 g5 g6 g7 g8 g9 g10 g11:Rd w S _ _ _)
    exact ⟨e,q1,q2,fun hn=>absurd rfl (hn _)⟩
  refine ⟨e::es,⟨k4,k1⟩,by simp [k2],fun j hj=>?_⟩
  cases j with
  | zero=>simpa using k5
  | succ j=>simpa using k3 j (by simpa using hj)
 | _::_,[],_,h=>h.elim
 | _::_,_::_,[],h=>h.elim
 | [],_::_,_,h=>h.elim
 | [],[],_::_,h=>h.elim
theorem OwnR.poke {T:TypeId} {S:Nat→Prop} {fs:List Ty} {v:Value} {rows:List (List D)} (h:OwnR 0 w T S fs v rows) (hb:v.ownBlock≠some p.block):∃ q,OwnR 0 (w.setCell p u) T S fs v q∧q.length=rows.length∧∀ i,i<rows.length→LSh (rows.getD i []) (q.getD i []):=by
 obtain ⟨cells,ho,hr⟩:=h
 obtain ⟨q,hq,hqr⟩:=zbT ([]:List D) rows.length (p:=fun i es=>RdL (w.setCell p u) (fun b=>S b∧v.ownBlock≠some b) fs ((cells.drop (i*fs.length)).take fs.length) es∧LSh (rows.getD i []) es) (fun i hi=>RdL.poke hf h0 h1 hc (hr i hi))
 refine ⟨q,⟨cells,?_,fun i hi=>(hqr i (by omega)).1⟩,hq,fun i hi=>(hqr i hi).2⟩
 rw [hq]
 exact Same.ownsRow ho (S:=fun b=>b≠p.block) ⟨by simp [World.setCell],fun b hb' _=>Below.heap_setCell _ _ _ _ hb'⟩ (fun g hg e=>hb (by rw [hg,e]))
end poke
def hitL (ls ms:List Nat):Bool:=ms.any fun i=>ls.contains i
mutual
def SV.cl (ls:List Nat):SV→Bool
 | .sl ms _=>!hitL ls ms
 | .el ms _ _ _=>!hitL ls ms
 | .agg vs=>SV.clL ls vs
 | .tup vs=>SV.clL ls vs
 | .clo _ vs=>SV.clL ls vs
 | .rp ms _ vs _=>!hitL ls ms&&SV.clL ls vs
 | .ro ms _=>!hitL ls ms
 | .gd _ s=>SV.cl ls s
 | _=>true
def SV.clL (ls:List Nat):List SV→Bool
 | []=>true
 | s::ss=>SV.cl ls s&&SV.clL ls ss
end
def Env.cut (E:Env) (ls:List Nat):Env:=⟨E.β,fun i b=>E.σ i b∧i∉ls,E.φ⟩
theorem Env.cut_le (E:Env) (ls:List Nat):(E.cut ls).Le E:=⟨fun _ _ h=>h,fun _ _ h=>h.1⟩
theorem zch {E:Env} {ls ms:List Nat} (h:hitL ls ms=false) {b:Nat} (hb:E.set ms b):(E.cut ls).set ms b:=by
 obtain ⟨i,hi,hs⟩:=hb
 refine ⟨i,hi,hs,fun hl=>?_⟩
 have:hitL ls ms=true:=List.any_eq_true.2 ⟨i,hi,by simpa using hl⟩
 rw [h] at this;cases this
mutual
theorem DenV.cut {E:Env} {w:World} {ls:List Nat}:∀ (s:SV) (v:Value),SV.cl ls s=true→DenV E w s v→DenV (E.cut ls) w s v
 | .any,_,_,_=>trivial
 | .int _ _,_,_,h=>h
 | .bool _,_,_,h=>h
 | .str _,_,_,h=>h
 | .nil,_,_,h=>h
 | .np,_,_,h=>h
 | .sl ms r,v,hc,h=>by
  simp only [SV.cl,Bool.not_eq_true'] at hc
  exact Rd.mono h (fun b _ hb=>zch hc hb)
 | .own t,v,_,h=>h
 | .ptr t off,v,_,h=>h
 | .mp t,v,_,h=>h
 | .el ms r i off,v,hc,h=>by
  simp only [SV.cl,Bool.not_eq_true'] at hc
  obtain ⟨h0,b,o,c,h1,h2⟩:=h
  exact ⟨h0,b,o,c,h1,Rd.mono h2 (fun b _ hb=>zch hc hb)⟩
 | .oel t sz i off,v,_,h=>h
 | .agg vs,v,hc,h=>by obtain ⟨xs,h1,h2⟩:=h;exact ⟨xs,h1,DenL.cut vs xs hc h2⟩
 | .tup vs,v,hc,h=>by obtain ⟨xs,h1,h2⟩:=h;exact ⟨xs,h1,DenL.cut vs xs hc h2⟩
 | .fn _,_,_,h=>h
 | .clo f cs,v,hc,h=>by obtain ⟨xs,h1,h2⟩:=h;exact ⟨xs,h1,DenL.cut cs xs hc h2⟩
 | .rp ms T cs off,v,hc,h=>by
  simp only [SV.cl,Bool.and_eq_true,Bool.not_eq_true'] at hc
  obtain ⟨b,xs,h1,h2,h3,h4⟩:=h
  exact ⟨b,xs,h1,zch hc.1 h2,h3,DenL.cut cs xs hc.2 h4⟩
 | .gd b s,v,hc,h=>⟨fun hb=>DenV.cut s v hc (h.1 hb),h.2⟩
 | .ub _ _,_,_,h=>h
 | .ro ms o,v,hc,h=>by
  simp only [SV.cl,Bool.not_eq_true'] at hc
  obtain ⟨b,F,h1,h2,h3⟩:=h
  exact ⟨b,F,h1,h2,fun x hx=>zch hc (h3 x hx)⟩
theorem DenL.cut {E:Env} {w:World} {ls:List Nat}:∀ (ss:List SV) (vs:List Value),SV.clL ls ss=true→DenL E w ss vs→DenL (E.cut ls) w ss vs
 | [],[],_,_=>trivial
 | s::ss,x::xs,hc,h=>by
  simp only [SV.clL,Bool.and_eq_true] at hc
  exact ⟨DenV.cut s x hc.1 h.1,DenL.cut ss xs hc.2 h.2⟩
 | [],_::_,_,h=>h.elim
 | _::_,[],_,h=>h.elim
end
def hvE (ls:List Nat):BE→BE
 | .cells T vs=>bif SV.clL ls vs then .cells T vs else .dead
 | e=>e
def hvS (ls:List Nat) (s:SV):SV:=bif SV.cl ls s then s else .any
def hvTm (ls:List Nat):List (Nat×SV)→List (Nat×SV)
 | []=>[]
 | (i,s)::r=>(i,hvS ls s)::hvTm ls r
theorem zdS (ls:List Nat):∀ (l:List (Nat×SV)) (i:Nat),zam .any (hvTm ls l) i=hvS ls (zam .any l i)
 | [],i=>by simp [hvTm,zam,hvS,SV.cl]
 | (k,s)::r,i=>by
  simp only [hvTm,zaz,zdS ls r i]
  split<;>rfl
def dedK:List Nat→List Nat→List Nat
 | _,[]=>[]
 | seen,a::r=>bif seen.contains a then dedK seen r else a::dedK (a::seen) r
theorem zd3:∀ (l seen:List Nat) (a:Nat),a∈dedK seen l↔a∈l∧a∉seen
 | [],seen,a=>by simp [dedK]
 | b::r,seen,a=>by
  simp only [dedK]
  cases hb:seen.contains b
  ·simp only [cond_false,List.mem_cons,zd3 r (b::seen) a]
   have hb:b∉seen:=by simpa using hb
   constructor
   ·rintro (rfl | ⟨h1,h2⟩)
    ·exact ⟨.inl rfl,hb⟩
    ·exact ⟨.inr h1,fun h=>h2 (.inr h)⟩
   ·rintro ⟨h1,h2⟩
    by_cases e:a=b
    ·exact .inl e
    ·exact .inr ⟨h1.resolve_left e,fun h=>h.elim e h2⟩
  ·simp only [cond_true,zd3 r seen a,List.mem_cons]
   have hb:b∈seen:=by simpa using hb
   constructor
   ·rintro ⟨h1,h2⟩;exact ⟨.inr h1,h2⟩
   ·rintro ⟨h1,h2⟩
    refine ⟨h1.resolve_left (fun e=>h2 (e▸hb)),h2⟩
theorem zfy {α:Type} (d:α) (f:Nat→α):∀ (l:List Nat) (t:Nat),zam d (l.map fun t=>(t,f t)) t=if t∈l then f t else d
 | [],t=>by simp [zam]
 | a::r,t=>by
  simp only [List.map_cons,zaz,zfy d f r t,List.mem_cons]
  by_cases h:t=a
  ·subst h;simp
  ·simp [h]
section
variable {base : Nat} {X : Cx} {w0 : World}
theorem MemOk.hav {E:Env} {w:World} {m m':Nat→BE} (h:MemOk base X w0 E m w) {ls:List Nat} {p:Addr} {v0 u:Value} {t0:Ty} {d0 d1:D} {S0:Nat→Prop} (hf:t0.flat=true) (h0:Rd w S0 t0 v0 d0) (h1:Rd w S0 t0 u d1) (hc:w.cell? p=some v0)
  (hp:E.set ls p.block) (hnl:∀ i,i∈ls→X.nl≤i)
  (hm:∀ t,(∃ T ms r q,m t = .row T ms r∧hitL ls ms=true∧m' t = .row T ms q∧∀ v,E.β t=some v→OwnR 0 (w.setCell p u) T (E.set ms) q.tys v q.rows)∨((∀ T ms r,m t = .row T ms r→hitL ls ms=false)∧m' t=hvE ls (m t))) :
  MemOk base X w0 E m' (w.setCell p u):=by
 have hlabp:E.lab p.block:=Env.set_lab hp
 have hsz:(w.setCell p u).heap.size=w.heap.size:=by simp [World.setCell]
 have hblk:∀ b,b≠p.block→(w.setCell p u).heap[b]? = w.heap[b]? := fun b hb=>Below.heap_setCell _ _ _ _ hb
 have hS:Same (E.cut ls).lab w (w.setCell p u):=⟨by omega,fun b hb _=>hblk b (fun e=>by
  subst e
  obtain ⟨i,hi,hn⟩:=hb
  obtain ⟨j,hj,hs⟩:=hp
  have:=h.dis i j _ hi hs
  subst this
  exact hn hj)⟩
 have hhas:∀ t b,Has E m' t b→Has E m t b:=by
  intro t b ⟨g1,v,g2,g3⟩
  rcases hm t with ⟨T,ms,r,q,e1,_,e2,_⟩ | ⟨_,e2⟩
  ·rw [e2] at g3;exact Has.row e1 g2 g3
  ·rw [e2] at g1 g3
   cases hmt:m t with
   | cells T vs=>
    rw [hmt] at g1 g3
    simp only [hvE] at g1 g3
    cases hcl:SV.clL ls vs
    ·rw [hcl] at g1;cases g1
    ·rw [hcl] at g3;exact Has.cells hmt g2 g3
   | row T ms r=>rw [hmt] at g3;exact Has.row hmt g2 g3
   | obj o=>rw [hmt] at g3;exact ⟨by rw [hmt];rfl,v,g2,by rw [hmt];exact g3⟩
   | empty=>rw [hmt] at g1;cases g1
   | dead=>rw [hmt] at g1;cases g1
 have hne:∀ t b,Has E m t b→b≠p.block:=fun t b hb e=>by subst e;exact (h.sep t _ hb).1 hlabp
 refine ⟨fun t ht=>?_,fun t T vs ht=>?_,fun t T ms r ht=>?_,fun i b hb=>by rw [hsz];exact h.lab i b hb,h.dis,fun i hi he=>?_,fun t b hb=>h.sep t b (hhas t b hb),h.old,fun t s b h1 h2=>h.inj t s b (hhas t b h1) (hhas s b h2),h.keep,?_,by rw [hsz];exact h.base,fun t o ht=>?_⟩
 ·rcases hm t with ⟨T,ms,r,q,e1,_,e2,_⟩ | ⟨_,e2⟩
  ·rw [e2] at ht;cases ht
  ·refine h.empty t ?_
   rw [e2] at ht
   cases hmt:m t with
   | empty=>rfl
   | cells T vs=>rw [hmt] at ht;simp only [hvE] at ht;cases hcl:SV.clL ls vs<;>rw [hcl] at ht<;>cases ht
   | row T ms r=>rw [hmt] at ht;cases ht
   | obj o=>rw [hmt] at ht;cases ht
   | dead=>rw [hmt] at ht;cases ht
 ·rcases hm t with ⟨T',ms,r,q,e1,_,e2,_⟩ | ⟨_,e2⟩
  ·rw [e2] at ht;cases ht
  ·rw [e2] at ht
   cases hmt:m t with
   | empty=>rw [hmt] at ht;cases ht
   | dead=>rw [hmt] at ht;cases ht
   | row T' ms r=>rw [hmt] at ht;cases ht
   | obj o=>rw [hmt] at ht;cases ht
   | cells T' us=>
    rw [hmt] at ht
    simp only [hvE] at ht
    cases hcl:SV.clL ls us
    ·rw [hcl] at ht;cases ht
    ·rw [hcl] at ht
     cases ht
     obtain ⟨b,xs,k1,k2,k3,k4⟩:=h.cells t _ _ hmt
     refine ⟨b,xs,k1,(hblk b (hne t b (Has.cells hmt k1 rfl))).trans k2,?_,k4⟩
     exact DenL.mono (Env.cut_le E ls) hS _ _ (DenL.cut _ _ hcl k3)
 ·rcases hm t with ⟨T',ms',r',q,e1,_,e2,e3⟩ | ⟨hno,e2⟩
  ·rw [e2] at ht
   cases ht
   obtain ⟨v,k1,_⟩:=h.row t _ _ _ e1
   exact ⟨v,k1,e3 v k1⟩
  ·rw [e2] at ht
   cases hmt:m t with
   | empty=>rw [hmt] at ht;cases ht
   | dead=>rw [hmt] at ht;cases ht
   | cells T' us=>rw [hmt] at ht;simp only [hvE] at ht;cases hcl:SV.clL ls us<;>rw [hcl] at ht<;>cases ht
   | obj o=>rw [hmt] at ht;cases ht
   | row T' ms' r' =>
    rw [hmt] at ht
    cases ht
    obtain ⟨v,k1,k2⟩:=h.row t _ _ _ hmt
    refine ⟨v,k1,?_⟩
    have hh:=hno _ _ _ hmt
    obtain ⟨a,c,ef⟩:=k2.form
    have k3:=k2.mono (Nat.le_refl 0) (fun b hb=>zch hh hb)
    have k4:=k3.same (w':=w.setCell p u) (T:=fun b=>(E.cut ls).lab b∨v.ownBlock=some b) ⟨by omega,fun b hb hlt=>by
     rcases hb with hb | hb
     ·exact hS.block b hb hlt
     ·exact hblk b (hne t b (Has.row hmt k1 (by rw [← zaq ⟨a,_,c,ef⟩];exact hb)))⟩ (fun b hb=> .inl (Env.set_lab hb)) (fun b hb=> .inr hb)
    exact k4.mono (Nat.le_refl 0) (fun b hb=>(Env.cut_le E ls).set hb)
 ·rcases hm i with ⟨T,ms,r,q,e1,_,e2,_⟩ | ⟨_,e2⟩
  ·rw [e2] at he;cases he
  ·refine h.low i hi ?_
   rw [e2] at he
   cases hmt:m i with
   | empty=>rfl
   | cells T vs=>rw [hmt] at he;simp only [hvE] at he;cases hcl:SV.clL ls vs<;>rw [hcl] at he<;>cases he
   | row T ms r=>rw [hmt] at he;cases he
   | obj o=>rw [hmt] at he;cases he
   | dead=>rw [hmt] at he;cases he
 ·refine ⟨h.below.os,h.below.tape,h.below.output,by rw [hsz];exact h.below.size,fun b hb hX=>(hblk b (fun e=>?_)).trans (h.below.block b hb hX)⟩
  obtain ⟨j,hj,hs⟩:=hp
  rcases (h.lab j _ hs).2 (hnl j hj) with h3 | h3
  ·omega
  ·exact hX (e▸h3)
 ·rcases hm t with ⟨T',ms,r,q,e1,_,e2,_⟩ | ⟨_,e2⟩
  ·rw [e2] at ht;cases ht
  ·rw [e2] at ht
   cases hmt:m t with
   | empty=>rw [hmt] at ht;cases ht
   | dead=>rw [hmt] at ht;cases ht
   | row T' ms r=>rw [hmt] at ht;cases ht
   | cells T' us=>rw [hmt] at ht;simp only [hvE] at ht;cases hcl:SV.clL ls us<;>rw [hcl] at ht<;>cases ht
   | obj o' =>
    rw [hmt] at ht
    cases ht
    obtain ⟨b,k1,k2⟩:=h.obj t _ hmt
    exact ⟨b,k1,OD.frame k2 fun x hx=>hblk x (hne t x ⟨by rw [hmt];rfl,_,k1,by rw [hmt];exact hx⟩)⟩
end
end Go.Proofs.Ytfccndnnpkiajaa
namespace Go.Proofs.Ytfccndnnpkiajaa
open Go.RowKit Go.ChangeShapes Go.WideShapes Go.Deep
def cutE (ls:List Nat):BE→BE
 | .row T ms r=>bif hitL ls ms then .dead else .row T ms r
 | .cells T vs=>bif SV.clL ls vs then .cells T vs else .dead
 | e=>e
def zj1 (ls:List Nat) (mm:List (Nat×BE)):List (Nat×BE):=mm.map fun p=>(p.1,cutE ls p.2)
theorem zeu (ls:List Nat):∀ (l:List (Nat×BE)) (i:Nat),zam .empty (zj1 ls l) i=cutE ls (zam .empty l i)
 | [],i=>rfl
 | (k,s)::r,i=>by
  show zam .empty ((k,cutE ls s)::zj1 ls r) i=_
  simp only [zaz,zeu ls r i]
  split<;>rfl
theorem zj2 {ls:List Nat} {e:BE} (h:(cutE ls e).live=true):e.live=true:=by
 cases e with
 | empty=>exact h
 | dead=>exact h
 | cells T vs=>rfl
 | row T ms r=>rfl
 | obj o=>rfl
theorem zni {ls:List Nat} {E:Env} {t b:Nat} {v:Value} {e:BE} (hl:(cutE ls e).live=true) (h:Fo E t v (cutE ls e) b):Fo E t v e b:=by
 cases e with
 | empty=>cases hl
 | dead=>cases hl
 | cells T vs=>simp only [cutE] at h;cases hc:SV.clL ls vs<;>rw [hc] at h<;>exact h
 | row T ms r=>simp only [cutE] at h;cases hc:hitL ls ms<;>rw [hc] at h<;>exact h
 | obj o=>exact h
theorem zev {ls:List Nat} {e:BE} (h:cutE ls e = .empty):e = .empty:=by
 cases e with
 | empty=>rfl
 | dead=>exact h
 | cells T vs=>simp only [cutE] at h;cases hc:SV.clL ls vs<;>rw [hc] at h<;>cases h
 | row T ms r=>simp only [cutE] at h;cases hc:hitL ls ms<;>rw [hc] at h<;>cases h
 | obj o=>exact h
section
variable {base : Nat} {X : Cx} {w0 : World}
theorem MemOk.wcut {E:Env} {w w':World} {m:Nat→BE} (h:MemOk base X w0 E m w) {ls:List Nat} (hnl:∀ i,i∈ls→X.nl≤i) (hw:BelowX w.heap.size (E.set ls) w w') :
  (∀ s v,SV.cl ls s=true→DenV E w s v→DenV E w' s v)∧MemOk base X w0 E (fun t=>cutE ls (m t)) w':=by
 have hS:Same (E.cut ls).lab w w':=⟨hw.size,fun b hb hlt=>hw.block b hlt (fun hp=>by
  obtain ⟨i,hi,hn⟩:=hb
  obtain ⟨j,hj,hs⟩:=hp
  have:=h.dis i j _ hi hs
  subst this
  exact hn hj)⟩
 have hhas:∀ t b,Has E (fun t=>cutE ls (m t)) t b→Has E m t b:=fun t b ⟨g1,v,g2,g3⟩=>⟨zj2 g1,v,g2,zni g1 g3⟩
 have hblk:∀ t b,Has E m t b→w'.heap[b]? = w.heap[b]? := fun t b hb=>hw.block b (h.lt hb) (fun hp=>(h.sep t b hb).1 (Env.set_lab hp))
 refine ⟨fun s v hc hd=>DenV.mono (Env.cut_le E ls) hS _ _ (DenV.cut _ _ hc hd),fun t ht=>h.empty t (zev ht),fun t T vs ht=>?_,fun t T ms r ht=>?_,fun i b hb=>⟨Nat.lt_of_lt_of_le (h.lab i b hb).1 hw.size,(h.lab i b hb).2⟩,h.dis,fun i hi he=>h.low i hi (zev he),fun t b hb=>h.sep t b (hhas t b hb),h.old,fun t s b h1 h2=>h.inj t s b (hhas t b h1) (hhas s b h2),h.keep,?_,Nat.le_trans h.base hw.size,fun t o ht=>?_⟩
 ·cases hmt:m t with
  | empty=>simp only [hmt,cutE] at ht;cases ht
  | dead=>simp only [hmt,cutE] at ht;cases ht
  | row T' ms r=>simp only [hmt,cutE] at ht;cases hc:hitL ls ms<;>rw [hc] at ht<;>cases ht
  | obj o=>simp only [hmt,cutE] at ht;cases ht
  | cells T' us=>
   simp only [hmt,cutE] at ht
   cases hcl:SV.clL ls us
   ·rw [hcl] at ht;cases ht
   ·rw [hcl] at ht
    cases ht
    obtain ⟨b,xs,k1,k2,k3,k4⟩:=h.cells t _ _ hmt
    refine ⟨b,xs,k1,(hblk t b (Has.cells hmt k1 rfl)).trans k2,?_,k4⟩
    exact DenL.mono (Env.cut_le E ls) hS _ _ (DenL.cut _ _ hcl k3)
 ·cases hmt:m t with
  | empty=>simp only [hmt,cutE] at ht;cases ht
  | dead=>simp only [hmt,cutE] at ht;cases ht
  | cells T' us=>simp only [hmt,cutE] at ht;cases hcl:SV.clL ls us<;>rw [hcl] at ht<;>cases ht
  | obj o=>simp only [hmt,cutE] at ht;cases ht
  | row T' ms' r' =>
   simp only [hmt,cutE] at ht
   cases hh:hitL ls ms'
   ·rw [hh] at ht
    cases ht
    obtain ⟨v,k1,k2⟩:=h.row t _ _ _ hmt
    refine ⟨v,k1,?_⟩
    obtain ⟨a,c,ef⟩:=k2.form
    have k3:=k2.mono (Nat.le_refl 0) (fun b hb=>zch hh hb)
    have k4:=k3.same (w':=w') (T:=fun b=>(E.cut ls).lab b∨v.ownBlock=some b) ⟨hw.size,fun b hb hlt=>by
     rcases hb with hb | hb
     ·exact hS.block b hb hlt
     ·exact hblk t b (Has.row hmt k1 (by rw [← zaq ⟨a,_,c,ef⟩];exact hb))⟩ (fun b hb=> .inl (Env.set_lab hb)) (fun b hb=> .inr hb)
    exact k4.mono (Nat.le_refl 0) (fun b hb=>(Env.cut_le E ls).set hb)
   ·rw [hh] at ht;cases ht
 ·refine ⟨hw.os.trans h.below.os,hw.tape.trans h.below.tape,hw.output.trans h.below.output,Nat.le_trans h.below.size hw.size,fun b hb hX=>(hw.block b (Nat.lt_of_lt_of_le hb h.base) (fun ⟨j,hj,hs⟩=>?_)).trans (h.below.block b hb hX)⟩
  rcases (h.lab j _ hs).2 (hnl j hj) with h3 | h3
  ·omega
  ·exact hX h3
 ·cases hmt:m t with
  | empty=>simp only [hmt,cutE] at ht;cases ht
  | dead=>simp only [hmt,cutE] at ht;cases ht
  | cells T us=>simp only [hmt,cutE] at ht;cases hc:SV.clL ls us<;>rw [hc] at ht<;>cases ht
  | row T ms r=>simp only [hmt,cutE] at ht;cases hc:hitL ls ms<;>rw [hc] at ht<;>cases ht
  | obj o' =>
   simp only [hmt,cutE] at ht
   cases ht
   obtain ⟨b,k1,k2⟩:=h.obj t _ hmt
   exact ⟨b,k1,OD.frame k2 fun x hx=>hblk t x ⟨by rw [hmt];rfl,_,k1,by rw [hmt];exact hx⟩⟩
def WOk (P:Program) (C:Cfg):Prop:=∀ f st svs n ls r,C.orw f st svs=some (n,ls,r)→FnB P f∧∀ base X w0 E w vals,MemOk base X w0 E st.m w→DenL E w svs vals→(∀ p∈n,p) →
 Calls P f vals.toArray w (fun e w'=>∃ v,e = .returned v∧(∀ E2 w2,DenV E2 w2 r v)∧BelowX w.heap.size (E.set ls) w w')
def cWr (C:Cfg) (st:St) (o:Oper):Option (List Prop×List Nat×SV):=
 match o.guard,o.op with
 | none,.call ⟨.value (.func f),xs,ts⟩=>match C.orw f st (evL st xs.toList).1 with
  | some (n,ls,r)=>some ((evL st xs.toList).2++n,ls,r)
  | none=>none
 | _,_=>none
def wrSt (ls:List Nat) (dst:Option Tmp) (r:SV) (st:St):St:=(St.mk (hvTm ls st.tm) st.nt (zj1 ls st.mm) st.nx).app dst ⟨[],r,[]⟩
theorem zos {P:Program} {C:Cfg} (hW:WOk P C) {st:St} {o:Oper} {ns:List Prop} {ls:List Nat} {r:SV} (h:cWr C st o=some (ns,ls,r)) (hn:∀ p∈ns,p) (hnl:∀ i,i∈ls→X.nl≤i) {Q2:Exit→Act→World→Prop} {ops:Array Oper} {E:Env} {a:Act} {w:World}
  (ho:st.Ok base X w0 E a w) (hk:∀ a' w',(wrSt ls o.dst r st).Ok base X w0 E a' w'→Q2 .normal a' w'):wpList P ops Q2 [o] a w:=by
 unfold cWr at h
 split at h
 case h_2=>simp at h
 rename_i f xs ts hg hop
 split at h
 case h_2=>simp at h
 rename_i n ls2 r2 hc
 simp only [Option.some.injEq,Prod.mk.injEq] at h
 obtain ⟨rfl,rfl,rfl⟩:=h
 obtain ⟨hf,hcall⟩:=hW _ _ _ _ _ _ hc
 have hd:=zfB ho xs.toList (fun p hp=>hn p (List.mem_append_left _ hp))
 refine wpList_plain hg fun K hK=>?_
 have hrun:(execOp a.eval o).run P w = .ok (.enter f (xs.toList.map a.eval).toArray) w:=by
  have e:xs.map a.eval=(xs.toList.map a.eval).toArray:=by rw [← Array.toList_map]
  simp only [execOp,hop,resolve,Act.eval,Deferred.ofValue,Sem.run_bind,Sem.run_pure,Result.andThen,invoke,e]
  simp [za9 hf]
 unfold Oper.wp
 rw [hrun]
 refine Calls.mono (hcall base X w0 E w _ ho.mem hd (fun p hp=>hn p (List.mem_append_right _ hp))) ?_
 rintro e w' ⟨v,rfl,hr,hB⟩
 obtain ⟨k1,k2⟩:=ho.mem.wcut hnl hB
 refine hK _ _ (wpList_nil (hk _ _ ?_))
 have hst:(St.mk (hvTm ls2 st.tm) st.nt (zj1 ls2 st.mm) st.nx).Ok base X w0 E a w':=by
  refine ⟨ho.defers,ho.size,fun i=>?_,?_⟩
  ·show DenV E _ (zam .any (hvTm ls2 st.tm) i) _
   rw [zdS]
   have hi:=ho.tm i
   show DenV E _ (hvS ls2 (st.s i)) _
   unfold hvS
   cases hcl:SV.cl ls2 (st.s i)
   ·trivial
   ·exact k1 _ _ hcl hi
  ·have e:(St.mk (hvTm ls2 st.tm) st.nt (zj1 ls2 st.mm) st.nx).m=fun t=>cutE ls2 (st.m t):=by
    funext t;exact zeu ls2 st.mm t
   rw [e];exact k2
 exact hst.next (u:=⟨[],r2,[]⟩) (Env.Le.refl E) Same.rfl' (v:=v) (hr _ _) hst.mem
end
end Go.Proofs.Ytfccndnnpkiajaa
