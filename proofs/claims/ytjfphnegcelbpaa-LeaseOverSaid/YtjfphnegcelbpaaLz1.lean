/- Parts of the proof, joined: the symbolic walk and what it is told of each function. Condition: as each theorem says. -/
import Derived.Test.YtjfphnegcelbpaaRows
import Derived.WalkKit
import Derived.ProofKit
import Derived.OpenShut
import Derived.Lib.Hide
import Derived.Deep.QuietTactic
import Derived.BigQuiet
import Derived.Deep.Slices
import Derived.ChangeArms
import Derived.Maps.AppendAt
import Derived.Deep.AppendLies
import Derived.RegionTactic
import Derived.OwnWalk
import Derived.Laws.CopyOwn
import Derived.Maps.Own
import Derived.Maps.OwnOps
import Derived.Maps.OwnSet
import Derived.BigRegion
import Derived.WalkSmall
import Derived.Laws.OwnMore
import Derived.OneCell
import Derived.Maps.Views
import Derived.Orders
set_option linter.unusedVariables false
set_option linter.unusedSimpArgs false
set_option linter.unusedSectionVars false
namespace Go.Proofs.Ytjfphnegcelbpaa
open Go.RowKit Go.ChangeShapes Go.WideShapes Go.Deep
inductive Ty where
 | int (k:IntKind)
 | bool
 | str
 | sl (fs:List Ty)
inductive D where
 | int (n:Int)
 | bool (b:Bool)
 | str (s:ByteArray)
 | sl (rows:List (List D))
instance:Inhabited Ty:=⟨.bool⟩
instance:Inhabited D:=⟨.int 0⟩
inductive Rd (w:World) (S:Nat→Prop):Ty→Value→D→Prop
 | int {k:IntKind} {n:Int}:(Lit.int k n).wf=true→Rd w S (.int k) (.int k n) (.int n)
 | bool {b:Bool}:Rd w S .bool (.bool b) (.bool b)
 | str {s:ByteArray}:s.size≤140737488355328→Rd w S .str (.string s) (.str s)
 | emp {fs:List Ty} {a:Option Addr} {c:Nat}:(a=none→c=0)→c≤maxLen→Rd w S (.sl fs) (.slice a 0 c) (.sl [])
 | row {fs:List Ty} {b off n c:Nat} {rows:List (List D)} (vals:Nat→Nat→Value):0<n→n=rows.length→n≤c→c≤maxLen→n≤17592186044416→S b→b<w.heap.size →
   (∀ i j,i<n→j<fs.length→w.cell? ⟨b,off+i*fs.length+j,none⟩=some (vals i j)) →
   (∀ i,i<n→(rows.getD i []).length=fs.length) →
   (∀ i j,i<n→j<fs.length→Rd w S (fs.getD j default) (vals i j) ((rows.getD i []).getD j default)) →
   (∀ i j,i<n→j<fs.length→w.frozen? ⟨b,off+i*fs.length+j,none⟩=false) →
   Rd w S (.sl fs) (.slice (some ⟨b,off,none⟩) n c) (.sl rows)
structure Same (S:Nat→Prop) (w w':World):Prop where
 size:w.heap.size≤w'.heap.size
 block:∀ b,S b→b<w.heap.size→w'.heap[b]? = w.heap[b]?
theorem Same.mono {S T:Nat→Prop} {w w':World} (h:Same S w w') (hs:∀ b,T b→S b):Same T w w':=⟨h.size,fun b hb hl=>h.block b (hs b hb) hl⟩
theorem Same.below {S:Nat→Prop} {w w':World} (h:Below w.heap.size w w'):Same S w w':=⟨h.size,fun b _ hl=>h.block b hl⟩
theorem Same.of_grown {S:Nat→Prop} {w w':World} {row:Option Nat} (h:w.grownBy w' row) (hS:∀ b,S b→some b≠row):Same S w w' :=
 ⟨h.size,fun b hb hl=>h.block b hl (hS b hb)⟩
theorem Same.alloc (S:Nat→Prop) (w:World) (o:Obj):Same S w (w.alloc o):=Same.below ((Below.refl _ _).alloc (Nat.le_refl _) o)
theorem Same.cell {S:Nat→Prop} {w w':World} (h:Same S w w') {p:Addr} (hp:S p.block) (hl:p.block<w.heap.size):w'.cell? p=w.cell? p:=World.cell?_of_block (h.block _ hp hl)
theorem Same.frozen {S:Nat→Prop} {w w':World} (h:Same S w w') {p:Addr} (hp:S p.block) (hl:p.block<w.heap.size):w'.frozen? p=w.frozen? p:=World.frozen?_of_block (h.block _ hp hl)
theorem Rd.same {w w':World} {S:Nat→Prop} {t:Ty} {v:Value} {d:D} (h:Rd w S t v d) (hs:Same S w w'):Rd w' S t v d:=by
 induction h with
 | int h=>exact .int h
 | bool=>exact .bool
 | str h=>exact .str h
 | emp h h'=>exact .emp h h'
 | row vals h1 h2 h3 h4 h5 h6 h7 h8 h9 _ h11 ih=>
  exact .row vals h1 h2 h3 h4 h5 h6 (Nat.lt_of_lt_of_le h7 hs.size) (fun i j hi hj=>by rw [hs.cell h6 h7];exact h8 i j hi hj) h9 ih (fun i j hi hj=>by rw [hs.frozen h6 h7];exact h11 i j hi hj)
theorem Rd.mono {w:World} {S T:Nat→Prop} {t:Ty} {v:Value} {d:D} (h:Rd w S t v d) (hs:∀ b,b<w.heap.size→S b→T b):Rd w T t v d:=by
 induction h with
 | int h=>exact .int h
 | bool=>exact .bool
 | str h=>exact .str h
 | emp h h'=>exact .emp h h'
 | row vals h1 h2 h3 h4 h5 h6 h7 h8 h9 _ h11 ih=>exact .row vals h1 h2 h3 h4 h5 (hs _ h7 h6) h7 h8 h9 ih h11
def RdL (w:World) (S:Nat→Prop):List Ty→List Value→List D→Prop
 | [],[],[]=>True
 | t::ts,v::vs,d::ds=>Rd w S t v d∧RdL w S ts vs ds
 | _,_,_=>False
theorem RdL.same {w w':World} {S:Nat→Prop} (hs:Same S w w'):∀ {ts:List Ty} {vs:List Value} {ds:List D},RdL w S ts vs ds→RdL w' S ts vs ds
 | [],[],[],_=>trivial
 | _::_,_::_,_::_,h=>⟨h.1.same hs,RdL.same hs h.2⟩
 | _::_,[],_,h=>h.elim
 | _::_,_::_,[],h=>h.elim
 | [],_::_,_,h=>h.elim
 | [],[],_::_,h=>h.elim
theorem RdL.mono {w:World} {S T:Nat→Prop} (hs:∀ b,b<w.heap.size→S b→T b):∀ {ts:List Ty} {vs:List Value} {ds:List D},RdL w S ts vs ds→RdL w T ts vs ds
 | [],[],[],_=>trivial
 | _::_,_::_,_::_,h=>⟨h.1.mono hs,RdL.mono hs h.2⟩
 | _::_,[],_,h=>h.elim
 | _::_,_::_,[],h=>h.elim
 | [],_::_,_,h=>h.elim
 | [],[],_::_,h=>h.elim
theorem RdL.lens {w:World} {S:Nat→Prop}:∀ {ts:List Ty} {vs:List Value} {ds:List D},RdL w S ts vs ds→vs.length=ts.length∧ds.length=ts.length
 | [],[],[],_=>⟨rfl,rfl⟩
 | _::_,_::_,_::_,h=>by have:=RdL.lens h.2;simp [this.1,this.2]
 | _::_,[],_,h=>h.elim
 | _::_,_::_,[],h=>h.elim
 | [],_::_,_,h=>h.elim
 | [],[],_::_,h=>h.elim
theorem RdL.at {w:World} {S:Nat→Prop}:∀ {ts:List Ty} {vs:List Value} {ds:List D},RdL w S ts vs ds→∀ j,j<ts.length→Rd w S (ts.getD j default) (vs.getD j undef) (ds.getD j default)
 | [],[],[],_,j,hj=>absurd hj (by simp)
 | _::_,_::_,_::_,h,0,_=>h.1
 | _::ts,_::vs,_::ds,h,j+1,hj=>RdL.at (ts:=ts) (vs:=vs) (ds:=ds) h.2 j (by simpa using hj)
 | _::_,[],_,h,_,_=>h.elim
 | _::_,_::_,[],h,_,_=>h.elim
 | [],_::_,_,h,_,_=>h.elim
 | [],[],_::_,h,_,_=>h.elim
theorem RdL.of_at {w:World} {S:Nat→Prop}:∀ {ts:List Ty} {ds:List D} (f:Nat→Value),ds.length=ts.length→(∀ j,j<ts.length→Rd w S (ts.getD j default) (f j) (ds.getD j default))→RdL w S ts ((List.range ts.length).map f) ds
 | [],[],_,_,_=>trivial
 | [],_::_,_,h,_=>by simp at h
 | _::_,[],_,h,_=>by simp at h
 | t::ts,d::ds,f,h,hf=>by
  have e:(List.range (t::ts).length).map f=f 0::(List.range ts.length).map (fun j=>f (j+1)):=by
   rw [List.length_cons,List.range_succ_eq_map];simp [Function.comp_def]
  rw [e]
  exact ⟨hf 0 (by simp),RdL.of_at (fun j=>f (j+1)) (by simpa using h) (fun j hj=>hf (j+1) (by simpa using hj))⟩
abbrev Sl (w:World) (S:Nat→Prop) (fs:List Ty) (a:Option Addr) (n c:Nat) (rows:List (List D)):Prop:=Rd w S (.sl fs) (.slice a n c) (.sl rows)
theorem Sl.len {w:World} {S:Nat→Prop} {fs:List Ty} {a:Option Addr} {n c:Nat} {rows:List (List D)} (h:Sl w S fs a n c rows):rows.length=n:=by
 cases h with
 | emp _ _=>rfl
 | row _ _ h=>exact h.symm
theorem Sl.bd {w:World} {S:Nat→Prop} {fs:List Ty} {a:Option Addr} {n c:Nat} {rows:List (List D)} (h:Sl w S fs a n c rows):n≤c∧c≤9223372036854775807∧n≤17592186044416∧(a=none→n=0∧c=0):=by
 cases h with
 | emp h1 h2=>unfold maxLen at h2;exact ⟨Nat.zero_le _,by omega,by omega,fun e=>⟨rfl,h1 e⟩⟩
 | row _ h0 h1 h2 h3 h4=>unfold maxLen at h3;exact ⟨h2,by omega,h4,fun e=>by simp at e⟩
theorem Sl.rowAt {w:World} {S:Nat→Prop} {fs:List Ty} {a:Option Addr} {n c:Nat} {rows:List (List D)} (h:Sl w S fs a n c rows) (hp:0<n) :
  ∃ b off,a=some ⟨b,off,none⟩∧S b∧b<w.heap.size∧∃ vals:Nat→Nat→Value,(∀ i j,i<n→j<fs.length→w.cell? ⟨b,off+i*fs.length+j,none⟩=some (vals i j)) ∧
   ∀ i,i<n→(rows.getD i []).length=fs.length∧∀ j,j<fs.length→Rd w S (fs.getD j default) (vals i j) ((rows.getD i []).getD j default):=by
 cases h with
 | emp _ _=>omega
 | row vals h1 h2 h3 h4 h5 h6 h7 h8 h9 h10 _=>exact ⟨_,_,rfl,h6,h7,vals,h8,fun i hi=>⟨h9 i hi,fun j hj=>h10 i j hi hj⟩⟩
theorem Sl.thaw {w:World} {S:Nat→Prop} {fs:List Ty} {b off n c:Nat} {rows:List (List D)} (h:Sl w S fs (some ⟨b,off,none⟩) n c rows) {i j:Nat} (hi:i<n) (hj:j<fs.length):w.frozen? ⟨b,off+i*fs.length+j,none⟩=false:=by
 cases h with
 | emp _ _=>omega
 | row vals h1 h2 h3 h4 h5 h6 h7 h8 h9 h10 h11=>exact h11 i j hi hj
theorem Sl.addr {w:World} {S:Nat→Prop} {fs:List Ty} {a:Option Addr} {n c:Nat} {rows:List (List D)} (h:Sl w S fs a n c rows) (hp:0<n):∃ b off,a=some ⟨b,off,none⟩:=by
 obtain ⟨b,off,e,_⟩:=h.rowAt hp;exact ⟨b,off,e⟩
theorem Sl.same {w w':World} {S:Nat→Prop} {fs:List Ty} {a:Option Addr} {n c:Nat} {rows:List (List D)} (h:Sl w S fs a n c rows) (hs:Same S w w'):Sl w' S fs a n c rows:=Rd.same h hs
def ints (xs:List Int):List (List D):=xs.map fun x=>[.int x]
abbrev I64 (x:Int):Prop:= -9223372036854775808≤x∧x≤9223372036854775807
abbrev SlI (w:World) (S:Nat→Prop) (a:Option Addr) (n c:Nat) (xs:List Int):Prop:=Sl w S [.int .i64] a n c (ints xs)
theorem lit_bd {x:Int} (h:(Lit.int .i64 x).wf=true):I64 x:=by
 simp only [Lit.wf,Bool.and_eq_true,decide_eq_true_eq] at h;exact h
theorem zaJ {x:Int} (h:I64 x):(Lit.int .i64 x).wf=true:=by
 simp only [Lit.wf,Bool.and_eq_true,decide_eq_true_eq];exact h
theorem Rd.int_inv {w:World} {S:Nat→Prop} {k:IntKind} {v:Value} {d:D} (h:Rd w S (.int k) v d):∃ n,v = .int k n∧d = .int n∧(Lit.int k n).wf=true:=by
 cases h with | int h=>exact ⟨_,rfl,rfl,h⟩
theorem Rd.i64 {w:World} {S:Nat→Prop} {v:Value} {x:Int} (h:Rd w S (.int .i64) v (.int x)):v = .int .i64 x∧I64 x:=by
 cases h with | int h=>exact ⟨rfl,lit_bd h⟩
theorem Rd.sl' {w:World} {S:Nat→Prop} {fs:List Ty} {v:Value} {rows:List (List D)} (h:Rd w S (.sl fs) v (.sl rows)):∃ a c,v = .slice a rows.length c∧Sl w S fs a rows.length c rows:=by
 cases h with
 | emp h1 h2=>exact ⟨_,_,rfl,.emp h1 h2⟩
 | row vals h1 h2 h3 h4 h5 h6 h7 h8 h9 h10 h11=>subst h2;exact ⟨_,_,rfl,.row vals h1 rfl h3 h4 h5 h6 h7 h8 h9 h10 h11⟩
theorem Rd.ofI64 {w:World} {S:Nat→Prop} {x:Int} (h:I64 x):Rd w S (.int .i64) (.int .i64 x) (.int x):= .int (zaJ h)
theorem zay (xs:List Int):(ints xs).length=xs.length:=by simp [ints]
theorem zeV {α:Type} (enc:α→List D):∀ (rows:List (List D)),(∀ r∈rows,∃ x,r=enc x)→∃ xs:List α,rows=xs.map enc
 | [],_=>⟨[],rfl⟩
 | r::rows,h=>by
  obtain ⟨x,hx⟩:=h r (List.mem_cons_self ..)
  obtain ⟨xs,hxs⟩:=zeV enc rows (fun r hr=>h r (List.mem_cons_of_mem _ hr))
  exact ⟨x::xs,by rw [hx,hxs];rfl⟩
theorem Rd.dec {w:World} {S:Nat→Prop} {α:Type} (enc:α→List D) {ts:List Ty} {v:Value} {d:D} (hdec:∀ vs ds,RdL w S ts vs ds→∃ x,ds=enc x) (h:Rd w S (.sl ts) v d):∃ xs:List α,d = .sl (xs.map enc):=by
 cases h with
 | emp _ _=>exact ⟨[],rfl⟩
 | row vals h1 h2 h3 h4 h5 h6 h7 h8 h9 h10 h11=>
  rename_i rows
  obtain ⟨xs,hxs⟩:=zeV enc rows (fun r hr=>by
   obtain ⟨i,hi,rfl⟩:=List.mem_iff_getElem.1 hr
   have e:rows.getD i []=rows[i]:=by simp [List.getD,hi]
   have:=RdL.of_at (w:=w) (S:=S) (ts:=ts) (ds:=rows[i]) (vals i) (by rw [← e];exact h9 i (by omega)) (fun j hj=>by rw [← e];exact h10 i j (by omega) hj)
   exact hdec _ _ this)
  exact ⟨xs,by rw [hxs]⟩
theorem ints_dec {w:World} {S:Nat→Prop} {v:Value} {d:D} (h:Rd w S (.sl [.int .i64]) v d):∃ xs:List Int,d = .sl (ints xs):=by
 refine Rd.dec (fun x=>[.int x]) (fun vs ds hr=>?_) h
 match vs,ds,hr with
 | [v],[d],hr=>
  obtain ⟨n,_,rfl,_⟩:=hr.1.int_inv
  exact ⟨n,rfl⟩
 | [],_,hr=>exact hr.elim
 | _::_::_,[_],hr=>exact hr.2.elim
 | [_],[],hr=>exact hr.elim
 | [_],_::_::_,hr=>exact hr.2.elim
 | _::_::_,[],hr=>exact hr.elim
 | _::_::_,_::_::_,hr=>exact hr.2.elim
def strs (l:List ByteArray):List (List D):=l.map fun x=>[.str x]
def zfQ (l:List Bool):List (List D):=l.map fun x=>[.bool x]
theorem zjd {B:Nat} {w w':World} (h:Below B w w') (n:Nat):Below B w (w'.drewN n):=⟨h.os,h.tape,h.output,h.size,h.block⟩
theorem zdL {α:Type} {l:List α} (h:l.length=2):∃ v0 v1,l=[v0,v1]:=by
 match l,h with
 | [v0,v1],_=>exact ⟨v0,v1,rfl⟩
theorem zhW {α:Type} {l:List α} (h:l.length=4):∃ v0 v1 v2 v3,l=[v0,v1,v2,v3]:=by
 match l,h with
 | [v0,v1,v2,v3],_=>exact ⟨v0,v1,v2,v3,rfl⟩
theorem zj7 {α:Type} {l:List α} (h:l.length=6):∃ v0 v1 v2 v3 v4 v5,l=[v0,v1,v2,v3,v4,v5]:=by
 match l,h with
 | [v0,v1,v2,v3,v4,v5],_=>exact ⟨v0,v1,v2,v3,v4,v5,rfl⟩
structure Sent where
 ask:Int
 at_:Int
 deriving DecidableEq,Inhabited
def Sent.ty:List Ty:=[.int .i64,.int .i64]
def Sent.enc (x:Sent):List D:=[.int x.ask,.int x.at_]
theorem Sent.ty_len:Sent.ty.length=2:=rfl
theorem Sent.enc_len (x:Sent):x.enc.length=2:=rfl
theorem Sent.opens {w:World} {S:Nat→Prop} {vs:List Value} {x:Sent} (h:RdL w S Sent.ty vs x.enc):vs=[.int .i64 x.ask,.int .i64 x.at_]∧I64 x.ask∧I64 x.at_:=by
 match vs,h with
 | [v0,v1],h=>
  obtain ⟨h0,h1,_⟩:=h
  obtain ⟨rfl,k0⟩:=h0.i64
  obtain ⟨rfl,k1⟩:=h1.i64
  exact ⟨rfl,k0,k1⟩
theorem Sent.row {w:World} {S:Nat→Prop} {b off n c i:Nat} {xs:List Sent} (h:Sl w S Sent.ty (some ⟨b,off,none⟩) n c (xs.map Sent.enc)) (hi:i<n):S b∧b<w.heap.size∧w.cell? ⟨b,off+i*2,none⟩=some (.int .i64 (xs.getD i default).ask)∧w.cell? ⟨b,off+i*2+1,none⟩=some (.int .i64 (xs.getD i default).at_)∧I64 (xs.getD i default).ask∧I64 (xs.getD i default).at_:=by
 have hl:=h.len
 rw [List.length_map] at hl
 obtain ⟨b2,off2,e,hS,hb,vals,hc,hr⟩:=h.rowAt (by omega)
 simp only [Option.some.injEq,Addr.mk.injEq,and_true] at e
 obtain ⟨rfl,rfl⟩:=e
 have hr1:=hr i hi
 have he:(xs.map Sent.enc).getD i []=(xs.getD i default).enc:=by simp [List.getD,show i<xs.length by omega]
 rw [he] at hr1
 have hL:=RdL.of_at (ts:=Sent.ty) (vals i) hr1.1 hr1.2
 obtain ⟨e,k0,k1⟩:=Sent.opens hL
 rw [show Sent.ty.length=2 from rfl] at hc e
 simp only [List.range_succ,List.range_zero,List.nil_append,List.cons_append,List.map_cons,List.map_nil,List.cons.injEq,and_true] at e
 obtain ⟨e0,e1⟩:=e
 refine ⟨hS,hb,?_,?_,k0,k1⟩
 ·rw [← e0];exact hc i 0 hi (by omega)
 ·rw [← e1];exact hc i 1 hi (by omega)
structure Holder where
 node:Int
 now:Int
 ask:Int
 sent:List Sent
 seq:Int
 at_:Int
 deriving DecidableEq,Inhabited
def Holder.ty:List Ty:=[.int .i64,.int .i64,.int .i64,.sl Sent.ty,.int .i64,.int .i64]
def Holder.enc (x:Holder):List D:=[.int x.node,.int x.now,.int x.ask,.sl (x.sent.map Sent.enc),.int x.seq,.int x.at_]
theorem Holder.ty_len:Holder.ty.length=6:=rfl
theorem Holder.opens {w:World} {S:Nat→Prop} {vs:List Value} {x:Holder} (h:RdL w S Holder.ty vs x.enc):∃ (a3:Option Addr) (c3:Nat),vs=[.int .i64 x.node,.int .i64 x.now,.int .i64 x.ask,.slice a3 (x.sent).length c3,.int .i64 x.seq,.int .i64 x.at_]∧I64 x.node∧I64 x.now∧I64 x.ask∧Sl w S Sent.ty a3 (x.sent).length c3 ((x.sent).map Sent.enc)∧I64 x.seq∧I64 x.at_:=by
 match vs,h with
 | [v0,v1,v2,v3,v4,v5],h=>
  obtain ⟨h0,h1,h2,h3,h4,h5,_⟩:=h
  obtain ⟨rfl,k0⟩:=h0.i64
  obtain ⟨rfl,k1⟩:=h1.i64
  obtain ⟨rfl,k2⟩:=h2.i64
  obtain ⟨a3,c3,rfl,k3⟩:=h3.sl'
  rw [List.length_map] at k3
  obtain ⟨rfl,k4⟩:=h4.i64
  obtain ⟨rfl,k5⟩:=h5.i64
  exact ⟨a3,c3,(by simp [ints,zfQ,strs,List.length_map]),k0,k1,k2,k3,k4,k5⟩
structure Wait where
 seq:Int
 at_:Int
 deriving DecidableEq,Inhabited
def Wait.ty:List Ty:=[.int .i64,.int .i64]
def Wait.enc (x:Wait):List D:=[.int x.seq,.int x.at_]
theorem Wait.ty_len:Wait.ty.length=2:=rfl
theorem Wait.enc_len (x:Wait):x.enc.length=2:=rfl
theorem Wait.opens {w:World} {S:Nat→Prop} {vs:List Value} {x:Wait} (h:RdL w S Wait.ty vs x.enc):vs=[.int .i64 x.seq,.int .i64 x.at_]∧I64 x.seq∧I64 x.at_:=by
 match vs,h with
 | [v0,v1],h=>
  obtain ⟨h0,h1,_⟩:=h
  obtain ⟨rfl,k0⟩:=h0.i64
  obtain ⟨rfl,k1⟩:=h1.i64
  exact ⟨rfl,k0,k1⟩
structure Lease where
 seq:Int
 node:Int
 ask:Int
 epoch:Int
 deriving DecidableEq,Inhabited
def Lease.ty:List Ty:=[.int .i64,.int .i64,.int .i64,.int .i64]
def Lease.enc (x:Lease):List D:=[.int x.seq,.int x.node,.int x.ask,.int x.epoch]
theorem Lease.ty_len:Lease.ty.length=4:=rfl
theorem Lease.enc_len (x:Lease):x.enc.length=4:=rfl
theorem Lease.opens {w:World} {S:Nat→Prop} {vs:List Value} {x:Lease} (h:RdL w S Lease.ty vs x.enc):vs=[.int .i64 x.seq,.int .i64 x.node,.int .i64 x.ask,.int .i64 x.epoch]∧I64 x.seq∧I64 x.node∧I64 x.ask∧I64 x.epoch:=by
 match vs,h with
 | [v0,v1,v2,v3],h=>
  obtain ⟨h0,h1,h2,h3,_⟩:=h
  obtain ⟨rfl,k0⟩:=h0.i64
  obtain ⟨rfl,k1⟩:=h1.i64
  obtain ⟨rfl,k2⟩:=h2.i64
  obtain ⟨rfl,k3⟩:=h3.i64
  exact ⟨rfl,k0,k1,k2,k3⟩
def OwnR (base:Nat) (w:World) (E:TypeId) (S:Nat→Prop) (fs:List Ty) (v:Value) (rows:List (List D)):Prop:=
 ∃ cells,w.ownsRow base E fs.length v rows.length cells∧∀ i,i<rows.length→RdL w (fun b=>S b∧v.ownBlock≠some b) fs ((cells.drop (i*fs.length)).take fs.length) (rows.getD i [])
theorem OwnR.nil (base:Nat) (w:World) (E:TypeId) (S:Nat→Prop) (fs:List Ty):OwnR base w E S fs (.slice none 0 0) []:=
 ⟨[],World.ownsRow_nil _ _ _ _,fun i h=>absurd h (by simp)⟩
theorem Same.ownsRow {w w':World} {base:Nat} {E:TypeId} {size:Nat} {v:Value} {n:Nat} {xs:List Value} {S:Nat→Prop} (h:w.ownsRow base E size v n xs) (hs:Same S w w') (hS:∀ g,v.ownBlock=some g→S g):w'.ownsRow base E size v n xs:=by
 refine ⟨h.1,?_⟩
 rcases h.2 with h2 | ⟨g,cap,cur,hv,hg,hh,r⟩
 ·exact Or.inl h2
 ·exact Or.inr ⟨g,cap,cur,hv,hg,(hs.block g (hS g (by subst hv;rfl)) (Array.getElem?_eq_some_iff.1 hh).1).trans hh,r⟩
theorem OwnR.same {base:Nat} {w w':World} {E:TypeId} {S T:Nat→Prop} {fs:List Ty} {v:Value} {rows:List (List D)} (h:OwnR base w E S fs v rows) (hs:Same T w w') (h1:∀ b,S b→T b) (h2:∀ b,v.ownBlock=some b→T b):OwnR base w' E S fs v rows:=by
 obtain ⟨cells,ho,hr⟩:=h
 exact ⟨cells,hs.ownsRow ho h2,fun i hi=>(hr i hi).same (hs.mono fun b hb=>h1 b hb.1)⟩
theorem OwnR.below {base:Nat} {w w':World} {E:TypeId} {S:Nat→Prop} {fs:List Ty} {v:Value} {rows:List (List D)} (h:OwnR base w E S fs v rows) (hb:Below w.heap.size w w'):OwnR base w' E S fs v rows:=
 h.same (Same.below (S:=fun _=>True) hb) (fun _ _=>trivial) (fun _ _=>trivial)
theorem OwnR.lt {base:Nat} {w:World} {E:TypeId} {S:Nat→Prop} {fs:List Ty} {v:Value} {rows:List (List D)} (h:OwnR base w E S fs v rows):∀ b,v.ownBlock=some b→base≤b∧b<w.heap.size:=by
 obtain ⟨cells,ho,_⟩:=h
 exact World.ownsRow.lt ho
theorem OwnR.form {base:Nat} {w:World} {E:TypeId} {S:Nat→Prop} {fs:List Ty} {v:Value} {rows:List (List D)} (h:OwnR base w E S fs v rows):∃ a c,v = .slice a rows.length c:=by
 obtain ⟨cells,⟨_,⟨rfl,hn⟩ | ⟨g,cap,cur,rfl,_⟩⟩,_⟩:=h
 ·exact ⟨none,0,by rw [hn]⟩
 ·exact ⟨_,_,rfl⟩
theorem OwnR.mono {base base':Nat} {w:World} {E:TypeId} {S T:Nat→Prop} {fs:List Ty} {v:Value} {rows:List (List D)} (h:OwnR base w E S fs v rows) (hb:base'≤base) (hs:∀ b,S b→T b):OwnR base' w E T fs v rows:=by
 obtain ⟨cells,ho,hr⟩:=h
 refine ⟨cells,⟨ho.1,?_⟩,fun i hi=>(hr i hi).mono fun b _ hb=>⟨hs b hb.1,hb.2⟩⟩
 rcases ho.2 with h2 | ⟨g,cap,cur,hv,hg,hh,r⟩
 ·exact Or.inl h2
 ·exact Or.inr ⟨g,cap,cur,hv,by omega,hh,r⟩
theorem Sl.mk {w:World} {S:Nat→Prop} {fs:List Ty} {b off c:Nat} {rows:List (List D)} (cells:List Value) (hn:0<rows.length) (hc:rows.length≤c) (hm:c≤maxLen) (h44:rows.length≤17592186044416) (hS:S b) (hb:b<w.heap.size)
  (hl:cells.length=rows.length*fs.length) (hcell:∀ m v,cells[m]? = some v→w.cell? ⟨b,off+m,none⟩=some v)
  (hr:∀ i,i<rows.length→RdL w S fs ((cells.drop (i*fs.length)).take fs.length) (rows.getD i [])) (hfz:∀ m,w.frozen? ⟨b,off+m,none⟩=false):Sl w S fs (some ⟨b,off,none⟩) rows.length c rows:=by
 have key:∀ i j,i<rows.length→j<fs.length→i*fs.length+j<cells.length:=by
  intro i j hi hj
  have:(i+1)*fs.length≤rows.length*fs.length:=Nat.mul_le_mul_right _ hi
  rw [Nat.add_mul] at this;omega
 refine .row (fun i j=>cells.getD (i*fs.length+j) undef) hn rfl hc hm h44 hS hb (fun i j hi hj=>?_) (fun i hi=>(hr i hi).lens.2) (fun i j hi hj=>?_) (fun i j _ _=>by rw [Nat.add_assoc];exact hfz _)
 ·have h1:=key i j hi hj
  rw [Nat.add_assoc]
  refine hcell _ _ ?_
  simp [List.getD,h1]
 ·have:=(hr i hi).at j hj
  have e:((cells.drop (i*fs.length)).take fs.length).getD j undef=cells.getD (i*fs.length+j) undef:=by
   simp [List.getD,hj]
  rwa [e] at this
theorem OwnR.slO {base:Nat} {w:World} {E:TypeId} {S:Nat→Prop} {fs:List Ty} {v:Value} {rows:List (List D)} (h:OwnR base w E S fs v rows) (T:Nat→Prop) (h1:∀ b,S b→T b) (h2:∀ b,base≤b→v.ownBlock=some b→T b) (h44:rows.length≤17592186044416) :
  ∃ a c,v = .slice a rows.length c∧Sl w T fs a rows.length c rows:=by
 obtain ⟨cells,⟨hl,⟨rfl,hn⟩ | ⟨g,cap,cur,rfl,hg,hh,hc,hm,hs,ht⟩⟩,hr⟩:=h
 ·have hx:rows=[]:=List.eq_nil_of_length_eq_zero hn
  subst hx
  exact ⟨none,0,rfl,.emp (fun _=>rfl) (by simp [maxLen])⟩
 ·refine ⟨_,_,rfl,?_⟩
  by_cases hp:0<rows.length
  ·refine Sl.mk cells hp hc hm h44 (h2 g hg rfl) (Array.getElem?_eq_some_iff.1 hh).1 hl (fun m u hu=>?_) (fun i hi=>(hr i hi).mono fun b _ hb=>h1 b hb.1) (fun m=>by simp [World.frozen?,hh])
   rw [← ht] at hu
   have hlt:m<rows.length*fs.length:=by
    rw [ht] at hu
    have:=(List.getElem?_eq_some_iff.1 hu).1
    omega
   rw [List.getElem?_take,if_pos hlt] at hu
   rw [Nat.zero_add]
   simp only [World.cell?,hh]
   rw [← Array.getElem?_toList];exact hu
  ·have hx:rows=[]:=List.eq_nil_of_length_eq_zero (by omega)
   subst hx
   exact .emp (fun e=>by simp at e) hm
theorem OwnR.sl {base:Nat} {w:World} {E:TypeId} {S:Nat→Prop} {fs:List Ty} {v:Value} {rows:List (List D)} (h:OwnR base w E S fs v rows) (T:Nat→Prop) (h1:∀ b,S b→T b) (h2:∀ b,base≤b→T b) (h44:rows.length≤17592186044416) :
  ∃ a c,v = .slice a rows.length c∧Sl w T fs a rows.length c rows:=h.slO T h1 (fun b hb _=>h2 b hb) h44
theorem OwnR.grows {base:Nat} {w w':World} {E:TypeId} {S:Nat→Prop} {fs:List Ty} {v v':Value} {rows ds:List (List D)} {cells news:List Value}
  (hr:∀ i,i<rows.length→RdL w (fun b=>S b∧v.ownBlock≠some b) fs ((cells.drop (i*fs.length)).take fs.length) (rows.getD i [])) (hcl:cells.length=rows.length*fs.length)
  (hn:∀ i,i<ds.length→RdL w (fun b=>S b∧v.ownBlock≠some b) fs ((news.drop (i*fs.length)).take fs.length) (ds.getD i []))
  (ho:w'.ownsRow base E fs.length v' (rows.length+ds.length) (cells++news)) (hg:w.grownBy w' v.ownBlock) (hat:v'.ownBlock=v.ownBlock∨v'.ownBlock=some w.heap.size):OwnR base w' E S fs v' (rows++ds):=by
 have up:∀ (cs:List Value) (d:List D),RdL w (fun b=>S b∧v.ownBlock≠some b) fs cs d→RdL w' (fun b=>S b∧v'.ownBlock≠some b) fs cs d:=by
  intro cs d h
  have h1:RdL w (fun b=>(S b∧v'.ownBlock≠some b)∧v.ownBlock≠some b) fs cs d:=h.mono fun b hb hs=>by
   refine ⟨⟨hs.1,?_⟩,hs.2⟩
   rcases hat with e | e
   ·rw [e];exact hs.2
   ·rw [e];intro e';cases e';omega
  have h2:=h1.same (w':=w') (Same.of_grown hg fun b hb e=>hb.2 e.symm)
  exact h2.mono fun b _ hs=>hs.1
 refine ⟨cells++news,by rw [List.length_append];exact ho,fun i hi=>?_⟩
 rw [List.length_append] at hi
 by_cases h:i<rows.length
 ·have h1:i*fs.length+fs.length≤cells.length:=by
   rw [hcl]
   have:(i+1)*fs.length≤rows.length*fs.length:=Nat.mul_le_mul_right _ h
   rw [Nat.add_mul] at this;omega
  have e1:((cells++news).drop (i*fs.length)).take fs.length=(cells.drop (i*fs.length)).take fs.length:=by
   rw [List.drop_append_of_le_length (by omega),List.take_append_of_le_length (by simp;omega)]
  have e2:(rows++ds).getD i []=rows.getD i []:=by simp [List.getD,List.getElem?_append_left h]
  rw [e1,e2]
  exact up _ _ (hr i h)
 ·have hi2:i=rows.length+(i-rows.length):=by omega
  generalize i-rows.length=m at hi2
  subst hi2
  have e1:(cells++news).drop ((rows.length+m)*fs.length)=news.drop (m*fs.length):=by
   rw [Nat.add_mul,← hcl,List.drop_append,List.drop_eq_nil_of_le (by omega),List.nil_append]
   congr 1;omega
  have e2:(rows++ds).getD (rows.length+m) []=ds.getD m []:=by simp [List.getD,List.getElem?_append_right]
  rw [e1,e2]
  exact up _ _ (hn m (by omega))
theorem zbZ {α:Type} (f:Nat→Nat→α) (n k:Nat):((List.range n).flatMap fun i=>(List.range k).map (f i)).length=n*k:=by
 induction n with
 | zero=>simp
 | succ n ih=>simp [List.range_succ,List.flatMap_append] at ih ⊢;rw [ih,Nat.add_mul];omega
theorem zgS {α:Type} (f:Nat→Nat→α) (n k:Nat):∀ i,i<n→(((List.range n).flatMap fun i=>(List.range k).map (f i)).drop (i*k)).take k=(List.range k).map (f i):=by
 induction n with
 | zero=>intro i hi;omega
 | succ n ih=>
  intro i hi
  have hl:=zbZ f n k
  rw [List.range_succ,List.flatMap_append]
  by_cases h:i<n
  ·have:(i+1)*k≤n*k:=Nat.mul_le_mul_right _ h
   rw [Nat.add_mul] at this
   rw [List.drop_append_of_le_length (by omega),List.take_append_of_le_length (by rw [List.length_drop];omega),ih i h]
  ·have:i=n:=by omega
   subst this
   rw [List.drop_append,List.drop_eq_nil_of_le (by omega),hl,Nat.sub_self]
   simp only [List.nil_append,List.drop_zero,List.flatMap_cons,List.flatMap_nil,List.append_nil]
   exact List.take_of_length_le (by simp)
theorem zfa {α:Type} (f:Nat→Nat→α) (n k m:Nat) (u:α) (h:((List.range n).flatMap fun i=>(List.range k).map (f i))[m]? = some u):∃ i j,i<n∧j<k∧m=i*k+j∧u=f i j:=by
 have hm:=(List.getElem?_eq_some_iff.1 h).1
 rw [zbZ] at hm
 have hk:0<k:=by
  rcases Nat.eq_zero_or_pos k with h0 | h0
  ·subst h0;simp at hm
  ·exact h0
 have hi:m / k<n:=Nat.div_lt_of_lt_mul (by rw [Nat.mul_comm];exact hm)
 have hj:m % k<k:=Nat.mod_lt _ hk
 have hmm:m=(m / k)*k+m % k:=by rw [Nat.mul_comm];exact (Nat.div_add_mod m k).symm
 refine ⟨m / k,m % k,hi,hj,hmm,?_⟩
 have h1:=zgS f n k (m / k) hi
 have h2:((((List.range n).flatMap fun i=>(List.range k).map (f i)).drop (m / k*k)).take k)[m % k]? = some u:=by
  rw [List.getElem?_take,if_pos hj,List.getElem?_drop,← hmm];exact h
 rw [h1] at h2
 simp [hj] at h2
 exact h2.symm
theorem Rd.one {w:World} {S:Nat→Prop} {t:Ty} {v:Value} {d:D} (h:Rd w S t v d):v.oneCell'=true:=by
 cases h<;>rfl
theorem RdL.ones {w:World} {S:Nat→Prop}:∀ {ts:List Ty} {vs:List Value} {ds:List D},RdL w S ts vs ds→∀ u∈vs,u.oneCell'=true
 | [],[],[],_,u,hu=>by simp at hu
 | _::ts,_::vs,_::ds,h,u,hu=>by
  rcases List.mem_cons.1 hu with e | hu
  ·subst e;exact h.1.one
  ·exact RdL.ones (ts:=ts) (vs:=vs) (ds:=ds) h.2 u hu
 | _::_,[],_,h,_,_=>h.elim
 | _::_,_::_,[],h,_,_=>h.elim
 | [],_::_,_,h,_,_=>h.elim
 | [],[],_::_,h,_,_=>h.elim
def Info (P:Program) (E:TypeId) (k bytes:Nat):Prop:=∃ (i:TypeInfo) (z:Value),P.info? E=some i∧i.zero=some z∧i.size=k∧i.bytes=bytes∧z.cells.size=k
theorem zeh {P:Program} {w w2:World} {base:Nat} {t ty E:TypeId} {S:Nat→Prop} {fs:List Ty} {k bytes:Nat} (hk:fs.length=k) (hk0:0<k) (hkb:k≤64) (hbb:bytes≤1024) (ht:P.underlying t=some (.slice E)) (hi:Info P E k bytes)
  {v:Value} {rows:List (List D)} (hown:OwnR base w E S fs v rows) (hw2:Below w.heap.size w w2) (ad:Addr) (m c:Nat) (news:List Value) (ds:List (List D)) (hdm:ds.length=m)
  (hl:news.length=m*k) (hnews:∀ j u,news[j]? = some u→w2.cell? (ad.add j)=some u) (h1:∀ u∈news,u.oneCell'=true)
  (hn:∀ i,i<ds.length→RdL w2 (fun b=>S b∧v.ownBlock≠some b) fs ((news.drop (i*fs.length)).take fs.length) (ds.getD i [])) (hb:(rows.length+m)*1024≤140737488355328) (hbase:base≤w2.heap.size) :
  ∃ v' w',(Builtin.append_ #[t,t] ty #[v,.slice (some ad) m c]).run P w2 = .ok v' w'∧OwnR base w' E S fs v' (rows++ds)∧w2.grownBy w' v.ownBlock∧(v'.ownBlock=v.ownBlock∨v'.ownBlock=some w2.heap.size):=by
 subst hk
 obtain ⟨i,z,e1,e2,e3,e4,e5⟩:=hi
 obtain ⟨cells,ho,hr⟩:=hown.below hw2
 have hbb2:(rows.length+m)*bytes≤140737488355328:=Nat.le_trans (Nat.mul_le_mul_left _ hbb) hb
 obtain ⟨v',w',q1,q2,q3,_,q5⟩:=run_append_own_at (P:=P) w2 base t ty E i z fs.length bytes ht e1 e2 e3 e4 e5 hk0 v rows.length cells ho ad m c news hl hnews h1 (by unfold maxLen;omega) hbb2 hbase
 exact ⟨v',w',q1,OwnR.grows hr ho.1 hn (by rw [hdm];exact q2) q3 q5,q3,q5⟩
theorem zk5 {P:Program} {w2:World} {o:Oper} {a:Act} {K:Act→World→Prop} {Q:Exit→Act→World→Prop} (s x:Operand) (t:TypeId)
  (ho:o.op = .call {callee:= .builtin .append,args:= #[s,x],argTypes:= #[t,t]}) (v xv:Value) (hs:a.eval s=v) (hx:a.eval x=xv)
  (R:Value→World→Prop) (hrun:∃ v' w',(Builtin.append_ #[t,t] o.type #[v,xv]).run P w2 = .ok v' w'∧R v' w') (h:∀ v' w',R v' w'→K (a.put o.dst v') w'):o.wp P a w2 K Q:=by
 obtain ⟨v',w',hrun,hR⟩:=hrun
 unfold Oper.wp execOp
 simp only [ho,resolve,invoke,builtin,Sem.run_bind,Sem.run_pure,Result.andThen_ok,List.map_toArray,List.map_cons,List.map_nil,hs,hx,hrun]
 exact h v' w' hR
def Ty.flat:Ty→Bool
 | .sl _=>false
 | _=>true
theorem Rd.any {w:World} {S T:Nat→Prop} {t:Ty} {v:Value} {d:D} (hf:t.flat=true) (h:Rd w S t v d):Rd w T t v d:=by
 cases h with
 | int h=>exact .int h
 | bool=>exact .bool
 | str h=>exact .str h
 | emp _ _=>simp [Ty.flat] at hf
 | row _ _ _ _ _ _ _ _ _ _ _ _=>simp [Ty.flat] at hf
def nu (xs:List Int) (i:Nat):Int:=xs.getD i 0
theorem SlI.cell {w:World} {S:Nat→Prop} {b off n c i:Nat} {xs:List Int} (h:SlI w S (some ⟨b,off,none⟩) n c xs) (hi:i<n):b<w.heap.size∧w.cell? ⟨b,off+i,none⟩=some (.int .i64 (nu xs i))∧I64 (nu xs i):=by
 have hl:=h.len
 rw [zay] at hl
 obtain ⟨b2,off2,e,hS,hb,vals,hc,hr⟩:=h.rowAt (by omega)
 simp only [Option.some.injEq,Addr.mk.injEq,and_true] at e
 obtain ⟨rfl,rfl⟩:=e
 have h1:=(hr i hi).2 0 (by decide)
 have he:((ints xs).getD i []).getD 0 default = .int (nu xs i):=by simp [ints,List.getD,nu,show i<xs.length by omega]
 rw [he] at h1
 obtain ⟨e1,e2⟩:=Rd.i64 h1
 have h2:=hc i 0 hi (by decide)
 simp only [List.length_cons,List.length_nil,Nat.zero_add,Nat.mul_one,Nat.add_zero] at h2
 exact ⟨hb,by rw [h2,e1],e2⟩
theorem SlI.i64 {w:World} {S:Nat→Prop} {a:Option Addr} {n c:Nat} {xs:List Int} (h:SlI w S a n c xs):∀ x∈xs,I64 x:=by
 intro x hx
 obtain ⟨i,hi,rfl⟩:=List.mem_iff_getElem.1 hx
 have hl:=h.len
 rw [zay] at hl
 obtain ⟨b,off,rfl⟩:=h.addr (by omega)
 have:=(SlI.cell h (show i<n by omega)).2.2
 simpa [nu,List.getD,hi] using this
end Go.Proofs.Ytjfphnegcelbpaa
namespace Go.Proofs.Ytjfphnegcelbpaa
open Go.RowKit Go.ChangeShapes Go.WideShapes Go.Deep
abbrev It:=Int×Int
namespace Hp
def lt (a b:It):Bool:=decide (a.2<b.2)||(decide (a.2=b.2)&&decide (a.1<b.1))
def le (a b:It):Prop:=lt b a=false
theorem lt_iff {a b:It}:lt a b=true↔a.2<b.2∨(a.2=b.2∧a.1<b.1):=by simp [lt]
theorem le_iff {a b:It}:le a b↔a.2<b.2∨(a.2=b.2∧a.1≤b.1):=by
 unfold le
 rw [← Bool.not_eq_true,lt_iff];omega
theorem le_refl (a:It):le a a:=le_iff.2 (.inr ⟨rfl,Int.le_refl _⟩)
theorem le_trans {a b c:It} (h:le a b) (k:le b c):le a c:=by rw [le_iff] at *;omega
theorem zbF {a b:It} (h:lt a b=true):le a b:=by rw [le_iff];rw [lt_iff] at h;omega
theorem zj9 {a b:It} (h:le a b) (k:le b a):a=b:=by
 rw [le_iff] at *
 exact Prod.ext (by omega) (by omega)
def at' (Q:List It) (i:Nat):It:=Q.getD i (0,0)
def swap (Q:List It) (i j:Nat):List It:=(Q.set i (at' Q j)).set j (at' Q i)
theorem zaj (Q:List It) (i j:Nat):(swap Q i j).length=Q.length:=by simp [swap]
theorem zcJ {Q:List It} {i k:Nat} {x:It} (hi:i<Q.length):at' (Q.set i x) k=if k=i then x else at' Q k:=by
 unfold at'
 rw [List.getD_eq_getElem?_getD,List.getD_eq_getElem?_getD,List.getElem?_set]
 by_cases h:i=k
 ·subst h;simp [hi]
 ·rw [if_neg h,if_neg (Ne.symm h)]
theorem zbh {Q:List It} {i j k:Nat} (hi:i<Q.length) (hj:j<Q.length):at' (swap Q i j) k=if k=j then at' Q i else if k=i then at' Q j else at' Q k:=by
 unfold swap
 rw [zcJ (by simpa using hj),zcJ hi]
theorem zb3 {Q:List It} {i j:Nat} (hi:i<Q.length) (hj:j<Q.length):(swap Q i j).Perm Q:=by
 unfold swap
 have h1:((Q.set i Q[j]).set j Q[i]).Perm Q:=List.set_set_perm hi hj
 have e1:at' Q j=Q[j]:=by unfold at';simp [List.getD,hj]
 have e2:at' Q i=Q[i]:=by unfold at';simp [List.getD,hi]
 rw [e1,e2];exact h1
def par (c:Nat):Nat:=(c-1) / 2
theorem za6 {c:Nat} (h:0<c):par c<c:=by unfold par;omega
def Heap (Q:List It) (n:Nat):Prop:=∀ c,0<c→c<n→le (at' Q (par c)) (at' Q c)
structure Hole (Q:List It) (n h:Nat):Prop where
 far:∀ c,0<c→c<n→c≠h→par c≠h→le (at' Q (par c)) (at' Q c)
 up:0<h→∀ c,0<c→c<n→par c=h→le (at' Q (par h)) (at' Q c)
def Kids (Q:List It) (n h:Nat):Prop:=∀ c,0<c→c<n→par c=h→le (at' Q h) (at' Q c)
theorem Heap.hole {Q:List It} {n h:Nat} (H:Heap Q n) (hh:h<n):Hole Q n h:=
 ⟨fun c h0 hn _ _=>H c h0 hn,fun hp c h0 hn e=>le_trans (H h hp hh) (by have:=H c h0 hn;rw [e] at this;exact this)⟩
def up (Q:List It) (j:Nat):List It:=if h:0<j then (if lt (at' Q j) (at' Q (par j)) then up (swap Q (par j) j) (par j) else Q) else Q
termination_by j
decreasing_by exact za6 h
theorem zd6 (Q:List It) (j:Nat):(up Q j).length=Q.length:=by
 induction j using Nat.strongRecOn generalizing Q with
 | _ j ih=>
  rw [up]
  split
  ·rename_i h
   split
   ·rw [ih _ (za6 h),zaj]
   ·rfl
  ·rfl
theorem zee {Q:List It} {j:Nat} (hj:j<Q.length):(up Q j).Perm Q:=by
 induction j using Nat.strongRecOn generalizing Q with
 | _ j ih=>
  rw [up]
  split
  ·rename_i h
   have hp:=za6 h
   split
   ·exact (ih _ hp (by rw [zaj];omega)).trans (zb3 (by omega) hj)
   ·exact List.Perm.refl _
  ·exact List.Perm.refl _
theorem zk6 {Q:List It} {j k:Nat} (hj:j<Q.length) (hk:j<k):at' (up Q j) k=at' Q k:=by
 induction j using Nat.strongRecOn generalizing Q with
 | _ j ih=>
  rw [up]
  split
  ·rename_i h
   have hp:=za6 h
   split
   ·rw [ih _ hp (by rw [zaj];omega) (by omega),zbh (by omega) hj,if_neg (by omega),if_neg (by omega)]
   ·rfl
  ·rfl
theorem zfX {Q:List It} {n j:Nat} (hn:n≤Q.length) (hj:j<n) (H:Hole Q n j) (K:Kids Q n j):Heap (up Q j) n:=by
 induction j using Nat.strongRecOn generalizing Q with
 | _ j ih=>
  rw [up]
  split
  ·rename_i h0
   have hp:=za6 h0
   have hpp:par (par j)≤par j:=by unfold par;omega
   split
   ·rename_i hl
    have hs:∀ k,at' (swap Q (par j) j) k=if k=j then at' Q (par j) else if k=par j then at' Q j else at' Q k:=fun k=>zbh (by omega) (by omega)
    refine ih _ hp (by rw [zaj];exact hn) (by omega) ⟨fun c c0 cn c1 c2=>?_,fun p0 c c0 cn c2=>?_⟩ fun c c0 cn c2=>?_
    ·by_cases e:c=j
     ·subst e;exact absurd rfl c2
     by_cases e2:par c=j
     ·rw [hs,hs,if_pos e2,if_neg e,if_neg c1]
      exact H.up h0 c c0 cn e2
     ·rw [hs,hs,if_neg e2,if_neg c2,if_neg e,if_neg c1]
      exact H.far c c0 cn e e2
    ·have hq:par (par j)<par j:=za6 p0
     have h1:le (at' Q (par (par j))) (at' Q (par j)):=H.far (par j) p0 (by omega) (by omega) (by omega)
     rw [hs,hs,if_neg (by omega),if_neg (by omega)]
     by_cases e:c=j
     ·rw [if_pos e];exact h1
     ·have h2:c≠par j:=fun e2=>by have:=za6 c0;omega
      rw [if_neg e,if_neg h2]
      have h3:=H.far c c0 cn e (by omega)
      rw [c2] at h3
      exact le_trans h1 h3
    ·rw [hs,hs,if_neg (by omega),if_pos rfl]
     by_cases e:c=j
     ·rw [if_pos e];exact zbF hl
     ·have h2:c≠par j:=fun e2=>by have:=za6 c0;omega
      rw [if_neg e,if_neg h2]
      have h3:=H.far c c0 cn e (by omega)
      rw [c2] at h3
      exact le_trans (zbF hl) h3
   ·rename_i hl
    intro c c0 cn
    by_cases e:c=j
    ·subst e;exact (Bool.not_eq_true _).mp hl
    by_cases e2:par c=j
    ·rw [e2];exact K c c0 cn e2
    ·exact H.far c c0 cn e e2
  ·rename_i h0
   intro c c0 cn
   by_cases e2:par c=j
   ·rw [e2];exact K c c0 cn e2
   ·exact H.far c c0 cn (by omega) e2
def kid (Q:List It) (i n:Nat):Nat:=if 2*i+2<n∧lt (at' Q (2*i+2)) (at' Q (2*i+1))=true then 2*i+2 else 2*i+1
theorem ziN (Q:List It) (i n:Nat):kid Q i n=2*i+1∨kid Q i n=2*i+2∧2*i+2<n:=by
 unfold kid;split
 ·rename_i h;exact .inr ⟨rfl,h.1⟩
 ·exact .inl rfl
def goes (Q:List It) (i n:Nat):Bool:=decide (2*i+1<n)&&lt (at' Q (kid Q i n)) (at' Q i)
def down (Q:List It) (i n:Nat):List It:=if h:goes Q i n=true then down (swap Q i (kid Q i n)) (kid Q i n) n else Q
termination_by n-i
decreasing_by
 unfold goes at h
 simp only [Bool.and_eq_true,decide_eq_true_eq] at h
 have:=ziN Q i n
 omega
theorem zbx {Q:List It} {i n:Nat} (h:goes Q i n=true):i<kid Q i n∧kid Q i n<n∧par (kid Q i n)=i∧lt (at' Q (kid Q i n)) (at' Q i)=true:=by
 unfold goes at h
 simp only [Bool.and_eq_true,decide_eq_true_eq] at h
 have:=ziN Q i n
 unfold par
 exact ⟨by omega,by omega,by omega,h.2⟩
theorem zcp {n:Nat} {p:List It→Nat→Prop} (h:∀ Q i,(goes Q i n=true→p (swap Q i (kid Q i n)) (kid Q i n))→p Q i):∀ Q i,p Q i:=by
 have:∀ m Q i,n-i≤m→p Q i:=by
  intro m
  induction m with
  | zero=>
   intro Q i hm
   refine h Q i fun g=>?_
   have:=zbx g
   omega
  | succ m ih=>
   intro Q i hm
   refine h Q i fun g=>ih _ _ ?_
   have:=zbx g
   omega
 exact fun Q i=>this _ Q i (Nat.le_refl _)
theorem zco (n:Nat):∀ (Q:List It) (i:Nat),(down Q i n).length=Q.length:=
 zcp (n:=n) fun Q i ih=>by
  rw [down];split
  ·rename_i g;rw [ih g,zaj]
  ·rfl
theorem zhj {n:Nat}:∀ (Q:List It) (i:Nat),n≤Q.length→(down Q i n).Perm Q:=
 zcp (n:=n) fun Q i ih hn=>by
  rw [down];split
  ·rename_i g
   have:=zbx g
   exact (ih g (by rw [zaj];exact hn)).trans (zb3 (by omega) (by omega))
  ·exact List.Perm.refl _
theorem ziq {n:Nat}:∀ (Q:List It) (i:Nat),n≤Q.length→∀ k,n≤k→at' (down Q i n) k=at' Q k:=
 zcp (n:=n) fun Q i ih hn k hk=>by
  rw [down];split
  ·rename_i g
   have:=zbx g
   rw [ih g (by rw [zaj];exact hn) k hk,zbh (by omega) (by omega),if_neg (by omega),if_neg (by omega)]
  ·rfl
theorem zgC {Q:List It} {n i c:Nat} (c0:0<c) (cn:c<n) (hp:par c=i):le (at' Q (kid Q i n)) (at' Q c):=by
 have hc:c=2*i+1∨c=2*i+2:=by unfold par at hp;omega
 unfold kid
 split
 ·rename_i h
  rcases hc with rfl | rfl
  ·exact zbF h.2
  ·exact le_refl _
 ·rename_i h
  rcases hc with rfl | rfl
  ·exact le_refl _
  ·have h2:¬ lt (at' Q (2*i+2)) (at' Q (2*i+1))=true:=fun g=>h ⟨cn,g⟩
   exact (Bool.not_eq_true _).mp h2
theorem zdZ {Q:List It} {n i:Nat} (hn:n≤Q.length) (g:goes Q i n=true) (H:Hole Q n i):Hole (swap Q i (kid Q i n)) n (kid Q i n)∧le (at' (swap Q i (kid Q i n)) i) (at' (swap Q i (kid Q i n)) (kid Q i n)):=by
 obtain ⟨g1,g2,g3,g4⟩:=zbx g
 obtain ⟨j,hj⟩:∃ j,kid Q i n=j:=⟨_,rfl⟩
 have hm:∀ c,0<c→c<n→par c=i→le (at' Q j) (at' Q c):=fun c c0 cn hp=>hj▸zgC c0 cn hp
 rw [hj] at g1 g2 g3 g4 ⊢
 have hs:∀ k,at' (swap Q i j) k=if k=j then at' Q i else if k=i then at' Q j else at' Q k:=fun k=>zbh (by omega) (by omega)
 refine ⟨⟨fun c c0 cn c1 c2=>?_,fun _ c c0 cn c2=>?_⟩,?_⟩
 ·rw [hs,hs,if_neg c2,if_neg c1]
  by_cases e:c=i
  ·subst e
   have:=za6 c0
   rw [if_neg (by omega),if_pos rfl]
   exact H.up c0 j (by omega) g2 g3
  ·rw [if_neg e]
   by_cases e2:par c=i
   ·rw [if_pos e2];exact hm c c0 cn e2
   ·rw [if_neg e2];exact H.far c c0 cn e e2
 ·have hcj:=za6 c0
  rw [hs,hs,if_neg (by omega),if_pos (by omega),if_neg (by omega),if_neg (by omega)]
  have:=H.far c c0 cn (by omega) (by omega)
  rw [c2] at this;exact this
 ·rw [hs,hs,if_neg (by omega),if_pos rfl,if_pos rfl]
  exact zbF g4
theorem zd8 {Q:List It} {n i:Nat} (g:¬ goes Q i n=true):Kids Q n i:=by
 intro c c0 cn hp
 have h1:=zgC (Q:=Q) c0 cn hp
 have h2:2*i+1<n:=by unfold par at hp;omega
 have h3:lt (at' Q (kid Q i n)) (at' Q i)=false:=by
  unfold goes at g
  rw [decide_eq_true h2,Bool.true_and] at g
  exact (Bool.not_eq_true _).mp g
 exact le_trans h3 h1
theorem zhk {n:Nat}:∀ (Q:List It) (i:Nat),n≤Q.length→i<n→Hole Q n i→(0<i→le (at' Q (par i)) (at' Q i))→Heap (down Q i n) n:=
 zcp (n:=n) fun Q i ih hn hi H U=>by
  rw [down];split
  ·rename_i g
   have s:=zdZ hn g H
   have t:=zbx g
   exact ih g (by rw [zaj];exact hn) t.2.1 s.1 fun _=>by rw [t.2.2.1];exact s.2
  ·rename_i g
   have K:=zd8 g
   intro c c0 cn
   by_cases e:c=i
   ·subst e;exact U c0
   by_cases e2:par c=i
   ·have:=K c c0 cn e2;rw [e2];exact this
   ·exact H.far c c0 cn e e2
def fix (Q:List It) (i n:Nat):List It:=if goes Q i n=true then down Q i n else up Q i
theorem zeu (Q:List It) (i n:Nat):(fix Q i n).length=Q.length:=by
 unfold fix;split
 ·exact zco n Q i
 ·exact zd6 Q i
theorem zdv {Q:List It} {i n:Nat} (hn:n≤Q.length) (hi:i<n):(fix Q i n).Perm Q:=by
 unfold fix;split
 ·exact zhj Q i hn
 ·exact zee (by omega)
theorem zjI {Q:List It} {i n:Nat} (hn:n≤Q.length) (hi:i<n) {k:Nat} (hk:n≤k):at' (fix Q i n) k=at' Q k:=by
 unfold fix;split
 ·exact ziq Q i hn k hk
 ·exact zk6 (by omega) (by omega)
theorem zfb {Q:List It} {i n:Nat} (hn:n≤Q.length) (hi:i<n) (H:Hole Q n i):Heap (fix Q i n) n:=by
 unfold fix;split
 ·rename_i g
  have s:=zdZ hn g H
  have t:=zbx g
  rw [down,dif_pos g]
  exact zhk _ _ (by rw [zaj];exact hn) t.2.1 s.1 fun _=>by rw [t.2.2.1];exact s.2
 ·rename_i g
  exact zfX hn hi H (zd8 g)
theorem zgK {Q:List It} {n:Nat} (H:Heap Q n):∀ c,c<n→le (at' Q 0) (at' Q c):=by
 intro c
 induction c using Nat.strongRecOn with
 | _ c ih=>
  intro cn
  by_cases h:0<c
  ·have:=za6 h
   exact le_trans (ih _ this (by omega)) (H c h cn)
  ·have:c=0:=by omega
   subst this;exact le_refl _
end Hp
end Go.Proofs.Ytjfphnegcelbpaa
namespace Go.Proofs.Ytjfphnegcelbpaa
open Go.RowKit Go.ChangeShapes Go.WideShapes Go.Deep
namespace Hp
def Srt (L:List It):Prop:=L.Pairwise (fun a b=>lt a b=true)
def Ids (L:List It):Prop:=L.Pairwise (fun a b=>a.1≠b.1)
def zao (L:List It) (id:Int):List It:=L.filter (fun x=>x.1 != id)
def insL (x:It):List It→List It
 | []=>[x]
 | y::l=>if lt x y then x::y::l else y::insL x l
def setL (L:List It) (id t:Int):List It:=insL (id,t) (zao L id)
def za4 (L:List It) (id:Int):Bool:=L.any (fun x=>x.1==id)
theorem hasId_iff {L:List It} {id:Int}:za4 L id=true↔∃ x∈L,x.1=id:=by simp [za4]
theorem mem_drop {L:List It} {id:Int} {x:It}:x∈zao L id↔x∈L∧x.1≠id:=by simp [zao]
theorem zhV {a b c:It} (h:lt a b=true) (k:lt b c=true):lt a c=true:=by rw [lt_iff] at *;omega
theorem zkJ {a b:It} (h:¬ lt a b=true) (hn:a.1≠b.1):lt b a=true:=by rw [lt_iff] at *;omega
theorem zbH (x:It):∀ L:List It,(insL x L).Perm (x::L)
 | []=>List.Perm.refl _
 | y::l=>by
  unfold insL;split
  ·exact List.Perm.refl _
  ·exact ((zbH x l).cons y).trans (List.Perm.swap x y l)
theorem ins_mem {x y:It} {L:List It}:y∈insL x L↔y=x∨y∈L:=by rw [(zbH x L).mem_iff,List.mem_cons]
theorem zgF {x:It}:∀ {L:List It},Srt L→(∀ y∈L,x.1≠y.1)→Srt (insL x L)
 | [],_,_=>List.pairwise_cons.2 ⟨fun _ h=>(by cases h),List.Pairwise.nil⟩
 | y::l,h,hn=>by
  obtain ⟨h1,h2⟩:=List.pairwise_cons.1 h
  unfold insL;split
  ·rename_i g
   refine List.pairwise_cons.2 ⟨fun z hz=>?_,h⟩
   rcases List.mem_cons.1 hz with rfl | hz
   ·exact g
   ·exact zhV g (h1 z hz)
  ·rename_i g
   refine List.pairwise_cons.2 ⟨fun z hz=>?_,zgF h2 fun z hz=>hn z (List.mem_cons_of_mem _ hz)⟩
   rcases ins_mem.1 hz with rfl | hz
   ·exact zkJ g (hn y (List.mem_cons_self ..))
   ·exact h1 z hz
theorem Ids.perm {L M:List It} (h:Ids L) (p:L.Perm M):Ids M:=p.pairwise h (fun h=>Ne.symm h)
theorem zfl {L:List It} {id:Int} (h:Ids L):Ids (zao L id):=List.Pairwise.filter _ h
theorem zfk {L:List It} {id:Int} (h:Srt L):Srt (zao L id):=List.Pairwise.filter _ h
theorem zgj {L:List It} {id t:Int} (h:Ids L):Ids (setL L id t):=
 Ids.perm (L:=(id,t)::zao L id) (List.pairwise_cons.2 ⟨fun y hy=>Ne.symm (mem_drop.1 hy).2,zfl h⟩) (zbH _ _).symm
theorem zgi {L:List It} {id t:Int} (h:Srt L):Srt (setL L id t):=zgF (zfk h) fun y hy=>Ne.symm (mem_drop.1 hy).2
theorem zbO {L:List It} {id:Int} (h:∀ x∈L,x.1≠id):zao L id=L:=by
 unfold zao;rw [List.filter_eq_self]
 intro x hx;simpa using h x hx
theorem zcf {L:List It} {x:It} {id:Int} (h:x.1=id):zao (x::L) id=zao L id:=by
 unfold zao;rw [List.filter_cons_of_neg (by simp [h])]
theorem zdY {L:List It} {x:It} {id:Int} (h:x.1≠id):zao (x::L) id=x::zao L id:=by
 unfold zao;rw [List.filter_cons_of_pos (by simp [h])]
theorem zec (x:It) (Q:List It) (k:Nat):at' (x::Q) (k+1)=at' Q k:=by unfold at';rw [List.getD_cons_succ]
theorem zeb {Q:List It} {k:Nat} (h:k<Q.length):at' Q k∈Q:=by
 unfold at'
 rw [List.getD_eq_getElem?_getD,List.getElem?_eq_getElem h]
 exact List.getElem_mem h
theorem ziL {Q:List It} {x:It} (h:x∈Q):∃ k,k<Q.length∧at' Q k=x:=by
 obtain ⟨k,hk,e⟩:=List.mem_iff_getElem.1 h
 refine ⟨k,hk,?_⟩
 unfold at'
 rw [List.getD_eq_getElem?_getD,List.getElem?_eq_getElem hk];exact e
theorem zdj {x:It}:∀ {Q:List It} {k:Nat},Ids Q→k<Q.length→(Q.set k x).Perm (x::zao Q (at' Q k).1)
 | [],k,_,h=>absurd h (Nat.not_lt_zero _)
 | y::Q,0,hi,_=>by
  obtain ⟨h1,h2⟩:=List.pairwise_cons.1 hi
  show (x::Q).Perm (x::zao (y::Q) y.1)
  rw [zcf rfl,zbO fun z hz=>Ne.symm (h1 z hz)]
 | y::Q,k+1,hi,h=>by
  obtain ⟨h1,h2⟩:=List.pairwise_cons.1 hi
  have hk:k<Q.length:=by simpa using h
  rw [zec,List.set_cons_succ,zdY (h1 _ (zeb hk))]
  exact ((zdj h2 hk).cons y).trans (List.Perm.swap _ _ _)
theorem zgk {Q:List It} {k:Nat} (h:Ids Q) (hk:k<Q.length):Q.Perm (at' Q k::zao Q (at' Q k).1):=by
 have:=zdj (x:=at' Q k) h hk
 have e:Q.set k (at' Q k)=Q:=by
  refine List.ext_getElem? fun i=>?_
  rw [List.getElem?_set]
  split
  ·rename_i e;subst e
   unfold at'
   rw [List.getD_eq_getElem?_getD,List.getElem?_eq_getElem hk];rfl
  ·rfl
 rw [e] at this;exact this
theorem zcH {L M:List It} {id:Int} (h:L.Perm M):(zao L id).Perm (zao M id):=h.filter _
structure HeapOf (Q L:List It):Prop where
 perm:Q.Perm L
 heap:Heap Q Q.length
 srt:Srt L
 ids:Ids L
theorem HeapOf.idq {Q L:List It} (h:HeapOf Q L):Ids Q:=h.ids.perm h.perm.symm
theorem HeapOf.nil:HeapOf [] []:=⟨List.Perm.refl _,fun c h0 h=>absurd h (Nat.not_lt_zero _),List.Pairwise.nil,List.Pairwise.nil⟩
theorem HeapOf.head {Q:List It} {x:It} {L:List It} (h:HeapOf Q (x::L)):at' Q 0=x:=by
 have hl:=h.perm.length_eq
 have h0:0<Q.length:=by rw [hl];simp
 have m1:at' Q 0∈x::L:=h.perm.mem_iff.1 (zeb h0)
 obtain ⟨k,hk,e⟩:=ziL (h.perm.mem_iff.2 (List.mem_cons_self ..):x∈Q)
 have r:=zgK h.heap k hk
 rw [e] at r
 rcases List.mem_cons.1 m1 with g | g
 ·exact g
 ·exact zj9 r (zbF ((List.pairwise_cons.1 h.srt).1 _ g))
theorem HeapOf.push {Q L:List It} {id t:Int} (h:HeapOf Q L) (hn:za4 L id=false):HeapOf (up (Q++[(id,t)]) Q.length) (setL L id t):=by
 have hnn:∀ x∈L,x.1≠id:=fun x hx e=>by
  have:=hasId_iff.2 ⟨x,hx,e⟩
  rw [hn] at this;cases this
 have hlen:(Q++[(id,t)]).length=Q.length+1:=by simp
 have hat:∀ k,k<Q.length→at' (Q++[(id,t)]) k=at' Q k:=fun k hk=>by
  unfold at';rw [List.getD_eq_getElem?_getD,List.getD_eq_getElem?_getD,List.getElem?_append_left hk]
 refine ⟨?_,?_,zgi h.srt,zgj h.ids⟩
 ·have e:zao L id=L:=zbO hnn
  refine (zee (by omega)).trans ?_
  refine List.Perm.trans ?_ (zbH _ _).symm
  rw [e]
  exact List.perm_append_comm.trans ((h.perm.cons (id,t)))
 ·rw [zd6,hlen]
  refine zfX (by omega) (by omega) ⟨fun c c0 cn c1 c2=>?_,fun h0 c c0 cn c2=>?_⟩ fun c c0 cn c2=>?_
  ·have:=za6 c0
   rw [hat _ (by omega),hat _ (by omega)]
   exact h.heap c c0 (by omega)
  ·have:=za6 c0
   omega
  ·have:=za6 c0
   omega
theorem HeapOf.turn {Q L:List It} {t:Int} {k:Nat} (h:HeapOf Q L) (hk:k<Q.length):HeapOf (fix (Q.set k ((at' Q k).1,t)) k Q.length) (setL L (at' Q k).1 t):=by
 have hl:(Q.set k ((at' Q k).1,t)).length=Q.length:=by simp
 refine ⟨?_,?_,zgi h.srt,zgj h.ids⟩
 ·refine (zdv (by omega) hk).trans ((zdj h.idq hk).trans ?_)
  exact ((zcH h.perm).cons _).trans (zbH _ _).symm
 ·rw [zeu,hl]
  have hs:∀ c,at' (Q.set k ((at' Q k).1,t)) c=if c=k then ((at' Q k).1,t) else at' Q c:=fun c=>zcJ hk
  refine zfb (by omega) hk ⟨fun c c0 cn c1 c2=>?_,fun h0 c c0 cn c2=>?_⟩
  ·rw [hs,hs,if_neg c2,if_neg c1];exact h.heap c c0 cn
  ·have:=za6 h0
   have g:=za6 c0
   rw [hs,hs,if_neg (by omega),if_neg (by omega)]
   exact (h.heap.hole hk).up h0 c c0 cn c2
def rem1 (Q:List It) (k:Nat):List It:=if Q.length-1≠k then fix (swap Q k (Q.length-1)) k (Q.length-1) else Q
theorem zcn (Q:List It) (k:Nat):(rem1 Q k).length=Q.length:=by
 unfold rem1;split
 ·rw [zeu,zaj]
 ·rfl
theorem zgq {Q:List It} {k:Nat} (hk:k<Q.length):at' (rem1 Q k) (Q.length-1)=at' Q k:=by
 unfold rem1;split
 ·rename_i h
  rw [zjI (by rw [zaj];omega) (by omega) (Nat.le_refl _),zbh hk (by omega),if_pos rfl]
 ·rename_i h
  have h:Q.length-1=k:=Classical.not_not.1 h
  rw [h]
theorem zgg {Q:List It} (h:0<Q.length):Q=Q.take (Q.length-1)++[at' Q (Q.length-1)]:=by
 have e:at' Q (Q.length-1)=Q.getLast (List.ne_nil_of_length_pos h):=by
  unfold at'
  rw [List.getD_eq_getElem?_getD,List.getElem?_eq_getElem (by omega),List.getLast_eq_getElem];rfl
 rw [e,← List.dropLast_eq_take]
 exact (List.dropLast_concat_getLast _).symm
theorem HeapOf.gone {Q L:List It} {k:Nat} (h:HeapOf Q L) (hk:k<Q.length):HeapOf ((rem1 Q k).take (Q.length-1)) (zao L (at' Q k).1):=by
 have hp:(rem1 Q k).Perm Q:=by
  unfold rem1;split
  ·exact (zdv (by rw [zaj];omega) (by omega)).trans (zb3 hk (by omega))
  ·exact List.Perm.refl _
 have hat:∀ c,c<Q.length-1→at' ((rem1 Q k).take (Q.length-1)) c=at' (rem1 Q k) c:=fun c hc=>by
  unfold at';rw [List.getD_eq_getElem?_getD,List.getD_eq_getElem?_getD,List.getElem?_take_of_lt hc]
 have hlen:((rem1 Q k).take (Q.length-1)).length=Q.length-1:=by rw [List.length_take,zcn];omega
 refine ⟨?_,?_,zfk h.srt,zfl h.ids⟩
 ·have e:=zgg (Q:=rem1 Q k) (by rw [zcn];omega)
  rw [zcn,zgq hk] at e
  have p1:(at' Q k::(rem1 Q k).take (Q.length-1)).Perm (at' Q k::zao Q (at' Q k).1):=by
   refine List.Perm.trans ?_ (hp.trans (zgk h.idq hk))
   have p2:(rem1 Q k).Perm (at' Q k::(rem1 Q k).take (Q.length-1)):=by
    conv=>lhs;rw [e]
    exact List.perm_append_comm
   exact p2.symm
  exact p1.cons_inv.trans (zcH h.perm)
 ·rw [hlen]
  intro c c0 cn
  have hc:=za6 c0
  rw [hat _ (by omega),hat _ cn]
  have hh:Heap (rem1 Q k) (Q.length-1):=by
   unfold rem1;split
   ·rename_i g
    have hs:∀ c,c<Q.length-1→at' (swap Q k (Q.length-1)) c=if c=k then at' Q (Q.length-1) else at' Q c:=fun c hc=>by
     rw [zbh hk (by omega),if_neg (by omega)]
    refine zfb (by rw [zaj];omega) (by omega) ⟨fun c c0 cn c1 c2=>?_,fun h0 c c0 cn c2=>?_⟩
    ·have:=za6 c0
     rw [hs _ (by omega),hs _ cn,if_neg c2,if_neg c1]
     exact h.heap c c0 (by omega)
    ·have:=za6 h0
     have g2:=za6 c0
     rw [hs _ (by omega),hs _ cn,if_neg (by omega),if_neg (by omega)]
     exact (h.heap.hole hk).up h0 c c0 (by omega) c2
   ·intro c c0 cn
    exact h.heap c c0 (by omega)
  exact hh c c0 cn
end Hp
end Go.Proofs.Ytjfphnegcelbpaa
namespace Go.Proofs.Ytjfphnegcelbpaa
open Go.RowKit Go.ChangeShapes Go.WideShapes Go.Deep Hp
abbrev TQ:TypeId:=84
abbrev TC:TypeId:=78
abbrev TP:TypeId:=79
abbrev TI:TypeId:=82
theorem zhT {n : Nat} (p : Value) (w : World) : (method (n + 1) TQ p "Push").run Try.prog w = .ok (93, p) w := by kernel_rfl
theorem zen {n : Nat} (p : Value) (w : World) : (method (n + 1) TQ p "Pop").run Try.prog w = .ok (92, p) w := by kernel_rfl
theorem zeo {n b : Nat} {w : World} {v : Value} (h : w.cell? ⟨b, 0, none⟩ = some v) : (method (n + 1) TQ (.pointer (some ⟨b, 0, none⟩)) "Len").run Try.prog w = .ok (89, v) w := by
 have e : (method (n + 1) TQ (.pointer (some ⟨b, 0, none⟩)) "Len").run Try.prog w = (do let x ← loadVar 76 ⟨b, 0, none⟩; pure (89, x) : Sem (FuncId × Value)).run Try.prog w := by kernel_rfl
 have e2:(loadVar 76 ⟨b,0,none⟩).run Try.prog w = .ok v w:=by simp [loadVar,h]
 rw [e,Sem.run_bind,e2];rfl
theorem zbB {n b : Nat} {w : World} {v : Value} (h : w.cell? ⟨b, 0, none⟩ = some v) : (method (n + 1) TQ (.pointer (some ⟨b, 0, none⟩)) "Less").run Try.prog w = .ok (90, v) w := by
 have e : (method (n + 1) TQ (.pointer (some ⟨b, 0, none⟩)) "Less").run Try.prog w = (do let x ← loadVar 76 ⟨b, 0, none⟩; pure (90, x) : Sem (FuncId × Value)).run Try.prog w := by kernel_rfl
 have e2:(loadVar 76 ⟨b,0,none⟩).run Try.prog w = .ok v w:=by simp [loadVar,h]
 rw [e,Sem.run_bind,e2];rfl
theorem zbA {n b : Nat} {w : World} {v : Value} (h : w.cell? ⟨b, 0, none⟩ = some v) : (method (n + 1) TQ (.pointer (some ⟨b, 0, none⟩)) "Swap").run Try.prog w = .ok (91, v) w := by
 have e : (method (n + 1) TQ (.pointer (some ⟨b, 0, none⟩)) "Swap").run Try.prog w = (do let x ← loadVar 76 ⟨b, 0, none⟩; pure (91, x) : Sem (FuncId × Value)).run Try.prog w := by kernel_rfl
 have e2:(loadVar 76 ⟨b,0,none⟩).run Try.prog w = .ok v w:=by simp [loadVar,h]
 rw [e,Sem.run_bind,e2];rfl
def ptrV (p:Nat):Value:= .pointer (some ⟨p,0,none⟩)
def itC (x:It) (k:Nat):Array Value:= #[.int .i64 x.1,.int .i64 x.2,.int .i64 (k:Int)]
structure QOk (w:World) (b:Nat) (v mv:Value) (ps:List Nat) (Q:List It):Prop where
 blk:w.heap[b]? = some (.cells #[v,mv] TC (0,0))
 row:w.ownsRow 0 TP 1 v Q.length (ps.map ptrV)
 len:ps.length=Q.length
 it:∀ k,k<Q.length→w.heap[ps.getD k 0]? = some (.cells (itC (at' Q k) k) TI (0,0))
 i64:∀ x∈Q,I64 x.1∧I64 x.2
 small:Q.length≤1000000
theorem QOk.form {w:World} {b:Nat} {v mv:Value} {ps:List Nat} {Q:List It} (h:QOk w b v mv ps Q) (hl:0<Q.length):∃ g cap,v = .slice (some ⟨g,0,none⟩) Q.length cap∧(∀ k,k<Q.length→w.cell? ⟨g,k,none⟩=some (ptrV (ps.getD k 0)))∧∀ k,w.frozen? ⟨g,k,none⟩=false:=by
 obtain ⟨g,cap,e,_⟩:=h.row.form hl
 refine ⟨g,cap,e,fun k hk=>?_,fun k=>?_⟩
 ·have hr:=h.row
  rw [e] at hr
  rw [hr.cellAt k (by omega),List.getElem?_map,List.getD_eq_getElem?_getD,List.getElem?_eq_getElem (by rw [h.len];exact hk)]
  rfl
 ·have hr:=h.row
  rw [e] at hr
  exact hr.frozenAt k
theorem zag {w:World} {p:Nat} {c:Array Value} {T:TypeId} (h:w.heap[p]? = some (.cells c T (0,0))) (i:Nat):w.cell? ⟨p,i,none⟩=c[i]? := by simp [World.cell?,h]
theorem zbl {w:World} {p:Nat} {c:Array Value} {T:TypeId} (h:w.heap[p]? = some (.cells c T (0,0))) (i:Nat):w.frozen? ⟨p,i,none⟩=false:=by simp [World.frozen?,h]
theorem QOk.itc {w:World} {b:Nat} {v mv:Value} {ps:List Nat} {Q:List It} (h:QOk w b v mv ps Q) {k:Nat} (hk:k<Q.length):w.cell? ⟨ps.getD k 0,0,none⟩=some (.int .i64 (at' Q k).1)∧w.cell? ⟨ps.getD k 0,1,none⟩=some (.int .i64 (at' Q k).2)∧w.cell? ⟨ps.getD k 0,2,none⟩=some (.int .i64 (k:Int))∧∀ i,w.frozen? ⟨ps.getD k 0,i,none⟩=false:=
 ⟨zag (h.it k hk) 0,zag (h.it k hk) 1,zag (h.it k hk) 2,zbl (h.it k hk)⟩
def Drw (w w':World):Prop:=∃ n,w'=w.drewN n
theorem Drw.refl (w:World):Drw w w:=⟨0,rfl⟩
theorem zeq {w:World} {v:Value} {n:Nat} {xs:List Value} (hr:w.ownsRow 0 TP 1 v n xs) (hn:n≤1000000):Calls Try.prog 89 #[v] w fun e w'=>e = .returned (.int .i64 n)∧Drw w w':=by
 rcases hr.2 with ⟨rfl,rfl⟩ | ⟨g,cap,cur,rfl,_⟩
 ·go_enter Try.func89,Try.ntmps89
  go_wp2
  go_ret
  exact ⟨rfl,Drw.refl _⟩
 ·go_enter Try.func89,Try.ntmps89
  go_wp2
  go_ret
  exact ⟨rfl,Drw.refl _⟩
theorem zbD {w:World} {b:Nat} {v mv:Value} {ps:List Nat} {Q:List It} (h:QOk w b v mv ps Q) {i j:Nat} (hi:i<Q.length) (hj:j<Q.length):Calls Try.prog 90 #[v,.int .i64 i,.int .i64 j] w fun e w'=>e = .returned (.bool (lt (at' Q i) (at' Q j)))∧Drw w w':=by
 obtain ⟨g,cap,rfl,hc,hz⟩:=h.form (by omega)
 have hs:=h.small
 have ci:=hc i hi
 have cj:=hc j hj
 obtain ⟨i0,i1,i2,_⟩:=h.itc hi
 obtain ⟨j0,j1,j2,_⟩:=h.itc hj
 have H:=Lib.hid h
 clear h hc hz
 obtain ⟨pi,hpi⟩:∃ pi,ps.getD i 0=pi:=⟨_,rfl⟩
 obtain ⟨pj,hpj⟩:∃ pj,ps.getD j 0=pj:=⟨_,rfl⟩
 rw [hpi] at ci i0 i1 i2
 rw [hpj] at cj j0 j1 j2
 unfold ptrV at ci cj
 obtain ⟨n,hn⟩:∃ n,Q.length=n:=⟨_,rfl⟩
 rw [hn] at hi hj hs ⊢
 obtain ⟨⟨xi,yi⟩,hxi⟩:∃ x,at' Q i=x:=⟨_,rfl⟩
 obtain ⟨⟨xj,yj⟩,hxj⟩:∃ x,at' Q j=x:=⟨_,rfl⟩
 rw [hxi] at i0 i1 ⊢
 rw [hxj] at j0 j1 ⊢
 have hi2:(i:Int)<n:=by omega
 have hj2:(j:Int)<n:=by omega
 by_cases h1:yi<yj
 ·have e:lt (xi,yi) (xj,yj)=true:=lt_iff.2 (.inl h1)
  rw [e]
  have h1':decide (yi<yj)=true:=decide_eq_true h1
  go_enter Try.func90,Try.ntmps90
  go_wp2_with fail
  go_region
  go_wp2
  go_ret
  exact ⟨rfl,_,rfl⟩
 have h1':decide (yi<yj)=false:=decide_eq_false h1
 by_cases h2:yi=yj
 ·subst h2
  have h2':(yi==yi)=true:=beq_self_eq_true _
  have e:lt (xi,yi) (xj,yi)=decide (xi<xj):=by simp [lt]
  rw [e]
  go_enter Try.func90,Try.ntmps90
  go_wp2_with fail
  go_region
  go_wp2
  go_ret
  exact ⟨rfl,_,rfl⟩
 ·have h2':(yi==yj)=false:=beq_eq_false_iff_ne.2 h2
  have e:lt (xi,yi) (xj,yj)=false:=by simp [lt,h1,h2]
  rw [e]
  go_enter Try.func90,Try.ntmps90
  go_wp2_with fail
  go_region
  go_wp2
  go_ret
  exact ⟨rfl,_,rfl⟩
end Go.Proofs.Ytjfphnegcelbpaa
namespace Go.Proofs.Ytjfphnegcelbpaa
open Go.RowKit Go.ChangeShapes Go.WideShapes Go.Deep Hp
def zbu (ps:List Nat) (i j:Nat):List Nat:=(ps.set i (ps.getD j 0)).set j (ps.getD i 0)
def QF (b:Nat) (v:Value) (ps:List Nat) (x:Nat):Prop:=x=b∨v.ownBlock=some x∨x∈ps
structure Turn (F:Nat→Prop) (w w':World):Prop where
 os:w'.os=w.os
 tape:w'.tape=w.tape
 output:w'.output=w.output
 size:w.heap.size≤w'.heap.size
 block:∀ b,b<w.heap.size→¬ F b→w'.heap[b]? = w.heap[b]?
theorem Turn.refl (F:Nat→Prop) (w:World):Turn F w w:=⟨rfl,rfl,rfl,Nat.le_refl _,fun _ _ _=>rfl⟩
theorem Turn.set {F:Nat→Prop} {w w':World} (h:Turn F w w') {p:Addr} (hp:F p.block) (u:Value):Turn F w (w'.setCell p u):=
 ⟨h.os,h.tape,h.output,by have:=h.size;simpa [World.setCell] using this,fun k hk hn=>by
  rw [heap_setCell_other w' p k u (fun e=>hn (by rw [e];exact hp))];exact h.block k hk hn⟩
theorem Turn.drew {F:Nat→Prop} {w w':World} (h:Turn F w w'):Turn F w w'.drew:=⟨h.os,h.tape,h.output,h.size,h.block⟩
theorem Turn.mono {F G:Nat→Prop} {w w':World} (h:Turn F w w') (hf:∀ x,F x→G x):Turn G w w':=⟨h.os,h.tape,h.output,h.size,fun b hb hn=>h.block b hb fun g=>hn (hf b g)⟩
theorem Turn.trans {F:Nat→Prop} {w w' w'':World} (h:Turn F w w') (k:Turn F w' w''):Turn F w w'' :=
 ⟨k.os.trans h.os,k.tape.trans h.tape,k.output.trans h.output,Nat.le_trans h.size k.size,fun b hb hn=>(k.block b (Nat.lt_of_lt_of_le hb h.size) hn).trans (h.block b hb hn)⟩
section facts
variable {w : World} {b : Nat} {v mv : Value} {ps : List Nat} {Q : List It}
theorem QOk.inj (h:QOk w b v mv ps Q) {i j:Nat} (hi:i<Q.length) (hj:j<Q.length) (e:ps.getD i 0=ps.getD j 0):i=j:=by
 have h1:=h.it i hi
 have h2:=h.it j hj
 rw [e,h2] at h1
 simp only [itC,Option.some.injEq,Obj.cells.injEq,Array.mk.injEq,List.cons.injEq,Value.int.injEq,true_and,and_true] at h1
 omega
theorem QOk.rowT (h:QOk w b v mv ps Q) {g:Nat} (hg:v.ownBlock=some g):∃ c,w.heap[g]? = some (.cells c TP (0,0)):=by
 rcases h.row.2 with ⟨rfl,_⟩ | ⟨g',cap,cur,rfl,_,hh,_⟩
 ·cases hg
 ·simp only [Value.ownBlock,Option.some.injEq] at hg
  subst hg
  exact ⟨cur,hh⟩
theorem QOk.ne_row (h:QOk w b v mv ps Q) {g k:Nat} (hg:v.ownBlock=some g) (hk:k<Q.length):ps.getD k 0≠g:=fun e=>by
 obtain ⟨c,hc⟩:=h.rowT hg
 have h1:=h.it k hk
 rw [e,hc] at h1
 simp at h1
 exact absurd h1.2 (by decide)
theorem QOk.ne_b (h:QOk w b v mv ps Q) {k:Nat} (hk:k<Q.length):ps.getD k 0≠b:=fun e=>by
 have h1:=h.it k hk
 rw [e,h.blk] at h1
 simp at h1
 exact absurd h1.2 (by decide)
theorem QOk.row_b (h:QOk w b v mv ps Q) {g:Nat} (hg:v.ownBlock=some g):g≠b:=fun e=>by
 obtain ⟨c,hc⟩:=h.rowT hg
 rw [e,h.blk] at hc
 simp at hc
 exact absurd hc.2 (by decide)
theorem QOk.mem (h:QOk w b v mv ps Q) {k:Nat} (hk:k<Q.length):ps.getD k 0∈ps:=by
 rw [List.getD_eq_getElem?_getD,List.getElem?_eq_getElem (by rw [h.len];exact hk)]
 exact List.getElem_mem _
theorem QOk.kept (h:QOk w b v mv ps Q) {w':World} (hk:∀ x,QF b v ps x→w'.heap[x]? = w.heap[x]?):QOk w' b v mv ps Q:=by
 refine ⟨(hk b (.inl rfl)).trans h.blk,?_,h.len,fun k hk2=>(hk _ (.inr (.inr (h.mem hk2)))).trans (h.it k hk2),h.i64,h.small⟩
 refine ⟨h.row.1,?_⟩
 rcases h.row.2 with hn | ⟨g,cap,cur,rfl,hb,hgg,rest⟩
 ·exact .inl hn
 ·exact .inr ⟨g,cap,cur,rfl,hb,(hk g (.inr (.inl rfl))).trans hgg,rest⟩
end facts
theorem zcW {ps:List Nat} {i j k:Nat} (hi:i<ps.length) (hj:j<ps.length):(zbu ps i j).getD k 0=if k=j then ps.getD i 0 else if k=i then ps.getD j 0 else ps.getD k 0:=by
 unfold zbu
 simp only [List.getD_eq_getElem?_getD,List.getElem?_set,List.length_set]
 by_cases h1:k=j
 ·subst h1;simp [hj]
 ·rw [if_neg (fun e=>h1 e.symm),if_neg h1]
  by_cases h2:k=i
  ·subst h2;simp [hi]
  ·rw [if_neg (fun e=>h2 e.symm),if_neg h2]
theorem zbT {w:World} {p:Nat} {c:Array Value} {T:TypeId} (h:w.heap[p]? = some (.cells c T (0,0))) (i:Nat) (u:Value):(w.setCell ⟨p,i,none⟩ u).heap[p]? = some (.cells (c.setIfInBounds i u) T (0,0)):=heap_setCell_same w p i c T u h
theorem zas {w:World} {p q i:Nat} {u:Value} (h:q≠p):(w.setCell ⟨p,i,none⟩ u).heap[q]? = w.heap[q]? := heap_setCell_other w ⟨p,i,none⟩ q u h
theorem zet (x:It) (k j:Nat):(itC x k).setIfInBounds 2 (.int .i64 (j:Int))=itC x j:=by simp [itC]
theorem zg3 (ps:List Nat) (i j:Nat):(zbu ps i j).map ptrV=((ps.map ptrV).set i (ptrV (ps.getD j 0))).set j (ptrV (ps.getD i 0)):=by
 unfold zbu;rw [List.map_set,List.map_set]
theorem QOk.swapped {w:World} {b g cap:Nat} {mv:Value} {ps:List Nat} {Q:List It} (h:QOk w b (.slice (some ⟨g,0,none⟩) Q.length cap) mv ps Q) {i j:Nat} (hi:i<Q.length) (hj:j<Q.length) (hne:i≠j) :
  QOk ((((w.setCell ⟨g,i,none⟩ (ptrV (ps.getD j 0))).setCell ⟨g,j,none⟩ (ptrV (ps.getD i 0))).setCell ⟨ps.getD j 0,2,none⟩ (.int .i64 (i:Int))).setCell ⟨ps.getD i 0,2,none⟩ (.int .i64 (j:Int))) b (.slice (some ⟨g,0,none⟩) Q.length cap) mv (zbu ps i j) (swap Q i j):=by
 have hl:=h.len
 have eg:(Value.slice (some ⟨g,0,none⟩) Q.length cap).ownBlock=some g:=rfl
 have n1:=h.ne_row eg hi
 have n2:=h.ne_row eg hj
 have n3:ps.getD i 0≠ps.getD j 0:=fun e=>hne (h.inj hi hj e)
 have s1:=(h.row.stored i (ptrV (ps.getD j 0))).1
 have s2:=(s1.stored j (ptrV (ps.getD i 0))).1
 have s3:=ownsRow_setCell_other s2 (a:=⟨ps.getD j 0,2,none⟩) (by rw [eg];exact fun e=>n2 (Option.some.inj e).symm) (.int .i64 (i:Int))
 have s4:=ownsRow_setCell_other s3 (a:=⟨ps.getD i 0,2,none⟩) (by rw [eg];exact fun e=>n1 (Option.some.inj e).symm) (.int .i64 (j:Int))
 refine ⟨?_,?_,by unfold zbu;rw [List.length_set,List.length_set,zaj];exact hl,fun k hk=>?_,fun x hx=>h.i64 x ((zb3 hi hj).mem_iff.1 hx),by rw [zaj];exact h.small⟩
 ·rw [zas (Ne.symm (h.ne_b hi)),zas (Ne.symm (h.ne_b hj)),zas (Ne.symm (h.row_b eg)),zas (Ne.symm (h.row_b eg))]
  exact h.blk
 ·rw [zaj,zg3];exact s4
 ·rw [zaj] at hk
  rw [zcW (by omega) (by omega),zbh hi hj]
  by_cases e1:k=j
  ·subst e1
   rw [if_pos rfl,if_pos rfl]
   rw [zbT (c:=itC (at' Q i) i) (T:=TI) (by rw [zas n3,zas n1,zas n1];exact h.it i hi),zet]
  ·rw [if_neg e1,if_neg e1]
   by_cases e2:k=i
   ·subst e2
    rw [if_pos rfl,if_pos rfl]
    rw [zas (Ne.symm n3),zbT (c:=itC (at' Q j) j) (T:=TI) (by rw [zas n2,zas n2];exact h.it j hj),zet]
   ·rw [if_neg e2,if_neg e2,zas (fun e=>e2 (h.inj hk hi e)),zas (fun e=>e1 (h.inj hk hj e)),zas (h.ne_row eg hk),zas (h.ne_row eg hk)]
    exact h.it k hk
def ziG (w:World) (b:Nat) (v mv:Value) (ps:List Nat) (Q:List It) (i j:Nat) (e:Ending) (w':World):Prop:=
 e = .returned (.tuple #[])∧QOk w' b v mv (zbu ps i j) (swap Q i j)∧Turn (QF b v ps) w w'
theorem zb4 {w:World} {b:Nat} {v mv:Value} {ps:List Nat} {Q:List It} (h:QOk w b v mv ps Q) {i j:Nat} (hi:i<Q.length) (hj:j<Q.length) (hne:i≠j):Calls Try.prog 91 #[v,.int .i64 i,.int .i64 j] w (ziG w b v mv ps Q i j):=by
 have H:=Lib.hid h
 obtain ⟨g,cap,rfl,hc,hz⟩:=h.form (by omega)
 have hs:=h.small
 have ci:=hc i hi
 have cj:=hc j hj
 obtain ⟨i0,i1,i2,iz⟩:=h.itc hi
 obtain ⟨j0,j1,j2,jz⟩:=h.itc hj
 have fi:=hz i
 have fj:=hz j
 have fi2:=iz 2
 have fj2:=jz 2
 have hpg:ps.getD i 0≠g∧ps.getD j 0≠g∧ps.getD i 0≠ps.getD j 0:=⟨h.ne_row rfl hi,h.ne_row rfl hj,fun e=>hne (h.inj hi hj e)⟩
 have S:=Lib.hid (h.swapped hi hj hne)
 clear h hc hz iz jz
 obtain ⟨pi,hpi⟩:∃ pi,ps.getD i 0=pi:=⟨_,rfl⟩
 obtain ⟨pj,hpj⟩:∃ pj,ps.getD j 0=pj:=⟨_,rfl⟩
 rw [hpi] at ci i0 i1 i2 fi2 hpg
 rw [hpj] at cj j0 j1 j2 fj2 hpg
 obtain ⟨n1,n2,n3⟩:=hpg
 unfold ptrV at ci cj
 obtain ⟨n,hn⟩:∃ n,Q.length=n:=⟨_,rfl⟩
 rw [hn] at hi hj hs
 have hi2:(i:Int)<n:=by omega
 have hj2:(j:Int)<n:=by omega
 have n4:j≠i:=fun e=>hne e.symm
 have n5:g≠pi:=fun e=>n1 e.symm
 have n6:g≠pj:=fun e=>n2 e.symm
 have n7:pj≠pi:=fun e=>n3 e.symm
 rw [show (.slice (some ⟨g,0,none⟩) Q.length cap:Value) = .slice (some ⟨g,0,none⟩) n cap by rw [hn]]
 go_enter Try.func91,Try.ntmps91
 go_wp2_with fail
 go_region
 go_wp2
 go_region
 go_end0
 refine ⟨rfl,?_,?_⟩
 ·have:=S.out
  rw [hpi,hpj,hn] at this
  exact this.kept fun x _=>rfl
 ·have m1:pi∈ps:=hpi▸H.out.mem (by omega)
  have m2:pj∈ps:=hpj▸H.out.mem (by omega)
  exact ((((((Turn.refl _ w).set (.inr (.inl rfl)) _).set (.inr (.inl rfl)) _).set (.inr (.inr m2)) _).set (.inr (.inr m1)) _).drew).drew
end Go.Proofs.Ytjfphnegcelbpaa
namespace Go.Proofs.Ytjfphnegcelbpaa
open Go.RowKit Go.ChangeShapes Go.WideShapes Go.Deep Hp
theorem infoP:Info Try.prog TP 1 8:=by
 have h:(Try.prog.info? TP).map (fun i=>(i.zero,i.size,i.bytes))=some (some (.pointer none),1,8):=by kernel_rfl
 cases e:Try.prog.info? TP with
 | none=>rw [e] at h;cases h
 | some i=>
  rw [e] at h
  simp only [Option.map_some,Option.some.injEq,Prod.mk.injEq] at h
  exact ⟨i,_,e,h.1,h.2.1,h.2.2,rfl⟩
theorem zed {ops:Array Oper} {rest:List Oper} {o:Oper} {a:Act} {Q:Exit→Act→World→Prop} {wr:World} (hgd:o.guard=none) (s x:Operand) (t:TypeId)
  (ho:o.op = .call {callee:= .builtin .append,args:= #[s,x],argTypes:= #[t,t]}) (ht:Try.prog.underlying t=some (.slice TP))
  (v:Value) (n:Nat) (xs:List Value) (hs:a.eval s=v) (hown:wr.ownsRow 0 TP 1 v n xs) (p:Value) (hp:p.oneCell'=true) (T:TypeId) (ad:Addr) (had:ad=⟨wr.heap.size,0,none⟩) (hx:a.eval x = .slice (some ad) 1 1) (hn:n≤1000000)
  (h:∀ v' w',w'.ownsRow 0 TP 1 v' (n+1) (xs++[p])→wr.grownBy w' v.ownBlock→(v'.ownBlock=v.ownBlock∨∃ g,v'.ownBlock=some g∧wr.heap.size≤g)→wpList Try.prog ops Q rest (a.put o.dst v') w'):wpList Try.prog ops Q (o::rest) a (wr.alloc (.cells #[p] T)):=by
 subst had
 obtain ⟨i,z,e1,e2,e3,e4,e5⟩:=infoP
 refine wpList_plain hgd fun K hK=>?_
 refine zk5 s x t ho v _ hs hx (fun v' w'=>w'.ownsRow 0 TP 1 v' (n+1) (xs++[p])∧wr.grownBy w' v.ownBlock∧(v'.ownBlock=v.ownBlock∨∃ g,v'.ownBlock=some g∧wr.heap.size≤g)) ?_ (fun v' w' hR=>hK _ _ (h v' w' hR.1 hR.2.1 hR.2.2))
 obtain ⟨v',w',q1,q2,q3,_,q5⟩:=run_append_own_at (P:=Try.prog) (wr.alloc (.cells #[p] T)) 0 t o.type TP i z 1 8 ht e1 e2 e3 e4 e5 (by decide) v n xs (World.ownsRow.alloc hown _) ⟨wr.heap.size,0,none⟩ 1 1 [p] rfl
  (fun j u hj=>by rw [WideShapes.add_plain,World.cell?_alloc_at _ _ _ _ rfl];simpa using hj) (by simp [hp]) (by unfold maxLen;omega) (by omega) (Nat.zero_le _)
 refine ⟨v',w',q1,q2,⟨q3.os,q3.tape,q3.output,by have:=q3.size;simp at this;omega,fun b hb2 hne=>by rw [q3.block b (by simp;omega) hne,Below.heap_alloc _ _ _ hb2]⟩,?_⟩
 rcases q5 with e | e
 ·exact .inl e
 ·exact .inr ⟨_,e,by simp⟩
theorem zf3 (v:Value) (w:World):(Instr.typeAssert (.iface TP v) 20 TP false).run Try.prog w = .ok v w:=by kernel_rfl
def zfw (w:World) (b p:Nat) (v mv:Value) (ps:List Nat) (Q:List It) (x:It) (e:Ending) (w':World):Prop:=
 e = .returned (.tuple #[])∧∃ v',QOk w' b v' mv (ps++[p]) (Q++[x])∧Turn (fun y=>QF b v ps y∨y=p) w w'∧(v'.ownBlock=v.ownBlock∨∃ g,v'.ownBlock=some g∧w.heap.size≤g)
theorem QOk.sl {w:World} {b:Nat} {v mv:Value} {ps:List Nat} {Q:List It} (h:QOk w b v mv ps Q):∃ a c,v = .slice a Q.length c:=by
 rcases h.row.2 with ⟨e,e2⟩ | ⟨g,cap,cur,e,_⟩
 ·exact ⟨none,0,by rw [e,e2]⟩
 ·exact ⟨_,cap,e⟩
theorem zhM {w:World} {b p k0:Nat} {v mv:Value} {ps:List Nat} {Q:List It} {x:It} (h:QOk w b v mv ps Q) (hp:w.heap[p]? = some (.cells (itC x k0) TI (0,0))) (hpn:p∉ps) (hx:I64 x.1∧I64 x.2) (hn:Q.length<1000000) :
  Calls Try.prog 93 #[.pointer (some ⟨b,0,none⟩),.iface TP (ptrV p)] w (zfw w b p v mv ps Q x):=by
 have H:=Lib.hid h
 have HP:=Lib.hid hp
 obtain ⟨ad,c,rfl⟩:=h.sl
 have c0:w.cell? ⟨b,0,none⟩=some (.slice ad Q.length c):=zag h.blk 0
 have p2:w.cell? ⟨p,2,none⟩=some (.int .i64 (k0:Int)):=zag hp 2
 have f0:=zbl h.blk 0
 have fp:=zbl hp 2
 have hpb:p≠b:=fun e=>by
  rw [e,h.blk] at hp
  simp at hp
  exact absurd hp.2 (by decide)
 have hbp:b≠p:=fun e=>hpb e.symm
 have hpr:∀ g,(Value.slice ad Q.length c).ownBlock=some g→p≠g:=fun g hg e=>by
  obtain ⟨c',hc'⟩:=h.rowT hg
  rw [e,hc'] at hp
  simp at hp
  exact absurd hp.2 (by decide)
 have hpn2:=Lib.hid hpn
 obtain ⟨n,hnn⟩:∃ n,Q.length=n:=⟨_,rfl⟩
 rw [hnn] at c0 hn
 have hown:(w.setCell ⟨p,2,none⟩ (.int .i64 (n:Int))).ownsRow 0 TP 1 (.slice ad n c) n (ps.map ptrV):=by
  have:=ownsRow_setCell_other h.row (a:=⟨p,2,none⟩) (fun e=>hpr p (by rw [e]) rfl) (.int .i64 (n:Int))
  rw [hnn] at this;exact this
 have HO:=Lib.hid hown
 have HR:=Lib.hid hpr
 have hsz:b<w.heap.size:=(Array.getElem?_eq_some_iff.1 h.blk).1
 have hrb:(Value.slice ad n c).ownBlock≠some b:=fun e=>h.row_b (by rw [hnn];exact e) rfl
 have HB:=Lib.hid hrb
 clear h hp hpn hown hpr hrb
 unfold ptrV
 have ha:=zf3
 go_enter Try.func93,Try.ntmps93
 go_wp2_with (at_builtin;refine zed rfl (.tmp 17) (.tmp 19) 76 rfl Try.underlying76 (.slice ad n c) n (ps.map ptrV) rfl HO.out _ rfl TP _ (by simp [World.setCell]) rfl (by omega) ?_;intro v' w' ho' hg' hb';obtain ⟨g',cap',rfl,_⟩:=ho'.form (Nat.succ_pos _);have hb1:w'.heap[b]? = w.heap[b]? := (by
  rw [hg'.block b (by simpa [World.setCell] using hsz) (fun e=>HB.out e.symm),zas hbp]);have c0':w'.cell? ⟨b,0,none⟩=some (.slice ad n c):=zag (hb1.trans (hnn▸H.out.blk)) 0;have f0':w'.frozen? ⟨b,0,none⟩=false:=zbl (hb1.trans H.out.blk) 0;have HO':=Lib.hid ho';clear ho')
 go_end0
 have h:=H.out
 have hp:=HP.out
 have hpr:=HR.out
 have hpn:=hpn2.out
 have hrb:=HB.out
 rw [hnn] at h hpr
 have hsz2:∀ x,x<w.heap.size→x<(w.setCell ⟨p,2,none⟩ (.int .i64 (n:Int))).heap.size:=fun x hx=>by simpa [World.setCell] using hx
 have hsz3:∀ x,(w.setCell ⟨p,2,none⟩ (.int .i64 (n:Int))).heap.size≤x→w.heap.size≤x:=fun x hx=>by simpa [World.setCell] using hx
 have hv':g'≠b:=by
  rcases hb' with e | ⟨g,e,hge⟩
  ·exact fun e2=>hrb (by rw [← e,← e2];rfl)
  ·have e2:g'=g:=Option.some.inj e
   have:=hsz3 g hge
   omega
 have hold:∀ y,y<w.heap.size→y≠b→y≠p→(Value.slice ad n c).ownBlock≠some y→(w'.setCell ⟨b,0,none⟩ (.slice (some ⟨g',0,none⟩) (n+1) cap')).heap[y]? = w.heap[y]? := fun y hy h1 h2 h3=>by
  rw [zas h1,hg'.block y (hsz2 y hy) (fun e=>h3 e.symm),zas h2]
 have hlt:∀ {y:Nat} {o:Obj},w.heap[y]? = some o→y<w.heap.size:=fun e=>(Array.getElem?_eq_some_iff.1 e).1
 unfold zfw
 rw [hnn]
 refine ⟨rfl,.slice (some ⟨g',0,none⟩) (n+1) cap',⟨?_,?_,?_,fun k hk=>?_,?_,?_⟩,?_,?_⟩
 ·have:=zbT (hb1.trans h.blk) 0 (.slice (some ⟨g',0,none⟩) (n+1) cap')
  rw [this];rfl
 ·rw [List.map_append,List.length_append,hnn]
  exact ownsRow_setCell_other HO'.out (a:=⟨b,0,none⟩) (fun e=>hv' (Option.some.inj e)) _
 ·simp [h.len]
 ·have hk:k<Q.length+1:=by simpa using hk
  have hlp:=h.len
  by_cases e:k=Q.length
  ·subst e
   have e1:(ps++[p]).getD Q.length 0=p:=by rw [← hlp];simp [List.getD]
   have e2:at' (Q++[x]) Q.length=x:=by simp [at',List.getD]
   rw [e1,e2,zas hpb,hg'.block p (hsz2 p (hlt hp)) (fun e=>hpr p e.symm rfl),zbT hp,zet,hnn]
  ·have hk2:k<Q.length:=by omega
   have e1:(ps++[p]).getD k 0=ps.getD k 0:=by rw [List.getD_eq_getElem?_getD,List.getD_eq_getElem?_getD,List.getElem?_append_left (by omega)]
   have e2:at' (Q++[x]) k=at' Q k:=by unfold at';rw [List.getD_eq_getElem?_getD,List.getD_eq_getElem?_getD,List.getElem?_append_left hk2]
   rw [e1,e2,hold _ (hlt (h.it k hk2)) (h.ne_b hk2) (fun e=>hpn (e▸h.mem hk2)) (fun e=>h.ne_row e hk2 rfl)]
   exact h.it k hk2
 ·intro y hy
  rcases List.mem_append.1 hy with hy | hy
  ·exact h.i64 y hy
  ·rw [List.mem_singleton] at hy;subst hy;exact hx
 ·simp;omega
 ·refine ⟨hg'.os,hg'.tape,hg'.output,?_,fun y hy hf=>?_⟩
  ·have:=hg'.size;simp [World.setCell] at this ⊢;exact this
  ·exact hold y hy (fun e=>hf (.inl (.inl e))) (fun e=>hf (.inr e)) (fun e=>hf (.inl (.inr (.inl e))))
 ·rcases hb' with e | ⟨g,e,hge⟩
  ·exact .inl e
  ·exact .inr ⟨g,e,hsz3 g hge⟩
def ze7 (w:World) (b:Nat) (v mv:Value) (ps:List Nat) (Q:List It) (e:Ending) (w':World):Prop:=
 e = .returned (.iface TP (ptrV (ps.getD (Q.length-1) 0)))∧∃ v',QOk w' b v' mv (ps.take (Q.length-1)) (Q.take (Q.length-1))∧Turn (QF b v ps) w w'∧v'.ownBlock=v.ownBlock
theorem zjv {w:World} {b:Nat} {v mv:Value} {ps:List Nat} {Q:List It} (h:QOk w b v mv ps Q) (hl:0<Q.length) :
  Calls Try.prog 92 #[.pointer (some ⟨b,0,none⟩)] w (ze7 w b v mv ps Q):=by
 have H:=Lib.hid h
 obtain ⟨g,cap,rfl,hc,hz⟩:=h.form hl
 obtain ⟨m,hm⟩:∃ m,Q.length=m+1:=⟨Q.length-1,by omega⟩
 have hs:=h.small
 have cm:=hc m (by omega)
 have hcap:m+1≤cap:=by
  rcases h.row.2 with ⟨e,_⟩ | ⟨g',cap',cur,e,_,_,hnc,_⟩
  ·cases e
  ·cases e;omega
 have hcap2:cap≤maxLen:=by
  rcases h.row.2 with ⟨e,_⟩ | ⟨g',cap',cur,e,_,_,hnc,hmx,_⟩
  ·cases e
  ·cases e;exact hmx
 unfold maxLen at hcap2
 rw [hm] at hs
 have c0:w.cell? ⟨b,0,none⟩=some (.slice (some ⟨g,0,none⟩) (m+1) cap):=by rw [← hm];exact zag h.blk 0
 have f0:=zbl h.blk 0
 obtain ⟨p,hp⟩:∃ p,ps.getD m 0=p:=⟨_,rfl⟩
 rw [hp] at cm
 unfold ptrV at cm
 clear h hc hz
 have hw:IntKind.i64.wrap (((m+1:Nat):Int)-1)=(m:Int):=by rw [IntKind.wrap_i64];omega
 have hi1:(m:Int)<((m+1:Nat):Int):=by omega
 go_enter Try.func92,Try.ntmps92
 go_wp2
 go_ret
 have h:=H.out
 have hsub:Q.length-1=m:=by omega
 have hlp:=h.len
 unfold ze7
 rw [hsub,hp]
 have hqt:(Q.take m).length=m:=by rw [List.length_take];omega
 have hgb:g≠b:=h.row_b rfl
 refine ⟨rfl,.slice (some ⟨g,0,none⟩) m cap,⟨?_,?_,by rw [List.length_take,List.length_take,hlp],fun k hk=>?_,fun x hx=>h.i64 x (List.mem_of_mem_take hx),by rw [hqt];omega⟩,(Turn.refl _ w).set (.inl rfl) _,rfl⟩
 ·rw [zbT h.blk];rfl
 ·rw [hqt]
  have hne:(Value.slice (some ⟨g,0,none⟩) m cap).ownBlock≠some b:=fun e=>hgb (Option.some.inj e)
  refine ownsRow_setCell_other ?_ (a:=⟨b,0,none⟩) hne _
  have hr:=h.row
  rw [hm] at hr
  refine ownsRow_pop (last:=(ps.drop m).map ptrV) (by rw [List.length_map,List.length_take];omega) ?_
  rw [← List.map_append,List.take_append_drop]
  exact hr
 ·rw [hqt] at hk
  have e1:(ps.take m).getD k 0=ps.getD k 0:=by rw [List.getD_eq_getElem?_getD,List.getD_eq_getElem?_getD,List.getElem?_take_of_lt hk]
  have e2:at' (Q.take m) k=at' Q k:=by unfold at';rw [List.getD_eq_getElem?_getD,List.getD_eq_getElem?_getD,List.getElem?_take_of_lt hk]
  rw [e1,e2,zas (h.ne_b (by omega))]
  exact h.it k (by omega)
structure SameP (ps:List Nat) (Q:List It) (ps':List Nat) (Q':List It):Prop where
 mem:∀ x,x∈ps'↔x∈ps
 pair:∀ k',k'<Q'.length→∃ k,k<Q.length∧ps'.getD k' 0=ps.getD k 0∧at' Q' k'=at' Q k
theorem SameP.refl (ps:List Nat) (Q:List It):SameP ps Q ps Q:=⟨fun _=>Iff.rfl,fun k h=>⟨k,h,rfl,rfl⟩⟩
theorem SameP.trans {ps ps1 ps2:List Nat} {Q Q1 Q2:List It} (h:SameP ps Q ps1 Q1) (k:SameP ps1 Q1 ps2 Q2):SameP ps Q ps2 Q2:=
 ⟨fun x=>(k.mem x).trans (h.mem x),fun i hi=>by
  obtain ⟨j,hj,e1,e2⟩:=k.pair i hi
  obtain ⟨l,hl,e3,e4⟩:=h.pair j hj
  exact ⟨l,hl,e1.trans e3,e2.trans e4⟩⟩
structure Same' (w w':World) (b:Nat) (v mv:Value) (ps:List Nat) (Q Q':List It):Prop where
 q:∃ ps',QOk w' b v mv ps' Q'∧SameP ps Q ps' Q'
 t:Turn (QF b v ps) w w'
def zll (w:World) (b:Nat) (v mv:Value) (ps:List Nat) (Q Q':List It) (e:Ending) (w':World):Prop:=e = .returned (.tuple #[])∧Same' w w' b v mv ps Q Q'
theorem Drw.heap {w w':World} (h:Drw w w'):w'.heap=w.heap:=by obtain ⟨n,rfl⟩:=h;rfl
theorem Drw.turn {w w':World} (F:Nat→Prop) (h:Drw w w'):Turn F w w':=by
 obtain ⟨n,rfl⟩:=h;exact ⟨rfl,rfl,rfl,Nat.le_refl _,fun _ _ _=>rfl⟩
theorem zfy {ps:List Nat} {i j:Nat} (hi:i<ps.length) (hj:j<ps.length):(zbu ps i j).Perm ps:=by
 unfold zbu
 have h1:((ps.set i ps[j]).set j ps[i]).Perm ps:=List.set_set_perm hi hj
 have e1:ps.getD j 0=ps[j]:=by simp [List.getD,hj]
 have e2:ps.getD i 0=ps[i]:=by simp [List.getD,hi]
 rw [e1,e2];exact h1
theorem SameP.swap {ps:List Nat} {Q:List It} {i j:Nat} (hl:ps.length=Q.length) (hi:i<Q.length) (hj:j<Q.length):SameP ps Q (zbu ps i j) (swap Q i j):=by
 refine ⟨fun x=>(zfy (by omega) (by omega)).mem_iff,fun k hk=>?_⟩
 rw [zaj] at hk
 rw [zcW (by omega) (by omega),zbh hi hj]
 by_cases h1:k=j
 ·rw [if_pos h1,if_pos h1];exact ⟨i,hi,rfl,rfl⟩
 ·rw [if_neg h1,if_neg h1]
  by_cases h2:k=i
  ·rw [if_pos h2,if_pos h2];exact ⟨j,hj,rfl,rfl⟩
  ·rw [if_neg h2,if_neg h2];exact ⟨k,hk,rfl,rfl⟩
theorem QF.iff {b:Nat} {v:Value} {ps ps':List Nat} (h:∀ x,x∈ps'↔x∈ps) (x:Nat):QF b v ps' x↔QF b v ps x:=by unfold QF;rw [h]
theorem zfY {w:World} {b:Nat} {v mv:Value} {ps:List Nat} {Q:List It} (h:QOk w b v mv ps Q) {j:Nat} (hj:j<Q.length) :
  Calls Try.prog 51 #[.iface TQ (.pointer (some ⟨b,0,none⟩)),.int .i64 j] w (zll w b v mv ps Q (up Q j)):=by
 have H:=Lib.hid h
 have hs:=h.small
 clear h
 go_enter Try.func51,Try.ntmps51
 go_wp2
 go_loopw [1] (fun jv wr=>∃ (k:Nat) (ps':List Nat) (Q':List It),jv = .int .i64 k∧k<Q'.length∧QOk wr b v mv ps' Q'∧SameP ps Q ps' Q'∧up Q' k=up Q j∧Turn (QF b v ps) w wr) (fun jv _=>(intOf jv).toNat)
 case atStart=>exact ⟨j,ps,Q,rfl,hj,H.out,SameP.refl _ _,rfl,Turn.refl _ _⟩
 case round=>
  obtain ⟨k,ps',Q',rfl,hk,hq,hm,hu,ht⟩:=hrel
  by_cases h0:0<k
  ·obtain ⟨q,rfl⟩:∃ q,k=q+1:=⟨k-1,by omega⟩
   have HQ:=Lib.hid hq
   have hs:=hq.small
   clear hq
   have hm1 : ∀ n, (method (n + 1) TQ (.pointer (some ⟨b, 0, none⟩)) "Less").run Try.prog wr = .ok (90, v) wr := fun n => zbB (zag HQ.out.blk 0)
   have e0:((q:Int) / 2==(q:Int)+1)=false:=by simp;omega
   have hL:=zbD HQ.out (i:=q+1) (j:=q / 2) hk (by omega)
   simp only [Int.natCast_add,Int.natCast_ediv,Int.cast_ofNat_Int] at hL
   have hL:=Lib.hid hL
   go_wp2_with fail
   refine hL.out.mono ?_
   rintro e w' ⟨rfl,m,rfl⟩
   cases hlt:lt (at' Q' (q+1)) (at' Q' (q / 2))
   ·go_wp2
    go_end0
    have hf:up Q j=Q':=by
     rw [← hu,up,dif_pos h0]
     show (if lt (at' Q' (q+1)) (at' Q' (q / 2))=true then _ else Q')=Q'
     rw [hlt];rfl
    exact ⟨rfl,⟨⟨ps',by rw [hf];exact HQ.out.kept fun _ _=>rfl,by rw [hf];exact hm⟩,ht.trans (Drw.turn _ ⟨m,rfl⟩)⟩⟩
   ·have hq2:QOk (wr.drewN m) b v mv ps' Q':=HQ.out.kept fun _ _=>rfl
    have hS:=zb4 hq2 (i:=q / 2) (j:=q+1) (by omega) hk (by omega)
    simp only [Int.natCast_add,Int.natCast_ediv,Int.cast_ofNat_Int] at hS
    have hm2 : ∀ n, (method (n + 1) TQ (.pointer (some ⟨b, 0, none⟩)) "Swap").run Try.prog (wr.drewN m) = .ok (91, v) (wr.drewN m) := fun n => zbA (zag hq2.blk 0)
    have hS:=Lib.hid hS
    clear hq2
    go_wp2_with fail
    refine hS.out.mono ?_
    rintro e w' ⟨rfl,hq',ht'⟩
    go_wp2
    go_roundw
    case rel=>
     have hlp:=HQ.out.len
     refine ⟨q / 2,zbu ps' (q / 2) (q+1),swap Q' (q / 2) (q+1),by first | rfl | (simp;done) | go_num,by rw [zaj];omega,hq',hm.trans (SameP.swap hlp (by omega) (by omega)),?_,ht.trans ((Drw.turn _ ⟨m,rfl⟩).trans (ht'.mono fun x hx=>(QF.iff hm.mem x).1 hx))⟩
     ·rw [← hu,up.eq_def Q' (q+1),dif_pos h0]
      show _=if lt (at' Q' (q+1)) (at' Q' (q / 2))=true then up (swap Q' (q / 2) (q+1)) (q / 2) else Q'
      rw [hlt];rfl
    case measure=>simp [intOf];omega
  ·obtain rfl:k=0:=by omega
   have HQ:=Lib.hid hq
   have hs:=hq.small
   clear hq
   go_wp2
   go_end0
   have hf:up Q j=Q':=by rw [← hu,up,dif_neg h0]
   exact ⟨rfl,⟨⟨ps',by rw [hf];exact HQ.out,by rw [hf];exact hm⟩,ht⟩⟩
def zfx (w:World) (b:Nat) (v mv:Value) (ps:List Nat) (Q:List It) (i n:Nat) (e:Ending) (w':World):Prop:=e = .returned (.bool (goes Q i n))∧Same' w w' b v mv ps Q (down Q i n)
theorem Drw.trans {w w1 w2:World} (h:Drw w w1) (k:Drw w1 w2):Drw w w2:=by
 obtain ⟨n,rfl⟩:=h
 obtain ⟨m,rfl⟩:=k
 exact ⟨n+m,by simp [World.drewN,Nat.add_assoc]⟩
set_option maxHeartbeats 4000000 in
theorem zfm {w:World} {b:Nat} {v mv:Value} {ps:List Nat} {Q:List It} (h:QOk w b v mv ps Q) {i n:Nat} (hi:i<n) (hn:n≤Q.length) :
  Calls Try.prog 50 #[.iface TQ (.pointer (some ⟨b,0,none⟩)),.int .i64 i,.int .i64 n] w (zfx w b v mv ps Q i n):=by
 have H:=Lib.hid h
 have hs:=h.small
 clear h
 go_enter Try.func50,Try.ntmps50
 go_wp2
 go_loopw [7] (fun kv wr=>∃ (k:Nat) (ps':List Nat) (Q':List It),kv = .int .i64 k∧k<n∧n≤Q'.length∧QOk wr b v mv ps' Q'∧SameP ps Q ps' Q'∧down Q' k n=down Q i n∧((k=i∧Q'=Q)∨(i<k∧goes Q i n=true))∧Turn (QF b v ps) w wr) (fun kv _=>n-(intOf kv).toNat)
 case atStart=>exact ⟨i,ps,Q,rfl,hi,hn,H.out,SameP.refl _ _,rfl,.inl ⟨rfl,rfl⟩,Turn.refl _ _⟩
 case round=>
  obtain ⟨k,ps',Q',rfl,hk,hkn,hq,hm,hu,hr,ht⟩:=hrel
  have hs:=hq.small
  have hfin:∀ w2:World,Drw wr w2→goes Q' k n=false→zfx w b v mv ps Q i n (.returned (.bool (decide (i<k)))) w2:=fun w2 hd hg=>by
   have hf:down Q i n=Q':=by rw [← hu,down,dif_neg (by rw [hg];decide)]
   have hb:decide (i<k)=goes Q i n:=by
    rcases hr with ⟨e1,e2⟩ | ⟨e1,e2⟩
    ·rw [← e2,← e1,hg];simp
    ·rw [e2];simp;omega
   refine ⟨by rw [hb],⟨ps',by rw [hf];exact hq.kept fun x _=>by rw [hd.heap],by rw [hf];exact hm⟩,ht.trans (Drw.turn _ hd)⟩
  have hfin:=Lib.hid hfin
  have HQ:=Lib.hid hq
  clear hq
  by_cases h1:2*k+1<n
  ·have c1:¬ (2*(k:Int)+1≥(n:Int)):=by omega
   have c2:¬ (2*(k:Int)+1<0):=by omega
   by_cases h2:2*k+2<n
   ·have c3:2*(k:Int)+1+1<(n:Int):=by omega
    have hm1 : ∀ n, (method (n + 1) TQ (.pointer (some ⟨b, 0, none⟩)) "Less").run Try.prog wr = .ok (90, v) wr := fun n => zbB (zag HQ.out.blk 0)
    have hF:=zbD HQ.out (i:=2*k+1+1) (j:=2*k+1) (by omega) (by omega)
    simp only [Int.natCast_add,Int.natCast_mul,Int.cast_ofNat_Int] at hF
    have hF:=Lib.hid hF
    go_wp2_with fail
    refine hF.out.mono ?_
    rintro e w1 ⟨rfl,hd1⟩
    cases hlt0:lt (at' Q' (2*k+1+1)) (at' Q' (2*k+1))
    ·clear hm1
     have hq2:QOk w1 b v mv ps' Q':=HQ.out.kept fun _ _=>by rw [hd1.heap]
     have hm2 : ∀ n, (method (n + 1) TQ (.pointer (some ⟨b, 0, none⟩)) "Less").run Try.prog w1 = .ok (90, v) w1 := fun n => zbB (zag hq2.blk 0)
     have hkid:kid Q' k n=2*k+1:=by
      unfold kid
      exact if_neg fun e=>by rw [hlt0] at e;exact absurd e.2 (by decide)
     have hkid:=Lib.hid hkid
     have hL:=zbD hq2 (i:=2*k+1) (j:=k) (by omega) (by omega)
     simp only [Int.natCast_add,Int.natCast_mul,Int.cast_ofNat_Int] at hL
     have hL:=Lib.hid hL
     clear hq2
     go_wp2_with fail
     refine hL.out.mono ?_
     rintro e w2 ⟨rfl,hd2⟩
     cases hlt:lt (at' Q' (2*k+1)) (at' Q' k)
     ·go_wp2
      go_ret
      exact hfin.out _ (hd1.trans hd2) (by unfold goes;rw [hkid.out,hlt,Bool.and_false])
     ·have hg:goes Q' k n=true:=by unfold goes;rw [hkid.out,hlt,decide_eq_true h1];rfl
      have hg:=Lib.hid hg
      have hq3:QOk w2 b v mv ps' Q':=HQ.out.kept fun _ _=>by rw [(hd1.trans hd2).heap]
      have hS:=zb4 hq3 (i:=k) (j:=2*k+1) (by omega) (by omega) (by omega)
      simp only [Int.natCast_add,Int.natCast_mul,Int.cast_ofNat_Int] at hS
      have hm3 : ∀ n, (method (n + 1) TQ (.pointer (some ⟨b, 0, none⟩)) "Swap").run Try.prog w2 = .ok (91, v) w2 := fun n => zbA (zag hq3.blk 0)
      have hS:=Lib.hid hS
      clear hq3
      go_wp2_with fail
      refine hS.out.mono ?_
      rintro e w' ⟨rfl,hq',ht'⟩
      go_wp2
      go_roundw
      case rel=>
       have hlp:=HQ.out.len
       refine ⟨2*k+1,zbu ps' k (2*k+1),swap Q' k (2*k+1),by first | rfl | (simp;done) | go_num,by omega,by rw [zaj];omega,hq',hm.trans (SameP.swap hlp (by omega) (by omega)),?_,.inr ⟨?_,?_⟩,ht.trans ((Drw.turn _ (hd1.trans hd2)).trans (ht'.mono fun x hx=>(QF.iff hm.mem x).1 hx))⟩
       ·rw [← hu,down.eq_def Q' k n,dif_pos hg.out,hkid.out]
       ·rcases hr with ⟨e1,e2⟩ | ⟨e1,e2⟩<;>omega
       ·rcases hr with ⟨e1,e2⟩ | ⟨e1,e2⟩
        ·rw [← e2,← e1];exact hg.out
        ·exact e2
      case measure=>simp [intOf];omega
    ·clear hm1
     have hq2:QOk w1 b v mv ps' Q':=HQ.out.kept fun _ _=>by rw [hd1.heap]
     have hm2 : ∀ n, (method (n + 1) TQ (.pointer (some ⟨b, 0, none⟩)) "Less").run Try.prog w1 = .ok (90, v) w1 := fun n => zbB (zag hq2.blk 0)
     have hkid:kid Q' k n=2*k+1+1:=by
      unfold kid
      exact if_pos ⟨h2,hlt0⟩
     have hkid:=Lib.hid hkid
     have hL:=zbD hq2 (i:=2*k+1+1) (j:=k) (by omega) (by omega)
     simp only [Int.natCast_add,Int.natCast_mul,Int.cast_ofNat_Int] at hL
     have hL:=Lib.hid hL
     clear hq2
     go_wp2_with fail
     refine hL.out.mono ?_
     rintro e w2 ⟨rfl,hd2⟩
     cases hlt:lt (at' Q' (2*k+1+1)) (at' Q' k)
     ·go_wp2
      go_ret
      exact hfin.out _ (hd1.trans hd2) (by unfold goes;rw [hkid.out,hlt,Bool.and_false])
     ·have hg:goes Q' k n=true:=by unfold goes;rw [hkid.out,hlt,decide_eq_true h1];rfl
      have hg:=Lib.hid hg
      have hq3:QOk w2 b v mv ps' Q':=HQ.out.kept fun _ _=>by rw [(hd1.trans hd2).heap]
      have hS:=zb4 hq3 (i:=k) (j:=2*k+1+1) (by omega) (by omega) (by omega)
      simp only [Int.natCast_add,Int.natCast_mul,Int.cast_ofNat_Int] at hS
      have hm3 : ∀ n, (method (n + 1) TQ (.pointer (some ⟨b, 0, none⟩)) "Swap").run Try.prog w2 = .ok (91, v) w2 := fun n => zbA (zag hq3.blk 0)
      have hS:=Lib.hid hS
      clear hq3
      go_wp2_with fail
      refine hS.out.mono ?_
      rintro e w' ⟨rfl,hq',ht'⟩
      go_wp2
      go_roundw
      case rel=>
       have hlp:=HQ.out.len
       refine ⟨2*k+1+1,zbu ps' k (2*k+1+1),swap Q' k (2*k+1+1),by first | rfl | (simp;done) | go_num,by omega,by rw [zaj];omega,hq',hm.trans (SameP.swap hlp (by omega) (by omega)),?_,.inr ⟨?_,?_⟩,ht.trans ((Drw.turn _ (hd1.trans hd2)).trans (ht'.mono fun x hx=>(QF.iff hm.mem x).1 hx))⟩
       ·rw [← hu,down.eq_def Q' k n,dif_pos hg.out,hkid.out]
       ·rcases hr with ⟨e1,e2⟩ | ⟨e1,e2⟩<;>omega
       ·rcases hr with ⟨e1,e2⟩ | ⟨e1,e2⟩
        ·rw [← e2,← e1];exact hg.out
        ·exact e2
      case measure=>simp [intOf];omega
   ·have c3:¬ (2*(k:Int)+1+1<(n:Int)):=by omega
    have hq2:QOk wr b v mv ps' Q':=HQ.out.kept fun _ _=>by rw [(Drw.refl wr).heap]
    have hm2 : ∀ n, (method (n + 1) TQ (.pointer (some ⟨b, 0, none⟩)) "Less").run Try.prog wr = .ok (90, v) wr := fun n => zbB (zag hq2.blk 0)
    have hkid:kid Q' k n=2*k+1:=by
     unfold kid
     exact if_neg fun e=>h2 e.1
    have hkid:=Lib.hid hkid
    have hL:=zbD hq2 (i:=2*k+1) (j:=k) (by omega) (by omega)
    simp only [Int.natCast_add,Int.natCast_mul,Int.cast_ofNat_Int] at hL
    have hL:=Lib.hid hL
    clear hq2
    go_wp2_with fail
    refine hL.out.mono ?_
    rintro e w2 ⟨rfl,hd2⟩
    cases hlt:lt (at' Q' (2*k+1)) (at' Q' k)
    ·go_wp2
     go_ret
     exact hfin.out _ ((Drw.refl wr).trans hd2) (by unfold goes;rw [hkid.out,hlt,Bool.and_false])
    ·have hg:goes Q' k n=true:=by unfold goes;rw [hkid.out,hlt,decide_eq_true h1];rfl
     have hg:=Lib.hid hg
     have hq3:QOk w2 b v mv ps' Q':=HQ.out.kept fun _ _=>by rw [((Drw.refl wr).trans hd2).heap]
     have hS:=zb4 hq3 (i:=k) (j:=2*k+1) (by omega) (by omega) (by omega)
     simp only [Int.natCast_add,Int.natCast_mul,Int.cast_ofNat_Int] at hS
     have hm3 : ∀ n, (method (n + 1) TQ (.pointer (some ⟨b, 0, none⟩)) "Swap").run Try.prog w2 = .ok (91, v) w2 := fun n => zbA (zag hq3.blk 0)
     have hS:=Lib.hid hS
     clear hq3
     go_wp2_with fail
     refine hS.out.mono ?_
     rintro e w' ⟨rfl,hq',ht'⟩
     go_wp2
     go_roundw
     case rel=>
      have hlp:=HQ.out.len
      refine ⟨2*k+1,zbu ps' k (2*k+1),swap Q' k (2*k+1),by first | rfl | (simp;done) | go_num,by omega,by rw [zaj];omega,hq',hm.trans (SameP.swap hlp (by omega) (by omega)),?_,.inr ⟨?_,?_⟩,ht.trans ((Drw.turn _ ((Drw.refl wr).trans hd2)).trans (ht'.mono fun x hx=>(QF.iff hm.mem x).1 hx))⟩
      ·rw [← hu,down.eq_def Q' k n,dif_pos hg.out,hkid.out]
      ·rcases hr with ⟨e1,e2⟩ | ⟨e1,e2⟩<;>omega
      ·rcases hr with ⟨e1,e2⟩ | ⟨e1,e2⟩
       ·rw [← e2,← e1];exact hg.out
       ·exact e2
     case measure=>simp [intOf];omega
  ·have c1:2*(k:Int)+1≥(n:Int):=by omega
   go_wp2
   go_ret
   exact hfin.out _ (Drw.refl _) (by unfold goes;rw [decide_eq_false h1];rfl)
abbrev qPtr (b:Nat):Value:= .iface TQ (.pointer (some ⟨b,0,none⟩))
def zhz (w:World) (b:Nat) (v mv:Value) (ps:List Nat) (Q Q':List It) (e:Ending) (w':World):Prop:=e = .returned (.tuple #[])∧Same' w w' b v mv ps Q Q'
set_option maxHeartbeats 1000000 in
theorem zjJ {w:World} {b:Nat} {v mv:Value} {ps:List Nat} {Q:List It} (h:QOk w b v mv ps Q) {i:Nat} (hi:i<Q.length) :
  Calls Try.prog 43 #[qPtr b,.int .i64 i] w (zhz w b v mv ps Q (fix Q i Q.length)):=by
 have H:=Lib.hid h
 have hs:=h.small
 have hm1 : ∀ n, (method (n + 1) TQ (.pointer (some ⟨b, 0, none⟩)) "Len").run Try.prog w = .ok (89, v) w := fun n => zeo (zag h.blk 0)
 have hL:=Lib.hid (zeq h.row hs)
 obtain ⟨n,hn⟩:∃ n,Q.length=n:=⟨_,rfl⟩
 rw [hn] at hL hs hi ⊢
 clear h
 unfold qPtr
 go_enter Try.func43,Try.ntmps43
 go_wp2_with fail
 refine hL.out.mono ?_
 rintro e w1 ⟨rfl,hd1⟩
 have hq1:QOk w1 b v mv ps Q:=H.out.kept fun _ _=>by rw [hd1.heap]
 have hD:=Lib.hid (zfm hq1 hi (by omega))
 clear hq1
 go_wp2_with fail
 refine hD.out.mono ?_
 rintro e w2 ⟨rfl,⟨ps2,hq2,hm2⟩,ht2⟩
 cases hg:goes Q i n
 ·have hf:fix Q i n=up Q i:=by unfold fix;rw [hg];rfl
  have hdn:down Q i n=Q:=by rw [down,dif_neg (by rw [hg];decide)]
  rw [hdn] at hq2 hm2
  have hU:=Lib.hid (zfY hq2 (j:=i) (by omega))
  clear hq2
  go_wp2_with fail
  refine hU.out.mono ?_
  rintro e w3 ⟨rfl,⟨ps3,hq3,hm3⟩,ht3⟩
  go_wp2
  go_end0
  exact ⟨rfl,⟨ps3,by rw [hf];exact hq3,by rw [hf];exact hm2.trans hm3⟩,(Drw.turn _ hd1).trans (ht2.trans (ht3.mono fun x hx=>(QF.iff hm2.mem x).1 hx))⟩
 ·have hf:fix Q i n=down Q i n:=by unfold fix;rw [hg];rfl
  have hq2:=Lib.hid hq2
  go_wp2
  go_end0
  exact ⟨rfl,⟨ps2,by rw [hf];exact hq2.out,by rw [hf];exact hm2⟩,(Drw.turn _ hd1).trans ht2⟩
def zcN (w:World) (b p:Nat) (v mv:Value) (ps:List Nat) (Q:List It) (x:It) (e:Ending) (w':World):Prop:=
 e = .returned (.tuple #[])∧∃ v' ps',QOk w' b v' mv ps' (up (Q++[x]) Q.length)∧SameP (ps++[p]) (Q++[x]) ps' (up (Q++[x]) Q.length)∧Turn (fun y=>QF b v ps y∨y=p) w w'∧(v'.ownBlock=v.ownBlock∨∃ g,v'.ownBlock=some g∧w.heap.size≤g)
theorem Turn.trans' {F G:Nat→Prop} {w w' w'':World} (h:Turn F w w') (k:Turn G w' w'') (hg:∀ x,x<w.heap.size→G x→F x):Turn F w w'' :=
 ⟨k.os.trans h.os,k.tape.trans h.tape,k.output.trans h.output,Nat.le_trans h.size k.size,fun b hb hn=>(k.block b (Nat.lt_of_lt_of_le hb h.size) (fun g=>hn (hg b hb g))).trans (h.block b hb hn)⟩
set_option maxHeartbeats 1000000 in
theorem zgI {w:World} {b p k0:Nat} {v mv:Value} {ps:List Nat} {Q:List It} {x:It} (h:QOk w b v mv ps Q) (hp:w.heap[p]? = some (.cells (itC x k0) TI (0,0))) (hpn:p∉ps) (hx:I64 x.1∧I64 x.2) (hn:Q.length<1000000) :
  Calls Try.prog 44 #[qPtr b,.iface TP (ptrV p)] w (zcN w b p v mv ps Q x):=by
 have hm1 : ∀ n, (method (n + 1) TQ (.pointer (some ⟨b, 0, none⟩)) "Push").run Try.prog w = .ok (93, .pointer (some ⟨b, 0, none⟩)) w := fun n => zhT _ _
 have hP:=Lib.hid (zhM h hp hpn hx hn)
 clear h hp hpn
 unfold qPtr
 unfold ptrV at hP ⊢
 go_enter Try.func44,Try.ntmps44
 go_wp2_with fail
 refine hP.out.mono ?_
 rintro e w1 ⟨rfl,v1,hq1,ht1,hv1⟩
 have hlen:(Q++[x]).length=Q.length+1:=by simp
 have hL:=Lib.hid (zeq hq1.row hq1.small)
 have hm2 : ∀ n, (method (n + 1) TQ (.pointer (some ⟨b, 0, none⟩)) "Len").run Try.prog w1 = .ok (89, v1) w1 := fun n => zeo (zag hq1.blk 0)
 have hq1:=Lib.hid hq1
 rw [hlen] at hL
 obtain ⟨n,hnn⟩:∃ n,Q.length=n:=⟨_,rfl⟩
 rw [hnn] at hL hn
 go_wp2_with fail
 refine hL.out.mono ?_
 rintro e w2 ⟨rfl,hd2⟩
 have hq2:QOk w2 b v1 mv (ps++[p]) (Q++[x]):=hq1.out.kept fun _ _=>by rw [hd2.heap]
 have hU:=Lib.hid (zfY hq2 (j:=n) (by omega))
 clear hq2
 have hw:IntKind.i64.wrap (((n+1:Nat):Int)-1)=(n:Int):=by rw [IntKind.wrap_i64];omega
 go_wp2_with fail
 refine hU.out.mono ?_
 rintro e w3 ⟨rfl,⟨ps3,hq3,hm3⟩,ht3⟩
 go_wp2
 go_end0
 refine ⟨rfl,v1,ps3,by rw [hnn];exact hq3,by rw [hnn];exact hm3,(ht1.trans (Drw.turn _ hd2)).trans' ht3 fun y hy hg=>?_,hv1⟩
 rcases hg with e | e | e
 ·exact .inl (.inl e)
 ·rcases hv1 with e1 | ⟨g,e1,hge⟩
  ·exact .inl (.inr (.inl (by rw [← e1];exact e)))
  ·rw [e1] at e;have:=Option.some.inj e;omega
 ·rcases List.mem_append.1 e with e | e
  ·exact .inl (.inr (.inr e))
  ·exact .inr (List.mem_singleton.1 e)
theorem SameP.take {ps ps':List Nat} {Q Q':List It} {n:Nat} (h:SameP ps Q ps' Q') (hn:n<Q'.length):∀ k',k'<(Q'.take n).length→∃ k,k<Q.length∧(ps'.take n).getD k' 0=ps.getD k 0∧at' (Q'.take n) k'=at' Q k:=fun k' hk=>by
 have hk2:k'<n:=by rw [List.length_take] at hk;omega
 obtain ⟨k,h1,h2,h3⟩:=h.pair k' (by omega)
 refine ⟨k,h1,?_,?_⟩
 ·rw [← h2,List.getD_eq_getElem?_getD,List.getD_eq_getElem?_getD,List.getElem?_take_of_lt hk2]
 ·rw [← h3];unfold at';rw [List.getD_eq_getElem?_getD,List.getD_eq_getElem?_getD,List.getElem?_take_of_lt hk2]
def zhy (w:World) (b:Nat) (v mv:Value) (ps:List Nat) (Q Q':List It) (e:Ending) (w':World):Prop:=
 ∃ r v' ps',e = .returned r∧QOk w' b v' mv ps' Q'∧(∀ y,y∈ps'→y∈ps)∧(∀ k',k'<Q'.length→∃ k,k<Q.length∧ps'.getD k' 0=ps.getD k 0∧at' Q' k'=at' Q k)∧Turn (QF b v ps) w w'∧v'.ownBlock=v.ownBlock
set_option maxHeartbeats 1000000 in
theorem zjs {w:World} {b:Nat} {v mv:Value} {ps:List Nat} {Q:List It} (h:QOk w b v mv ps Q) {i:Nat} (hi:i<Q.length) :
  Calls Try.prog 52 #[qPtr b,.int .i64 i] w (zhy w b v mv ps Q ((rem1 Q i).take (Q.length-1))):=by
 have H:=Lib.hid h
 have hs:=h.small
 have hm1 : ∀ n, (method (n + 1) TQ (.pointer (some ⟨b, 0, none⟩)) "Len").run Try.prog w = .ok (89, v) w := fun n => zeo (zag h.blk 0)
 have hL:=Lib.hid (zeq h.row hs)
 obtain ⟨n,hn⟩:∃ n,Q.length=n+1:=⟨Q.length-1,by omega⟩
 rw [hn] at hL hs hi ⊢
 have hn1:n+1-1=n:=rfl
 rw [hn1]
 clear h
 have hw:IntKind.i64.wrap (((n+1:Nat):Int)-1)=(n:Int):=by rw [IntKind.wrap_i64];omega
 unfold qPtr
 -- what a pop behind it all does
 have hpop:∀ w3 ps3 Q3,QOk w3 b v mv ps3 Q3→Q3.length=n+1→Calls Try.prog 92 #[.pointer (some ⟨b,0,none⟩)] w3 (ze7 w3 b v mv ps3 Q3):=fun w3 ps3 Q3 hq hl=>zjv hq (by omega)
 have hpop:=Lib.hid hpop
 by_cases hne:n=i
 ·subst hne
  have e0:((n:Int) != (n:Int))=false:=by simp
  go_enter Try.func52,Try.ntmps52
  go_wp2_with fail
  refine hL.out.mono ?_
  rintro e w1 ⟨rfl,hd1⟩
  have hq1:QOk w1 b v mv ps Q:=H.out.kept fun _ _=>by rw [hd1.heap]
  have hP:=Lib.hid (hpop.out w1 ps Q hq1 hn)
  have hm2 : ∀ n, (method (n + 1) TQ (.pointer (some ⟨b, 0, none⟩)) "Pop").run Try.prog w1 = .ok (92, .pointer (some ⟨b, 0, none⟩)) w1 := fun n => zen _ _
  clear hq1
  go_wp2_with fail
  refine hP.out.mono ?_
  rintro e w2 ⟨rfl,v2,hq2,ht2,hv2⟩
  have hq2:=Lib.hid hq2
  go_wp2
  go_ret
  have hr:rem1 Q n=Q:=by unfold rem1;rw [hn,hn1];exact if_neg (fun e=>e rfl)
  have hq:=hq2.out
  rw [hn,hn1] at hq
  exact ⟨_,v2,ps.take n,rfl,by rw [hr];exact hq,fun y hy=>List.mem_of_mem_take hy,by rw [hr];exact (SameP.refl ps Q).take (by omega),(Drw.turn _ hd1).trans ht2,hv2⟩
 ·have e0:((n:Int) != (i:Int))=true:=by simp;omega
  have hr:rem1 Q i=fix (swap Q i n) i n:=by unfold rem1;rw [hn,hn1];exact if_pos hne
  go_enter Try.func52,Try.ntmps52
  go_wp2_with fail
  refine hL.out.mono ?_
  rintro e w1 ⟨rfl,hd1⟩
  have hq1:QOk w1 b v mv ps Q:=H.out.kept fun _ _=>by rw [hd1.heap]
  have hS:=Lib.hid (zb4 hq1 (i:=i) (j:=n) (by omega) (by omega) (fun e=>hne e.symm))
  have hm2 : ∀ n, (method (n + 1) TQ (.pointer (some ⟨b, 0, none⟩)) "Swap").run Try.prog w1 = .ok (91, v) w1 := fun n => zbA (zag hq1.blk 0)
  have hlp:=H.out.len
  have hsm:SameP ps Q (zbu ps i n) (swap Q i n):=SameP.swap hlp (by omega) (by omega)
  clear hq1
  go_wp2_with fail
  refine hS.out.mono ?_
  rintro e w2 ⟨rfl,hq2,ht2⟩
  have hl2:(swap Q i n).length=n+1:=by rw [zaj];exact hn
  have hD:=Lib.hid (zfm hq2 (i:=i) (n:=n) (by omega) (by omega))
  have ht2:=Lib.hid ht2
  clear hq2
  go_wp2_with fail
  refine hD.out.mono ?_
  rintro e w3 ⟨rfl,⟨ps3,hq3,hm3⟩,ht3⟩
  cases hg:goes (swap Q i n) i n
  ·have hf:fix (swap Q i n) i n=up (swap Q i n) i:=by unfold fix;rw [hg];rfl
   have hdn:down (swap Q i n) i n=swap Q i n:=by rw [down,dif_neg (by rw [hg];decide)]
   rw [hdn] at hq3 hm3
   have hU:=Lib.hid (zfY hq3 (j:=i) (by omega))
   clear hq3
   go_wp2_with fail
   refine hU.out.mono ?_
   rintro e w4 ⟨rfl,⟨ps4,hq4,hm4⟩,ht4⟩
   have hP:=Lib.hid (hpop.out w4 ps4 _ hq4 (by rw [zd6];exact hl2))
   have hm5 : ∀ n, (method (n + 1) TQ (.pointer (some ⟨b, 0, none⟩)) "Pop").run Try.prog w4 = .ok (92, .pointer (some ⟨b, 0, none⟩)) w4 := fun n => zen _ _
   clear hq4
   go_wp2_with fail
   refine hP.out.mono ?_
   rintro e w5 ⟨rfl,v5,hq5,ht5,hv5⟩
   have hq5:=Lib.hid hq5
   go_wp2
   go_ret
   have hq:=hq5.out
   have hl:(up (swap Q i n) i).length-1=n:=by rw [zd6,hl2];rfl
   rw [hl] at hq
   have hmm:=(hsm.trans hm3).trans hm4
   have hl9:n<(up (swap Q i n) i).length:=by rw [zd6,hl2];omega
   exact ⟨_,v5,_,rfl,by rw [hr,hf];exact hq,fun y hy=>(hmm.mem y).1 (List.mem_of_mem_take hy),by rw [hr,hf];exact hmm.take hl9,(Drw.turn _ hd1).trans (ht2.out.trans ((ht3.mono fun x hx=>(QF.iff hsm.mem x).1 hx).trans ((ht4.mono fun x hx=>(QF.iff (hsm.trans hm3).mem x).1 hx).trans (ht5.mono fun x hx=>(QF.iff hmm.mem x).1 hx)))),hv5⟩
  ·have hf:fix (swap Q i n) i n=down (swap Q i n) i n:=by unfold fix;rw [hg];rfl
   have hP:=Lib.hid (hpop.out w3 ps3 _ hq3 (by rw [zco];exact hl2))
   have hm5 : ∀ n, (method (n + 1) TQ (.pointer (some ⟨b, 0, none⟩)) "Pop").run Try.prog w3 = .ok (92, .pointer (some ⟨b, 0, none⟩)) w3 := fun n => zen _ _
   clear hq3
   go_wp2_with fail
   refine hP.out.mono ?_
   rintro e w5 ⟨rfl,v5,hq5,ht5,hv5⟩
   have hq5:=Lib.hid hq5
   go_wp2
   go_ret
   have hq:=hq5.out
   have hl:(down (swap Q i n) i n).length-1=n:=by rw [zco,hl2];rfl
   rw [hl] at hq
   have hmm:=hsm.trans hm3
   have hl9:n<(down (swap Q i n) i n).length:=by rw [zco,hl2];omega
   exact ⟨_,v5,_,rfl,by rw [hr,hf];exact hq,fun y hy=>(hmm.mem y).1 (List.mem_of_mem_take hy),by rw [hr,hf];exact hmm.take hl9,(Drw.turn _ hd1).trans (ht2.out.trans ((ht3.mono fun x hx=>(QF.iff hsm.mem x).1 hx).trans (ht5.mono fun x hx=>(QF.iff hmm.mem x).1 hx))),hv5⟩
abbrev TM:TypeId:=74
abbrev TN:TypeId:=3
def RP:Value→Option (DataW Unit×List MemPlace)
 | .pointer none=>some (.lit (.bool false),[])
 | .pointer (some a)=>if a=⟨a.block,0,none⟩ then some (.lit (.int .u64 a.block),[]) else none
 | _=>none
theorem RP_mk (p:Nat):RP (ptrV p)=some (.lit (.int .u64 p),[]):=by simp [RP,ptrV]
theorem zjf {v:Value} {p:Nat} {ps:List MemPlace} (h:RP v=some (.lit (.int .u64 (p:Int)),ps)):v=ptrV p:=by
 unfold RP at h
 split at h
 ·simp at h
 ·rename_i a
  split at h
  ·rename_i e
   simp only [Option.some.injEq,Prod.mk.injEq,DataW.lit.injEq,Lit.int.injEq,true_and] at h
   have e2:a.block=p:=by omega
   rw [e,e2];rfl
  ·cases h
 ·cases h
theorem keyI:Maps.Keyed Try.prog TN:=Maps.int_keyed (q:= .i64) (by kernel_rfl)
def kI (id:Int):Lit:= .int .i64 id
theorem zia {a b:Int} (h:a≠b):kI a≠kI b:=fun e=>by
 simp only [kI,Lit.int.injEq,true_and] at e;exact h e
theorem ziP (id:Int):WideAt.IsKeyLit (kI id):=by simp [kI,WideAt.IsKeyLit]
structure MOk (w:World) (mb:Nat) (ps:List Nat) (Q:List It):Prop where
 D:∃ D:DataW Unit,w.ownsMap Try.prog TN RP mb Q.length D∧Maps.size D=Q.length∧(∀ id,Maps.has D (kI id)=za4 Q id)∧∀ k,k<Q.length→∀ z,D.atKey (kI (at' Q k).1) z = .lit (.int .u64 (ps.getD k 0:Nat))
theorem MOk.kept {w w':World} {mb:Nat} {ps:List Nat} {Q:List It} (h:MOk w mb ps Q) (e:w'.heap[mb]? = w.heap[mb]?):MOk w' mb ps Q:=by
 obtain ⟨D,⟨es,clock,hb,F,hs,hD⟩,h2⟩:=h.D
 exact ⟨D,⟨es,clock,e.trans hb,F,hs,hD⟩,h2⟩
theorem MOk.blk {w:World} {mb:Nat} {ps:List Nat} {Q:List It} (h:MOk w mb ps Q):∃ es c,w.heap[mb]? = some (.map es c):=by
 obtain ⟨D,⟨es,clock,hb,_⟩,_⟩:=h.D
 exact ⟨es,clock,hb⟩
theorem zgt {P:Program} {w:World} {k:TypeId} {R:Value→Option (DataW Unit×List MemPlace)} {b n:Nat} {D:DataW Unit} (h:w.ownsMap P k R b n D):w.ownsMap P k R b (Maps.size D) D:=by
 obtain ⟨es,clock,hb,F,hs,rfl⟩:=h
 refine ⟨es,clock,hb,F,?_,rfl⟩
 simp [Maps.size,length_sorted]
structure CkOk (w:World) (b:Nat) (L:List It) (F:Nat→Prop):Prop where
 q:∃ v mb ps Q,QOk w b v (.map (some mb)) ps Q∧HeapOf Q L∧MOk w mb ps Q∧∀ x,F x↔QF b v ps x∨x=mb
theorem za3 {Q L:List It} (h:Q.Perm L) (id:Int):za4 Q id=za4 L id:=by
 rw [Bool.eq_iff_iff,hasId_iff,hasId_iff]
 constructor
 ·rintro ⟨x,hx,e⟩;exact ⟨x,h.mem_iff.1 hx,e⟩
 ·rintro ⟨x,hx,e⟩;exact ⟨x,h.mem_iff.2 hx,e⟩
theorem CkOk.kept {w w':World} {b:Nat} {L:List It} {F:Nat→Prop} (h:CkOk w b L F) (e:∀ x,F x→w'.heap[x]? = w.heap[x]?):CkOk w' b L F:=by
 obtain ⟨v,mb,ps,Q,hq,hh,hm,hF⟩:=h.q
 exact ⟨v,mb,ps,Q,hq.kept fun x hx=>e x ((hF x).2 (.inl hx)),hh,hm.kept (e mb ((hF mb).2 (.inr rfl))),hF⟩
theorem QOk.lt {w:World} {b:Nat} {v mv:Value} {ps:List Nat} {Q:List It} (h:QOk w b v mv ps Q) {x:Nat} (hx:QF b v ps x):x<w.heap.size:=by
 rcases hx with rfl | e | e
 ·exact (Array.getElem?_eq_some_iff.1 h.blk).1
 ·obtain ⟨c,hc⟩:=h.rowT e
  exact (Array.getElem?_eq_some_iff.1 hc).1
 ·obtain ⟨k,hk,rfl⟩:=List.mem_iff_getElem.1 e
  have:=h.it k (by rw [← h.len];exact hk)
  rw [List.getD_eq_getElem?_getD,List.getElem?_eq_getElem hk] at this
  exact (Array.getElem?_eq_some_iff.1 this).1
theorem CkOk.lt {w:World} {b:Nat} {L:List It} {F:Nat→Prop} (h:CkOk w b L F) {x:Nat} (hx:F x):x<w.heap.size:=by
 obtain ⟨v,mb,ps,Q,hq,hh,hm,hF⟩:=h.q
 rcases (hF x).1 hx with e | rfl
 ·exact hq.lt e
 ·obtain ⟨es,c,hb⟩:=hm.blk
  exact (Array.getElem?_eq_some_iff.1 hb).1
theorem QOk.not_map {w:World} {b:Nat} {v mv:Value} {ps:List Nat} {Q:List It} (h:QOk w b v mv ps Q) {mb:Nat} {es:Array MapEntry} {c:Nat} (hm:w.heap[mb]? = some (.map es c)):¬ QF b v ps mb:=by
 rintro (rfl | e | e)
 ·rw [h.blk] at hm;simp at hm
 ·obtain ⟨c',hc'⟩:=h.rowT e
  rw [hc'] at hm;simp at hm
 ·obtain ⟨k,hk,rfl⟩:=List.mem_iff_getElem.1 e
  have:=h.it k (by rw [← h.len];exact hk)
  rw [List.getD_eq_getElem?_getD,List.getElem?_eq_getElem hk] at this
  have this:w.heap[ps[k]]? = _:=this
  rw [this] at hm;simp at hm
theorem zj5 (w:World):Calls Try.prog 37 #[] w fun e w'=>∃ b,e = .returned (.pointer (some ⟨b,0,none⟩))∧w.heap.size≤b∧CkOk w' b [] (fun x=>x=b∨x=w.heap.size)∧Below w.heap.size w w':=by
 go_enter Try.func37,Try.ntmps37
 have hmm:= @run_makeMap Try.prog
 go_wp2
 go_ret
 have hsz:(w.alloc (.map #[] 0)).heap.size=w.heap.size+1:=by simp
 have hb:((w.alloc (.map #[] 0)).alloc (.cells #[.slice none 0 0,.map (some w.heap.size)] TC)).heap[w.heap.size+1]? = some (.cells #[.slice none 0 0,.map (some w.heap.size)] TC (0,0)):=by
  have:=heap_alloc_new (w.alloc (.map #[] 0)) (.cells #[.slice none 0 0,.map (some w.heap.size)] TC (0,0))
  rw [hsz] at this;exact this
 refine ⟨w.heap.size+1,rfl,by omega,⟨.slice none 0 0,w.heap.size,[],[],⟨hb,World.ownsRow_nil _ _ _ _,rfl,fun k hk=>absurd hk (Nat.not_lt_zero _),fun x hx=>(by cases hx),Nat.zero_le _⟩,HeapOf.nil,⟨.map [],(World.ownsMap_made w Try.prog TN RP).alloc _,rfl,fun _=>rfl,fun k hk=>absurd hk (Nat.not_lt_zero _)⟩,fun x=>?_⟩,?_⟩
 ·unfold QF
  constructor
  ·rintro (e | e)
   ·exact .inl (.inl e)
   ·exact .inr e
  ·rintro ((e | e | e) | e)
   ·exact .inl e
   ·cases e
   ·cases e
   ·exact .inr e
 ·exact ((Below.refl _ _).alloc (Nat.le_refl _) _).alloc (by simp) _
def nextV (L:List It):Value:=match L with
 | []=> .tuple #[.int .i64 0,.int .i64 0,.int .i64 50]
 | x::_=> .tuple #[.int .i64 x.1,.int .i64 x.2,.int .i64 0]
theorem Hp.HeapOf.len {Q L:List It} (h:HeapOf Q L):Q.length=L.length:=h.perm.length_eq
theorem zis {w:World} {b:Nat} {L:List It} {F:Nat→Prop} (h:CkOk w b L F):Calls Try.prog 88 #[.pointer (some ⟨b,0,none⟩)] w fun e w'=>e = .returned (.int .i64 L.length)∧Drw w w':=by
 obtain ⟨v,mb,ps,Q,hq,hh,hm,hF⟩:=h.q
 obtain ⟨ad,c,rfl⟩:=hq.sl
 have c0:w.cell? ⟨b,0,none⟩=some (.slice ad Q.length c):=zag hq.blk 0
 rw [hh.len] at c0
 have hs:=hq.small
 rw [hh.len] at hs
 clear hq hm hh hF h
 go_enter Try.func88,Try.ntmps88
 go_wp2
 go_ret
 exact ⟨rfl,Drw.refl _⟩
theorem zhR {w:World} {b:Nat} {L:List It} {F:Nat→Prop} (h:CkOk w b L F):Calls Try.prog 45 #[.pointer (some ⟨b,0,none⟩)] w fun e w'=>e = .returned (nextV L)∧Drw w w':=by
 obtain ⟨v,mb,ps,Q,hq,hh,hm,hF⟩:=h.q
 have hl:=hh.len
 have hs:=hq.small
 cases L with
 | nil=>
  obtain ⟨ad,c,rfl⟩:=hq.sl
  have c0:w.cell? ⟨b,0,none⟩=some (.slice ad Q.length c):=zag hq.blk 0
  rw [hl] at c0
  simp only [List.length_nil] at c0
  clear hq hm hh hF h
  go_enter Try.func45,Try.ntmps45
  go_wp2
  go_ret3
  exact ⟨rfl,Drw.refl _⟩
 | cons x L=>
  have hl:Q.length=L.length+1:=by simpa using hl
  obtain ⟨g,cap,rfl,hc,hz⟩:=hq.form (by omega)
  have c0:w.cell? ⟨b,0,none⟩=some (.slice (some ⟨g,0,none⟩) Q.length cap):=zag hq.blk 0
  have d0:=hc 0 (by omega)
  obtain ⟨i0,i1,_,_⟩:=hq.itc (k:=0) (by omega)
  rw [hh.head] at i0 i1
  obtain ⟨p,hp⟩:∃ p,ps.getD 0 0=p:=⟨_,rfl⟩
  rw [hp] at d0 i0 i1
  rw [hl] at c0 hs
  have e1:(((L.length+1:Nat):Int)==0)=false:=by simp;omega
  have e2:((L.length:Int)+1==0)=false:=by simp;omega
  have e3:(0:Int)<(L.length:Int)+1:=by omega
  unfold ptrV at d0
  clear hq hm hh hF h hc hz
  go_enter Try.func45,Try.ntmps45
  go_wp2_with fail
  go_region
  go_wp2
  go_ret3
  exact ⟨rfl,_,rfl⟩
end Go.Proofs.Ytjfphnegcelbpaa
namespace Go.Proofs.Ytjfphnegcelbpaa
open Go.RowKit Go.ChangeShapes Go.WideShapes Go.Deep
def kJ (id:Int):Lit:= .int .i64 id
theorem zkM {a b:Int} (h:a≠b):kJ a≠kJ b:=fun e=>by
 simp only [kJ,Lit.int.injEq,true_and] at e;exact h e
theorem ziO (id:Int):WideAt.IsKeyLit (kJ id):=by simp [kJ,WideAt.IsKeyLit]
def RI (v:Value):Option (DataW Unit×List MemPlace):=match v with
 | .int .i64 a=>if (Lit.int .i64 a).wf=true then some (.lit (.int .i64 a),[]) else none
 | _=>none
theorem zlm {a:Int} (h:(Lit.int .i64 a).wf=true):RI (.int .i64 a)=some (.lit (.int .i64 a),[]):=if_pos h
theorem zln {v:Value} {c:Int} {ps:List MemPlace} (h:RI v=some (.lit (.int .i64 c),ps)):v = .int .i64 c∧(Lit.int .i64 c).wf=true:=by
 unfold RI at h
 split at h
 ·rename_i a
  split at h
  ·rename_i e
   simp only [Option.some.injEq,Prod.mk.injEq,DataW.lit.injEq,Lit.int.injEq,true_and] at h
   obtain ⟨rfl,_⟩:=h
   exact ⟨rfl,e⟩
  ·cases h
 ·cases h
def MapD (M:List (Int×Int)) (D:DataW Unit):Prop:=
 ∀ k,Maps.has D (kJ k)=(M.lookup k).isSome∧D.atKey (kJ k) (.lit (.int .i64 0)) = .lit (.int .i64 ((M.lookup k).getD 0))
def ImOk (w:World) (b:Nat) (M:List (Int×Int)):Prop:=∃ (P:Program) (k:TypeId) (D:DataW Unit),P.underlying k=some (.int .i64)∧w.ownsMap P k RI b M.length D∧MapD M D
theorem zhZ {P P':Program} {k k':TypeId} (h:P.underlying k=some (.int .i64)) (h':P'.underlying k'=some (.int .i64)):keyOf P k=keyOf P' k':=by
 funext v
 simp only [keyOf,h,h',mapKey]
theorem zeS {P P':Program} {k k':TypeId} (h:P.underlying k=some (.int .i64)) (h':P'.underlying k'=some (.int .i64)) {w:World} {b n:Nat} {D:DataW Unit} (hm:w.ownsMap P k RI b n D):w.ownsMap P' k' RI b n D:=by
 obtain ⟨es,c,hb,F,hs,hD⟩:=hm
 have e:WideElems.rd (H:=Unit) P k RI=WideElems.rd P' k' RI:=by
  funext x
  unfold WideElems.rd
  rw [zhZ h h']
 have e2:WideElems.rg (H:=Unit) P k RI=WideElems.rg P' k' RI:=by
  funext x
  unfold WideElems.rg
  rw [e]
 exact ⟨es,c,hb,⟨F.size,F.stamped,fun x hx=>by rw [← e];exact F.reads x hx⟩,hs,by rw [← e2];exact hD⟩
theorem ImOk.lt {w:World} {b:Nat} {M:List (Int×Int)} (h:ImOk w b M):b<w.heap.size:=by
 obtain ⟨P,k,D,_,h,_⟩:=h
 exact h.lt
theorem ImOk.kept {w w':World} {b:Nat} {M:List (Int×Int)} (h:ImOk w b M) (e:w'.heap[b]? = w.heap[b]?):ImOk w' b M:=by
 obtain ⟨P,k,D,h1,⟨es,clock,hb,F,hs,hD⟩,h3⟩:=h
 exact ⟨P,k,D,h1,⟨es,clock,e.trans hb,F,hs,hD⟩,h3⟩
theorem ImOk.made {P:Program} {k:TypeId} (h:P.underlying k=some (.int .i64)) (w:World):ImOk (w.alloc (.map #[] 0)) w.heap.size []:=
 ⟨P,k,.map [],h,World.ownsMap_made w P k RI,fun _=>⟨rfl,rfl⟩⟩
theorem ImOk.put {P:Program} {t k e:TypeId} (ht:P.underlying t=some (.map k e)) (hk:P.underlying k=some (.int .i64)) {w:World} {b:Nat} {M:List (Int×Int)} (h:ImOk w b M) (hn:M.length<maxLen) {a c:Int} (ha:(Lit.int .i64 a).wf=true) (hc:(Lit.int .i64 c).wf=true) :
  ∃ w',(Instr.mapUpdate t (.map (some b)) (.int .i64 a) (.int .i64 c)).run P w = .ok () w'∧ImOk w' b ((a,c)::M)∧w.grownBy w' (some b):=by
 obtain ⟨P',k',D,h1,h2,h3⟩:=h
 have h2:=zeS h1 hk h2
 obtain ⟨w',r1,r2,r3⟩:=h2.update (Maps.int_keyed hk) ht hn (Maps.keyOf_int_mk hk ha) (zlm hc)
 refine ⟨w',r1,⟨P,k,_,hk,r2,fun k2=>?_⟩,r3⟩
 rw [List.lookup_cons]
 by_cases e:k2=a
 ·subst e
  rw [beq_self_eq_true]
  exact ⟨Maps.has_put_same h2.isMap (ziO _) _,Maps.atKey_put_same h2.isMap (ziO _) _ _⟩
 ·rw [beq_false_of_ne e]
  exact ⟨(Maps.has_put_other (zkM e) _).trans (h3 k2).1,(Maps.atKey_put_other (zkM e) _ _).trans (h3 k2).2⟩
theorem ImOk.get {P:Program} {t k e:TypeId} (ht:P.underlying t=some (.map k e)) (hk:P.underlying k=some (.int .i64)) {w:World} (hz:(zeroValue e).run P w = .ok (.int .i64 0) w) {b:Nat} {M:List (Int×Int)} (h:ImOk w b M) {a:Int} (ha:(Lit.int .i64 a).wf=true) :
  (Instr.lookup t (.map (some b)) (.int .i64 a) true).run P w = .ok (.tuple #[.int .i64 ((M.lookup a).getD 0),.bool (M.lookup a).isSome]) w∧(Lit.int .i64 ((M.lookup a).getD 0)).wf=true:=by
 obtain ⟨P',k',D,h1,h2,h3⟩:=h
 have h2:=zeS h1 hk h2
 obtain ⟨v,ps,r1,r2⟩:=h2.look_ok (Maps.int_keyed hk) ht hz (zlm (a:=0) (by decide)) (Maps.keyOf_int_mk hk ha)
 have e1:=(h3 a).2
 have e2:=(h3 a).1
 rw [show D.atKey (.int .i64 a) (.lit (.int .i64 0)) = .lit (.int .i64 ((M.lookup a).getD 0)) from e1] at r2
 obtain ⟨rfl,r3⟩:=zln r2
 rw [show Maps.has D (.int .i64 a)=(M.lookup a).isSome from e2] at r1
 exact ⟨r1,r3⟩
inductive OD
 | no
 | clock (L:List It)
 | imap (M:List (Int×Int))
def OD.pr:OD→World→(Nat→Prop)→Nat→Prop
 | .no,_,_,_=>False
 | .clock L,w,F,b=>CkOk w b L F
 | .imap M,w,F,b=>ImOk w b M∧∀ x,F x↔x=b
theorem OD.lt:∀ {o:OD} {w:World} {F:Nat→Prop} {b x:Nat},o.pr w F b→F x→x<w.heap.size
 | .no,_,_,_,_,h,_=>h.elim
 | .clock _,_,_,_,_,h,hx=>CkOk.lt h hx
 | .imap _,_,_,_,_,h,hx=>by rw [(h.2 _).1 hx];exact h.1.lt
theorem OD.frame:∀ {o:OD} {w w':World} {F:Nat→Prop} {b:Nat},o.pr w F b→(∀ x,F x→w'.heap[x]? = w.heap[x]?)→o.pr w' F b
 | .no,_,_,_,_,h,_=>h.elim
 | .clock _,_,_,_,_,h,e=>CkOk.kept h e
 | .imap _,_,_,_,_,h,e=>⟨h.1.kept (e _ ((h.2 _).2 rfl)),h.2⟩
def OD.ite (c:Bool):OD→OD→Option OD
 | .no,.no=>some .no
 | .clock L,.clock M=>some (.clock (if c then L else M))
 | .imap L,.imap M=>some (.imap (if c then L else M))
 | _,_=>none
theorem OD.ite_t:∀ {a b o:OD},OD.ite true a b=some o→o=a
 | .no,.no,.no,_=>rfl
 | .clock _,.clock _,_,h=>(Option.some.inj h).symm
 | .imap _,.imap _,_,h=>(Option.some.inj h).symm
theorem OD.ite_f:∀ {a b o:OD},OD.ite false a b=some o→o=b
 | .no,.no,.no,_=>rfl
 | .clock _,.clock _,_,h=>(Option.some.inj h).symm
 | .imap _,.imap _,_,h=>(Option.some.inj h).symm
def OD.eqP:OD→OD→Option Prop
 | .no,.no=>some True
 | .clock L,.clock M=>some (L=M)
 | .imap L,.imap M=>some (L=M)
 | _,_=>none
theorem OD.eqP_ok:∀ {a b:OD} {p:Prop},OD.eqP a b=some p→p→a=b
 | .no,.no,_,_,_=>rfl
 | .clock L,.clock M,_,h,hp=>by
  have e:(L=M)=_:=Option.some.inj h
  rw [← e] at hp
  rw [hp]
 | .imap L,.imap M,_,h,hp=>by
  have e:(L=M)=_:=Option.some.inj h
  rw [← e] at hp
  rw [hp]
end Go.Proofs.Ytjfphnegcelbpaa
namespace Go.Proofs.Ytjfphnegcelbpaa
open Go.RowKit Go.ChangeShapes Go.WideShapes Go.Deep
inductive RL
 | rInts (l:List Int)
 | rSent (l:List Sent)
 | rWait (l:List Wait)
 | rLease (l:List Lease)
 | rBytes (l:List Int)
def RL.tys:RL→List Ty
 | .rInts l=>[.int .i64]
 | .rSent l=>Sent.ty
 | .rWait l=>Wait.ty
 | .rLease l=>Lease.ty
 | .rBytes l=>[.int .u8]
def RL.rows:RL→List (List D)
 | .rInts l=>ints l
 | .rSent l=>l.map Sent.enc
 | .rWait l=>l.map Wait.enc
 | .rLease l=>l.map Lease.enc
 | .rBytes l=>ints l
def RL.len:RL→Nat
 | .rInts l=>l.length
 | .rSent l=>l.length
 | .rWait l=>l.length
 | .rLease l=>l.length
 | .rBytes l=>l.length
def RL.emp:RL→RL
 | .rInts l=> .rInts []
 | .rSent l=> .rSent []
 | .rWait l=> .rWait []
 | .rLease l=> .rLease []
 | .rBytes l=> .rBytes []
def RL.take:RL→Nat→RL
 | .rInts l,n=> .rInts (l.take n)
 | .rSent l,n=> .rSent (l.take n)
 | .rWait l,n=> .rWait (l.take n)
 | .rLease l,n=> .rLease (l.take n)
 | .rBytes l,n=> .rBytes (l.take n)
def RL.drop:RL→Nat→RL
 | .rInts l,n=> .rInts (l.drop n)
 | .rSent l,n=> .rSent (l.drop n)
 | .rWait l,n=> .rWait (l.drop n)
 | .rLease l,n=> .rLease (l.drop n)
 | .rBytes l,n=> .rBytes (l.drop n)
def RL.app:RL→RL→Option RL
 | .rInts l,.rInts m=>some (.rInts (l++m))
 | .rSent l,.rSent m=>some (.rSent (l++m))
 | .rWait l,.rWait m=>some (.rWait (l++m))
 | .rLease l,.rLease m=>some (.rLease (l++m))
 | .rBytes l,.rBytes m=>some (.rBytes (l++m))
 | _,_=>none
def RL.ite (b:Bool):RL→RL→Option RL
 | .rInts l,.rInts m=>some (.rInts (if b then l else m))
 | .rSent l,.rSent m=>some (.rSent (if b then l else m))
 | .rWait l,.rWait m=>some (.rWait (if b then l else m))
 | .rLease l,.rLease m=>some (.rLease (if b then l else m))
 | .rBytes l,.rBytes m=>some (.rBytes (if b then l else m))
 | _,_=>none
inductive SV
 | any
 | int (k:IntKind) (n:Int)
 | bool (b:Bool)
 | str (s:ByteArray)
 | nil
 | np
 | sl (ls:List Nat) (r:RL)
 | own (t:Nat)
 | ptr (t off:Nat)
 | mp (t:Nat)
 | el (ls:List Nat) (r:RL) (i off:Nat)
 | oel (t sz i off:Nat)
 | agg (vs:List SV)
 | tup (vs:List SV)
 | fn (f:Nat)
 | clo (f:Nat) (cs:List SV)
 | rp (ls:List Nat) (T:Nat) (cs:List SV) (off:Nat)
 | gd (b:Bool) (v:SV)
 | ub (p q:Prop)
 | ro (ls:List Nat) (o:OD)
instance:Inhabited SV:=⟨.any⟩
def Sent.svs (ls:List Nat) (x:Sent):List SV:=[.int .i64 x.ask,.int .i64 x.at_]
def Holder.svs (ls:List Nat) (x:Holder):List SV:=[.int .i64 x.node,.int .i64 x.now,.int .i64 x.ask,.sl ls (.rSent x.sent),.int .i64 x.seq,.int .i64 x.at_]
def Wait.svs (ls:List Nat) (x:Wait):List SV:=[.int .i64 x.seq,.int .i64 x.at_]
def Lease.svs (ls:List Nat) (x:Lease):List SV:=[.int .i64 x.seq,.int .i64 x.node,.int .i64 x.ask,.int .i64 x.epoch]
def RL.elem (ls:List Nat):RL→Nat→List SV
 | .rInts l,i=>[.int .i64 (l.getD i 0)]
 | .rSent l,i=>Sent.svs ls (l.getD i default)
 | .rWait l,i=>Wait.svs ls (l.getD i default)
 | .rLease l,i=>Lease.svs ls (l.getD i default)
 | .rBytes l,i=>[.int .u8 (l.getD i 0)]
def SV.asInts:SV→Option (List Int×List Nat)
 | .sl ls (.rInts l)=>some (l,ls)
 | .nil=>some ([],[])
 | _=>none
def SV.asSent:SV→Option (List Sent×List Nat)
 | .sl ls (.rSent l)=>some (l,ls)
 | .nil=>some ([],[])
 | _=>none
def SV.asWait:SV→Option (List Wait×List Nat)
 | .sl ls (.rWait l)=>some (l,ls)
 | .nil=>some ([],[])
 | _=>none
def SV.asLease:SV→Option (List Lease×List Nat)
 | .sl ls (.rLease l)=>some (l,ls)
 | .nil=>some ([],[])
 | _=>none
def Sent.of:List SV→Option (Sent×List Nat)
 | [.int .i64 v0,.int .i64 v1]=>some (⟨v0,v1⟩,[])
 | _=>none
def Holder.of:List SV→Option (Holder×List Nat)
 | [.int .i64 v0,.int .i64 v1,.int .i64 v2,s3,.int .i64 v4,.int .i64 v5]=>match s3.asSent with | some (v3,m3)=>(some (⟨v0,v1,v2,v3,v4,v5⟩,m3)) | none=>none
 | _=>none
def Wait.of:List SV→Option (Wait×List Nat)
 | [.int .i64 v0,.int .i64 v1]=>some (⟨v0,v1⟩,[])
 | _=>none
def Lease.of:List SV→Option (Lease×List Nat)
 | [.int .i64 v0,.int .i64 v1,.int .i64 v2,.int .i64 v3]=>some (⟨v0,v1,v2,v3⟩,[])
 | _=>none
def RL.snoc:RL→List SV→Option (RL×List Nat)
 | .rInts l,[.int .i64 n]=>some (.rInts (l++[n]),[])
 | .rSent l,cs=>match Sent.of cs with | some (x,m)=>some (.rSent (l++[x]),m) | none=>none
 | .rWait l,cs=>match Wait.of cs with | some (x,m)=>some (.rWait (l++[x]),m) | none=>none
 | .rLease l,cs=>match Lease.of cs with | some (x,m)=>some (.rLease (l++[x]),m) | none=>none
 | .rBytes l,[.int .u8 n]=>some (.rBytes (l++[n]),[])
 | .rInts _,_=>none
 | .rBytes _,_=>none
def RL.put:RL→Nat→List SV→Option (RL×List Nat)
 | .rInts l,i,[.int .i64 n]=>some (.rInts (l.set i n),[])
 | .rSent l,i,cs=>match Sent.of cs with | some (x,m)=>some (.rSent (l.set i x),m) | none=>none
 | .rWait l,i,cs=>match Wait.of cs with | some (x,m)=>some (.rWait (l.set i x),m) | none=>none
 | .rLease l,i,cs=>match Lease.of cs with | some (x,m)=>some (.rLease (l.set i x),m) | none=>none
 | .rBytes l,i,[.int .u8 n]=>some (.rBytes (l.set i n),[])
 | .rInts _,_,_=>none
 | .rBytes _,_,_=>none
structure Env where
 β:Nat→Option Value
 σ:Nat→Nat→Prop
 φ:Nat→Nat→Prop
def Env.set (E:Env) (ls:List Nat) (b:Nat):Prop:=∃ i,i∈ls∧E.σ i b
mutual
/-- v is as sv says -/
def DenV (E:Env) (w:World):SV→Value→Prop
 | .any,_=>True
 | .int k n,v=>v = .int k n∧(Lit.int k n).wf=true
 | .bool b,v=>v = .bool b
 | .str s,v=>v = .string s∧s.size≤140737488355328
 | .nil,v=>v = .slice none 0 0
 | .np,v=>v = .pointer none
 | .sl ls r,v=>Rd w (E.set ls) (.sl r.tys) v (.sl r.rows)
 | .own t,v=>E.β t=some v∧v.oneCell'=true
 | .ptr t off,v=>∃ b,E.β t=some (.pointer (some ⟨b,0,none⟩))∧v = .pointer (some ⟨b,off,none⟩)
 | .mp t,v=>∃ b,E.β t=some (.pointer (some ⟨b,0,none⟩))∧v = .map (some b)
 | .el ls r i off,v=>i<r.len∧∃ b o c,v = .pointer (some ⟨b,o+i*r.tys.length+off,none⟩)∧Rd w (E.set ls) (.sl r.tys) (.slice (some ⟨b,o,none⟩) r.len c) (.sl r.rows)
 | .oel t sz i off,v=>∃ b n c,E.β t=some (.slice (some ⟨b,0,none⟩) n c)∧v = .pointer (some ⟨b,i*sz+off,none⟩)
 | .agg vs,v=>∃ xs,v = .agg xs.toArray∧DenL E w vs xs
 | .tup vs,v=>∃ xs,v = .tuple xs.toArray∧DenL E w vs xs
 | .fn f,v=>v = .func (.func f) #[] #[]
 | .clo f cs,v=>∃ xs,v = .func (.func f) #[] xs.toArray∧DenL E w cs xs
 | .rp ls T cs off,v=>∃ b xs,v = .pointer (some ⟨b,off,none⟩)∧E.set ls b∧w.heap[b]? = some (.cells xs.toArray T (0,0))∧DenL E w cs xs
 | .gd b s,v=>(b=true→DenV E w s v)∧(b=false→v=undef)
 | .ub p q,v=>∃ b,v = .bool b∧(b=true→p)∧(b=false→q)
 | .ro ls o,v=>∃ (b:Nat) (F:Nat→Prop),v = .pointer (some ⟨b,0,none⟩)∧o.pr w F b∧∀ x,F x→E.set ls x
def DenL (E:Env) (w:World):List SV→List Value→Prop
 | [],[]=>True
 | s::ss,x::xs=>DenV E w s x∧DenL E w ss xs
 | _,_=>False
end
theorem RL.rows_len (r:RL):r.rows.length=r.len:=by cases r<;>simp [RL.rows,RL.len,ints,strs,zfQ]
theorem RL.tys_pos (r:RL):0<r.tys.length∧r.tys.length≤64:=by cases r<;>(simp only [RL.tys];decide)
theorem zbE {E:Env} {w:World} {S:Nat→Prop} {v:Value} {n:Int} (h:Rd w S (.int .i64) v (.int n)):DenV E w (.int .i64 n) v:=by cases h with | int h=>exact ⟨rfl,h⟩
theorem leafU {E:Env} {w:World} {S:Nat→Prop} {v:Value} {n:Int} (h:Rd w S (.int .u8) v (.int n)):DenV E w (.int .u8 n) v:=by cases h with | int h=>exact ⟨rfl,h⟩
theorem rdU {E:Env} {w:World} {S:Nat→Prop} {v:Value} {n:Int} (h:DenV E w (.int .u8 n) v):Rd w S (.int .u8) v (.int n):=by obtain ⟨rfl,h⟩:=h;exact .int h
theorem rdI {E:Env} {w:World} {S:Nat→Prop} {v:Value} {n:Int} (h:DenV E w (.int .i64 n) v):Rd w S (.int .i64) v (.int n):=by obtain ⟨rfl,h⟩:=h;exact .int h
theorem DenL.len0 {E:Env} {w:World}:∀ {ss:List SV} {vs:List Value},DenL E w ss vs→vs.length=ss.length
 | [],[],_=>rfl
 | _::ss,_::vs,h=>by simp [DenL.len0 h.2]
 | [],_::_,h=>h.elim
 | _::_,[],h=>h.elim
theorem Sent.svs_of {E:Env} {w:World} {ls:List Nat} {vs:List Value} {x:Sent} (h:RdL w (E.set ls) Sent.ty vs x.enc):DenL E w (x.svs ls) vs:=by
 have hl:=h.lens.1
 rw [Sent.ty_len] at hl
 obtain ⟨v0,v1,rfl⟩:=zdL hl
 obtain ⟨h0,h1,_⟩:=h
 exact ⟨zbE h0,zbE h1,trivial⟩
theorem Sent.svs_rd {E:Env} {w:World} {ls:List Nat} {vs:List Value} {x:Sent} (h:DenL E w (x.svs ls) vs):RdL w (E.set ls) Sent.ty vs x.enc:=by
 have hl:vs.length=2:=h.len0
 obtain ⟨v0,v1,rfl⟩:=zdL hl
 obtain ⟨h0,h1,_⟩:=h
 exact ⟨rdI h0,rdI h1,trivial⟩
theorem Holder.svs_of {E:Env} {w:World} {ls:List Nat} {vs:List Value} {x:Holder} (h:RdL w (E.set ls) Holder.ty vs x.enc):DenL E w (x.svs ls) vs:=by
 have hl:=h.lens.1
 rw [Holder.ty_len] at hl
 obtain ⟨v0,v1,v2,v3,v4,v5,rfl⟩:=zj7 hl
 obtain ⟨h0,h1,h2,h3,h4,h5,_⟩:=h
 exact ⟨zbE h0,zbE h1,zbE h2,h3,zbE h4,zbE h5,trivial⟩
theorem Holder.svs_rd {E:Env} {w:World} {ls:List Nat} {vs:List Value} {x:Holder} (h:DenL E w (x.svs ls) vs):RdL w (E.set ls) Holder.ty vs x.enc:=by
 have hl:vs.length=6:=h.len0
 obtain ⟨v0,v1,v2,v3,v4,v5,rfl⟩:=zj7 hl
 obtain ⟨h0,h1,h2,h3,h4,h5,_⟩:=h
 exact ⟨rdI h0,rdI h1,rdI h2,h3,rdI h4,rdI h5,trivial⟩
theorem Wait.svs_of {E:Env} {w:World} {ls:List Nat} {vs:List Value} {x:Wait} (h:RdL w (E.set ls) Wait.ty vs x.enc):DenL E w (x.svs ls) vs:=by
 have hl:=h.lens.1
 rw [Wait.ty_len] at hl
 obtain ⟨v0,v1,rfl⟩:=zdL hl
 obtain ⟨h0,h1,_⟩:=h
 exact ⟨zbE h0,zbE h1,trivial⟩
theorem Wait.svs_rd {E:Env} {w:World} {ls:List Nat} {vs:List Value} {x:Wait} (h:DenL E w (x.svs ls) vs):RdL w (E.set ls) Wait.ty vs x.enc:=by
 have hl:vs.length=2:=h.len0
 obtain ⟨v0,v1,rfl⟩:=zdL hl
 obtain ⟨h0,h1,_⟩:=h
 exact ⟨rdI h0,rdI h1,trivial⟩
theorem Lease.svs_of {E:Env} {w:World} {ls:List Nat} {vs:List Value} {x:Lease} (h:RdL w (E.set ls) Lease.ty vs x.enc):DenL E w (x.svs ls) vs:=by
 have hl:=h.lens.1
 rw [Lease.ty_len] at hl
 obtain ⟨v0,v1,v2,v3,rfl⟩:=zhW hl
 obtain ⟨h0,h1,h2,h3,_⟩:=h
 exact ⟨zbE h0,zbE h1,zbE h2,zbE h3,trivial⟩
theorem Lease.svs_rd {E:Env} {w:World} {ls:List Nat} {vs:List Value} {x:Lease} (h:DenL E w (x.svs ls) vs):RdL w (E.set ls) Lease.ty vs x.enc:=by
 have hl:vs.length=4:=h.len0
 obtain ⟨v0,v1,v2,v3,rfl⟩:=zhW hl
 obtain ⟨h0,h1,h2,h3,_⟩:=h
 exact ⟨rdI h0,rdI h1,rdI h2,rdI h3,trivial⟩
theorem Env.set_mono {E:Env} {ls ms:List Nat} (h:∀ i,i∈ls→i∈ms):∀ b,E.set ls b→E.set ms b:=fun b ⟨i,hi,hs⟩=>⟨i,h i hi,hs⟩
theorem SV.asInts_ok {E:Env} {w:World} {s:SV} {v:Value} {l:List Int} {m ls:List Nat} (h:s.asInts=some (l,m)) (hm:∀ i,i∈m→i∈ls) (hd:DenV E w s v):DenV E w (.sl ls (.rInts l)) v:=by
 cases s with
 | sl ls2 r=>
  cases r with
  | rInts l2=>
   simp only [SV.asInts,Option.some.injEq,Prod.mk.injEq] at h
   obtain ⟨rfl,rfl⟩:=h
   exact Rd.mono hd (fun b _=>Env.set_mono hm b)
  | _=>simp [SV.asInts] at h
 | nil=>
  simp only [SV.asInts,Option.some.injEq,Prod.mk.injEq] at h
  obtain ⟨rfl,rfl⟩:=h
  have:v = .slice none 0 0:=hd
  subst this
  exact .emp (fun _=>rfl) (by decide)
 | _=>simp [SV.asInts] at h
theorem SV.asSent_ok {E:Env} {w:World} {s:SV} {v:Value} {l:List Sent} {m ls:List Nat} (h:s.asSent=some (l,m)) (hm:∀ i,i∈m→i∈ls) (hd:DenV E w s v):DenV E w (.sl ls (.rSent l)) v:=by
 cases s with
 | sl ls2 r=>
  cases r with
  | rSent l2=>
   simp only [SV.asSent,Option.some.injEq,Prod.mk.injEq] at h
   obtain ⟨rfl,rfl⟩:=h
   exact Rd.mono hd (fun b _=>Env.set_mono hm b)
  | _=>simp [SV.asSent] at h
 | nil=>
  simp only [SV.asSent,Option.some.injEq,Prod.mk.injEq] at h
  obtain ⟨rfl,rfl⟩:=h
  have:v = .slice none 0 0:=hd
  subst this
  exact .emp (fun _=>rfl) (by decide)
 | _=>simp [SV.asSent] at h
theorem SV.asWait_ok {E:Env} {w:World} {s:SV} {v:Value} {l:List Wait} {m ls:List Nat} (h:s.asWait=some (l,m)) (hm:∀ i,i∈m→i∈ls) (hd:DenV E w s v):DenV E w (.sl ls (.rWait l)) v:=by
 cases s with
 | sl ls2 r=>
  cases r with
  | rWait l2=>
   simp only [SV.asWait,Option.some.injEq,Prod.mk.injEq] at h
   obtain ⟨rfl,rfl⟩:=h
   exact Rd.mono hd (fun b _=>Env.set_mono hm b)
  | _=>simp [SV.asWait] at h
 | nil=>
  simp only [SV.asWait,Option.some.injEq,Prod.mk.injEq] at h
  obtain ⟨rfl,rfl⟩:=h
  have:v = .slice none 0 0:=hd
  subst this
  exact .emp (fun _=>rfl) (by decide)
 | _=>simp [SV.asWait] at h
theorem SV.asLease_ok {E:Env} {w:World} {s:SV} {v:Value} {l:List Lease} {m ls:List Nat} (h:s.asLease=some (l,m)) (hm:∀ i,i∈m→i∈ls) (hd:DenV E w s v):DenV E w (.sl ls (.rLease l)) v:=by
 cases s with
 | sl ls2 r=>
  cases r with
  | rLease l2=>
   simp only [SV.asLease,Option.some.injEq,Prod.mk.injEq] at h
   obtain ⟨rfl,rfl⟩:=h
   exact Rd.mono hd (fun b _=>Env.set_mono hm b)
  | _=>simp [SV.asLease] at h
 | nil=>
  simp only [SV.asLease,Option.some.injEq,Prod.mk.injEq] at h
  obtain ⟨rfl,rfl⟩:=h
  have:v = .slice none 0 0:=hd
  subst this
  exact .emp (fun _=>rfl) (by decide)
 | _=>simp [SV.asLease] at h
theorem Sent.of_ok {E:Env} {w:World} {ss:List SV} {vs:List Value} {x:Sent} {m:List Nat} (h:Sent.of ss=some (x,m)) (hd:DenL E w ss vs):DenL E w (x.svs m) vs:=by
 unfold Sent.of at h
 split at h
 ·have hl:=hd.len0
  obtain ⟨u0,u1,rfl⟩:=zdL hl
  obtain ⟨h0,h1,_⟩:=hd
  simp only [Option.some.injEq,Prod.mk.injEq] at h
  obtain ⟨rfl,rfl⟩:=h
  exact ⟨h0,h1,trivial⟩
 ·simp at h
theorem Holder.of_ok {E:Env} {w:World} {ss:List SV} {vs:List Value} {x:Holder} {m:List Nat} (h:Holder.of ss=some (x,m)) (hd:DenL E w ss vs):DenL E w (x.svs m) vs:=by
 unfold Holder.of at h
 split at h
 ·have hl:=hd.len0
  obtain ⟨u0,u1,u2,u3,u4,u5,rfl⟩:=zj7 hl
  obtain ⟨h0,h1,h2,h3,h4,h5,_⟩:=hd
  split at h
  case h_2=>simp at h
  rename_i e3
  simp only [Option.some.injEq,Prod.mk.injEq] at h
  obtain ⟨rfl,rfl⟩:=h
  exact ⟨h0,h1,h2,SV.asSent_ok e3 (by simp (config:={contextual:=true})) h3,h4,h5,trivial⟩
 ·simp at h
theorem Wait.of_ok {E:Env} {w:World} {ss:List SV} {vs:List Value} {x:Wait} {m:List Nat} (h:Wait.of ss=some (x,m)) (hd:DenL E w ss vs):DenL E w (x.svs m) vs:=by
 unfold Wait.of at h
 split at h
 ·have hl:=hd.len0
  obtain ⟨u0,u1,rfl⟩:=zdL hl
  obtain ⟨h0,h1,_⟩:=hd
  simp only [Option.some.injEq,Prod.mk.injEq] at h
  obtain ⟨rfl,rfl⟩:=h
  exact ⟨h0,h1,trivial⟩
 ·simp at h
theorem Lease.of_ok {E:Env} {w:World} {ss:List SV} {vs:List Value} {x:Lease} {m:List Nat} (h:Lease.of ss=some (x,m)) (hd:DenL E w ss vs):DenL E w (x.svs m) vs:=by
 unfold Lease.of at h
 split at h
 ·have hl:=hd.len0
  obtain ⟨u0,u1,u2,u3,rfl⟩:=zhW hl
  obtain ⟨h0,h1,h2,h3,_⟩:=hd
  simp only [Option.some.injEq,Prod.mk.injEq] at h
  obtain ⟨rfl,rfl⟩:=h
  exact ⟨h0,h1,h2,h3,trivial⟩
 ·simp at h
theorem RL.elem_ok {E:Env} {w:World} {ls:List Nat} {r:RL} {i:Nat} (hi:i<r.len) {vs:List Value} (h:RdL w (E.set ls) r.tys vs (r.rows.getD i [])):DenL E w (r.elem ls i) vs:=by
 cases r with
 | rInts l=>
  have e:(ints l).getD i []=[.int (l.getD i 0)]:=by simp only [RL.len] at hi;simp [ints,List.getD,hi]
  simp only [RL.rows,RL.tys] at h;rw [e] at h
  match vs,h with
  | [v],h=>exact ⟨zbE h.1,trivial⟩
 | rSent l=>
  have e:(l.map Sent.enc).getD i []=(l.getD i default).enc:=by simp only [RL.len] at hi;simp [List.getD,hi]
  simp only [RL.rows,RL.tys] at h;rw [e] at h
  exact Sent.svs_of h
 | rWait l=>
  have e:(l.map Wait.enc).getD i []=(l.getD i default).enc:=by simp only [RL.len] at hi;simp [List.getD,hi]
  simp only [RL.rows,RL.tys] at h;rw [e] at h
  exact Wait.svs_of h
 | rLease l=>
  have e:(l.map Lease.enc).getD i []=(l.getD i default).enc:=by simp only [RL.len] at hi;simp [List.getD,hi]
  simp only [RL.rows,RL.tys] at h;rw [e] at h
  exact Lease.svs_of h
 | rBytes l=>
  have e:(ints l).getD i []=[.int (l.getD i 0)]:=by simp only [RL.len] at hi;simp [ints,List.getD,hi]
  simp only [RL.rows,RL.tys] at h;rw [e] at h
  match vs,h with
  | [v],h=>exact ⟨leafU h.1,trivial⟩
theorem RL.app_ok {a b r:RL} (h:a.app b=some r):r.rows=a.rows++b.rows∧r.tys=a.tys∧b.tys=a.tys∧r.len=a.len+b.len:=by
 cases a<;>cases b<;>simp only [RL.app,Option.some.injEq,reduceCtorEq] at h<;>subst h<;>simp [RL.rows,RL.tys,RL.len,ints,strs,zfQ]
theorem RL.ite_t {a b r:RL} (h:RL.ite true a b=some r):r=a:=by cases a<;>cases b<;>simp_all [RL.ite]
theorem RL.ite_f {a b r:RL} (h:RL.ite false a b=some r):r=b:=by cases a<;>cases b<;>simp_all [RL.ite]
theorem RL.take_ok (r:RL) (n:Nat):(r.take n).rows=r.rows.take n∧(r.take n).tys=r.tys∧(r.take n).len=min n r.len:=by cases r<;>simp [RL.take,RL.rows,RL.tys,RL.len,ints,strs,zfQ]
theorem RL.drop_ok (r:RL) (n:Nat):(r.drop n).rows=r.rows.drop n∧(r.drop n).tys=r.tys∧(r.drop n).len=r.len-n:=by cases r<;>simp [RL.drop,RL.rows,RL.tys,RL.len,ints,strs,zfQ]
theorem RL.emp_ok (r:RL):r.emp.rows=[]∧r.emp.tys=r.tys∧r.emp.len=0:=by cases r<;>simp [RL.emp,RL.rows,RL.tys,RL.len,ints,strs,zfQ]
theorem zeP {E:Env} {w:World} {m:List Nat} {s:SV} {t:Ty} {d:D} (hs:∀ v,DenV E w s v→Rd w (E.set m) t v d) {vs:List Value} (h:DenL E w [s] vs):RdL w (E.set m) [t] vs [d]:=by
 match vs,h with
 | [v],h=>exact ⟨hs v h.1,trivial⟩
theorem RL.snoc_ok {r r2:RL} {cs:List SV} {m:List Nat} (h:r.snoc cs=some (r2,m)):r2.tys=r.tys∧r2.len=r.len+1∧∃ ds,r2.rows=r.rows++[ds]∧∀ (E:Env) (w:World) (vs:List Value),DenL E w cs vs→RdL w (E.set m) r.tys vs ds:=by
 cases r with
 | rInts l=>
  match cs,h with
  | [.int .i64 n],h=>
   simp only [RL.snoc,Option.some.injEq,Prod.mk.injEq] at h
   obtain ⟨rfl,rfl⟩:=h
   exact ⟨rfl,by simp [RL.len],[.int n],by simp [RL.rows,ints],fun E w vs hd=>zeP (fun v hv=>rdI hv) hd⟩
 | rSent l=>
  simp only [RL.snoc] at h
  split at h
  case h_2=>simp at h
  rename_i x m2 e
  simp only [Option.some.injEq,Prod.mk.injEq] at h
  obtain ⟨rfl,rfl⟩:=h
  exact ⟨rfl,by simp [RL.len],x.enc,by simp [RL.rows],fun E w vs hd=>Sent.svs_rd (Sent.of_ok e hd)⟩
 | rWait l=>
  simp only [RL.snoc] at h
  split at h
  case h_2=>simp at h
  rename_i x m2 e
  simp only [Option.some.injEq,Prod.mk.injEq] at h
  obtain ⟨rfl,rfl⟩:=h
  exact ⟨rfl,by simp [RL.len],x.enc,by simp [RL.rows],fun E w vs hd=>Wait.svs_rd (Wait.of_ok e hd)⟩
 | rLease l=>
  simp only [RL.snoc] at h
  split at h
  case h_2=>simp at h
  rename_i x m2 e
  simp only [Option.some.injEq,Prod.mk.injEq] at h
  obtain ⟨rfl,rfl⟩:=h
  exact ⟨rfl,by simp [RL.len],x.enc,by simp [RL.rows],fun E w vs hd=>Lease.svs_rd (Lease.of_ok e hd)⟩
 | rBytes l=>
  match cs,h with
  | [.int .u8 n],h=>
   simp only [RL.snoc,Option.some.injEq,Prod.mk.injEq] at h
   obtain ⟨rfl,rfl⟩:=h
   exact ⟨rfl,by simp [RL.len],[.int n],by simp [RL.rows,ints],fun E w vs hd=>zeP (fun v hv=>rdU hv) hd⟩
theorem RL.put_ok {r r2:RL} (i:Nat) {cs:List SV} {m:List Nat} (h:r.put i cs=some (r2,m)):r2.tys=r.tys∧r2.len=r.len∧∃ ds,r2.rows=r.rows.set i ds∧∀ (E:Env) (w:World) (vs:List Value),DenL E w cs vs→RdL w (E.set m) r.tys vs ds:=by
 cases r with
 | rInts l=>
  match cs,h with
  | [.int .i64 n],h=>
   simp only [RL.put,Option.some.injEq,Prod.mk.injEq] at h
   obtain ⟨rfl,rfl⟩:=h
   exact ⟨rfl,by simp [RL.len],[.int n],by simp [RL.rows,ints,List.map_set],fun E w vs hd=>zeP (fun v hv=>rdI hv) hd⟩
 | rSent l=>
  simp only [RL.put] at h
  split at h
  case h_2=>simp at h
  rename_i x m2 e
  simp only [Option.some.injEq,Prod.mk.injEq] at h
  obtain ⟨rfl,rfl⟩:=h
  exact ⟨rfl,by simp [RL.len],x.enc,by simp [RL.rows,List.map_set],fun E w vs hd=>Sent.svs_rd (Sent.of_ok e hd)⟩
 | rWait l=>
  simp only [RL.put] at h
  split at h
  case h_2=>simp at h
  rename_i x m2 e
  simp only [Option.some.injEq,Prod.mk.injEq] at h
  obtain ⟨rfl,rfl⟩:=h
  exact ⟨rfl,by simp [RL.len],x.enc,by simp [RL.rows,List.map_set],fun E w vs hd=>Wait.svs_rd (Wait.of_ok e hd)⟩
 | rLease l=>
  simp only [RL.put] at h
  split at h
  case h_2=>simp at h
  rename_i x m2 e
  simp only [Option.some.injEq,Prod.mk.injEq] at h
  obtain ⟨rfl,rfl⟩:=h
  exact ⟨rfl,by simp [RL.len],x.enc,by simp [RL.rows,List.map_set],fun E w vs hd=>Lease.svs_rd (Lease.of_ok e hd)⟩
 | rBytes l=>
  match cs,h with
  | [.int .u8 n],h=>
   simp only [RL.put,Option.some.injEq,Prod.mk.injEq] at h
   obtain ⟨rfl,rfl⟩:=h
   exact ⟨rfl,by simp [RL.len],[.int n],by simp [RL.rows,ints,List.map_set],fun E w vs hd=>zeP (fun v hv=>rdU hv) hd⟩
def RL.eqP:RL→RL→Option Prop
 | .rInts l,.rInts m=>some (l=m)
 | .rSent l,.rSent m=>some (l=m)
 | .rWait l,.rWait m=>some (l=m)
 | .rLease l,.rLease m=>some (l=m)
 | .rBytes l,.rBytes m=>some (l=m)
 | _,_=>none
theorem RL.eqP_ok {a b:RL} {p:Prop} (h:RL.eqP a b=some p) (hp:p):a=b:=by cases a<;>cases b<;>simp only [RL.eqP,Option.some.injEq,reduceCtorEq] at h<;>subst h<;>rw [hp]
def RL.nilP:RL→Prop
 | .rInts l=>l=[]
 | .rSent l=>l=[]
 | .rWait l=>l=[]
 | .rLease l=>l=[]
 | .rBytes l=>l=[]
theorem RL.nilP_ok {a:RL} (h:a.nilP):a.rows=[]:=by cases a<;>simp only [RL.nilP] at h<;>subst h<;>rfl
def RL.ofT (T:TypeId):Option RL:=
 if T=3 then some (.rInts []) else
 if T=51 then some (.rSent []) else
 if T=63 then some (.rWait []) else
 if T=46 then some (.rLease []) else
 if T=5 then some (.rBytes []) else
 none
theorem RL.ofT_ok {T:TypeId} {r:RL} (h:RL.ofT T=some r):r.rows=[]:=by
 unfold RL.ofT at h
 repeat
  split at h
  ·simp only [Option.some.injEq] at h;subst h;rfl
 simp at h
def zjg (l:List Int):Prop:=l.length≤17592186044416∧∀ x,x∈l→I64 x
theorem zjD {w:World} {S:Nat→Prop} {a:Option Addr} {n c:Nat} {l:List Int} (h:SlI w S a n c l):zjg l:=by
 have h1:=h.len
 have h2:=h.bd
 rw [zay] at h1
 exact ⟨by omega,h.i64⟩
theorem zjp {w:World} {S:Nat→Prop} {ts:List Ty} {α:Type} {enc:α→List D} {v:Value} {l:List α} (h:Rd w S (.sl ts) v (.sl (l.map enc))):∀ x,x∈l→∃ vs,RdL w S ts vs (enc x):=by
 intro x hx
 obtain ⟨i,hi,rfl⟩:=List.mem_iff_getElem.1 hx
 obtain ⟨a,c,rfl,hs⟩:=h.sl'
 rw [List.length_map] at hs
 obtain ⟨b,off,_,_,_,vals,_,hr⟩:=hs.rowAt (by omega)
 obtain ⟨h1,h2⟩:=hr i hi
 have e:(l.map enc).getD i []=enc l[i]:=by simp [List.getD,hi]
 rw [e] at h1 h2
 exact ⟨_,RdL.of_at (vals i) h1 h2⟩
theorem zdk {w:World} {S:Nat→Prop} {ts:List Ty} {α:Type} {enc:α→List D} {a:Option Addr} {n c:Nat} {l:List α} {p:α→Prop} (h:Sl w S ts a n c (l.map enc)) (hp:∀ x vs,RdL w S ts vs (enc x)→p x):l.length≤17592186044416∧∀ x,x∈l→p x:=by
 have h1:=h.len
 have h2:=h.bd
 rw [List.length_map] at h1
 exact ⟨by omega,fun x hx=>by obtain ⟨vs,hv⟩:=zjp h x hx;exact hp x vs hv⟩
structure Sent.Ok (x:Sent):Prop where
 ask:I64 x.ask
 at_:I64 x.at_
theorem Sent.ok_of {w:World} {S:Nat→Prop} {vs:List Value} {x:Sent} (h:RdL w S Sent.ty vs x.enc):x.Ok:=by
 obtain ⟨_,h0,h1⟩:=Sent.opens h
 exact ⟨h0,h1⟩
structure Holder.Ok (x:Holder):Prop where
 node:I64 x.node
 now:I64 x.now
 ask:I64 x.ask
 sent:(x.sent.length≤17592186044416∧∀ y,y∈x.sent→Sent.Ok y)
 seq:I64 x.seq
 at_:I64 x.at_
theorem Holder.ok_of {w:World} {S:Nat→Prop} {vs:List Value} {x:Holder} (h:RdL w S Holder.ty vs x.enc):x.Ok:=by
 obtain ⟨a3,c3,_,h0,h1,h2,h3,h4,h5⟩:=Holder.opens h
 exact ⟨h0,h1,h2,zdk h3 (fun _ _ hr=>Sent.ok_of hr),h4,h5⟩
structure Wait.Ok (x:Wait):Prop where
 seq:I64 x.seq
 at_:I64 x.at_
theorem Wait.ok_of {w:World} {S:Nat→Prop} {vs:List Value} {x:Wait} (h:RdL w S Wait.ty vs x.enc):x.Ok:=by
 obtain ⟨_,h0,h1⟩:=Wait.opens h
 exact ⟨h0,h1⟩
structure Lease.Ok (x:Lease):Prop where
 seq:I64 x.seq
 node:I64 x.node
 ask:I64 x.ask
 epoch:I64 x.epoch
theorem Lease.ok_of {w:World} {S:Nat→Prop} {vs:List Value} {x:Lease} (h:RdL w S Lease.ty vs x.enc):x.Ok:=by
 obtain ⟨_,h0,h1,h2,h3⟩:=Lease.opens h
 exact ⟨h0,h1,h2,h3⟩
inductive D.Sx:D→D→Prop
 | int (a b:Int):D.Sx (.int a) (.int b)
 | bool (a b:Bool):D.Sx (.bool a) (.bool b)
 | str (a b:ByteArray):D.Sx (.str a) (.str b)
 | sl {r q:List (List D)}:q.length=r.length→(∀ i,i<r.length→(q.getD i []).length=(r.getD i []).length)→(∀ i j,i<r.length→j<(r.getD i []).length→D.Sx ((r.getD i []).getD j default) ((q.getD i []).getD j default))→D.Sx (.sl r) (.sl q)
def D.Sh (d e:D):Prop:=D.Sx d e∧((∀ r,d ≠ .sl r)→e=d)
theorem zbb {α:Type} (d:α) (n:Nat) {p:Nat→α→Prop} (h:∀ i,i<n→∃ y,p i y):∃ m:List α,m.length=n∧∀ i,i<n→p i (m.getD i d):=by
 refine ⟨(List.range n).map fun i=>if h':i<n then (h i h').choose else d,by simp,fun i hi=>?_⟩
 have e:((List.range n).map fun i=>if h':i<n then (h i h').choose else d).getD i d=(h i hi).choose:=by simp [List.getD,hi]
 rw [e];exact (h i hi).choose_spec
theorem D.Sx.rows_inv {α:Type} [Inhabited α] {enc:α→List D} {l:List α} {e:D} {p:α→α→Prop} (h:D.Sx (.sl (l.map enc)) e) (hp:∀ x es,es.length=(enc x).length→(∀ j,j<(enc x).length→D.Sx ((enc x).getD j default) (es.getD j default))→∃ y,es=enc y∧p x y) :
  ∃ m:List α,e = .sl (m.map enc)∧m.length=l.length∧∀ i,i<l.length→p (l.getD i default) (m.getD i default):=by
 cases h with
 | sl h1 h2 h3=>
  rename_i q
  rw [List.length_map] at h1 h2 h3
  have he:∀ i,i<l.length→(l.map enc).getD i []=enc (l.getD i default):=fun i hi=>by simp [List.getD,hi]
  obtain ⟨m,hm,hpm⟩:=zbb (default:α) l.length (p:=fun i y=>q.getD i []=enc y∧p (l.getD i default) y) (fun i hi=>by
   refine hp _ _ ?_ ?_
   ·rw [h2 i hi,he i hi]
   ·intro j hj;have:=h3 i j hi (by rw [he i hi];exact hj);rwa [he i hi] at this)
  refine ⟨m,?_,hm,fun i hi=>(hpm i hi).2⟩
  congr 1
  apply List.ext_getElem (by simp [h1,hm])
  intro i g1 g2
  have hi:i<l.length:=by omega
  have:=(hpm i hi).1
  have e1:q.getD i []=q[i]:=by simp [List.getD,g1]
  have e2:m.getD i default=m[i]'(by omega):=by simp [List.getD,show i<m.length by omega]
  rw [e1,e2] at this
  simp [this]
def LSh (ds es:List D):Prop:=es.length=ds.length∧∀ j,j<ds.length→D.Sh (ds.getD j default) (es.getD j default)
structure Sent.Like (x y:Sent):Prop where
 ask:y.ask=x.ask
 at_:y.at_=x.at_
theorem Sent.like_of {x:Sent} {es:List D} (hL:LSh x.enc es):∃ y:Sent,es=y.enc∧Sent.Like x y:=by
 obtain ⟨hl,h⟩:=hL
 obtain ⟨v0,v1,rfl⟩:=zdL (show es.length=2 from hl)
 have h0:D.Sh (.int x.ask) v0:=h 0 (by rw [Sent.enc_len];decide)
 obtain rfl:=h0.2 (fun r e=>by cases e)
 have h1:D.Sh (.int x.at_) v1:=h 1 (by rw [Sent.enc_len];decide)
 obtain rfl:=h1.2 (fun r e=>by cases e)
 exact ⟨⟨x.ask,x.at_⟩,rfl,⟨rfl,rfl⟩⟩
structure Wait.Like (x y:Wait):Prop where
 seq:y.seq=x.seq
 at_:y.at_=x.at_
theorem Wait.like_of {x:Wait} {es:List D} (hL:LSh x.enc es):∃ y:Wait,es=y.enc∧Wait.Like x y:=by
 obtain ⟨hl,h⟩:=hL
 obtain ⟨v0,v1,rfl⟩:=zdL (show es.length=2 from hl)
 have h0:D.Sh (.int x.seq) v0:=h 0 (by rw [Wait.enc_len];decide)
 obtain rfl:=h0.2 (fun r e=>by cases e)
 have h1:D.Sh (.int x.at_) v1:=h 1 (by rw [Wait.enc_len];decide)
 obtain rfl:=h1.2 (fun r e=>by cases e)
 exact ⟨⟨x.seq,x.at_⟩,rfl,⟨rfl,rfl⟩⟩
structure Lease.Like (x y:Lease):Prop where
 seq:y.seq=x.seq
 node:y.node=x.node
 ask:y.ask=x.ask
 epoch:y.epoch=x.epoch
theorem Lease.like_of {x:Lease} {es:List D} (hL:LSh x.enc es):∃ y:Lease,es=y.enc∧Lease.Like x y:=by
 obtain ⟨hl,h⟩:=hL
 obtain ⟨v0,v1,v2,v3,rfl⟩:=zhW (show es.length=4 from hl)
 have h0:D.Sh (.int x.seq) v0:=h 0 (by rw [Lease.enc_len];decide)
 obtain rfl:=h0.2 (fun r e=>by cases e)
 have h1:D.Sh (.int x.node) v1:=h 1 (by rw [Lease.enc_len];decide)
 obtain rfl:=h1.2 (fun r e=>by cases e)
 have h2:D.Sh (.int x.ask) v2:=h 2 (by rw [Lease.enc_len];decide)
 obtain rfl:=h2.2 (fun r e=>by cases e)
 have h3:D.Sh (.int x.epoch) v3:=h 3 (by rw [Lease.enc_len];decide)
 obtain rfl:=h3.2 (fun r e=>by cases e)
 exact ⟨⟨x.seq,x.node,x.ask,x.epoch⟩,rfl,⟨rfl,rfl,rfl,rfl⟩⟩
def RL.Like:RL→RL→Prop
 | .rInts l,.rInts m=>m=l
 | .rSent l,.rSent m=>m.length=l.length∧∀ i,i<l.length→Sent.Like (l.getD i default) (m.getD i default)
 | .rWait l,.rWait m=>m.length=l.length∧∀ i,i<l.length→Wait.Like (l.getD i default) (m.getD i default)
 | .rLease l,.rLease m=>m.length=l.length∧∀ i,i<l.length→Lease.Like (l.getD i default) (m.getD i default)
 | .rBytes l,.rBytes m=>m=l
 | _,_=>False
theorem zba {α:Type} [Inhabited α] {enc:α→List D} {l:List α} {rows:List (List D)} {p:α→α→Prop} (hn:rows.length=(l.map enc).length) (h:∀ i,i<(l.map enc).length→LSh ((l.map enc).getD i []) (rows.getD i [])) (hp:∀ x es,LSh (enc x) es→∃ y,es=enc y∧p x y) :
  ∃ m:List α,rows=m.map enc∧m.length=l.length∧∀ i,i<l.length→p (l.getD i default) (m.getD i default):=by
 rw [List.length_map] at hn h
 have he:∀ i,i<l.length→(l.map enc).getD i []=enc (l.getD i default):=fun i hi=>by simp [List.getD,hi]
 obtain ⟨m,hm,hpm⟩:=zbb (default:α) l.length (p:=fun i y=>rows.getD i []=enc y∧p (l.getD i default) y) (fun i hi=>hp _ _ (by rw [← he i hi];exact h i hi))
 refine ⟨m,?_,hm,fun i hi=>(hpm i hi).2⟩
 apply List.ext_getElem (by simp [hn,hm])
 intro i g1 g2
 have hi:i<l.length:=by omega
 have:=(hpm i hi).1
 have e1:rows.getD i []=rows[i]:=by simp [List.getD,g1]
 have e2:m.getD i default=m[i]'(by omega):=by simp [List.getD,show i<m.length by omega]
 rw [e1,e2] at this
 simp [this]
theorem RL.like_of {r:RL} {rows:List (List D)} (hn:rows.length=r.rows.length) (h:∀ i,i<r.rows.length→LSh (r.rows.getD i []) (rows.getD i [])):∃ q:RL,q.rows=rows∧q.tys=r.tys∧q.len=r.len∧RL.Like r q:=by
 cases r with
 | rInts l=>
  obtain ⟨m,e1,e2,e3⟩:=zba (enc:=fun x:Int=>[D.int x]) (p:=fun x y=>y=x) (rows:=rows) (l:=l) hn h (fun x es h=>by
   obtain ⟨h1,h2⟩:=h
   match es,h1 with
   | [v],_=>
    have:=(h2 0 (by simp)).2 (fun r e=>by simp at e)
    exact ⟨x,by simpa using this,rfl⟩)
  have:m=l:=List.ext_getElem e2 (fun i g1 g2=>by have:=e3 i g2;simpa [List.getD,g1,g2] using this)
  exact ⟨.rInts m,e1.symm,rfl,e2,this⟩
 | rSent l=>
  obtain ⟨m,e1,e2,e3⟩:=zba (rows:=rows) (l:=l) hn h (fun x es h=>Sent.like_of h)
  exact ⟨.rSent m,e1.symm,rfl,e2,e2,e3⟩
 | rWait l=>
  obtain ⟨m,e1,e2,e3⟩:=zba (rows:=rows) (l:=l) hn h (fun x es h=>Wait.like_of h)
  exact ⟨.rWait m,e1.symm,rfl,e2,e2,e3⟩
 | rLease l=>
  obtain ⟨m,e1,e2,e3⟩:=zba (rows:=rows) (l:=l) hn h (fun x es h=>Lease.like_of h)
  exact ⟨.rLease m,e1.symm,rfl,e2,e2,e3⟩
 | rBytes l=>
  obtain ⟨m,e1,e2,e3⟩:=zba (enc:=fun x:Int=>[D.int x]) (p:=fun x y=>y=x) (rows:=rows) (l:=l) hn h (fun x es h=>by
   obtain ⟨h1,h2⟩:=h
   match es,h1 with
   | [v],_=>
    have:=(h2 0 (by simp)).2 (fun r e=>by simp at e)
    exact ⟨x,by simpa using this,rfl⟩)
  have:m=l:=List.ext_getElem e2 (fun i g1 g2=>by have:=e3 i g2;simpa [List.getD,g1,g2] using this)
  exact ⟨.rBytes m,e1.symm,rfl,e2,this⟩
def RL.All (r:RL) (p:RL→Prop):Prop:=
 match r with
 | .rInts l=>∀ m:List Int,RL.Like (.rInts l) (.rInts m)→p (.rInts m)
 | .rSent l=>∀ m:List Sent,RL.Like (.rSent l) (.rSent m)→p (.rSent m)
 | .rWait l=>∀ m:List Wait,RL.Like (.rWait l) (.rWait m)→p (.rWait m)
 | .rLease l=>∀ m:List Lease,RL.Like (.rLease l) (.rLease m)→p (.rLease m)
 | .rBytes l=>∀ m:List Int,RL.Like (.rBytes l) (.rBytes m)→p (.rBytes m)
theorem RL.All_mono {r:RL} {p q:RL→Prop} (h:RL.All r p) (hpq:∀ s,p s→q s):RL.All r q:=by
 cases r<;>exact fun m hm=>hpq _ (h m hm)
theorem RL.all_of {r q:RL} {p:RL→Prop} (h:RL.All r p) (hl:RL.Like r q):p q:=by
 cases r<;>cases q<;>first | exact h _ hl | exact hl.elim
end Go.Proofs.Ytjfphnegcelbpaa
namespace Go.Proofs.Ytjfphnegcelbpaa
open Go.RowKit Go.ChangeShapes Go.WideShapes Go.Deep
structure Env.Le (E E':Env):Prop where
 β:∀ t v,E.β t=some v→E'.β t=some v
 σ:∀ i b,E.σ i b→E'.σ i b
theorem Env.Le.refl (E:Env):E.Le E:=⟨fun _ _ h=>h,fun _ _ h=>h⟩
theorem Env.Le.trans {a b c:Env} (h:a.Le b) (k:b.Le c):a.Le c:=⟨fun t v x=>k.β t v (h.β t v x),fun i b x=>k.σ i b (h.σ i b x)⟩
def Env.lab (E:Env) (b:Nat):Prop:=∃ i,E.σ i b
theorem Env.set_lab {E:Env} {ls:List Nat} {b:Nat} (h:E.set ls b):E.lab b:=⟨h.choose,h.choose_spec.2⟩
theorem Env.Le.set {E E':Env} (h:E.Le E') {ls:List Nat} {b:Nat} (hb:E.set ls b):E'.set ls b:=by
 obtain ⟨i,hi,hs⟩:=hb;exact ⟨i,hi,h.σ i b hs⟩
mutual
theorem DenV.mono {E E':Env} {w w':World} (hE:E.Le E') (hS:Same E.lab w w'):∀ (s:SV) (v:Value),DenV E w s v→DenV E' w' s v
 | .any,_,_=>trivial
 | .int _ _,_,h=>h
 | .bool _,_,h=>h
 | .str _,_,h=>h
 | .nil,_,h=>h
 | .np,_,h=>h
 | .sl ls r,v,h=>Rd.mono (Rd.same h (hS.mono fun b hb=>Env.set_lab hb)) (fun b _ hb=>hE.set hb)
 | .own t,v,h=>⟨hE.β _ _ h.1,h.2⟩
 | .ptr t off,v,h=>by obtain ⟨b,h1,h2⟩:=h;exact ⟨b,hE.β _ _ h1,h2⟩
 | .mp t,v,h=>by obtain ⟨b,h1,h2⟩:=h;exact ⟨b,hE.β _ _ h1,h2⟩
 | .el ls r i off,v,h=>by
  obtain ⟨h0,b,o,c,h1,h2⟩:=h
  exact ⟨h0,b,o,c,h1,Rd.mono (Rd.same h2 (hS.mono fun b hb=>Env.set_lab hb)) (fun b _ hb=>hE.set hb)⟩
 | .oel t sz i off,v,h=>by obtain ⟨b,n,c,h1,h2⟩:=h;exact ⟨b,n,c,hE.β _ _ h1,h2⟩
 | .agg vs,v,h=>by obtain ⟨xs,h1,h2⟩:=h;exact ⟨xs,h1,DenL.mono hE hS vs xs h2⟩
 | .tup vs,v,h=>by obtain ⟨xs,h1,h2⟩:=h;exact ⟨xs,h1,DenL.mono hE hS vs xs h2⟩
 | .fn _,_,h=>h
 | .clo f cs,v,h=>by obtain ⟨xs,h1,h2⟩:=h;exact ⟨xs,h1,DenL.mono hE hS cs xs h2⟩
 | .rp ls T cs off,v,h=>by
  obtain ⟨b,xs,h1,h2,h3,h4⟩:=h
  exact ⟨b,xs,h1,hE.set h2,(hS.block b (Env.set_lab h2) (Array.getElem?_eq_some_iff.1 h3).1).trans h3,DenL.mono hE hS cs xs h4⟩
 | .gd b s,v,h=>⟨fun hb=>DenV.mono hE hS s v (h.1 hb),h.2⟩
 | .ub _ _,_,h=>h
 | .ro ls o,v,h=>by
  obtain ⟨b,F,h1,h2,h3⟩:=h
  exact ⟨b,F,h1,OD.frame h2 (fun x hx=>hS.block x (Env.set_lab (h3 x hx)) (OD.lt h2 hx)),fun x hx=>hE.set (h3 x hx)⟩
theorem DenL.mono {E E':Env} {w w':World} (hE:E.Le E') (hS:Same E.lab w w'):∀ (ss:List SV) (vs:List Value),DenL E w ss vs→DenL E' w' ss vs
 | [],[],_=>trivial
 | s::ss,x::xs,h=>⟨DenV.mono hE hS s x h.1,DenL.mono hE hS ss xs h.2⟩
 | [],_::_,h=>h.elim
 | _::_,[],h=>h.elim
end
theorem DenL.len {E:Env} {w:World}:∀ {ss:List SV} {vs:List Value},DenL E w ss vs→vs.length=ss.length
 | [],[],_=>rfl
 | _::ss,_::vs,h=>by simp [DenL.len h.2]
 | [],_::_,h=>h.elim
 | _::_,[],h=>h.elim
theorem DenL.at {E:Env} {w:World}:∀ {ss:List SV} {vs:List Value},DenL E w ss vs→∀ i,i<ss.length→DenV E w (ss.getD i .any) (vs.getD i undef)
 | s::ss,x::xs,h,0,_=>h.1
 | s::ss,x::xs,h,i+1,hi=>DenL.at (ss:=ss) (vs:=xs) h.2 i (by simpa using hi)
 | [],_,_,i,hi=>absurd hi (by simp)
 | _::_,[],h,_,_=>h.elim
theorem DenL.any {E:Env} {w:World} {ss:List SV} {vs:List Value} (h:DenL E w ss vs) (i:Nat):DenV E w (ss.getD i .any) (vs.getD i undef):=by
 by_cases hi:i<ss.length
 ·exact h.at i hi
 ·simp [List.getD,Nat.le_of_not_lt hi,DenV]
theorem DenL.take {E:Env} {w:World}:∀ {ss:List SV} {vs:List Value},DenL E w ss vs→∀ n,DenL E w (ss.take n) (vs.take n)
 | _::ss,_::xs,h,0=>by simp [DenL]
 | _::ss,_::xs,h,n+1=>by simp only [List.take_succ_cons];exact ⟨h.1,DenL.take (ss:=ss) (vs:=xs) h.2 n⟩
 | [],[],_,_=>by simp [DenL]
 | [],_::_,h,_=>h.elim
 | _::_,[],h,_=>h.elim
theorem DenL.drop {E:Env} {w:World}:∀ {ss:List SV} {vs:List Value},DenL E w ss vs→∀ n,DenL E w (ss.drop n) (vs.drop n)
 | _::ss,_::xs,h,0=>h
 | _::ss,_::xs,h,n+1=>by simp only [List.drop_succ_cons];exact DenL.drop (ss:=ss) (vs:=xs) h.2 n
 | [],[],_,_=>by simp [DenL]
 | [],_::_,h,_=>h.elim
 | _::_,[],h,_=>h.elim
theorem DenL.app {E:Env} {w:World}:∀ {ss:List SV} {vs:List Value} {ts:List SV} {us:List Value},DenL E w ss vs→DenL E w ts us→DenL E w (ss++ts) (vs++us)
 | _::ss,_::xs,_,_,h,k=>⟨h.1,DenL.app (ss:=ss) (vs:=xs) h.2 k⟩
 | [],[],_,_,_,k=>k
 | [],_::_,_,_,h,_=>h.elim
 | _::_,[],_,_,h,_=>h.elim
def SV.flat:SV→Bool
 | .int _ _ | .bool _ | .str _ | .nil | .sl _ _ | .own _ | .ptr _ _ | .fn _=>true
 | _=>false
theorem SV.flat_one {E:Env} {w:World} {s:SV} {v:Value} (hf:s.flat=true) (h:DenV E w s v):v.oneCell'=true:=by
 cases s<;>simp only [SV.flat,Bool.false_eq_true] at hf
 case int=>obtain ⟨rfl,_⟩:=h;rfl
 case bool=>have:v=_:=h;subst this;rfl
 case str=>obtain ⟨rfl,_⟩:=h;rfl
 case nil=>have:v=_:=h;subst this;rfl
 case sl=>exact Rd.one h
 case own=>exact h.2
 case ptr=>obtain ⟨b,_,rfl⟩:=h;rfl
 case fn=>have:v=_:=h;subst this;rfl
theorem DenL.ones {E:Env} {w:World}:∀ {ss:List SV} {vs:List Value},ss.all SV.flat=true→DenL E w ss vs→∀ v∈vs,v.oneCell'=true
 | [],[],_,_,_,h=>by cases h
 | s::ss,x::xs,hf,h,v,hv=>by
  simp only [List.all_cons,Bool.and_eq_true] at hf
  rcases List.mem_cons.1 hv with rfl | hv
  ·exact SV.flat_one hf.1 h.1
  ·exact DenL.ones hf.2 h.2 v hv
 | [],_::_,_,h,_,_=>h.elim
 | _::_,[],_,h,_,_=>h.elim
inductive BE
 | empty
 | dead
 | cells (T:TypeId) (vs:List SV)
 | row (T:TypeId) (ls:List Nat) (r:RL)
 | obj (o:OD)
instance:Inhabited BE:=⟨.dead⟩
def BE.live:BE→Bool
 | .cells .. | .row .. | .obj _=>true
 | _=>false
def zar:Value→Option Nat
 | .pointer (some a)=>some a.block
 | .slice (some a) _ _=>some a.block
 | _=>none
theorem zan {v:Value} (h:∃ a n c,v = .slice a n c):v.ownBlock=zar v:=by
 obtain ⟨a,n,c,rfl⟩:=h
 cases a<;>rfl
def Fo (E:Env) (t:Nat) (v:Value):BE→Nat→Prop
 | .obj _,b=>E.φ t b
 | _,b=>zar v=some b
def Has (E:Env) (m:Nat→BE) (t b:Nat):Prop:=(m t).live=true∧∃ v,E.β t=some v∧Fo E t v (m t) b
def BE.isO:BE→Bool
 | .obj _=>true
 | _=>false
theorem Fo.iff {E:Env} {t b:Nat} {v:Value} {e e':BE} (h:e'.isO=e.isO) (hf:Fo E t v e' b):Fo E t v e b:=by
 cases e<;>cases e'<;>first | exact hf | (simp only [BE.isO,reduceCtorEq] at h)
theorem Has.cells {E:Env} {m:Nat→BE} {t b:Nat} {T:TypeId} {vs:List SV} {v:Value} (hm:m t = .cells T vs) (hv:E.β t=some v) (hb:zar v=some b):Has E m t b:=⟨by rw [hm];rfl,v,hv,by rw [hm];exact hb⟩
theorem Has.row {E:Env} {m:Nat→BE} {t b:Nat} {T:TypeId} {ls:List Nat} {r:RL} {v:Value} (hm:m t = .row T ls r) (hv:E.β t=some v) (hb:zar v=some b):Has E m t b:=⟨by rw [hm];rfl,v,hv,by rw [hm];exact hb⟩
structure BelowX (base:Nat) (X:Nat→Prop) (w w':World):Prop where
 os:w'.os=w.os
 tape:w'.tape=w.tape
 output:w'.output=w.output
 size:w.heap.size≤w'.heap.size
 block:∀ b,b<base→¬ X b→w'.heap[b]? = w.heap[b]?
theorem BelowX.refl (base:Nat) (X:Nat→Prop) (w:World):BelowX base X w w:=⟨rfl,rfl,rfl,Nat.le_refl _,fun _ _ _=>rfl⟩
structure Cx where
 X:Nat→Prop
 nl:Nat
 S:Nat→Nat→Prop
 B:Nat→Option Value
structure MemOk (base:Nat) (X:Cx) (w0:World) (E:Env) (m:Nat→BE) (w:World):Prop where
 empty:∀ t,m t = .empty→E.β t=none∧∀ b,¬ E.σ t b
 cells:∀ t T vs,m t = .cells T vs→∃ b xs,E.β t=some (.pointer (some ⟨b,0,none⟩))∧w.heap[b]? = some (.cells xs.toArray T (0,0))∧DenL E w vs xs∧vs.all SV.flat=true
 row:∀ t T ls r,m t = .row T ls r→∃ v,E.β t=some v∧OwnR 0 w T (E.set ls) r.tys v r.rows
 lab:∀ i b,E.σ i b→b<w.heap.size∧(X.nl≤i→base≤b∨X.X b)
 dis:∀ i j b,E.σ i b→E.σ j b→i=j
 low:∀ i,i<X.nl→m i ≠ .empty
 sep:∀ t b,Has E m t b→¬ E.lab b∧(base≤b∨X.X b)
 old:∀ i b,i<X.nl→E.σ i b→X.S i b
 inj:∀ t u b,Has E m t b→Has E m u b→t=u
 keep:∀ t v,X.B t=some v→E.β t=some v
 below:BelowX base X.X w0 w
 base:base≤w.heap.size
 obj:∀ t o,m t = .obj o→∃ b,E.β t=some (.pointer (some ⟨b,0,none⟩))∧o.pr w (E.φ t) b
theorem MemOk.lt {base:Nat} {X:Cx} {w0 w:World} {E:Env} {m:Nat→BE} (h:MemOk base X w0 E m w) {t:Nat} {b:Nat} (hb:Has E m t b):b<w.heap.size:=by
 obtain ⟨hl,v,hv,hvb⟩:=hb
 cases hm:m t with
 | empty=>simp [hm,BE.live] at hl
 | dead=>simp [hm,BE.live] at hl
 | obj o=>
  obtain ⟨b',h1,h2⟩:=h.obj t o hm
  rw [hm] at hvb
  exact OD.lt h2 hvb
 | cells T vs=>
  rw [hm] at hvb
  have hvb:zar v=some b:=hvb
  obtain ⟨b',xs,h1,h2,_⟩:=h.cells t T vs hm
  rw [hv] at h1;cases h1
  simp [zar] at hvb;subst hvb
  exact (Array.getElem?_eq_some_iff.1 h2).1
 | row T ls r=>
  rw [hm] at hvb
  have hvb:zar v=some b:=hvb
  obtain ⟨v',h1,h2⟩:=h.row t T ls r hm
  rw [hv] at h1;cases h1
  refine (h2.lt b ?_).2
  obtain ⟨a,c,e⟩:=h2.form
  rw [zan ⟨a,_,c,e⟩];exact hvb
def zah {α:Type} (d:α):List (Nat×α)→Nat→α
 | [],_=>d
 | (k,v)::r,t=>bif Nat.beq k t then v else zah d r t
theorem zaq {α:Type} (d:α) (k:Nat) (v:α) (r:List (Nat×α)) (t:Nat):zah d ((k,v)::r) t=if t=k then v else zah d r t:=by
 show (bif Nat.beq k t then v else zah d r t)=_
 by_cases h:t=k
 ·subst h;simp
 ·have:Nat.beq k t=false:=by
   cases hb:Nat.beq k t
   ·rfl
   ·exact absurd (Nat.eq_of_beq_eq_true hb).symm h
  rw [this,if_neg h];rfl
structure St where
 tm:List (Nat×SV)
 nt:Nat
 mm:List (Nat×BE)
 nx:Nat
def St.s (st:St) (i:Nat):SV:=zah .any st.tm i
def St.m (st:St) (t:Nat):BE:=zah .empty st.mm t
structure St.Ok (base:Nat) (X:Cx) (w0:World) (E:Env) (st:St) (a:Act) (w:World):Prop where
 defers:a.defers=[]
 size:a.tmps.size=st.nt
 tm:∀ i,DenV E w (st.s i) (a.tmps.getD i undef)
 mem:MemOk base X w0 E st.m w
def ofC:Value→SV
 | .int k n=>if (Lit.int k n).wf then .int k n else .any
 | .bool b=> .bool b
 | .string s=>if s.size≤1000000 then .str s else .any
 | .slice none 0 0=> .nil
 | .pointer none=> .np
 | _=> .any
theorem ziK (E:Env) (w:World) (v:Value):DenV E w (ofC v) v:=by
 unfold ofC
 split
 ·split
  ·exact ⟨rfl,by assumption⟩
  ·trivial
 ·exact rfl
 ·split
  ·exact ⟨rfl,by omega⟩
  ·trivial
 ·exact rfl
 ·exact rfl
 ·trivial
def St.ev (st:St):Operand→SV
 | .tmp t=>st.s t
 | .const v=>ofC v
 | .func f=> .fn f
 | .global _=> .any
theorem St.Ok.ev {base:Nat} {X:Cx} {w0:World} {E:Env} {st:St} {a:Act} {w:World} (h:st.Ok base X w0 E a w) (x:Operand):DenV E w (st.ev x) (a.eval x):=by
 cases x with
 | tmp t=>exact h.tm t
 | const v=>exact ziK E w v
 | func f=>exact rfl
 | global g=>trivial
def zad:SV→SV×List Prop
 | .gd g s=>(s,[g=true])
 | s=>(s,[])
theorem zac {E:Env} {w:World} {s:SV} {v:Value} (h:DenV E w s v) (hn:∀ p∈(zad s).2,p):DenV E w (zad s).1 v:=by
 cases s<;>first | exact h | skip
 case gd g s=>exact h.1 (hn (g=true) (by simp [zad]))
structure Upd where
 needs:List Prop
 val:SV
 mem:List (Nat×BE)
def putF:List (Nat×BE)→(Nat→BE)→Nat→BE
 | [],m=>m
 | (t,e)::r,m=>fun u=>if u=t then e else putF r m u
theorem zdD:∀ (l:List (Nat×BE)) (mm:List (Nat×BE)),zah .empty (l++mm)=putF l (zah .empty mm)
 | [],_=>rfl
 | (t,e)::r,mm=>by
  funext u
  show zah .empty ((t,e)::(r++mm)) u=_
  rw [zaq,zdD r mm];rfl
def St.app (st:St) (dst:Option Tmp) (u:Upd):St:=
 {st with tm:=match dst with | some d=>(d,bif Nat.blt d st.nt then u.val else .any)::st.tm | none=>st.tm,mm:=u.mem++st.mm}
theorem St.app_m (st:St) (dst:Option Tmp) (u:Upd):(st.app dst u).m=putF u.mem st.m:=by
 show zah .empty (u.mem++st.mm)=_
 rw [zdD];rfl
theorem zci {α:Type} (d n:Nat) (x y:α):(bif Nat.blt d n then x else y)=if d<n then x else y:=by
 by_cases h:d<n
 ·have:Nat.blt d n=true:=by simp [Nat.blt];omega
  rw [this,if_pos h];rfl
 ·have:Nat.blt d n=false:=by
   cases hb:Nat.blt d n
   ·rfl
   ·simp [Nat.blt] at hb;omega
  rw [this,if_neg h];rfl
theorem St.app_s (st:St) (d:Nat) (u:Upd) (i:Nat):(st.app (some d) u).s i=if i=d then (if d<st.nt then u.val else .any) else st.s i:=by
 show zah .any ((d,_)::st.tm) i=_
 rw [zaq,zci];rfl
theorem zhK (a:Act) (d i:Nat) (v:Value):(a.put (some d) v).tmps.getD i undef=if i=d then (if d<a.tmps.size then v else undef) else a.tmps.getD i undef:=by
 simp only [Act.put,Array.getD_eq_getD_getElem?,Array.getElem?_setIfInBounds]
 by_cases h:d=i
 ·subst h
  by_cases h2:d<a.tmps.size<;>simp [h2]
 ·have:¬ i=d:=fun e=>h e.symm
  simp [h,this]
theorem St.Ok.next {base:Nat} {X:Cx} {w0:World} {E E':Env} {st:St} {a:Act} {w w':World} (h:st.Ok base X w0 E a w) (hE:E.Le E') (hS:Same E.lab w w') {dst:Option Tmp} {v:Value} {u:Upd}
  (hv:DenV E' w' u.val v) (hm:MemOk base X w0 E' (putF u.mem st.m) w'):(st.app dst u).Ok base X w0 E' (a.put dst v) w':=by
 cases dst with
 | none=>exact ⟨h.defers,h.size,fun i=>DenV.mono hE hS _ _ (h.tm i),by rw [St.app_m];exact hm⟩
 | some d=>
  refine ⟨h.defers,by simp [St.app,Act.put,h.size],fun i=>?_,by rw [St.app_m];exact hm⟩
  rw [zhK,St.app_s,h.size]
  by_cases h1:i=d
  ·rw [if_pos h1,if_pos h1]
   by_cases h2:d<st.nt
   ·rw [if_pos h2,if_pos h2];exact hv
   ·rw [if_neg h2];trivial
  ·rw [if_neg h1,if_neg h1];exact DenV.mono hE hS _ _ (h.tm i)
end Go.Proofs.Ytjfphnegcelbpaa
namespace Go.Proofs.Ytjfphnegcelbpaa
open Go.RowKit Go.ChangeShapes Go.WideShapes Go.Deep
def upd (m:Nat→BE) (t:Nat) (e:BE) (u:Nat):BE:=if u=t then e else m u
theorem zat (m:Nat→BE) (t:Nat) (e:BE):upd m t e t=e:=if_pos rfl
theorem zax (m:Nat→BE) {t u:Nat} (e:BE) (h:u≠t):upd m t e u=m u:=if_neg h
def Holds (E:Env) (w:World) (t:Nat) (v:Value):BE→Prop
 | .obj o=>∃ b,v = .pointer (some ⟨b,0,none⟩)∧o.pr w (E.φ t) b
 | .cells T vs=>∃ b xs,v = .pointer (some ⟨b,0,none⟩)∧w.heap[b]? = some (.cells xs.toArray T (0,0))∧DenL E w vs xs∧vs.all SV.flat=true
 | .row T ls r=>OwnR 0 w T (E.set ls) r.tys v r.rows
 | .dead=>True
 | .empty=>False
theorem MemOk.holds {base:Nat} {X:Cx} {w0 w:World} {E:Env} {m:Nat→BE} (h:MemOk base X w0 E m w) {t:Nat} (hl:(m t).live=true):∃ v,E.β t=some v∧Holds E w t v (m t):=by
 cases hm:m t with
 | empty=>simp [hm,BE.live] at hl
 | dead=>simp [hm,BE.live] at hl
 | cells T vs=>obtain ⟨b,xs,h1,h2,h3,h4⟩:=h.cells t T vs hm;exact ⟨_,h1,b,xs,rfl,h2,h3,h4⟩
 | row T ls r=>exact h.row t T ls r hm
 | obj o=>obtain ⟨b,h1,h2⟩:=h.obj t o hm;exact ⟨_,h1,b,rfl,h2⟩
theorem Holds.block {E:Env} {w:World} {t:Nat} {v:Value} {e:BE} (h:Holds E w t v e) (hl:e.live=true) {b:Nat} (hb:Fo E t v e b):b<w.heap.size:=by
 cases e with
 | empty=>cases h
 | dead=>cases hl
 | obj o=>obtain ⟨b',_,h2⟩:=h;exact OD.lt h2 hb
 | cells T vs=>have hb:zar v=some b:=hb;obtain ⟨b',xs,rfl,h2,_⟩:=h;simp [zar] at hb;subst hb;exact (Array.getElem?_eq_some_iff.1 h2).1
 | row T ls r=>
  have hb:zar v=some b:=hb
  have h:OwnR 0 w T (E.set ls) r.tys v r.rows:=h
  obtain ⟨a,c,e⟩:=h.form
  exact (h.lt b (by rw [zan ⟨a,_,c,e⟩];exact hb)).2
theorem Holds.mono {E E':Env} {w w':World} {t:Nat} {v:Value} {e:BE} (h:Holds E w t v e) (hE:E.Le E') (hφ:E'.φ t=E.φ t) (hS:Same E.lab w w') (hb:∀ b,Fo E t v e b→w'.heap[b]? = w.heap[b]?):Holds E' w' t v e:=by
 cases e with
 | obj o=>
  obtain ⟨b,rfl,h2⟩:=h
  exact ⟨b,rfl,by rw [hφ];exact OD.frame h2 hb⟩
 | empty=>exact h
 | dead=>exact h
 | cells T vs=>
  obtain ⟨b,xs,rfl,h2,h3,h4⟩:=h
  exact ⟨b,xs,rfl,(hb b rfl).trans h2,DenL.mono hE hS _ _ h3,h4⟩
 | row T ls r=>
  have h:OwnR 0 w T (E.set ls) r.tys v r.rows:=h
  show OwnR 0 w' T (E'.set ls) r.tys v r.rows
  obtain ⟨a,c,ev⟩:=h.form
  have hs:Same (fun b=>E.lab b∨zar v=some b) w w':=⟨hS.size,fun b hb' hl=>hb'.elim (fun x=>hS.block b x hl) (fun x=>hb b x)⟩
  exact (h.same hs (fun b hb' => .inl (Env.set_lab hb')) (fun b hb' => .inr (by rw [← zan ⟨a,_,c,ev⟩];exact hb'))).mono (Nat.le_refl _) (fun b hb'=>hE.set hb')
theorem MemOk.go {base:Nat} {X:Cx} {w0 w w':World} {E E':Env} {m m':Nat→BE} (h:MemOk base X w0 E m w) (hE:E.Le E') (hS:Same E.lab w w') (L:Nat→Prop)
  (hm:∀ t,¬ L t→m' t=m t∧E'.β t=E.β t∧E'.φ t=E.φ t) (hσ:∀ t,¬ L t→m t = .empty→∀ b,¬ E'.σ t b) (hk:∀ t b,¬ L t→Has E m t b→w'.heap[b]? = w.heap[b]?)
  (hL:∀ t,L t→m' t ≠ .empty∧((m' t).live=true→∃ v,E'.β t=some v∧Holds E' w' t v (m' t)))
  (hlab:∀ i b,E'.σ i b→b<w'.heap.size∧(X.nl≤i→base≤b∨X.X b)) (hdis:∀ i j b,E'.σ i b→E'.σ j b→i=j) (hsep:∀ t b,Has E' m' t b→¬ E'.lab b∧(base≤b∨X.X b)) (hold:∀ i b,i<X.nl→E'.σ i b→X.S i b) (hinj:∀ t u b,Has E' m' t b→Has E' m' u b→t=u)
  (hb:BelowX base X.X w w'):MemOk base X w0 E' m' w':=by
 have key:∀ t,(m' t).live=true→∃ v,E'.β t=some v∧Holds E' w' t v (m' t):=by
  intro t hl
  by_cases ht:L t
  ·exact (hL t ht).2 hl
  ·obtain ⟨e1,e2,e3⟩:=hm t ht
   rw [e1] at hl ⊢
   obtain ⟨v,hv,hh⟩:=h.holds hl
   refine ⟨v,by rw [e2];exact hv,hh.mono hE e3 hS (fun b hvb=>hk t b ht ⟨hl,v,hv,hvb⟩)⟩
 refine ⟨fun t ht=>?_,fun t T vs ht=>?_,fun t T ls r ht=>?_,hlab,hdis,fun i hi he=>?_,hsep,hold,hinj,fun t v hv=>hE.β t v (h.keep t v hv),?_,Nat.le_trans h.base hb.size,fun t o ht=>?_⟩
 ·by_cases hl:L t
  ·exact absurd ht (hL t hl).1
  ·obtain ⟨e1,e2,e3⟩:=hm t hl
   rw [e1] at ht
   exact ⟨by rw [e2];exact (h.empty t ht).1,hσ t hl ht⟩
 ·obtain ⟨v,hv,hh⟩:=key t (by rw [ht];rfl)
  rw [ht] at hh
  obtain ⟨b,xs,rfl,h2,h3,h4⟩:=hh
  exact ⟨b,xs,hv,h2,h3,h4⟩
 ·obtain ⟨v,hv,hh⟩:=key t (by rw [ht];rfl)
  rw [ht] at hh
  exact ⟨v,hv,hh⟩
 ·by_cases hl:L i
  ·exact absurd he (hL i hl).1
  ·rw [(hm i hl).1] at he;exact h.low i hi he
 ·exact ⟨hb.os.trans h.below.os,hb.tape.trans h.below.tape,hb.output.trans h.below.output,Nat.le_trans h.below.size hb.size,fun b h1 h2=>(hb.block b h1 h2).trans (h.below.block b h1 h2)⟩
 ·obtain ⟨v,hv,hh⟩:=key t (by rw [ht];rfl)
  rw [ht] at hh
  obtain ⟨b,rfl,h2⟩:=hh
  exact ⟨b,hv,h2⟩
theorem MemOk.kill {base:Nat} {X:Cx} {w0 w:World} {E:Env} {m:Nat→BE} (h:MemOk base X w0 E m w) (t:Nat):MemOk base X w0 E (upd m t .dead) w:=by
 have hh:∀ u b,Has E (upd m t .dead) u b→Has E m u b:=by
  intro u b ⟨hl,hv⟩
  by_cases e:u=t
  ·subst e;rw [zat] at hl;cases hl
  ·rw [zax _ _ e] at hl hv;exact ⟨hl,hv⟩
 refine h.go (Env.Le.refl E) ⟨Nat.le_refl _,fun _ _ _=>rfl⟩ (fun u=>u=t) (fun u hu=>⟨zax _ _ hu,rfl,rfl⟩) (fun u hu hm=>(h.empty u hm).2) (fun _ _ _ _=>rfl)
  (fun u hu=>by subst hu;rw [zat];exact ⟨(by simp),fun hl=>by cases hl⟩) h.lab h.dis (fun u b hb=>h.sep u b (hh u b hb)) h.old (fun u v b h1 h2=>h.inj u v b (hh u b h1) (hh v b h2)) (BelowX.refl _ _ _)
def Env.setβ (E:Env) (c:Nat) (v:Value):Env:=⟨fun t=>if t=c then some v else E.β t,E.σ,E.φ⟩
theorem Env.setβ_le {E:Env} {c:Nat} (h:E.β c=none) (v:Value):E.Le (E.setβ c v):=
 ⟨fun t u ht=>by
  by_cases e:t=c
  ·subst e;rw [h] at ht;cases ht
  ·show (if t=c then _ else _)=_;rw [if_neg e];exact ht,fun _ _ h=>h⟩
theorem MemOk.take {base:Nat} {X:Cx} {w0 w w':World} {E:Env} {m:Nat→BE} (h:MemOk base X w0 E m w) {c:Nat} (hc:m c = .empty) (v:Value) (e:BE) (he:e ≠ .empty)
  (hsz:w.heap.size≤w'.heap.size) (hw:∀ b,(E.lab b∨∃ t,Has E m t b)→w'.heap[b]? = w.heap[b]?) (hbx:BelowX base X.X w w')
  (hfree:∀ b,zar v=some b→¬ E.lab b∧(∀ t,¬ Has E m t b)∧(base≤b∨X.X b)) (hcont:Holds (E.setβ c v) w' c v e) (heo:∀ o,e ≠ .obj o:=by intro o ho;cases ho):MemOk base X w0 (E.setβ c v) (upd m c e) w':=by
 have hE:=Env.setβ_le (h.empty c hc).1 v
 have hh:∀ u b,u≠c→Has (E.setβ c v) (upd m c e) u b→Has E m u b:=by
  intro u b hu ⟨hl,x,hx,hxb⟩
  rw [zax _ _ hu] at hl hxb
  have:E.β u=some x:=by have:(if u=c then some v else E.β u)=some x:=hx;rwa [if_neg hu] at this
  exact ⟨hl,x,this,(by cases hmu:m u<;>rw [hmu] at hxb<;>exact hxb)⟩
 have hcb:∀ b,Has (E.setβ c v) (upd m c e) c b→zar v=some b:=by
  intro b ⟨_,x,hx,hxb⟩
  have:(if c=c then some v else E.β c)=some x:=hx
  rw [if_pos rfl] at this
  cases this
  rw [zat] at hxb
  cases e with
  | obj o=>exact absurd rfl (heo o)
  | _=>exact hxb
 refine h.go hE ⟨hsz,fun b hb _=>hw b (.inl hb)⟩ (fun u=>u=c) (fun u hu=>⟨zax _ _ hu,if_neg hu,rfl⟩) (fun u hu hm=>(h.empty u hm).2) (fun u b hu hb=>hw b (.inr ⟨u,hb⟩))
  (fun u hu=>by subst hu;rw [zat];exact ⟨he,fun _=>⟨v,if_pos rfl,hcont⟩⟩)
  (fun i b hb=>⟨Nat.lt_of_lt_of_le (h.lab i b hb).1 hsz,(h.lab i b hb).2⟩) h.dis (fun u b hb=>?_) h.old (fun u x b h1 h2=>?_) hbx
 ·by_cases e2:u=c
  ·subst e2;obtain ⟨f1,f2,f3⟩:=hfree b (hcb b hb);exact ⟨f1,f3⟩
  ·exact h.sep u b (hh u b e2 hb)
 ·by_cases e2:u=c
  ·by_cases e3:x=c
   ·rw [e2,e3]
   ·subst e2;exact absurd (hh x b e3 h2) ((hfree b (hcb b h1)).2.1 x)
  ·by_cases e3:x=c
   ·subst e3;exact absurd (hh u b e2 h1) ((hfree b (hcb b h2)).2.1 u)
   ·exact h.inj u x b (hh u b e2 h1) (hh x b e3 h2)
theorem MemOk.poke {base:Nat} {X:Cx} {w0 w w':World} {E:Env} {m:Nat→BE} (h:MemOk base X w0 E m w) {t:Nat} (hl:(m t).live=true) {v:Value} (hv:E.β t=some v) (e:BE) (hel:e.live=true)
  (hsz:w.heap.size≤w'.heap.size) (hw:∀ b,zar v≠some b→b<w.heap.size→w'.heap[b]? = w.heap[b]?) (hos:w'.os=w.os∧w'.tape=w.tape∧w'.output=w.output) (hcont:Holds E w' t v e) (hmo:∀ o,m t ≠ .obj o:=by intro o ho;simp_all) (heo:∀ o,e ≠ .obj o:=by intro o ho;cases ho):MemOk base X w0 E (upd m t e) w':=by
 have hh:∀ u b,Has E (upd m t e) u b→Has E m u b:=by
  intro u b ⟨h1,h2⟩
  by_cases e2:u=t
  ·subst e2
   refine ⟨hl,?_⟩
   obtain ⟨x,hx,hxb⟩:=h2
   rw [zat] at hxb
   refine ⟨x,hx,?_⟩
   cases e with
   | obj o=>exact absurd rfl (heo o)
   | _=>cases hmu:m u with
    | obj o=>exact absurd hmu (hmo o)
    | _=>exact hxb
  ·rw [zax _ _ e2] at h1 h2;exact ⟨h1,h2⟩
 have hof:∀ b,zar v=some b→Fo E t v (m t) b:=fun b hb=>by
  cases hmu:m t with
  | obj o=>exact absurd hmu (hmo o)
  | _=>exact hb
 have hne:∀ b,E.lab b→zar v≠some b:=fun b hb hvb=>(h.sep t b ⟨hl,v,hv,hof b hvb⟩).1 hb
 refine h.go (Env.Le.refl E) ⟨hsz,fun b hb hlt=>hw b (hne b hb) hlt⟩ (fun u=>u=t) (fun u hu=>⟨zax _ _ hu,rfl,rfl⟩) (fun u hu hm=>(h.empty u hm).2)
  (fun u b hu hb=>hw b (fun hvb=>hu (h.inj u t b hb ⟨hl,v,hv,hof b hvb⟩)) (h.lt hb))
  (fun u hu=>by subst hu;rw [zat];exact ⟨fun e2=>(by rw [e2] at hel;cases hel),fun _=>⟨v,hv,hcont⟩⟩)
  (fun i b hb=>⟨Nat.lt_of_lt_of_le (h.lab i b hb).1 hsz,(h.lab i b hb).2⟩) h.dis (fun u b hb=>h.sep u b (hh u b hb)) h.old (fun u x b h1 h2=>h.inj u x b (hh u b h1) (hh x b h2))
  ⟨hos.1,hos.2.1,hos.2.2,hsz,fun b hb hX=>?_⟩
 by_cases hvb:zar v=some b
 ·rcases (h.sep t b ⟨hl,v,hv,hof b hvb⟩).2 with h1 | h1
  ·omega
  ·exact absurd h1 hX
 ·exact hw b hvb (Nat.lt_of_lt_of_le hb h.base)
theorem MemOk.drew {base:Nat} {X:Cx} {w0 w:World} {E:Env} {m:Nat→BE} (h:MemOk base X w0 E m w) (n:Nat):MemOk base X w0 E m {w with drawn:=n}:=
 h.go (Env.Le.refl E) ⟨Nat.le_refl _,fun _ _ _=>rfl⟩ (fun _=>False) (fun _ _=>⟨rfl,rfl,rfl⟩) (fun t _ hm=>(h.empty t hm).2) (fun _ _ _ _=>rfl) (fun _ h=>h.elim) h.lab h.dis h.sep h.old h.inj ⟨rfl,rfl,rfl,Nat.le_refl _,fun _ _ _=>rfl⟩
theorem zeC (m:Nat→BE) {t c:Nat} (x y:BE) (h:t≠c):upd (upd m t x) c y=upd (upd m c y) t x:=by
 funext u
 unfold upd
 by_cases h1:u=c
 ·by_cases h2:u=t
  ·exact absurd (h2.symm.trans h1) h
  ·simp [h1,h2];intro e;exact absurd e.symm h
 ·simp [h1]
theorem zaE (t:Nat) (e:BE) (m:Nat→BE):putF [(t,e)] m=upd m t e:=rfl
theorem zdE (t:Nat) (e:BE) (r:List (Nat×BE)) (m:Nat→BE):putF ((t,e)::r) m=upd (putF r m) t e:=rfl
end Go.Proofs.Ytjfphnegcelbpaa
namespace Go.Proofs.Ytjfphnegcelbpaa
open Go.RowKit Go.ChangeShapes Go.WideShapes Go.Deep
structure Cfg where
 kd:TypeId→Option RL
 orc:Nat→FuncId→St→List SV→Option Upd
 orw:FuncId→St→List SV→Option (List Prop×List Nat×SV)
def Does (P:Program) (base:Nat) (X:Cx) (w0:World) (st:St) (o:Oper) (u:Upd):Prop:=
 ∀ (E:Env) (a:Act) (w:World) (K:Act→World→Prop) (Q:Exit→Act→World→Prop),st.Ok base X w0 E a w→(∀ p∈u.needs,p) →
  (∀ E' w' v,E.Le E'→Same E.lab w w'→DenV E' w' u.val v→MemOk base X w0 E' (putF u.mem st.m) w'→K (a.put o.dst v) w')→o.wp P a w K Q
theorem za1 {P:Program} {o:Oper} {a:Act} {w w':World} {v:Value} {K:Act→World→Prop} {Q:Exit→Act→World→Prop} (h:(execOp a.eval o).run P w = .ok (.value v) w') (hK:K (a.put o.dst v) w'):o.wp P a w K Q:=by
 unfold Oper.wp;rw [h];exact hK
theorem zck {P:Program} {o:Oper} {a:Act} {w w':World} {K:Act→World→Prop} {Q:Exit→Act→World→Prop} (h:(execOp a.eval o).run P w = .ok .skip w') (hK:K (a.put o.dst undef) w'):o.wp P a w K Q:=by
 unfold Oper.wp;rw [h];exact hK
theorem Same.rfl' {S:Nat→Prop} {w:World}:Same S w w:=⟨Nat.le_refl _,fun _ _ _=>rfl⟩
theorem Does.pure {P:Program} {base:Nat} {X:Cx} {w0:World} {st:St} {o:Oper} {n:List Prop} {s:SV}
  (h:∀ E a w,st.Ok base X w0 E a w→(∀ p∈n,p)→∃ v,(execOp a.eval o).run P w = .ok (.value v) w∧DenV E w s v):Does P base X w0 st o ⟨n,s,[]⟩:=by
 intro E a w K Q hst hn hK
 obtain ⟨v,h1,h2⟩:=h E a w hst hn
 exact za1 h1 (hK E w v (Env.Le.refl E) Same.rfl' h2 hst.mem)
def zab (b x y:Bool):Bool:=if b then x else y
def zf6 (b:Bool) (x y:Int):Int:=if b then x else y
theorem zaM (b x:Bool):zab b x false=(b&&x):=by cases b<;>rfl
theorem zaG (b y:Bool):zab b true y=(b||y):=by cases b<;>rfl
mutual
def mrgV (b:Bool):SV→SV→SV
 | .int k n,.int k' n'=>if k=k' then .int k (zf6 b n n') else .any
 | .bool x,.bool y=> .bool (zab b x y)
 | .str x,.str y=> .str (if b then x else y)
 | .nil,.nil=> .nil
 | .nil,.sl ls r=>match RL.ite b r.emp r with | some r2=> .sl ls r2 | none=> .any
 | .sl ls r,.nil=>match RL.ite b r r.emp with | some r2=> .sl ls r2 | none=> .any
 | .sl ls r,.sl ls' r'=>match RL.ite b r r' with | some r2=> .sl (ls++ls') r2 | none=> .any
 | .own t,.own t'=>if t=t' then .own t else .any
 | .ptr t o,.ptr t' o'=>if t=t' then (if o=o' then .ptr t o else .any) else .any
 | .mp t,.mp t'=>if t=t' then .mp t else .any
 | .agg vs,.agg us=>if vs.length=us.length then .agg (mrgL b vs us) else .any
 | .tup vs,.tup us=>if vs.length=us.length then .tup (mrgL b vs us) else .any
 | _,_=> .any
def mrgL (b:Bool):List SV→List SV→List SV
 | s::ss,t::ts=>mrgV b s t::mrgL b ss ts
 | _,_=>[]
end
theorem zj2 {E:Env} {w:World} {ls:List Nat} {r:RL} {v:Value} (h:DenV E w .nil v):DenV E w (.sl ls r.emp) v:=by
 have:v = .slice none 0 0:=h
 subst this
 show Rd w (E.set ls) (.sl r.emp.tys) _ (.sl r.emp.rows)
 rw [r.emp_ok.1]
 exact .emp (fun _=>rfl) (by decide)
theorem setl {E:Env} {w:World} {ls ms:List Nat} {r:RL} {v:Value} (hm:∀ i,i∈ls→i∈ms) (h:DenV E w (.sl ls r) v):DenV E w (.sl ms r) v:=
 Rd.mono h (fun b _=>Env.set_mono hm b)
mutual
theorem zgy {E:Env} {w:World}:∀ (s t:SV) (v:Value),DenV E w s v→DenV E w (mrgV true s t) v:=by
 intro s t v h
 unfold mrgV
 split
 ·split
  ·exact h
  ·trivial
 ·exact h
 ·exact h
 ·exact h
 ·split
  ·rename_i e;rw [RL.ite_t e];exact zj2 h
  ·trivial
 ·split
  ·rename_i e;rw [RL.ite_t e];exact h
  ·trivial
 ·split
  ·rename_i e;rw [RL.ite_t e];exact setl (fun i hi=>List.mem_append_left _ hi) h
  ·trivial
 ·split
  ·exact h
  ·trivial
 ·split
  ·split
   ·exact h
   ·trivial
  ·trivial
 ·split
  ·exact h
  ·trivial
 ·split
  ·rename_i e
   obtain ⟨xs,h1,h2⟩:=h
   exact ⟨xs,h1,mrgL_t _ _ xs e h2⟩
  ·trivial
 ·split
  ·rename_i e
   obtain ⟨xs,h1,h2⟩:=h
   exact ⟨xs,h1,mrgL_t _ _ xs e h2⟩
  ·trivial
 ·trivial
theorem mrgL_t {E:Env} {w:World}:∀ (ss ts:List SV) (vs:List Value),ss.length=ts.length→DenL E w ss vs→DenL E w (mrgL true ss ts) vs
 | [],[],[],_,_=>by unfold mrgL;trivial
 | s::ss,t::ts,x::xs,hl,h=>by unfold mrgL;exact ⟨zgy s t x h.1,mrgL_t ss ts xs (by simpa using hl) h.2⟩
 | [],_::_,_,hl,_=>by simp at hl
 | _::_,[],_,hl,_=>by simp at hl
 | [],[],_::_,_,h=>h.elim
 | _::_,_::_,[],_,h=>h.elim
end
mutual
theorem zgz {E:Env} {w:World}:∀ (s t:SV) (v:Value),DenV E w t v→DenV E w (mrgV false s t) v:=by
 intro s t v h
 unfold mrgV
 split
 ·split
  ·rename_i e;subst e;exact h
  ·trivial
 ·exact h
 ·exact h
 ·exact h
 ·split
  ·rename_i e;rw [RL.ite_f e];exact h
  ·trivial
 ·split
  ·rename_i e;rw [RL.ite_f e];exact zj2 h
  ·trivial
 ·split
  ·rename_i e;rw [RL.ite_f e];exact setl (fun i hi=>List.mem_append_right _ hi) h
  ·trivial
 ·split
  ·rename_i e;subst e;exact h
  ·trivial
 ·split
  ·split
   ·rename_i e1 e2;subst e1;subst e2;exact h
   ·trivial
  ·trivial
 ·split
  ·rename_i e;subst e;exact h
  ·trivial
 ·split
  ·rename_i e
   obtain ⟨xs,h1,h2⟩:=h
   exact ⟨xs,h1,mrgL_f _ _ xs e h2⟩
  ·trivial
 ·split
  ·rename_i e
   obtain ⟨xs,h1,h2⟩:=h
   exact ⟨xs,h1,mrgL_f _ _ xs e h2⟩
  ·trivial
 ·trivial
theorem mrgL_f {E:Env} {w:World}:∀ (ss ts:List SV) (vs:List Value),ss.length=ts.length→DenL E w ts vs→DenL E w (mrgL false ss ts) vs
 | [],[],[],_,_=>by unfold mrgL;trivial
 | s::ss,t::ts,x::xs,hl,h=>by unfold mrgL;exact ⟨zgz s t x h.1,mrgL_f ss ts xs (by simpa using hl) h.2⟩
 | [],_::_,_,hl,_=>by simp at hl
 | _::_,[],_,hl,_=>by simp at hl
 | [],[],_::_,_,h=>h.elim
 | _::_,_::_,[],_,h=>h.elim
end
theorem zhU {E:Env} {w:World} (b:Bool) {s t:SV} {v u:Value} (hs:b=true→DenV E w s v) (ht:b=false→DenV E w t u):DenV E w (mrgV b s t) (if b then v else u):=by
 cases b
 ·exact zgz s t u (ht rfl)
 ·exact zgy s t v (hs rfl)
section ops
variable {P : Program} {base : Nat} {X : Cx} {w0 : World} {st : St}
def ze2 (st:St) (x:Operand):Upd:=⟨(zad (st.ev x)).2,(zad (st.ev x)).1,[]⟩
theorem zfp (o:Oper) (x:Operand) (ho:o.op = .move x∨o.op = .assign x):Does P base X w0 st o (ze2 st x):=
 Does.pure fun E a w h hn=>⟨a.eval x,by rcases ho with ho | ho<;>simp [execOp,ho,pure,Sem.run],zac (h.ev x) hn⟩
def zix (st:St) (c x y:Operand):Option Upd:=
 match zad (st.ev c),zad (st.ev x),zad (st.ev y) with
 | (.bool b,n),(s,n1),(t,n2)=>some ⟨n++n1.map (fun p=>b=true→p)++n2.map (fun p=>b=false→p),mrgV b s t,[]⟩
 | _,_,_=>none
theorem ziw (o:Oper) (c x y:Operand) (ho:o.op = .pick c x y) {u:Upd} (hu:zix st c x y=some u):Does P base X w0 st o u:=by
 unfold zix at hu
 split at hu
 case h_2=>simp at hu
 rename_i b n s n1 t n2 e1 e2 e3
 simp only [Option.some.injEq] at hu
 subst hu
 refine Does.pure fun E a w h hn=>?_
 have h1:=zac (h.ev c) (fun p hp=>hn p (by rw [e1] at hp;simp [hp]))
 rw [e1] at h1
 have h1:a.eval c = .bool b:=h1
 refine ⟨if b then a.eval x else a.eval y,by cases b<;>simp [execOp,ho,h1,asBool,pure,Sem.run,bind,Sem.bind],zhU b (fun hb=>?_) (fun hb=>?_)⟩
 ·have h2:=zac (h.ev x) (fun p hp=>hn (b=true→p) (by rw [e2] at hp;simp only [List.mem_append,List.mem_map];exact .inl (.inr ⟨p,hp,rfl⟩)) hb)
  rw [e2] at h2;exact h2
 ·have h2:=zac (h.ev y) (fun p hp=>hn (b=false→p) (by rw [e3] at hp;simp only [List.mem_append,List.mem_map];exact .inr ⟨p,hp,rfl⟩) hb)
  rw [e3] at h2;exact h2
def SV.cells:SV→List SV
 | .agg vs=>vs
 | s=>[s]
theorem zcr {E:Env} {w:World} {s:SV} {v:Value} (hf:s.cells.all SV.flat=true) (h:DenV E w s v):∃ xs,v.cells=xs.toArray∧DenL E w s.cells xs:=by
  cases s
  case agg vs=>
    obtain ⟨xs,rfl,h2⟩:=h
    exact ⟨xs,rfl,h2⟩
  all_goals
    simp only [SV.cells,List.all_cons,List.all_nil,Bool.and_true] at hf
    first
      | (simp [SV.flat] at hf;done)
      | (refine ⟨[v], ?_, h, trivial⟩
         have:=SV.flat_one hf h
         cases v<;>simp_all [Value.cells,Value.oneCell'])
def ofCs (z:Value):List SV:=z.cells.toList.map ofC
theorem zdn (E:Env) (w:World):∀ (l:List Value),DenL E w (l.map ofC) l
 | []=>trivial
 | v::l=>⟨ziK E w v,zdn E w l⟩
theorem zcP {E:Env} {w:World} (h:MemOk base X w0 E st.m w) {c:Nat} (hc:st.m c = .empty) (T:TypeId) {vs:List SV} {xs:List Value} (hd:DenL E w vs xs) (hf:vs.all SV.flat=true) :
  MemOk base X w0 (E.setβ c (.pointer (some ⟨w.heap.size,0,none⟩))) (putF [(c,.cells T vs)] st.m) (w.alloc (.cells xs.toArray T))∧E.Le (E.setβ c (.pointer (some ⟨w.heap.size,0,none⟩)))∧Same E.lab w (w.alloc (.cells xs.toArray T)):=by
 have hE:=Env.setβ_le (h.empty c hc).1 (.pointer (some ⟨w.heap.size,0,none⟩))
 have hS:Same E.lab w (w.alloc (.cells xs.toArray T)):=Same.alloc _ _ _
 refine ⟨?_,hE,hS⟩
 rw [zaE]
 refine h.take hc _ _ (by simp) (by simp) (fun b hb=>?_) ⟨rfl,rfl,rfl,by simp,fun b hb _=>Below.heap_alloc _ _ _ (Nat.lt_of_lt_of_le hb h.base)⟩ (fun b hb=>?_) ⟨w.heap.size,xs,rfl,heap_alloc_new _ _,DenL.mono hE hS _ _ hd,hf⟩
 ·have:b<w.heap.size:=by
   rcases hb with ⟨i,hi⟩ | ⟨t,ht⟩
   ·exact (h.lab i b hi).1
   ·exact h.lt ht
  exact Below.heap_alloc _ _ _ this
 ·simp [zar] at hb
  subst hb
  exact ⟨fun ⟨i,hi⟩=>Nat.lt_irrefl _ (h.lab i _ hi).1,fun t ht=>Nat.lt_irrefl _ (h.lt ht),.inl h.base⟩
def BE.isEmpty:BE→Bool
 | .empty=>true
 | _=>false
def St.free (st:St) (c:Nat):Bool:=(st.m c).isEmpty
theorem BE.of_empty {e:BE} (h:e.isEmpty=true):e = .empty:=by cases e<;>simp [BE.isEmpty] at h;rfl
theorem St.of_free {st:St} {c:Nat} (h:st.free c=true):st.m c = .empty:=BE.of_empty h
def cBox (st:St) (c:Nat) (T:TypeId) (x:Operand):Option Upd:=
 let s:=zad (st.ev x)
 if st.free c then (if s.1.cells.all SV.flat then some ⟨s.2,.ptr c 0,[(c,.cells T s.1.cells)]⟩ else none) else none
theorem zkx (o:Oper) (c:Nat) (T:TypeId) (x:Operand) (ho:o.op = .box T x) {u:Upd} (hu:cBox st c T x=some u):Does P base X w0 st o u:=by
 unfold cBox at hu
 dsimp only at hu
 split at hu
 case isFalse=>simp at hu
 split at hu
 case isFalse=>simp at hu
 rename_i hc hf
 simp only [Option.some.injEq] at hu
 subst hu
 intro E a w K Q h hn hK
 have h1:=zac (h.ev x) hn
 obtain ⟨xs,hx,hd⟩:=zcr hf h1
 obtain ⟨m1,m2,m3⟩:=zcP h.mem (St.of_free hc) T hd hf
 refine za1 (v:= .pointer (some ⟨w.heap.size,0,none⟩)) (w':=w.alloc (.cells xs.toArray T)) ?_ (hK _ _ _ m2 m3 ⟨w.heap.size,if_pos rfl,rfl⟩ m1)
 simp only [execOp,ho,Instr.box,newVar,newRow,hx]
 rfl
def zft (P:Program) (st:St) (c:Nat) (T:TypeId):Option Upd:=
 match (P.info? T).bind (·.zero) with
 | some z=>if st.free c then (if (ofCs z).all SV.flat then some ⟨[],.ptr c 0,[(c,.cells T (ofCs z))]⟩ else none) else none
 | none=>none
theorem zht (o:Oper) (c:Nat) (T:TypeId) (ho:o.op = .alloc T) {u:Upd} (hu:zft P st c T=some u):Does P base X w0 st o u:=by
 unfold zft at hu
 split at hu
 case h_2=>simp at hu
 rename_i z hz
 split at hu
 case isFalse=>simp at hu
 split at hu
 case isFalse=>simp at hu
 rename_i hc hf
 simp only [Option.some.injEq] at hu
 subst hu
 intro E a w K Q h hn hK
 obtain ⟨m1,m2,m3⟩:=zcP h.mem (St.of_free hc) T (zdn E w z.cells.toList) hf
 refine za1 (v:= .pointer (some ⟨w.heap.size,0,none⟩)) (w':=w.alloc (.cells z.cells.toList.toArray T)) ?_ (hK _ _ _ m2 m3 ⟨w.heap.size,if_pos rfl,rfl⟩ m1)
 cases hi:P.info? T with
 | none=>simp [hi] at hz
 | some i=>
  simp [hi] at hz
  simp [execOp,ho,Instr.alloc,zeroValue,typeInfo,Sem.run_bind,hi,hz,newVar,newRow]
end ops
end Go.Proofs.Ytjfphnegcelbpaa
namespace Go.Proofs.Ytjfphnegcelbpaa
open Go.RowKit Go.ChangeShapes Go.WideShapes Go.Deep
theorem Addr.add0 (b off j:Nat):(⟨b,off,none⟩:Addr).add j=⟨b,off+j,none⟩:=by
 unfold Addr.add;split<;>simp_all
section ops
variable {P : Program} {base : Nat} {X : Cx} {w0 : World} {st : St}
def zaI (st:St):SV→Option (List SV×List Prop)
 | .ptr t off=>match st.m t with
  | .cells _ vs=>some (vs.drop off,[])
  | _=>none
 | .el ls r i off=>some ((r.elem ls i).drop off,[])
 | .oel t sz i off=>match st.m t with
  | .row _ ls r=>if sz=r.tys.length then some ((r.elem ls i).drop off,[i<r.len]) else none
  | _=>none
 | .rp _ _ cs off=>some (cs.drop off,[])
 | _=>none
theorem RdL.vals {w:World} {S:Nat→Prop} {fs:List Ty} {ds:List D} {f:Nat→Value} (hl:ds.length=fs.length) (h:∀ j,j<fs.length→Rd w S (fs.getD j default) (f j) (ds.getD j default)):RdL w S fs ((List.range fs.length).map f) ds:=RdL.of_at f hl h
theorem zbp {E:Env} {a:Act} {w:World} (h:st.Ok base X w0 E a w) {s:SV} {cs:List SV} {n:List Prop} (hc:zaI st s=some (cs,n)) (hn:∀ p∈n,p) {v:Value} (hv:DenV E w s v) :
  ∃ b off xs,v = .pointer (some ⟨b,off,none⟩)∧DenL E w cs xs∧∀ j u,xs[j]? = some u→w.cell? ⟨b,off+j,none⟩=some u:=by
 cases s
 case ptr t off=>
  simp only [zaI] at hc
  split at hc
  case h_2=>simp at hc
  rename_i T vs hm
  simp only [Option.some.injEq,Prod.mk.injEq] at hc
  obtain ⟨rfl,rfl⟩:=hc
  obtain ⟨b,hb,rfl⟩:=hv
  obtain ⟨b',xs,h1,h2,h3,h4⟩:=h.mem.cells t _ _ hm
  rw [h1] at hb
  simp only [Option.some.injEq,Value.pointer.injEq,Addr.mk.injEq,and_true] at hb
  subst hb
  refine ⟨b',off,xs.drop off,rfl,h3.drop off,fun j u hu=>?_⟩
  rw [List.getElem?_drop] at hu
  simp [World.cell?,h2,hu]
 case el ls r i off=>
  simp only [zaI,Option.some.injEq,Prod.mk.injEq] at hc
  obtain ⟨rfl,rfl⟩:=hc
  obtain ⟨hi,b,o,c,rfl,hr⟩:=hv
  have hlen:r.rows.length=r.len:=r.rows_len
  obtain ⟨b2,o2,e,hS,hb,vals,hcell,hrow⟩:=Sl.rowAt hr (by omega)
  simp only [Option.some.injEq,Addr.mk.injEq,and_true] at e
  obtain ⟨rfl,rfl⟩:=e
  have hL:=RdL.vals (hrow i hi).1 (hrow i hi).2
  refine ⟨b,_,((List.range r.tys.length).map (vals i)).drop off,rfl,(RL.elem_ok hi hL).drop off,fun j u hu=>?_⟩
  rw [List.getElem?_drop,List.getElem?_map] at hu
  by_cases hj:off+j<r.tys.length
  ·simp [hj] at hu
   rw [← hu,show o+i*r.tys.length+off+j=o+i*r.tys.length+(off+j) by omega]
   exact hcell i _ hi hj
  ·simp [hj] at hu
 case oel t sz i off=>
  simp only [zaI] at hc
  split at hc
  case h_2=>simp at hc
  rename_i T ls r hm
  split at hc
  case isFalse=>simp at hc
  rename_i hsz
  simp only [Option.some.injEq,Prod.mk.injEq] at hc
  obtain ⟨rfl,rfl⟩:=hc
  have hi:i<r.len:=hn _ (by simp)
  obtain ⟨b,k,c,hb,rfl⟩:=hv
  obtain ⟨v',h1,cells,ho,hrow⟩:=h.mem.row t _ _ _ hm
  rw [h1] at hb
  simp only [Option.some.injEq] at hb
  subst hb
  have hlen:r.rows.length=r.len:=r.rows_len
  have hcell:=World.ownsRow.cells ho (g:=b) rfl
  have hL:RdL w (E.set ls) r.tys ((cells.drop (i*r.tys.length)).take r.tys.length) (r.rows.getD i []):=(hrow i (by omega)).mono fun b _ hb=>hb.1
  refine ⟨b,_,((cells.drop (i*r.tys.length)).take r.tys.length).drop off,rfl,(RL.elem_ok hi hL).drop off,fun j u hu=>?_⟩
  rw [List.getElem?_drop,List.getElem?_take] at hu
  split at hu
  ·rw [List.getElem?_drop] at hu
   have:=hcell _ u hu
   rw [Addr.add0] at this
   rw [← this,hsz]
   congr 2
   omega
  ·simp at hu
 case rp ls T cs2 off=>
  simp only [zaI,Option.some.injEq,Prod.mk.injEq] at hc
  obtain ⟨rfl,rfl⟩:=hc
  obtain ⟨b,xs,rfl,h1,h2,h3⟩:=hv
  refine ⟨b,off,xs.drop off,rfl,h3.drop off,fun j u hu=>?_⟩
  rw [List.getElem?_drop] at hu
  simp [World.cell?,h2,hu]
 all_goals simp [zaI] at hc
def aggT (P:Program) (T:TypeId):Option Bool:=
 match P.underlying T with
 | some (.struct _) | some (.array _ _)=>some true
 | some _=>some false
 | none=>none
theorem zaO {T:TypeId} {b:Bool} (h:aggT P T=some b) (w:World):(isAgg T).run P w = .ok b w:=by
 unfold aggT at h
 unfold isAgg
 split at h
 case h_4=>simp at h
 all_goals
  rename_i hu
  simp only [Option.some.injEq] at h
  subst h
  rw [Sem.run_bind,run_underlying hu]
 ·simp [Sem.run_pure,Result.andThen]
 ·simp [Sem.run_pure,Result.andThen]
 ·rename_i d n1 n2
  cases d<;>first | (exfalso;simp_all;done) | simp [Sem.run_pure,Result.andThen]
def zaD (P:Program) (T:TypeId):Option Nat:=(P.info? T).map (·.size)
theorem zal {T:TypeId} {n:Nat} (h:zaD P T=some n) (w:World):(sizeOf T).run P w = .ok n w:=by
 unfold zaD at h
 cases hi:P.info? T with
 | none=>simp [hi] at h
 | some i=>simp [hi] at h;simp [sizeOf,typeInfo,hi,h,Sem.run_bind]
theorem zbs {w:World} {b off:Nat} {xs:List Value} (hc:∀ j u,xs[j]? = some u→w.cell? ⟨b,off+j,none⟩=some u) (n:Nat) (hn:n≤xs.length):(loadCells ⟨b,off,none⟩ n).run P w = .ok (xs.take n).toArray w:=by
 have:=run_loadCells_list (P:=P) w ⟨b,off,none⟩ (xs.take n) (fun j u hu=>by
  rw [List.getElem?_take] at hu
  rw [Addr.add0]
  split at hu
  ·exact hc j u hu
  ·simp at hu)
 rwa [List.length_take,Nat.min_eq_left hn] at this
def zi2 (P:Program) (st:St) (T:TypeId) (x:Operand):Option Upd:=
 match zaI st (zad (st.ev x)).1,aggT P T,zaD P T with
 | some (cs,n),some true,some k=>if k≤cs.length then some ⟨(zad (st.ev x)).2++n,.agg (cs.take k),[]⟩ else none
 | some (c::_,n),some false,_=>some ⟨(zad (st.ev x)).2++n,c,[]⟩
 | _,_,_=>none
theorem zi1 (o:Oper) (T:TypeId) (x:Operand) (ho:o.op = .load T x) {u:Upd} (hu:zi2 P st T x=some u):Does P base X w0 st o u:=by
 unfold zi2 at hu
 split at hu
 case h_3=>simp at hu
 ·rename_i cs n k e1 e2 e3
  split at hu
  case isFalse=>simp at hu
  rename_i hk
  simp only [Option.some.injEq] at hu
  subst hu
  refine Does.pure fun E a w h hn=>?_
  have h1:=zac (h.ev x) (fun p hp=>hn p (List.mem_append_left _ hp))
  obtain ⟨b,off,xs,e,hd,hc⟩:=zbp h e1 (fun p hp=>hn p (List.mem_append_right _ hp)) h1
  refine ⟨.agg (xs.take k).toArray,?_,xs.take k,rfl,hd.take k⟩
  simp only [execOp,ho,Instr.loadAt,e,Instr.sureAddr,loadVar,Sem.run_bind,Sem.run_pure,Result.andThen,zaO e2,if_true,zal e3,zbs hc k (by rw [hd.len];exact hk)]
 ·rename_i c rest n _ e1 e2
  simp only [Option.some.injEq] at hu
  subst hu
  refine Does.pure fun E a w h hn=>?_
  have h1:=zac (h.ev x) (fun p hp=>hn p (List.mem_append_left _ hp))
  obtain ⟨b,off,xs,e,hd,hc⟩:=zbp h e1 (fun p hp=>hn p (List.mem_append_right _ hp)) h1
  match xs,hd with
  | x0::xs,hd=>
   refine ⟨x0,?_,hd.1⟩
   have:=hc 0 x0 rfl
   rw [Nat.add_zero] at this
   simp [execOp,ho,Instr.loadAt,e,Instr.sureAddr,loadVar,Sem.run_bind,zaO e2,run_load,this]
def zc1 (vs ys:List SV) (off:Nat):List SV:=vs.take off++ys++vs.drop (off+ys.length)
theorem zf2 {vs ys:List SV} {off:Nat} (h1:vs.all SV.flat=true) (h2:ys.all SV.flat=true):(zc1 vs ys off).all SV.flat=true:=by
 simp only [zc1,List.all_eq_true,List.mem_append] at *
 rintro x ((hx | hx) | hx)
 ·exact h1 x (List.mem_of_mem_take hx)
 ·exact h2 x hx
 ·exact h1 x (List.mem_of_mem_drop hx)
theorem zc0 {E:Env} {w:World} {vs ys:List SV} {xs zs:List Value} (h:DenL E w vs xs) (k:DenL E w ys zs) (off:Nat):DenL E w (zc1 vs ys off) (xs.take off++zs++xs.drop (off+zs.length)):=by
 rw [k.len];exact ((h.take off).app k).app (h.drop _)
theorem zb6 {w:World} {T:TypeId} {n:Nat} (hs:zaD P T=some n) {v:Value} {zs:List Value} (hv:v.cells=zs.toArray) (hn:zs.length=n) {b off:Nat} {xs:List Value} {Tb:TypeId} (hb:w.heap[b]? = some (.cells xs.toArray Tb (0,0)))
  (hl:off+zs.length≤xs.length) (h1:∀ u∈zs,u.oneCell'=true):(storeVar T ⟨b,off,none⟩ v).run P w = .ok () (w.setRow b (xs.take off++zs++xs.drop (off+zs.length)).toArray):=by
 subst hn
 have:=run_storeCells_at (P:=P) b off Tb zs 0 xs.toArray w hb (by simpa using hl) h1
 simp only [Nat.add_zero] at this
 simp only [storeVar,hv,Sem.run_bind,zal hs,Result.andThen,List.size_toArray,ne_eq,not_true,if_false,Sem.run_pure]
 simpa using this
def zdc (P:Program) (st:St) (T:TypeId) (x y:Operand):Option Upd:=
 match zad (st.ev x),zad (st.ev y),zaD P T with
 | (.ptr t off,n1),(s,n2),some k=>match st.m t with
  | .cells Tb vs=>if s.cells.all SV.flat then (if s.cells.length=k then (if off+k≤vs.length then some ⟨n1++n2,.any,[(t,.cells Tb (zc1 vs s.cells off))]⟩ else none) else none) else none
  | _=>none
 | _,_,_=>none
theorem zhp (o:Oper) (T:TypeId) (x y:Operand) (ho:o.op = .store T x y) {u:Upd} (hu:zdc P st T x y=some u):Does P base X w0 st o u:=by
 unfold zdc at hu
 split at hu
 case h_2=>simp at hu
 rename_i t off n1 s n2 k e1 e2 e3
 split at hu
 case h_2=>simp at hu
 rename_i Tb vs hm
 split at hu
 case isFalse=>simp at hu
 split at hu
 case isFalse=>simp at hu
 split at hu
 case isFalse=>simp at hu
 rename_i hf hk hl
 simp only [Option.some.injEq] at hu
 subst hu
 intro E a w K Q h hn hK
 have h1:=zac (h.ev x) (fun p hp=>hn p (by rw [e1] at hp;exact List.mem_append_left _ hp))
 have h2:=zac (h.ev y) (fun p hp=>hn p (by rw [e2] at hp;exact List.mem_append_right _ hp))
 rw [e1] at h1
 rw [e2] at h2
 obtain ⟨zs,hz,hzd⟩:=zcr hf h2
 obtain ⟨b,hb,hx⟩:=h1
 obtain ⟨b',xs,c1,c2,c3,c4⟩:=h.mem.cells t _ _ hm
 rw [c1] at hb
 simp only [Option.some.injEq,Value.pointer.injEq,Addr.mk.injEq,and_true] at hb
 subst hb
 have hzl:zs.length=k:=by rw [hzd.len];exact hk
 have hxl:xs.length=vs.length:=c3.len
 have hrun:=zb6 (P:=P) e3 hz hzl c2 (off:=off) (by omega) (DenL.ones hf hzd)
 have hne:∀ g,zar (.pointer (some ⟨b',0,none⟩))≠some g→g≠b':=by intro g hg e;exact hg (by simp [zar,e])
 have hS:Same E.lab w (w.setRow b' (xs.take off++zs++xs.drop (off+zs.length)).toArray):=by
  refine ⟨by simp,fun g hg _=>setRow_other w b' g _ (fun e=>?_)⟩
  subst e
  exact (h.mem.sep t _ (Has.cells hm c1 rfl)).1 hg
 refine zck (w':=w.setRow b' (xs.take off++zs++xs.drop (off+zs.length)).toArray) ?_ (hK E _ _ (Env.Le.refl E) hS trivial ?_)
 ·simp only [execOp,ho,Instr.storeAt,hx,Instr.sureAddr,Sem.run_bind,Sem.run_pure,Result.andThen,hrun]
 ·rw [zaE]
  refine h.mem.poke (by show (st.m t).live=true;rw [hm];rfl) c1 _ rfl (by simp) (fun g hg _=>setRow_other w b' g _ (hne g hg)) ⟨rfl,rfl,rfl⟩ ⟨b',_,rfl,setRow_heap w b' _ _ Tb _ c2,zc0 (DenL.mono (Env.Le.refl E) hS _ _ c3) (DenL.mono (Env.Le.refl E) hS _ _ hzd) off,zf2 c4 hf⟩
end ops
end Go.Proofs.Ytjfphnegcelbpaa
namespace Go.Proofs.Ytjfphnegcelbpaa
open Go.RowKit Go.ChangeShapes Go.WideShapes Go.Deep
section ops
variable {P : Program} {base : Nat} {X : Cx} {w0 : World} {st : St}
def zdx (P:Program) (T:TypeId) (f:Nat):Option (Nat×TypeId):=
 match P.underlying T with
 | some (.struct fs)=>match fs[f]? with
  | some fd=>some (fd.offset,fd.type)
  | none=>none
 | _=>none
theorem zcZ {T:TypeId} {f off:Nat} {t:TypeId} (h:zdx P T f=some (off,t)):∃ fs fd,P.underlying T=some (.struct fs)∧fs[f]? = some fd∧fd.offset=off∧fd.type=t:=by
 unfold zdx at h
 split at h
 case h_2=>simp at h
 rename_i fs hu
 split at h
 case h_2=>simp at h
 rename_i fd hf
 simp only [Option.some.injEq,Prod.mk.injEq] at h
 exact ⟨fs,fd,hu,hf,h.1,h.2⟩
def zk9 (s:SV) (n:Nat):SV:=
 match s with
 | .ptr t off=> .ptr t (off+n)
 | .el ls r i off=> .el ls r i (off+n)
 | .oel t sz i off=> .oel t sz i (off+n)
 | .rp ls T cs off=> .rp ls T cs (off+n)
 | _=> .any
def zgE:SV→Bool
 | .ptr .. | .el .. | .oel .. | .rp .. => true
 | _=>false
theorem zhF {E:Env} {w:World} {s:SV} {v:Value} (n:Nat) (h:DenV E w s v) (ha:zgE s=true):∃ b off,v = .pointer (some ⟨b,off,none⟩)∧DenV E w (zk9 s n) (.pointer (some ⟨b,off+n,none⟩)):=by
 cases s<;>simp only [zgE,Bool.false_eq_true] at ha
 case ptr t off=>obtain ⟨b,h1,rfl⟩:=h;exact ⟨b,off,rfl,b,h1,rfl⟩
 case el ls r i off=>obtain ⟨h0,b,o,c,rfl,h2⟩:=h;exact ⟨b,_,rfl,h0,b,o,c,by rw [Nat.add_assoc],h2⟩
 case oel t sz i off=>obtain ⟨b,k,c,h1,rfl⟩:=h;exact ⟨b,_,rfl,b,k,c,h1,by rw [Nat.add_assoc]⟩
 case rp ls T cs off=>obtain ⟨b,xs,rfl,h1,h2,h3⟩:=h;exact ⟨b,off,rfl,b,xs,rfl,h1,h2,h3⟩
def za7 (P:Program) (st:St) (T:TypeId) (x:Operand) (f:Nat):Option Upd:=
 match zdx P T f with
 | some (off,t)=>match zaD P t with
  | some k=>if k=0 then none else (if zgE (zad (st.ev x)).1 then some ⟨(zad (st.ev x)).2,zk9 (zad (st.ev x)).1 off,[]⟩ else none)
  | none=>none
 | none=>none
theorem zd2 (o:Oper) (T:TypeId) (x:Operand) (f:Nat) (ho:o.op = .fieldAddr T x f) {u:Upd} (hu:za7 P st T x f=some u):Does P base X w0 st o u:=by
 unfold za7 at hu
 split at hu
 case h_2=>simp at hu
 rename_i off t hf
 split at hu
 case h_2=>simp at hu
 rename_i k hk
 split at hu
 case isTrue=>simp at hu
 split at hu
 case isFalse=>simp at hu
 rename_i hk0 ha
 simp only [Option.some.injEq] at hu
 subst hu
 obtain ⟨fs,fd,h1,h2,rfl,rfl⟩:=zcZ hf
 refine Does.pure fun E a w h hn=>?_
 obtain ⟨b,o2,e,hd⟩:=zhF fd.offset (zac (h.ev x) hn) ha
 refine ⟨_,?_,hd⟩
 simp [execOp,ho,Instr.fieldAt,run_underlying h1,h2,e,Instr.sureAddr,fieldPlace,zal hk,hk0,Addr.add0]
def zfr (P:Program) (st:St) (T:TypeId) (x:Operand) (f:Nat):Option Upd:=
 match zdx P T f,zad (st.ev x) with
 | some (off,t),(.agg vs,n)=>match aggT P t with
  | some true=>match zaD P t with
   | some k=>if off+k≤vs.length then some ⟨n,.agg ((vs.drop off).take k),[]⟩ else none
   | none=>none
  | some false=>match vs[off]? with
   | some s=>some ⟨n,s,[]⟩
   | none=>none
  | none=>none
 | _,_=>none
theorem zhr (o:Oper) (T:TypeId) (x:Operand) (f:Nat) (ho:o.op = .field T x f) {u:Upd} (hu:zfr P st T x f=some u):Does P base X w0 st o u:=by
 unfold zfr at hu
 split at hu
 case h_2=>simp at hu
 rename_i off t vs n hf e
 obtain ⟨fs,fd,h1,h2,rfl,rfl⟩:=zcZ hf
 split at hu
 case h_3=>simp at hu
 ·rename_i ha
  split at hu
  case h_2=>simp at hu
  rename_i k hk
  split at hu
  case isFalse=>simp at hu
  rename_i hl
  simp only [Option.some.injEq] at hu
  subst hu
  refine Does.pure fun E a w h hn=>?_
  have hv:=zac (h.ev x) (fun p hp=>hn p (by rw [e] at hp;exact hp))
  rw [e] at hv
  obtain ⟨xs,hx,hd⟩:=hv
  refine ⟨.agg ((xs.drop fd.offset).take k).toArray,?_,_,rfl,(hd.drop _).take _⟩
  have e2:(xs.toArray.extract fd.offset (fd.offset+k))=((xs.drop fd.offset).take k).toArray:=by
   simp [List.extract_toArray,List.extract_eq_take_drop]
  simp [execOp,ho,Instr.field,run_underlying h1,h2,hx,asAgg,part,zaO ha,zal hk]
 ·rename_i ha
  split at hu
  case h_2=>simp at hu
  rename_i s hs
  simp only [Option.some.injEq] at hu
  subst hu
  refine Does.pure fun E a w h hn=>?_
  have hv:=zac (h.ev x) (fun p hp=>hn p (by rw [e] at hp;exact hp))
  rw [e] at hv
  obtain ⟨xs,hx,hd⟩:=hv
  have hlt:fd.offset<vs.length:=(List.getElem?_eq_some_iff.1 hs).1
  have hd2:=hd.at fd.offset hlt
  have hlt2:fd.offset<xs.length:=by rw [hd.len];exact hlt
  have e3:vs.getD fd.offset .any=s:=by simp [List.getD,hs]
  rw [e3] at hd2
  have e4:xs.getD fd.offset undef=xs[fd.offset]:=by simp [List.getD,hlt2]
  rw [e4] at hd2
  refine ⟨_,?_,hd2⟩
  simp [execOp,ho,Instr.field,run_underlying h1,h2,hx,asAgg,part,zaO ha,hlt2]
def zfI (place:Nat→Option (Nat×Nat)):List SV→List (Nat×SV)→Option (List SV)
 | cs,[]=>some cs
 | cs,(i,s)::r=>match place i with
  | some (off,k)=>if s.cells.all SV.flat then (if s.cells.length=k then (if off+k≤cs.length then zfI place (zc1 cs s.cells off) r else none) else none) else none
  | none=>none
theorem zih (zs:List Value) (off:Nat):∀ (j:Nat) (cs:Array Value),off+j+zs.length≤cs.size →
  ((zs.zipIdx j).foldl (fun cs (c,j)=>cs.setIfInBounds (off+j) c) cs).toList=cs.toList.take (off+j)++zs++cs.toList.drop (off+j+zs.length):=by
 induction zs with
 | nil=>intro j cs _;simp
 | cons z zs ih=>
  intro j cs h
  simp only [List.zipIdx_cons,List.foldl_cons,List.length_cons] at h ⊢
  have:=ih (j+1) (cs.setIfInBounds (off+j) z) (by simp;omega)
  rw [show off+(j+1)=off+j+1 by omega] at this
  rw [this]
  simp only [Array.toList_setIfInBounds]
  have hlt:off+j<cs.toList.length:=by simp;omega
  have e1:(cs.toList.set (off+j) z).take (off+j+1)=cs.toList.take (off+j)++[z]:=by
   rw [List.take_succ_eq_append_getElem (by simpa using hlt),List.take_set_of_le (by omega)]
   simp
  have e2:(cs.toList.set (off+j) z).drop (off+j+1+zs.length)=cs.toList.drop (off+j+(zs.length+1)):=by
   rw [List.drop_set_of_lt (by omega)];congr 1;omega
  rw [e1,e2];simp
theorem zdw {E:Env} {w:World} {place:Nat→Option (Nat×Nat)}:∀ {ps:List (Nat×SV)} {cs out:List SV} {vals:List (Nat×Value)} {zs:Array Value},zfI place cs ps=some out→DenL E w cs zs.toList→vals.length=ps.length →
  (∀ i,i<ps.length→(vals.getD i default).1=(ps.getD i default).1∧DenV E w (ps.getD i default).2 (vals.getD i default).2)→∃ r:Array Value,Instr.fill place zs vals=some r∧DenL E w out r.toList
 | [],cs,out,vals,zs,h,hd,hl,_=>by
  have:vals=[]:=List.eq_nil_of_length_eq_zero (by simpa using hl)
  subst this
  simp only [zfI,Option.some.injEq] at h
  subst h
  exact ⟨zs,by simp [Instr.fill],hd⟩
 | (i,s)::r,cs,out,[],zs,h,hd,hl,_=>by simp at hl
 | (i,s)::r,cs,out,(i2,v)::vals,zs,h,hd,hl,hp=>by
  have h0:=hp 0 (by simp)
  simp at h0
  obtain ⟨rfl,hv⟩:=h0
  unfold zfI at h
  split at h
  case h_2=>simp at h
  rename_i off k hpl
  split at h
  case isFalse=>simp at h
  split at h
  case isFalse=>simp at h
  split at h
  case isFalse=>simp at h
  rename_i hf hk hle
  obtain ⟨xs,hx,hxd⟩:=zcr hf hv
  have hxl:xs.length=k:=by rw [hxd.len];exact hk
  have hzl:zs.size=cs.length:=by have:=hd.len;simpa using this
  have hfold:=zih xs off 0 zs (by simp;omega)
  simp only [Nat.add_zero] at hfold
  have hd2:DenL E w (zc1 cs s.cells off) ((xs.zipIdx.foldl (fun cs (c,j)=>cs.setIfInBounds (off+j) c) zs).toList):=by
   rw [hfold];exact zc0 hd hxd off
  obtain ⟨res,h3,h4⟩:=zdw (ps:=r) (vals:=vals) h hd2 (by simpa using hl) (fun j hj=>by have:=hp (j+1) (by simpa using hj);simpa using this)
  refine ⟨res,?_,h4⟩
  rw [Instr.fill,hpl]
  simp only [hx,List.size_toArray,hxl,ne_eq,not_true,false_or,decide_false,Bool.false_or]
  rw [if_neg (by simp;omega)]
  have e5:(xs.toArray.zipIdx.foldl (fun cs (c,j)=>cs.setIfInBounds (off+j) c) zs)=(xs.zipIdx.foldl (fun cs (c,j)=>cs.setIfInBounds (off+j) c) zs):=by
   simp [← Array.foldl_toList]
  rw [← h3]
  simp
def zaA (st:St):List (Nat×Operand)→List (Nat×SV)×List Prop
 | []=>([],[])
 | (i,x)::r=>((i,(zad (st.ev x)).1)::(zaA st r).1,(zad (st.ev x)).2++(zaA st r).2)
def zcv (a:Act) (ps:List (Nat×Operand)):List (Nat×Value):=ps.map fun q=>(q.1,a.eval q.2)
theorem zc4 {E:Env} {a:Act} {w:World} (h:st.Ok base X w0 E a w):∀ (ps:List (Nat×Operand)),(∀ p∈(zaA st ps).2,p)→(zaA st ps).1.length=ps.length∧∀ i,i<ps.length →
  (((zcv a ps).getD i default).1=((zaA st ps).1.getD i default).1∧DenV E w ((zaA st ps).1.getD i default).2 ((zcv a ps).getD i default).2)
 | [],_=>⟨rfl,fun i hi=>absurd hi (by simp)⟩
 | (i,x)::r,hn=>by
  have ih:=zc4 h r (fun p hp=>hn p (List.mem_append_right _ hp))
  refine ⟨by simp [zaA,ih.1],fun j hj=>?_⟩
  cases j with
  | zero=>exact ⟨rfl,zac (h.ev x) (fun p hp=>hn p (List.mem_append_left _ hp))⟩
  | succ j=>have:=ih.2 j (by simpa using hj);simpa [zaA,zcv] using this
def zeL (P:Program) (T:TypeId):Option (List (Nat×TypeId)):=
 match P.underlying T with
 | some (.struct fs)=>some (fs.toList.map fun f=>(f.offset,f.type))
 | _=>none
def zb9 (P:Program):List (Nat×TypeId)→Option (List (Nat×Nat))
 | []=>some []
 | (off,t)::r=>match zaD P t,zb9 P r with
  | some k,some l=>some ((off,k)::l)
  | _,_=>none
theorem zcS (w:World):∀ (fs:List Field) (l:List (Nat×Nat)),zb9 P (fs.map fun f=>(f.offset,f.type))=some l →
  (List.mapM (fun (f:Field)=>(do pure (f.offset,← sizeOf f.type):Sem (Nat×Nat))) fs).run P w = .ok l w
 | [],l,h=>by simp only [List.map_nil,zb9,Option.some.injEq] at h;subst h;simp [Sem.run_pure]
 | f::fs,l,h=>by
  simp only [List.map_cons,zb9] at h
  split at h
  case h_2=>simp at h
  rename_i k l2 h1 h2
  simp only [Option.some.injEq] at h
  subst h
  have ih:=zcS w fs l2 h2
  simp only [List.mapM_cons,Sem.run_bind,zal h1,Result.andThen,Sem.run_pure,ih]
def zfs (P:Program) (st:St) (T:TypeId) (parts:Array (Nat×Operand)):Option Upd:=
 match (P.info? T).bind (·.zero),zeL P T with
 | some z,some fs=>match zb9 P fs with
  | some l=>match zfI (fun i=>l[i]?) (ofCs z) (zaA st parts.toList).1 with
   | some out=>some ⟨(zaA st parts.toList).2,.agg out,[]⟩
   | none=>none
  | none=>none
 | _,_=>none
theorem zhs (o:Oper) (T:TypeId) (parts:Array (Nat×Operand)) (ho:o.op = .build T parts) {u:Upd} (hu:zfs P st T parts=some u):Does P base X w0 st o u:=by
 unfold zfs at hu
 split at hu
 case h_2=>simp at hu
 rename_i z fs hz hfs
 split at hu
 case h_2=>simp at hu
 rename_i l hl
 split at hu
 case h_2=>simp at hu
 rename_i out hout
 simp only [Option.some.injEq] at hu
 subst hu
 unfold zeL at hfs
 split at hfs
 case h_2=>simp at hfs
 rename_i flds hund
 simp only [Option.some.injEq] at hfs
 subst hfs
 refine Does.pure fun E a w h hn=>?_
 have hp:=zc4 h parts.toList hn
 obtain ⟨r,hr,hd⟩:=zdw (E:=E) (w:=w) (zs:=z.cells) (vals:=zcv a parts.toList) hout (zdn E w z.cells.toList) (by rw [hp.1];simp [zcv]) (fun i hi=>hp.2 i (by rw [hp.1] at hi;exact hi))
 refine ⟨.agg r,?_,r.toList,by simp,hd⟩
 cases hi:P.info? T with
 | none=>simp [hi] at hz
 | some inf=>
  simp [hi] at hz
  have hpl:=zcS (P:=P) w flds.toList l hl
  have hm:(flds.mapM fun (f:Field)=>(do pure (f.offset,← sizeOf f.type):Sem (Nat×Nat))).run P w = .ok l.toArray w:=by
   rw [Array.mapM_eq_mapM_toList,map_eq_pure_bind,Sem.run_bind,hpl];simp [Sem.run_pure]
  have hrr:Instr.fill (l.toArray[·]?) z.cells (parts.map fun (i,x)=>(i,a.eval x)).toList=some r:=by
   have e:(parts.map fun (i,x)=>(i,a.eval x)).toList=zcv a parts.toList:=by simp [zcv]
   rw [e];simpa using hr
  simp only [execOp,ho,Instr.build,zeroValue,typeInfo,Sem.run_bind,run_program,hi,hz,Result.andThen,Sem.run_pure,run_underlying hund,hm,hrr]
end ops
end Go.Proofs.Ytjfphnegcelbpaa
namespace Go.Proofs.Ytjfphnegcelbpaa
open Go.RowKit Go.ChangeShapes Go.WideShapes Go.Deep
section ops
variable {P : Program} {base : Nat} {X : Cx} {w0 : World} {st : St}
theorem OwnR.bd {b:Nat} {w:World} {T:TypeId} {S:Nat→Prop} {fs:List Ty} {v:Value} {rows:List (List D)} (h:OwnR b w T S fs v rows):rows.length≤9223372036854775807:=by
 obtain ⟨cells,⟨_,⟨rfl,hn⟩ | ⟨g,cap,cur,rfl,_,_,h1,h2,_⟩⟩,_⟩:=h
 ·omega
 ·unfold maxLen at h2;omega
def zaK (P:Program) (T:TypeId):Option TypeId:=
 match P.underlying T with
 | some (.slice e)=>some e
 | _=>none
theorem zam {T e:TypeId} (h:zaK P T=some e):P.underlying T=some (.slice e):=by
 unfold zaK at h
 split at h
 case h_2=>simp at h
 rename_i hu
 simp only [Option.some.injEq] at h
 rw [hu,h]
def zbq (P:Program) (st:St) (T:TypeId) (x i:Operand):Option Upd:=
 match zaK P T,zad (st.ev i) with
 | some e,(.int k n,n1)=>match zad (st.ev x),zaD P e with
  | (.sl ls r,n2),some sz=>if sz=r.tys.length then some ⟨n1++n2++[0≤n,n<(r.len:Int)],.el ls r n.toNat 0,[]⟩ else none
  | (.own t,n2),some sz=>match st.m t with
   | .row _ _ r=>if sz=r.tys.length then some ⟨n1++n2++[0≤n,n<(r.len:Int)],.oel t sz n.toNat 0,[]⟩ else none
   | _=>none
  | _,_=>none
 | _,_=>none
theorem zc2 {T e:TypeId} (hu:P.underlying T=some (.slice e)) {sz:Nat} (hsz:zaD P e=some sz) {b off len c:Nat} {k:IntKind} {n:Int} (h0:0≤n) (h1:n<(len:Int)) (w:World) :
  (Instr.indexAt T (.slice (some ⟨b,off,none⟩) len c) (.int k n)).run P w = .ok (.pointer (some ⟨b,off+n.toNat*sz,none⟩)) w:=by
 simp [Instr.indexAt,asIntOf,run_underlying hu,h0,h1,zal hsz,Addr.add0,Sem.run_bind]
theorem zd1 (o:Oper) (T:TypeId) (x i:Operand) (ho:o.op = .indexAddr T x i) {u:Upd} (hu:zbq P st T x i=some u):Does P base X w0 st o u:=by
 unfold zbq at hu
 split at hu
 case h_2=>simp at hu
 rename_i e k n n1 he ei
 have hund:=zam he
 split at hu
 case h_3=>simp at hu
 ·rename_i ls r n2 sz ex hsz
  split at hu
  case isFalse=>simp at hu
  rename_i hrs
  simp only [Option.some.injEq] at hu
  subst hu
  refine Does.pure fun E a w h hn=>?_
  have hi:=zac (h.ev i) (fun p hp=>hn p (by rw [ei] at hp;simp [hp]))
  have hx:=zac (h.ev x) (fun p hp=>hn p (by rw [ex] at hp;simp [hp]))
  rw [ei] at hi
  rw [ex] at hx
  obtain ⟨hi,_⟩:=hi
  have h0:0≤n:=hn _ (by simp)
  have h1:n<(r.len:Int):=hn (n<(r.len:Int)) (by simp)
  have hlen:r.rows.length=r.len:=r.rows_len
  obtain ⟨ad,c,hv,hs⟩:=Rd.sl' hx
  obtain ⟨b,off,e1⟩:=Sl.addr hs (by omega)
  subst e1
  rw [hlen] at hv hs
  refine ⟨.pointer (some ⟨b,off+n.toNat*sz,none⟩),?_,(by omega:n.toNat<r.len),b,off,c,?_,hs⟩
  ·simp only [execOp,ho,hv,hi,Sem.run_bind,zc2 hund hsz h0 h1,Result.andThen,Sem.run_pure]
  ·rw [hrs,Nat.add_zero]
 ·rename_i t n2 sz ex hsz
  split at hu
  case h_2=>simp at hu
  rename_i T' ls r hm
  split at hu
  case isFalse=>simp at hu
  rename_i hrs
  simp only [Option.some.injEq] at hu
  subst hu
  refine Does.pure fun E a w h hn=>?_
  have hi:=zac (h.ev i) (fun p hp=>hn p (by rw [ei] at hp;simp [hp]))
  have hx:=zac (h.ev x) (fun p hp=>hn p (by rw [ex] at hp;simp [hp]))
  rw [ei] at hi
  rw [ex] at hx
  obtain ⟨hi,_⟩:=hi
  have h0:0≤n:=hn _ (by simp)
  have h1:n<(r.len:Int):=hn (n<(r.len:Int)) (by simp)
  have hlen:r.rows.length=r.len:=r.rows_len
  obtain ⟨v',h2,cells,ho',hrow⟩:=h.mem.row t _ _ _ hm
  have hβ:=hx.1
  rw [h2] at hβ
  simp only [Option.some.injEq] at hβ
  rcases ho'.2 with ⟨e1,e2⟩ | ⟨g,cap,cur,e1,_⟩
  ·omega
  ·rw [hlen] at e1
   rw [e1] at hβ h2
   refine ⟨.pointer (some ⟨g,0+n.toNat*sz,none⟩),?_,g,r.len,cap,h2,by simp⟩
   simp only [execOp,ho,← hβ,hi,Sem.run_bind,zc2 hund hsz h0 h1,Result.andThen,Sem.run_pure]
def zcs (st:St) (x:Operand) (i:Nat):Option Upd:=
 match zad (st.ev x) with
 | (.tup vs,n)=>match vs[i]? with
  | some s=>some ⟨n,s,[]⟩
  | none=>none
 | _=>none
theorem ze3 (o:Oper) (x:Operand) (i:Nat) (ho:o.op = .extract x i) {u:Upd} (hu:zcs st x i=some u):Does P base X w0 st o u:=by
 unfold zcs at hu
 split at hu
 case h_2=>simp at hu
 rename_i vs n e
 split at hu
 case h_2=>simp at hu
 rename_i s hs
 simp only [Option.some.injEq] at hu
 subst hu
 refine Does.pure fun E a w h hn=>?_
 have hx:=zac (h.ev x) (fun p hp=>hn p (by rw [e] at hp;exact hp))
 rw [e] at hx
 obtain ⟨xs,hv,hd⟩:=hx
 have hlt:i<vs.length:=(List.getElem?_eq_some_iff.1 hs).1
 have hd2:=hd.at i hlt
 have hlt2:i<xs.length:=by rw [hd.len];exact hlt
 rw [show vs.getD i .any=s by simp [List.getD,hs],show xs.getD i undef=xs[i] by simp [List.getD,hlt2]] at hd2
 refine ⟨_,?_,hd2⟩
 simp [execOp,ho,hv,Instr.extract,hlt2]
def binV (op:BinOp):SV→SV→Option (SV×List Prop)
 | .int k x,.int k' y=>if k=k' then match op with
  | .add=>some (.int k (k.wrap (x+y)),[])
  | .sub=>some (.int k (k.wrap (x-y)),[])
  | .mul=>some (.int k (k.wrap (x*y)),[])
  | .quo=>some (.int k (k.wrap (x.tdiv y)),[y≠0])
  | .rem=>some (.int k (x.tmod y),[y≠0,(Lit.int k (x.tmod y)).wf=true])
  | .eql=>some (.bool (x==y),[])
  | .neq=>some (.bool (x != y),[])
  | .lss=>some (.bool (decide (x<y)),[])
  | .leq=>some (.bool (decide (x≤y)),[])
  | .gtr=>some (.bool (decide (x>y)),[])
  | .geq=>some (.bool (decide (x≥y)),[])
  | _=>none
  else none
 | .str x,.str y=>match op with
  | .eql=>some (.bool (x.toList==y.toList),[])
  | .neq=>some (.bool !(x.toList==y.toList),[])
  | .add=>some (.str (x++y),[x.size+y.size≤140737488355328])
  | _=>none
 | _,_=>none
def binB (P:Program) (op:BinOp) (T:TypeId):SV→SV→Option SV
 | .bool x,.bool y=>match P.underlying T with
  | some .bool=>match op with
   | .eql=>some (.bool (x==y))
   | .neq=>some (.bool !(x==y))
   | _=>none
  | _=>none
 | _,_=>none
theorem zk1 {E:Env} {w:World} {op:BinOp} {s t r:SV} {n:List Prop} (h:binV op s t=some (r,n)) (hn:∀ p∈n,p) {v u:Value} (hv:DenV E w s v) (hu:DenV E w t u) (T:TypeId) (x y:Operand) :
  ∃ z,(do eqGuard op T x y v u;binOp op T v u:Sem Value).run P w = .ok z w∧DenV E w r z:=by
 unfold binV at h
 split at h
 ·rename_i k a k' b
  split at h
  case isFalse=>simp at h
  rename_i hk
  subst hk
  obtain ⟨rfl,_⟩:=hv
  obtain ⟨rfl,_⟩:=hu
  split at h<;>simp only [Option.some.injEq,Prod.mk.injEq,reduceCtorEq] at h
  all_goals obtain ⟨rfl,rfl⟩:=h
  case h_5=>
   have h1:b≠0:=hn _ (by simp)
   have h2:(Lit.int k (a.tmod b)).wf=true:=hn _ (by simp)
   exact ⟨_,by simp [eqGuard,binOp,Op.intDiv,h1],rfl,h2⟩
  case h_4=>
   have h1:b≠0:=hn _ (by simp)
   exact ⟨_,by simp [eqGuard,binOp,Op.intDiv,h1],rfl,wf_wrap _ _⟩
  all_goals
   refine ⟨_,by simp [eqGuard,binOp,Op.intArith,Op.intCmp];rfl,?_⟩
   first | exact ⟨rfl,wf_wrap _ _⟩ | rfl
 ·rename_i a b
  obtain ⟨rfl,ha⟩:=hv
  obtain ⟨rfl,hb⟩:=hu
  split at h<;>simp only [Option.some.injEq,Prod.mk.injEq,reduceCtorEq] at h
  all_goals obtain ⟨rfl,rfl⟩:=h
  case h_3=>
   have h1:a.size+b.size≤140737488355328:=hn _ (by simp)
   refine ⟨.string (a++b),?_,rfl,by simpa using h1⟩
   have h2:¬ (((a.size+b.size:Nat):Int)>IntKind.i64.max):=by
    have:IntKind.i64.max=9223372036854775807:=rfl
    rw [this];omega
   simp only [eqGuard,binOp,Op.stringOp]
   rw [if_neg h2]
   rfl
  all_goals
   refine ⟨_,by simp [eqGuard,binOp,Op.stringOp];rfl,?_⟩
   rfl
 ·simp at h
theorem zcT {T:TypeId} (hT:P.underlying T=some .bool) (a b:Bool) (w:World):(Op.equal T (.bool a) (.bool b)).run P w = .ok (a==b) w:=by
 unfold Op.equal Op.maxDepth
 unfold Op.equalIn
 rw [Sem.run_bind,run_underlying hT]
 rfl
theorem zk2 {E:Env} {w:World} {op:BinOp} {T:TypeId} {s t r:SV} (h:binB P op T s t=some r) {v u:Value} (hv:DenV E w s v) (hu:DenV E w t u) (x y:Operand) :
  ∃ z,(do eqGuard op T x y v u;binOp op T v u:Sem Value).run P w = .ok z w∧DenV E w r z:=by
 unfold binB at h
 split at h
 case h_2=>simp at h
 rename_i a b
 split at h
 case h_2=>simp at h
 rename_i hT
 have hv:v = .bool a:=hv
 have hu:u = .bool b:=hu
 subst hv;subst hu
 split at h<;>simp only [Option.some.injEq,reduceCtorEq] at h
 all_goals subst h
 ·exact ⟨.bool (a==b),by
   rw [show (do eqGuard .eql T x y (.bool a) (.bool b);binOp .eql T (.bool a) (.bool b):Sem Value)=(do eqGuard .eql T x y (.bool a) (.bool b);pure (.bool (← Op.equal T (.bool a) (.bool b)))) from rfl]
   simp [eqGuard,zcT hT],rfl⟩
 ·exact ⟨.bool !(a==b),by
   rw [show (do eqGuard .neq T x y (.bool a) (.bool b);binOp .neq T (.bool a) (.bool b):Sem Value)=(do eqGuard .neq T x y (.bool a) (.bool b);pure (.bool (!(← Op.equal T (.bool a) (.bool b))))) from rfl]
   simp [eqGuard,zcT hT],rfl⟩
def cBin (P:Program) (st:St) (op:BinOp) (T:TypeId) (x y:Operand):Option Upd:=
 match binV op (zad (st.ev x)).1 (zad (st.ev y)).1 with
 | some (r,n)=>some ⟨(zad (st.ev x)).2++(zad (st.ev y)).2++n,r,[]⟩
 | none=>match binB P op T (zad (st.ev x)).1 (zad (st.ev y)).1 with
  | some r=>some ⟨(zad (st.ev x)).2++(zad (st.ev y)).2,r,[]⟩
  | none=>none
theorem zky (o:Oper) (op:BinOp) (T T2:TypeId) (x y:Operand) (ho:o.op = .binOp op T x y T2) {u:Upd} (hu:cBin P st op T x y=some u):Does P base X w0 st o u:=by
 unfold cBin at hu
 split at hu
 ·rename_i r n hb
  simp only [Option.some.injEq] at hu
  subst hu
  refine Does.pure fun E a w h hn=>?_
  have hx:=zac (h.ev x) (fun p hp=>hn p (by simp [hp]))
  have hy:=zac (h.ev y) (fun p hp=>hn p (by simp [hp]))
  obtain ⟨z,h1,h2⟩:=zk1 (P:=P) hb (fun p hp=>hn p (by simp [hp])) hx hy T x y
  exact ⟨z,by rw [execOp,ho];simp only [Sem.run_bind] at h1 ⊢;rw [h1];rfl,h2⟩
 ·split at hu
  case h_2=>simp at hu
  rename_i r hb
  simp only [Option.some.injEq] at hu
  subst hu
  refine Does.pure fun E a w h hn=>?_
  have hx:=zac (h.ev x) (fun p hp=>hn p (by simp [hp]))
  have hy:=zac (h.ev y) (fun p hp=>hn p (by simp [hp]))
  obtain ⟨z,h1,h2⟩:=zk2 (P:=P) hb hx hy x y
  exact ⟨z,by rw [execOp,ho];simp only [Sem.run_bind] at h1 ⊢;rw [h1];rfl,h2⟩
def cUn (st:St) (op:UnOp) (x:Operand):Option Upd:=
 match op,zad (st.ev x) with
 | .not,(.bool b,n)=>some ⟨n,.bool !b,[]⟩
 | .neg,(.int k m,n)=>some ⟨n,.int k (k.wrap (0-m)),[]⟩
 | _,_=>none
theorem zli (o:Oper) (op:UnOp) (T:TypeId) (x:Operand) (ho:o.op = .unOp op T x) {u:Upd} (hu:cUn st op x=some u):Does P base X w0 st o u:=by
 unfold cUn at hu
 split at hu
 case h_3=>simp at hu
 ·rename_i b n e
  simp only [Option.some.injEq] at hu
  subst hu
  refine Does.pure fun E a w h hn=>?_
  have hx:=zac (h.ev x) (fun p hp=>hn p (by rw [e] at hp;exact hp))
  rw [e] at hx
  have hx:a.eval x = .bool b:=hx
  exact ⟨.bool !b,by simp [execOp,ho,hx,Op.unary],rfl⟩
 ·rename_i k m n e
  simp only [Option.some.injEq] at hu
  subst hu
  refine Does.pure fun E a w h hn=>?_
  have hx:=zac (h.ev x) (fun p hp=>hn p (by rw [e] at hp;exact hp))
  rw [e] at hx
  obtain ⟨hx,_⟩:=hx
  exact ⟨.int k (k.wrap (0-m)),by simp [execOp,ho,hx,Op.unary,Op.intArith],rfl,wf_wrap _ _⟩
def lenV (st:St):SV→Option Nat
 | .sl _ r=>some r.len
 | .own t=>match st.m t with
  | .row _ _ r=>some r.len
  | _=>none
 | .nil=>some 0
 | _=>none
theorem zj8 {E:Env} {a:Act} {w:World} (h:st.Ok base X w0 E a w) {s:SV} {n:Nat} (hl:lenV st s=some n) {v:Value} (hv:DenV E w s v):∃ ad c,v = .slice ad n c∧n≤9223372036854775807:=by
 cases s<;>simp only [lenV,reduceCtorEq] at hl
 case nil=>simp only [Option.some.injEq] at hl;subst hl;exact ⟨none,0,hv,by omega⟩
 case sl ls r=>
  simp only [Option.some.injEq] at hl
  subst hl
  obtain ⟨ad,c,e,hs⟩:=Rd.sl' hv
  have:=hs.bd
  rw [r.rows_len] at e this
  exact ⟨ad,c,e,by omega⟩
 case own t=>
  split at hl
  case h_2=>simp at hl
  rename_i T ls r hm
  simp only [Option.some.injEq] at hl
  subst hl
  obtain ⟨v',h1,h2⟩:=h.mem.row t _ _ _ hm
  have:=hv.1
  rw [h1] at this
  simp only [Option.some.injEq] at this
  subst this
  obtain ⟨ad,c,e⟩:=h2.form
  have:=h2.bd
  rw [r.rows_len] at e this
  exact ⟨ad,c,e,this⟩
def cLen (P:Program) (st:St) (T:TypeId) (x:Operand):Option Upd:=
 match zaK P T with
 | some _=>match lenV st (zad (st.ev x)).1 with
  | some n=>some ⟨(zad (st.ev x)).2,.int .i64 n,[]⟩
  | none=>none
 | none=>match P.underlying T,zad (st.ev x) with
  | some .string,(.str s,n)=>some ⟨n,.int .i64 s.size,[]⟩
  | _,_=>none
theorem zgl {o:Oper} {x:Operand} {T:TypeId} (ho:o.op = .call {callee:= .builtin .len,args:= #[x],argTypes:= #[T]}) (a:Act) (w:World) {v:Value} (h:(Builtin.len_ #[T] o.type #[a.eval x]).run P w = .ok v w) :
  (execOp a.eval o).run P w = .ok (.value v) w:=by
 simp only [execOp,ho,resolve,invoke,builtin,Sem.run_bind,Sem.run_pure,Result.andThen,List.map_toArray,List.map_cons,List.map_nil,h]
theorem zkr (o:Oper) (T:TypeId) (x:Operand) (ho:o.op = .call {callee:= .builtin .len,args:= #[x],argTypes:= #[T]}) {u:Upd} (hu:cLen P st T x=some u):Does P base X w0 st o u:=by
 unfold cLen at hu
 split at hu
 ·rename_i e he
  split at hu
  case h_2=>simp at hu
  rename_i n hl
  simp only [Option.some.injEq] at hu
  subst hu
  refine Does.pure fun E a w h hn=>?_
  obtain ⟨ad,c,hv,hb⟩:=zj8 h hl (zac (h.ev x) hn)
  exact ⟨.int .i64 n,zgl ho a w (by simp [Builtin.len_,run_underlying (zam he),hv,goInt]),rfl,zaJ ⟨by omega,by omega⟩⟩
 ·split at hu
  case h_2=>simp at hu
  rename_i s n hT e
  simp only [Option.some.injEq] at hu
  subst hu
  refine Does.pure fun E a w h hn=>?_
  have hx:=zac (h.ev x) (fun p hp=>hn p (by rw [e] at hp;exact hp))
  rw [e] at hx
  obtain ⟨hx,hb⟩:=hx
  exact ⟨.int .i64 s.size,zgl ho a w (by simp [Builtin.len_,run_underlying hT,hx,goInt]),rfl,zaJ ⟨by omega,by omega⟩⟩
end ops
end Go.Proofs.Ytjfphnegcelbpaa
namespace Go.Proofs.Ytjfphnegcelbpaa
open Go.RowKit Go.ChangeShapes Go.WideShapes Go.Deep
def FnB (P : Program) (f : FuncId) : Prop := ∃ fn, P.funcs[f]? = some fn ∧ fn.name ≠ "runtime.NumGoroutine" ∧ fn.body.isSome = true
def zcM (P:Program) (C:Cfg):Prop:=∀ c f st svs u,C.orc c f st svs=some u→FnB P f∧∀ base X w0 E w vals,MemOk base X w0 E st.m w→DenL E w svs vals→(∀ p∈u.needs,p) →
 Calls P f vals.toArray w (fun e w'=>∃ v E',e = .returned v∧E.Le E'∧Same E.lab w w'∧DenV E' w' u.val v∧MemOk base X w0 E' (putF u.mem st.m) w')
section ops
variable {P : Program} {base : Nat} {X : Cx} {w0 : World} {st : St}
def evL (st:St):List Operand→List SV×List Prop
 | []=>([],[])
 | x::r=>((zad (st.ev x)).1::(evL st r).1,(zad (st.ev x)).2++(evL st r).2)
theorem zdT {E:Env} {a:Act} {w:World} (h:st.Ok base X w0 E a w):∀ (xs:List Operand),(∀ p∈(evL st xs).2,p)→DenL E w (evL st xs).1 (xs.map a.eval)
 | [],_=>trivial
 | x::r,hn=>⟨zac (h.ev x) (fun p hp=>hn p (List.mem_append_left _ hp)),zdT h r (fun p hp=>hn p (List.mem_append_right _ hp))⟩
def cFun (C:Cfg) (c:Nat) (st:St) (f:FuncId) (xs:List Operand):Option Upd:=
 match C.orc c f st (evL st xs).1 with
 | some u=>some ⟨(evL st xs).2++u.needs,u.val,u.mem⟩
 | none=>none
theorem zaZ {f:FuncId} (h:FnB P f) (args:Array Value) (w:World):(callFunc f args).run P w = .ok (.enter f args) w:=by
 obtain ⟨fn,h1,h2,h3⟩:=h
 obtain ⟨cd,h4⟩:=Option.isSome_iff_exists.1 h3
 simp [callFunc,h1,h2,h4]
theorem zks {C:Cfg} (hC:zcM P C) (o:Oper) (c:Nat) (f:FuncId) (xs:Array Operand) (ts:Array TypeId) (ho:o.op = .call {callee:= .value (.func f),args:=xs,argTypes:=ts}) {u:Upd} (hu:cFun C c st f xs.toList=some u):Does P base X w0 st o u:=by
 unfold cFun at hu
 split at hu
 case h_2=>simp at hu
 rename_i u2 hc
 simp only [Option.some.injEq] at hu
 subst hu
 obtain ⟨hf,hcall⟩:=hC _ _ _ _ _ hc
 intro E a w K Q h hn hK
 have hd:=zdT h xs.toList (fun p hp=>hn p (List.mem_append_left _ hp))
 have hrun:(execOp a.eval o).run P w = .ok (.enter f (xs.toList.map a.eval).toArray) w:=by
  have e:xs.map a.eval=(xs.toList.map a.eval).toArray:=by rw [← Array.toList_map]
  simp only [execOp,ho,resolve,Act.eval,Deferred.ofValue,Sem.run_bind,Sem.run_pure,Result.andThen,invoke,e]
  simp [zaZ hf]
 unfold Oper.wp
 rw [hrun]
 refine Calls.mono (hcall base X w0 E w _ h.mem hd (fun p hp=>hn p (List.mem_append_right _ hp))) ?_
 rintro e w' ⟨v,E',rfl,h1,h2,h3,h4⟩
 exact hK E' w' v h1 h2 h3 h4
def SV.cap:SV→Bool
 | .rp .. => true
 | s=>s.flat
def cClo (C:Cfg) (c:Nat) (st:St) (x:Operand) (xs:List Operand):Option Upd:=
 match zad (st.ev x) with
 | (.fn f,n)=>match C.orc c f st (evL st xs).1 with
  | some u=>some ⟨n++((evL st xs).2++u.needs),u.val,u.mem⟩
  | none=>none
 | (.clo f cs,n)=>if cs.all SV.cap=true then (match C.orc c f st ((evL st xs).1++cs) with
  | some u=>some ⟨n++((evL st xs).2++u.needs),u.val,u.mem⟩
  | none=>none) else none
 | _=>none
theorem zkw {C:Cfg} (hC:zcM P C) (o:Oper) (c:Nat) (x:Operand) (xs:Array Operand) (ts:Array TypeId) (ho:o.op = .call {callee:= .value x,args:=xs,argTypes:=ts}) {u:Upd} (hu:cClo C c st x xs.toList=some u):Does P base X w0 st o u:=by
 have key:∀ (f:FuncId) (cs:List SV) (u2:Upd) (n:List Prop),C.orc c f st ((evL st xs.toList).1++cs)=some u2→(∀ (E:Env) (a:Act) (w:World),st.Ok base X w0 E a w→(∀ p∈n,p)→∃ vs:List Value,a.eval x = .func (.func f) #[] vs.toArray∧DenL E w cs vs) →
   Does P base X w0 st o ⟨n++((evL st xs.toList).2++u2.needs),u2.val,u2.mem⟩:=by
  intro f cs u2 n hc hx
  obtain ⟨hf,hcall⟩:=hC _ _ _ _ _ hc
  intro E a w K Q h hn hK
  have hd:=zdT h xs.toList (fun p hp=>hn p (List.mem_append_right _ (List.mem_append_left _ hp)))
  obtain ⟨vs,hv,hcs⟩:=hx E a w h (fun p hp=>hn p (List.mem_append_left _ hp))
  have hrun:(execOp a.eval o).run P w = .ok (.enter f (xs.toList.map a.eval++vs).toArray) w:=by
   have e:xs.map a.eval=(xs.toList.map a.eval).toArray:=by rw [← Array.toList_map]
   simp only [execOp,ho,resolve,hv,Deferred.ofValue,Sem.run_bind,Sem.run_pure,Result.andThen,invoke,e]
   simp [zaZ hf]
  unfold Oper.wp
  rw [hrun]
  refine Calls.mono (hcall base X w0 E w _ h.mem (DenL.app hd hcs) (fun p hp=>hn p (List.mem_append_right _ (List.mem_append_right _ hp)))) ?_
  rintro e w' ⟨v,E',rfl,h1,h2,h3,h4⟩
  exact hK E' w' v h1 h2 h3 h4
 unfold cClo at hu
 split at hu
 ·rename_i f n e
  split at hu
  case h_2=>simp at hu
  rename_i u2 hc
  simp only [Option.some.injEq] at hu
  subst hu
  refine key f [] u2 n (by rw [List.append_nil];exact hc) (fun E a w h hn=>?_)
  have:=zac (h.ev x) (fun p hp=>hn p (by rw [e] at hp;exact hp))
  rw [e] at this
  exact ⟨[],this,trivial⟩
 ·rename_i f cs n e
  split at hu
  case isFalse=>simp at hu
  split at hu
  case h_2=>simp at hu
  rename_i hfl _ u2 hc
  simp only [Option.some.injEq] at hu
  subst hu
  refine key f cs u2 n hc (fun E a w h hn=>?_)
  have:=zac (h.ev x) (fun p hp=>hn p (by rw [e] at hp;exact hp))
  rw [e] at this
  exact this
 ·simp at hu
def zfP (P:Program) (st:St) (src dst:TypeId) (x:Operand):Option Upd:=
 match P.underlying src,P.underlying dst,zad (st.ev x) with
 | some (.int _),some (.int k),(.int _ m,n)=>some ⟨n,.int k (k.wrap m),[]⟩
 | some .string,some .string,(.str s,n)=>some ⟨n,.str s,[]⟩
 | _,_,_=>none
theorem ziB (o:Oper) (src dst:TypeId) (x:Operand) (ho:o.op = .convert src dst x) {u:Upd} (hu:zfP P st src dst x=some u):Does P base X w0 st o u:=by
 unfold zfP at hu
 split at hu
 case h_3=>simp at hu
 ·rename_i k1 k k2 m n h1 h2 e
  simp only [Option.some.injEq] at hu
  subst hu
  refine Does.pure fun E a w h hn=>?_
  have hx:=zac (h.ev x) (fun p hp=>hn p (by rw [e] at hp;exact hp))
  rw [e] at hx
  obtain ⟨hx,_⟩:=hx
  exact ⟨.int k (k.wrap m),by simp [execOp,ho,hx,convert,run_underlying h1,run_underlying h2,Conv.intToInt],rfl,wf_wrap _ _⟩
 ·rename_i s n h1 h2 e
  simp only [Option.some.injEq] at hu
  subst hu
  refine Does.pure fun E a w h hn=>?_
  have hx:=zac (h.ev x) (fun p hp=>hn p (by rw [e] at hp;exact hp))
  rw [e] at hx
  obtain ⟨hx,hb⟩:=hx
  exact ⟨.string s,by simp [execOp,ho,hx,convert,run_underlying h1,run_underlying h2],rfl,hb⟩
def cNil (st:St) (x:Operand):Option Upd:=
 match zad (st.ev x) with
 | (.ptr t off,n)=>some ⟨n,.ptr t off,[]⟩
 | (.el ls r i off,n)=>some ⟨n,.el ls r i off,[]⟩
 | (.oel t sz i off,n)=>some ⟨n,.oel t sz i off,[]⟩
 | (.rp ls T cs off,n)=>some ⟨n,.rp ls T cs off,[]⟩
 | _=>none
theorem zkm (o:Oper) (x:Operand) (ho:o.op = .nilCheck x) {u:Upd} (hu:cNil st x=some u):Does P base X w0 st o u:=by
 unfold cNil at hu
 split at hu
 case h_5=>simp at hu
 all_goals
  rename_i e
  simp only [Option.some.injEq] at hu
  subst hu
  refine Does.pure fun E a w h hn=>?_
  have hx:=zac (h.ev x) (fun p hp=>hn p (by rw [e] at hp;exact hp))
  rw [e] at hx
  have hp:∃ ad,a.eval x = .pointer (some ad):=by
   first
    | (obtain ⟨b,_,e2⟩:=hx;exact ⟨_,e2⟩)
    | (obtain ⟨_,b,o2,c2,e2,_⟩:=hx;exact ⟨_,e2⟩)
    | (obtain ⟨b,k,c2,_,e2⟩:=hx;exact ⟨_,e2⟩)
    | (obtain ⟨b,xs,e2,_⟩:=hx;exact ⟨_,e2⟩)
  obtain ⟨ad,e2⟩:=hp
  refine ⟨a.eval x,?_,hx⟩
  simp [execOp,ho,e2]
def core (P:Program) (C:Cfg) (more:Nat→St→TypeId→Op→Option Upd) (c:Nat) (st:St) (ty:TypeId):Op→Option Upd
 | .move x=>some (ze2 st x)
 | .assign x=>some (ze2 st x)
 | .pick a x y=>zix st a x y
 | .box T x=>cBox st c T x
 | .alloc T=>zft P st c T
 | .build T ps=>zfs P st T ps
 | .load T x=>zi2 P st T x
 | .store T x y=>match zdc P st T x y with
  | some u=>some u
  | none=>more c st ty (.store T x y)
 | .fieldAddr T x f=>za7 P st T x f
 | .field T x f=>zfr P st T x f
 | .indexAddr T x i=>zbq P st T x i
 | .extract x i=>zcs st x i
 | .binOp op T x y T2=>match cBin P st op T x y with
  | some u=>some u
  | none=>more c st ty (.binOp op T x y T2)
 | .unOp op _ x=>cUn st op x
 | .convert s d x=>match zfP P st s d x with
  | some u=>some u
  | none=>more c st ty (.convert s d x)
 | .nilCheck x=>cNil st x
 | .call ⟨.value (.func f),xs,ts⟩=>cFun C c st f xs.toList
 | .call ⟨.value (.tmp t),xs,ts⟩=>cClo C c st (.tmp t) xs.toList
 | .call ⟨.builtin .len,⟨[x]⟩,⟨[T]⟩⟩=>cLen P st T x
 | op=>more c st ty op
def zbR (P:Program) (more:Nat→St→TypeId→Op→Option Upd):Prop:=∀ c st (o:Oper) u base X w0,more c st o.type o.op=some u→Does P base X w0 st o u
theorem zkc {C:Cfg} (hC:zcM P C) {more:Nat→St→TypeId→Op→Option Upd} (hM:zbR P more) (o:Oper) (c:Nat) {u:Upd} (hu:core P C more c st o.type o.op=some u):Does P base X w0 st o u:=by
 generalize ho:o.op=op at hu
 unfold core at hu
 split at hu
 ·simp only [Option.some.injEq] at hu;subst hu;exact zfp o _ (.inl ho)
 ·simp only [Option.some.injEq] at hu;subst hu;exact zfp o _ (.inr ho)
 ·exact ziw o _ _ _ ho hu
 ·exact zkx o c _ _ ho hu
 ·exact zht o c _ ho hu
 ·exact zhs o _ _ ho hu
 ·exact zi1 o _ _ ho hu
 ·split at hu
  ·rename_i h2;simp only [Option.some.injEq] at hu;subst hu;exact zhp o _ _ _ ho h2
  ·exact hM c st o u base X w0 (by rw [ho];exact hu)
 ·exact zd2 o _ _ _ ho hu
 ·exact zhr o _ _ _ ho hu
 ·exact zd1 o _ _ _ ho hu
 ·exact ze3 o _ _ ho hu
 ·split at hu
  ·rename_i h2;simp only [Option.some.injEq] at hu;subst hu;exact zky o _ _ _ _ _ ho h2
  ·exact hM c st o u base X w0 (by rw [ho];exact hu)
 ·exact zli o _ _ _ ho hu
 ·split at hu
  ·rename_i h2;simp only [Option.some.injEq] at hu;subst hu;exact ziB o _ _ _ ho h2
  ·exact hM c st o u base X w0 (by rw [ho];exact hu)
 ·exact zkm o _ ho hu
 ·exact zks hC o c _ _ _ ho hu
 ·exact zkw hC o c _ _ _ ho hu
 ·exact zkr o _ _ ho hu
 ·exact hM c st o u base X w0 (by rw [ho];exact hu)
def zbf:Op→Bool
 | .move _=>true
 | .assign _=>true
 | .nilCheck _=>true
 | .fieldAddr _ _ _=>true
 | _=>false
def full (P:Program) (C:Cfg) (more:Nat→St→TypeId→Op→Option Upd) (c:Nat) (st:St) (ty:TypeId) (op:Op):Option Upd:=
 match core P C more c st ty op with
 | some u=>some u
 | none=>bif zbf op then none else more c st ty op
theorem zc9 {C:Cfg} (hC:zcM P C) {more:Nat→St→TypeId→Op→Option Upd} (hM:zbR P more) (o:Oper) (c:Nat) {u:Upd} (hu:full P C more c st o.type o.op=some u):Does P base X w0 st o u:=by
 unfold full at hu
 split at hu
 ·rename_i h;simp only [Option.some.injEq] at hu;subst hu;exact zkc hC hM o c h
 ·cases hm:zbf o.op
  ·rw [hm] at hu;exact hM c st o u base X w0 hu
  ·rw [hm] at hu;cases hu
def zcV (ops:Array Oper) (st:St) (j:Nat) (pol:Bool):Option Bool:=
 match (ops[j]?).bind (·.dst) with
 | some t=>match st.s t with
  | .bool b=>match pol with
   | true=>some b
   | false=>some (!b)
  | .gd g (.bool b)=>match pol with
   | true=>some (g&&b)
   | false=>some (g&&!b)
  | _=>none
 | none=>none
theorem zbL {ops:Array Oper} {E:Env} {a:Act} {w:World} (h:st.Ok base X w0 E a w) {o:Oper} {j:Nat} {pol G:Bool} (hg:o.guard=some (j,pol)) (hG:zcV ops st j pol=some G):Region.wanted o (yielded ops a.tmps)=G:=by
 unfold zcV at hG
 split at hG
 case h_2=>simp at hG
 rename_i t ht
 have hd:=h.tm t
 simp only [Region.wanted,hg,yielded,ht]
 have hsome:∀ b,a.tmps.getD t undef = .bool b→a.tmps[t]? = some (.bool b):=by
  intro b hb
  rw [Array.getD_eq_getD_getElem?] at hb
  cases hq:a.tmps[t]? with
  | none=>rw [hq] at hb;simp [undef] at hb
  | some x=>rw [hq] at hb;simpa using hb
 split at hG
 case h_3=>simp at hG
 ·rename_i b e
  have hG:some (if pol then b else !b)=some G:=by cases pol<;>exact hG
  simp only [Option.some.injEq] at hG
  rw [e] at hd
  have:=hsome b hd
  simp only [Option.bind_some,this,← hG]
  cases pol<;>cases b<;>rfl
 ·rename_i g b e
  have hG:some (g&&(if pol then b else !b))=some G:=by cases pol<;>exact hG
  simp only [Option.some.injEq] at hG
  rw [e] at hd
  cases g
  ·have hu:a.tmps.getD t undef=undef:=hd.2 rfl
   have:(a.tmps[t]? = none∨a.tmps[t]? = some undef):=by
    rw [Array.getD_eq_getD_getElem?] at hu
    cases hq:a.tmps[t]? with
    | none=>exact .inl rfl
    | some x=>rw [hq] at hu;right;simpa using hu
   rcases this with h1 | h1<;>simp [Option.bind_some,h1,← hG,undef]
  ·have hb:a.tmps.getD t undef = .bool b:=hd.1 rfl
   have:=hsome b hb
   simp only [Option.bind_some,this,← hG]
   cases pol<;>cases b<;>rfl
def zcb:List (Nat×BE)→Bool
 | []=>true
 | (_,.dead)::r=>zcb r
 | _=>false
def zkU (c:Nat) (G fr:Bool) (u:Upd):Option Upd:=
 match u.val,u.mem with
 | .own t,[(t2,.row T ls r)]=>if fr=true∧t=c∧t2=c then some ⟨(G=true→r.len≤17592186044416)::u.needs.map (fun p=>G=true→p),.gd G (.sl (c::ls) r),[(c,.dead)]⟩ else none
 | _,_=>none
def wid:Op→Nat
 | .call ⟨.value _,_,_⟩=>24
 | _=>1
def zaN (l:List (Nat×BE)):List (Nat×BE):=l.map fun p=>(p.1,.dead)
theorem zaQ:∀ l:List (Nat×BE),zcb (zaN l)=true
 | []=>rfl
 | (t,e)::r=>zaQ r
theorem zbg:∀ (l:List (Nat×BE)) (m:Nat→BE) (u:Nat),putF (zaN l) m u=if u∈l.map (·.1) then .dead else m u
 | [],m,u=>by simp [zaN,putF]
 | (t,e)::r,m,u=>by
  show (if u=t then BE.dead else putF (zaN r) m u)=_
  rw [zbg r m u]
  by_cases h:u=t
  ·subst h;rw [if_pos rfl,List.map_cons,if_pos (List.mem_cons_self ..)]
  ·rw [if_neg h,List.map_cons]
   by_cases g:u∈r.map (·.1)
   ·rw [if_pos g,if_pos (List.mem_cons_of_mem _ g)]
   ·rw [if_neg g,if_neg fun x=>by
     rcases List.mem_cons.1 x with x | x
     ·exact h x
     ·exact g x]
theorem zek:∀ (l:List (Nat×BE)) (m:Nat→BE) (u:Nat),u∉l.map (·.1)→putF l m u=m u
 | [],m,u,_=>rfl
 | (t,e)::r,m,u,h=>by
  simp only [List.map_cons,List.mem_cons,not_or] at h
  show (if u=t then e else putF r m u)=m u
  rw [if_neg h.1,zek r m u h.2]
theorem zeQ:∀ (l:List (Nat×BE)) (m:Nat→BE) (u:Nat) (x:BE),zah .empty l u=x→x ≠ .empty→putF l m u=x∧u∈l.map (·.1)
 | [],m,u,x,h,hx=>absurd h.symm hx
 | (t,e)::r,m,u,x,h,hx=>by
  rw [zaq] at h
  show (if u=t then e else putF r m u)=x∧_
  by_cases g:u=t
  ·rw [if_pos g] at h ⊢;exact ⟨h,by simp [g]⟩
  ·rw [if_neg g] at h ⊢
   have:=zeQ r m u x h hx
   exact ⟨this.1,List.mem_cons_of_mem _ this.2⟩
def ziU (G:Bool) (fl:List Nat) (u:Upd):Option Upd:=
 match u.val with
 | .own t=>match fl.contains t,zah .empty u.mem t with
  | true,.row T ls r=>some ⟨(G=true→r.len≤17592186044416)::u.needs.map (fun p=>G=true→p),.gd G (.sl (t::ls) r),zaN u.mem⟩
  | _,_=>none
 | v=>some ⟨u.needs.map (fun p=>G=true→p),.gd G v,zaN u.mem⟩
def orG (a b:Option Upd):Option Upd:=match a with
 | some u=>some u
 | none=>b
theorem zhQ {a b:Option Upd} {u:Upd} (h:orG a b=some u):a=some u∨b=some u:=by
 cases a with
 | none=>exact .inr h
 | some x=>exact .inl h
def blkG:Nat→Nat→(Nat→Bool)→List Nat
 | 0,_,_=>[]
 | n+1,c,f=>if f c then c::blkG n (c+1) f else blkG n (c+1) f
theorem ze5:∀ {n c:Nat} {f:Nat→Bool} {t:Nat},t∈blkG n c f→f t=true
 | 0,_,_,_,h=>by cases h
 | n+1,c,f,t,h=>by
  unfold blkG at h
  split at h
  ·rename_i hf
   rcases List.mem_cons.1 h with h | h
   ·rw [h];exact hf
   ·exact ze5 h
  ·exact ze5 h
theorem zdf:∀ {n c:Nat} {f g:Nat→Bool},(∀ t,c≤t→t<c+n→f t=g t)→blkG n c f=blkG n c g
 | 0,_,_,_,_=>rfl
 | n+1,c,f,g,h=>by
  unfold blkG
  rw [h c (Nat.le_refl _) (by omega),zdf (n:=n) (c:=c+1) (f:=f) (g:=g) fun t h1 h2=>h t (by omega) (by omega)]
def zbr (P:Program) (C:Cfg) (more:Nat→St→TypeId→Op→Option Upd) (ops:Array Oper) (c:Nat) (o:Oper) (st:St):Option Upd:=
 match o.guard with
 | none=>full P C more c st o.type o.op
 | some (j,pol)=>match zcV ops st j pol with
  | none=>none
  | some G=>match full P C more c st o.type o.op with
   | some u=>if zcb u.mem then some ⟨u.needs.map (fun p=>G=true→p),.gd G u.val,u.mem⟩ else orG (zkU c G (st.free c) u) (ziU G (blkG (wid o.op) c st.free) u)
   | none=>none
theorem MemOk.deads {E:Env} {w:World}:∀ (l:List (Nat×BE)) (m:Nat→BE),zcb l=true→MemOk base X w0 E m w→MemOk base X w0 E (putF l m) w
 | [],_,_,h=>h
 | (t,e)::r,m,hl,h=>by
  cases e<;>simp only [zcb,Bool.false_eq_true] at hl
  rw [zdE]
  exact (MemOk.deads r m hl h).kill t
theorem MemOk.freeze1 {E:Env} {w:World} {m:Nat→BE} (h:MemOk base X w0 E m w) {t:Nat} (hl:(m t).live=true) (htnl:X.nl≤t) :
  ∃ E',E.Le E'∧(∀ b,Has E m t b→E'.σ t b)∧MemOk base X w0 E' (putF [(t,.dead)] m) w:=by
 have hm:∀ u,putF [(t,.dead)] m u=if u=t then .dead else m u:=fun u=>rfl
 have hne:m t ≠ .empty:=by intro e;rw [e] at hl;cases hl
 refine ⟨⟨E.β,fun i b=>E.σ i b∨(i=t∧Has E m t b),E.φ⟩,⟨fun _ _ x=>x,fun _ _ x=> .inl x⟩,fun b hb=> .inr ⟨rfl,hb⟩,?_⟩
 have hhas:∀ u b,Has (⟨E.β,fun i b=>E.σ i b∨(i=t∧Has E m t b),E.φ⟩:Env) (putF [(t,.dead)] m) u b→Has E m u b∧u≠t:=by
  intro u b ⟨g1,g2⟩
  rw [hm] at g1 g2
  by_cases hu:u=t
  ·rw [if_pos hu] at g1;cases g1
  ·rw [if_neg hu] at g1 g2;exact ⟨⟨g1,g2⟩,hu⟩
 refine h.go ⟨fun _ _ x=>x,fun _ _ x=> .inl x⟩ Same.rfl' (fun u=>u=t) (fun u hu=>⟨by rw [hm,if_neg hu],rfl,rfl⟩)
  (fun u hu he b hb=>hb.elim ((h.empty u he).2 b) (fun g=>hu g.1)) (fun _ _ _ _=>rfl) (fun u hu=>?_) (fun i b hb=>?_) (fun i j b hi hj=>?_) (fun u b hb=>?_) (fun i b hi hb=>?_) (fun u v b h1 h2=>?_) (BelowX.refl _ _ _)
 ·have:putF [(t,.dead)] m u = .dead:=by rw [hm,if_pos hu]
  rw [this]
  exact ⟨by simp,fun g=>by cases g⟩
 ·rcases hb with hb | ⟨rfl,hb⟩
  ·exact h.lab i b hb
  ·exact ⟨h.lt hb,fun _=>(h.sep i b hb).2⟩
 ·rcases hi with hi | ⟨rfl,hi⟩<;>rcases hj with hj | ⟨rfl,hj⟩
  ·exact h.dis i j b hi hj
  ·exact absurd ⟨i,hi⟩ (h.sep j b hj).1
  ·exact absurd ⟨j,hj⟩ (h.sep i b hi).1
  ·rfl
 ·obtain ⟨h1,h2⟩:=hhas u b hb
  refine ⟨fun ⟨i,hi⟩=>?_,(h.sep u b h1).2⟩
  rcases hi with hi | ⟨rfl,hi⟩
  ·exact (h.sep u b h1).1 ⟨i,hi⟩
  ·exact h2 (h.inj u i b h1 hi)
 ·rcases hb with hb | ⟨rfl,hb⟩
  ·exact h.old i b hi hb
  ·omega
 ·exact h.inj u v b (hhas u b h1).1 (hhas v b h2).1
theorem zcy {C:Cfg} (hC:zcM P C) {more:Nat→St→TypeId→Op→Option Upd} (hM:zbR P more) {ops:Array Oper} {c:Nat} {o:Oper} {u:Upd} (hu:zbr P C more ops c o st=some u)
  {E:Env} {a:Act} {w:World} {K:Act→World→Prop} {Q:Exit→Act→World→Prop} (h:st.Ok base X w0 E a w) (hn:∀ p∈u.needs,p) (hK:∀ E' a' w',(st.app o.dst u).Ok base X w0 E' a' w'→K a' w') :
  if Region.wanted o (yielded ops a.tmps) then o.wp P a w K Q else K (a.put o.dst undef) w:=by
 unfold zbr at hu
 split at hu
 ·rename_i hg
  rw [if_pos (by simp [Region.wanted,hg])]
  exact zc9 hC hM o c hu E a w K Q h hn (fun E' w' v h1 h2 h3 h4=>hK E' _ _ (h.next h1 h2 h3 h4))
 ·rename_i j pol hg
  split at hu
  case h_1=>simp at hu
  rename_i G hG
  split at hu
  case h_2=>simp at hu
  rename_i u2 hc
  split at hu
  case isFalse=>
   rcases zhQ hu with hu | hu
   case inr=>
    have hkk:zaN u2.mem=zaN u2.mem:=rfl
    have hput:∀ m:Nat→BE,putF (zaN u2.mem) (putF u2.mem m)=putF (zaN u2.mem) m:=fun m=>by
     funext x
     rw [zbg,zbg]
     by_cases hx:x∈u2.mem.map (·.1)
     ·rw [if_pos hx,if_pos hx]
     ·rw [if_neg hx,if_neg hx,zek _ _ _ hx]
    have plain:∀ s,u2.val=s→u=⟨u2.needs.map (fun p=>G=true→p),.gd G s,zaN u2.mem⟩→(if Region.wanted o (yielded ops a.tmps) then o.wp P a w K Q else K (a.put o.dst undef) w):=by
     intro s hs hu3
     subst hs
     subst hu3
     rw [zbL h hg hG]
     cases G
     ·rw [if_neg (by simp)]
      refine hK E _ _ (h.next (u:=⟨_,.gd false u2.val,zaN u2.mem⟩) (Env.Le.refl E) Same.rfl' (v:=undef) ⟨fun e=>(by cases e),fun _=>rfl⟩ ?_)
      exact h.mem.deads (zaN u2.mem) st.m (zaQ _)
     ·rw [if_pos rfl]
      refine zc9 hC hM o c hc E a w K Q h (fun p hp=>hn (true=true→p) (List.mem_map.2 ⟨p,hp,rfl⟩) rfl) (fun E' w' v h1 h2 h3 h4=>hK E' _ _ (h.next h1 h2 (u:=⟨_,.gd true u2.val,zaN u2.mem⟩) ⟨fun _=>h3,fun e=>(by cases e)⟩ ?_))
      have:=h4.deads (zaN u2.mem) _ (zaQ _)
      rwa [hput] at this
    unfold ziU at hu
    split at hu
    case h_2=>
     rename_i s hs
     exact plain _ rfl (Option.some.inj hu).symm
    rename_i t ev
    split at hu
    case h_2=>simp at hu
    rename_i T ls r hfl hlk
    simp only [Option.some.injEq] at hu
    subst hu
    have htf:st.free t=true:=by
     have hm:t∈blkG (wid o.op) c st.free:=by simpa using hfl
     exact ze5 hm
    have hcE:st.m t = .empty:=St.of_free htf
    rw [zbL h hg hG]
    cases G
    ·rw [if_neg (by simp)]
     refine hK E _ _ (h.next (u:=⟨_,.gd false (.sl (t::ls) r),zaN u2.mem⟩) (Env.Le.refl E) Same.rfl' (v:=undef) ⟨fun e=>(by cases e),fun _=>rfl⟩ ?_)
     exact h.mem.deads (zaN u2.mem) st.m (zaQ _)
    ·rw [if_pos rfl]
     refine zc9 hC hM o c hc E a w K Q h (fun p hp=>hn (true=true→p) (List.mem_cons_of_mem _ (List.mem_map.2 ⟨p,hp,rfl⟩)) rfl) (fun E' w' v h1 h2 h3 h4=>?_)
     rw [ev] at h3
     obtain ⟨hrow,hkey⟩:=zeQ u2.mem st.m t _ hlk (by simp)
     have hlive:(putF u2.mem st.m t).live=true:=by rw [hrow];rfl
     have htnl:X.nl≤t:=by
      rcases Nat.lt_or_ge t X.nl with hlt | hge
      ·exact absurd hcE (h.mem.low t hlt)
      ·exact hge
     obtain ⟨E2,hE2,hσ,hM2⟩:=h4.freeze1 hlive htnl
     have hM3:=hM2.deads (zaN u2.mem) _ (zaQ _)
     have e2:putF (zaN u2.mem) (putF [(t,.dead)] (putF u2.mem st.m))=putF (zaN u2.mem) st.m:=by
      funext x
      rw [zbg,zbg]
      by_cases hx:x∈u2.mem.map (·.1)
      ·rw [if_pos hx,if_pos hx]
      ·rw [if_neg hx,if_neg hx]
       have hxt:x≠t:=fun e=>hx (e▸hkey)
       show (if x=t then BE.dead else putF u2.mem st.m x)=st.m x
       rw [if_neg hxt,zek _ _ _ hx]
     rw [e2] at hM3
     obtain ⟨v2,hβ,hO⟩:=h4.row t T ls r hrow
     have hx1:=h3.1
     rw [hβ] at hx1
     simp only [Option.some.injEq] at hx1
     subst hx1
     have g3:r.len≤17592186044416:=hn _ (List.mem_cons_self ..) rfl
     obtain ⟨ad,cc,hv,hsl⟩:=hO.slO (E2.set (t::ls)) (fun b ⟨i,hi,hs⟩=>⟨i,List.mem_cons_of_mem _ hi,hE2.σ i b hs⟩) (fun b _ hb=>⟨t,List.mem_cons_self ..,hσ b (Has.row hrow hβ (by
      obtain ⟨a5,c5,e5⟩:=hO.form
      rw [← zan ⟨a5,_,c5,e5⟩];exact hb))⟩) (by rw [r.rows_len];exact g3)
     refine hK E2 _ _ (h.next (h1.trans hE2) h2 (u:=⟨_,.gd true (.sl (t::ls) r),zaN u2.mem⟩) ⟨fun _=>?_,fun e=>(by cases e)⟩ hM3)
     rw [hv];exact hsl
   unfold zkU at hu
   split at hu
   case h_2=>simp at hu
   rename_i t t2 T ls r ev em
   split at hu
   case isFalse=>simp at hu
   rename_i hcond
   obtain ⟨hfr,rfl,rfl⟩:=hcond
   simp only [Option.some.injEq] at hu
   subst hu
   have hcE:st.m t2 = .empty:=St.of_free hfr
   rw [zbL h hg hG]
   cases G
   ·rw [if_neg (by simp)]
    refine hK E _ _ (h.next (u:=⟨_,.gd false (.sl (t2::ls) r),[(t2,.dead)]⟩) (Env.Le.refl E) Same.rfl' (v:=undef) ⟨fun e=>(by cases e),fun _=>rfl⟩ ?_)
    exact h.mem.deads [(t2,.dead)] st.m rfl
   ·rw [if_pos rfl]
    refine zc9 hC hM o t2 hc E a w K Q h (fun p hp=>hn (true=true→p) (List.mem_cons_of_mem _ (List.mem_map.2 ⟨p,hp,rfl⟩)) rfl) (fun E' w' v h1 h2 h3 h4=>?_)
    rw [em] at h4
    rw [ev] at h3
    have hrow:putF [(t2,.row T ls r)] st.m t2 = .row T ls r:=by show (if t2=t2 then _ else _)=_;rw [if_pos rfl]
    have hlive:(putF [(t2,.row T ls r)] st.m t2).live=true:=by rw [hrow];rfl
    have htnl:X.nl≤t2:=by
     rcases Nat.lt_or_ge t2 X.nl with hlt | hge
     ·exact absurd hcE (h.mem.low t2 hlt)
     ·exact hge
    obtain ⟨E2,hE2,hσ,hM2⟩:=h4.freeze1 hlive htnl
    have e2:putF [(t2,.dead)] (putF [(t2,.row T ls r)] st.m)=putF [(t2,.dead)] st.m:=by
     funext u
     show (if u=t2 then _ else if u=t2 then _ else _)=(if u=t2 then _ else _)
     by_cases hu:u=t2
     ·rw [if_pos hu,if_pos hu]
     ·rw [if_neg hu,if_neg hu,if_neg hu]
    rw [e2] at hM2
    obtain ⟨v2,hβ,hO⟩:=h4.row t2 T ls r hrow
    have hx1:=h3.1
    rw [hβ] at hx1
    simp only [Option.some.injEq] at hx1
    subst hx1
    have g3:r.len≤17592186044416:=hn _ (List.mem_cons_self ..) rfl
    obtain ⟨ad,cc,hv,hsl⟩:=hO.slO (E2.set (t2::ls)) (fun b ⟨i,hi,hs⟩=>⟨i,List.mem_cons_of_mem _ hi,hE2.σ i b hs⟩) (fun b _ hb=>⟨t2,List.mem_cons_self ..,hσ b (Has.row hrow hβ (by
     obtain ⟨a5,c5,e5⟩:=hO.form
     rw [← zan ⟨a5,_,c5,e5⟩];exact hb))⟩) (by rw [r.rows_len];exact g3)
    refine hK E2 _ _ (h.next (h1.trans hE2) h2 (u:=⟨_,.gd true (.sl (t2::ls) r),[(t2,.dead)]⟩) ⟨fun _=>?_,fun e=>(by cases e)⟩ hM2)
    rw [hv];exact hsl
  rename_i hd
  simp only [Option.some.injEq] at hu
  subst hu
  rw [zbL h hg hG]
  cases G
  ·rw [if_neg (by simp)]
   refine hK E _ _ (h.next (u:=⟨_,.gd false u2.val,u2.mem⟩) (Env.Le.refl E) Same.rfl' (v:=undef) ⟨fun e=>(by cases e),fun _=>rfl⟩ ?_)
   exact h.mem.deads u2.mem st.m hd
  ·rw [if_pos rfl]
   refine zc9 hC hM o c hc E a w K Q h (fun p hp=>hn (true=true→p) (List.mem_map.2 ⟨p,hp,rfl⟩) rfl) (fun E' w' v h1 h2 h3 h4=>hK E' _ _ (h.next h1 h2 (u:=⟨_,.gd true u2.val,u2.mem⟩) ⟨fun _=>h3,fun e=>(by cases e)⟩ h4))
inductive RO
 | ok (st:St) (n:List Prop)
 | bad (c:Nat) (o:Op) (st:St)
def zb7 (P:Program) (C:Cfg) (more:Nat→St→TypeId→Op→Option Upd) (ops:Array Oper):Nat→List Oper→St→RO
 | _,[],st=> .ok st []
 | c,o::r,st=>match zbr P C more ops c o st with
  | some u=>match zb7 P C more ops (c+wid o.op) r (st.app o.dst u) with
   | .ok st2 n=> .ok st2 (u.needs++n)
   | .bad c o s=> .bad c o s
  | none=> .bad c o.op st
theorem zd9 {C:Cfg} (hC:zcM P C) {more:Nat→St→TypeId→Op→Option Upd} (hM:zbR P more) {ops:Array Oper} {Q:Exit→Act→World→Prop}:∀ (l:List Oper) (c:Nat) (st st2:St) (n:List Prop),zb7 P C more ops c l st = .ok st2 n→(∀ p∈n,p) →
  (∀ E' a' w',st2.Ok base X w0 E' a' w'→Q .normal a' w')→∀ (E:Env) (a:Act) (w:World),st.Ok base X w0 E a w→wpList P ops Q l a w
 | [],c,st,st2,n,hr,hn,hQ,E,a,w,h=>by
  simp only [zb7,RO.ok.injEq] at hr
  obtain ⟨rfl,rfl⟩:=hr
  exact wpList_nil (hQ E a w h)
 | o::l,c,st,st2,n,hr,hn,hQ,E,a,w,h=>by
  simp only [zb7] at hr
  split at hr
  case h_2=>simp at hr
  rename_i u hu
  split at hr
  case h_2=>simp at hr
  rename_i st3 n3 h3
  simp only [RO.ok.injEq] at hr
  obtain ⟨rfl,rfl⟩:=hr
  refine wpList_step fun K hK=>?_
  exact zcy hC hM hu h (fun p hp=>hn p (List.mem_append_left _ hp)) (fun E' a' w' h'=>hK a' w' (zd9 hC hM l (c+wid o.op) _ _ _ h3 (fun p hp=>hn p (List.mem_append_right _ hp)) hQ E' a' w' h'))
def St.grow (st:St) (n:Nat):St:={st with nx:=st.nx+n}
theorem St.Ok.grow {E:Env} {a:Act} {w:World} (h:st.Ok base X w0 E a w) (n:Nat):(st.grow n).Ok base X w0 E a w:=⟨h.defers,h.size,h.tm,h.mem⟩
def widS:List Oper→Nat
 | []=>0
 | o::r=>wid o.op+widS r
end ops
end Go.Proofs.Ytjfphnegcelbpaa
namespace Go.Proofs.Ytjfphnegcelbpaa
open Go.RowKit Go.ChangeShapes Go.WideShapes Go.Deep
inductive Key
 | t (n:Nat)
 | m (n:Nat)
 deriving DecidableEq
inductive KV
 | v (s:SV)
 | e (b:BE)
def St.get (st:St):Key→KV
 | .t n=> .v (st.s n)
 | .m n=> .e (st.m n)
def wrs (dst:Option Tmp) (u:Upd):List Key:=(match dst with | some d=>[Key.t d] | none=>[])++u.mem.map (fun p=>Key.m p.1)
def Key.has:List Key→Key→Bool
 | [],_=>false
 | .t a::r,.t b=>b==a||Key.has r (.t b)
 | .m a::r,.m b=>b==a||Key.has r (.m b)
 | _::r,k=>Key.has r k
theorem Key.has_iff:∀ (l:List Key) (k:Key),Key.has l k=true↔k∈l
 | [],k=>by simp [Key.has]
 | a::r,k=>by
  cases a<;>cases k<;>simp [Key.has,Key.has_iff r]
def Key.apart (a b:List Key):Bool:=a.all fun k=>!Key.has b k
theorem Key.apart_ok {a b:List Key} (h:Key.apart a b=true) {k:Key} (ha:k∈a):k∉b:=by
 intro hb
 have:=List.all_eq_true.1 h k ha
 rw [(Key.has_iff b k).2 hb] at this
 simp at this
theorem zgs:∀ (l:List (Nat×BE)) (m:Nat→BE) (t:Nat),t∉l.map (·.1)→putF l m t=m t
 | [],_,_,_=>rfl
 | (k,e)::r,m,t,h=>by
  simp only [List.map_cons,List.mem_cons,not_or] at h
  show (if t=k then e else putF r m t)=m t
  rw [if_neg h.1,zgs r m t h.2]
theorem zc3:∀ (l:List (Nat×BE)) (m m2:Nat→BE) (t:Nat),t∈l.map (·.1)→putF l m t=putF l m2 t
 | [],_,_,_,h=>by simp at h
 | (k,e)::r,m,m2,t,h=>by
  show (if t=k then e else putF r m t)=(if t=k then e else putF r m2 t)
  by_cases hk:t=k
  ·rw [if_pos hk,if_pos hk]
  ·rw [if_neg hk,if_neg hk]
   simp only [List.map_cons,List.mem_cons] at h
   exact zc3 r m m2 t (h.resolve_left hk)
theorem St.app_ne {st:St} {dst:Option Tmp} {u:Upd} {k:Key} (h:k∉wrs dst u):(st.app dst u).get k=st.get k:=by
 simp only [wrs,List.mem_append,not_or] at h
 cases k with
 | t n=>
  cases dst with
  | none=>rfl
  | some d=>
   have hne:¬ n=d:=by intro e;exact h.1 (by simp [e])
   show KV.v ((st.app (some d) u).s n)=_
   rw [St.app_s,if_neg hne];rfl
 | m n=>
  show KV.e ((st.app dst u).m n)=_
  rw [St.app_m,zgs _ _ _ (fun hm=>h.2 ?_)];rfl
  obtain ⟨p,hp,e⟩:=List.mem_map.1 hm
  exact List.mem_map.2 ⟨p,hp,by rw [e]⟩
structure Like (a b:St):Prop where
 tm:a.nt=b.nt
 mm:a.nx=b.nx
theorem St.app_in {a b:St} (hl:Like a b) {dst:Option Tmp} {u:Upd} {k:Key} (h:k∈wrs dst u):(a.app dst u).get k=(b.app dst u).get k:=by
 simp only [wrs,List.mem_append] at h
 cases k with
 | t n=>
  rcases h with h | h
  ·cases dst with
   | none=>simp at h
   | some d=>
    simp at h
    subst h
    show KV.v ((a.app (some n) u).s n)=KV.v ((b.app (some n) u).s n)
    rw [St.app_s,St.app_s,hl.tm];simp
  ·simp at h
 | m n=>
  rcases h with h | h
  ·cases dst<;>simp at h
  ·obtain ⟨p,hp,e⟩:=List.mem_map.1 h
   simp only [Key.m.injEq] at e
   show KV.e ((a.app dst u).m n)=KV.e ((b.app dst u).m n)
   rw [St.app_m,St.app_m,zc3 _ a.m b.m n (List.mem_map.2 ⟨p,hp,e⟩)]
theorem St.app_like (st:St) (dst:Option Tmp) (u:Upd):Like (st.app dst u) st:=⟨rfl,rfl⟩
theorem Like.trans {a b c:St} (h:Like a b) (k:Like b c):Like a c:=⟨h.tm.trans k.tm,h.mm.trans k.mm⟩
theorem Like.symm {a b:St} (h:Like a b):Like b a:=⟨h.tm.symm,h.mm.symm⟩
def apl (D:Nat→Bool):Nat→List (Option Tmp×Upd)→St→St
 | _,[],st=>st
 | i,(dst,u)::r,st=>apl D (i+1) r (if D i then st.app dst u else st)
theorem zbQ (D:Nat→Bool):∀ (i:Nat) (l:List (Option Tmp×Upd)) (st:St),Like (apl D i l st) st
 | _,[],st=>⟨rfl,rfl⟩
 | i,(dst,u)::r,st=>by
  rw [apl]
  refine (zbQ D (i+1) r _).trans ?_
  split
  ·exact St.app_like st dst u
  ·exact ⟨rfl,rfl⟩
def Wr (l:List (Option Tmp×Upd)) (i:Nat) (k:Key):Prop:=∃ d u,l[i]? = some (d,u)∧k∈wrs d u
theorem zcK {D D':Nat→Bool} {k:Key}:∀ (i:Nat) (l:List (Option Tmp×Upd)) (st st':St),Like st st'→st.get k=st'.get k→(∀ j,Wr l j k→D (i+j)=D' (i+j))→(apl D i l st).get k=(apl D' i l st').get k
 | _,[],st,st',_,h,_=>h
 | i,(dst,u)::r,st,st',hl,h,hD=>by
  rw [apl,apl]
  refine zcK (i+1) r _ _ ?_ ?_ (fun j hj=>?_)
  ·by_cases h1:D i=true
   ·by_cases h2:D' i=true
    ·rw [if_pos h1,if_pos h2];exact ((St.app_like st dst u).trans hl).trans (St.app_like st' dst u).symm
    ·rw [if_pos h1,if_neg h2];exact (St.app_like st dst u).trans hl
   ·by_cases h2:D' i=true
    ·rw [if_neg h1,if_pos h2];exact hl.trans (St.app_like st' dst u).symm
    ·rw [if_neg h1,if_neg h2];exact hl
  ·by_cases hk:k∈wrs dst u
   ·have:=hD 0 ⟨dst,u,rfl,hk⟩
    rw [Nat.add_zero] at this
    rw [this]
    by_cases h1:D' i=true
    ·rw [if_pos h1,if_pos h1];exact St.app_in hl hk
    ·rw [if_neg h1,if_neg h1];exact h
   ·have e1:(if D i=true then st.app dst u else st).get k=st.get k:=by split;exact St.app_ne hk;rfl
    have e2:(if D' i=true then st'.app dst u else st').get k=st'.get k:=by split;exact St.app_ne hk;rfl
    rw [e1,e2,h]
  ·obtain ⟨d,v,h1,h2⟩:=hj
   have:=hD (j+1) ⟨d,v,by simpa using h1,h2⟩
   rwa [show i+(j+1)=i+1+j by omega] at this
theorem zfu {D:Nat→Bool} {k:Key}:∀ (i:Nat) (l:List (Option Tmp×Upd)) (st s2:St) (j:Nat) (d:Option Tmp) (u:Upd),l[j]? = some (d,u)→k∈wrs d u→D (i+j)=true→(∀ n,j<n→Wr l n k→D (i+n)=false)→Like st s2 →
  (apl D i l st).get k=(s2.app d u).get k
 | _,[],_,_,j,_,_,h,_,_,_,_=>by simp at h
 | i,(dst,v)::r,st,s2,0,d,u,h,hk,hD,hn,hl=>by
  simp only [List.getElem?_cons_zero,Option.some.injEq,Prod.mk.injEq] at h
  obtain ⟨rfl,rfl⟩:=h
  rw [Nat.add_zero] at hD
  rw [apl,if_pos hD]
  have:(apl D (i+1) r (st.app dst v)).get k=(apl (fun _=>false) (i+1) r (st.app dst v)).get k:=by
   refine zcK _ _ _ _ ⟨rfl,rfl⟩ rfl (fun n hw=>?_)
   obtain ⟨d,u,h1,h2⟩:=hw
   have:=hn (n+1) (by omega) ⟨d,u,by simpa using h1,h2⟩
   rwa [show i+(n+1)=i+1+n by omega] at this
  rw [this]
  have e:∀ (l:List (Option Tmp×Upd)) (i:Nat) (s:St),apl (fun _=>false) i l s=s:=by
   intro l
   induction l with
   | nil=>intro i s;rfl
   | cons x l ih=>intro i s;obtain ⟨a,b⟩:=x;rw [apl];exact ih (i+1) s
  rw [e]
  exact St.app_in hl hk
 | i,(dst,v)::r,st,s2,j+1,d,u,h,hk,hD,hn,hl=>by
  rw [apl]
  refine zfu (i+1) r _ s2 j d u (by simpa using h) hk (by rw [show i+1+j=i+(j+1) by omega];exact hD) (fun n hjn hw=>?_) ?_
  ·obtain ⟨d2,u2,h1,h2⟩:=hw
   have:=hn (n+1) (by omega) ⟨d2,u2,by simpa using h1,h2⟩
   rwa [show i+(n+1)=i+1+n by omega] at this
  ·split
   ·exact (St.app_like st dst v).trans hl
   ·exact hl
theorem zhx:∀ (i:Nat) (l:List (Option Tmp×Upd)) (st:St) (D:Nat→Bool),(∀ j,j<l.length→D (i+j)=true)→apl D i l st=apl (fun _=>true) i l st
 | _,[],_,_,_=>rfl
 | i,(d,u)::r,st,D,h=>by
  have h0:=h 0 (by simp)
  rw [Nat.add_zero] at h0
  rw [apl,apl,if_pos h0,if_pos rfl]
  exact zhx (i+1) r _ D (fun j hj=>by have:=h (j+1) (by simpa using hj);rwa [show i+(j+1)=i+1+j by omega] at this)
theorem zct:∀ (i:Nat) (l:List (Option Tmp×Upd)) (st:St) (D:Nat→Bool),(∀ j,j<l.length→D (i+j)=false)→apl D i l st=st
 | _,[],_,_,_=>rfl
 | i,(d,u)::r,st,D,h=>by
  have h0:=h 0 (by simp)
  rw [Nat.add_zero] at h0
  rw [apl,if_neg (by rw [h0];simp)]
  exact zct (i+1) r _ D (fun j hj=>by have:=h (j+1) (by simpa using hj);rwa [show i+(j+1)=i+1+j by omega] at this)
section
variable {base : Nat} {X : Cx} {w0 : World}
theorem St.Ok.congr {a b:St} (hl:Like a b) (h:∀ k,a.get k=b.get k) {E:Env} {ac:Act} {w:World} (ho:a.Ok base X w0 E ac w):b.Ok base X w0 E ac w:=by
 have hm:a.m=b.m:=by funext t;have:=h (.m t);simpa [St.get] using this
 refine ⟨ho.defers,by rw [← hl.tm];exact ho.size,fun i=>?_,by rw [← hm];exact ho.mem⟩
 have:=h (.t i)
 simp only [St.get,KV.v.injEq] at this
 rw [← this];exact ho.tm i
end
def ancs:List Oper→List Nat→List Nat
 | [],acc=>acc
 | o::r,acc=>ancs r (acc++[o.after.toList.foldl (fun s e=>if Region.binds .any e then s ||| 2 ^ e.on ||| acc.getD e.on 0 else s) 0])
def zh0 (ops:List Oper) (D:Nat→Bool):Prop:=∀ i o,ops[i]? = some o→D i=true→∀ e∈o.after.toList,Region.binds .any e=true→D e.on=true
theorem zfv {D:Nat→Bool} {acc:List Nat} (hacc:∀ j i,(acc.getD j 0).testBit i=true→D j=true→D i=true):∀ (es:List Edge) (s:Nat),(∀ e∈es,Region.binds .any e=true→D e.on=true)→(∀ i,s.testBit i=true→D i=true) →
  ∀ i,(es.foldl (fun s e=>if Region.binds .any e then s ||| 2 ^ e.on ||| acc.getD e.on 0 else s) s).testBit i=true→D i=true
 | [],s,_,hs,i,h=>hs i h
 | e::es,s,he,hs,i,h=>by
  simp only [List.foldl_cons] at h
  refine zfv hacc es _ (fun e' h'=>he e' (List.mem_cons_of_mem _ h')) (fun i hi=>?_) i h
  split at hi
  ·rename_i hb
   simp only [Nat.testBit_or,Bool.or_eq_true] at hi
   rcases hi with (hi | hi) | hi
   ·exact hs i hi
   ·rw [Nat.testBit_two_pow] at hi
    have:e.on=i:=by simpa using hi
    rw [← this];exact he e (List.mem_cons_self ..) hb
   ·exact hacc _ i hi (he e (List.mem_cons_self ..) hb)
  ·exact hs i hi
theorem ze6 {D:Nat→Bool}:∀ (l:List Oper) (acc:List Nat),(∀ i o,l[i]? = some o→D (acc.length+i)=true→∀ e∈o.after.toList,Region.binds .any e=true→D e.on=true) →
  (∀ j i,(acc.getD j 0).testBit i=true→D j=true→D i=true)→∀ j i,((ancs l acc).getD j 0).testBit i=true→D j=true→D i=true
 | [],acc,_,h,j,i,hb,hj=>h j i hb hj
 | o::r,acc,hl,h,j,i,hb,hj=>by
  rw [ancs] at hb
  refine ze6 r _ (fun i o ho hD=>?_) (fun j i hb hj=>?_) j i hb hj
  ·rw [List.length_append,List.length_singleton] at hD
   exact hl (i+1) o (by simpa using ho) (by rwa [show acc.length+(i+1)=acc.length+1+i by omega])
  ·by_cases hjl:j<acc.length
   ·rw [List.getD_eq_getElem?_getD,List.getElem?_append_left hjl,← List.getD_eq_getElem?_getD] at hb;exact h j i hb hj
   ·by_cases hje:j=acc.length
    ·subst hje
     rw [List.getD_eq_getElem?_getD,List.getElem?_append_right (Nat.le_refl _)] at hb
     simp only [Nat.sub_self,List.getElem?_cons_zero,Option.getD_some] at hb
     exact zfv h o.after.toList 0 (fun e he hbi=>hl 0 o rfl (by simpa using hj) e he hbi) (fun i hi=>by simp at hi) i hb
    ·rw [List.getD_eq_getElem?_getD,List.getElem?_eq_none (by simp;omega)] at hb
     simp at hb
end Go.Proofs.Ytjfphnegcelbpaa
