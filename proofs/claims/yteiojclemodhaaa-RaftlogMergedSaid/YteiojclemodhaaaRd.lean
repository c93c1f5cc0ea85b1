/- A reading of values as plain data: numbers, truths, texts, and slices of rows of such. No condition. -/
import Derived.Test.YteiojclemodhaaaRows
import Derived.WalkKit
import Derived.ProofKit
import Derived.OpenShut
import Derived.Lib.Hide
import Derived.Deep.QuietTactic
import Derived.BigQuiet
import Derived.Deep.Slices
import Derived.ChangeArms
namespace Go.Proofs.Yteiojclemodhaaa
open Go.RowKit Go.ChangeShapes Go.WideShapes Go.Deep
set_option linter.unusedVariables false
/-- what a cell may hold -/
inductive Ty where
  | int (k : IntKind)
  | bool
  | str
  | sl (fs : List Ty)
/-- what it says -/
inductive D where
  | int (n : Int)
  | bool (b : Bool)
  | str (s : ByteArray)
  | sl (rows : List (List D))
instance : Inhabited Ty := ⟨.bool⟩
instance : Inhabited D := ⟨.int 0⟩
/-- v says d, in world w, and what lies in memory of it lies in blocks of S -/
inductive Rd (w : World) (S : Nat → Prop) : Ty → Value → D → Prop
  | int {k : IntKind} {n : Int} : (Lit.int k n).wf = true → Rd w S (.int k) (.int k n) (.int n)
  | bool {b : Bool} : Rd w S .bool (.bool b) (.bool b)
  | str {s : ByteArray} : s.size ≤ 140737488355328 → Rd w S .str (.string s) (.str s)
  | emp {fs : List Ty} {a : Option Addr} {c : Nat} : (a = none → c = 0) → c ≤ maxLen → Rd w S (.sl fs) (.slice a 0 c) (.sl [])
  | row {fs : List Ty} {b off n c : Nat} {rows : List (List D)} (vals : Nat → Nat → Value) : 0 < n → n = rows.length → n ≤ c → c ≤ maxLen → n ≤ 17592186044416 → S b → b < w.heap.size →
      (∀ i j, i < n → j < fs.length → w.cell? ⟨b, off + i * fs.length + j, none⟩ = some (vals i j)) →
      (∀ i, i < n → (rows.getD i []).length = fs.length) →
      (∀ i j, i < n → j < fs.length → Rd w S (fs.getD j default) (vals i j) ((rows.getD i []).getD j default)) →
      (∀ i j, i < n → j < fs.length → w.frozen? ⟨b, off + i * fs.length + j, none⟩ = false) →
      Rd w S (.sl fs) (.slice (some ⟨b, off, none⟩) n c) (.sl rows)
/-- the blocks of S are in w' as they were in w -/
structure Same (S : Nat → Prop) (w w' : World) : Prop where
  size : w.heap.size ≤ w'.heap.size
  block : ∀ b, S b → b < w.heap.size → w'.heap[b]? = w.heap[b]?
theorem Same.refl (S : Nat → Prop) (w : World) : Same S w w := ⟨Nat.le_refl _, fun _ _ _ => rfl⟩
theorem Same.trans {S : Nat → Prop} {a b c : World} (h : Same S a b) (k : Same S b c) : Same S a c :=
  ⟨Nat.le_trans h.size k.size, fun x hx hl => (k.block x hx (Nat.lt_of_lt_of_le hl h.size)).trans (h.block x hx hl)⟩
theorem Same.mono {S T : Nat → Prop} {w w' : World} (h : Same S w w') (hs : ∀ b, T b → S b) : Same T w w' := ⟨h.size, fun b hb hl => h.block b (hs b hb) hl⟩
theorem Same.drewN {S : Nat → Prop} {w w' : World} (h : Same S w w') (n : Nat) : Same S w (w'.drewN n) := ⟨h.size, h.block⟩
theorem Same.of_below {S : Nat → Prop} {B : Nat} {w w' : World} (h : Below B w w') (hS : ∀ b, S b → b < B) : Same S w w' :=
  ⟨h.size, fun b hb _ => h.block b (hS b hb)⟩
/-- a call that only makes memory -/
theorem Same.below {S : Nat → Prop} {w w' : World} (h : Below w.heap.size w w') : Same S w w' := ⟨h.size, fun b _ hl => h.block b hl⟩
theorem Same.of_grown {S : Nat → Prop} {w w' : World} {row : Option Nat} (h : w.grownBy w' row) (hS : ∀ b, S b → some b ≠ row) : Same S w w' :=
  ⟨h.size, fun b hb hl => h.block b hl (hS b hb)⟩
theorem Same.alloc (S : Nat → Prop) (w : World) (o : Obj) : Same S w (w.alloc o) := Same.below ((Below.refl _ _).alloc (Nat.le_refl _) o)
theorem Same.setCell {S : Nat → Prop} {w : World} {p : Addr} (h : ¬ S p.block) (v : Value) : Same S w (w.setCell p v) :=
  ⟨by simp [World.setCell], fun b hb _ => Below.heap_setCell _ _ _ _ (fun e => h (e ▸ hb))⟩
theorem Same.cell {S : Nat → Prop} {w w' : World} (h : Same S w w') {p : Addr} (hp : S p.block) (hl : p.block < w.heap.size) : w'.cell? p = w.cell? p := World.cell?_of_block (h.block _ hp hl)
theorem Same.frozen {S : Nat → Prop} {w w' : World} (h : Same S w w') {p : Addr} (hp : S p.block) (hl : p.block < w.heap.size) : w'.frozen? p = w.frozen? p := World.frozen?_of_block (h.block _ hp hl)
theorem Rd.same {w w' : World} {S : Nat → Prop} {t : Ty} {v : Value} {d : D} (h : Rd w S t v d) (hs : Same S w w') : Rd w' S t v d := by
  induction h with
  | int h => exact .int h
  | bool => exact .bool
  | str h => exact .str h
  | emp h h' => exact .emp h h'
  | row vals h1 h2 h3 h4 h5 h6 h7 h8 h9 _ h11 ih =>
    exact .row vals h1 h2 h3 h4 h5 h6 (Nat.lt_of_lt_of_le h7 hs.size) (fun i j hi hj => by rw [hs.cell h6 h7]; exact h8 i j hi hj) h9 ih (fun i j hi hj => by rw [hs.frozen h6 h7]; exact h11 i j hi hj)
theorem Rd.mono {w : World} {S T : Nat → Prop} {t : Ty} {v : Value} {d : D} (h : Rd w S t v d) (hs : ∀ b, b < w.heap.size → S b → T b) : Rd w T t v d := by
  induction h with
  | int h => exact .int h
  | bool => exact .bool
  | str h => exact .str h
  | emp h h' => exact .emp h h'
  | row vals h1 h2 h3 h4 h5 h6 h7 h8 h9 _ h11 ih => exact .row vals h1 h2 h3 h4 h5 (hs _ h7 h6) h7 h8 h9 ih h11
/-- what a reading met is there -/
theorem Rd.here {w : World} {S : Nat → Prop} {t : Ty} {v : Value} {d : D} (h : Rd w S t v d) : Rd w (fun b => S b ∧ b < w.heap.size) t v d := h.mono (fun b hb hs => ⟨hs, hb⟩)
/-- the cells of a struct -/
def RdL (w : World) (S : Nat → Prop) : List Ty → List Value → List D → Prop
  | [], [], [] => True
  | t :: ts, v :: vs, d :: ds => Rd w S t v d ∧ RdL w S ts vs ds
  | _, _, _ => False
theorem RdL.same {w w' : World} {S : Nat → Prop} (hs : Same S w w') : ∀ {ts : List Ty} {vs : List Value} {ds : List D}, RdL w S ts vs ds → RdL w' S ts vs ds
  | [], [], [], _ => trivial
  | _ :: _, _ :: _, _ :: _, h => ⟨h.1.same hs, RdL.same hs h.2⟩
  | _ :: _, [], _, h => h.elim
  | _ :: _, _ :: _, [], h => h.elim
  | [], _ :: _, _, h => h.elim
  | [], [], _ :: _, h => h.elim
theorem RdL.mono {w : World} {S T : Nat → Prop} (hs : ∀ b, b < w.heap.size → S b → T b) : ∀ {ts : List Ty} {vs : List Value} {ds : List D}, RdL w S ts vs ds → RdL w T ts vs ds
  | [], [], [], _ => trivial
  | _ :: _, _ :: _, _ :: _, h => ⟨h.1.mono hs, RdL.mono hs h.2⟩
  | _ :: _, [], _, h => h.elim
  | _ :: _, _ :: _, [], h => h.elim
  | [], _ :: _, _, h => h.elim
  | [], [], _ :: _, h => h.elim
theorem RdL.lens {w : World} {S : Nat → Prop} : ∀ {ts : List Ty} {vs : List Value} {ds : List D}, RdL w S ts vs ds → vs.length = ts.length ∧ ds.length = ts.length
  | [], [], [], _ => ⟨rfl, rfl⟩
  | _ :: _, _ :: _, _ :: _, h => by have := RdL.lens h.2; simp [this.1, this.2]
  | _ :: _, [], _, h => h.elim
  | _ :: _, _ :: _, [], h => h.elim
  | [], _ :: _, _, h => h.elim
  | [], [], _ :: _, h => h.elim
theorem RdL.at {w : World} {S : Nat → Prop} : ∀ {ts : List Ty} {vs : List Value} {ds : List D}, RdL w S ts vs ds → ∀ j, j < ts.length → Rd w S (ts.getD j default) (vs.getD j undef) (ds.getD j default)
  | [], [], [], _, j, hj => absurd hj (by simp)
  | _ :: _, _ :: _, _ :: _, h, 0, _ => h.1
  | _ :: ts, _ :: vs, _ :: ds, h, j + 1, hj => RdL.at (ts := ts) (vs := vs) (ds := ds) h.2 j (by simpa using hj)
  | _ :: _, [], _, h, _, _ => h.elim
  | _ :: _, _ :: _, [], h, _, _ => h.elim
  | [], _ :: _, _, h, _, _ => h.elim
  | [], [], _ :: _, h, _, _ => h.elim
theorem RdL.of_at {w : World} {S : Nat → Prop} : ∀ {ts : List Ty} {ds : List D} (f : Nat → Value), ds.length = ts.length → (∀ j, j < ts.length → Rd w S (ts.getD j default) (f j) (ds.getD j default)) → RdL w S ts ((List.range ts.length).map f) ds
  | [], [], _, _, _ => trivial
  | [], _ :: _, _, h, _ => by simp at h
  | _ :: _, [], _, h, _ => by simp at h
  | t :: ts, d :: ds, f, h, hf => by
    have e : (List.range (t :: ts).length).map f = f 0 :: (List.range ts.length).map (fun j => f (j + 1)) := by
      rw [List.length_cons, List.range_succ_eq_map]; simp [Function.comp_def]
    rw [e]
    exact ⟨hf 0 (by simp), RdL.of_at (fun j => f (j + 1)) (by simpa using h) (fun j hj => hf (j + 1) (by simpa using hj))⟩
/-- a slice of rows -/
abbrev Sl (w : World) (S : Nat → Prop) (fs : List Ty) (a : Option Addr) (n c : Nat) (rows : List (List D)) : Prop := Rd w S (.sl fs) (.slice a n c) (.sl rows)
theorem Sl.len {w : World} {S : Nat → Prop} {fs : List Ty} {a : Option Addr} {n c : Nat} {rows : List (List D)} (h : Sl w S fs a n c rows) : rows.length = n := by
  cases h with
  | emp _ _ => rfl
  | row _ _ h => exact h.symm
theorem Sl.bd {w : World} {S : Nat → Prop} {fs : List Ty} {a : Option Addr} {n c : Nat} {rows : List (List D)} (h : Sl w S fs a n c rows) : n ≤ c ∧ c ≤ 9223372036854775807 ∧ n ≤ 17592186044416 ∧ (a = none → n = 0 ∧ c = 0) := by
  cases h with
  | emp h1 h2 => unfold maxLen at h2; exact ⟨Nat.zero_le _, by omega, by omega, fun e => ⟨rfl, h1 e⟩⟩
  | row _ h0 h1 h2 h3 h4 => unfold maxLen at h3; exact ⟨h2, by omega, h4, fun e => by simp at e⟩
/-- its i-th row -/
theorem Sl.rowAt {w : World} {S : Nat → Prop} {fs : List Ty} {a : Option Addr} {n c : Nat} {rows : List (List D)} (h : Sl w S fs a n c rows) (hp : 0 < n) :
    ∃ b off, a = some ⟨b, off, none⟩ ∧ S b ∧ b < w.heap.size ∧ ∃ vals : Nat → Nat → Value, (∀ i j, i < n → j < fs.length → w.cell? ⟨b, off + i * fs.length + j, none⟩ = some (vals i j)) ∧
      ∀ i, i < n → (rows.getD i []).length = fs.length ∧ ∀ j, j < fs.length → Rd w S (fs.getD j default) (vals i j) ((rows.getD i []).getD j default) := by
  cases h with
  | emp _ _ => omega
  | row vals h1 h2 h3 h4 h5 h6 h7 h8 h9 h10 _ => exact ⟨_, _, rfl, h6, h7, vals, h8, fun i hi => ⟨h9 i hi, fun j hj => h10 i j hi hj⟩⟩
theorem Sl.thaw {w : World} {S : Nat → Prop} {fs : List Ty} {b off n c : Nat} {rows : List (List D)} (h : Sl w S fs (some ⟨b, off, none⟩) n c rows) {i j : Nat} (hi : i < n) (hj : j < fs.length) : w.frozen? ⟨b, off + i * fs.length + j, none⟩ = false := by
  cases h with
  | emp _ _ => omega
  | row vals h1 h2 h3 h4 h5 h6 h7 h8 h9 h10 h11 => exact h11 i j hi hj
theorem Sl.addr {w : World} {S : Nat → Prop} {fs : List Ty} {a : Option Addr} {n c : Nat} {rows : List (List D)} (h : Sl w S fs a n c rows) (hp : 0 < n) : ∃ b off, a = some ⟨b, off, none⟩ := by
  obtain ⟨b, off, e, _⟩ := h.rowAt hp; exact ⟨b, off, e⟩
theorem Sl.same {w w' : World} {S : Nat → Prop} {fs : List Ty} {a : Option Addr} {n c : Nat} {rows : List (List D)} (h : Sl w S fs a n c rows) (hs : Same S w w') : Sl w' S fs a n c rows := Rd.same h hs
/-- numbers -/
def ints (xs : List Int) : List (List D) := xs.map fun x => [.int x]
abbrev I64 (x : Int) : Prop := -9223372036854775808 ≤ x ∧ x ≤ 9223372036854775807
abbrev SlI (w : World) (S : Nat → Prop) (a : Option Addr) (n c : Nat) (xs : List Int) : Prop := Sl w S [.int .i64] a n c (ints xs)
theorem lit_bd {x : Int} (h : (Lit.int .i64 x).wf = true) : I64 x := by
  simp only [Lit.wf, Bool.and_eq_true, decide_eq_true_eq] at h; exact h
theorem bd_lit {x : Int} (h : I64 x) : (Lit.int .i64 x).wf = true := by
  simp only [Lit.wf, Bool.and_eq_true, decide_eq_true_eq]; exact h
theorem Rd.int_inv {w : World} {S : Nat → Prop} {k : IntKind} {v : Value} {d : D} (h : Rd w S (.int k) v d) : ∃ n, v = .int k n ∧ d = .int n ∧ (Lit.int k n).wf = true := by
  cases h with | int h => exact ⟨_, rfl, rfl, h⟩
theorem Rd.i64 {w : World} {S : Nat → Prop} {v : Value} {x : Int} (h : Rd w S (.int .i64) v (.int x)) : v = .int .i64 x ∧ I64 x := by
  cases h with | int h => exact ⟨rfl, lit_bd h⟩
theorem Rd.u8 {w : World} {S : Nat → Prop} {v : Value} {x : Int} (h : Rd w S (.int .u8) v (.int x)) : v = .int .u8 x ∧ 0 ≤ x ∧ x ≤ 255 := by
  cases h with | int h => simp only [Lit.wf, Bool.and_eq_true, decide_eq_true_eq] at h; exact ⟨rfl, h⟩
theorem Rd.bool' {w : World} {S : Nat → Prop} {v : Value} {x : Bool} (h : Rd w S .bool v (.bool x)) : v = .bool x := by
  cases h with | bool => rfl
theorem Rd.bool_inv {w : World} {S : Nat → Prop} {v : Value} {d : D} (h : Rd w S .bool v d) : ∃ b, v = .bool b ∧ d = .bool b := by
  cases h with | bool => exact ⟨_, rfl, rfl⟩
theorem Rd.str_inv {w : World} {S : Nat → Prop} {v : Value} {d : D} (h : Rd w S .str v d) : ∃ s, v = .string s ∧ d = .str s := by
  cases h with | str h => exact ⟨_, rfl, rfl⟩
theorem Rd.str' {w : World} {S : Nat → Prop} {v : Value} {x : ByteArray} (h : Rd w S .str v (.str x)) : v = .string x ∧ x.size ≤ 140737488355328 := by
  cases h with | str h => exact ⟨rfl, h⟩
theorem Rd.sl' {w : World} {S : Nat → Prop} {fs : List Ty} {v : Value} {rows : List (List D)} (h : Rd w S (.sl fs) v (.sl rows)) : ∃ a c, v = .slice a rows.length c ∧ Sl w S fs a rows.length c rows := by
  cases h with
  | emp h1 h2 => exact ⟨_, _, rfl, .emp h1 h2⟩
  | row vals h1 h2 h3 h4 h5 h6 h7 h8 h9 h10 h11 => subst h2; exact ⟨_, _, rfl, .row vals h1 rfl h3 h4 h5 h6 h7 h8 h9 h10 h11⟩
theorem Rd.ofI64 {w : World} {S : Nat → Prop} {x : Int} (h : I64 x) : Rd w S (.int .i64) (.int .i64 x) (.int x) := .int (bd_lit h)
theorem ints_len (xs : List Int) : (ints xs).length = xs.length := by simp [ints]
theorem list_dec {α : Type} (enc : α → List D) : ∀ (rows : List (List D)), (∀ r ∈ rows, ∃ x, r = enc x) → ∃ xs : List α, rows = xs.map enc
  | [], _ => ⟨[], rfl⟩
  | r :: rows, h => by
    obtain ⟨x, hx⟩ := h r (List.mem_cons_self ..)
    obtain ⟨xs, hxs⟩ := list_dec enc rows (fun r hr => h r (List.mem_cons_of_mem _ hr))
    exact ⟨x :: xs, by rw [hx, hxs]; rfl⟩
theorem Rd.dec {w : World} {S : Nat → Prop} {α : Type} (enc : α → List D) {ts : List Ty} {v : Value} {d : D} (hdec : ∀ vs ds, RdL w S ts vs ds → ∃ x, ds = enc x) (h : Rd w S (.sl ts) v d) : ∃ xs : List α, d = .sl (xs.map enc) := by
  cases h with
  | emp _ _ => exact ⟨[], rfl⟩
  | row vals h1 h2 h3 h4 h5 h6 h7 h8 h9 h10 h11 =>
    rename_i rows
    obtain ⟨xs, hxs⟩ := list_dec enc rows (fun r hr => by
      obtain ⟨i, hi, rfl⟩ := List.mem_iff_getElem.1 hr
      have e : rows.getD i [] = rows[i] := by simp [List.getD, hi]
      have := RdL.of_at (w := w) (S := S) (ts := ts) (ds := rows[i]) (vals i) (by rw [← e]; exact h9 i (by omega)) (fun j hj => by rw [← e]; exact h10 i j (by omega) hj)
      exact hdec _ _ this)
    exact ⟨xs, by rw [hxs]⟩
theorem ints_dec {w : World} {S : Nat → Prop} {v : Value} {d : D} (h : Rd w S (.sl [.int .i64]) v d) : ∃ xs : List Int, d = .sl (ints xs) := by
  refine Rd.dec (fun x => [.int x]) (fun vs ds hr => ?_) h
  match vs, ds, hr with
  | [v], [d], hr =>
    obtain ⟨n, _, rfl, _⟩ := hr.1.int_inv
    exact ⟨n, rfl⟩
  | [], _, hr => exact hr.elim
  | _ :: _ :: _, [_], hr => exact hr.2.elim
  | [_], [], hr => exact hr.elim
  | [_], _ :: _ :: _, hr => exact hr.2.elim
  | _ :: _ :: _, [], hr => exact hr.elim
  | _ :: _ :: _, _ :: _ :: _, hr => exact hr.2.elim
/-- block g is just these cells -/
def Blk (w : World) (g : Nat) (t : TypeId) (cs : Array Value) : Prop := w.heap[g]? = some (.cells cs t (0, 0))
theorem Blk.lt {w : World} {g : Nat} {t : TypeId} {cs : Array Value} (h : Blk w g t cs) : g < w.heap.size := (Array.getElem?_eq_some_iff.1 h).1
theorem Blk.cell {w : World} {g : Nat} {t : TypeId} {cs : Array Value} (h : Blk w g t cs) (i : Nat) : w.cell? ⟨g, i, none⟩ = cs[i]? := by
  unfold Blk at h; simp [World.cell?, h]
theorem Blk.frozen {w : World} {g : Nat} {t : TypeId} {cs : Array Value} (h : Blk w g t cs) (i : Nat) : w.frozen? ⟨g, i, none⟩ = false := by
  unfold Blk at h; simp [World.frozen?, h]
theorem Blk.new (w : World) (t : TypeId) (cs : Array Value) : Blk (w.alloc (.cells cs t)) w.heap.size t cs := by
  unfold Blk; simp only [World.alloc, Array.getElem?_push_size]
theorem Blk.newAt (w : World) (g : Nat) (t : TypeId) (cs : Array Value) (hg : g = w.heap.size) : Blk (w.alloc (.cells cs t)) g t cs := by subst hg; exact Blk.new w t cs
theorem Blk.alloc {w : World} {g : Nat} {t : TypeId} {cs : Array Value} (h : Blk w g t cs) (o : Obj) : Blk (w.alloc o) g t cs := (Below.heap_alloc w o g h.lt).trans h
theorem Blk.below {w w' : World} {g B : Nat} {t : TypeId} {cs : Array Value} (h : Blk w g t cs) (hb : Below B w w') (hg : g < B) : Blk w' g t cs := (hb.block g hg).trans h
theorem Blk.same {w w' : World} {g : Nat} {S : Nat → Prop} {t : TypeId} {cs : Array Value} (h : Blk w g t cs) (hs : Same S w w') (hg : S g) : Blk w' g t cs := (hs.block g hg h.lt).trans h
theorem Blk.set {w : World} {g : Nat} {t : TypeId} {cs : Array Value} (h : Blk w g t cs) (i : Nat) (u : Value) : Blk (w.setCell ⟨g, i, none⟩ u) g t (cs.setIfInBounds i u) := by
  unfold Blk at h ⊢
  simp [World.setCell, Array.getElem?_modify, h]
theorem Blk.far {w : World} {g : Nat} {t : TypeId} {cs : Array Value} (h : Blk w g t cs) {p : Addr} (hp : g ≠ p.block) (u : Value) : Blk (w.setCell p u) g t cs := (Below.heap_setCell w p u g hp).trans h
theorem Blk.grown {w w' : World} {g : Nat} {t : TypeId} {cs : Array Value} {row : Option Nat} (h : Blk w g t cs) (hb : w.grownBy w' row) (hg : some g ≠ row) : Blk w' g t cs := (hb.block g h.lt hg).trans h
theorem Blk.drew {w : World} {g : Nat} {t : TypeId} {cs : Array Value} (h : Blk w g t cs) : Blk w.drew g t cs := h
theorem Blk.next {w w' : World} {g : Nat} {t : TypeId} {cs : Array Value} (h : Blk w g t cs) (hb : Below w.heap.size w w') : Blk w' g t cs := h.below hb h.lt
theorem Sl.next {w w' : World} {S : Nat → Prop} {fs : List Ty} {a : Option Addr} {n c : Nat} {rows : List (List D)} (h : Sl w S fs a n c rows) (hb : Below w.heap.size w w') : Sl w' S fs a n c rows := h.same (Same.below hb)
theorem Sl.set {w : World} {S : Nat → Prop} {fs : List Ty} {a : Option Addr} {n c : Nat} {rows : List (List D)} (h : Sl w S fs a n c rows) {p : Addr} (hp : ¬ S p.block) (v : Value) : Sl (w.setCell p v) S fs a n c rows := h.same (Same.setCell hp v)
theorem Rd.next {w w' : World} {S : Nat → Prop} {t : Ty} {v : Value} {d : D} (h : Rd w S t v d) (hb : Below w.heap.size w w') : Rd w' S t v d := h.same (Same.below hb)
theorem Rd.set {w : World} {S : Nat → Prop} {t : Ty} {v : Value} {d : D} (h : Rd w S t v d) {p : Addr} (hp : ¬ S p.block) (u : Value) : Rd (w.setCell p u) S t v d := h.same (Same.setCell hp u)
theorem Same.drew (S : Nat → Prop) (w : World) : Same S w w.drew := ⟨Nat.le_refl _, fun _ _ _ => rfl⟩
theorem Rd.drew {w : World} {S : Nat → Prop} {t : Ty} {v : Value} {d : D} (h : Rd w S t v d) : Rd w.drew S t v d := h.same (Same.drew S w)
theorem RdL.drew {w : World} {S : Nat → Prop} {ts : List Ty} {vs : List Value} {ds : List D} (h : RdL w S ts vs ds) : RdL w.drew S ts vs ds := RdL.same (Same.drew S w) h
theorem bdrewN {B : Nat} {w w' : World} (h : Below B w w') (n : Nat) : Below B w (w'.drewN n) := ⟨h.os, h.tape, h.output, h.size, h.block⟩
end Go.Proofs.Yteiojclemodhaaa
