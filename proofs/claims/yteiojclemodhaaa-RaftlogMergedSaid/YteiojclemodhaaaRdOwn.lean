/- A slice of rows that the call itself makes; append to it, of one row or of a slice. Condition: fewer than 2^44 rows. -/
import Derived.Test.YteiojclemodhaaaRd
import Derived.Maps.AppendAt
import Derived.Deep.AppendLies
import Derived.RegionTactic
import Derived.OwnWalk
import Derived.Laws.CopyOwn
namespace Go.Proofs.Yteiojclemodhaaa
open Go.RowKit Go.ChangeShapes Go.WideShapes Go.Deep
set_option linter.unusedVariables false
def OwnR (base : Nat) (w : World) (E : TypeId) (S : Nat → Prop) (fs : List Ty) (v : Value) (rows : List (List D)) : Prop :=
  ∃ cells, w.ownsRow base E fs.length v rows.length cells ∧ ∀ i, i < rows.length → RdL w (fun b => S b ∧ v.ownBlock ≠ some b) fs ((cells.drop (i * fs.length)).take fs.length) (rows.getD i [])
theorem OwnR.nil (base : Nat) (w : World) (E : TypeId) (S : Nat → Prop) (fs : List Ty) : OwnR base w E S fs (.slice none 0 0) [] :=
  ⟨[], World.ownsRow_nil _ _ _ _, fun i h => absurd h (by simp)⟩
theorem Same.ownsRow {w w' : World} {base : Nat} {E : TypeId} {size : Nat} {v : Value} {n : Nat} {xs : List Value} {S : Nat → Prop} (h : w.ownsRow base E size v n xs) (hs : Same S w w') (hS : ∀ g, v.ownBlock = some g → S g) : w'.ownsRow base E size v n xs := by
  refine ⟨h.1, ?_⟩
  rcases h.2 with h2 | ⟨g, cap, cur, hv, hg, hh, r⟩
  · exact Or.inl h2
  · exact Or.inr ⟨g, cap, cur, hv, hg, (hs.block g (hS g (by subst hv; rfl)) (Array.getElem?_eq_some_iff.1 hh).1).trans hh, r⟩
theorem OwnR.same {base : Nat} {w w' : World} {E : TypeId} {S T : Nat → Prop} {fs : List Ty} {v : Value} {rows : List (List D)} (h : OwnR base w E S fs v rows) (hs : Same T w w') (h1 : ∀ b, S b → T b) (h2 : ∀ b, v.ownBlock = some b → T b) : OwnR base w' E S fs v rows := by
  obtain ⟨cells, ho, hr⟩ := h
  exact ⟨cells, hs.ownsRow ho h2, fun i hi => (hr i hi).same (hs.mono fun b hb => h1 b hb.1)⟩
theorem OwnR.below {base : Nat} {w w' : World} {E : TypeId} {S : Nat → Prop} {fs : List Ty} {v : Value} {rows : List (List D)} (h : OwnR base w E S fs v rows) (hb : Below w.heap.size w w') : OwnR base w' E S fs v rows :=
  h.same (Same.below (S := fun _ => True) hb) (fun _ _ => trivial) (fun _ _ => trivial)
theorem OwnR.alloc {base : Nat} {w : World} {E : TypeId} {S : Nat → Prop} {fs : List Ty} {v : Value} {rows : List (List D)} (h : OwnR base w E S fs v rows) (o : Obj) : OwnR base (w.alloc o) E S fs v rows :=
  h.below ((Below.refl _ _).alloc (Nat.le_refl _) o)
theorem OwnR.drewN {base : Nat} {w : World} {E : TypeId} {S : Nat → Prop} {fs : List Ty} {v : Value} {rows : List (List D)} (h : OwnR base w E S fs v rows) (n : Nat) : OwnR base (w.drewN n) E S fs v rows :=
  h.below (bdrewN (Below.refl _ _) n)
theorem OwnR.drew {base : Nat} {w : World} {E : TypeId} {S : Nat → Prop} {fs : List Ty} {v : Value} {rows : List (List D)} (h : OwnR base w E S fs v rows) : OwnR base w.drew E S fs v rows := h.drewN 1
theorem OwnR.lt {base : Nat} {w : World} {E : TypeId} {S : Nat → Prop} {fs : List Ty} {v : Value} {rows : List (List D)} (h : OwnR base w E S fs v rows) : ∀ b, v.ownBlock = some b → base ≤ b ∧ b < w.heap.size := by
  obtain ⟨cells, ho, _⟩ := h
  exact World.ownsRow.lt ho
theorem OwnR.form {base : Nat} {w : World} {E : TypeId} {S : Nat → Prop} {fs : List Ty} {v : Value} {rows : List (List D)} (h : OwnR base w E S fs v rows) : ∃ a c, v = .slice a rows.length c := by
  obtain ⟨cells, ⟨_, ⟨rfl, hn⟩ | ⟨g, cap, cur, rfl, _⟩⟩, _⟩ := h
  · exact ⟨none, 0, by rw [hn]⟩
  · exact ⟨_, _, rfl⟩
theorem OwnR.mono {base base' : Nat} {w : World} {E : TypeId} {S T : Nat → Prop} {fs : List Ty} {v : Value} {rows : List (List D)} (h : OwnR base w E S fs v rows) (hb : base' ≤ base) (hs : ∀ b, S b → T b) : OwnR base' w E T fs v rows := by
  obtain ⟨cells, ho, hr⟩ := h
  refine ⟨cells, ⟨ho.1, ?_⟩, fun i hi => (hr i hi).mono fun b _ hb => ⟨hs b hb.1, hb.2⟩⟩
  rcases ho.2 with h2 | ⟨g, cap, cur, hv, hg, hh, r⟩
  · exact Or.inl h2
  · exact Or.inr ⟨g, cap, cur, hv, by omega, hh, r⟩
/-- a slice of cells reads as rows -/
theorem Sl.mk {w : World} {S : Nat → Prop} {fs : List Ty} {b off c : Nat} {rows : List (List D)} (cells : List Value) (hn : 0 < rows.length) (hc : rows.length ≤ c) (hm : c ≤ maxLen) (h44 : rows.length ≤ 17592186044416) (hS : S b) (hb : b < w.heap.size)
    (hl : cells.length = rows.length * fs.length) (hcell : ∀ m v, cells[m]? = some v → w.cell? ⟨b, off + m, none⟩ = some v)
    (hr : ∀ i, i < rows.length → RdL w S fs ((cells.drop (i * fs.length)).take fs.length) (rows.getD i [])) (hfz : ∀ m, w.frozen? ⟨b, off + m, none⟩ = false) : Sl w S fs (some ⟨b, off, none⟩) rows.length c rows := by
  have key : ∀ i j, i < rows.length → j < fs.length → i * fs.length + j < cells.length := by
    intro i j hi hj
    have : (i + 1) * fs.length ≤ rows.length * fs.length := Nat.mul_le_mul_right _ hi
    rw [Nat.add_mul] at this; omega
  refine .row (fun i j => cells.getD (i * fs.length + j) undef) hn rfl hc hm h44 hS hb (fun i j hi hj => ?_) (fun i hi => (hr i hi).lens.2) (fun i j hi hj => ?_) (fun i j _ _ => by rw [Nat.add_assoc]; exact hfz _)
  · have h1 := key i j hi hj
    rw [Nat.add_assoc]
    refine hcell _ _ ?_
    simp [List.getD, h1]
  · have := (hr i hi).at j hj
    have e : ((cells.drop (i * fs.length)).take fs.length).getD j undef = cells.getD (i * fs.length + j) undef := by
      simp [List.getD, hj]
    rwa [e] at this
theorem OwnR.slO {base : Nat} {w : World} {E : TypeId} {S : Nat → Prop} {fs : List Ty} {v : Value} {rows : List (List D)} (h : OwnR base w E S fs v rows) (T : Nat → Prop) (h1 : ∀ b, S b → T b) (h2 : ∀ b, base ≤ b → v.ownBlock = some b → T b) (h44 : rows.length ≤ 17592186044416) :
    ∃ a c, v = .slice a rows.length c ∧ Sl w T fs a rows.length c rows := by
  obtain ⟨cells, ⟨hl, ⟨rfl, hn⟩ | ⟨g, cap, cur, rfl, hg, hh, hc, hm, hs, ht⟩⟩, hr⟩ := h
  · have hx : rows = [] := List.eq_nil_of_length_eq_zero hn
    subst hx
    exact ⟨none, 0, rfl, .emp (fun _ => rfl) (by simp [maxLen])⟩
  · refine ⟨_, _, rfl, ?_⟩
    by_cases hp : 0 < rows.length
    · refine Sl.mk cells hp hc hm h44 (h2 g hg rfl) (Array.getElem?_eq_some_iff.1 hh).1 hl (fun m u hu => ?_) (fun i hi => (hr i hi).mono fun b _ hb => h1 b hb.1) (fun m => by simp [World.frozen?, hh])
      rw [← ht] at hu
      have hlt : m < rows.length * fs.length := by
        rw [ht] at hu
        have := (List.getElem?_eq_some_iff.1 hu).1
        omega
      rw [List.getElem?_take, if_pos hlt] at hu
      rw [Nat.zero_add]
      simp only [World.cell?, hh]
      rw [← Array.getElem?_toList]; exact hu
    · have hx : rows = [] := List.eq_nil_of_length_eq_zero (by omega)
      subst hx
      exact .emp (fun e => by simp at e) hm
theorem OwnR.sl {base : Nat} {w : World} {E : TypeId} {S : Nat → Prop} {fs : List Ty} {v : Value} {rows : List (List D)} (h : OwnR base w E S fs v rows) (T : Nat → Prop) (h1 : ∀ b, S b → T b) (h2 : ∀ b, base ≤ b → T b) (h44 : rows.length ≤ 17592186044416) :
    ∃ a c, v = .slice a rows.length c ∧ Sl w T fs a rows.length c rows := h.slO T h1 (fun b hb _ => h2 b hb) h44
theorem OwnR.slI {base : Nat} {w : World} {E : TypeId} {S : Nat → Prop} {v : Value} {xs : List Int} (h : OwnR base w E S [.int .i64] v (ints xs)) (T : Nat → Prop) (h1 : ∀ b, S b → T b) (h2 : ∀ b, base ≤ b → T b) (h44 : xs.length ≤ 17592186044416) :
    ∃ a c, v = .slice a xs.length c ∧ SlI w T a xs.length c xs := by
  obtain ⟨a, c, e, hs⟩ := h.sl T h1 h2 (by rw [ints_len]; exact h44)
  rw [ints_len] at e hs
  exact ⟨a, c, e, hs⟩
/-- what an append leaves -/
theorem OwnR.grows {base : Nat} {w w' : World} {E : TypeId} {S : Nat → Prop} {fs : List Ty} {v v' : Value} {rows ds : List (List D)} {cells news : List Value}
    (hr : ∀ i, i < rows.length → RdL w (fun b => S b ∧ v.ownBlock ≠ some b) fs ((cells.drop (i * fs.length)).take fs.length) (rows.getD i [])) (hcl : cells.length = rows.length * fs.length)
    (hn : ∀ i, i < ds.length → RdL w (fun b => S b ∧ v.ownBlock ≠ some b) fs ((news.drop (i * fs.length)).take fs.length) (ds.getD i []))
    (ho : w'.ownsRow base E fs.length v' (rows.length + ds.length) (cells ++ news)) (hg : w.grownBy w' v.ownBlock) (hat : v'.ownBlock = v.ownBlock ∨ v'.ownBlock = some w.heap.size) : OwnR base w' E S fs v' (rows ++ ds) := by
  have up : ∀ (cs : List Value) (d : List D), RdL w (fun b => S b ∧ v.ownBlock ≠ some b) fs cs d → RdL w' (fun b => S b ∧ v'.ownBlock ≠ some b) fs cs d := by
    intro cs d h
    have h1 : RdL w (fun b => (S b ∧ v'.ownBlock ≠ some b) ∧ v.ownBlock ≠ some b) fs cs d := h.mono fun b hb hs => by
      refine ⟨⟨hs.1, ?_⟩, hs.2⟩
      rcases hat with e | e
      · rw [e]; exact hs.2
      · rw [e]; intro e'; cases e'; omega
    have h2 := h1.same (w' := w') (Same.of_grown hg fun b hb e => hb.2 e.symm)
    exact h2.mono fun b _ hs => hs.1
  refine ⟨cells ++ news, by rw [List.length_append]; exact ho, fun i hi => ?_⟩
  rw [List.length_append] at hi
  by_cases h : i < rows.length
  · have h1 : i * fs.length + fs.length ≤ cells.length := by
      rw [hcl]
      have : (i + 1) * fs.length ≤ rows.length * fs.length := Nat.mul_le_mul_right _ h
      rw [Nat.add_mul] at this; omega
    have e1 : ((cells ++ news).drop (i * fs.length)).take fs.length = (cells.drop (i * fs.length)).take fs.length := by
      rw [List.drop_append_of_le_length (by omega), List.take_append_of_le_length (by simp; omega)]
    have e2 : (rows ++ ds).getD i [] = rows.getD i [] := by simp [List.getD, List.getElem?_append_left h]
    rw [e1, e2]
    exact up _ _ (hr i h)
  · have hi2 : i = rows.length + (i - rows.length) := by omega
    generalize i - rows.length = m at hi2
    subst hi2
    have e1 : (cells ++ news).drop ((rows.length + m) * fs.length) = news.drop (m * fs.length) := by
      rw [Nat.add_mul, ← hcl, List.drop_append, List.drop_eq_nil_of_le (by omega), List.nil_append]
      congr 1; omega
    have e2 : (rows ++ ds).getD (rows.length + m) [] = ds.getD m [] := by simp [List.getD, List.getElem?_append_right]
    rw [e1, e2]
    exact up _ _ (hn m (by omega))
theorem flat_cells {α : Type} (f : Nat → Nat → α) (n k : Nat) : ((List.range n).flatMap fun i => (List.range k).map (f i)).length = n * k := by
  induction n with
  | zero => simp
  | succ n ih => simp [List.range_succ, List.flatMap_append] at ih ⊢; rw [ih, Nat.add_mul]; omega
theorem flat_at {α : Type} (f : Nat → Nat → α) (n k : Nat) : ∀ i, i < n → (((List.range n).flatMap fun i => (List.range k).map (f i)).drop (i * k)).take k = (List.range k).map (f i) := by
  induction n with
  | zero => intro i hi; omega
  | succ n ih =>
    intro i hi
    have hl := flat_cells f n k
    rw [List.range_succ, List.flatMap_append]
    by_cases h : i < n
    · have : (i + 1) * k ≤ n * k := Nat.mul_le_mul_right _ h
      rw [Nat.add_mul] at this
      rw [List.drop_append_of_le_length (by omega), List.take_append_of_le_length (by rw [List.length_drop]; omega), ih i h]
    · have : i = n := by omega
      subst this
      rw [List.drop_append, List.drop_eq_nil_of_le (by omega), hl, Nat.sub_self]
      simp only [List.nil_append, List.drop_zero, List.flatMap_cons, List.flatMap_nil, List.append_nil]
      exact List.take_of_length_le (by simp)
theorem flat_get {α : Type} (f : Nat → Nat → α) (n k m : Nat) (u : α) (h : ((List.range n).flatMap fun i => (List.range k).map (f i))[m]? = some u) : ∃ i j, i < n ∧ j < k ∧ m = i * k + j ∧ u = f i j := by
  have hm := (List.getElem?_eq_some_iff.1 h).1
  rw [flat_cells] at hm
  have hk : 0 < k := by
    rcases Nat.eq_zero_or_pos k with h0 | h0
    · subst h0; simp at hm
    · exact h0
  have hi : m / k < n := Nat.div_lt_of_lt_mul (by rw [Nat.mul_comm]; exact hm)
  have hj : m % k < k := Nat.mod_lt _ hk
  have hmm : m = (m / k) * k + m % k := by rw [Nat.mul_comm]; exact (Nat.div_add_mod m k).symm
  refine ⟨m / k, m % k, hi, hj, hmm, ?_⟩
  have h1 := flat_at f n k (m / k) hi
  have h2 : ((((List.range n).flatMap fun i => (List.range k).map (f i)).drop (m / k * k)).take k)[m % k]? = some u := by
    rw [List.getElem?_take, if_pos hj, List.getElem?_drop, ← hmm]; exact h
  rw [h1] at h2
  simp [hj] at h2
  exact h2.symm
/-- each cell that is read is one cell -/
theorem Rd.one {w : World} {S : Nat → Prop} {t : Ty} {v : Value} {d : D} (h : Rd w S t v d) : v.oneCell' = true := by
  cases h <;> rfl
theorem RdL.ones {w : World} {S : Nat → Prop} : ∀ {ts : List Ty} {vs : List Value} {ds : List D}, RdL w S ts vs ds → ∀ u ∈ vs, u.oneCell' = true
  | [], [], [], _, u, hu => by simp at hu
  | _ :: ts, _ :: vs, _ :: ds, h, u, hu => by
    rcases List.mem_cons.1 hu with e | hu
    · subst e; exact h.1.one
    · exact RdL.ones (ts := ts) (vs := vs) (ds := ds) h.2 u hu
  | _ :: _, [], _, h, _, _ => h.elim
  | _ :: _, _ :: _, [], h, _, _ => h.elim
  | [], _ :: _, _, h, _, _ => h.elim
  | [], [], _ :: _, h, _, _ => h.elim
/-- the element type's row -/
def Info (P : Program) (E : TypeId) (k bytes : Nat) : Prop := ∃ (i : TypeInfo) (z : Value), P.info? E = some i ∧ i.zero = some z ∧ i.size = k ∧ i.bytes = bytes ∧ z.cells.size = k
theorem run_app {P : Program} {w w2 : World} {base : Nat} {t ty E : TypeId} {S : Nat → Prop} {fs : List Ty} {k bytes : Nat} (hk : fs.length = k) (hk0 : 0 < k) (hkb : k ≤ 64) (hbb : bytes ≤ 1024) (ht : P.underlying t = some (.slice E)) (hi : Info P E k bytes)
    {v : Value} {rows : List (List D)} (hown : OwnR base w E S fs v rows) (hw2 : Below w.heap.size w w2) (ad : Addr) (m c : Nat) (news : List Value) (ds : List (List D)) (hdm : ds.length = m)
    (hl : news.length = m * k) (hnews : ∀ j u, news[j]? = some u → w2.cell? (ad.add j) = some u) (h1 : ∀ u ∈ news, u.oneCell' = true)
    (hn : ∀ i, i < ds.length → RdL w2 (fun b => S b ∧ v.ownBlock ≠ some b) fs ((news.drop (i * fs.length)).take fs.length) (ds.getD i [])) (hb : (rows.length + m) * 1024 ≤ 140737488355328) (hbase : base ≤ w2.heap.size) :
    ∃ v' w', (Builtin.append_ #[t, t] ty #[v, .slice (some ad) m c]).run P w2 = .ok v' w' ∧ OwnR base w' E S fs v' (rows ++ ds) ∧ w2.grownBy w' v.ownBlock ∧ (v'.ownBlock = v.ownBlock ∨ v'.ownBlock = some w2.heap.size) := by
  subst hk
  obtain ⟨i, z, e1, e2, e3, e4, e5⟩ := hi
  obtain ⟨cells, ho, hr⟩ := hown.below hw2
  have hbb2 : (rows.length + m) * bytes ≤ 140737488355328 := Nat.le_trans (Nat.mul_le_mul_left _ hbb) hb
  obtain ⟨v', w', q1, q2, q3, _, q5⟩ := run_append_own_at (P := P) w2 base t ty E i z fs.length bytes ht e1 e2 e3 e4 e5 hk0 v rows.length cells ho ad m c news hl hnews h1 (by unfold maxLen; omega) hbb2 hbase
  exact ⟨v', w', q1, OwnR.grows hr ho.1 hn (by rw [hdm]; exact q2) q3 q5, q3, q5⟩
theorem wp_app {P : Program} {w2 : World} {o : Oper} {a : Act} {K : Act → World → Prop} {Q : Exit → Act → World → Prop} (s x : Operand) (t : TypeId)
    (ho : o.op = .call { callee := .builtin .append, args := #[s, x], argTypes := #[t, t] }) (v xv : Value) (hs : a.eval s = v) (hx : a.eval x = xv)
    (R : Value → World → Prop) (hrun : ∃ v' w', (Builtin.append_ #[t, t] o.type #[v, xv]).run P w2 = .ok v' w' ∧ R v' w') (h : ∀ v' w', R v' w' → K (a.put o.dst v') w') : o.wp P a w2 K Q := by
  obtain ⟨v', w', hrun, hR⟩ := hrun
  unfold Oper.wp execOp
  simp only [ho, resolve, invoke, builtin, Sem.run_bind, Sem.run_pure, Result.andThen_ok, List.map_toArray, List.map_cons, List.map_nil, hs, hx, hrun]
  exact h v' w' hR
/-- append(s, x), one struct x, that was laid in a block just before -/
theorem run_app1 {P : Program} {wr : World} {t ty : TypeId} {base : Nat} {E : TypeId} {S : Nat → Prop} {fs : List Ty} {k bytes : Nat} (hk : fs.length = k) (hk0 : 0 < k) (hkb : k ≤ 64) (hbb : bytes ≤ 1024)
    (ht : P.underlying t = some (.slice E)) (hi : Info P E k bytes) (v : Value) (rows : List (List D)) (hown : OwnR base wr E S fs v rows) (cs : List Value) (d : List D)
    (hd : RdL wr (fun b => S b ∧ v.ownBlock ≠ some b) fs cs d) (T : TypeId) (hb : (rows.length + 1) * 1024 ≤ 140737488355328) (hbase : base ≤ wr.heap.size) :
    ∃ v' w', (Builtin.append_ #[t, t] ty #[v, .slice (some ⟨wr.heap.size, 0, none⟩) 1 1]).run P (wr.alloc (.cells cs.toArray T)) = .ok v' w' ∧ OwnR base w' E S fs v' (rows ++ [d]) ∧ wr.grownBy w' v.ownBlock ∧ (v'.ownBlock = v.ownBlock ∨ ∃ g, v'.ownBlock = some g ∧ wr.heap.size ≤ g) := by
  have hlc := hd.lens.1
  obtain ⟨v', w', q1, q2, q3, q4⟩ := run_app (P := P) (ty := ty) (t := t) hk hk0 hkb hbb ht hi hown ((Below.refl _ _).alloc (Nat.le_refl _) (.cells cs.toArray T)) ⟨wr.heap.size, 0, none⟩ 1 1 cs [d] rfl (by omega)
    (fun j u hj => by rw [WideShapes.add_plain, World.cell?_alloc_at _ _ _ _ rfl]; simpa using hj) hd.ones
    (fun i hi => by
      have : i = 0 := by simp at hi; omega
      subst this
      have e : (cs.drop (0 * fs.length)).take fs.length = cs := by rw [Nat.zero_mul, List.drop_zero]; exact List.take_of_length_le (by omega)
      rw [e]
      exact hd.same (Same.alloc _ _ _)) hb (by simp; omega)
  refine ⟨v', w', q1, q2, ⟨q3.os, q3.tape, q3.output, by have := q3.size; simp at this; omega, fun b hb2 hne => by rw [q3.block b (by simp; omega) hne, Below.heap_alloc _ _ _ hb2]⟩, ?_⟩
  rcases q4 with e | e
  · exact .inl e
  · exact .inr ⟨_, e, by simp⟩
theorem wpList_app {P : Program} {ops : Array Oper} {rest : List Oper} {o : Oper} {a : Act} {Q : Exit → Act → World → Prop} {wr : World} (hgd : o.guard = none) (s x : Operand) (t : TypeId)
    (ho : o.op = .call { callee := .builtin .append, args := #[s, x], argTypes := #[t, t] }) {base : Nat} {E : TypeId} {S : Nat → Prop} {fs : List Ty} {k bytes : Nat} (hk : fs.length = k) (hk0 : 0 < k) (hkb : k ≤ 64) (hbb : bytes ≤ 1024)
    (ht : P.underlying t = some (.slice E)) (hi : Info P E k bytes) (v : Value) (rows : List (List D)) (hs : a.eval s = v) (hown : OwnR base wr E S fs v rows) (cs : List Value) (d : List D)
    (hd : RdL wr (fun b => S b ∧ v.ownBlock ≠ some b) fs cs d) (T : TypeId) (ad : Addr) (had : ad = ⟨wr.heap.size, 0, none⟩) (hx : a.eval x = .slice (some ad) 1 1) (hb : (rows.length + 1) * 1024 ≤ 140737488355328) (hbase : base ≤ wr.heap.size)
    (h : ∀ v' w', OwnR base w' E S fs v' (rows ++ [d]) → wr.grownBy w' v.ownBlock → (v'.ownBlock = v.ownBlock ∨ ∃ g, v'.ownBlock = some g ∧ wr.heap.size ≤ g) → wpList P ops Q rest (a.put o.dst v') w') : wpList P ops Q (o :: rest) a (wr.alloc (.cells cs.toArray T)) := by
  subst had
  refine wpList_plain hgd fun K hK => ?_
  exact wp_app s x t ho v _ hs hx (fun v' w' => OwnR base w' E S fs v' (rows ++ [d]) ∧ wr.grownBy w' v.ownBlock ∧ (v'.ownBlock = v.ownBlock ∨ ∃ g, v'.ownBlock = some g ∧ wr.heap.size ≤ g)) (run_app1 hk hk0 hkb hbb ht hi v rows hown cs d hd T hb hbase) (fun v' w' hR => hK _ _ (h v' w' hR.1 hR.2.1 hR.2.2))
/-- the same, in a region that draws its order -/
theorem step_app {P : Program} {ops : Array Oper} {o : Oper} {a : Act} {K : Act → World → Prop} {Q : Exit → Act → World → Prop} {F : Prop} {wr : World} (hgd : o.guard = none) (s x : Operand) (t : TypeId)
    (ho : o.op = .call { callee := .builtin .append, args := #[s, x], argTypes := #[t, t] }) {base : Nat} {E : TypeId} {S : Nat → Prop} {fs : List Ty} {k bytes : Nat} (hk : fs.length = k) (hk0 : 0 < k) (hkb : k ≤ 64) (hbb : bytes ≤ 1024)
    (ht : P.underlying t = some (.slice E)) (hi : Info P E k bytes) (v : Value) (rows : List (List D)) (hs : a.eval s = v) (hown : OwnR base wr E S fs v rows) (cs : List Value) (d : List D)
    (hd : RdL wr (fun b => S b ∧ v.ownBlock ≠ some b) fs cs d) (T : TypeId) (ad : Addr) (had : ad = ⟨wr.heap.size, 0, none⟩) (hx : a.eval x = .slice (some ad) 1 1) (hb : (rows.length + 1) * 1024 ≤ 140737488355328) (hbase : base ≤ wr.heap.size)
    (h : ∀ v' w', OwnR base w' E S fs v' (rows ++ [d]) → wr.grownBy w' v.ownBlock → (v'.ownBlock = v.ownBlock ∨ ∃ g, v'.ownBlock = some g ∧ wr.heap.size ≤ g) → K (a.put o.dst v') w') :
    if Region.wanted o (yielded ops a.tmps) = true then Oper.wp P o a (wr.alloc (.cells cs.toArray T)) K Q else F := by
  subst had
  have hw : Region.wanted o (yielded ops a.tmps) = true := by simp [Region.wanted, hgd]
  rw [if_pos hw]
  exact wp_app s x t ho v _ hs hx (fun v' w' => OwnR base w' E S fs v' (rows ++ [d]) ∧ wr.grownBy w' v.ownBlock ∧ (v'.ownBlock = v.ownBlock ∨ ∃ g, v'.ownBlock = some g ∧ wr.heap.size ≤ g)) (run_app1 hk hk0 hkb hbb ht hi v rows hown cs d hd T hb hbase) (fun v' w' hR => h v' w' hR.1 hR.2.1 hR.2.2)
def Ty.flat : Ty → Bool
  | .sl _ => false
  | _ => true
theorem Rd.any {w : World} {S T : Nat → Prop} {t : Ty} {v : Value} {d : D} (hf : t.flat = true) (h : Rd w S t v d) : Rd w T t v d := by
  cases h with
  | int h => exact .int h
  | bool => exact .bool
  | str h => exact .str h
  | emp _ _ => simp [Ty.flat] at hf
  | row _ _ _ _ _ _ _ _ _ _ _ _ => simp [Ty.flat] at hf
theorem flat_in {w : World} {S T : Nat → Prop} {fs : List Ty} (h : fs.all Ty.flat = true) : ∀ (j : Nat) (v : Value) (d : D), j < fs.length → Rd w T (fs.getD j default) v d → Rd w S (fs.getD j default) v d := by
  intro j v d hj hr
  refine hr.any ?_
  have e : fs.getD j default = fs[j] := by simp [List.getD, hj]
  rw [e]
  exact List.all_eq_true.1 h _ (List.getElem_mem hj)
/-- append(s, xs...) -/
theorem wpList_apps {P : Program} {ops : Array Oper} {rest : List Oper} {o : Oper} {a : Act} {Q : Exit → Act → World → Prop} {wr : World} (hgd : o.guard = none) (s x : Operand) (t : TypeId)
    (ho : o.op = .call { callee := .builtin .append, args := #[s, x], argTypes := #[t, t] }) {base : Nat} {E : TypeId} {S : Nat → Prop} {fs : List Ty} {k bytes : Nat} (hk : fs.length = k) (hk0 : 0 < k) (hkb : k ≤ 64) (hbb : bytes ≤ 1024)
    (ht : P.underlying t = some (.slice E)) (hi : Info P E k bytes) (v : Value) (rows : List (List D)) (hs : a.eval s = v) (hown : OwnR base wr E S fs v rows) (ax : Option Addr) (m c : Nat) (ds : List (List D)) (hx : a.eval x = .slice ax m c)
    {T : Nat → Prop} (hd : Sl wr T fs ax m c ds) (hin : ∀ (j : Nat) (u : Value) (d : D), j < fs.length → Rd wr T (fs.getD j default) u d → Rd wr (fun b => S b ∧ v.ownBlock ≠ some b) (fs.getD j default) u d) (hb : (rows.length + m) * 1024 ≤ 140737488355328) (hbase : base ≤ wr.heap.size)
    (h : ∀ v' w', OwnR base w' E S fs v' (rows ++ ds) → wr.grownBy w' v.ownBlock → (v'.ownBlock = v.ownBlock ∨ ∃ g, v'.ownBlock = some g ∧ wr.heap.size ≤ g) → wpList P ops Q rest (a.put o.dst v') w') : wpList P ops Q (o :: rest) a wr := by
  refine wpList_plain hgd fun K hK => ?_
  refine wp_app s x t ho v _ hs hx (fun v' w' => OwnR base w' E S fs v' (rows ++ ds) ∧ wr.grownBy w' v.ownBlock ∧ (v'.ownBlock = v.ownBlock ∨ ∃ g, v'.ownBlock = some g ∧ wr.heap.size ≤ g)) ?_ (fun v' w' hR => hK _ _ (h v' w' hR.1 hR.2.1 hR.2.2))
  have hlen := hd.len
  rcases ax with _ | ad
  · obtain ⟨h0, h0'⟩ := hd.bd.2.2.2 rfl
    subst h0; subst h0'
    have hnil : ds = [] := List.eq_nil_of_length_eq_zero hlen
    subst hnil
    obtain ⟨i, z, e1, e2, e3, e4, e5⟩ := hi
    obtain ⟨cells, hoc, hr⟩ := hown
    refine ⟨v, wr, ?_, by rw [List.append_nil]; exact ⟨cells, hoc, hr⟩, World.grownBy.refl _ _, .inl rfl⟩
    rcases hoc.2 with ⟨rfl, h2⟩ | ⟨g, cap, cur, rfl, _, _, hnc, _⟩
    · simp [Builtin.append_, run_underlying ht, sizeOf, typeInfo, e1, Builtin.lenOf, Builtin.firstCells]
    · simp [Builtin.append_, run_underlying ht, sizeOf, typeInfo, e1, Builtin.lenOf, Builtin.firstCells, hnc, storeCells]
  · by_cases hp : 0 < m
    · obtain ⟨b, off, e, hS, hbl, vals, hc, hr⟩ := hd.rowAt hp
      cases e
      obtain ⟨v', w', q1, q2, q3, q4⟩ := run_app (P := P) (ty := o.type) (t := t) hk hk0 hkb hbb ht hi hown (Below.refl _ _) ⟨b, off, none⟩ m c ((List.range m).flatMap fun i => (List.range k).map (vals i)) ds hlen (flat_cells _ _ _)
        (fun j u hj => by
          obtain ⟨i, jj, h1, h2, rfl, rfl⟩ := flat_get _ _ _ _ _ hj
          rw [WideShapes.add_plain, ← Nat.add_assoc]
          subst hk
          exact hc i jj h1 h2)
        (fun u hu => by
          obtain ⟨j, hj⟩ := List.getElem?_of_mem hu
          obtain ⟨i, jj, h1, h2, _, rfl⟩ := flat_get _ _ _ _ _ hj
          exact ((hr i h1).2 jj (by omega)).one)
        (fun i hi => by
          subst hk
          rw [flat_at _ _ _ i (by omega)]
          exact RdL.of_at _ (hr i (by omega)).1 (fun j hj => hin j _ _ hj ((hr i (by omega)).2 j hj))) hb hbase
      exact ⟨v', w', q1, q2, q3, q4.imp id (fun e => ⟨_, e, Nat.le_refl _⟩)⟩
    · have h0 : m = 0 := by omega
      subst h0
      have hnil : ds = [] := List.eq_nil_of_length_eq_zero hlen
      subst hnil
      obtain ⟨v', w', q1, q2, q3, q4⟩ := run_app (P := P) (ty := o.type) (t := t) hk hk0 hkb hbb ht hi hown (Below.refl _ _) ad 0 c [] [] rfl (by simp) (fun j u hj => by simp at hj) (fun u hu => by simp at hu) (fun i hi => by simp at hi) hb hbase
      exact ⟨v', w', q1, q2, q3, q4.imp id (fun e => ⟨_, e, Nat.le_refl _⟩)⟩
/-- the i-th number -/
def nu (xs : List Int) (i : Nat) : Int := xs.getD i 0
theorem SlI.cell {w : World} {S : Nat → Prop} {b off n c i : Nat} {xs : List Int} (h : SlI w S (some ⟨b, off, none⟩) n c xs) (hi : i < n) : b < w.heap.size ∧ w.cell? ⟨b, off + i, none⟩ = some (.int .i64 (nu xs i)) ∧ I64 (nu xs i) := by
  have hl := h.len
  rw [ints_len] at hl
  obtain ⟨b2, off2, e, hS, hb, vals, hc, hr⟩ := h.rowAt (by omega)
  simp only [Option.some.injEq, Addr.mk.injEq, and_true] at e
  obtain ⟨rfl, rfl⟩ := e
  have h1 := (hr i hi).2 0 (by decide)
  have he : ((ints xs).getD i []).getD 0 default = .int (nu xs i) := by simp [ints, List.getD, nu, show i < xs.length by omega]
  rw [he] at h1
  obtain ⟨e1, e2⟩ := Rd.i64 h1
  have h2 := hc i 0 hi (by decide)
  simp only [List.length_cons, List.length_nil, Nat.zero_add, Nat.mul_one, Nat.add_zero] at h2
  exact ⟨hb, by rw [h2, e1], e2⟩
theorem SlI.i64 {w : World} {S : Nat → Prop} {a : Option Addr} {n c : Nat} {xs : List Int} (h : SlI w S a n c xs) : ∀ x ∈ xs, I64 x := by
  intro x hx
  obtain ⟨i, hi, rfl⟩ := List.mem_iff_getElem.1 hx
  have hl := h.len
  rw [ints_len] at hl
  obtain ⟨b, off, rfl⟩ := h.addr (by omega)
  have := (SlI.cell h (show i < n by omega)).2.2
  simpa [nu, List.getD, hi] using this
theorem Blk.slI {w : World} {g : Nat} {t : TypeId} {xs : List Int} (h : Blk w g t (xs.map (Value.int .i64)).toArray) (hx : ∀ x ∈ xs, I64 x) {S : Nat → Prop} (hS : S g) (hn : xs.length ≤ 17592186044416) : SlI w S (some ⟨g, 0, none⟩) xs.length xs.length xs := by
  by_cases hp : 0 < xs.length
  · have := Sl.mk (w := w) (S := S) (fs := [.int .i64]) (b := g) (off := 0) (c := xs.length) (rows := ints xs) (xs.map (Value.int .i64)) (by rw [ints_len]; exact hp) (by rw [ints_len]; exact Nat.le_refl _) (by unfold maxLen; omega) (by rw [ints_len]; exact hn) hS h.lt (by rw [ints_len]; simp)
      (fun m v hm => by rw [Nat.zero_add, h.cell]; simpa using hm)
      (fun i hi => by
        rw [ints_len] at hi
        have e1 : (((xs.map (Value.int .i64)).drop (i * 1)).take 1) = [.int .i64 (xs[i])] := by
          rw [Nat.mul_one, List.drop_eq_getElem_cons (by simpa using hi)]; simp
        have e2 : (ints xs).getD i [] = [.int xs[i]] := by simp [ints, List.getD, hi]
        show RdL w S [.int .i64] (((xs.map (Value.int .i64)).drop (i * 1)).take 1) _
        rw [e1, e2]
        exact ⟨.ofI64 (hx _ (List.getElem_mem hi)), trivial⟩) (fun m => h.frozen _)
    rw [ints_len] at this
    exact this
  · have : xs = [] := List.eq_nil_of_length_eq_zero (by omega)
    subst this
    exact .emp (fun e => by simp at e) (by simp [maxLen])
end Go.Proofs.Yteiojclemodhaaa
