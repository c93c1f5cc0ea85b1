/- The operations of the symbolic walk that make no call: what each does to the state, and that the machine does so. No condition. -/
import Derived.Test.YteiojclemodhaaaSyM
namespace Go.Proofs.Yteiojclemodhaaa
open Go.RowKit Go.ChangeShapes Go.WideShapes Go.Deep
set_option linter.unusedVariables false
set_option linter.unusedSimpArgs false
/-- what the walk must be told: the rows by their elements' types; what a call does -/
structure Cfg where
  kd : TypeId → Option RL
  orc : Nat → FuncId → St → List SV → Option Upd
/-- an operation does as u says -/
def Does (P : Program) (base : Nat) (X : Cx) (w0 : World) (st : St) (o : Oper) (u : Upd) : Prop :=
  ∀ (E : Env) (a : Act) (w : World) (K : Act → World → Prop) (Q : Exit → Act → World → Prop), st.Ok base X w0 E a w → (∀ p ∈ u.needs, p) →
    (∀ E' w' v, E.Le E' → Same E.lab w w' → DenV E' w' u.val v → MemOk base X w0 E' (putF u.mem st.m) w' → K (a.put o.dst v) w') → o.wp P a w K Q
theorem wp_value {P : Program} {o : Oper} {a : Act} {w w' : World} {v : Value} {K : Act → World → Prop} {Q : Exit → Act → World → Prop} (h : (execOp a.eval o).run P w = .ok (.value v) w') (hK : K (a.put o.dst v) w') : o.wp P a w K Q := by
  unfold Oper.wp; rw [h]; exact hK
theorem wp_skipv {P : Program} {o : Oper} {a : Act} {w w' : World} {K : Act → World → Prop} {Q : Exit → Act → World → Prop} (h : (execOp a.eval o).run P w = .ok .skip w') (hK : K (a.put o.dst undef) w') : o.wp P a w K Q := by
  unfold Oper.wp; rw [h]; exact hK
theorem Same.rfl' {S : Nat → Prop} {w : World} : Same S w w := ⟨Nat.le_refl _, fun _ _ _ => rfl⟩
/-- an operation that yields and leaves the world alone -/
theorem Does.pure {P : Program} {base : Nat} {X : Cx} {w0 : World} {st : St} {o : Oper} {n : List Prop} {s : SV}
    (h : ∀ E a w, st.Ok base X w0 E a w → (∀ p ∈ n, p) → ∃ v, (execOp a.eval o).run P w = .ok (.value v) w ∧ DenV E w s v) : Does P base X w0 st o ⟨n, s, []⟩ := by
  intro E a w K Q hst hn hK
  obtain ⟨v, h1, h2⟩ := h E a w hst hn
  exact wp_value h1 (hK E w v (Env.Le.refl E) Same.rfl' h2 hst.mem)
theorem Does.need {P : Program} {base : Nat} {X : Cx} {w0 : World} {st : St} {o : Oper} {n n2 : List Prop} {s : SV} {mm : List (Nat × BE)} (h : (∀ p ∈ n, p) → Does P base X w0 st o ⟨n2, s, mm⟩) (hn : ∀ p, p ∈ n2 → p ∈ n) : Does P base X w0 st o ⟨n, s, mm⟩ := by
  intro E a w K Q hst hp hK
  exact h hp E a w K Q hst (fun p hp2 => hp p (hn p hp2)) hK
/-- choosing -/
def pickB (b x y : Bool) : Bool := if b then x else y
def pickI (b : Bool) (x y : Int) : Int := if b then x else y
theorem pickB_f (b x : Bool) : pickB b x false = (b && x) := by cases b <;> rfl
theorem pickB_t (b y : Bool) : pickB b true y = (b || y) := by cases b <;> rfl
theorem pickB_n (b x : Bool) : pickB b x true = (!b || x) := by cases b <;> rfl
theorem pickB_g (b y : Bool) : pickB b false y = (!b && y) := by cases b <;> rfl
mutual
def mrgV (b : Bool) : SV → SV → SV
  | .int k n, .int k' n' => if k = k' then .int k (pickI b n n') else .any
  | .bool x, .bool y => .bool (pickB b x y)
  | .str x, .str y => .str (if b then x else y)
  | .nil, .nil => .nil
  | .nil, .sl ls r => match RL.ite b r.emp r with | some r2 => .sl ls r2 | none => .any
  | .sl ls r, .nil => match RL.ite b r r.emp with | some r2 => .sl ls r2 | none => .any
  | .sl ls r, .sl ls' r' => match RL.ite b r r' with | some r2 => .sl (ls ++ ls') r2 | none => .any
  | .own t, .own t' => if t = t' then .own t else .any
  | .ptr t o, .ptr t' o' => if t = t' then (if o = o' then .ptr t o else .any) else .any
  | .agg vs, .agg us => if vs.length = us.length then .agg (mrgL b vs us) else .any
  | .tup vs, .tup us => if vs.length = us.length then .tup (mrgL b vs us) else .any
  | _, _ => .any
def mrgL (b : Bool) : List SV → List SV → List SV
  | s :: ss, t :: ts => mrgV b s t :: mrgL b ss ts
  | _, _ => []
end
theorem nilsl {E : Env} {w : World} {ls : List Nat} {r : RL} {v : Value} (h : DenV E w .nil v) : DenV E w (.sl ls r.emp) v := by
  have : v = .slice none 0 0 := h
  subst this
  show Rd w (E.set ls) (.sl r.emp.tys) _ (.sl r.emp.rows)
  rw [r.emp_ok.1]
  exact .emp (fun _ => rfl) (by decide)
theorem setl {E : Env} {w : World} {ls ms : List Nat} {r : RL} {v : Value} (hm : ∀ i, i ∈ ls → i ∈ ms) (h : DenV E w (.sl ls r) v) : DenV E w (.sl ms r) v :=
  Rd.mono h (fun b _ => Env.set_mono hm b)
mutual
theorem mrgV_t {E : Env} {w : World} : ∀ (s t : SV) (v : Value), DenV E w s v → DenV E w (mrgV true s t) v := by
  intro s t v h
  unfold mrgV
  split
  · split
    · exact h
    · trivial
  · exact h
  · exact h
  · exact h
  · split
    · rename_i e; rw [RL.ite_t e]; exact nilsl h
    · trivial
  · split
    · rename_i e; rw [RL.ite_t e]; exact h
    · trivial
  · split
    · rename_i e; rw [RL.ite_t e]; exact setl (fun i hi => List.mem_append_left _ hi) h
    · trivial
  · split
    · exact h
    · trivial
  · split
    · split
      · exact h
      · trivial
    · trivial
  · split
    · rename_i e
      obtain ⟨xs, h1, h2⟩ := h
      exact ⟨xs, h1, mrgL_t _ _ xs e h2⟩
    · trivial
  · split
    · rename_i e
      obtain ⟨xs, h1, h2⟩ := h
      exact ⟨xs, h1, mrgL_t _ _ xs e h2⟩
    · trivial
  · trivial
theorem mrgL_t {E : Env} {w : World} : ∀ (ss ts : List SV) (vs : List Value), ss.length = ts.length → DenL E w ss vs → DenL E w (mrgL true ss ts) vs
  | [], [], [], _, _ => by unfold mrgL; trivial
  | s :: ss, t :: ts, x :: xs, hl, h => by unfold mrgL; exact ⟨mrgV_t s t x h.1, mrgL_t ss ts xs (by simpa using hl) h.2⟩
  | [], _ :: _, _, hl, _ => by simp at hl
  | _ :: _, [], _, hl, _ => by simp at hl
  | [], [], _ :: _, _, h => h.elim
  | _ :: _, _ :: _, [], _, h => h.elim
end
mutual
theorem mrgV_f {E : Env} {w : World} : ∀ (s t : SV) (v : Value), DenV E w t v → DenV E w (mrgV false s t) v := by
  intro s t v h
  unfold mrgV
  split
  · split
    · rename_i e; subst e; exact h
    · trivial
  · exact h
  · exact h
  · exact h
  · split
    · rename_i e; rw [RL.ite_f e]; exact h
    · trivial
  · split
    · rename_i e; rw [RL.ite_f e]; exact nilsl h
    · trivial
  · split
    · rename_i e; rw [RL.ite_f e]; exact setl (fun i hi => List.mem_append_right _ hi) h
    · trivial
  · split
    · rename_i e; subst e; exact h
    · trivial
  · split
    · split
      · rename_i e1 e2; subst e1; subst e2; exact h
      · trivial
    · trivial
  · split
    · rename_i e
      obtain ⟨xs, h1, h2⟩ := h
      exact ⟨xs, h1, mrgL_f _ _ xs e h2⟩
    · trivial
  · split
    · rename_i e
      obtain ⟨xs, h1, h2⟩ := h
      exact ⟨xs, h1, mrgL_f _ _ xs e h2⟩
    · trivial
  · trivial
theorem mrgL_f {E : Env} {w : World} : ∀ (ss ts : List SV) (vs : List Value), ss.length = ts.length → DenL E w ts vs → DenL E w (mrgL false ss ts) vs
  | [], [], [], _, _ => by unfold mrgL; trivial
  | s :: ss, t :: ts, x :: xs, hl, h => by unfold mrgL; exact ⟨mrgV_f s t x h.1, mrgL_f ss ts xs (by simpa using hl) h.2⟩
  | [], _ :: _, _, hl, _ => by simp at hl
  | _ :: _, [], _, hl, _ => by simp at hl
  | [], [], _ :: _, _, h => h.elim
  | _ :: _, _ :: _, [], _, h => h.elim
end
theorem merge_ok {E : Env} {w : World} (b : Bool) {s t : SV} {v u : Value} (hs : b = true → DenV E w s v) (ht : b = false → DenV E w t u) : DenV E w (mrgV b s t) (if b then v else u) := by
  cases b
  · exact mrgV_f s t u (ht rfl)
  · exact mrgV_t s t v (hs rfl)
section ops
variable {P : Program} {base : Nat} {X : Cx} {w0 : World} {st : St}
/-- move, assign -/
def cMove (st : St) (x : Operand) : Upd := ⟨(strip (st.ev x)).2, (strip (st.ev x)).1, []⟩
theorem cMove_ok (o : Oper) (x : Operand) (ho : o.op = .move x ∨ o.op = .assign x) : Does P base X w0 st o (cMove st x) :=
  Does.pure fun E a w h hn => ⟨a.eval x, by rcases ho with ho | ho <;> simp [execOp, ho, pure, Sem.run], strip_ok (h.ev x) hn⟩
/-- pick -/
def cPick (st : St) (c x y : Operand) : Option Upd :=
  match strip (st.ev c), strip (st.ev x), strip (st.ev y) with
  | (.bool b, n), (s, n1), (t, n2) => some ⟨n ++ n1.map (fun p => b = true → p) ++ n2.map (fun p => b = false → p), mrgV b s t, []⟩
  | _, _, _ => none
theorem cPick_ok (o : Oper) (c x y : Operand) (ho : o.op = .pick c x y) {u : Upd} (hu : cPick st c x y = some u) : Does P base X w0 st o u := by
  unfold cPick at hu
  split at hu
  case h_2 => simp at hu
  rename_i b n s n1 t n2 e1 e2 e3
  simp only [Option.some.injEq] at hu
  subst hu
  refine Does.pure fun E a w h hn => ?_
  have h1 := strip_ok (h.ev c) (fun p hp => hn p (by rw [e1] at hp; simp [hp]))
  rw [e1] at h1
  have h1 : a.eval c = .bool b := h1
  refine ⟨if b then a.eval x else a.eval y, by cases b <;> simp [execOp, ho, h1, asBool, pure, Sem.run, bind, Sem.bind], merge_ok b (fun hb => ?_) (fun hb => ?_)⟩
  · have h2 := strip_ok (h.ev x) (fun p hp => hn (b = true → p) (by rw [e2] at hp; simp only [List.mem_append, List.mem_map]; exact .inl (.inr ⟨p, hp, rfl⟩)) hb)
    rw [e2] at h2; exact h2
  · have h2 := strip_ok (h.ev y) (fun p hp => hn (b = false → p) (by rw [e3] at hp; simp only [List.mem_append, List.mem_map]; exact .inr ⟨p, hp, rfl⟩) hb)
    rw [e3] at h2; exact h2
/-- the cells of a value -/
def SV.cells : SV → List SV
  | .agg vs => vs
  | s => [s]
theorem cells_ok {E : Env} {w : World} {s : SV} {v : Value} (hf : s.cells.all SV.flat = true) (h : DenV E w s v) : ∃ xs, v.cells = xs.toArray ∧ DenL E w s.cells xs := by
  cases s
  case agg vs =>
    obtain ⟨xs, rfl, h2⟩ := h
    exact ⟨xs, rfl, h2⟩
  all_goals
    simp only [SV.cells, List.all_cons, List.all_nil, Bool.and_true] at hf
    first
      | (simp [SV.flat] at hf; done)
      | (refine ⟨[v], ?_, h, trivial⟩
         have := SV.flat_one hf h
         cases v <;> simp_all [Value.cells, Value.oneCell'])
def ofCs (z : Value) : List SV := z.cells.toList.map ofC
theorem ofCs_ok (E : Env) (w : World) : ∀ (l : List Value), DenL E w (l.map ofC) l
  | [] => trivial
  | v :: l => ⟨ofC_ok E w v, ofCs_ok E w l⟩
theorem take_alloc {E : Env} {w : World} (h : MemOk base X w0 E st.m w) {c : Nat} (hc : st.m c = .empty) (T : TypeId) {vs : List SV} {xs : List Value} (hd : DenL E w vs xs) (hf : vs.all SV.flat = true) :
    MemOk base X w0 (E.setβ c (.pointer (some ⟨w.heap.size, 0, none⟩))) (putF [(c, .cells T vs)] st.m) (w.alloc (.cells xs.toArray T)) ∧ E.Le (E.setβ c (.pointer (some ⟨w.heap.size, 0, none⟩))) ∧ Same E.lab w (w.alloc (.cells xs.toArray T)) := by
  have hE := Env.setβ_le (h.empty c hc).1 (.pointer (some ⟨w.heap.size, 0, none⟩))
  have hS : Same E.lab w (w.alloc (.cells xs.toArray T)) := Same.alloc _ _ _
  refine ⟨?_, hE, hS⟩
  rw [putF_one]
  refine h.take hc _ _ (by simp) (by simp) (fun b hb => ?_) ⟨rfl, rfl, rfl, by simp, fun b hb _ => Below.heap_alloc _ _ _ (Nat.lt_of_lt_of_le hb h.base)⟩ (fun b hb => ?_) ⟨w.heap.size, xs, rfl, heap_alloc_new _ _, DenL.mono hE hS _ _ hd, hf⟩
  · have : b < w.heap.size := by
      rcases hb with ⟨i, hi⟩ | ⟨t, ht⟩
      · exact (h.lab i b hi).1
      · exact h.lt ht
    exact Below.heap_alloc _ _ _ this
  · simp [vblock] at hb
    subst hb
    exact ⟨fun ⟨i, hi⟩ => Nat.lt_irrefl _ (h.lab i _ hi).1, fun t ht => Nat.lt_irrefl _ (h.lt ht), .inl h.base⟩
def BE.isEmpty : BE → Bool
  | .empty => true
  | _ => false
def St.free (st : St) (c : Nat) : Bool := (st.m c).isEmpty
theorem BE.of_empty {e : BE} (h : e.isEmpty = true) : e = .empty := by cases e <;> simp [BE.isEmpty] at h; rfl
theorem St.of_free {st : St} {c : Nat} (h : st.free c = true) : st.m c = .empty := BE.of_empty h
/-- box -/
def cBox (st : St) (c : Nat) (T : TypeId) (x : Operand) : Option Upd :=
  let s := strip (st.ev x)
  if st.free c then (if s.1.cells.all SV.flat then some ⟨s.2, .ptr c 0, [(c, .cells T s.1.cells)]⟩ else none) else none
theorem cBox_ok (o : Oper) (c : Nat) (T : TypeId) (x : Operand) (ho : o.op = .box T x) {u : Upd} (hu : cBox st c T x = some u) : Does P base X w0 st o u := by
  unfold cBox at hu
  dsimp only at hu
  split at hu
  case isFalse => simp at hu
  split at hu
  case isFalse => simp at hu
  rename_i hc hf
  simp only [Option.some.injEq] at hu
  subst hu
  intro E a w K Q h hn hK
  have h1 := strip_ok (h.ev x) hn
  obtain ⟨xs, hx, hd⟩ := cells_ok hf h1
  obtain ⟨m1, m2, m3⟩ := take_alloc h.mem (St.of_free hc) T hd hf
  refine wp_value (v := .pointer (some ⟨w.heap.size, 0, none⟩)) (w' := w.alloc (.cells xs.toArray T)) ?_ (hK _ _ _ m2 m3 ⟨w.heap.size, if_pos rfl, rfl⟩ m1)
  simp only [execOp, ho, Instr.box, newVar, newRow, hx]
  rfl
/-- alloc -/
def cAlloc (P : Program) (st : St) (c : Nat) (T : TypeId) : Option Upd :=
  match (P.info? T).bind (·.zero) with
  | some z => if st.free c then (if (ofCs z).all SV.flat then some ⟨[], .ptr c 0, [(c, .cells T (ofCs z))]⟩ else none) else none
  | none => none
theorem cAlloc_ok (o : Oper) (c : Nat) (T : TypeId) (ho : o.op = .alloc T) {u : Upd} (hu : cAlloc P st c T = some u) : Does P base X w0 st o u := by
  unfold cAlloc at hu
  split at hu
  case h_2 => simp at hu
  rename_i z hz
  split at hu
  case isFalse => simp at hu
  split at hu
  case isFalse => simp at hu
  rename_i hc hf
  simp only [Option.some.injEq] at hu
  subst hu
  intro E a w K Q h hn hK
  obtain ⟨m1, m2, m3⟩ := take_alloc h.mem (St.of_free hc) T (ofCs_ok E w z.cells.toList) hf
  refine wp_value (v := .pointer (some ⟨w.heap.size, 0, none⟩)) (w' := w.alloc (.cells z.cells.toList.toArray T)) ?_ (hK _ _ _ m2 m3 ⟨w.heap.size, if_pos rfl, rfl⟩ m1)
  cases hi : P.info? T with
  | none => simp [hi] at hz
  | some i =>
    simp [hi] at hz
    simp [execOp, ho, Instr.alloc, zeroValue, typeInfo, Sem.run_bind, hi, hz, newVar, newRow]
end ops
end Go.Proofs.Yteiojclemodhaaa
