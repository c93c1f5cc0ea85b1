/- The symbolic walk: the state, the memory, the operations. No condition. -/
import Derived.Test.YtejahcpnbkegfaaSxT
import Derived.Orders
namespace Go.Proofs.Ytejahcpnbkegfaa
open Go.RowKit Go.ChangeShapes Go.WideShapes Go.Deep
set_option linter.unusedVariables false
set_option linter.unusedSimpArgs false
structure Env.Le (E E' : Env) : Prop where
  β : ∀ t v, E.β t = some v → E'.β t = some v
  σ : ∀ i b, E.σ i b → E'.σ i b
theorem Env.Le.refl (E : Env) : E.Le E := ⟨fun _ _ h => h, fun _ _ h => h⟩
theorem Env.Le.trans {a b c : Env} (h : a.Le b) (k : b.Le c) : a.Le c := ⟨fun t v x => k.β t v (h.β t v x), fun i b x => k.σ i b (h.σ i b x)⟩
/-- all that labels name -/
def Env.lab (E : Env) (b : Nat) : Prop := ∃ i, E.σ i b
theorem Env.set_lab {E : Env} {ls : List Nat} {b : Nat} (h : E.set ls b) : E.lab b := ⟨h.choose, h.choose_spec.2⟩
theorem Env.Le.set {E E' : Env} (h : E.Le E') {ls : List Nat} {b : Nat} (hb : E.set ls b) : E'.set ls b := by
  obtain ⟨i, hi, hs⟩ := hb; exact ⟨i, hi, h.σ i b hs⟩
mutual
theorem DenV.mono {E E' : Env} {w w' : World} (hE : E.Le E') (hS : Same E.lab w w') : ∀ (s : SV) (v : Value), DenV E w s v → DenV E' w' s v
  | .any, _, _ => trivial
  | .int _ _, _, h => h
  | .bool _, _, h => h
  | .str _, _, h => h
  | .nil, _, h => h
  | .sl ls r, v, h => Rd.mono (Rd.same h (hS.mono fun b hb => Env.set_lab hb)) (fun b _ hb => hE.set hb)
  | .own t, v, h => ⟨hE.β _ _ h.1, h.2⟩
  | .ptr t off, v, h => by obtain ⟨b, h1, h2⟩ := h; exact ⟨b, hE.β _ _ h1, h2⟩
  | .el ls r i off, v, h => by
    obtain ⟨h0, b, o, c, h1, h2⟩ := h
    exact ⟨h0, b, o, c, h1, Rd.mono (Rd.same h2 (hS.mono fun b hb => Env.set_lab hb)) (fun b _ hb => hE.set hb)⟩
  | .oel t sz i off, v, h => by obtain ⟨b, n, c, h1, h2⟩ := h; exact ⟨b, n, c, hE.β _ _ h1, h2⟩
  | .agg vs, v, h => by obtain ⟨xs, h1, h2⟩ := h; exact ⟨xs, h1, DenL.mono hE hS vs xs h2⟩
  | .tup vs, v, h => by obtain ⟨xs, h1, h2⟩ := h; exact ⟨xs, h1, DenL.mono hE hS vs xs h2⟩
  | .fn _, _, h => h
  | .gd b s, v, h => ⟨fun hb => DenV.mono hE hS s v (h.1 hb), h.2⟩
theorem DenL.mono {E E' : Env} {w w' : World} (hE : E.Le E') (hS : Same E.lab w w') : ∀ (ss : List SV) (vs : List Value), DenL E w ss vs → DenL E' w' ss vs
  | [], [], _ => trivial
  | s :: ss, x :: xs, h => ⟨DenV.mono hE hS s x h.1, DenL.mono hE hS ss xs h.2⟩
  | [], _ :: _, h => h.elim
  | _ :: _, [], h => h.elim
end
theorem DenL.len {E : Env} {w : World} : ∀ {ss : List SV} {vs : List Value}, DenL E w ss vs → vs.length = ss.length
  | [], [], _ => rfl
  | _ :: ss, _ :: vs, h => by simp [DenL.len h.2]
  | [], _ :: _, h => h.elim
  | _ :: _, [], h => h.elim
theorem DenL.at {E : Env} {w : World} : ∀ {ss : List SV} {vs : List Value}, DenL E w ss vs → ∀ i, i < ss.length → DenV E w (ss.getD i .any) (vs.getD i undef)
  | s :: ss, x :: xs, h, 0, _ => h.1
  | s :: ss, x :: xs, h, i + 1, hi => DenL.at (ss := ss) (vs := xs) h.2 i (by simpa using hi)
  | [], _, _, i, hi => absurd hi (by simp)
  | _ :: _, [], h, _, _ => h.elim
theorem DenL.any {E : Env} {w : World} {ss : List SV} {vs : List Value} (h : DenL E w ss vs) (i : Nat) : DenV E w (ss.getD i .any) (vs.getD i undef) := by
  by_cases hi : i < ss.length
  · exact h.at i hi
  · simp [List.getD, Nat.le_of_not_lt hi, DenV]
theorem DenL.set {E : Env} {w : World} : ∀ {ss : List SV} {vs : List Value}, DenL E w ss vs → ∀ (i : Nat) (s : SV) (v : Value), DenV E w s v → DenL E w (ss.set i s) (vs.set i v)
  | _ :: ss, _ :: xs, h, 0, _, _, hs => ⟨hs, h.2⟩
  | _ :: ss, _ :: xs, h, i + 1, s, v, hs => ⟨h.1, DenL.set (ss := ss) (vs := xs) h.2 i s v hs⟩
  | [], [], _, _, _, _, _ => trivial
  | [], _ :: _, h, _, _, _, _ => h.elim
  | _ :: _, [], h, _, _, _, _ => h.elim
theorem DenL.take {E : Env} {w : World} : ∀ {ss : List SV} {vs : List Value}, DenL E w ss vs → ∀ n, DenL E w (ss.take n) (vs.take n)
  | _ :: ss, _ :: xs, h, 0 => by simp [DenL]
  | _ :: ss, _ :: xs, h, n + 1 => by simp only [List.take_succ_cons]; exact ⟨h.1, DenL.take (ss := ss) (vs := xs) h.2 n⟩
  | [], [], _, _ => by simp [DenL]
  | [], _ :: _, h, _ => h.elim
  | _ :: _, [], h, _ => h.elim
theorem DenL.drop {E : Env} {w : World} : ∀ {ss : List SV} {vs : List Value}, DenL E w ss vs → ∀ n, DenL E w (ss.drop n) (vs.drop n)
  | _ :: ss, _ :: xs, h, 0 => h
  | _ :: ss, _ :: xs, h, n + 1 => by simp only [List.drop_succ_cons]; exact DenL.drop (ss := ss) (vs := xs) h.2 n
  | [], [], _, _ => by simp [DenL]
  | [], _ :: _, h, _ => h.elim
  | _ :: _, [], h, _ => h.elim
theorem DenL.app {E : Env} {w : World} : ∀ {ss : List SV} {vs : List Value} {ts : List SV} {us : List Value}, DenL E w ss vs → DenL E w ts us → DenL E w (ss ++ ts) (vs ++ us)
  | _ :: ss, _ :: xs, _, _, h, k => ⟨h.1, DenL.app (ss := ss) (vs := xs) h.2 k⟩
  | [], [], _, _, _, k => k
  | [], _ :: _, _, _, h, _ => h.elim
  | _ :: _, [], _, _, h, _ => h.elim
theorem DenL.of_at {E : Env} {w : World} : ∀ {ss : List SV} {vs : List Value}, vs.length = ss.length → (∀ i, i < ss.length → DenV E w (ss.getD i .any) (vs.getD i undef)) → DenL E w ss vs
  | [], [], _, _ => trivial
  | _ :: ss, _ :: vs, hl, h => ⟨h 0 (by simp), DenL.of_at (by simpa using hl) (fun i hi => h (i + 1) (by simpa using hi))⟩
  | [], _ :: _, hl, _ => by simp at hl
  | _ :: _, [], hl, _ => by simp at hl
/-- may it lie in one cell? -/
def SV.flat : SV → Bool
  | .int _ _ | .bool _ | .str _ | .nil | .sl _ _ | .own _ | .ptr _ _ | .fn _ => true
  | _ => false
theorem SV.flat_one {E : Env} {w : World} {s : SV} {v : Value} (hf : s.flat = true) (h : DenV E w s v) : v.oneCell' = true := by
  cases s <;> simp only [SV.flat, Bool.false_eq_true] at hf
  case int => obtain ⟨rfl, _⟩ := h; rfl
  case bool => have : v = _ := h; subst this; rfl
  case str => obtain ⟨rfl, _⟩ := h; rfl
  case nil => have : v = _ := h; subst this; rfl
  case sl => exact Rd.one h
  case own => exact h.2
  case ptr => obtain ⟨b, _, rfl⟩ := h; rfl
  case fn => have : v = _ := h; subst this; rfl
theorem DenL.ones {E : Env} {w : World} : ∀ {ss : List SV} {vs : List Value}, ss.all SV.flat = true → DenL E w ss vs → ∀ v ∈ vs, v.oneCell' = true
  | [], [], _, _, _, h => by cases h
  | s :: ss, x :: xs, hf, h, v, hv => by
    simp only [List.all_cons, Bool.and_eq_true] at hf
    rcases List.mem_cons.1 hv with rfl | hv
    · exact SV.flat_one hf.1 h.1
    · exact DenL.ones hf.2 h.2 v hv
  | [], _ :: _, _, h, _, _ => h.elim
  | _ :: _, [], _, h, _, _ => h.elim
/-- what is known of a tag -/
inductive BE
  | empty
  | dead
  | cells (T : TypeId) (vs : List SV)
  | row (T : TypeId) (ls : List Nat) (r : RL)
instance : Inhabited BE := ⟨.dead⟩
def BE.live : BE → Bool
  | .cells .. | .row .. => true
  | _ => false
def vblock : Value → Option Nat
  | .pointer (some a) => some a.block
  | .slice (some a) _ _ => some a.block
  | _ => none
theorem vblock_own {v : Value} (h : ∃ a n c, v = .slice a n c) : v.ownBlock = vblock v := by
  obtain ⟨a, n, c, rfl⟩ := h
  cases a <;> rfl
/-- tag t has block b -/
def Has (E : Env) (m : Nat → BE) (t b : Nat) : Prop := (m t).live = true ∧ ∃ v, E.β t = some v ∧ vblock v = some b
/-- below base, but for X, the world is as it was -/
structure BelowX (base : Nat) (X : Nat → Prop) (w w' : World) : Prop where
  os : w'.os = w.os
  tape : w'.tape = w.tape
  output : w'.output = w.output
  size : w.heap.size ≤ w'.heap.size
  block : ∀ b, b < base → ¬ X b → w'.heap[b]? = w.heap[b]?
theorem BelowX.below {base : Nat} {w w' : World} (h : BelowX base (fun _ => False) w w') : Below base w w' := ⟨h.os, h.tape, h.output, h.size, fun b hb => h.block b hb id⟩
theorem BelowX.refl (base : Nat) (X : Nat → Prop) (w : World) : BelowX base X w w := ⟨rfl, rfl, rfl, Nat.le_refl _, fun _ _ _ => rfl⟩
/-- what a call may write of old memory; the label of old memory -/
structure Cx where
  X : Nat → Prop
  S : Nat → Prop
structure MemOk (base : Nat) (X : Cx) (w0 : World) (E : Env) (m : Nat → BE) (w : World) : Prop where
  empty : ∀ t, m t = .empty → E.β t = none ∧ ∀ b, ¬ E.σ t b
  cells : ∀ t T vs, m t = .cells T vs → ∃ b xs, E.β t = some (.pointer (some ⟨b, 0, none⟩)) ∧ w.heap[b]? = some (.cells xs.toArray T (0, 0)) ∧ DenL E w vs xs ∧ vs.all SV.flat = true
  row : ∀ t T ls r, m t = .row T ls r → ∃ v, E.β t = some v ∧ OwnR 0 w T (E.set ls) r.tys v r.rows
  lab : ∀ i b, E.σ i b → b < w.heap.size ∧ (i ≠ 0 → base ≤ b)
  sep : ∀ t b, Has E m t b → ¬ E.lab b ∧ (base ≤ b ∨ X.X b)
  old : ∀ b, E.σ 0 b → X.S b
  inj : ∀ t u b, Has E m t b → Has E m u b → t = u
  below : BelowX base X.X w0 w
  base : base ≤ w.heap.size
theorem MemOk.lt {base : Nat} {X : Cx} {w0 w : World} {E : Env} {m : Nat → BE} (h : MemOk base X w0 E m w) {t b : Nat} (hb : Has E m t b) : b < w.heap.size := by
  obtain ⟨hl, v, hv, hvb⟩ := hb
  cases hm : m t with
  | empty => simp [hm, BE.live] at hl
  | dead => simp [hm, BE.live] at hl
  | cells T vs =>
    obtain ⟨b', xs, h1, h2, _⟩ := h.cells t T vs hm
    rw [hv] at h1; cases h1
    simp [vblock] at hvb; subst hvb
    exact (Array.getElem?_eq_some_iff.1 h2).1
  | row T ls r =>
    obtain ⟨v', h1, h2⟩ := h.row t T ls r hm
    rw [hv] at h1; cases h1
    refine (h2.lt b ?_).2
    obtain ⟨a, c, e⟩ := h2.form
    rw [vblock_own ⟨a, _, c, e⟩]; exact hvb
/-- the state: slots and tags -/
structure St where
  tm : List SV
  mm : List BE
def St.m (st : St) (t : Nat) : BE := st.mm.getD t .empty
structure St.Ok (base : Nat) (X : Cx) (w0 : World) (E : Env) (st : St) (a : Act) (w : World) : Prop where
  defers : a.defers = []
  size : a.tmps.size = st.tm.length
  tm : ∀ i, DenV E w (st.tm.getD i .any) (a.tmps.getD i undef)
  mem : MemOk base X w0 E st.m w
/-- the constants -/
def ofC : Value → SV
  | .int k n => if (Lit.int k n).wf then .int k n else .any
  | .bool b => .bool b
  | .string s => if s.size ≤ 1000000 then .str s else .any
  | .slice none 0 0 => .nil
  | _ => .any
theorem ofC_ok (E : Env) (w : World) (v : Value) : DenV E w (ofC v) v := by
  unfold ofC
  split
  · split
    · exact ⟨rfl, by assumption⟩
    · trivial
  · exact rfl
  · split
    · exact ⟨rfl, by omega⟩
    · trivial
  · exact rfl
  · trivial
def St.ev (st : St) : Operand → SV
  | .tmp t => st.tm.getD t .any
  | .const v => ofC v
  | .func f => .fn f
  | .global _ => .any
theorem St.Ok.ev {base : Nat} {X : Cx} {w0 : World} {E : Env} {st : St} {a : Act} {w : World} (h : st.Ok base X w0 E a w) (x : Operand) : DenV E w (st.ev x) (a.eval x) := by
  cases x with
  | tmp t => exact h.tm t
  | const v => exact ofC_ok E w v
  | func f => exact rfl
  | global g => trivial
/-- one known to be there: its own value -/
def strip : SV → SV × List Prop
  | .gd g s => (s, [g = true])
  | s => (s, [])
theorem strip_ok {E : Env} {w : World} {s : SV} {v : Value} (h : DenV E w s v) (hn : ∀ p ∈ (strip s).2, p) : DenV E w (strip s).1 v := by
  cases s <;> first | exact h | skip
  case gd g s => exact h.1 (hn (g = true) (by simp [strip]))
/-- what an operation does to the state -/
structure Upd where
  needs : List Prop
  val : SV
  mem : List (Nat × BE)
def putM : List (Nat × BE) → List BE → List BE
  | [], mm => mm
  | (t, e) :: r, mm => putM r (mm.set t e)
def St.app (st : St) (dst : Option Tmp) (u : Upd) : St :=
  { tm := match dst with | some d => st.tm.set d u.val | none => st.tm, mm := putM u.mem st.mm }
theorem getD_set (l : List SV) (d i : Nat) (v : SV) : (l.set d v).getD i .any = if i = d then (if d < l.length then v else .any) else l.getD i .any := by
  simp only [List.getD, List.getElem?_set]
  by_cases h : d = i
  · subst h
    by_cases h2 : d < l.length <;> simp [h2]
  · have : ¬ i = d := fun e => h e.symm
    simp [h, this]
theorem put_getD (a : Act) (d i : Nat) (v : Value) : (a.put (some d) v).tmps.getD i undef = if i = d then (if d < a.tmps.size then v else undef) else a.tmps.getD i undef := by
  simp only [Act.put, Array.getD_eq_getD_getElem?, Array.getElem?_setIfInBounds]
  by_cases h : d = i
  · subst h
    by_cases h2 : d < a.tmps.size <;> simp [h2]
  · have : ¬ i = d := fun e => h e.symm
    simp [h, this]
/-- the state behind an operation that yields v -/
theorem St.Ok.next {base : Nat} {X : Cx} {w0 : World} {E E' : Env} {st : St} {a : Act} {w w' : World} (h : st.Ok base X w0 E a w) (hE : E.Le E') (hS : Same E.lab w w') {dst : Option Tmp} {v : Value} {u : Upd}
    (hv : DenV E' w' u.val v) (hm : MemOk base X w0 E' (St.mk st.tm (putM u.mem st.mm)).m w') : (st.app dst u).Ok base X w0 E' (a.put dst v) w' := by
  cases dst with
  | none => exact ⟨h.defers, h.size, fun i => DenV.mono hE hS _ _ (h.tm i), hm⟩
  | some d =>
    refine ⟨h.defers, by simp [St.app, Act.put, h.size], fun i => ?_, hm⟩
    rw [put_getD]
    show DenV E' w' ((st.tm.set d u.val).getD i .any) _
    rw [getD_set, h.size]
    by_cases h1 : i = d
    · rw [if_pos h1, if_pos h1]
      by_cases h2 : d < st.tm.length
      · rw [if_pos h2, if_pos h2]; exact hv
      · rw [if_neg h2]; trivial
    · rw [if_neg h1, if_neg h1]; exact DenV.mono hE hS _ _ (h.tm i)
def upd (m : Nat → BE) (t : Nat) (e : BE) (u : Nat) : BE := if u = t then e else m u
theorem upd_self (m : Nat → BE) (t : Nat) (e : BE) : upd m t e t = e := if_pos rfl
theorem upd_ne (m : Nat → BE) {t u : Nat} (e : BE) (h : u ≠ t) : upd m t e u = m u := if_neg h
/-- what an entry says of a value -/
def Holds (E : Env) (w : World) (v : Value) : BE → Prop
  | .cells T vs => ∃ b xs, v = .pointer (some ⟨b, 0, none⟩) ∧ w.heap[b]? = some (.cells xs.toArray T (0, 0)) ∧ DenL E w vs xs ∧ vs.all SV.flat = true
  | .row T ls r => OwnR 0 w T (E.set ls) r.tys v r.rows
  | .dead => True
  | .empty => False
theorem MemOk.holds {base : Nat} {X : Cx} {w0 w : World} {E : Env} {m : Nat → BE} (h : MemOk base X w0 E m w) {t : Nat} (hl : (m t).live = true) : ∃ v, E.β t = some v ∧ Holds E w v (m t) := by
  cases hm : m t with
  | empty => simp [hm, BE.live] at hl
  | dead => simp [hm, BE.live] at hl
  | cells T vs => obtain ⟨b, xs, h1, h2, h3, h4⟩ := h.cells t T vs hm; exact ⟨_, h1, b, xs, rfl, h2, h3, h4⟩
  | row T ls r => exact h.row t T ls r hm
theorem Holds.block {E : Env} {w : World} {v : Value} {e : BE} (h : Holds E w v e) (hl : e.live = true) {b : Nat} (hb : vblock v = some b) : b < w.heap.size := by
  cases e with
  | empty => cases h
  | dead => cases hl
  | cells T vs => obtain ⟨b', xs, rfl, h2, _⟩ := h; simp [vblock] at hb; subst hb; exact (Array.getElem?_eq_some_iff.1 h2).1
  | row T ls r =>
    have h : OwnR 0 w T (E.set ls) r.tys v r.rows := h
    obtain ⟨a, c, e⟩ := h.form
    exact (h.lt b (by rw [vblock_own ⟨a, _, c, e⟩]; exact hb)).2
theorem Holds.mono {E E' : Env} {w w' : World} {v : Value} {e : BE} (h : Holds E w v e) (hE : E.Le E') (hS : Same E.lab w w') (hb : ∀ b, vblock v = some b → w'.heap[b]? = w.heap[b]?) : Holds E' w' v e := by
  cases e with
  | empty => exact h
  | dead => exact h
  | cells T vs =>
    obtain ⟨b, xs, rfl, h2, h3, h4⟩ := h
    exact ⟨b, xs, rfl, (hb b rfl).trans h2, DenL.mono hE hS _ _ h3, h4⟩
  | row T ls r =>
    have h : OwnR 0 w T (E.set ls) r.tys v r.rows := h
    show OwnR 0 w' T (E'.set ls) r.tys v r.rows
    obtain ⟨a, c, ev⟩ := h.form
    have hs : Same (fun b => E.lab b ∨ vblock v = some b) w w' := ⟨hS.size, fun b hb' hl => hb'.elim (fun x => hS.block b x hl) (fun x => hb b x)⟩
    exact (h.same hs (fun b hb' => .inl (Env.set_lab hb')) (fun b hb' => .inr (by rw [← vblock_own ⟨a, _, c, ev⟩]; exact hb'))).mono (Nat.le_refl _) (fun b hb' => hE.set hb')
/-- one step of the memory: the tags of L anew, the others as they were -/
theorem MemOk.go {base : Nat} {X : Cx} {w0 w w' : World} {E E' : Env} {m m' : Nat → BE} (h : MemOk base X w0 E m w) (hE : E.Le E') (hS : Same E.lab w w') (L : Nat → Prop)
    (hm : ∀ t, ¬ L t → m' t = m t ∧ E'.β t = E.β t) (hσ : ∀ t, ¬ L t → m t = .empty → ∀ b, ¬ E'.σ t b) (hk : ∀ t b, ¬ L t → Has E m t b → w'.heap[b]? = w.heap[b]?)
    (hL : ∀ t, L t → m' t ≠ .empty ∧ ((m' t).live = true → ∃ v, E'.β t = some v ∧ Holds E' w' v (m' t)))
    (hlab : ∀ i b, E'.σ i b → b < w'.heap.size ∧ (i ≠ 0 → base ≤ b)) (hsep : ∀ t b, Has E' m' t b → ¬ E'.lab b ∧ (base ≤ b ∨ X.X b)) (hold : ∀ b, E'.σ 0 b → X.S b) (hinj : ∀ t u b, Has E' m' t b → Has E' m' u b → t = u)
    (hb : BelowX base X.X w w') : MemOk base X w0 E' m' w' := by
  have key : ∀ t, (m' t).live = true → ∃ v, E'.β t = some v ∧ Holds E' w' v (m' t) := by
    intro t hl
    by_cases ht : L t
    · exact (hL t ht).2 hl
    · obtain ⟨e1, e2⟩ := hm t ht
      rw [e1] at hl ⊢
      obtain ⟨v, hv, hh⟩ := h.holds hl
      refine ⟨v, by rw [e2]; exact hv, hh.mono hE hS (fun b hvb => hk t b ht ⟨hl, v, hv, hvb⟩)⟩
  refine ⟨fun t ht => ?_, fun t T vs ht => ?_, fun t T ls r ht => ?_, hlab, hsep, hold, hinj, ?_, Nat.le_trans h.base hb.size⟩
  · by_cases hl : L t
    · exact absurd ht (hL t hl).1
    · obtain ⟨e1, e2⟩ := hm t hl
      rw [e1] at ht
      exact ⟨by rw [e2]; exact (h.empty t ht).1, hσ t hl ht⟩
  · obtain ⟨v, hv, hh⟩ := key t (by rw [ht]; rfl)
    rw [ht] at hh
    obtain ⟨b, xs, rfl, h2, h3, h4⟩ := hh
    exact ⟨b, xs, hv, h2, h3, h4⟩
  · obtain ⟨v, hv, hh⟩ := key t (by rw [ht]; rfl)
    rw [ht] at hh
    exact ⟨v, hv, hh⟩
  · exact ⟨hb.os.trans h.below.os, hb.tape.trans h.below.tape, hb.output.trans h.below.output, Nat.le_trans h.below.size hb.size, fun b h1 h2 => (hb.block b h1 h2).trans (h.below.block b h1 h2)⟩
/-- a tag is given up -/
theorem MemOk.kill {base : Nat} {X : Cx} {w0 w : World} {E : Env} {m : Nat → BE} (h : MemOk base X w0 E m w) (t : Nat) : MemOk base X w0 E (upd m t .dead) w := by
  have hh : ∀ u b, Has E (upd m t .dead) u b → Has E m u b := by
    intro u b ⟨hl, hv⟩
    by_cases e : u = t
    · subst e; rw [upd_self] at hl; cases hl
    · rw [upd_ne _ _ e] at hl; exact ⟨hl, hv⟩
  refine h.go (Env.Le.refl E) ⟨Nat.le_refl _, fun _ _ _ => rfl⟩ (fun u => u = t) (fun u hu => ⟨upd_ne _ _ hu, rfl⟩) (fun u hu hm => (h.empty u hm).2) (fun _ _ _ _ => rfl)
    (fun u hu => by subst hu; rw [upd_self]; exact ⟨(by simp), fun hl => by cases hl⟩) h.lab (fun u b hb => h.sep u b (hh u b hb)) h.old (fun u v b h1 h2 => h.inj u v b (hh u b h1) (hh v b h2)) (BelowX.refl _ _ _)
def Env.setβ (E : Env) (c : Nat) (v : Value) : Env := ⟨fun t => if t = c then some v else E.β t, E.σ⟩
theorem Env.setβ_le {E : Env} {c : Nat} (h : E.β c = none) (v : Value) : E.Le (E.setβ c v) :=
  ⟨fun t u ht => by
    by_cases e : t = c
    · subst e; rw [h] at ht; cases ht
    · show (if t = c then _ else _) = _; rw [if_neg e]; exact ht, fun _ _ h => h⟩
/-- a new tag, of a block that nobody has -/
theorem MemOk.take {base : Nat} {X : Cx} {w0 w w' : World} {E : Env} {m : Nat → BE} (h : MemOk base X w0 E m w) {c : Nat} (hc : m c = .empty) (v : Value) (e : BE) (he : e ≠ .empty)
    (hsz : w.heap.size ≤ w'.heap.size) (hw : ∀ b, (E.lab b ∨ ∃ t, Has E m t b) → w'.heap[b]? = w.heap[b]?) (hbx : BelowX base X.X w w')
    (hfree : ∀ b, vblock v = some b → ¬ E.lab b ∧ (∀ t, ¬ Has E m t b) ∧ (base ≤ b ∨ X.X b)) (hcont : Holds (E.setβ c v) w' v e) : MemOk base X w0 (E.setβ c v) (upd m c e) w' := by
  have hE := Env.setβ_le (h.empty c hc).1 v
  have hh : ∀ u b, u ≠ c → Has (E.setβ c v) (upd m c e) u b → Has E m u b := by
    intro u b hu ⟨hl, x, hx, hxb⟩
    rw [upd_ne _ _ hu] at hl
    have : E.β u = some x := by have : (if u = c then some v else E.β u) = some x := hx; rwa [if_neg hu] at this
    exact ⟨hl, x, this, hxb⟩
  have hcb : ∀ b, Has (E.setβ c v) (upd m c e) c b → vblock v = some b := by
    intro b ⟨_, x, hx, hxb⟩
    have : (if c = c then some v else E.β c) = some x := hx
    rw [if_pos rfl] at this
    cases this; exact hxb
  refine h.go hE ⟨hsz, fun b hb _ => hw b (.inl hb)⟩ (fun u => u = c) (fun u hu => ⟨upd_ne _ _ hu, if_neg hu⟩) (fun u hu hm => (h.empty u hm).2) (fun u b hu hb => hw b (.inr ⟨u, hb⟩))
    (fun u hu => by subst hu; rw [upd_self]; exact ⟨he, fun _ => ⟨v, if_pos rfl, hcont⟩⟩)
    (fun i b hb => ⟨Nat.lt_of_lt_of_le (h.lab i b hb).1 hsz, (h.lab i b hb).2⟩) (fun u b hb => ?_) h.old (fun u x b h1 h2 => ?_) hbx
  · by_cases e2 : u = c
    · subst e2; obtain ⟨f1, f2, f3⟩ := hfree b (hcb b hb); exact ⟨f1, f3⟩
    · exact h.sep u b (hh u b e2 hb)
  · by_cases e2 : u = c
    · by_cases e3 : x = c
      · rw [e2, e3]
      · subst e2; exact absurd (hh x b e3 h2) ((hfree b (hcb b h1)).2.1 x)
    · by_cases e3 : x = c
      · subst e3; exact absurd (hh u b e2 h1) ((hfree b (hcb b h2)).2.1 u)
      · exact h.inj u x b (hh u b e2 h1) (hh x b e3 h2)
/-- the block of a tag is written -/
theorem MemOk.poke {base : Nat} {X : Cx} {w0 w w' : World} {E : Env} {m : Nat → BE} (h : MemOk base X w0 E m w) {t : Nat} (hl : (m t).live = true) {v : Value} (hv : E.β t = some v) (e : BE) (hel : e.live = true)
    (hsz : w.heap.size ≤ w'.heap.size) (hw : ∀ b, vblock v ≠ some b → b < w.heap.size → w'.heap[b]? = w.heap[b]?) (hos : w'.os = w.os ∧ w'.tape = w.tape ∧ w'.output = w.output) (hcont : Holds E w' v e) : MemOk base X w0 E (upd m t e) w' := by
  have hh : ∀ u b, Has E (upd m t e) u b → Has E m u b := by
    intro u b ⟨h1, h2⟩
    by_cases e2 : u = t
    · subst e2; exact ⟨hl, h2⟩
    · rw [upd_ne _ _ e2] at h1; exact ⟨h1, h2⟩
  have hne : ∀ b, E.lab b → vblock v ≠ some b := fun b hb hvb => (h.sep t b ⟨hl, v, hv, hvb⟩).1 hb
  refine h.go (Env.Le.refl E) ⟨hsz, fun b hb hlt => hw b (hne b hb) hlt⟩ (fun u => u = t) (fun u hu => ⟨upd_ne _ _ hu, rfl⟩) (fun u hu hm => (h.empty u hm).2)
    (fun u b hu hb => hw b (fun hvb => hu (h.inj u t b hb ⟨hl, v, hv, hvb⟩)) (h.lt hb))
    (fun u hu => by subst hu; rw [upd_self]; exact ⟨fun e2 => (by rw [e2] at hel; cases hel), fun _ => ⟨v, hv, hcont⟩⟩)
    (fun i b hb => ⟨Nat.lt_of_lt_of_le (h.lab i b hb).1 hsz, (h.lab i b hb).2⟩) (fun u b hb => h.sep u b (hh u b hb)) h.old (fun u x b h1 h2 => h.inj u x b (hh u b h1) (hh x b h2))
    ⟨hos.1, hos.2.1, hos.2.2, hsz, fun b hb hX => ?_⟩
  by_cases hvb : vblock v = some b
  · rcases (h.sep t b ⟨hl, v, hv, hvb⟩).2 with h1 | h1
    · omega
    · exact absurd h1 hX
  · exact hw b hvb (Nat.lt_of_lt_of_le hb h.base)
def Env.setσ (E : Env) (c : Nat) (S : Nat → Prop) : Env := ⟨E.β, fun i b => if i = c then S b else E.σ i b⟩
/-- a call has made memory: it bears label c -/
theorem MemOk.call {base : Nat} {X : Cx} {w0 w w' : World} {E : Env} {m : Nat → BE} (h : MemOk base X w0 E m w) {c : Nat} (hc : m c = .empty) (hc0 : c ≠ 0) (hb : Below w.heap.size w w') :
    MemOk base X w0 (E.setσ c fun b => w.heap.size ≤ b ∧ b < w'.heap.size) (upd m c .dead) w' ∧ E.Le (E.setσ c fun b => w.heap.size ≤ b ∧ b < w'.heap.size) ∧ Same E.lab w w' := by
  have hE : E.Le (E.setσ c fun b => w.heap.size ≤ b ∧ b < w'.heap.size) := ⟨fun _ _ h => h, fun i b hs => by
    show if i = c then _ else _
    by_cases e : i = c
    · subst e; exact absurd hs ((h.empty i hc).2 b)
    · rw [if_neg e]; exact hs⟩
  have hS : Same E.lab w w' := ⟨hb.size, fun b _ hl => hb.block b hl⟩
  have hσ : ∀ i b, (E.setσ c fun b => w.heap.size ≤ b ∧ b < w'.heap.size).σ i b → (i = c ∧ w.heap.size ≤ b ∧ b < w'.heap.size) ∨ E.σ i b := by
    intro i b hs
    have hs : if i = c then _ else _ := hs
    by_cases e : i = c
    · rw [if_pos e] at hs; exact .inl ⟨e, hs⟩
    · rw [if_neg e] at hs; exact .inr hs
  have hh : ∀ u b, Has (E.setσ c fun b => w.heap.size ≤ b ∧ b < w'.heap.size) (upd m c .dead) u b → Has E m u b := by
    intro u b ⟨h1, h2⟩
    by_cases e2 : u = c
    · subst e2; rw [upd_self] at h1; cases h1
    · rw [upd_ne _ _ e2] at h1; exact ⟨h1, h2⟩
  refine ⟨h.go hE hS (fun u => u = c) (fun u hu => ⟨upd_ne _ _ hu, rfl⟩) (fun u hu hm b hs => ?_) (fun u b hu hb' => hb.block b (h.lt hb'))
    (fun u hu => by subst hu; rw [upd_self]; exact ⟨(by simp), fun hl => by cases hl⟩) (fun i b hs => ?_) (fun u b hb' => ⟨fun ⟨i, hs⟩ => ?_, (h.sep u b (hh u b hb')).2⟩) (fun b hs => (hσ 0 b hs).elim (fun e => absurd e.1.symm hc0) (h.old b)) (fun u x b h1 h2 => h.inj u x b (hh u b h1) (hh x b h2))
    ⟨hb.os, hb.tape, hb.output, hb.size, fun b hlt _ => hb.block b (Nat.lt_of_lt_of_le hlt h.base)⟩, hE, hS⟩
  · rcases hσ u b hs with ⟨e, _⟩ | hs
    · exact hu e
    · exact (h.empty u hm).2 b hs
  · rcases hσ i b hs with ⟨e, h1, h2⟩ | hs
    · exact ⟨h2, fun _ => Nat.le_trans h.base h1⟩
    · exact ⟨Nat.lt_of_lt_of_le (h.lab i b hs).1 hb.size, (h.lab i b hs).2⟩
  · have hlt := h.lt (hh u b hb')
    rcases hσ i b hs with ⟨e, h1, h2⟩ | hs
    · omega
    · exact (h.sep u b (hh u b hb')).1 ⟨i, hs⟩
/-- a draw -/
theorem MemOk.drew {base : Nat} {X : Cx} {w0 w : World} {E : Env} {m : Nat → BE} (h : MemOk base X w0 E m w) (n : Nat) : MemOk base X w0 E m { w with drawn := n } :=
  h.go (Env.Le.refl E) ⟨Nat.le_refl _, fun _ _ _ => rfl⟩ (fun _ => False) (fun _ _ => ⟨rfl, rfl⟩) (fun t _ hm => (h.empty t hm).2) (fun _ _ _ _ => rfl) (fun _ h => h.elim) h.lab h.sep h.old h.inj ⟨rfl, rfl, rfl, Nat.le_refl _, fun _ _ _ => rfl⟩
/-- the memory of a state that is written at one tag -/
theorem St.m_set (tm : List SV) (mm : List BE) (t : Nat) (e : BE) (h : t < mm.length) : (St.mk tm (mm.set t e)).m = upd (St.mk tm mm).m t e := by
  funext u
  simp only [St.m, upd, List.getD, List.getElem?_set]
  by_cases hu : t = u
  · subst hu; simp [h]
  · have : ¬ u = t := fun e => hu e.symm
    simp [hu, this]
theorem St.m_lt (st : St) (t : Nat) (h : st.m t ≠ .empty) : t < st.mm.length := by
  by_cases hl : t < st.mm.length
  · exact hl
  · exact absurd (by simp [St.m, List.getD, Nat.le_of_not_lt hl]) h
/-- what the walk must be told: the rows by their elements' types; what a call does -/
structure Cfg where
  kd : TypeId → Option RL
  orc : Nat → FuncId → St → List SV → Option Upd
/-- an operation does as u says -/
def Does (P : Program) (base : Nat) (X : Cx) (w0 : World) (st : St) (o : Oper) (u : Upd) : Prop :=
  ∀ (E : Env) (a : Act) (w : World) (K : Act → World → Prop) (Q : Exit → Act → World → Prop), st.Ok base X w0 E a w → (∀ p ∈ u.needs, p) →
    (∀ E' w' v, E.Le E' → Same E.lab w w' → DenV E' w' u.val v → MemOk base X w0 E' (St.mk st.tm (putM u.mem st.mm)).m w' → K (a.put o.dst v) w') → o.wp P a w K Q
theorem wp_value {P : Program} {o : Oper} {a : Act} {w w' : World} {v : Value} {K : Act → World → Prop} {Q : Exit → Act → World → Prop} (h : (execOp a.eval o).run P w = .ok (.value v) w') (hK : K (a.put o.dst v) w') : o.wp P a w K Q := by
  unfold Oper.wp; rw [h]; exact hK
theorem wp_skipv {P : Program} {o : Oper} {a : Act} {w w' : World} {K : Act → World → Prop} {Q : Exit → Act → World → Prop} (h : (execOp a.eval o).run P w = .ok .skip w') (hK : K (a.put o.dst undef) w') : o.wp P a w K Q := by
  unfold Oper.wp; rw [h]; exact hK
theorem Same.rfl' {S : Nat → Prop} {w : World} : Same S w w := ⟨Nat.le_refl _, fun _ _ _ => rfl⟩
/-- an operation that yields and leaves the world alone -/
theorem Does.pure {P : Program} {base : Nat} {X : Cx} {w0 : World} {st : St} {o : Oper} {n : List Prop} {s : SV}
    (h : ∀ E a w, st.Ok base X w0 E a w → (∀ p ∈ n, p) → ∃ v, (execOp a.eval o).run P w = .ok (.value v) w ∧ DenV E w s v) : Does P base X w0 st o ⟨n, s, []⟩ := by
  intro E a w K Q hst hn hK
  obtain ⟨v, h1, h2⟩ := h E a w hst hn
  exact wp_value h1 (hK E w v (Env.Le.refl E) Same.rfl' h2 hst.mem)
theorem Does.need {P : Program} {base : Nat} {X : Cx} {w0 : World} {st : St} {o : Oper} {n n2 : List Prop} {s : SV} {mm : List (Nat × BE)} (h : (∀ p ∈ n, p) → Does P base X w0 st o ⟨n2, s, mm⟩) (hn : ∀ p, p ∈ n2 → p ∈ n) : Does P base X w0 st o ⟨n, s, mm⟩ := by
  intro E a w K Q hst hp hK
  exact h hp E a w K Q hst (fun p hp2 => hp p (hn p hp2)) hK
/-- choosing -/
def pickB (b x y : Bool) : Bool := if b then x else y
def pickI (b : Bool) (x y : Int) : Int := if b then x else y
theorem pickB_f (b x : Bool) : pickB b x false = (b && x) := by cases b <;> rfl
theorem pickB_t (b y : Bool) : pickB b true y = (b || y) := by cases b <;> rfl
theorem pickB_n (b x : Bool) : pickB b x true = (!b || x) := by cases b <;> rfl
theorem pickB_g (b y : Bool) : pickB b false y = (!b && y) := by cases b <;> rfl
mutual
def mrgV (b : Bool) : SV → SV → SV
  | .int k n, .int k' n' => if k = k' then .int k (pickI b n n') else .any
  | .bool x, .bool y => .bool (pickB b x y)
  | .str x, .str y => .str (if b then x else y)
  | .nil, .nil => .nil
  | .nil, .sl ls r => match RL.ite b r.emp r with | some r2 => .sl ls r2 | none => .any
  | .sl ls r, .nil => match RL.ite b r r.emp with | some r2 => .sl ls r2 | none => .any
  | .sl ls r, .sl ls' r' => match RL.ite b r r' with | some r2 => .sl (ls ++ ls') r2 | none => .any
  | .own t, .own t' => if t = t' then .own t else .any
  | .ptr t o, .ptr t' o' => if t = t' then (if o = o' then .ptr t o else .any) else .any
  | .agg vs, .agg us => if vs.length = us.length then .agg (mrgL b vs us) else .any
  | .tup vs, .tup us => if vs.length = us.length then .tup (mrgL b vs us) else .any
  | _, _ => .any
def mrgL (b : Bool) : List SV → List SV → List SV
  | s :: ss, t :: ts => mrgV b s t :: mrgL b ss ts
  | _, _ => []
end
theorem nilsl {E : Env} {w : World} {ls : List Nat} {r : RL} {v : Value} (h : DenV E w .nil v) : DenV E w (.sl ls r.emp) v := by
  have : v = .slice none 0 0 := h
  subst this
  show Rd w (E.set ls) (.sl r.emp.tys) _ (.sl r.emp.rows)
  rw [r.emp_ok.1]
  exact .emp (fun _ => rfl) (by decide)
theorem setl {E : Env} {w : World} {ls ms : List Nat} {r : RL} {v : Value} (hm : ∀ i, i ∈ ls → i ∈ ms) (h : DenV E w (.sl ls r) v) : DenV E w (.sl ms r) v :=
  Rd.mono h (fun b _ => Env.set_mono hm b)
mutual
theorem mrgV_t {E : Env} {w : World} : ∀ (s t : SV) (v : Value), DenV E w s v → DenV E w (mrgV true s t) v := by
  intro s t v h
  unfold mrgV
  split
  · split
    · exact h
    · trivial
  · exact h
  · exact h
  · exact h
  · split
    · rename_i e; rw [RL.ite_t e]; exact nilsl h
    · trivial
  · split
    · rename_i e; rw [RL.ite_t e]; exact h
    · trivial
  · split
    · rename_i e; rw [RL.ite_t e]; exact setl (fun i hi => List.mem_append_left _ hi) h
    · trivial
  · split
    · exact h
    · trivial
  · split
    · split
      · exact h
      · trivial
    · trivial
  · split
    · rename_i e
      obtain ⟨xs, h1, h2⟩ := h
      exact ⟨xs, h1, mrgL_t _ _ xs e h2⟩
    · trivial
  · split
    · rename_i e
      obtain ⟨xs, h1, h2⟩ := h
      exact ⟨xs, h1, mrgL_t _ _ xs e h2⟩
    · trivial
  · trivial
theorem mrgL_t {E : Env} {w : World} : ∀ (ss ts : List SV) (vs : List Value), ss.length = ts.length → DenL E w ss vs → DenL E w (mrgL true ss ts) vs
  | [], [], [], _, _ => by unfold mrgL; trivial
  | s :: ss, t :: ts, x :: xs, hl, h => by unfold mrgL; exact ⟨mrgV_t s t x h.1, mrgL_t ss ts xs (by simpa using hl) h.2⟩
  | [], _ :: _, _, hl, _ => by simp at hl
  | _ :: _, [], _, hl, _ => by simp at hl
  | [], [], _ :: _, _, h => h.elim
  | _ :: _, _ :: _, [], _, h => h.elim
end
mutual
theorem mrgV_f {E : Env} {w : World} : ∀ (s t : SV) (v : Value), DenV E w t v → DenV E w (mrgV false s t) v := by
  intro s t v h
  unfold mrgV
  split
  · split
    · rename_i e; subst e; exact h
    · trivial
  · exact h
  · exact h
  · exact h
  · split
    · rename_i e; rw [RL.ite_f e]; exact h
    · trivial
  · split
    · rename_i e; rw [RL.ite_f e]; exact nilsl h
    · trivial
  · split
    · rename_i e; rw [RL.ite_f e]; exact setl (fun i hi => List.mem_append_right _ hi) h
    · trivial
  · split
    · rename_i e; subst e; exact h
    · trivial
  · split
    · split
      · rename_i e1 e2; subst e1; subst e2; exact h
      · trivial
    · trivial
  · split
    · rename_i e
      obtain ⟨xs, h1, h2⟩ := h
      exact ⟨xs, h1, mrgL_f _ _ xs e h2⟩
    · trivial
  · split
    · rename_i e
      obtain ⟨xs, h1, h2⟩ := h
      exact ⟨xs, h1, mrgL_f _ _ xs e h2⟩
    · trivial
  · trivial
theorem mrgL_f {E : Env} {w : World} : ∀ (ss ts : List SV) (vs : List Value), ss.length = ts.length → DenL E w ts vs → DenL E w (mrgL false ss ts) vs
  | [], [], [], _, _ => by unfold mrgL; trivial
  | s :: ss, t :: ts, x :: xs, hl, h => by unfold mrgL; exact ⟨mrgV_f s t x h.1, mrgL_f ss ts xs (by simpa using hl) h.2⟩
  | [], _ :: _, _, hl, _ => by simp at hl
  | _ :: _, [], _, hl, _ => by simp at hl
  | [], [], _ :: _, _, h => h.elim
  | _ :: _, _ :: _, [], _, h => h.elim
end
theorem merge_ok {E : Env} {w : World} (b : Bool) {s t : SV} {v u : Value} (hs : b = true → DenV E w s v) (ht : b = false → DenV E w t u) : DenV E w (mrgV b s t) (if b then v else u) := by
  cases b
  · exact mrgV_f s t u (ht rfl)
  · exact mrgV_t s t v (hs rfl)
section ops
variable {P : Program} {base : Nat} {X : Cx} {w0 : World} {st : St}
/-- move, assign -/
def cMove (st : St) (x : Operand) : Upd := ⟨(strip (st.ev x)).2, (strip (st.ev x)).1, []⟩
theorem cMove_ok (o : Oper) (x : Operand) (ho : o.op = .move x ∨ o.op = .assign x) : Does P base X w0 st o (cMove st x) :=
  Does.pure fun E a w h hn => ⟨a.eval x, by rcases ho with ho | ho <;> simp [execOp, ho, pure, Sem.run], strip_ok (h.ev x) hn⟩
/-- pick -/
def cPick (st : St) (c x y : Operand) : Option Upd :=
  match strip (st.ev c), strip (st.ev x), strip (st.ev y) with
  | (.bool b, n), (s, n1), (t, n2) => some ⟨n ++ n1.map (fun p => b = true → p) ++ n2.map (fun p => b = false → p), mrgV b s t, []⟩
  | _, _, _ => none
theorem cPick_ok (o : Oper) (c x y : Operand) (ho : o.op = .pick c x y) {u : Upd} (hu : cPick st c x y = some u) : Does P base X w0 st o u := by
  unfold cPick at hu
  split at hu
  case h_2 => simp at hu
  rename_i b n s n1 t n2 e1 e2 e3
  simp only [Option.some.injEq] at hu
  subst hu
  refine Does.pure fun E a w h hn => ?_
  have h1 := strip_ok (h.ev c) (fun p hp => hn p (by rw [e1] at hp; simp [hp]))
  rw [e1] at h1
  have h1 : a.eval c = .bool b := h1
  refine ⟨if b then a.eval x else a.eval y, by cases b <;> simp [execOp, ho, h1, asBool, pure, Sem.run, bind, Sem.bind], merge_ok b (fun hb => ?_) (fun hb => ?_)⟩
  · have h2 := strip_ok (h.ev x) (fun p hp => hn (b = true → p) (by rw [e2] at hp; simp only [List.mem_append, List.mem_map]; exact .inl (.inr ⟨p, hp, rfl⟩)) hb)
    rw [e2] at h2; exact h2
  · have h2 := strip_ok (h.ev y) (fun p hp => hn (b = false → p) (by rw [e3] at hp; simp only [List.mem_append, List.mem_map]; exact .inr ⟨p, hp, rfl⟩) hb)
    rw [e3] at h2; exact h2
/-- the cells of a value -/
def SV.cells : SV → List SV
  | .agg vs => vs
  | s => [s]
theorem cells_ok {E : Env} {w : World} {s : SV} {v : Value} (hf : s.cells.all SV.flat = true) (h : DenV E w s v) : ∃ xs, v.cells = xs.toArray ∧ DenL E w s.cells xs := by
  cases s
  case agg vs =>
    obtain ⟨xs, rfl, h2⟩ := h
    exact ⟨xs, rfl, h2⟩
  all_goals
    simp only [SV.cells, List.all_cons, List.all_nil, Bool.and_true] at hf
    first
      | (simp [SV.flat] at hf; done)
      | (refine ⟨[v], ?_, h, trivial⟩
         have := SV.flat_one hf h
         cases v <;> simp_all [Value.cells, Value.oneCell'])
def ofCs (z : Value) : List SV := z.cells.toList.map ofC
theorem ofCs_ok (E : Env) (w : World) : ∀ (l : List Value), DenL E w (l.map ofC) l
  | [] => trivial
  | v :: l => ⟨ofC_ok E w v, ofCs_ok E w l⟩
theorem take_alloc {E : Env} {w : World} (h : MemOk base X w0 E st.m w) {c : Nat} (hc : st.m c = .empty) (hlt : c < st.mm.length) (T : TypeId) {vs : List SV} {xs : List Value} (hd : DenL E w vs xs) (hf : vs.all SV.flat = true) :
    MemOk base X w0 (E.setβ c (.pointer (some ⟨w.heap.size, 0, none⟩))) (St.mk st.tm (putM [(c, .cells T vs)] st.mm)).m (w.alloc (.cells xs.toArray T)) ∧ E.Le (E.setβ c (.pointer (some ⟨w.heap.size, 0, none⟩))) ∧ Same E.lab w (w.alloc (.cells xs.toArray T)) := by
  have hE := Env.setβ_le (h.empty c hc).1 (.pointer (some ⟨w.heap.size, 0, none⟩))
  have hS : Same E.lab w (w.alloc (.cells xs.toArray T)) := Same.alloc _ _ _
  refine ⟨?_, hE, hS⟩
  rw [show putM [(c, .cells T vs)] st.mm = st.mm.set c (.cells T vs) from rfl, St.m_set _ _ _ _ hlt]
  refine h.take hc _ _ (by simp) (by simp) (fun b hb => ?_) ⟨rfl, rfl, rfl, by simp, fun b hb _ => Below.heap_alloc _ _ _ (Nat.lt_of_lt_of_le hb h.base)⟩ (fun b hb => ?_) ⟨w.heap.size, xs, rfl, heap_alloc_new _ _, DenL.mono hE hS _ _ hd, hf⟩
  · have : b < w.heap.size := by
      rcases hb with ⟨i, hi⟩ | ⟨t, ht⟩
      · exact (h.lab i b hi).1
      · exact h.lt ht
    exact Below.heap_alloc _ _ _ this
  · simp [vblock] at hb
    subst hb
    exact ⟨fun ⟨i, hi⟩ => Nat.lt_irrefl _ (h.lab i _ hi).1, fun t ht => Nat.lt_irrefl _ (h.lt ht), .inl h.base⟩
def BE.isEmpty : BE → Bool
  | .empty => true
  | _ => false
def St.free (st : St) (c : Nat) : Bool := (st.m c).isEmpty && Nat.blt c st.mm.length
theorem BE.of_empty {e : BE} (h : e.isEmpty = true) : e = .empty := by cases e <;> simp [BE.isEmpty] at h; rfl
theorem St.of_free {st : St} {c : Nat} (h : st.free c = true) : st.m c = .empty ∧ c < st.mm.length := by
  simp only [St.free, Bool.and_eq_true] at h
  exact ⟨BE.of_empty h.1, by have := h.2; simp [Nat.blt] at this; omega⟩
/-- box -/
def cBox (st : St) (c : Nat) (T : TypeId) (x : Operand) : Option Upd :=
  let s := strip (st.ev x)
  if st.free c then (if s.1.cells.all SV.flat then some ⟨s.2, .ptr c 0, [(c, .cells T s.1.cells)]⟩ else none) else none
theorem cBox_ok (o : Oper) (c : Nat) (T : TypeId) (x : Operand) (ho : o.op = .box T x) {u : Upd} (hu : cBox st c T x = some u) : Does P base X w0 st o u := by
  unfold cBox at hu
  dsimp only at hu
  split at hu
  case isFalse => simp at hu
  split at hu
  case isFalse => simp at hu
  rename_i hc hf
  simp only [Option.some.injEq] at hu
  subst hu
  intro E a w K Q h hn hK
  have h1 := strip_ok (h.ev x) hn
  obtain ⟨xs, hx, hd⟩ := cells_ok hf h1
  obtain ⟨m1, m2, m3⟩ := take_alloc h.mem (St.of_free hc).1 (St.of_free hc).2 T hd hf
  refine wp_value (v := .pointer (some ⟨w.heap.size, 0, none⟩)) (w' := w.alloc (.cells xs.toArray T)) ?_ (hK _ _ _ m2 m3 ⟨w.heap.size, if_pos rfl, rfl⟩ m1)
  simp only [execOp, ho, Instr.box, newVar, newRow, hx]
  rfl
/-- alloc -/
def cAlloc (P : Program) (st : St) (c : Nat) (T : TypeId) : Option Upd :=
  match (P.info? T).bind (·.zero) with
  | some z => if st.free c then (if (ofCs z).all SV.flat then some ⟨[], .ptr c 0, [(c, .cells T (ofCs z))]⟩ else none) else none
  | none => none
theorem cAlloc_ok (o : Oper) (c : Nat) (T : TypeId) (ho : o.op = .alloc T) {u : Upd} (hu : cAlloc P st c T = some u) : Does P base X w0 st o u := by
  unfold cAlloc at hu
  split at hu
  case h_2 => simp at hu
  rename_i z hz
  split at hu
  case isFalse => simp at hu
  split at hu
  case isFalse => simp at hu
  rename_i hc hf
  simp only [Option.some.injEq] at hu
  subst hu
  intro E a w K Q h hn hK
  obtain ⟨m1, m2, m3⟩ := take_alloc h.mem (St.of_free hc).1 (St.of_free hc).2 T (ofCs_ok E w z.cells.toList) hf
  refine wp_value (v := .pointer (some ⟨w.heap.size, 0, none⟩)) (w' := w.alloc (.cells z.cells.toList.toArray T)) ?_ (hK _ _ _ m2 m3 ⟨w.heap.size, if_pos rfl, rfl⟩ m1)
  cases hi : P.info? T with
  | none => simp [hi] at hz
  | some i =>
    simp [hi] at hz
    simp [execOp, ho, Instr.alloc, zeroValue, typeInfo, Sem.run_bind, hi, hz, newVar, newRow]
end ops
theorem Addr.add0 (b off j : Nat) : (⟨b, off, none⟩ : Addr).add j = ⟨b, off + j, none⟩ := by
  unfold Addr.add; split <;> simp_all
section ops
variable {P : Program} {base : Nat} {X : Cx} {w0 : World} {st : St}
/-- the cells that lie from an address on -/
def cellsAt (st : St) : SV → Option (List SV × List Prop)
  | .ptr t off => match st.m t with
    | .cells _ vs => some (vs.drop off, [])
    | _ => none
  | .el ls r i off => some ((r.elem ls i).drop off, [])
  | .oel t sz i off => match st.m t with
    | .row _ ls r => if sz = r.tys.length then some ((r.elem ls i).drop off, [i < r.len]) else none
    | _ => none
  | _ => none
theorem RdL.vals {w : World} {S : Nat → Prop} {fs : List Ty} {ds : List D} {f : Nat → Value} (hl : ds.length = fs.length) (h : ∀ j, j < fs.length → Rd w S (fs.getD j default) (f j) (ds.getD j default)) : RdL w S fs ((List.range fs.length).map f) ds := RdL.of_at f hl h
theorem cellsAt_ok {E : Env} {a : Act} {w : World} (h : st.Ok base X w0 E a w) {s : SV} {cs : List SV} {n : List Prop} (hc : cellsAt st s = some (cs, n)) (hn : ∀ p ∈ n, p) {v : Value} (hv : DenV E w s v) :
    ∃ b off xs, v = .pointer (some ⟨b, off, none⟩) ∧ DenL E w cs xs ∧ ∀ j u, xs[j]? = some u → w.cell? ⟨b, off + j, none⟩ = some u := by
  cases s
  case ptr t off =>
    simp only [cellsAt] at hc
    split at hc
    case h_2 => simp at hc
    rename_i T vs hm
    simp only [Option.some.injEq, Prod.mk.injEq] at hc
    obtain ⟨rfl, rfl⟩ := hc
    obtain ⟨b, hb, rfl⟩ := hv
    obtain ⟨b', xs, h1, h2, h3, h4⟩ := h.mem.cells t _ _ hm
    rw [h1] at hb
    simp only [Option.some.injEq, Value.pointer.injEq, Addr.mk.injEq, and_true] at hb
    subst hb
    refine ⟨b', off, xs.drop off, rfl, h3.drop off, fun j u hu => ?_⟩
    rw [List.getElem?_drop] at hu
    simp [World.cell?, h2, hu]
  case el ls r i off =>
    simp only [cellsAt, Option.some.injEq, Prod.mk.injEq] at hc
    obtain ⟨rfl, rfl⟩ := hc
    obtain ⟨hi, b, o, c, rfl, hr⟩ := hv
    have hlen : r.rows.length = r.len := r.rows_len
    obtain ⟨b2, o2, e, hS, hb, vals, hcell, hrow⟩ := Sl.rowAt hr (by omega)
    simp only [Option.some.injEq, Addr.mk.injEq, and_true] at e
    obtain ⟨rfl, rfl⟩ := e
    have hL := RdL.vals (hrow i hi).1 (hrow i hi).2
    refine ⟨b, _, ((List.range r.tys.length).map (vals i)).drop off, rfl, (RL.elem_ok hi hL).drop off, fun j u hu => ?_⟩
    rw [List.getElem?_drop, List.getElem?_map] at hu
    by_cases hj : off + j < r.tys.length
    · simp [hj] at hu
      rw [← hu, show o + i * r.tys.length + off + j = o + i * r.tys.length + (off + j) by omega]
      exact hcell i _ hi hj
    · simp [hj] at hu
  case oel t sz i off =>
    simp only [cellsAt] at hc
    split at hc
    case h_2 => simp at hc
    rename_i T ls r hm
    split at hc
    case isFalse => simp at hc
    rename_i hsz
    simp only [Option.some.injEq, Prod.mk.injEq] at hc
    obtain ⟨rfl, rfl⟩ := hc
    have hi : i < r.len := hn _ (by simp)
    obtain ⟨b, k, c, hb, rfl⟩ := hv
    obtain ⟨v', h1, cells, ho, hrow⟩ := h.mem.row t _ _ _ hm
    rw [h1] at hb
    simp only [Option.some.injEq] at hb
    subst hb
    have hlen : r.rows.length = r.len := r.rows_len
    have hcell := World.ownsRow.cells ho (g := b) rfl
    have hL : RdL w (E.set ls) r.tys ((cells.drop (i * r.tys.length)).take r.tys.length) (r.rows.getD i []) := (hrow i (by omega)).mono fun b _ hb => hb.1
    refine ⟨b, _, ((cells.drop (i * r.tys.length)).take r.tys.length).drop off, rfl, (RL.elem_ok hi hL).drop off, fun j u hu => ?_⟩
    rw [List.getElem?_drop, List.getElem?_take] at hu
    split at hu
    · rw [List.getElem?_drop] at hu
      have := hcell _ u hu
      rw [Addr.add0] at this
      rw [← this, hsz]
      congr 2
      omega
    · simp at hu
  all_goals simp [cellsAt] at hc
def aggT (P : Program) (T : TypeId) : Option Bool :=
  match P.underlying T with
  | some (.struct _) | some (.array _ _) => some true
  | some _ => some false
  | none => none
theorem run_isAgg {T : TypeId} {b : Bool} (h : aggT P T = some b) (w : World) : (isAgg T).run P w = .ok b w := by
  unfold aggT at h
  unfold isAgg
  split at h
  case h_4 => simp at h
  all_goals
    rename_i hu
    simp only [Option.some.injEq] at h
    subst h
    rw [Sem.run_bind, run_underlying hu]
  · simp [Sem.run_pure, Result.andThen]
  · simp [Sem.run_pure, Result.andThen]
  · rename_i d n1 n2
    cases d <;> first | (exfalso; simp_all; done) | simp [Sem.run_pure, Result.andThen]
def sizeT (P : Program) (T : TypeId) : Option Nat := (P.info? T).map (·.size)
theorem run_sizeOf' {T : TypeId} {n : Nat} (h : sizeT P T = some n) (w : World) : (sizeOf T).run P w = .ok n w := by
  unfold sizeT at h
  cases hi : P.info? T with
  | none => simp [hi] at h
  | some i => simp [hi] at h; simp [sizeOf, typeInfo, hi, h, Sem.run_bind]
theorem run_loadCells' {w : World} {b off : Nat} {xs : List Value} (hc : ∀ j u, xs[j]? = some u → w.cell? ⟨b, off + j, none⟩ = some u) (n : Nat) (hn : n ≤ xs.length) : (loadCells ⟨b, off, none⟩ n).run P w = .ok (xs.take n).toArray w := by
  have := run_loadCells_list (P := P) w ⟨b, off, none⟩ (xs.take n) (fun j u hu => by
    rw [List.getElem?_take] at hu
    rw [Addr.add0]
    split at hu
    · exact hc j u hu
    · simp at hu)
  rwa [List.length_take, Nat.min_eq_left hn] at this
/-- load -/
def cLoad (P : Program) (st : St) (T : TypeId) (x : Operand) : Option Upd :=
  match cellsAt st (strip (st.ev x)).1, aggT P T, sizeT P T with
  | some (cs, n), some true, some k => if k ≤ cs.length then some ⟨(strip (st.ev x)).2 ++ n, .agg (cs.take k), []⟩ else none
  | some (c :: _, n), some false, _ => some ⟨(strip (st.ev x)).2 ++ n, c, []⟩
  | _, _, _ => none
theorem cLoad_ok (o : Oper) (T : TypeId) (x : Operand) (ho : o.op = .load T x) {u : Upd} (hu : cLoad P st T x = some u) : Does P base X w0 st o u := by
  unfold cLoad at hu
  split at hu
  case h_3 => simp at hu
  · rename_i cs n k e1 e2 e3
    split at hu
    case isFalse => simp at hu
    rename_i hk
    simp only [Option.some.injEq] at hu
    subst hu
    refine Does.pure fun E a w h hn => ?_
    have h1 := strip_ok (h.ev x) (fun p hp => hn p (List.mem_append_left _ hp))
    obtain ⟨b, off, xs, e, hd, hc⟩ := cellsAt_ok h e1 (fun p hp => hn p (List.mem_append_right _ hp)) h1
    refine ⟨.agg (xs.take k).toArray, ?_, xs.take k, rfl, hd.take k⟩
    simp only [execOp, ho, Instr.loadAt, e, Instr.sureAddr, loadVar, Sem.run_bind, Sem.run_pure, Result.andThen, run_isAgg e2, if_true, run_sizeOf' e3, run_loadCells' hc k (by rw [hd.len]; exact hk)]
  · rename_i c rest n _ e1 e2
    simp only [Option.some.injEq] at hu
    subst hu
    refine Does.pure fun E a w h hn => ?_
    have h1 := strip_ok (h.ev x) (fun p hp => hn p (List.mem_append_left _ hp))
    obtain ⟨b, off, xs, e, hd, hc⟩ := cellsAt_ok h e1 (fun p hp => hn p (List.mem_append_right _ hp)) h1
    match xs, hd with
    | x0 :: xs, hd =>
      refine ⟨x0, ?_, hd.1⟩
      have := hc 0 x0 rfl
      rw [Nat.add_zero] at this
      simp [execOp, ho, Instr.loadAt, e, Instr.sureAddr, loadVar, Sem.run_bind, run_isAgg e2, run_load, this]
/-- cells written into a block -/
def splice (vs ys : List SV) (off : Nat) : List SV := vs.take off ++ ys ++ vs.drop (off + ys.length)
theorem splice_all {vs ys : List SV} {off : Nat} (h1 : vs.all SV.flat = true) (h2 : ys.all SV.flat = true) : (splice vs ys off).all SV.flat = true := by
  simp only [splice, List.all_eq_true, List.mem_append] at *
  rintro x ((hx | hx) | hx)
  · exact h1 x (List.mem_of_mem_take hx)
  · exact h2 x hx
  · exact h1 x (List.mem_of_mem_drop hx)
theorem splice_ok {E : Env} {w : World} {vs ys : List SV} {xs zs : List Value} (h : DenL E w vs xs) (k : DenL E w ys zs) (off : Nat) : DenL E w (splice vs ys off) (xs.take off ++ zs ++ xs.drop (off + zs.length)) := by
  rw [k.len]; exact ((h.take off).app k).app (h.drop _)
theorem run_storeVar' {w : World} {T : TypeId} {n : Nat} (hs : sizeT P T = some n) {v : Value} {zs : List Value} (hv : v.cells = zs.toArray) (hn : zs.length = n) {b off : Nat} {xs : List Value} {Tb : TypeId} (hb : w.heap[b]? = some (.cells xs.toArray Tb (0, 0)))
    (hl : off + zs.length ≤ xs.length) (h1 : ∀ u ∈ zs, u.oneCell' = true) : (storeVar T ⟨b, off, none⟩ v).run P w = .ok () (w.setRow b (xs.take off ++ zs ++ xs.drop (off + zs.length)).toArray) := by
  subst hn
  have := run_storeCells_at (P := P) b off Tb zs 0 xs.toArray w hb (by simpa using hl) h1
  simp only [Nat.add_zero] at this
  simp only [storeVar, hv, Sem.run_bind, run_sizeOf' hs, Result.andThen, List.size_toArray, ne_eq, not_true, if_false, Sem.run_pure]
  simpa using this
/-- store into a struct -/
def cStore (P : Program) (st : St) (T : TypeId) (x y : Operand) : Option Upd :=
  match strip (st.ev x), strip (st.ev y), sizeT P T with
  | (.ptr t off, n1), (s, n2), some k => match st.m t with
    | .cells Tb vs => if s.cells.all SV.flat then (if s.cells.length = k then (if off + k ≤ vs.length then some ⟨n1 ++ n2, .any, [(t, .cells Tb (splice vs s.cells off))]⟩ else none) else none) else none
    | _ => none
  | _, _, _ => none
theorem cStore_ok (o : Oper) (T : TypeId) (x y : Operand) (ho : o.op = .store T x y) {u : Upd} (hu : cStore P st T x y = some u) : Does P base X w0 st o u := by
  unfold cStore at hu
  split at hu
  case h_2 => simp at hu
  rename_i t off n1 s n2 k e1 e2 e3
  split at hu
  case h_2 => simp at hu
  rename_i Tb vs hm
  split at hu
  case isFalse => simp at hu
  split at hu
  case isFalse => simp at hu
  split at hu
  case isFalse => simp at hu
  rename_i hf hk hl
  simp only [Option.some.injEq] at hu
  subst hu
  intro E a w K Q h hn hK
  have h1 := strip_ok (h.ev x) (fun p hp => hn p (by rw [e1] at hp; exact List.mem_append_left _ hp))
  have h2 := strip_ok (h.ev y) (fun p hp => hn p (by rw [e2] at hp; exact List.mem_append_right _ hp))
  rw [e1] at h1
  rw [e2] at h2
  obtain ⟨zs, hz, hzd⟩ := cells_ok hf h2
  obtain ⟨b, hb, hx⟩ := h1
  obtain ⟨b', xs, c1, c2, c3, c4⟩ := h.mem.cells t _ _ hm
  rw [c1] at hb
  simp only [Option.some.injEq, Value.pointer.injEq, Addr.mk.injEq, and_true] at hb
  subst hb
  have hzl : zs.length = k := by rw [hzd.len]; exact hk
  have hxl : xs.length = vs.length := c3.len
  have hrun := run_storeVar' (P := P) e3 hz hzl c2 (off := off) (by omega) (DenL.ones hf hzd)
  have hlt : t < st.mm.length := St.m_lt st t (by rw [hm]; simp)
  have hne : ∀ g, vblock (.pointer (some ⟨b', 0, none⟩)) ≠ some g → g ≠ b' := by intro g hg e; exact hg (by simp [vblock, e])
  have hS : Same E.lab w (w.setRow b' (xs.take off ++ zs ++ xs.drop (off + zs.length)).toArray) := by
    refine ⟨by simp, fun g hg _ => setRow_other w b' g _ (fun e => ?_)⟩
    subst e
    exact (h.mem.sep t _ ⟨by rw [hm]; rfl, _, c1, rfl⟩).1 hg
  refine wp_skipv (w' := w.setRow b' (xs.take off ++ zs ++ xs.drop (off + zs.length)).toArray) ?_ (hK E _ _ (Env.Le.refl E) hS trivial ?_)
  · simp only [execOp, ho, Instr.storeAt, hx, Instr.sureAddr, Sem.run_bind, Sem.run_pure, Result.andThen, hrun]
  · rw [show putM [(t, .cells Tb (splice vs s.cells off))] st.mm = st.mm.set t (.cells Tb (splice vs s.cells off)) from rfl, St.m_set _ _ _ _ hlt]
    refine h.mem.poke (by show (st.m t).live = true; rw [hm]; rfl) c1 _ rfl (by simp) (fun g hg _ => setRow_other w b' g _ (hne g hg)) ⟨rfl, rfl, rfl⟩ ⟨b', _, rfl, setRow_heap w b' _ _ Tb _ c2, splice_ok (DenL.mono (Env.Le.refl E) hS _ _ c3) (DenL.mono (Env.Le.refl E) hS _ _ hzd) off, splice_all c4 hf⟩
end ops
section ops
variable {P : Program} {base : Nat} {X : Cx} {w0 : World} {st : St}
/-- where a field lies -/
def fieldOf (P : Program) (T : TypeId) (f : Nat) : Option (Nat × TypeId) :=
  match P.underlying T with
  | some (.struct fs) => match fs[f]? with
    | some fd => some (fd.offset, fd.type)
    | none => none
  | _ => none
theorem fieldOf_ok {T : TypeId} {f off : Nat} {t : TypeId} (h : fieldOf P T f = some (off, t)) : ∃ fs fd, P.underlying T = some (.struct fs) ∧ fs[f]? = some fd ∧ fd.offset = off ∧ fd.type = t := by
  unfold fieldOf at h
  split at h
  case h_2 => simp at h
  rename_i fs hu
  split at h
  case h_2 => simp at h
  rename_i fd hf
  simp only [Option.some.injEq, Prod.mk.injEq] at h
  exact ⟨fs, fd, hu, hf, h.1, h.2⟩
def shift (s : SV) (n : Nat) : SV :=
  match s with
  | .ptr t off => .ptr t (off + n)
  | .el ls r i off => .el ls r i (off + n)
  | .oel t sz i off => .oel t sz i (off + n)
  | _ => .any
def isAddr : SV → Bool
  | .ptr .. | .el .. | .oel .. => true
  | _ => false
theorem shift_ok {E : Env} {w : World} {s : SV} {v : Value} (n : Nat) (h : DenV E w s v) (ha : isAddr s = true) : ∃ b off, v = .pointer (some ⟨b, off, none⟩) ∧ DenV E w (shift s n) (.pointer (some ⟨b, off + n, none⟩)) := by
  cases s <;> simp only [isAddr, Bool.false_eq_true] at ha
  case ptr t off => obtain ⟨b, h1, rfl⟩ := h; exact ⟨b, off, rfl, b, h1, rfl⟩
  case el ls r i off => obtain ⟨h0, b, o, c, rfl, h2⟩ := h; exact ⟨b, _, rfl, h0, b, o, c, by rw [Nat.add_assoc], h2⟩
  case oel t sz i off => obtain ⟨b, k, c, h1, rfl⟩ := h; exact ⟨b, _, rfl, b, k, c, h1, by rw [Nat.add_assoc]⟩
/-- fieldAddr -/
def cFieldAddr (P : Program) (st : St) (T : TypeId) (x : Operand) (f : Nat) : Option Upd :=
  match fieldOf P T f with
  | some (off, t) => match sizeT P t with
    | some k => if k = 0 then none else (if isAddr (strip (st.ev x)).1 then some ⟨(strip (st.ev x)).2, shift (strip (st.ev x)).1 off, []⟩ else none)
    | none => none
  | none => none
theorem cFieldAddr_ok (o : Oper) (T : TypeId) (x : Operand) (f : Nat) (ho : o.op = .fieldAddr T x f) {u : Upd} (hu : cFieldAddr P st T x f = some u) : Does P base X w0 st o u := by
  unfold cFieldAddr at hu
  split at hu
  case h_2 => simp at hu
  rename_i off t hf
  split at hu
  case h_2 => simp at hu
  rename_i k hk
  split at hu
  case isTrue => simp at hu
  split at hu
  case isFalse => simp at hu
  rename_i hk0 ha
  simp only [Option.some.injEq] at hu
  subst hu
  obtain ⟨fs, fd, h1, h2, rfl, rfl⟩ := fieldOf_ok hf
  refine Does.pure fun E a w h hn => ?_
  obtain ⟨b, o2, e, hd⟩ := shift_ok fd.offset (strip_ok (h.ev x) hn) ha
  refine ⟨_, ?_, hd⟩
  simp [execOp, ho, Instr.fieldAt, run_underlying h1, h2, e, Instr.sureAddr, fieldPlace, run_sizeOf' hk, hk0, Addr.add0]
/-- a part of a struct value -/
def cField (P : Program) (st : St) (T : TypeId) (x : Operand) (f : Nat) : Option Upd :=
  match fieldOf P T f, strip (st.ev x) with
  | some (off, t), (.agg vs, n) => match aggT P t with
    | some true => match sizeT P t with
      | some k => if off + k ≤ vs.length then some ⟨n, .agg ((vs.drop off).take k), []⟩ else none
      | none => none
    | some false => match vs[off]? with
      | some s => some ⟨n, s, []⟩
      | none => none
    | none => none
  | _, _ => none
theorem cField_ok (o : Oper) (T : TypeId) (x : Operand) (f : Nat) (ho : o.op = .field T x f) {u : Upd} (hu : cField P st T x f = some u) : Does P base X w0 st o u := by
  unfold cField at hu
  split at hu
  case h_2 => simp at hu
  rename_i off t vs n hf e
  obtain ⟨fs, fd, h1, h2, rfl, rfl⟩ := fieldOf_ok hf
  split at hu
  case h_3 => simp at hu
  · rename_i ha
    split at hu
    case h_2 => simp at hu
    rename_i k hk
    split at hu
    case isFalse => simp at hu
    rename_i hl
    simp only [Option.some.injEq] at hu
    subst hu
    refine Does.pure fun E a w h hn => ?_
    have hv := strip_ok (h.ev x) (fun p hp => hn p (by rw [e] at hp; exact hp))
    rw [e] at hv
    obtain ⟨xs, hx, hd⟩ := hv
    refine ⟨.agg ((xs.drop fd.offset).take k).toArray, ?_, _, rfl, (hd.drop _).take _⟩
    have e2 : (xs.toArray.extract fd.offset (fd.offset + k)) = ((xs.drop fd.offset).take k).toArray := by
      simp [List.extract_toArray, List.extract_eq_take_drop]
    simp [execOp, ho, Instr.field, run_underlying h1, h2, hx, asAgg, part, run_isAgg ha, run_sizeOf' hk]
  · rename_i ha
    split at hu
    case h_2 => simp at hu
    rename_i s hs
    simp only [Option.some.injEq] at hu
    subst hu
    refine Does.pure fun E a w h hn => ?_
    have hv := strip_ok (h.ev x) (fun p hp => hn p (by rw [e] at hp; exact hp))
    rw [e] at hv
    obtain ⟨xs, hx, hd⟩ := hv
    have hlt : fd.offset < vs.length := (List.getElem?_eq_some_iff.1 hs).1
    have hd2 := hd.at fd.offset hlt
    have hlt2 : fd.offset < xs.length := by rw [hd.len]; exact hlt
    have e3 : vs.getD fd.offset .any = s := by simp [List.getD, hs]
    rw [e3] at hd2
    have e4 : xs.getD fd.offset undef = xs[fd.offset] := by simp [List.getD, hlt2]
    rw [e4] at hd2
    refine ⟨_, ?_, hd2⟩
    simp [execOp, ho, Instr.field, run_underlying h1, h2, hx, asAgg, part, run_isAgg ha, hlt2]
/-- a struct literal -/
def fillS (place : Nat → Option (Nat × Nat)) : List SV → List (Nat × SV) → Option (List SV)
  | cs, [] => some cs
  | cs, (i, s) :: r => match place i with
    | some (off, k) => if s.cells.all SV.flat then (if s.cells.length = k then (if off + k ≤ cs.length then fillS place (splice cs s.cells off) r else none) else none) else none
    | none => none
theorem fold_set (zs : List Value) (off : Nat) : ∀ (j : Nat) (cs : Array Value), off + j + zs.length ≤ cs.size →
    ((zs.zipIdx j).foldl (fun cs (c, j) => cs.setIfInBounds (off + j) c) cs).toList = cs.toList.take (off + j) ++ zs ++ cs.toList.drop (off + j + zs.length) := by
  induction zs with
  | nil => intro j cs _; simp
  | cons z zs ih =>
    intro j cs h
    simp only [List.zipIdx_cons, List.foldl_cons, List.length_cons] at h ⊢
    have := ih (j + 1) (cs.setIfInBounds (off + j) z) (by simp; omega)
    rw [show off + (j + 1) = off + j + 1 by omega] at this
    rw [this]
    simp only [Array.toList_setIfInBounds]
    have hlt : off + j < cs.toList.length := by simp; omega
    have e1 : (cs.toList.set (off + j) z).take (off + j + 1) = cs.toList.take (off + j) ++ [z] := by
      rw [List.take_succ_eq_append_getElem (by simpa using hlt), List.take_set_of_le (by omega)]
      simp
    have e2 : (cs.toList.set (off + j) z).drop (off + j + 1 + zs.length) = cs.toList.drop (off + j + (zs.length + 1)) := by
      rw [List.drop_set_of_lt (by omega)]; congr 1; omega
    rw [e1, e2]; simp
theorem fillS_ok {E : Env} {w : World} {place : Nat → Option (Nat × Nat)} : ∀ {ps : List (Nat × SV)} {cs out : List SV} {vals : List (Nat × Value)} {zs : Array Value}, fillS place cs ps = some out → DenL E w cs zs.toList → vals.length = ps.length →
    (∀ i, i < ps.length → (vals.getD i default).1 = (ps.getD i default).1 ∧ DenV E w (ps.getD i default).2 (vals.getD i default).2) → ∃ r : Array Value, Instr.fill place zs vals = some r ∧ DenL E w out r.toList
  | [], cs, out, vals, zs, h, hd, hl, _ => by
    have : vals = [] := List.eq_nil_of_length_eq_zero (by simpa using hl)
    subst this
    simp only [fillS, Option.some.injEq] at h
    subst h
    exact ⟨zs, by simp [Instr.fill], hd⟩
  | (i, s) :: r, cs, out, [], zs, h, hd, hl, _ => by simp at hl
  | (i, s) :: r, cs, out, (i2, v) :: vals, zs, h, hd, hl, hp => by
    have h0 := hp 0 (by simp)
    simp at h0
    obtain ⟨rfl, hv⟩ := h0
    unfold fillS at h
    split at h
    case h_2 => simp at h
    rename_i off k hpl
    split at h
    case isFalse => simp at h
    split at h
    case isFalse => simp at h
    split at h
    case isFalse => simp at h
    rename_i hf hk hle
    obtain ⟨xs, hx, hxd⟩ := cells_ok hf hv
    have hxl : xs.length = k := by rw [hxd.len]; exact hk
    have hzl : zs.size = cs.length := by have := hd.len; simpa using this
    have hfold := fold_set xs off 0 zs (by simp; omega)
    simp only [Nat.add_zero] at hfold
    have hd2 : DenL E w (splice cs s.cells off) ((xs.zipIdx.foldl (fun cs (c, j) => cs.setIfInBounds (off + j) c) zs).toList) := by
      rw [hfold]; exact splice_ok hd hxd off
    obtain ⟨res, h3, h4⟩ := fillS_ok (ps := r) (vals := vals) h hd2 (by simpa using hl) (fun j hj => by have := hp (j + 1) (by simpa using hj); simpa using this)
    refine ⟨res, ?_, h4⟩
    rw [Instr.fill, hpl]
    simp only [hx, List.size_toArray, hxl, ne_eq, not_true, false_or, decide_false, Bool.false_or]
    rw [if_neg (by simp; omega)]
    have e5 : (xs.toArray.zipIdx.foldl (fun cs (c, j) => cs.setIfInBounds (off + j) c) zs) = (xs.zipIdx.foldl (fun cs (c, j) => cs.setIfInBounds (off + j) c) zs) := by
      simp [← Array.foldl_toList]
    rw [← h3]
    simp
def partsS (st : St) : List (Nat × Operand) → List (Nat × SV) × List Prop
  | [] => ([], [])
  | (i, x) :: r => ((i, (strip (st.ev x)).1) :: (partsS st r).1, (strip (st.ev x)).2 ++ (partsS st r).2)
def valsP (a : Act) (ps : List (Nat × Operand)) : List (Nat × Value) := ps.map fun q => (q.1, a.eval q.2)
theorem partsS_ok {E : Env} {a : Act} {w : World} (h : st.Ok base X w0 E a w) : ∀ (ps : List (Nat × Operand)), (∀ p ∈ (partsS st ps).2, p) → (partsS st ps).1.length = ps.length ∧ ∀ i, i < ps.length →
    (((valsP a ps).getD i default).1 = ((partsS st ps).1.getD i default).1 ∧ DenV E w ((partsS st ps).1.getD i default).2 ((valsP a ps).getD i default).2)
  | [], _ => ⟨rfl, fun i hi => absurd hi (by simp)⟩
  | (i, x) :: r, hn => by
    have ih := partsS_ok h r (fun p hp => hn p (List.mem_append_right _ hp))
    refine ⟨by simp [partsS, ih.1], fun j hj => ?_⟩
    cases j with
    | zero => exact ⟨rfl, strip_ok (h.ev x) (fun p hp => hn p (List.mem_append_left _ hp))⟩
    | succ j => have := ih.2 j (by simpa using hj); simpa [partsS, valsP] using this
def structOf (P : Program) (T : TypeId) : Option (List (Nat × TypeId)) :=
  match P.underlying T with
  | some (.struct fs) => some (fs.toList.map fun f => (f.offset, f.type))
  | _ => none
def placesOf (P : Program) : List (Nat × TypeId) → Option (List (Nat × Nat))
  | [] => some []
  | (off, t) :: r => match sizeT P t, placesOf P r with
    | some k, some l => some ((off, k) :: l)
    | _, _ => none
theorem run_places (w : World) : ∀ (fs : List Field) (l : List (Nat × Nat)), placesOf P (fs.map fun f => (f.offset, f.type)) = some l →
    (List.mapM (fun (f : Field) => (do pure (f.offset, ← sizeOf f.type) : Sem (Nat × Nat))) fs).run P w = .ok l w
  | [], l, h => by simp only [List.map_nil, placesOf, Option.some.injEq] at h; subst h; simp [Sem.run_pure]
  | f :: fs, l, h => by
    simp only [List.map_cons, placesOf] at h
    split at h
    case h_2 => simp at h
    rename_i k l2 h1 h2
    simp only [Option.some.injEq] at h
    subst h
    have ih := run_places w fs l2 h2
    simp only [List.mapM_cons, Sem.run_bind, run_sizeOf' h1, Result.andThen, Sem.run_pure, ih]
/-- build -/
def cBuild (P : Program) (st : St) (T : TypeId) (parts : Array (Nat × Operand)) : Option Upd :=
  match (P.info? T).bind (·.zero), structOf P T with
  | some z, some fs => match placesOf P fs with
    | some l => match fillS (fun i => l[i]?) (ofCs z) (partsS st parts.toList).1 with
      | some out => some ⟨(partsS st parts.toList).2, .agg out, []⟩
      | none => none
    | none => none
  | _, _ => none
theorem cBuild_ok (o : Oper) (T : TypeId) (parts : Array (Nat × Operand)) (ho : o.op = .build T parts) {u : Upd} (hu : cBuild P st T parts = some u) : Does P base X w0 st o u := by
  unfold cBuild at hu
  split at hu
  case h_2 => simp at hu
  rename_i z fs hz hfs
  split at hu
  case h_2 => simp at hu
  rename_i l hl
  split at hu
  case h_2 => simp at hu
  rename_i out hout
  simp only [Option.some.injEq] at hu
  subst hu
  unfold structOf at hfs
  split at hfs
  case h_2 => simp at hfs
  rename_i flds hund
  simp only [Option.some.injEq] at hfs
  subst hfs
  refine Does.pure fun E a w h hn => ?_
  have hp := partsS_ok h parts.toList hn
  obtain ⟨r, hr, hd⟩ := fillS_ok (E := E) (w := w) (zs := z.cells) (vals := valsP a parts.toList) hout (ofCs_ok E w z.cells.toList) (by rw [hp.1]; simp [valsP]) (fun i hi => hp.2 i (by rw [hp.1] at hi; exact hi))
  refine ⟨.agg r, ?_, r.toList, by simp, hd⟩
  cases hi : P.info? T with
  | none => simp [hi] at hz
  | some inf =>
    simp [hi] at hz
    have hpl := run_places (P := P) w flds.toList l hl
    have hm : (flds.mapM fun (f : Field) => (do pure (f.offset, ← sizeOf f.type) : Sem (Nat × Nat))).run P w = .ok l.toArray w := by
      rw [Array.mapM_eq_mapM_toList, map_eq_pure_bind, Sem.run_bind, hpl]; simp [Sem.run_pure]
    have hrr : Instr.fill (l.toArray[·]?) z.cells (parts.map fun (i, x) => (i, a.eval x)).toList = some r := by
      have e : (parts.map fun (i, x) => (i, a.eval x)).toList = valsP a parts.toList := by simp [valsP]
      rw [e]; simpa using hr
    simp only [execOp, ho, Instr.build, zeroValue, typeInfo, Sem.run_bind, run_program, hi, hz, Result.andThen, Sem.run_pure, run_underlying hund, hm, hrr]
end ops
section ops
variable {P : Program} {base : Nat} {X : Cx} {w0 : World} {st : St}
theorem OwnR.bd {b : Nat} {w : World} {T : TypeId} {S : Nat → Prop} {fs : List Ty} {v : Value} {rows : List (List D)} (h : OwnR b w T S fs v rows) : rows.length ≤ 9223372036854775807 := by
  obtain ⟨cells, ⟨_, ⟨rfl, hn⟩ | ⟨g, cap, cur, rfl, _, _, h1, h2, _⟩⟩, _⟩ := h
  · omega
  · unfold maxLen at h2; omega
def sliceE (P : Program) (T : TypeId) : Option TypeId :=
  match P.underlying T with
  | some (.slice e) => some e
  | _ => none
theorem sliceE_ok {T e : TypeId} (h : sliceE P T = some e) : P.underlying T = some (.slice e) := by
  unfold sliceE at h
  split at h
  case h_2 => simp at h
  rename_i hu
  simp only [Option.some.injEq] at h
  rw [hu, h]
/-- the address of an element -/
def cIndexAddr (P : Program) (st : St) (T : TypeId) (x i : Operand) : Option Upd :=
  match sliceE P T, strip (st.ev i) with
  | some e, (.int k n, n1) => match strip (st.ev x), sizeT P e with
    | (.sl ls r, n2), some sz => if sz = r.tys.length then some ⟨n1 ++ n2 ++ [0 ≤ n, n < (r.len : Int)], .el ls r n.toNat 0, []⟩ else none
    | (.own t, n2), some sz => match st.m t with
      | .row _ _ r => if sz = r.tys.length then some ⟨n1 ++ n2 ++ [0 ≤ n, n < (r.len : Int)], .oel t sz n.toNat 0, []⟩ else none
      | _ => none
    | _, _ => none
  | _, _ => none
theorem run_indexAt {T e : TypeId} (hu : P.underlying T = some (.slice e)) {sz : Nat} (hsz : sizeT P e = some sz) {b off len c : Nat} {k : IntKind} {n : Int} (h0 : 0 ≤ n) (h1 : n < (len : Int)) (w : World) :
    (Instr.indexAt T (.slice (some ⟨b, off, none⟩) len c) (.int k n)).run P w = .ok (.pointer (some ⟨b, off + n.toNat * sz, none⟩)) w := by
  simp [Instr.indexAt, asIntOf, run_underlying hu, h0, h1, run_sizeOf' hsz, Addr.add0, Sem.run_bind]
theorem cIndexAddr_ok (o : Oper) (T : TypeId) (x i : Operand) (ho : o.op = .indexAddr T x i) {u : Upd} (hu : cIndexAddr P st T x i = some u) : Does P base X w0 st o u := by
  unfold cIndexAddr at hu
  split at hu
  case h_2 => simp at hu
  rename_i e k n n1 he ei
  have hund := sliceE_ok he
  split at hu
  case h_3 => simp at hu
  · rename_i ls r n2 sz ex hsz
    split at hu
    case isFalse => simp at hu
    rename_i hrs
    simp only [Option.some.injEq] at hu
    subst hu
    refine Does.pure fun E a w h hn => ?_
    have hi := strip_ok (h.ev i) (fun p hp => hn p (by rw [ei] at hp; simp [hp]))
    have hx := strip_ok (h.ev x) (fun p hp => hn p (by rw [ex] at hp; simp [hp]))
    rw [ei] at hi
    rw [ex] at hx
    obtain ⟨hi, _⟩ := hi
    have h0 : 0 ≤ n := hn _ (by simp)
    have h1 : n < (r.len : Int) := hn (n < (r.len : Int)) (by simp)
    have hlen : r.rows.length = r.len := r.rows_len
    obtain ⟨ad, c, hv, hs⟩ := Rd.sl' hx
    obtain ⟨b, off, e1⟩ := Sl.addr hs (by omega)
    subst e1
    rw [hlen] at hv hs
    refine ⟨.pointer (some ⟨b, off + n.toNat * sz, none⟩), ?_, (by omega : n.toNat < r.len), b, off, c, ?_, hs⟩
    · simp only [execOp, ho, hv, hi, Sem.run_bind, run_indexAt hund hsz h0 h1, Result.andThen, Sem.run_pure]
    · rw [hrs, Nat.add_zero]
  · rename_i t n2 sz ex hsz
    split at hu
    case h_2 => simp at hu
    rename_i T' ls r hm
    split at hu
    case isFalse => simp at hu
    rename_i hrs
    simp only [Option.some.injEq] at hu
    subst hu
    refine Does.pure fun E a w h hn => ?_
    have hi := strip_ok (h.ev i) (fun p hp => hn p (by rw [ei] at hp; simp [hp]))
    have hx := strip_ok (h.ev x) (fun p hp => hn p (by rw [ex] at hp; simp [hp]))
    rw [ei] at hi
    rw [ex] at hx
    obtain ⟨hi, _⟩ := hi
    have h0 : 0 ≤ n := hn _ (by simp)
    have h1 : n < (r.len : Int) := hn (n < (r.len : Int)) (by simp)
    have hlen : r.rows.length = r.len := r.rows_len
    obtain ⟨v', h2, cells, ho', hrow⟩ := h.mem.row t _ _ _ hm
    have hβ := hx.1
    rw [h2] at hβ
    simp only [Option.some.injEq] at hβ
    rcases ho'.2 with ⟨e1, e2⟩ | ⟨g, cap, cur, e1, _⟩
    · omega
    · rw [hlen] at e1
      rw [e1] at hβ h2
      refine ⟨.pointer (some ⟨g, 0 + n.toNat * sz, none⟩), ?_, g, r.len, cap, h2, by simp⟩
      simp only [execOp, ho, ← hβ, hi, Sem.run_bind, run_indexAt hund hsz h0 h1, Result.andThen, Sem.run_pure]
/-- a part of a tuple -/
def cExtract (st : St) (x : Operand) (i : Nat) : Option Upd :=
  match strip (st.ev x) with
  | (.tup vs, n) => match vs[i]? with
    | some s => some ⟨n, s, []⟩
    | none => none
  | _ => none
theorem cExtract_ok (o : Oper) (x : Operand) (i : Nat) (ho : o.op = .extract x i) {u : Upd} (hu : cExtract st x i = some u) : Does P base X w0 st o u := by
  unfold cExtract at hu
  split at hu
  case h_2 => simp at hu
  rename_i vs n e
  split at hu
  case h_2 => simp at hu
  rename_i s hs
  simp only [Option.some.injEq] at hu
  subst hu
  refine Does.pure fun E a w h hn => ?_
  have hx := strip_ok (h.ev x) (fun p hp => hn p (by rw [e] at hp; exact hp))
  rw [e] at hx
  obtain ⟨xs, hv, hd⟩ := hx
  have hlt : i < vs.length := (List.getElem?_eq_some_iff.1 hs).1
  have hd2 := hd.at i hlt
  have hlt2 : i < xs.length := by rw [hd.len]; exact hlt
  rw [show vs.getD i .any = s by simp [List.getD, hs], show xs.getD i undef = xs[i] by simp [List.getD, hlt2]] at hd2
  refine ⟨_, ?_, hd2⟩
  simp [execOp, ho, hv, Instr.extract, hlt2]
/-- reckoning -/
def binV (op : BinOp) : SV → SV → Option (SV × List Prop)
  | .int k x, .int k' y => if k = k' then match op with
    | .add => some (.int k (k.wrap (x + y)), [])
    | .sub => some (.int k (k.wrap (x - y)), [])
    | .mul => some (.int k (k.wrap (x * y)), [])
    | .quo => some (.int k (k.wrap (x.tdiv y)), [y ≠ 0])
    | .rem => some (.int k (x.tmod y), [y ≠ 0, (Lit.int k (x.tmod y)).wf = true])
    | .eql => some (.bool (x == y), [])
    | .neq => some (.bool (x != y), [])
    | .lss => some (.bool (decide (x < y)), [])
    | .leq => some (.bool (decide (x ≤ y)), [])
    | .gtr => some (.bool (decide (x > y)), [])
    | .geq => some (.bool (decide (x ≥ y)), [])
    | _ => none
    else none
  | .str x, .str y => match op with
    | .eql => some (.bool (x.toList == y.toList), [])
    | .neq => some (.bool !(x.toList == y.toList), [])
    | .add => some (.str (x ++ y), [x.size + y.size ≤ 140737488355328])
    | _ => none
  | _, _ => none
/-- of two truths -/
def binB (P : Program) (op : BinOp) (T : TypeId) : SV → SV → Option SV
  | .bool x, .bool y => match P.underlying T with
    | some .bool => match op with
      | .eql => some (.bool (x == y))
      | .neq => some (.bool !(x == y))
      | _ => none
    | _ => none
  | _, _ => none
theorem binV_ok {E : Env} {w : World} {op : BinOp} {s t r : SV} {n : List Prop} (h : binV op s t = some (r, n)) (hn : ∀ p ∈ n, p) {v u : Value} (hv : DenV E w s v) (hu : DenV E w t u) (T : TypeId) (x y : Operand) :
    ∃ z, (do eqGuard op T x y v u; binOp op T v u : Sem Value).run P w = .ok z w ∧ DenV E w r z := by
  unfold binV at h
  split at h
  · rename_i k a k' b
    split at h
    case isFalse => simp at h
    rename_i hk
    subst hk
    obtain ⟨rfl, _⟩ := hv
    obtain ⟨rfl, _⟩ := hu
    split at h <;> simp only [Option.some.injEq, Prod.mk.injEq, reduceCtorEq] at h
    all_goals obtain ⟨rfl, rfl⟩ := h
    case h_5 =>
      have h1 : b ≠ 0 := hn _ (by simp)
      have h2 : (Lit.int k (a.tmod b)).wf = true := hn _ (by simp)
      exact ⟨_, by simp [eqGuard, binOp, Op.intDiv, h1], rfl, h2⟩
    case h_4 =>
      have h1 : b ≠ 0 := hn _ (by simp)
      exact ⟨_, by simp [eqGuard, binOp, Op.intDiv, h1], rfl, wf_wrap _ _⟩
    all_goals
      refine ⟨_, by simp [eqGuard, binOp, Op.intArith, Op.intCmp]; rfl, ?_⟩
      first | exact ⟨rfl, wf_wrap _ _⟩ | rfl
  · rename_i a b
    obtain ⟨rfl, ha⟩ := hv
    obtain ⟨rfl, hb⟩ := hu
    split at h <;> simp only [Option.some.injEq, Prod.mk.injEq, reduceCtorEq] at h
    all_goals obtain ⟨rfl, rfl⟩ := h
    case h_3 =>
      have h1 : a.size + b.size ≤ 140737488355328 := hn _ (by simp)
      refine ⟨.string (a ++ b), ?_, rfl, by simpa using h1⟩
      have h2 : ¬ (((a.size + b.size : Nat) : Int) > IntKind.i64.max) := by
        have : IntKind.i64.max = 9223372036854775807 := rfl
        rw [this]; omega
      simp only [eqGuard, binOp, Op.stringOp]
      rw [if_neg h2]
      rfl
    all_goals
      refine ⟨_, by simp [eqGuard, binOp, Op.stringOp]; rfl, ?_⟩
      rfl
  · simp at h
theorem run_equalB {T : TypeId} (hT : P.underlying T = some .bool) (a b : Bool) (w : World) : (Op.equal T (.bool a) (.bool b)).run P w = .ok (a == b) w := by
  unfold Op.equal Op.maxDepth
  unfold Op.equalIn
  rw [Sem.run_bind, run_underlying hT]
  rfl
theorem binB_ok {E : Env} {w : World} {op : BinOp} {T : TypeId} {s t r : SV} (h : binB P op T s t = some r) {v u : Value} (hv : DenV E w s v) (hu : DenV E w t u) (x y : Operand) :
    ∃ z, (do eqGuard op T x y v u; binOp op T v u : Sem Value).run P w = .ok z w ∧ DenV E w r z := by
  unfold binB at h
  split at h
  case h_2 => simp at h
  rename_i a b
  split at h
  case h_2 => simp at h
  rename_i hT
  have hv : v = .bool a := hv
  have hu : u = .bool b := hu
  subst hv; subst hu
  split at h <;> simp only [Option.some.injEq, reduceCtorEq] at h
  all_goals subst h
  · exact ⟨.bool (a == b), by
      rw [show (do eqGuard .eql T x y (.bool a) (.bool b); binOp .eql T (.bool a) (.bool b) : Sem Value) = (do eqGuard .eql T x y (.bool a) (.bool b); pure (.bool (← Op.equal T (.bool a) (.bool b)))) from rfl]
      simp [eqGuard, run_equalB hT], rfl⟩
  · exact ⟨.bool !(a == b), by
      rw [show (do eqGuard .neq T x y (.bool a) (.bool b); binOp .neq T (.bool a) (.bool b) : Sem Value) = (do eqGuard .neq T x y (.bool a) (.bool b); pure (.bool (!(← Op.equal T (.bool a) (.bool b))))) from rfl]
      simp [eqGuard, run_equalB hT], rfl⟩
def cBin (P : Program) (st : St) (op : BinOp) (T : TypeId) (x y : Operand) : Option Upd :=
  match binV op (strip (st.ev x)).1 (strip (st.ev y)).1 with
  | some (r, n) => some ⟨(strip (st.ev x)).2 ++ (strip (st.ev y)).2 ++ n, r, []⟩
  | none => match binB P op T (strip (st.ev x)).1 (strip (st.ev y)).1 with
    | some r => some ⟨(strip (st.ev x)).2 ++ (strip (st.ev y)).2, r, []⟩
    | none => none
theorem cBin_ok (o : Oper) (op : BinOp) (T T2 : TypeId) (x y : Operand) (ho : o.op = .binOp op T x y T2) {u : Upd} (hu : cBin P st op T x y = some u) : Does P base X w0 st o u := by
  unfold cBin at hu
  split at hu
  · rename_i r n hb
    simp only [Option.some.injEq] at hu
    subst hu
    refine Does.pure fun E a w h hn => ?_
    have hx := strip_ok (h.ev x) (fun p hp => hn p (by simp [hp]))
    have hy := strip_ok (h.ev y) (fun p hp => hn p (by simp [hp]))
    obtain ⟨z, h1, h2⟩ := binV_ok (P := P) hb (fun p hp => hn p (by simp [hp])) hx hy T x y
    exact ⟨z, by rw [execOp, ho]; simp only [Sem.run_bind] at h1 ⊢; rw [h1]; rfl, h2⟩
  · split at hu
    case h_2 => simp at hu
    rename_i r hb
    simp only [Option.some.injEq] at hu
    subst hu
    refine Does.pure fun E a w h hn => ?_
    have hx := strip_ok (h.ev x) (fun p hp => hn p (by simp [hp]))
    have hy := strip_ok (h.ev y) (fun p hp => hn p (by simp [hp]))
    obtain ⟨z, h1, h2⟩ := binB_ok (P := P) hb hx hy x y
    exact ⟨z, by rw [execOp, ho]; simp only [Sem.run_bind] at h1 ⊢; rw [h1]; rfl, h2⟩
def cUn (st : St) (op : UnOp) (x : Operand) : Option Upd :=
  match op, strip (st.ev x) with
  | .not, (.bool b, n) => some ⟨n, .bool !b, []⟩
  | .neg, (.int k m, n) => some ⟨n, .int k (k.wrap (0 - m)), []⟩
  | _, _ => none
theorem cUn_ok (o : Oper) (op : UnOp) (T : TypeId) (x : Operand) (ho : o.op = .unOp op T x) {u : Upd} (hu : cUn st op x = some u) : Does P base X w0 st o u := by
  unfold cUn at hu
  split at hu
  case h_3 => simp at hu
  · rename_i b n e
    simp only [Option.some.injEq] at hu
    subst hu
    refine Does.pure fun E a w h hn => ?_
    have hx := strip_ok (h.ev x) (fun p hp => hn p (by rw [e] at hp; exact hp))
    rw [e] at hx
    have hx : a.eval x = .bool b := hx
    exact ⟨.bool !b, by simp [execOp, ho, hx, Op.unary], rfl⟩
  · rename_i k m n e
    simp only [Option.some.injEq] at hu
    subst hu
    refine Does.pure fun E a w h hn => ?_
    have hx := strip_ok (h.ev x) (fun p hp => hn p (by rw [e] at hp; exact hp))
    rw [e] at hx
    obtain ⟨hx, _⟩ := hx
    exact ⟨.int k (k.wrap (0 - m)), by simp [execOp, ho, hx, Op.unary, Op.intArith], rfl, wf_wrap _ _⟩
/-- len -/
def lenV (st : St) : SV → Option Nat
  | .sl _ r => some r.len
  | .own t => match st.m t with
    | .row _ _ r => some r.len
    | _ => none
  | .nil => some 0
  | _ => none
theorem lenV_ok {E : Env} {a : Act} {w : World} (h : st.Ok base X w0 E a w) {s : SV} {n : Nat} (hl : lenV st s = some n) {v : Value} (hv : DenV E w s v) : ∃ ad c, v = .slice ad n c ∧ n ≤ 9223372036854775807 := by
  cases s <;> simp only [lenV, reduceCtorEq] at hl
  case nil => simp only [Option.some.injEq] at hl; subst hl; exact ⟨none, 0, hv, by omega⟩
  case sl ls r =>
    simp only [Option.some.injEq] at hl
    subst hl
    obtain ⟨ad, c, e, hs⟩ := Rd.sl' hv
    have := hs.bd
    rw [r.rows_len] at e this
    exact ⟨ad, c, e, by omega⟩
  case own t =>
    split at hl
    case h_2 => simp at hl
    rename_i T ls r hm
    simp only [Option.some.injEq] at hl
    subst hl
    obtain ⟨v', h1, h2⟩ := h.mem.row t _ _ _ hm
    have := hv.1
    rw [h1] at this
    simp only [Option.some.injEq] at this
    subst this
    obtain ⟨ad, c, e⟩ := h2.form
    have := h2.bd
    rw [r.rows_len] at e this
    exact ⟨ad, c, e, this⟩
def cLen (P : Program) (st : St) (T : TypeId) (x : Operand) : Option Upd :=
  match sliceE P T with
  | some _ => match lenV st (strip (st.ev x)).1 with
    | some n => some ⟨(strip (st.ev x)).2, .int .i64 n, []⟩
    | none => none
  | none => match P.underlying T, strip (st.ev x) with
    | some .string, (.str s, n) => some ⟨n, .int .i64 s.size, []⟩
    | _, _ => none
theorem run_len {o : Oper} {x : Operand} {T : TypeId} (ho : o.op = .call { callee := .builtin .len, args := #[x], argTypes := #[T] }) (a : Act) (w : World) {v : Value} (h : (Builtin.len_ #[T] o.type #[a.eval x]).run P w = .ok v w) :
    (execOp a.eval o).run P w = .ok (.value v) w := by
  simp only [execOp, ho, resolve, invoke, builtin, Sem.run_bind, Sem.run_pure, Result.andThen, List.map_toArray, List.map_cons, List.map_nil, h]
theorem cLen_ok (o : Oper) (T : TypeId) (x : Operand) (ho : o.op = .call { callee := .builtin .len, args := #[x], argTypes := #[T] }) {u : Upd} (hu : cLen P st T x = some u) : Does P base X w0 st o u := by
  unfold cLen at hu
  split at hu
  · rename_i e he
    split at hu
    case h_2 => simp at hu
    rename_i n hl
    simp only [Option.some.injEq] at hu
    subst hu
    refine Does.pure fun E a w h hn => ?_
    obtain ⟨ad, c, hv, hb⟩ := lenV_ok h hl (strip_ok (h.ev x) hn)
    exact ⟨.int .i64 n, run_len ho a w (by simp [Builtin.len_, run_underlying (sliceE_ok he), hv, goInt]), rfl, bd_lit ⟨by omega, by omega⟩⟩
  · split at hu
    case h_2 => simp at hu
    rename_i s n hT e
    simp only [Option.some.injEq] at hu
    subst hu
    refine Does.pure fun E a w h hn => ?_
    have hx := strip_ok (h.ev x) (fun p hp => hn p (by rw [e] at hp; exact hp))
    rw [e] at hx
    obtain ⟨hx, hb⟩ := hx
    exact ⟨.int .i64 s.size, run_len ho a w (by simp [Builtin.len_, run_underlying hT, hx, goInt]), rfl, bd_lit ⟨by omega, by omega⟩⟩
end ops
/-- may the function be called? -/
def FnB (P : Program) (f : FuncId) : Prop := ∃ fn, P.funcs[f]? = some fn ∧ fn.name ≠ "runtime.NumGoroutine" ∧ fn.body.isSome = true
/-- what a call is told to do it does -/
def OrcOk (P : Program) (C : Cfg) : Prop := ∀ c f st svs u, C.orc c f st svs = some u → FnB P f ∧ ∀ base X w0 E w vals, MemOk base X w0 E st.m w → DenL E w svs vals → (∀ p ∈ u.needs, p) →
  Calls P f vals.toArray w (fun e w' => ∃ v E', e = .returned v ∧ E.Le E' ∧ Same E.lab w w' ∧ DenV E' w' u.val v ∧ MemOk base X w0 E' (St.mk st.tm (putM u.mem st.mm)).m w')
section ops
variable {P : Program} {base : Nat} {X : Cx} {w0 : World} {st : St}
def evL (st : St) : List Operand → List SV × List Prop
  | [] => ([], [])
  | x :: r => ((strip (st.ev x)).1 :: (evL st r).1, (strip (st.ev x)).2 ++ (evL st r).2)
theorem evL_ok {E : Env} {a : Act} {w : World} (h : st.Ok base X w0 E a w) : ∀ (xs : List Operand), (∀ p ∈ (evL st xs).2, p) → DenL E w (evL st xs).1 (xs.map a.eval)
  | [], _ => trivial
  | x :: r, hn => ⟨strip_ok (h.ev x) (fun p hp => hn p (List.mem_append_left _ hp)), evL_ok h r (fun p hp => hn p (List.mem_append_right _ hp))⟩
def cFun (C : Cfg) (c : Nat) (st : St) (f : FuncId) (xs : List Operand) : Option Upd :=
  match C.orc c f st (evL st xs).1 with
  | some u => some ⟨(evL st xs).2 ++ u.needs, u.val, u.mem⟩
  | none => none
theorem run_callFunc {f : FuncId} (h : FnB P f) (args : Array Value) (w : World) : (callFunc f args).run P w = .ok (.enter f args) w := by
  obtain ⟨fn, h1, h2, h3⟩ := h
  obtain ⟨cd, h4⟩ := Option.isSome_iff_exists.1 h3
  simp [callFunc, h1, h2, h4]
theorem cFun_ok {C : Cfg} (hC : OrcOk P C) (o : Oper) (c : Nat) (f : FuncId) (xs : Array Operand) (ts : Array TypeId) (ho : o.op = .call { callee := .value (.func f), args := xs, argTypes := ts }) {u : Upd} (hu : cFun C c st f xs.toList = some u) : Does P base X w0 st o u := by
  unfold cFun at hu
  split at hu
  case h_2 => simp at hu
  rename_i u2 hc
  simp only [Option.some.injEq] at hu
  subst hu
  obtain ⟨hf, hcall⟩ := hC _ _ _ _ _ hc
  intro E a w K Q h hn hK
  have hd := evL_ok h xs.toList (fun p hp => hn p (List.mem_append_left _ hp))
  have hrun : (execOp a.eval o).run P w = .ok (.enter f (xs.toList.map a.eval).toArray) w := by
    have e : xs.map a.eval = (xs.toList.map a.eval).toArray := by rw [← Array.toList_map]
    simp only [execOp, ho, resolve, Act.eval, Deferred.ofValue, Sem.run_bind, Sem.run_pure, Result.andThen, invoke, e]
    simp [run_callFunc hf]
  unfold Oper.wp
  rw [hrun]
  refine Calls.mono (hcall base X w0 E w _ h.mem hd (fun p hp => hn p (List.mem_append_right _ hp))) ?_
  rintro e w' ⟨v, E', rfl, h1, h2, h3, h4⟩
  exact hK E' w' v h1 h2 h3 h4
/-- int to int -/
def cConv (P : Program) (st : St) (src dst : TypeId) (x : Operand) : Option Upd :=
  match P.underlying src, P.underlying dst, strip (st.ev x) with
  | some (.int _), some (.int k), (.int _ m, n) => some ⟨n, .int k (k.wrap m), []⟩
  | some .string, some .string, (.str s, n) => some ⟨n, .str s, []⟩
  | _, _, _ => none
theorem cConv_ok (o : Oper) (src dst : TypeId) (x : Operand) (ho : o.op = .convert src dst x) {u : Upd} (hu : cConv P st src dst x = some u) : Does P base X w0 st o u := by
  unfold cConv at hu
  split at hu
  case h_3 => simp at hu
  · rename_i k1 k k2 m n h1 h2 e
    simp only [Option.some.injEq] at hu
    subst hu
    refine Does.pure fun E a w h hn => ?_
    have hx := strip_ok (h.ev x) (fun p hp => hn p (by rw [e] at hp; exact hp))
    rw [e] at hx
    obtain ⟨hx, _⟩ := hx
    exact ⟨.int k (k.wrap m), by simp [execOp, ho, hx, convert, run_underlying h1, run_underlying h2, Conv.intToInt], rfl, wf_wrap _ _⟩
  · rename_i s n h1 h2 e
    simp only [Option.some.injEq] at hu
    subst hu
    refine Does.pure fun E a w h hn => ?_
    have hx := strip_ok (h.ev x) (fun p hp => hn p (by rw [e] at hp; exact hp))
    rw [e] at hx
    obtain ⟨hx, hb⟩ := hx
    exact ⟨.string s, by simp [execOp, ho, hx, convert, run_underlying h1, run_underlying h2], rfl, hb⟩
/-- nilCheck of a pointer of the call's own -/
def cNil (st : St) (x : Operand) : Option Upd :=
  match strip (st.ev x) with
  | (.ptr t off, n) => some ⟨n, .ptr t off, []⟩
  | (.el ls r i off, n) => some ⟨n, .el ls r i off, []⟩
  | (.oel t sz i off, n) => some ⟨n, .oel t sz i off, []⟩
  | _ => none
theorem cNil_ok (o : Oper) (x : Operand) (ho : o.op = .nilCheck x) {u : Upd} (hu : cNil st x = some u) : Does P base X w0 st o u := by
  unfold cNil at hu
  split at hu
  case h_4 => simp at hu
  all_goals
    rename_i e
    simp only [Option.some.injEq] at hu
    subst hu
    refine Does.pure fun E a w h hn => ?_
    have hx := strip_ok (h.ev x) (fun p hp => hn p (by rw [e] at hp; exact hp))
    rw [e] at hx
    have hp : ∃ ad, a.eval x = .pointer (some ad) := by
      first
        | (obtain ⟨b, _, e2⟩ := hx; exact ⟨_, e2⟩)
        | (obtain ⟨_, b, o2, c2, e2, _⟩ := hx; exact ⟨_, e2⟩)
        | (obtain ⟨b, k, c2, _, e2⟩ := hx; exact ⟨_, e2⟩)
    obtain ⟨ad, e2⟩ := hp
    refine ⟨a.eval x, ?_, hx⟩
    simp [execOp, ho, e2]
def cMore (P : Program) (C : Cfg) (c : Nat) (st : St) (ty : TypeId) (op : Op) : Option Upd := none
/-- an operation -/
def core (P : Program) (C : Cfg) (more : Nat → St → TypeId → Op → Option Upd) (c : Nat) (st : St) (ty : TypeId) : Op → Option Upd
  | .move x => some (cMove st x)
  | .assign x => some (cMove st x)
  | .pick a x y => cPick st a x y
  | .box T x => cBox st c T x
  | .alloc T => cAlloc P st c T
  | .build T ps => cBuild P st T ps
  | .load T x => cLoad P st T x
  | .store T x y => match cStore P st T x y with
    | some u => some u
    | none => more c st ty (.store T x y)
  | .fieldAddr T x f => cFieldAddr P st T x f
  | .field T x f => cField P st T x f
  | .indexAddr T x i => cIndexAddr P st T x i
  | .extract x i => cExtract st x i
  | .binOp op T x y T2 => match cBin P st op T x y with
    | some u => some u
    | none => more c st ty (.binOp op T x y T2)
  | .unOp op _ x => cUn st op x
  | .convert s d x => match cConv P st s d x with
    | some u => some u
    | none => more c st ty (.convert s d x)
  | .nilCheck x => cNil st x
  | .call ⟨.value (.func f), xs, ts⟩ => cFun C c st f xs.toList
  | .call ⟨.builtin .len, ⟨[x]⟩, ⟨[T]⟩⟩ => cLen P st T x
  | op => more c st ty op
/-- the operations beyond these -/
def MoreOk (P : Program) (more : Nat → St → TypeId → Op → Option Upd) : Prop := ∀ c st (o : Oper) u base X w0, more c st o.type o.op = some u → Does P base X w0 st o u
theorem core_ok {C : Cfg} (hC : OrcOk P C) {more : Nat → St → TypeId → Op → Option Upd} (hM : MoreOk P more) (o : Oper) (c : Nat) {u : Upd} (hu : core P C more c st o.type o.op = some u) : Does P base X w0 st o u := by
  generalize ho : o.op = op at hu
  unfold core at hu
  split at hu
  · simp only [Option.some.injEq] at hu; subst hu; exact cMove_ok o _ (.inl ho)
  · simp only [Option.some.injEq] at hu; subst hu; exact cMove_ok o _ (.inr ho)
  · exact cPick_ok o _ _ _ ho hu
  · exact cBox_ok o c _ _ ho hu
  · exact cAlloc_ok o c _ ho hu
  · exact cBuild_ok o _ _ ho hu
  · exact cLoad_ok o _ _ ho hu
  · split at hu
    · rename_i h2; simp only [Option.some.injEq] at hu; subst hu; exact cStore_ok o _ _ _ ho h2
    · exact hM c st o u base X w0 (by rw [ho]; exact hu)
  · exact cFieldAddr_ok o _ _ _ ho hu
  · exact cField_ok o _ _ _ ho hu
  · exact cIndexAddr_ok o _ _ _ ho hu
  · exact cExtract_ok o _ _ ho hu
  · split at hu
    · rename_i h2; simp only [Option.some.injEq] at hu; subst hu; exact cBin_ok o _ _ _ _ _ ho h2
    · exact hM c st o u base X w0 (by rw [ho]; exact hu)
  · exact cUn_ok o _ _ _ ho hu
  · split at hu
    · rename_i h2; simp only [Option.some.injEq] at hu; subst hu; exact cConv_ok o _ _ _ ho h2
    · exact hM c st o u base X w0 (by rw [ho]; exact hu)
  · exact cNil_ok o _ ho hu
  · exact cFun_ok hC o c _ _ _ ho hu
  · exact cLen_ok o _ _ ho hu
  · exact hM c st o u base X w0 (by rw [ho]; exact hu)
/-- is an operation wanted? -/
def guardB (ops : Array Oper) (st : St) (j : Nat) (pol : Bool) : Option Bool :=
  match (ops[j]?).bind (·.dst) with
  | some t => match st.tm.getD t .any with
    | .bool b => match pol with
      | true => some b
      | false => some (!b)
    | .gd g (.bool b) => match pol with
      | true => some (g && b)
      | false => some (g && !b)
    | _ => none
  | none => none
theorem guardB_ok {ops : Array Oper} {E : Env} {a : Act} {w : World} (h : st.Ok base X w0 E a w) {o : Oper} {j : Nat} {pol G : Bool} (hg : o.guard = some (j, pol)) (hG : guardB ops st j pol = some G) : Region.wanted o (yielded ops a.tmps) = G := by
  unfold guardB at hG
  split at hG
  case h_2 => simp at hG
  rename_i t ht
  have hd := h.tm t
  simp only [Region.wanted, hg, yielded, ht]
  have hsome : ∀ b, a.tmps.getD t undef = .bool b → a.tmps[t]? = some (.bool b) := by
    intro b hb
    rw [Array.getD_eq_getD_getElem?] at hb
    cases hq : a.tmps[t]? with
    | none => rw [hq] at hb; simp [undef] at hb
    | some x => rw [hq] at hb; simpa using hb
  split at hG
  case h_3 => simp at hG
  · rename_i b e
    have hG : some (if pol then b else !b) = some G := by cases pol <;> exact hG
    simp only [Option.some.injEq] at hG
    rw [e] at hd
    have := hsome b hd
    simp only [Option.bind_some, this, ← hG]
    cases pol <;> cases b <;> rfl
  · rename_i g b e
    have hG : some (g && (if pol then b else !b)) = some G := by cases pol <;> exact hG
    simp only [Option.some.injEq] at hG
    rw [e] at hd
    cases g
    · have hu : a.tmps.getD t undef = undef := hd.2 rfl
      have : (a.tmps[t]? = none ∨ a.tmps[t]? = some undef) := by
        rw [Array.getD_eq_getD_getElem?] at hu
        cases hq : a.tmps[t]? with
        | none => exact .inl rfl
        | some x => rw [hq] at hu; right; simpa using hu
      rcases this with h1 | h1 <;> simp [Option.bind_some, h1, ← hG, undef]
    · have hb : a.tmps.getD t undef = .bool b := hd.1 rfl
      have := hsome b hb
      simp only [Option.bind_some, this, ← hG]
      cases pol <;> cases b <;> rfl
def allDead : List (Nat × BE) → Bool
  | [] => true
  | (_, .dead) :: r => allDead r
  | _ => false
/-- one operation of a region -/
def stepOp (P : Program) (C : Cfg) (more : Nat → St → TypeId → Op → Option Upd) (ops : Array Oper) (c : Nat) (o : Oper) (st : St) : Option Upd :=
  match o.guard with
  | none => core P C more c st o.type o.op
  | some (j, pol) => match guardB ops st j pol with
    | none => none
    | some G => match core P C more c st o.type o.op with
      | some u => if allDead u.mem then some ⟨u.needs.map (fun p => G = true → p), .gd G u.val, u.mem⟩ else none
      | none => none
theorem MemOk.deads {E : Env} {w : World} : ∀ (l : List (Nat × BE)) (tm : List SV) (mm : List BE), allDead l = true → MemOk base X w0 E (St.mk tm mm).m w → MemOk base X w0 E (St.mk tm (putM l mm)).m w
  | [], _, _, _, h => h
  | (t, e) :: r, tm, mm, hl, h => by
    cases e <;> simp only [allDead, Bool.false_eq_true] at hl
    refine MemOk.deads r tm (mm.set t .dead) hl ?_
    by_cases ht : t < mm.length
    · rw [St.m_set _ _ _ _ ht]; exact h.kill t
    · rw [List.set_eq_of_length_le (Nat.le_of_not_lt ht)]; exact h
/-- what one operation does, wanted or not -/
theorem stepOp_ok {C : Cfg} (hC : OrcOk P C) {more : Nat → St → TypeId → Op → Option Upd} (hM : MoreOk P more) {ops : Array Oper} {c : Nat} {o : Oper} {u : Upd} (hu : stepOp P C more ops c o st = some u)
    {E : Env} {a : Act} {w : World} {K : Act → World → Prop} {Q : Exit → Act → World → Prop} (h : st.Ok base X w0 E a w) (hn : ∀ p ∈ u.needs, p) (hK : ∀ E' a' w', (st.app o.dst u).Ok base X w0 E' a' w' → K a' w') :
    if Region.wanted o (yielded ops a.tmps) then o.wp P a w K Q else K (a.put o.dst undef) w := by
  unfold stepOp at hu
  split at hu
  · rename_i hg
    rw [if_pos (by simp [Region.wanted, hg])]
    exact core_ok hC hM o c hu E a w K Q h hn (fun E' w' v h1 h2 h3 h4 => hK E' _ _ (h.next h1 h2 h3 h4))
  · rename_i j pol hg
    split at hu
    case h_1 => simp at hu
    rename_i G hG
    split at hu
    case h_2 => simp at hu
    rename_i u2 hc
    split at hu
    case isFalse => simp at hu
    rename_i hd
    simp only [Option.some.injEq] at hu
    subst hu
    rw [guardB_ok h hg hG]
    cases G
    · rw [if_neg (by simp)]
      refine hK E _ _ (h.next (u := ⟨_, .gd false u2.val, u2.mem⟩) (Env.Le.refl E) Same.rfl' (v := undef) ⟨fun e => (by cases e), fun _ => rfl⟩ ?_)
      exact h.mem.deads u2.mem st.tm st.mm hd
    · rw [if_pos rfl]
      refine core_ok hC hM o c hc E a w K Q h (fun p hp => hn (true = true → p) (List.mem_map.2 ⟨p, hp, rfl⟩) rfl) (fun E' w' v h1 h2 h3 h4 => hK E' _ _ (h.next h1 h2 (u := ⟨_, .gd true u2.val, u2.mem⟩) ⟨fun _ => h3, fun e => (by cases e)⟩ h4))
inductive RO
  | ok (st : St) (n : List Prop)
  | bad (c : Nat) (o : Op) (st : St)
def runOps (P : Program) (C : Cfg) (more : Nat → St → TypeId → Op → Option Upd) (ops : Array Oper) : Nat → List Oper → St → RO
  | _, [], st => .ok st []
  | c, o :: r, st => match stepOp P C more ops c o st with
    | some u => match runOps P C more ops (c + 8) r (st.app o.dst u) with
      | .ok st2 n => .ok st2 (u.needs ++ n)
      | .bad c o s => .bad c o s
    | none => .bad c o.op st
theorem runOps_ok {C : Cfg} (hC : OrcOk P C) {more : Nat → St → TypeId → Op → Option Upd} (hM : MoreOk P more) {ops : Array Oper} {Q : Exit → Act → World → Prop} : ∀ (l : List Oper) (c : Nat) (st st2 : St) (n : List Prop), runOps P C more ops c l st = .ok st2 n → (∀ p ∈ n, p) →
    (∀ E' a' w', st2.Ok base X w0 E' a' w' → Q .normal a' w') → ∀ (E : Env) (a : Act) (w : World), st.Ok base X w0 E a w → wpList P ops Q l a w
  | [], c, st, st2, n, hr, hn, hQ, E, a, w, h => by
    simp only [runOps, RO.ok.injEq] at hr
    obtain ⟨rfl, rfl⟩ := hr
    exact wpList_nil (hQ E a w h)
  | o :: l, c, st, st2, n, hr, hn, hQ, E, a, w, h => by
    simp only [runOps] at hr
    split at hr
    case h_2 => simp at hr
    rename_i u hu
    split at hr
    case h_2 => simp at hr
    rename_i st3 n3 h3
    simp only [RO.ok.injEq] at hr
    obtain ⟨rfl, rfl⟩ := hr
    refine wpList_step fun K hK => ?_
    exact stepOp_ok hC hM hu h (fun p hp => hn p (List.mem_append_left _ hp)) (fun E' a' w' h' => hK a' w' (runOps_ok hC hM l (c + 8) _ _ _ h3 (fun p hp => hn p (List.mem_append_right _ hp)) hQ E' a' w' h'))
/-- room for n tags more -/
def St.grow (st : St) (n : Nat) : St := { st with mm := st.mm ++ List.replicate n .empty }
theorem St.grow_m (st : St) (n : Nat) : (st.grow n).m = st.m := by
  funext t
  simp only [St.m, St.grow, List.getD]
  by_cases h : t < st.mm.length
  · rw [List.getElem?_append_left h]
  · rw [List.getElem?_append_right (Nat.le_of_not_lt h), List.getElem?_eq_none (Nat.le_of_not_lt h)]
    simp only [List.getElem?_replicate]
    split <;> rfl
theorem St.Ok.grow {E : Env} {a : Act} {w : World} (h : st.Ok base X w0 E a w) (n : Nat) : (st.grow n).Ok base X w0 E a w :=
  ⟨h.defers, h.size, h.tm, by rw [St.grow_m]; exact h.mem⟩
end ops
end Go.Proofs.Ytejahcpnbkegfaa
