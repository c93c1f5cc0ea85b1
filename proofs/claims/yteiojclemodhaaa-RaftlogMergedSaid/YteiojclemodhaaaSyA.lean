/- The state of the symbolic walk: slots, blocks of the call's own, labels; how it stands to the world. No condition. -/
import Derived.Test.YteiojclemodhaaaSyT
namespace Go.Proofs.Yteiojclemodhaaa
open Go.RowKit Go.ChangeShapes Go.WideShapes Go.Deep
set_option linter.unusedVariables false
set_option linter.unusedSimpArgs false
structure Env.Le (E E' : Env) : Prop where
  β : ∀ t v, E.β t = some v → E'.β t = some v
  σ : ∀ i b, E.σ i b → E'.σ i b
theorem Env.Le.refl (E : Env) : E.Le E := ⟨fun _ _ h => h, fun _ _ h => h⟩
theorem Env.Le.trans {a b c : Env} (h : a.Le b) (k : b.Le c) : a.Le c := ⟨fun t v x => k.β t v (h.β t v x), fun i b x => k.σ i b (h.σ i b x)⟩
/-- all that labels name -/
def Env.lab (E : Env) (b : Nat) : Prop := ∃ i, E.σ i b
theorem Env.set_lab {E : Env} {ls : List Nat} {b : Nat} (h : E.set ls b) : E.lab b := ⟨h.choose, h.choose_spec.2⟩
theorem Env.Le.set {E E' : Env} (h : E.Le E') {ls : List Nat} {b : Nat} (hb : E.set ls b) : E'.set ls b := by
  obtain ⟨i, hi, hs⟩ := hb; exact ⟨i, hi, h.σ i b hs⟩
mutual
theorem DenV.mono {E E' : Env} {w w' : World} (hE : E.Le E') (hS : Same E.lab w w') : ∀ (s : SV) (v : Value), DenV E w s v → DenV E' w' s v
  | .any, _, _ => trivial
  | .int _ _, _, h => h
  | .bool _, _, h => h
  | .str _, _, h => h
  | .nil, _, h => h
  | .sl ls r, v, h => Rd.mono (Rd.same h (hS.mono fun b hb => Env.set_lab hb)) (fun b _ hb => hE.set hb)
  | .own t, v, h => ⟨hE.β _ _ h.1, h.2⟩
  | .ptr t off, v, h => by obtain ⟨b, h1, h2⟩ := h; exact ⟨b, hE.β _ _ h1, h2⟩
  | .el ls r i off, v, h => by
    obtain ⟨h0, b, o, c, h1, h2⟩ := h
    exact ⟨h0, b, o, c, h1, Rd.mono (Rd.same h2 (hS.mono fun b hb => Env.set_lab hb)) (fun b _ hb => hE.set hb)⟩
  | .oel t sz i off, v, h => by obtain ⟨b, n, c, h1, h2⟩ := h; exact ⟨b, n, c, hE.β _ _ h1, h2⟩
  | .agg vs, v, h => by obtain ⟨xs, h1, h2⟩ := h; exact ⟨xs, h1, DenL.mono hE hS vs xs h2⟩
  | .tup vs, v, h => by obtain ⟨xs, h1, h2⟩ := h; exact ⟨xs, h1, DenL.mono hE hS vs xs h2⟩
  | .fn _, _, h => h
  | .clo f cs, v, h => by obtain ⟨xs, h1, h2⟩ := h; exact ⟨xs, h1, DenL.mono hE hS cs xs h2⟩
  | .rp ls T cs off, v, h => by
    obtain ⟨b, xs, h1, h2, h3, h4⟩ := h
    exact ⟨b, xs, h1, hE.set h2, (hS.block b (Env.set_lab h2) (Array.getElem?_eq_some_iff.1 h3).1).trans h3, DenL.mono hE hS cs xs h4⟩
  | .gd b s, v, h => ⟨fun hb => DenV.mono hE hS s v (h.1 hb), h.2⟩
  | .ub _ _, _, h => h
theorem DenL.mono {E E' : Env} {w w' : World} (hE : E.Le E') (hS : Same E.lab w w') : ∀ (ss : List SV) (vs : List Value), DenL E w ss vs → DenL E' w' ss vs
  | [], [], _ => trivial
  | s :: ss, x :: xs, h => ⟨DenV.mono hE hS s x h.1, DenL.mono hE hS ss xs h.2⟩
  | [], _ :: _, h => h.elim
  | _ :: _, [], h => h.elim
end
theorem DenL.len {E : Env} {w : World} : ∀ {ss : List SV} {vs : List Value}, DenL E w ss vs → vs.length = ss.length
  | [], [], _ => rfl
  | _ :: ss, _ :: vs, h => by simp [DenL.len h.2]
  | [], _ :: _, h => h.elim
  | _ :: _, [], h => h.elim
theorem DenL.at {E : Env} {w : World} : ∀ {ss : List SV} {vs : List Value}, DenL E w ss vs → ∀ i, i < ss.length → DenV E w (ss.getD i .any) (vs.getD i undef)
  | s :: ss, x :: xs, h, 0, _ => h.1
  | s :: ss, x :: xs, h, i + 1, hi => DenL.at (ss := ss) (vs := xs) h.2 i (by simpa using hi)
  | [], _, _, i, hi => absurd hi (by simp)
  | _ :: _, [], h, _, _ => h.elim
theorem DenL.any {E : Env} {w : World} {ss : List SV} {vs : List Value} (h : DenL E w ss vs) (i : Nat) : DenV E w (ss.getD i .any) (vs.getD i undef) := by
  by_cases hi : i < ss.length
  · exact h.at i hi
  · simp [List.getD, Nat.le_of_not_lt hi, DenV]
theorem DenL.set {E : Env} {w : World} : ∀ {ss : List SV} {vs : List Value}, DenL E w ss vs → ∀ (i : Nat) (s : SV) (v : Value), DenV E w s v → DenL E w (ss.set i s) (vs.set i v)
  | _ :: ss, _ :: xs, h, 0, _, _, hs => ⟨hs, h.2⟩
  | _ :: ss, _ :: xs, h, i + 1, s, v, hs => ⟨h.1, DenL.set (ss := ss) (vs := xs) h.2 i s v hs⟩
  | [], [], _, _, _, _, _ => trivial
  | [], _ :: _, h, _, _, _, _ => h.elim
  | _ :: _, [], h, _, _, _, _ => h.elim
theorem DenL.take {E : Env} {w : World} : ∀ {ss : List SV} {vs : List Value}, DenL E w ss vs → ∀ n, DenL E w (ss.take n) (vs.take n)
  | _ :: ss, _ :: xs, h, 0 => by simp [DenL]
  | _ :: ss, _ :: xs, h, n + 1 => by simp only [List.take_succ_cons]; exact ⟨h.1, DenL.take (ss := ss) (vs := xs) h.2 n⟩
  | [], [], _, _ => by simp [DenL]
  | [], _ :: _, h, _ => h.elim
  | _ :: _, [], h, _ => h.elim
theorem DenL.drop {E : Env} {w : World} : ∀ {ss : List SV} {vs : List Value}, DenL E w ss vs → ∀ n, DenL E w (ss.drop n) (vs.drop n)
  | _ :: ss, _ :: xs, h, 0 => h
  | _ :: ss, _ :: xs, h, n + 1 => by simp only [List.drop_succ_cons]; exact DenL.drop (ss := ss) (vs := xs) h.2 n
  | [], [], _, _ => by simp [DenL]
  | [], _ :: _, h, _ => h.elim
  | _ :: _, [], h, _ => h.elim
theorem DenL.app {E : Env} {w : World} : ∀ {ss : List SV} {vs : List Value} {ts : List SV} {us : List Value}, DenL E w ss vs → DenL E w ts us → DenL E w (ss ++ ts) (vs ++ us)
  | _ :: ss, _ :: xs, _, _, h, k => ⟨h.1, DenL.app (ss := ss) (vs := xs) h.2 k⟩
  | [], [], _, _, _, k => k
  | [], _ :: _, _, _, h, _ => h.elim
  | _ :: _, [], _, _, h, _ => h.elim
theorem DenL.of_at {E : Env} {w : World} : ∀ {ss : List SV} {vs : List Value}, vs.length = ss.length → (∀ i, i < ss.length → DenV E w (ss.getD i .any) (vs.getD i undef)) → DenL E w ss vs
  | [], [], _, _ => trivial
  | _ :: ss, _ :: vs, hl, h => ⟨h 0 (by simp), DenL.of_at (by simpa using hl) (fun i hi => h (i + 1) (by simpa using hi))⟩
  | [], _ :: _, hl, _ => by simp at hl
  | _ :: _, [], hl, _ => by simp at hl
/-- may it lie in one cell? -/
def SV.flat : SV → Bool
  | .int _ _ | .bool _ | .str _ | .nil | .sl _ _ | .own _ | .ptr _ _ | .fn _ => true
  | _ => false
theorem SV.flat_one {E : Env} {w : World} {s : SV} {v : Value} (hf : s.flat = true) (h : DenV E w s v) : v.oneCell' = true := by
  cases s <;> simp only [SV.flat, Bool.false_eq_true] at hf
  case int => obtain ⟨rfl, _⟩ := h; rfl
  case bool => have : v = _ := h; subst this; rfl
  case str => obtain ⟨rfl, _⟩ := h; rfl
  case nil => have : v = _ := h; subst this; rfl
  case sl => exact Rd.one h
  case own => exact h.2
  case ptr => obtain ⟨b, _, rfl⟩ := h; rfl
  case fn => have : v = _ := h; subst this; rfl
theorem DenL.ones {E : Env} {w : World} : ∀ {ss : List SV} {vs : List Value}, ss.all SV.flat = true → DenL E w ss vs → ∀ v ∈ vs, v.oneCell' = true
  | [], [], _, _, _, h => by cases h
  | s :: ss, x :: xs, hf, h, v, hv => by
    simp only [List.all_cons, Bool.and_eq_true] at hf
    rcases List.mem_cons.1 hv with rfl | hv
    · exact SV.flat_one hf.1 h.1
    · exact DenL.ones hf.2 h.2 v hv
  | [], _ :: _, _, h, _, _ => h.elim
  | _ :: _, [], _, h, _, _ => h.elim
/-- what is known of a tag -/
inductive BE
  | empty
  | dead
  | cells (T : TypeId) (vs : List SV)
  | row (T : TypeId) (ls : List Nat) (r : RL)
instance : Inhabited BE := ⟨.dead⟩
def BE.live : BE → Bool
  | .cells .. | .row .. => true
  | _ => false
def vblock : Value → Option Nat
  | .pointer (some a) => some a.block
  | .slice (some a) _ _ => some a.block
  | _ => none
theorem vblock_own {v : Value} (h : ∃ a n c, v = .slice a n c) : v.ownBlock = vblock v := by
  obtain ⟨a, n, c, rfl⟩ := h
  cases a <;> rfl
/-- tag t has block b -/
def Has (E : Env) (m : Nat → BE) (t b : Nat) : Prop := (m t).live = true ∧ ∃ v, E.β t = some v ∧ vblock v = some b
/-- below base, but for X, the world is as it was -/
structure BelowX (base : Nat) (X : Nat → Prop) (w w' : World) : Prop where
  os : w'.os = w.os
  tape : w'.tape = w.tape
  output : w'.output = w.output
  size : w.heap.size ≤ w'.heap.size
  block : ∀ b, b < base → ¬ X b → w'.heap[b]? = w.heap[b]?
theorem BelowX.below {base : Nat} {w w' : World} (h : BelowX base (fun _ => False) w w') : Below base w w' := ⟨h.os, h.tape, h.output, h.size, fun b hb => h.block b hb id⟩
theorem BelowX.refl (base : Nat) (X : Nat → Prop) (w : World) : BelowX base X w w := ⟨rfl, rfl, rfl, Nat.le_refl _, fun _ _ _ => rfl⟩
/-- what a call may write of old memory; its labels of old memory, and what these are; the tags that it was handed -/
structure Cx where
  X : Nat → Prop
  nl : Nat
  S : Nat → Nat → Prop
  B : Nat → Option Value
structure MemOk (base : Nat) (X : Cx) (w0 : World) (E : Env) (m : Nat → BE) (w : World) : Prop where
  empty : ∀ t, m t = .empty → E.β t = none ∧ ∀ b, ¬ E.σ t b
  cells : ∀ t T vs, m t = .cells T vs → ∃ b xs, E.β t = some (.pointer (some ⟨b, 0, none⟩)) ∧ w.heap[b]? = some (.cells xs.toArray T (0, 0)) ∧ DenL E w vs xs ∧ vs.all SV.flat = true
  row : ∀ t T ls r, m t = .row T ls r → ∃ v, E.β t = some v ∧ OwnR 0 w T (E.set ls) r.tys v r.rows
  lab : ∀ i b, E.σ i b → b < w.heap.size ∧ (X.nl ≤ i → base ≤ b ∨ X.X b)
  dis : ∀ i j b, E.σ i b → E.σ j b → i = j
  low : ∀ i, i < X.nl → m i ≠ .empty
  sep : ∀ t b, Has E m t b → ¬ E.lab b ∧ (base ≤ b ∨ X.X b)
  old : ∀ i b, i < X.nl → E.σ i b → X.S i b
  inj : ∀ t u b, Has E m t b → Has E m u b → t = u
  keep : ∀ t v, X.B t = some v → E.β t = some v
  below : BelowX base X.X w0 w
  base : base ≤ w.heap.size
theorem MemOk.lt {base : Nat} {X : Cx} {w0 w : World} {E : Env} {m : Nat → BE} (h : MemOk base X w0 E m w) {t : Nat} {b : Nat} (hb : Has E m t b) : b < w.heap.size := by
  obtain ⟨hl, v, hv, hvb⟩ := hb
  cases hm : m t with
  | empty => simp [hm, BE.live] at hl
  | dead => simp [hm, BE.live] at hl
  | cells T vs =>
    obtain ⟨b', xs, h1, h2, _⟩ := h.cells t T vs hm
    rw [hv] at h1; cases h1
    simp [vblock] at hvb; subst hvb
    exact (Array.getElem?_eq_some_iff.1 h2).1
  | row T ls r =>
    obtain ⟨v', h1, h2⟩ := h.row t T ls r hm
    rw [hv] at h1; cases h1
    refine (h2.lt b ?_).2
    obtain ⟨a, c, e⟩ := h2.form
    rw [vblock_own ⟨a, _, c, e⟩]; exact hvb
/-- a list of pairs as a function -/
def lookA {α : Type} (d : α) : List (Nat × α) → Nat → α
  | [], _ => d
  | (k, v) :: r, t => bif Nat.beq k t then v else lookA d r t
theorem lookA_cons {α : Type} (d : α) (k : Nat) (v : α) (r : List (Nat × α)) (t : Nat) : lookA d ((k, v) :: r) t = if t = k then v else lookA d r t := by
  show (bif Nat.beq k t then v else lookA d r t) = _
  by_cases h : t = k
  · subst h; simp
  · have : Nat.beq k t = false := by
      cases hb : Nat.beq k t
      · rfl
      · exact absurd (Nat.eq_of_beq_eq_true hb).symm h
    rw [this, if_neg h]; rfl
/-- the state: slots (nt of them) and tags (below nx) -/
structure St where
  tm : List (Nat × SV)
  nt : Nat
  mm : List (Nat × BE)
  nx : Nat
def St.s (st : St) (i : Nat) : SV := lookA .any st.tm i
def St.m (st : St) (t : Nat) : BE := lookA .empty st.mm t
structure St.Ok (base : Nat) (X : Cx) (w0 : World) (E : Env) (st : St) (a : Act) (w : World) : Prop where
  defers : a.defers = []
  size : a.tmps.size = st.nt
  tm : ∀ i, DenV E w (st.s i) (a.tmps.getD i undef)
  mem : MemOk base X w0 E st.m w
/-- the constants -/
def ofC : Value → SV
  | .int k n => if (Lit.int k n).wf then .int k n else .any
  | .bool b => .bool b
  | .string s => if s.size ≤ 1000000 then .str s else .any
  | .slice none 0 0 => .nil
  | _ => .any
theorem ofC_ok (E : Env) (w : World) (v : Value) : DenV E w (ofC v) v := by
  unfold ofC
  split
  · split
    · exact ⟨rfl, by assumption⟩
    · trivial
  · exact rfl
  · split
    · exact ⟨rfl, by omega⟩
    · trivial
  · exact rfl
  · trivial
def St.ev (st : St) : Operand → SV
  | .tmp t => st.s t
  | .const v => ofC v
  | .func f => .fn f
  | .global _ => .any
theorem St.Ok.ev {base : Nat} {X : Cx} {w0 : World} {E : Env} {st : St} {a : Act} {w : World} (h : st.Ok base X w0 E a w) (x : Operand) : DenV E w (st.ev x) (a.eval x) := by
  cases x with
  | tmp t => exact h.tm t
  | const v => exact ofC_ok E w v
  | func f => exact rfl
  | global g => trivial
/-- one known to be there: its own value -/
def strip : SV → SV × List Prop
  | .gd g s => (s, [g = true])
  | s => (s, [])
theorem strip_ok {E : Env} {w : World} {s : SV} {v : Value} (h : DenV E w s v) (hn : ∀ p ∈ (strip s).2, p) : DenV E w (strip s).1 v := by
  cases s <;> first | exact h | skip
  case gd g s => exact h.1 (hn (g = true) (by simp [strip]))
/-- what an operation does to the state -/
structure Upd where
  needs : List Prop
  val : SV
  mem : List (Nat × BE)
/-- memory with some entries written -/
def putF : List (Nat × BE) → (Nat → BE) → Nat → BE
  | [], m => m
  | (t, e) :: r, m => fun u => if u = t then e else putF r m u
theorem putF_look : ∀ (l : List (Nat × BE)) (mm : List (Nat × BE)), lookA .empty (l ++ mm) = putF l (lookA .empty mm)
  | [], _ => rfl
  | (t, e) :: r, mm => by
    funext u
    show lookA .empty ((t, e) :: (r ++ mm)) u = _
    rw [lookA_cons, putF_look r mm]; rfl
def St.app (st : St) (dst : Option Tmp) (u : Upd) : St :=
  { st with tm := match dst with | some d => (d, bif Nat.blt d st.nt then u.val else .any) :: st.tm | none => st.tm, mm := u.mem ++ st.mm }
theorem St.app_m (st : St) (dst : Option Tmp) (u : Upd) : (st.app dst u).m = putF u.mem st.m := by
  show lookA .empty (u.mem ++ st.mm) = _
  rw [putF_look]; rfl
theorem blt_if {α : Type} (d n : Nat) (x y : α) : (bif Nat.blt d n then x else y) = if d < n then x else y := by
  by_cases h : d < n
  · have : Nat.blt d n = true := by simp [Nat.blt]; omega
    rw [this, if_pos h]; rfl
  · have : Nat.blt d n = false := by
      cases hb : Nat.blt d n
      · rfl
      · simp [Nat.blt] at hb; omega
    rw [this, if_neg h]; rfl
theorem St.app_s (st : St) (d : Nat) (u : Upd) (i : Nat) : (st.app (some d) u).s i = if i = d then (if d < st.nt then u.val else .any) else st.s i := by
  show lookA .any ((d, _) :: st.tm) i = _
  rw [lookA_cons, blt_if]; rfl
theorem put_getD (a : Act) (d i : Nat) (v : Value) : (a.put (some d) v).tmps.getD i undef = if i = d then (if d < a.tmps.size then v else undef) else a.tmps.getD i undef := by
  simp only [Act.put, Array.getD_eq_getD_getElem?, Array.getElem?_setIfInBounds]
  by_cases h : d = i
  · subst h
    by_cases h2 : d < a.tmps.size <;> simp [h2]
  · have : ¬ i = d := fun e => h e.symm
    simp [h, this]
/-- the state behind an operation that yields v -/
theorem St.Ok.next {base : Nat} {X : Cx} {w0 : World} {E E' : Env} {st : St} {a : Act} {w w' : World} (h : st.Ok base X w0 E a w) (hE : E.Le E') (hS : Same E.lab w w') {dst : Option Tmp} {v : Value} {u : Upd}
    (hv : DenV E' w' u.val v) (hm : MemOk base X w0 E' (putF u.mem st.m) w') : (st.app dst u).Ok base X w0 E' (a.put dst v) w' := by
  cases dst with
  | none => exact ⟨h.defers, h.size, fun i => DenV.mono hE hS _ _ (h.tm i), by rw [St.app_m]; exact hm⟩
  | some d =>
    refine ⟨h.defers, by simp [St.app, Act.put, h.size], fun i => ?_, by rw [St.app_m]; exact hm⟩
    rw [put_getD, St.app_s, h.size]
    by_cases h1 : i = d
    · rw [if_pos h1, if_pos h1]
      by_cases h2 : d < st.nt
      · rw [if_pos h2, if_pos h2]; exact hv
      · rw [if_neg h2]; trivial
    · rw [if_neg h1, if_neg h1]; exact DenV.mono hE hS _ _ (h.tm i)
end Go.Proofs.Yteiojclemodhaaa
