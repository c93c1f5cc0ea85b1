/- The rows and the struct cells of the symbolic walk. Written by a program (gen_sx.py). No condition. -/
import Derived.Test.YtejahcpnbkegfaaTyM
import Derived.Test.YtejahcpnbkegfaaRdOwn
namespace Go.Proofs.Ytejahcpnbkegfaa
open Go.RowKit Go.ChangeShapes Go.WideShapes Go.Deep
set_option linter.unusedVariables false
set_option linter.unusedSimpArgs false
/-- rows of a slice -/
inductive RL
  | rInts (l : List Int)
def RL.tys : RL → List Ty
  | .rInts l => [.int .i64]
def RL.rows : RL → List (List D)
  | .rInts l => ints l
def RL.len : RL → Nat
  | .rInts l => l.length
def RL.emp : RL → RL
  | .rInts l => .rInts []
def RL.take : RL → Nat → RL
  | .rInts l, n => .rInts (l.take n)
def RL.drop : RL → Nat → RL
  | .rInts l, n => .rInts (l.drop n)
def RL.app : RL → RL → Option RL
  | .rInts l, .rInts m => some (.rInts (l ++ m))
def RL.ite (b : Bool) : RL → RL → Option RL
  | .rInts l, .rInts m => some (.rInts (if b then l else m))
/-- what a slot or a cell holds, as far as it is known -/
inductive SV
  | any
  | int (k : IntKind) (n : Int)
  | bool (b : Bool)
  | str (s : ByteArray)
  | nil
  | sl (ls : List Nat) (r : RL)
  | own (t : Nat)
  | ptr (t off : Nat)
  | el (ls : List Nat) (r : RL) (i off : Nat)
  | oel (t sz i off : Nat)
  | agg (vs : List SV)
  | tup (vs : List SV)
  | fn (f : Nat)
  | gd (b : Bool) (v : SV)
instance : Inhabited SV := ⟨.any⟩
def Config.svs (ls : List Nat) (x : Config) : List SV := [.sl ls (.rInts x.voters), .sl ls (.rInts x.learners)]
def Snap.svs (ls : List Nat) (x : Snap) : List SV := [.int .i64 x.index, .int .i64 x.term, .sl ls (.rInts x.config.voters), .sl ls (.rInts x.config.learners), .str x.data]
def Change.svs (ls : List Nat) (x : Change) : List SV := [.int .i64 x.kind, .int .i64 x.node]
def RL.elem (ls : List Nat) : RL → Nat → List SV
  | .rInts l, i => [.int .i64 (l.getD i 0)]
def SV.asInts : SV → Option (List Int × List Nat)
  | .sl ls (.rInts l) => some (l, ls)
  | .nil => some ([], [])
  | _ => none
def Config.of : List SV → Option (Config × List Nat)
  | [s0, s1] => match s0.asInts with | some (v0, m0) => (match s1.asInts with | some (v1, m1) => (some (⟨v0, v1⟩, m0 ++ m1)) | none => none) | none => none
  | _ => none
def Snap.of : List SV → Option (Snap × List Nat)
  | [.int .i64 v0, .int .i64 v1, s2, s3, .str v4] => match s2.asInts with | some (v2, m2) => (match s3.asInts with | some (v3, m3) => (some (⟨v0, v1, ⟨v2, v3⟩, v4⟩, m2 ++ m3)) | none => none) | none => none
  | _ => none
def Change.of : List SV → Option (Change × List Nat)
  | [.int .i64 v0, .int .i64 v1] => some (⟨v0, v1⟩, [])
  | _ => none
/-- a row with one more -/
def RL.snoc : RL → List SV → Option (RL × List Nat)
  | .rInts l, [.int .i64 n] => some (.rInts (l ++ [n]), [])
  | .rInts _, _ => none
/-- a row with another one at i -/
def RL.put : RL → Nat → List SV → Option (RL × List Nat)
  | .rInts l, i, [.int .i64 n] => some (.rInts (l.set i n), [])
  | .rInts _, _, _ => none
structure Env where
  β : Nat → Option Value
  σ : Nat → Nat → Prop
def Env.set (E : Env) (ls : List Nat) (b : Nat) : Prop := ∃ i, i ∈ ls ∧ E.σ i b
mutual
/-- v is as sv says -/
def DenV (E : Env) (w : World) : SV → Value → Prop
  | .any, _ => True
  | .int k n, v => v = .int k n ∧ (Lit.int k n).wf = true
  | .bool b, v => v = .bool b
  | .str s, v => v = .string s ∧ s.size ≤ 140737488355328
  | .nil, v => v = .slice none 0 0
  | .sl ls r, v => Rd w (E.set ls) (.sl r.tys) v (.sl r.rows)
  | .own t, v => E.β t = some v ∧ v.oneCell' = true
  | .ptr t off, v => ∃ b, E.β t = some (.pointer (some ⟨b, 0, none⟩)) ∧ v = .pointer (some ⟨b, off, none⟩)
  | .el ls r i off, v => i < r.len ∧ ∃ b o c, v = .pointer (some ⟨b, o + i * r.tys.length + off, none⟩) ∧ Rd w (E.set ls) (.sl r.tys) (.slice (some ⟨b, o, none⟩) r.len c) (.sl r.rows)
  | .oel t sz i off, v => ∃ b n c, E.β t = some (.slice (some ⟨b, 0, none⟩) n c) ∧ v = .pointer (some ⟨b, i * sz + off, none⟩)
  | .agg vs, v => ∃ xs, v = .agg xs.toArray ∧ DenL E w vs xs
  | .tup vs, v => ∃ xs, v = .tuple xs.toArray ∧ DenL E w vs xs
  | .fn f, v => v = .func (.func f) #[] #[]
  | .gd b s, v => (b = true → DenV E w s v) ∧ (b = false → v = undef)
def DenL (E : Env) (w : World) : List SV → List Value → Prop
  | [], [] => True
  | s :: ss, x :: xs => DenV E w s x ∧ DenL E w ss xs
  | _, _ => False
end
theorem RL.rows_len (r : RL) : r.rows.length = r.len := by cases r <;> simp [RL.rows, RL.len, ints]
theorem RL.tys_pos (r : RL) : 0 < r.tys.length ∧ r.tys.length ≤ 64 := by cases r <;> (simp only [RL.tys]; decide)
theorem leafI {E : Env} {w : World} {S : Nat → Prop} {v : Value} {n : Int} (h : Rd w S (.int .i64) v (.int n)) : DenV E w (.int .i64 n) v := by cases h with | int h => exact ⟨rfl, h⟩
theorem leafB {E : Env} {w : World} {S : Nat → Prop} {v : Value} {n : Bool} (h : Rd w S .bool v (.bool n)) : DenV E w (.bool n) v := by cases h with | bool => exact rfl
theorem leafS {E : Env} {w : World} {S : Nat → Prop} {v : Value} {n : ByteArray} (h : Rd w S .str v (.str n)) : DenV E w (.str n) v := by cases h with | str h => exact ⟨rfl, h⟩
theorem rdI {E : Env} {w : World} {S : Nat → Prop} {v : Value} {n : Int} (h : DenV E w (.int .i64 n) v) : Rd w S (.int .i64) v (.int n) := by obtain ⟨rfl, h⟩ := h; exact .int h
theorem rdB {E : Env} {w : World} {S : Nat → Prop} {v : Value} {n : Bool} (h : DenV E w (.bool n) v) : Rd w S .bool v (.bool n) := by have : v = .bool n := h; subst this; exact .bool
theorem rdS {E : Env} {w : World} {S : Nat → Prop} {v : Value} {n : ByteArray} (h : DenV E w (.str n) v) : Rd w S .str v (.str n) := by obtain ⟨rfl, h⟩ := h; exact .str h
theorem DenL.len0 {E : Env} {w : World} : ∀ {ss : List SV} {vs : List Value}, DenL E w ss vs → vs.length = ss.length
  | [], [], _ => rfl
  | _ :: ss, _ :: vs, h => by simp [DenL.len0 h.2]
  | [], _ :: _, h => h.elim
  | _ :: _, [], h => h.elim
theorem Config.svs_of {E : Env} {w : World} {ls : List Nat} {vs : List Value} {x : Config} (h : RdL w (E.set ls) Config.ty vs x.enc) : DenL E w (x.svs ls) vs := by
  have hl := h.lens.1
  rw [Config.ty_len] at hl
  obtain ⟨v0, v1, rfl⟩ := list2 hl
  obtain ⟨h0, h1, _⟩ := h
  exact ⟨h0, h1, trivial⟩
theorem Config.svs_rd {E : Env} {w : World} {ls : List Nat} {vs : List Value} {x : Config} (h : DenL E w (x.svs ls) vs) : RdL w (E.set ls) Config.ty vs x.enc := by
  have hl : vs.length = 2 := h.len0
  obtain ⟨v0, v1, rfl⟩ := list2 hl
  obtain ⟨h0, h1, _⟩ := h
  exact ⟨h0, h1, trivial⟩
theorem Snap.svs_of {E : Env} {w : World} {ls : List Nat} {vs : List Value} {x : Snap} (h : RdL w (E.set ls) Snap.ty vs x.enc) : DenL E w (x.svs ls) vs := by
  have hl := h.lens.1
  rw [Snap.ty_len] at hl
  obtain ⟨v0, v1, v2, v3, v4, rfl⟩ := list5 hl
  obtain ⟨h0, h1, h2, h3, h4, _⟩ := h
  exact ⟨leafI h0, leafI h1, h2, h3, leafS h4, trivial⟩
theorem Snap.svs_rd {E : Env} {w : World} {ls : List Nat} {vs : List Value} {x : Snap} (h : DenL E w (x.svs ls) vs) : RdL w (E.set ls) Snap.ty vs x.enc := by
  have hl : vs.length = 5 := h.len0
  obtain ⟨v0, v1, v2, v3, v4, rfl⟩ := list5 hl
  obtain ⟨h0, h1, h2, h3, h4, _⟩ := h
  exact ⟨rdI h0, rdI h1, h2, h3, rdS h4, trivial⟩
theorem Change.svs_of {E : Env} {w : World} {ls : List Nat} {vs : List Value} {x : Change} (h : RdL w (E.set ls) Change.ty vs x.enc) : DenL E w (x.svs ls) vs := by
  have hl := h.lens.1
  rw [Change.ty_len] at hl
  obtain ⟨v0, v1, rfl⟩ := list2 hl
  obtain ⟨h0, h1, _⟩ := h
  exact ⟨leafI h0, leafI h1, trivial⟩
theorem Change.svs_rd {E : Env} {w : World} {ls : List Nat} {vs : List Value} {x : Change} (h : DenL E w (x.svs ls) vs) : RdL w (E.set ls) Change.ty vs x.enc := by
  have hl : vs.length = 2 := h.len0
  obtain ⟨v0, v1, rfl⟩ := list2 hl
  obtain ⟨h0, h1, _⟩ := h
  exact ⟨rdI h0, rdI h1, trivial⟩
theorem Env.set_mono {E : Env} {ls ms : List Nat} (h : ∀ i, i ∈ ls → i ∈ ms) : ∀ b, E.set ls b → E.set ms b := fun b ⟨i, hi, hs⟩ => ⟨i, h i hi, hs⟩
theorem SV.asInts_ok {E : Env} {w : World} {s : SV} {v : Value} {l : List Int} {m ls : List Nat} (h : s.asInts = some (l, m)) (hm : ∀ i, i ∈ m → i ∈ ls) (hd : DenV E w s v) : DenV E w (.sl ls (.rInts l)) v := by
  cases s with
  | sl ls2 r =>
    cases r with
    | rInts l2 =>
      simp only [SV.asInts, Option.some.injEq, Prod.mk.injEq] at h
      obtain ⟨rfl, rfl⟩ := h
      exact Rd.mono hd (fun b _ => Env.set_mono hm b)
  | nil =>
    simp only [SV.asInts, Option.some.injEq, Prod.mk.injEq] at h
    obtain ⟨rfl, rfl⟩ := h
    have : v = .slice none 0 0 := hd
    subst this
    exact .emp (fun _ => rfl) (by decide)
  | _ => simp [SV.asInts] at h
theorem Config.of_ok {E : Env} {w : World} {ss : List SV} {vs : List Value} {x : Config} {m : List Nat} (h : Config.of ss = some (x, m)) (hd : DenL E w ss vs) : DenL E w (x.svs m) vs := by
  unfold Config.of at h
  split at h
  · have hl := hd.len0
    obtain ⟨u0, u1, rfl⟩ := list2 hl
    obtain ⟨h0, h1, _⟩ := hd
    split at h
    case h_2 => simp at h
    rename_i e0
    split at h
    case h_2 => simp at h
    rename_i e1
    simp only [Option.some.injEq, Prod.mk.injEq] at h
    obtain ⟨rfl, rfl⟩ := h
    exact ⟨SV.asInts_ok e0 (by simp (config := { contextual := true })) h0, SV.asInts_ok e1 (by simp (config := { contextual := true })) h1, trivial⟩
  · simp at h
theorem Snap.of_ok {E : Env} {w : World} {ss : List SV} {vs : List Value} {x : Snap} {m : List Nat} (h : Snap.of ss = some (x, m)) (hd : DenL E w ss vs) : DenL E w (x.svs m) vs := by
  unfold Snap.of at h
  split at h
  · have hl := hd.len0
    obtain ⟨u0, u1, u2, u3, u4, rfl⟩ := list5 hl
    obtain ⟨h0, h1, h2, h3, h4, _⟩ := hd
    split at h
    case h_2 => simp at h
    rename_i e2
    split at h
    case h_2 => simp at h
    rename_i e3
    simp only [Option.some.injEq, Prod.mk.injEq] at h
    obtain ⟨rfl, rfl⟩ := h
    exact ⟨h0, h1, SV.asInts_ok e2 (by simp (config := { contextual := true })) h2, SV.asInts_ok e3 (by simp (config := { contextual := true })) h3, h4, trivial⟩
  · simp at h
theorem Change.of_ok {E : Env} {w : World} {ss : List SV} {vs : List Value} {x : Change} {m : List Nat} (h : Change.of ss = some (x, m)) (hd : DenL E w ss vs) : DenL E w (x.svs m) vs := by
  unfold Change.of at h
  split at h
  · have hl := hd.len0
    obtain ⟨u0, u1, rfl⟩ := list2 hl
    obtain ⟨h0, h1, _⟩ := hd
    simp only [Option.some.injEq, Prod.mk.injEq] at h
    obtain ⟨rfl, rfl⟩ := h
    exact ⟨h0, h1, trivial⟩
  · simp at h
theorem RL.elem_ok {E : Env} {w : World} {ls : List Nat} {r : RL} {i : Nat} (hi : i < r.len) {vs : List Value} (h : RdL w (E.set ls) r.tys vs (r.rows.getD i [])) : DenL E w (r.elem ls i) vs := by
  cases r with
  | rInts l =>
    have e : (ints l).getD i [] = [.int (l.getD i 0)] := by simp only [RL.len] at hi; simp [ints, List.getD, hi]
    simp only [RL.rows, RL.tys] at h; rw [e] at h
    match vs, h with
    | [v], h => exact ⟨leafI h.1, trivial⟩
theorem RL.app_ok {a b r : RL} (h : a.app b = some r) : r.rows = a.rows ++ b.rows ∧ r.tys = a.tys ∧ b.tys = a.tys ∧ r.len = a.len + b.len := by
  cases a <;> cases b <;> simp only [RL.app, Option.some.injEq, reduceCtorEq] at h <;> subst h <;> simp [RL.rows, RL.tys, RL.len, ints]
theorem RL.ite_t {a b r : RL} (h : RL.ite true a b = some r) : r = a := by cases a <;> cases b <;> simp_all [RL.ite]
theorem RL.ite_f {a b r : RL} (h : RL.ite false a b = some r) : r = b := by cases a <;> cases b <;> simp_all [RL.ite]
theorem RL.take_ok (r : RL) (n : Nat) : (r.take n).rows = r.rows.take n ∧ (r.take n).tys = r.tys ∧ (r.take n).len = min n r.len := by cases r <;> simp [RL.take, RL.rows, RL.tys, RL.len, ints]
theorem RL.drop_ok (r : RL) (n : Nat) : (r.drop n).rows = r.rows.drop n ∧ (r.drop n).tys = r.tys ∧ (r.drop n).len = r.len - n := by cases r <;> simp [RL.drop, RL.rows, RL.tys, RL.len, ints]
theorem RL.emp_ok (r : RL) : r.emp.rows = [] ∧ r.emp.tys = r.tys ∧ r.emp.len = 0 := by cases r <;> simp [RL.emp, RL.rows, RL.tys, RL.len, ints]
theorem rdOne {E : Env} {w : World} {m : List Nat} {n : Int} {vs : List Value} (h : DenL E w [.int .i64 n] vs) : RdL w (E.set m) [.int .i64] vs [.int n] := by
  match vs, h with
  | [v], h => exact ⟨rdI h.1, trivial⟩
theorem RL.snoc_ok {r r2 : RL} {cs : List SV} {m : List Nat} (h : r.snoc cs = some (r2, m)) : r2.tys = r.tys ∧ r2.len = r.len + 1 ∧ ∃ ds, r2.rows = r.rows ++ [ds] ∧ ∀ (E : Env) (w : World) (vs : List Value), DenL E w cs vs → RdL w (E.set m) r.tys vs ds := by
  cases r with
  | rInts l =>
    match cs, h with
    | [.int .i64 n], h =>
      simp only [RL.snoc, Option.some.injEq, Prod.mk.injEq] at h
      obtain ⟨rfl, rfl⟩ := h
      exact ⟨rfl, by simp [RL.len], [.int n], by simp [RL.rows, ints], fun E w vs hd => rdOne hd⟩
theorem RL.put_ok {r r2 : RL} (i : Nat) {cs : List SV} {m : List Nat} (h : r.put i cs = some (r2, m)) : r2.tys = r.tys ∧ r2.len = r.len ∧ ∃ ds, r2.rows = r.rows.set i ds ∧ ∀ (E : Env) (w : World) (vs : List Value), DenL E w cs vs → RdL w (E.set m) r.tys vs ds := by
  cases r with
  | rInts l =>
    match cs, h with
    | [.int .i64 n], h =>
      simp only [RL.put, Option.some.injEq, Prod.mk.injEq] at h
      obtain ⟨rfl, rfl⟩ := h
      exact ⟨rfl, by simp [RL.len], [.int n], by simp [RL.rows, ints, List.map_set], fun E w vs hd => rdOne hd⟩
def RL.eqP : RL → RL → Option Prop
  | .rInts l, .rInts m => some (l = m)
theorem RL.eqP_ok {a b : RL} {p : Prop} (h : RL.eqP a b = some p) (hp : p) : a = b := by cases a <;> cases b <;> simp only [RL.eqP, Option.some.injEq, reduceCtorEq] at h <;> subst h <;> rw [hp]
def RL.nilP : RL → Prop
  | .rInts l => l = []
theorem RL.nilP_ok {a : RL} (h : a.nilP) : a.rows = [] := by cases a <;> simp only [RL.nilP] at h <;> subst h <;> rfl
end Go.Proofs.Ytejahcpnbkegfaa
