/- The rows and the struct cells of the symbolic walk. Written by a program (gen_sy.py). No condition. -/
import Derived.Test.YteiojclemodhaaaTyA
import Derived.Test.YteiojclemodhaaaRdOwn
namespace Go.Proofs.Yteiojclemodhaaa
open Go.RowKit Go.ChangeShapes Go.WideShapes Go.Deep
set_option linter.unusedVariables false
set_option linter.unusedSimpArgs false
/-- texts, truths -/
def strs (l : List ByteArray) : List (List D) := l.map fun x => [.str x]
def bools (l : List Bool) : List (List D) := l.map fun x => [.bool x]
/-- rows of a slice -/
inductive RL
  | rInts (l : List Int)
  | rEntry (l : List Entry)
  | rRecord (l : List Record)
  | rBytes (l : List Int)
def RL.tys : RL → List Ty
  | .rInts l => [.int .i64]
  | .rEntry l => Entry.ty
  | .rRecord l => Record.ty
  | .rBytes l => [.int .u8]
def RL.rows : RL → List (List D)
  | .rInts l => ints l
  | .rEntry l => l.map Entry.enc
  | .rRecord l => l.map Record.enc
  | .rBytes l => ints l
def RL.len : RL → Nat
  | .rInts l => l.length
  | .rEntry l => l.length
  | .rRecord l => l.length
  | .rBytes l => l.length
def RL.emp : RL → RL
  | .rInts l => .rInts []
  | .rEntry l => .rEntry []
  | .rRecord l => .rRecord []
  | .rBytes l => .rBytes []
def RL.take : RL → Nat → RL
  | .rInts l, n => .rInts (l.take n)
  | .rEntry l, n => .rEntry (l.take n)
  | .rRecord l, n => .rRecord (l.take n)
  | .rBytes l, n => .rBytes (l.take n)
def RL.drop : RL → Nat → RL
  | .rInts l, n => .rInts (l.drop n)
  | .rEntry l, n => .rEntry (l.drop n)
  | .rRecord l, n => .rRecord (l.drop n)
  | .rBytes l, n => .rBytes (l.drop n)
def RL.app : RL → RL → Option RL
  | .rInts l, .rInts m => some (.rInts (l ++ m))
  | .rEntry l, .rEntry m => some (.rEntry (l ++ m))
  | .rRecord l, .rRecord m => some (.rRecord (l ++ m))
  | .rBytes l, .rBytes m => some (.rBytes (l ++ m))
  | _, _ => none
def RL.ite (b : Bool) : RL → RL → Option RL
  | .rInts l, .rInts m => some (.rInts (if b then l else m))
  | .rEntry l, .rEntry m => some (.rEntry (if b then l else m))
  | .rRecord l, .rRecord m => some (.rRecord (if b then l else m))
  | .rBytes l, .rBytes m => some (.rBytes (if b then l else m))
  | _, _ => none
/-- what a slot or a cell holds, as far as it is known -/
inductive SV
  | any
  | int (k : IntKind) (n : Int)
  | bool (b : Bool)
  | str (s : ByteArray)
  | nil
  | sl (ls : List Nat) (r : RL)
  | own (t : Nat)
  | ptr (t off : Nat)
  | el (ls : List Nat) (r : RL) (i off : Nat)
  | oel (t sz i off : Nat)
  | agg (vs : List SV)
  | tup (vs : List SV)
  | fn (f : Nat)
  | clo (f : Nat) (cs : List SV)
  | rp (ls : List Nat) (T : Nat) (cs : List SV) (off : Nat)
  | gd (b : Bool) (v : SV)
  | ub (p q : Prop)
instance : Inhabited SV := ⟨.any⟩
def Config.svs (ls : List Nat) (x : Config) : List SV := [.sl ls (.rInts x.voters), .sl ls (.rInts x.learners)]
def Entry.svs (ls : List Nat) (x : Entry) : List SV := [.int .i64 x.index, .int .i64 x.term, .int .i64 x.kind, .sl ls (.rInts x.config.voters), .sl ls (.rInts x.config.learners), .str x.data]
def Snap.svs (ls : List Nat) (x : Snap) : List SV := [.int .i64 x.index, .int .i64 x.term, .sl ls (.rInts x.config.voters), .sl ls (.rInts x.config.learners), .str x.data]
def Kept.svs (ls : List Nat) (x : Kept) : List SV := [.int .i64 x.term, .int .i64 x.vote, .int .i64 x.snap.index, .int .i64 x.snap.term, .sl ls (.rInts x.snap.config.voters), .sl ls (.rInts x.snap.config.learners), .str x.snap.data, .sl ls (.rEntry x.entries)]
def Record.svs (ls : List Nat) (x : Record) : List SV := [.int .i64 x.kind, .int .i64 x.term, .int .i64 x.vote, .int .i64 x.entry.index, .int .i64 x.entry.term, .int .i64 x.entry.kind, .sl ls (.rInts x.entry.config.voters), .sl ls (.rInts x.entry.config.learners), .str x.entry.data, .int .i64 x.index, .int .i64 x.snap.index, .int .i64 x.snap.term, .sl ls (.rInts x.snap.config.voters), .sl ls (.rInts x.snap.config.learners), .str x.snap.data]
def RL.elem (ls : List Nat) : RL → Nat → List SV
  | .rInts l, i => [.int .i64 (l.getD i 0)]
  | .rEntry l, i => Entry.svs ls (l.getD i default)
  | .rRecord l, i => Record.svs ls (l.getD i default)
  | .rBytes l, i => [.int .u8 (l.getD i 0)]
def SV.asInts : SV → Option (List Int × List Nat)
  | .sl ls (.rInts l) => some (l, ls)
  | .nil => some ([], [])
  | _ => none
def SV.asEntry : SV → Option (List Entry × List Nat)
  | .sl ls (.rEntry l) => some (l, ls)
  | .nil => some ([], [])
  | _ => none
def SV.asRecord : SV → Option (List Record × List Nat)
  | .sl ls (.rRecord l) => some (l, ls)
  | .nil => some ([], [])
  | _ => none
def SV.asBytes : SV → Option (List Int × List Nat)
  | .sl ls (.rBytes l) => some (l, ls)
  | .nil => some ([], [])
  | _ => none
def Config.of : List SV → Option (Config × List Nat)
  | [s0, s1] => match s0.asInts with | some (v0, m0) => (match s1.asInts with | some (v1, m1) => (some (⟨v0, v1⟩, m0 ++ m1)) | none => none) | none => none
  | _ => none
def Entry.of : List SV → Option (Entry × List Nat)
  | [.int .i64 v0, .int .i64 v1, .int .i64 v2, s3, s4, .str v5] => match s3.asInts with | some (v3, m3) => (match s4.asInts with | some (v4, m4) => (some (⟨v0, v1, v2, ⟨v3, v4⟩, v5⟩, m3 ++ m4)) | none => none) | none => none
  | _ => none
def Snap.of : List SV → Option (Snap × List Nat)
  | [.int .i64 v0, .int .i64 v1, s2, s3, .str v4] => match s2.asInts with | some (v2, m2) => (match s3.asInts with | some (v3, m3) => (some (⟨v0, v1, ⟨v2, v3⟩, v4⟩, m2 ++ m3)) | none => none) | none => none
  | _ => none
def Kept.of : List SV → Option (Kept × List Nat)
  | [.int .i64 v0, .int .i64 v1, .int .i64 v2, .int .i64 v3, s4, s5, .str v6, s7] => match s4.asInts with | some (v4, m4) => (match s5.asInts with | some (v5, m5) => (match s7.asEntry with | some (v7, m7) => (some (⟨v0, v1, ⟨v2, v3, ⟨v4, v5⟩, v6⟩, v7⟩, m4 ++ m5 ++ m7)) | none => none) | none => none) | none => none
  | _ => none
def Record.of : List SV → Option (Record × List Nat)
  | [.int .i64 v0, .int .i64 v1, .int .i64 v2, .int .i64 v3, .int .i64 v4, .int .i64 v5, s6, s7, .str v8, .int .i64 v9, .int .i64 v10, .int .i64 v11, s12, s13, .str v14] => match s6.asInts with | some (v6, m6) => (match s7.asInts with | some (v7, m7) => (match s12.asInts with | some (v12, m12) => (match s13.asInts with | some (v13, m13) => (some (⟨v0, v1, v2, ⟨v3, v4, v5, ⟨v6, v7⟩, v8⟩, v9, ⟨v10, v11, ⟨v12, v13⟩, v14⟩⟩, m6 ++ m7 ++ m12 ++ m13)) | none => none) | none => none) | none => none) | none => none
  | _ => none
/-- a row with one more -/
def RL.snoc : RL → List SV → Option (RL × List Nat)
  | .rInts l, [.int .i64 n] => some (.rInts (l ++ [n]), [])
  | .rEntry l, cs => match Entry.of cs with | some (x, m) => some (.rEntry (l ++ [x]), m) | none => none
  | .rRecord l, cs => match Record.of cs with | some (x, m) => some (.rRecord (l ++ [x]), m) | none => none
  | .rBytes l, [.int .u8 n] => some (.rBytes (l ++ [n]), [])
  | .rInts _, _ => none
  | .rBytes _, _ => none
/-- a row with another one at i -/
def RL.put : RL → Nat → List SV → Option (RL × List Nat)
  | .rInts l, i, [.int .i64 n] => some (.rInts (l.set i n), [])
  | .rEntry l, i, cs => match Entry.of cs with | some (x, m) => some (.rEntry (l.set i x), m) | none => none
  | .rRecord l, i, cs => match Record.of cs with | some (x, m) => some (.rRecord (l.set i x), m) | none => none
  | .rBytes l, i, [.int .u8 n] => some (.rBytes (l.set i n), [])
  | .rInts _, _, _ => none
  | .rBytes _, _, _ => none
structure Env where
  β : Nat → Option Value
  σ : Nat → Nat → Prop
def Env.set (E : Env) (ls : List Nat) (b : Nat) : Prop := ∃ i, i ∈ ls ∧ E.σ i b
mutual
/-- v is as sv says -/
def DenV (E : Env) (w : World) : SV → Value → Prop
  | .any, _ => True
  | .int k n, v => v = .int k n ∧ (Lit.int k n).wf = true
  | .bool b, v => v = .bool b
  | .str s, v => v = .string s ∧ s.size ≤ 140737488355328
  | .nil, v => v = .slice none 0 0
  | .sl ls r, v => Rd w (E.set ls) (.sl r.tys) v (.sl r.rows)
  | .own t, v => E.β t = some v ∧ v.oneCell' = true
  | .ptr t off, v => ∃ b, E.β t = some (.pointer (some ⟨b, 0, none⟩)) ∧ v = .pointer (some ⟨b, off, none⟩)
  | .el ls r i off, v => i < r.len ∧ ∃ b o c, v = .pointer (some ⟨b, o + i * r.tys.length + off, none⟩) ∧ Rd w (E.set ls) (.sl r.tys) (.slice (some ⟨b, o, none⟩) r.len c) (.sl r.rows)
  | .oel t sz i off, v => ∃ b n c, E.β t = some (.slice (some ⟨b, 0, none⟩) n c) ∧ v = .pointer (some ⟨b, i * sz + off, none⟩)
  | .agg vs, v => ∃ xs, v = .agg xs.toArray ∧ DenL E w vs xs
  | .tup vs, v => ∃ xs, v = .tuple xs.toArray ∧ DenL E w vs xs
  | .fn f, v => v = .func (.func f) #[] #[]
  | .clo f cs, v => ∃ xs, v = .func (.func f) #[] xs.toArray ∧ DenL E w cs xs
  | .rp ls T cs off, v => ∃ b xs, v = .pointer (some ⟨b, off, none⟩) ∧ E.set ls b ∧ w.heap[b]? = some (.cells xs.toArray T (0, 0)) ∧ DenL E w cs xs
  | .gd b s, v => (b = true → DenV E w s v) ∧ (b = false → v = undef)
  | .ub p q, v => ∃ b, v = .bool b ∧ (b = true → p) ∧ (b = false → q)
def DenL (E : Env) (w : World) : List SV → List Value → Prop
  | [], [] => True
  | s :: ss, x :: xs => DenV E w s x ∧ DenL E w ss xs
  | _, _ => False
end
theorem RL.rows_len (r : RL) : r.rows.length = r.len := by cases r <;> simp [RL.rows, RL.len, ints, strs, bools]
theorem RL.tys_pos (r : RL) : 0 < r.tys.length ∧ r.tys.length ≤ 64 := by cases r <;> (simp only [RL.tys]; decide)
theorem leafI {E : Env} {w : World} {S : Nat → Prop} {v : Value} {n : Int} (h : Rd w S (.int .i64) v (.int n)) : DenV E w (.int .i64 n) v := by cases h with | int h => exact ⟨rfl, h⟩
theorem leafU {E : Env} {w : World} {S : Nat → Prop} {v : Value} {n : Int} (h : Rd w S (.int .u8) v (.int n)) : DenV E w (.int .u8 n) v := by cases h with | int h => exact ⟨rfl, h⟩
theorem rdU {E : Env} {w : World} {S : Nat → Prop} {v : Value} {n : Int} (h : DenV E w (.int .u8 n) v) : Rd w S (.int .u8) v (.int n) := by obtain ⟨rfl, h⟩ := h; exact .int h
theorem leafB {E : Env} {w : World} {S : Nat → Prop} {v : Value} {n : Bool} (h : Rd w S .bool v (.bool n)) : DenV E w (.bool n) v := by cases h with | bool => exact rfl
theorem leafS {E : Env} {w : World} {S : Nat → Prop} {v : Value} {n : ByteArray} (h : Rd w S .str v (.str n)) : DenV E w (.str n) v := by cases h with | str h => exact ⟨rfl, h⟩
theorem rdI {E : Env} {w : World} {S : Nat → Prop} {v : Value} {n : Int} (h : DenV E w (.int .i64 n) v) : Rd w S (.int .i64) v (.int n) := by obtain ⟨rfl, h⟩ := h; exact .int h
theorem rdB {E : Env} {w : World} {S : Nat → Prop} {v : Value} {n : Bool} (h : DenV E w (.bool n) v) : Rd w S .bool v (.bool n) := by have : v = .bool n := h; subst this; exact .bool
theorem rdS {E : Env} {w : World} {S : Nat → Prop} {v : Value} {n : ByteArray} (h : DenV E w (.str n) v) : Rd w S .str v (.str n) := by obtain ⟨rfl, h⟩ := h; exact .str h
theorem DenL.len0 {E : Env} {w : World} : ∀ {ss : List SV} {vs : List Value}, DenL E w ss vs → vs.length = ss.length
  | [], [], _ => rfl
  | _ :: ss, _ :: vs, h => by simp [DenL.len0 h.2]
  | [], _ :: _, h => h.elim
  | _ :: _, [], h => h.elim
theorem Config.svs_of {E : Env} {w : World} {ls : List Nat} {vs : List Value} {x : Config} (h : RdL w (E.set ls) Config.ty vs x.enc) : DenL E w (x.svs ls) vs := by
  have hl := h.lens.1
  rw [Config.ty_len] at hl
  obtain ⟨v0, v1, rfl⟩ := list2 hl
  obtain ⟨h0, h1, _⟩ := h
  exact ⟨h0, h1, trivial⟩
theorem Config.svs_rd {E : Env} {w : World} {ls : List Nat} {vs : List Value} {x : Config} (h : DenL E w (x.svs ls) vs) : RdL w (E.set ls) Config.ty vs x.enc := by
  have hl : vs.length = 2 := h.len0
  obtain ⟨v0, v1, rfl⟩ := list2 hl
  obtain ⟨h0, h1, _⟩ := h
  exact ⟨h0, h1, trivial⟩
theorem Entry.svs_of {E : Env} {w : World} {ls : List Nat} {vs : List Value} {x : Entry} (h : RdL w (E.set ls) Entry.ty vs x.enc) : DenL E w (x.svs ls) vs := by
  have hl := h.lens.1
  rw [Entry.ty_len] at hl
  obtain ⟨v0, v1, v2, v3, v4, v5, rfl⟩ := list6 hl
  obtain ⟨h0, h1, h2, h3, h4, h5, _⟩ := h
  exact ⟨leafI h0, leafI h1, leafI h2, h3, h4, leafS h5, trivial⟩
theorem Entry.svs_rd {E : Env} {w : World} {ls : List Nat} {vs : List Value} {x : Entry} (h : DenL E w (x.svs ls) vs) : RdL w (E.set ls) Entry.ty vs x.enc := by
  have hl : vs.length = 6 := h.len0
  obtain ⟨v0, v1, v2, v3, v4, v5, rfl⟩ := list6 hl
  obtain ⟨h0, h1, h2, h3, h4, h5, _⟩ := h
  exact ⟨rdI h0, rdI h1, rdI h2, h3, h4, rdS h5, trivial⟩
theorem Snap.svs_of {E : Env} {w : World} {ls : List Nat} {vs : List Value} {x : Snap} (h : RdL w (E.set ls) Snap.ty vs x.enc) : DenL E w (x.svs ls) vs := by
  have hl := h.lens.1
  rw [Snap.ty_len] at hl
  obtain ⟨v0, v1, v2, v3, v4, rfl⟩ := list5 hl
  obtain ⟨h0, h1, h2, h3, h4, _⟩ := h
  exact ⟨leafI h0, leafI h1, h2, h3, leafS h4, trivial⟩
theorem Snap.svs_rd {E : Env} {w : World} {ls : List Nat} {vs : List Value} {x : Snap} (h : DenL E w (x.svs ls) vs) : RdL w (E.set ls) Snap.ty vs x.enc := by
  have hl : vs.length = 5 := h.len0
  obtain ⟨v0, v1, v2, v3, v4, rfl⟩ := list5 hl
  obtain ⟨h0, h1, h2, h3, h4, _⟩ := h
  exact ⟨rdI h0, rdI h1, h2, h3, rdS h4, trivial⟩
theorem Kept.svs_of {E : Env} {w : World} {ls : List Nat} {vs : List Value} {x : Kept} (h : RdL w (E.set ls) Kept.ty vs x.enc) : DenL E w (x.svs ls) vs := by
  have hl := h.lens.1
  rw [Kept.ty_len] at hl
  obtain ⟨v0, v1, v2, v3, v4, v5, v6, v7, rfl⟩ := list8 hl
  obtain ⟨h0, h1, h2, h3, h4, h5, h6, h7, _⟩ := h
  exact ⟨leafI h0, leafI h1, leafI h2, leafI h3, h4, h5, leafS h6, h7, trivial⟩
theorem Kept.svs_rd {E : Env} {w : World} {ls : List Nat} {vs : List Value} {x : Kept} (h : DenL E w (x.svs ls) vs) : RdL w (E.set ls) Kept.ty vs x.enc := by
  have hl : vs.length = 8 := h.len0
  obtain ⟨v0, v1, v2, v3, v4, v5, v6, v7, rfl⟩ := list8 hl
  obtain ⟨h0, h1, h2, h3, h4, h5, h6, h7, _⟩ := h
  exact ⟨rdI h0, rdI h1, rdI h2, rdI h3, h4, h5, rdS h6, h7, trivial⟩
theorem Record.svs_of {E : Env} {w : World} {ls : List Nat} {vs : List Value} {x : Record} (h : RdL w (E.set ls) Record.ty vs x.enc) : DenL E w (x.svs ls) vs := by
  have hl := h.lens.1
  rw [Record.ty_len] at hl
  obtain ⟨v0, v1, v2, v3, v4, v5, v6, v7, v8, v9, v10, v11, v12, v13, v14, rfl⟩ := list15 hl
  obtain ⟨h0, h1, h2, h3, h4, h5, h6, h7, h8, h9, h10, h11, h12, h13, h14, _⟩ := h
  exact ⟨leafI h0, leafI h1, leafI h2, leafI h3, leafI h4, leafI h5, h6, h7, leafS h8, leafI h9, leafI h10, leafI h11, h12, h13, leafS h14, trivial⟩
theorem Record.svs_rd {E : Env} {w : World} {ls : List Nat} {vs : List Value} {x : Record} (h : DenL E w (x.svs ls) vs) : RdL w (E.set ls) Record.ty vs x.enc := by
  have hl : vs.length = 15 := h.len0
  obtain ⟨v0, v1, v2, v3, v4, v5, v6, v7, v8, v9, v10, v11, v12, v13, v14, rfl⟩ := list15 hl
  obtain ⟨h0, h1, h2, h3, h4, h5, h6, h7, h8, h9, h10, h11, h12, h13, h14, _⟩ := h
  exact ⟨rdI h0, rdI h1, rdI h2, rdI h3, rdI h4, rdI h5, h6, h7, rdS h8, rdI h9, rdI h10, rdI h11, h12, h13, rdS h14, trivial⟩
theorem Env.set_mono {E : Env} {ls ms : List Nat} (h : ∀ i, i ∈ ls → i ∈ ms) : ∀ b, E.set ls b → E.set ms b := fun b ⟨i, hi, hs⟩ => ⟨i, h i hi, hs⟩
theorem SV.asInts_ok {E : Env} {w : World} {s : SV} {v : Value} {l : List Int} {m ls : List Nat} (h : s.asInts = some (l, m)) (hm : ∀ i, i ∈ m → i ∈ ls) (hd : DenV E w s v) : DenV E w (.sl ls (.rInts l)) v := by
  cases s with
  | sl ls2 r =>
    cases r with
    | rInts l2 =>
      simp only [SV.asInts, Option.some.injEq, Prod.mk.injEq] at h
      obtain ⟨rfl, rfl⟩ := h
      exact Rd.mono hd (fun b _ => Env.set_mono hm b)
    | _ => simp [SV.asInts] at h
  | nil =>
    simp only [SV.asInts, Option.some.injEq, Prod.mk.injEq] at h
    obtain ⟨rfl, rfl⟩ := h
    have : v = .slice none 0 0 := hd
    subst this
    exact .emp (fun _ => rfl) (by decide)
  | _ => simp [SV.asInts] at h
theorem SV.asEntry_ok {E : Env} {w : World} {s : SV} {v : Value} {l : List Entry} {m ls : List Nat} (h : s.asEntry = some (l, m)) (hm : ∀ i, i ∈ m → i ∈ ls) (hd : DenV E w s v) : DenV E w (.sl ls (.rEntry l)) v := by
  cases s with
  | sl ls2 r =>
    cases r with
    | rEntry l2 =>
      simp only [SV.asEntry, Option.some.injEq, Prod.mk.injEq] at h
      obtain ⟨rfl, rfl⟩ := h
      exact Rd.mono hd (fun b _ => Env.set_mono hm b)
    | _ => simp [SV.asEntry] at h
  | nil =>
    simp only [SV.asEntry, Option.some.injEq, Prod.mk.injEq] at h
    obtain ⟨rfl, rfl⟩ := h
    have : v = .slice none 0 0 := hd
    subst this
    exact .emp (fun _ => rfl) (by decide)
  | _ => simp [SV.asEntry] at h
theorem SV.asRecord_ok {E : Env} {w : World} {s : SV} {v : Value} {l : List Record} {m ls : List Nat} (h : s.asRecord = some (l, m)) (hm : ∀ i, i ∈ m → i ∈ ls) (hd : DenV E w s v) : DenV E w (.sl ls (.rRecord l)) v := by
  cases s with
  | sl ls2 r =>
    cases r with
    | rRecord l2 =>
      simp only [SV.asRecord, Option.some.injEq, Prod.mk.injEq] at h
      obtain ⟨rfl, rfl⟩ := h
      exact Rd.mono hd (fun b _ => Env.set_mono hm b)
    | _ => simp [SV.asRecord] at h
  | nil =>
    simp only [SV.asRecord, Option.some.injEq, Prod.mk.injEq] at h
    obtain ⟨rfl, rfl⟩ := h
    have : v = .slice none 0 0 := hd
    subst this
    exact .emp (fun _ => rfl) (by decide)
  | _ => simp [SV.asRecord] at h
theorem SV.asBytes_ok {E : Env} {w : World} {s : SV} {v : Value} {l : List Int} {m ls : List Nat} (h : s.asBytes = some (l, m)) (hm : ∀ i, i ∈ m → i ∈ ls) (hd : DenV E w s v) : DenV E w (.sl ls (.rBytes l)) v := by
  cases s with
  | sl ls2 r =>
    cases r with
    | rBytes l2 =>
      simp only [SV.asBytes, Option.some.injEq, Prod.mk.injEq] at h
      obtain ⟨rfl, rfl⟩ := h
      exact Rd.mono hd (fun b _ => Env.set_mono hm b)
    | _ => simp [SV.asBytes] at h
  | nil =>
    simp only [SV.asBytes, Option.some.injEq, Prod.mk.injEq] at h
    obtain ⟨rfl, rfl⟩ := h
    have : v = .slice none 0 0 := hd
    subst this
    exact .emp (fun _ => rfl) (by decide)
  | _ => simp [SV.asBytes] at h
theorem Config.of_ok {E : Env} {w : World} {ss : List SV} {vs : List Value} {x : Config} {m : List Nat} (h : Config.of ss = some (x, m)) (hd : DenL E w ss vs) : DenL E w (x.svs m) vs := by
  unfold Config.of at h
  split at h
  · have hl := hd.len0
    obtain ⟨u0, u1, rfl⟩ := list2 hl
    obtain ⟨h0, h1, _⟩ := hd
    split at h
    case h_2 => simp at h
    rename_i e0
    split at h
    case h_2 => simp at h
    rename_i e1
    simp only [Option.some.injEq, Prod.mk.injEq] at h
    obtain ⟨rfl, rfl⟩ := h
    exact ⟨SV.asInts_ok e0 (by simp (config := { contextual := true })) h0, SV.asInts_ok e1 (by simp (config := { contextual := true })) h1, trivial⟩
  · simp at h
theorem Entry.of_ok {E : Env} {w : World} {ss : List SV} {vs : List Value} {x : Entry} {m : List Nat} (h : Entry.of ss = some (x, m)) (hd : DenL E w ss vs) : DenL E w (x.svs m) vs := by
  unfold Entry.of at h
  split at h
  · have hl := hd.len0
    obtain ⟨u0, u1, u2, u3, u4, u5, rfl⟩ := list6 hl
    obtain ⟨h0, h1, h2, h3, h4, h5, _⟩ := hd
    split at h
    case h_2 => simp at h
    rename_i e3
    split at h
    case h_2 => simp at h
    rename_i e4
    simp only [Option.some.injEq, Prod.mk.injEq] at h
    obtain ⟨rfl, rfl⟩ := h
    exact ⟨h0, h1, h2, SV.asInts_ok e3 (by simp (config := { contextual := true })) h3, SV.asInts_ok e4 (by simp (config := { contextual := true })) h4, h5, trivial⟩
  · simp at h
theorem Snap.of_ok {E : Env} {w : World} {ss : List SV} {vs : List Value} {x : Snap} {m : List Nat} (h : Snap.of ss = some (x, m)) (hd : DenL E w ss vs) : DenL E w (x.svs m) vs := by
  unfold Snap.of at h
  split at h
  · have hl := hd.len0
    obtain ⟨u0, u1, u2, u3, u4, rfl⟩ := list5 hl
    obtain ⟨h0, h1, h2, h3, h4, _⟩ := hd
    split at h
    case h_2 => simp at h
    rename_i e2
    split at h
    case h_2 => simp at h
    rename_i e3
    simp only [Option.some.injEq, Prod.mk.injEq] at h
    obtain ⟨rfl, rfl⟩ := h
    exact ⟨h0, h1, SV.asInts_ok e2 (by simp (config := { contextual := true })) h2, SV.asInts_ok e3 (by simp (config := { contextual := true })) h3, h4, trivial⟩
  · simp at h
theorem Kept.of_ok {E : Env} {w : World} {ss : List SV} {vs : List Value} {x : Kept} {m : List Nat} (h : Kept.of ss = some (x, m)) (hd : DenL E w ss vs) : DenL E w (x.svs m) vs := by
  unfold Kept.of at h
  split at h
  · have hl := hd.len0
    obtain ⟨u0, u1, u2, u3, u4, u5, u6, u7, rfl⟩ := list8 hl
    obtain ⟨h0, h1, h2, h3, h4, h5, h6, h7, _⟩ := hd
    split at h
    case h_2 => simp at h
    rename_i e4
    split at h
    case h_2 => simp at h
    rename_i e5
    split at h
    case h_2 => simp at h
    rename_i e7
    simp only [Option.some.injEq, Prod.mk.injEq] at h
    obtain ⟨rfl, rfl⟩ := h
    exact ⟨h0, h1, h2, h3, SV.asInts_ok e4 (by simp (config := { contextual := true })) h4, SV.asInts_ok e5 (by simp (config := { contextual := true })) h5, h6, SV.asEntry_ok e7 (by simp (config := { contextual := true })) h7, trivial⟩
  · simp at h
theorem Record.of_ok {E : Env} {w : World} {ss : List SV} {vs : List Value} {x : Record} {m : List Nat} (h : Record.of ss = some (x, m)) (hd : DenL E w ss vs) : DenL E w (x.svs m) vs := by
  unfold Record.of at h
  split at h
  · have hl := hd.len0
    obtain ⟨u0, u1, u2, u3, u4, u5, u6, u7, u8, u9, u10, u11, u12, u13, u14, rfl⟩ := list15 hl
    obtain ⟨h0, h1, h2, h3, h4, h5, h6, h7, h8, h9, h10, h11, h12, h13, h14, _⟩ := hd
    split at h
    case h_2 => simp at h
    rename_i e6
    split at h
    case h_2 => simp at h
    rename_i e7
    split at h
    case h_2 => simp at h
    rename_i e12
    split at h
    case h_2 => simp at h
    rename_i e13
    simp only [Option.some.injEq, Prod.mk.injEq] at h
    obtain ⟨rfl, rfl⟩ := h
    exact ⟨h0, h1, h2, h3, h4, h5, SV.asInts_ok e6 (by simp (config := { contextual := true })) h6, SV.asInts_ok e7 (by simp (config := { contextual := true })) h7, h8, h9, h10, h11, SV.asInts_ok e12 (by simp (config := { contextual := true })) h12, SV.asInts_ok e13 (by simp (config := { contextual := true })) h13, h14, trivial⟩
  · simp at h
theorem RL.elem_ok {E : Env} {w : World} {ls : List Nat} {r : RL} {i : Nat} (hi : i < r.len) {vs : List Value} (h : RdL w (E.set ls) r.tys vs (r.rows.getD i [])) : DenL E w (r.elem ls i) vs := by
  cases r with
  | rInts l =>
    have e : (ints l).getD i [] = [.int (l.getD i 0)] := by simp only [RL.len] at hi; simp [ints, List.getD, hi]
    simp only [RL.rows, RL.tys] at h; rw [e] at h
    match vs, h with
    | [v], h => exact ⟨leafI h.1, trivial⟩
  | rEntry l =>
    have e : (l.map Entry.enc).getD i [] = (l.getD i default).enc := by simp only [RL.len] at hi; simp [List.getD, hi]
    simp only [RL.rows, RL.tys] at h; rw [e] at h
    exact Entry.svs_of h
  | rRecord l =>
    have e : (l.map Record.enc).getD i [] = (l.getD i default).enc := by simp only [RL.len] at hi; simp [List.getD, hi]
    simp only [RL.rows, RL.tys] at h; rw [e] at h
    exact Record.svs_of h
  | rBytes l =>
    have e : (ints l).getD i [] = [.int (l.getD i 0)] := by simp only [RL.len] at hi; simp [ints, List.getD, hi]
    simp only [RL.rows, RL.tys] at h; rw [e] at h
    match vs, h with
    | [v], h => exact ⟨leafU h.1, trivial⟩
theorem RL.app_ok {a b r : RL} (h : a.app b = some r) : r.rows = a.rows ++ b.rows ∧ r.tys = a.tys ∧ b.tys = a.tys ∧ r.len = a.len + b.len := by
  cases a <;> cases b <;> simp only [RL.app, Option.some.injEq, reduceCtorEq] at h <;> subst h <;> simp [RL.rows, RL.tys, RL.len, ints, strs, bools]
theorem RL.ite_t {a b r : RL} (h : RL.ite true a b = some r) : r = a := by cases a <;> cases b <;> simp_all [RL.ite]
theorem RL.ite_f {a b r : RL} (h : RL.ite false a b = some r) : r = b := by cases a <;> cases b <;> simp_all [RL.ite]
theorem RL.take_ok (r : RL) (n : Nat) : (r.take n).rows = r.rows.take n ∧ (r.take n).tys = r.tys ∧ (r.take n).len = min n r.len := by cases r <;> simp [RL.take, RL.rows, RL.tys, RL.len, ints, strs, bools]
theorem RL.drop_ok (r : RL) (n : Nat) : (r.drop n).rows = r.rows.drop n ∧ (r.drop n).tys = r.tys ∧ (r.drop n).len = r.len - n := by cases r <;> simp [RL.drop, RL.rows, RL.tys, RL.len, ints, strs, bools]
theorem RL.emp_ok (r : RL) : r.emp.rows = [] ∧ r.emp.tys = r.tys ∧ r.emp.len = 0 := by cases r <;> simp [RL.emp, RL.rows, RL.tys, RL.len, ints, strs, bools]
theorem rdOneX {E : Env} {w : World} {m : List Nat} {s : SV} {t : Ty} {d : D} (hs : ∀ v, DenV E w s v → Rd w (E.set m) t v d) {vs : List Value} (h : DenL E w [s] vs) : RdL w (E.set m) [t] vs [d] := by
  match vs, h with
  | [v], h => exact ⟨hs v h.1, trivial⟩
theorem rdOne {E : Env} {w : World} {m : List Nat} {n : Int} {vs : List Value} (h : DenL E w [.int .i64 n] vs) : RdL w (E.set m) [.int .i64] vs [.int n] := by
  match vs, h with
  | [v], h => exact ⟨rdI h.1, trivial⟩
theorem RL.snoc_ok {r r2 : RL} {cs : List SV} {m : List Nat} (h : r.snoc cs = some (r2, m)) : r2.tys = r.tys ∧ r2.len = r.len + 1 ∧ ∃ ds, r2.rows = r.rows ++ [ds] ∧ ∀ (E : Env) (w : World) (vs : List Value), DenL E w cs vs → RdL w (E.set m) r.tys vs ds := by
  cases r with
  | rInts l =>
    match cs, h with
    | [.int .i64 n], h =>
      simp only [RL.snoc, Option.some.injEq, Prod.mk.injEq] at h
      obtain ⟨rfl, rfl⟩ := h
      exact ⟨rfl, by simp [RL.len], [.int n], by simp [RL.rows, ints], fun E w vs hd => rdOneX (fun v hv => rdI hv) hd⟩
  | rEntry l =>
    simp only [RL.snoc] at h
    split at h
    case h_2 => simp at h
    rename_i x m2 e
    simp only [Option.some.injEq, Prod.mk.injEq] at h
    obtain ⟨rfl, rfl⟩ := h
    exact ⟨rfl, by simp [RL.len], x.enc, by simp [RL.rows], fun E w vs hd => Entry.svs_rd (Entry.of_ok e hd)⟩
  | rRecord l =>
    simp only [RL.snoc] at h
    split at h
    case h_2 => simp at h
    rename_i x m2 e
    simp only [Option.some.injEq, Prod.mk.injEq] at h
    obtain ⟨rfl, rfl⟩ := h
    exact ⟨rfl, by simp [RL.len], x.enc, by simp [RL.rows], fun E w vs hd => Record.svs_rd (Record.of_ok e hd)⟩
  | rBytes l =>
    match cs, h with
    | [.int .u8 n], h =>
      simp only [RL.snoc, Option.some.injEq, Prod.mk.injEq] at h
      obtain ⟨rfl, rfl⟩ := h
      exact ⟨rfl, by simp [RL.len], [.int n], by simp [RL.rows, ints], fun E w vs hd => rdOneX (fun v hv => rdU hv) hd⟩
theorem RL.put_ok {r r2 : RL} (i : Nat) {cs : List SV} {m : List Nat} (h : r.put i cs = some (r2, m)) : r2.tys = r.tys ∧ r2.len = r.len ∧ ∃ ds, r2.rows = r.rows.set i ds ∧ ∀ (E : Env) (w : World) (vs : List Value), DenL E w cs vs → RdL w (E.set m) r.tys vs ds := by
  cases r with
  | rInts l =>
    match cs, h with
    | [.int .i64 n], h =>
      simp only [RL.put, Option.some.injEq, Prod.mk.injEq] at h
      obtain ⟨rfl, rfl⟩ := h
      exact ⟨rfl, by simp [RL.len], [.int n], by simp [RL.rows, ints, List.map_set], fun E w vs hd => rdOneX (fun v hv => rdI hv) hd⟩
  | rEntry l =>
    simp only [RL.put] at h
    split at h
    case h_2 => simp at h
    rename_i x m2 e
    simp only [Option.some.injEq, Prod.mk.injEq] at h
    obtain ⟨rfl, rfl⟩ := h
    exact ⟨rfl, by simp [RL.len], x.enc, by simp [RL.rows, List.map_set], fun E w vs hd => Entry.svs_rd (Entry.of_ok e hd)⟩
  | rRecord l =>
    simp only [RL.put] at h
    split at h
    case h_2 => simp at h
    rename_i x m2 e
    simp only [Option.some.injEq, Prod.mk.injEq] at h
    obtain ⟨rfl, rfl⟩ := h
    exact ⟨rfl, by simp [RL.len], x.enc, by simp [RL.rows, List.map_set], fun E w vs hd => Record.svs_rd (Record.of_ok e hd)⟩
  | rBytes l =>
    match cs, h with
    | [.int .u8 n], h =>
      simp only [RL.put, Option.some.injEq, Prod.mk.injEq] at h
      obtain ⟨rfl, rfl⟩ := h
      exact ⟨rfl, by simp [RL.len], [.int n], by simp [RL.rows, ints, List.map_set], fun E w vs hd => rdOneX (fun v hv => rdU hv) hd⟩
def RL.eqP : RL → RL → Option Prop
  | .rInts l, .rInts m => some (l = m)
  | .rEntry l, .rEntry m => some (l = m)
  | .rRecord l, .rRecord m => some (l = m)
  | .rBytes l, .rBytes m => some (l = m)
  | _, _ => none
theorem RL.eqP_ok {a b : RL} {p : Prop} (h : RL.eqP a b = some p) (hp : p) : a = b := by cases a <;> cases b <;> simp only [RL.eqP, Option.some.injEq, reduceCtorEq] at h <;> subst h <;> rw [hp]
def RL.nilP : RL → Prop
  | .rInts l => l = []
  | .rEntry l => l = []
  | .rRecord l => l = []
  | .rBytes l => l = []
theorem RL.nilP_ok {a : RL} (h : a.nilP) : a.rows = [] := by cases a <;> simp only [RL.nilP] at h <;> subst h <;> rfl
/-- the empty row of a type of elements -/
def RL.ofT (T : TypeId) : Option RL :=
  if T = 3 then some (.rInts []) else
  if T = 54 then some (.rEntry []) else
  if T = 57 then some (.rRecord []) else
  if T = 5 then some (.rBytes []) else
  none
theorem RL.ofT_ok {T : TypeId} {r : RL} (h : RL.ofT T = some r) : r.rows = [] := by
  unfold RL.ofT at h
  repeat
    split at h
    · simp only [Option.some.injEq] at h; subst h; rfl
  simp at h
/-- what is known of what is read -/
def IntsOk (l : List Int) : Prop := l.length ≤ 17592186044416 ∧ ∀ x, x ∈ l → I64 x
theorem ints_ok {w : World} {S : Nat → Prop} {a : Option Addr} {n c : Nat} {l : List Int} (h : SlI w S a n c l) : IntsOk l := by
  have h1 := h.len
  have h2 := h.bd
  rw [ints_len] at h1
  exact ⟨by omega, h.i64⟩
theorem rows_rd {w : World} {S : Nat → Prop} {ts : List Ty} {α : Type} {enc : α → List D} {v : Value} {l : List α} (h : Rd w S (.sl ts) v (.sl (l.map enc))) : ∀ x, x ∈ l → ∃ vs, RdL w S ts vs (enc x) := by
  intro x hx
  obtain ⟨i, hi, rfl⟩ := List.mem_iff_getElem.1 hx
  obtain ⟨a, c, rfl, hs⟩ := h.sl'
  rw [List.length_map] at hs
  obtain ⟨b, off, _, _, _, vals, _, hr⟩ := hs.rowAt (by omega)
  obtain ⟨h1, h2⟩ := hr i hi
  have e : (l.map enc).getD i [] = enc l[i] := by simp [List.getD, hi]
  rw [e] at h1 h2
  exact ⟨_, RdL.of_at (vals i) h1 h2⟩
theorem rows_ok {w : World} {S : Nat → Prop} {ts : List Ty} {α : Type} {enc : α → List D} {a : Option Addr} {n c : Nat} {l : List α} {p : α → Prop} (h : Sl w S ts a n c (l.map enc)) (hp : ∀ x vs, RdL w S ts vs (enc x) → p x) : l.length ≤ 17592186044416 ∧ ∀ x, x ∈ l → p x := by
  have h1 := h.len
  have h2 := h.bd
  rw [List.length_map] at h1
  exact ⟨by omega, fun x hx => by obtain ⟨vs, hv⟩ := rows_rd h x hx; exact hp x vs hv⟩
structure Config.Ok (x : Config) : Prop where
  voters : IntsOk x.voters
  learners : IntsOk x.learners
theorem Config.ok_of {w : World} {S : Nat → Prop} {vs : List Value} {x : Config} (h : RdL w S Config.ty vs x.enc) : x.Ok := by
  obtain ⟨a0, c0, a1, c1, _, h0, h1⟩ := Config.opens h
  exact ⟨ints_ok h0, ints_ok h1⟩
structure Entry.Ok (x : Entry) : Prop where
  index : I64 x.index
  term : I64 x.term
  kind : I64 x.kind
  config_voters : IntsOk x.config.voters
  config_learners : IntsOk x.config.learners
  data : x.data.size ≤ 140737488355328
theorem Entry.ok_of {w : World} {S : Nat → Prop} {vs : List Value} {x : Entry} (h : RdL w S Entry.ty vs x.enc) : x.Ok := by
  obtain ⟨a3, c3, a4, c4, _, h0, h1, h2, h3, h4, h5⟩ := Entry.opens h
  exact ⟨h0, h1, h2, ints_ok h3, ints_ok h4, h5⟩
structure Snap.Ok (x : Snap) : Prop where
  index : I64 x.index
  term : I64 x.term
  config_voters : IntsOk x.config.voters
  config_learners : IntsOk x.config.learners
  data : x.data.size ≤ 140737488355328
theorem Snap.ok_of {w : World} {S : Nat → Prop} {vs : List Value} {x : Snap} (h : RdL w S Snap.ty vs x.enc) : x.Ok := by
  obtain ⟨a2, c2, a3, c3, _, h0, h1, h2, h3, h4⟩ := Snap.opens h
  exact ⟨h0, h1, ints_ok h2, ints_ok h3, h4⟩
structure Kept.Ok (x : Kept) : Prop where
  term : I64 x.term
  vote : I64 x.vote
  snap_index : I64 x.snap.index
  snap_term : I64 x.snap.term
  snap_config_voters : IntsOk x.snap.config.voters
  snap_config_learners : IntsOk x.snap.config.learners
  snap_data : x.snap.data.size ≤ 140737488355328
  entries : (x.entries.length ≤ 17592186044416 ∧ ∀ y, y ∈ x.entries → Entry.Ok y)
theorem Kept.ok_of {w : World} {S : Nat → Prop} {vs : List Value} {x : Kept} (h : RdL w S Kept.ty vs x.enc) : x.Ok := by
  obtain ⟨a4, c4, a5, c5, a7, c7, _, h0, h1, h2, h3, h4, h5, h6, h7⟩ := Kept.opens h
  exact ⟨h0, h1, h2, h3, ints_ok h4, ints_ok h5, h6, rows_ok h7 (fun _ _ hr => Entry.ok_of hr)⟩
structure Record.Ok (x : Record) : Prop where
  kind : I64 x.kind
  term : I64 x.term
  vote : I64 x.vote
  entry_index : I64 x.entry.index
  entry_term : I64 x.entry.term
  entry_kind : I64 x.entry.kind
  entry_config_voters : IntsOk x.entry.config.voters
  entry_config_learners : IntsOk x.entry.config.learners
  entry_data : x.entry.data.size ≤ 140737488355328
  index : I64 x.index
  snap_index : I64 x.snap.index
  snap_term : I64 x.snap.term
  snap_config_voters : IntsOk x.snap.config.voters
  snap_config_learners : IntsOk x.snap.config.learners
  snap_data : x.snap.data.size ≤ 140737488355328
theorem Record.ok_of {w : World} {S : Nat → Prop} {vs : List Value} {x : Record} (h : RdL w S Record.ty vs x.enc) : x.Ok := by
  obtain ⟨a6, c6, a7, c7, a12, c12, a13, c13, _, h0, h1, h2, h3, h4, h5, h6, h7, h8, h9, h10, h11, h12, h13, h14⟩ := Record.opens h
  exact ⟨h0, h1, h2, h3, h4, h5, ints_ok h6, ints_ok h7, h8, h9, h10, h11, ints_ok h12, ints_ok h13, h14⟩
/-- the same shape, in slices -/
inductive D.Sx : D → D → Prop
  | int (a b : Int) : D.Sx (.int a) (.int b)
  | bool (a b : Bool) : D.Sx (.bool a) (.bool b)
  | str (a b : ByteArray) : D.Sx (.str a) (.str b)
  | sl {r q : List (List D)} : q.length = r.length → (∀ i, i < r.length → (q.getD i []).length = (r.getD i []).length) → (∀ i j, i < r.length → j < (r.getD i []).length → D.Sx ((r.getD i []).getD j default) ((q.getD i []).getD j default)) → D.Sx (.sl r) (.sl q)
def D.Sh (d e : D) : Prop := D.Sx d e ∧ ((∀ r, d ≠ .sl r) → e = d)
theorem D.Sx.int_inv {a : Int} {e : D} (h : D.Sx (.int a) e) : ∃ b, e = .int b := by cases h; exact ⟨_, rfl⟩
theorem D.Sx.bool_inv {a : Bool} {e : D} (h : D.Sx (.bool a) e) : ∃ b, e = .bool b := by cases h; exact ⟨_, rfl⟩
theorem D.Sx.str_inv {a : ByteArray} {e : D} (h : D.Sx (.str a) e) : ∃ b, e = .str b := by cases h; exact ⟨_, rfl⟩
theorem pick_list {α : Type} (d : α) (n : Nat) {p : Nat → α → Prop} (h : ∀ i, i < n → ∃ y, p i y) : ∃ m : List α, m.length = n ∧ ∀ i, i < n → p i (m.getD i d) := by
  refine ⟨(List.range n).map fun i => if h' : i < n then (h i h').choose else d, by simp, fun i hi => ?_⟩
  have e : ((List.range n).map fun i => if h' : i < n then (h i h').choose else d).getD i d = (h i hi).choose := by simp [List.getD, hi]
  rw [e]; exact (h i hi).choose_spec
theorem D.Sx.rows_inv {α : Type} [Inhabited α] {enc : α → List D} {l : List α} {e : D} {p : α → α → Prop} (h : D.Sx (.sl (l.map enc)) e) (hp : ∀ x es, es.length = (enc x).length → (∀ j, j < (enc x).length → D.Sx ((enc x).getD j default) (es.getD j default)) → ∃ y, es = enc y ∧ p x y) :
    ∃ m : List α, e = .sl (m.map enc) ∧ m.length = l.length ∧ ∀ i, i < l.length → p (l.getD i default) (m.getD i default) := by
  cases h with
  | sl h1 h2 h3 =>
    rename_i q
    rw [List.length_map] at h1 h2 h3
    have he : ∀ i, i < l.length → (l.map enc).getD i [] = enc (l.getD i default) := fun i hi => by simp [List.getD, hi]
    obtain ⟨m, hm, hpm⟩ := pick_list (default : α) l.length (p := fun i y => q.getD i [] = enc y ∧ p (l.getD i default) y) (fun i hi => by
      refine hp _ _ ?_ ?_
      · rw [h2 i hi, he i hi]
      · intro j hj; have := h3 i j hi (by rw [he i hi]; exact hj); rwa [he i hi] at this)
    refine ⟨m, ?_, hm, fun i hi => (hpm i hi).2⟩
    congr 1
    apply List.ext_getElem (by simp [h1, hm])
    intro i g1 g2
    have hi : i < l.length := by omega
    have := (hpm i hi).1
    have e1 : q.getD i [] = q[i] := by simp [List.getD, g1]
    have e2 : m.getD i default = m[i]'(by omega) := by simp [List.getD, show i < m.length by omega]
    rw [e1, e2] at this
    simp [this]
theorem D.Sx.ints_inv {l : List Int} {e : D} (h : D.Sx (.sl (ints l)) e) : ∃ m : List Int, e = .sl (ints m) ∧ m.length = l.length := by
  obtain ⟨m, h1, h2, _⟩ := D.Sx.rows_inv (enc := fun x : Int => [D.int x]) (p := fun _ _ => True) h (fun x es h1 h2 => by
    match es, h1 with
    | [v], _ =>
      obtain ⟨b, rfl⟩ := D.Sx.int_inv (h2 0 (by simp))
      exact ⟨b, rfl, trivial⟩)
  exact ⟨m, h1, h2⟩
def LSh (ds es : List D) : Prop := es.length = ds.length ∧ ∀ j, j < ds.length → D.Sh (ds.getD j default) (es.getD j default)
def Config.LikeX (x y : Config) : Prop := y.voters.length = x.voters.length ∧ y.learners.length = x.learners.length ∧ True
structure Config.Like (x y : Config) : Prop where
  voters : y.voters.length = x.voters.length
  learners : y.learners.length = x.learners.length
theorem Config.likeX_of {x : Config} {es : List D} (hl : es.length = x.enc.length) (h : ∀ j, j < x.enc.length → D.Sx (x.enc.getD j default) (es.getD j default)) : ∃ y : Config, es = y.enc ∧ Config.LikeX x y := by
  obtain ⟨v0, v1, rfl⟩ := list2 (show es.length = 2 from hl)
  have h0 : D.Sx (.sl (ints x.voters)) v0 := h 0 (by rw [Config.enc_len]; decide)
  obtain ⟨b0, rfl, g0⟩ := h0.ints_inv
  have h1 : D.Sx (.sl (ints x.learners)) v1 := h 1 (by rw [Config.enc_len]; decide)
  obtain ⟨b1, rfl, g1⟩ := h1.ints_inv
  exact ⟨⟨b0, b1⟩, rfl, g0, g1, trivial⟩
theorem Config.like_of {x : Config} {es : List D} (hL : LSh x.enc es) : ∃ y : Config, es = y.enc ∧ Config.Like x y := by
  obtain ⟨hl, h⟩ := hL
  obtain ⟨v0, v1, rfl⟩ := list2 (show es.length = 2 from hl)
  have h0 : D.Sh (.sl (ints x.voters)) v0 := h 0 (by rw [Config.enc_len]; decide)
  obtain ⟨b0, rfl, g0⟩ := h0.1.ints_inv
  have h1 : D.Sh (.sl (ints x.learners)) v1 := h 1 (by rw [Config.enc_len]; decide)
  obtain ⟨b1, rfl, g1⟩ := h1.1.ints_inv
  exact ⟨⟨b0, b1⟩, rfl, ⟨g0, g1⟩⟩
def Entry.LikeX (x y : Entry) : Prop := y.config.voters.length = x.config.voters.length ∧ y.config.learners.length = x.config.learners.length ∧ True
structure Entry.Like (x y : Entry) : Prop where
  index : y.index = x.index
  term : y.term = x.term
  kind : y.kind = x.kind
  config_voters : y.config.voters.length = x.config.voters.length
  config_learners : y.config.learners.length = x.config.learners.length
  data : y.data = x.data
theorem Entry.likeX_of {x : Entry} {es : List D} (hl : es.length = x.enc.length) (h : ∀ j, j < x.enc.length → D.Sx (x.enc.getD j default) (es.getD j default)) : ∃ y : Entry, es = y.enc ∧ Entry.LikeX x y := by
  obtain ⟨v0, v1, v2, v3, v4, v5, rfl⟩ := list6 (show es.length = 6 from hl)
  have h0 : D.Sx (.int x.index) v0 := h 0 (by rw [Entry.enc_len]; decide)
  obtain ⟨b0, rfl⟩ := h0.int_inv
  have h1 : D.Sx (.int x.term) v1 := h 1 (by rw [Entry.enc_len]; decide)
  obtain ⟨b1, rfl⟩ := h1.int_inv
  have h2 : D.Sx (.int x.kind) v2 := h 2 (by rw [Entry.enc_len]; decide)
  obtain ⟨b2, rfl⟩ := h2.int_inv
  have h3 : D.Sx (.sl (ints x.config.voters)) v3 := h 3 (by rw [Entry.enc_len]; decide)
  obtain ⟨b3, rfl, g3⟩ := h3.ints_inv
  have h4 : D.Sx (.sl (ints x.config.learners)) v4 := h 4 (by rw [Entry.enc_len]; decide)
  obtain ⟨b4, rfl, g4⟩ := h4.ints_inv
  have h5 : D.Sx (.str x.data) v5 := h 5 (by rw [Entry.enc_len]; decide)
  obtain ⟨b5, rfl⟩ := h5.str_inv
  exact ⟨⟨b0, b1, b2, ⟨b3, b4⟩, b5⟩, rfl, g3, g4, trivial⟩
theorem Entry.like_of {x : Entry} {es : List D} (hL : LSh x.enc es) : ∃ y : Entry, es = y.enc ∧ Entry.Like x y := by
  obtain ⟨hl, h⟩ := hL
  obtain ⟨v0, v1, v2, v3, v4, v5, rfl⟩ := list6 (show es.length = 6 from hl)
  have h0 : D.Sh (.int x.index) v0 := h 0 (by rw [Entry.enc_len]; decide)
  obtain rfl := h0.2 (fun r e => by cases e)
  have h1 : D.Sh (.int x.term) v1 := h 1 (by rw [Entry.enc_len]; decide)
  obtain rfl := h1.2 (fun r e => by cases e)
  have h2 : D.Sh (.int x.kind) v2 := h 2 (by rw [Entry.enc_len]; decide)
  obtain rfl := h2.2 (fun r e => by cases e)
  have h3 : D.Sh (.sl (ints x.config.voters)) v3 := h 3 (by rw [Entry.enc_len]; decide)
  obtain ⟨b3, rfl, g3⟩ := h3.1.ints_inv
  have h4 : D.Sh (.sl (ints x.config.learners)) v4 := h 4 (by rw [Entry.enc_len]; decide)
  obtain ⟨b4, rfl, g4⟩ := h4.1.ints_inv
  have h5 : D.Sh (.str x.data) v5 := h 5 (by rw [Entry.enc_len]; decide)
  obtain rfl := h5.2 (fun r e => by cases e)
  exact ⟨⟨x.index, x.term, x.kind, ⟨b3, b4⟩, x.data⟩, rfl, ⟨rfl, rfl, rfl, g3, g4, rfl⟩⟩
def Snap.LikeX (x y : Snap) : Prop := y.config.voters.length = x.config.voters.length ∧ y.config.learners.length = x.config.learners.length ∧ True
structure Snap.Like (x y : Snap) : Prop where
  index : y.index = x.index
  term : y.term = x.term
  config_voters : y.config.voters.length = x.config.voters.length
  config_learners : y.config.learners.length = x.config.learners.length
  data : y.data = x.data
theorem Snap.likeX_of {x : Snap} {es : List D} (hl : es.length = x.enc.length) (h : ∀ j, j < x.enc.length → D.Sx (x.enc.getD j default) (es.getD j default)) : ∃ y : Snap, es = y.enc ∧ Snap.LikeX x y := by
  obtain ⟨v0, v1, v2, v3, v4, rfl⟩ := list5 (show es.length = 5 from hl)
  have h0 : D.Sx (.int x.index) v0 := h 0 (by rw [Snap.enc_len]; decide)
  obtain ⟨b0, rfl⟩ := h0.int_inv
  have h1 : D.Sx (.int x.term) v1 := h 1 (by rw [Snap.enc_len]; decide)
  obtain ⟨b1, rfl⟩ := h1.int_inv
  have h2 : D.Sx (.sl (ints x.config.voters)) v2 := h 2 (by rw [Snap.enc_len]; decide)
  obtain ⟨b2, rfl, g2⟩ := h2.ints_inv
  have h3 : D.Sx (.sl (ints x.config.learners)) v3 := h 3 (by rw [Snap.enc_len]; decide)
  obtain ⟨b3, rfl, g3⟩ := h3.ints_inv
  have h4 : D.Sx (.str x.data) v4 := h 4 (by rw [Snap.enc_len]; decide)
  obtain ⟨b4, rfl⟩ := h4.str_inv
  exact ⟨⟨b0, b1, ⟨b2, b3⟩, b4⟩, rfl, g2, g3, trivial⟩
theorem Snap.like_of {x : Snap} {es : List D} (hL : LSh x.enc es) : ∃ y : Snap, es = y.enc ∧ Snap.Like x y := by
  obtain ⟨hl, h⟩ := hL
  obtain ⟨v0, v1, v2, v3, v4, rfl⟩ := list5 (show es.length = 5 from hl)
  have h0 : D.Sh (.int x.index) v0 := h 0 (by rw [Snap.enc_len]; decide)
  obtain rfl := h0.2 (fun r e => by cases e)
  have h1 : D.Sh (.int x.term) v1 := h 1 (by rw [Snap.enc_len]; decide)
  obtain rfl := h1.2 (fun r e => by cases e)
  have h2 : D.Sh (.sl (ints x.config.voters)) v2 := h 2 (by rw [Snap.enc_len]; decide)
  obtain ⟨b2, rfl, g2⟩ := h2.1.ints_inv
  have h3 : D.Sh (.sl (ints x.config.learners)) v3 := h 3 (by rw [Snap.enc_len]; decide)
  obtain ⟨b3, rfl, g3⟩ := h3.1.ints_inv
  have h4 : D.Sh (.str x.data) v4 := h 4 (by rw [Snap.enc_len]; decide)
  obtain rfl := h4.2 (fun r e => by cases e)
  exact ⟨⟨x.index, x.term, ⟨b2, b3⟩, x.data⟩, rfl, ⟨rfl, rfl, g2, g3, rfl⟩⟩
def Kept.LikeX (x y : Kept) : Prop := y.snap.config.voters.length = x.snap.config.voters.length ∧ y.snap.config.learners.length = x.snap.config.learners.length ∧ (y.entries.length = x.entries.length ∧ ∀ i, i < x.entries.length → Entry.LikeX (x.entries.getD i default) (y.entries.getD i default)) ∧ True
structure Kept.Like (x y : Kept) : Prop where
  term : y.term = x.term
  vote : y.vote = x.vote
  snap_index : y.snap.index = x.snap.index
  snap_term : y.snap.term = x.snap.term
  snap_config_voters : y.snap.config.voters.length = x.snap.config.voters.length
  snap_config_learners : y.snap.config.learners.length = x.snap.config.learners.length
  snap_data : y.snap.data = x.snap.data
  entries : y.entries.length = x.entries.length ∧ ∀ i, i < x.entries.length → Entry.LikeX (x.entries.getD i default) (y.entries.getD i default)
theorem Kept.likeX_of {x : Kept} {es : List D} (hl : es.length = x.enc.length) (h : ∀ j, j < x.enc.length → D.Sx (x.enc.getD j default) (es.getD j default)) : ∃ y : Kept, es = y.enc ∧ Kept.LikeX x y := by
  obtain ⟨v0, v1, v2, v3, v4, v5, v6, v7, rfl⟩ := list8 (show es.length = 8 from hl)
  have h0 : D.Sx (.int x.term) v0 := h 0 (by rw [Kept.enc_len]; decide)
  obtain ⟨b0, rfl⟩ := h0.int_inv
  have h1 : D.Sx (.int x.vote) v1 := h 1 (by rw [Kept.enc_len]; decide)
  obtain ⟨b1, rfl⟩ := h1.int_inv
  have h2 : D.Sx (.int x.snap.index) v2 := h 2 (by rw [Kept.enc_len]; decide)
  obtain ⟨b2, rfl⟩ := h2.int_inv
  have h3 : D.Sx (.int x.snap.term) v3 := h 3 (by rw [Kept.enc_len]; decide)
  obtain ⟨b3, rfl⟩ := h3.int_inv
  have h4 : D.Sx (.sl (ints x.snap.config.voters)) v4 := h 4 (by rw [Kept.enc_len]; decide)
  obtain ⟨b4, rfl, g4⟩ := h4.ints_inv
  have h5 : D.Sx (.sl (ints x.snap.config.learners)) v5 := h 5 (by rw [Kept.enc_len]; decide)
  obtain ⟨b5, rfl, g5⟩ := h5.ints_inv
  have h6 : D.Sx (.str x.snap.data) v6 := h 6 (by rw [Kept.enc_len]; decide)
  obtain ⟨b6, rfl⟩ := h6.str_inv
  have h7 : D.Sx (.sl (x.entries.map Entry.enc)) v7 := h 7 (by rw [Kept.enc_len]; decide)
  obtain ⟨b7, rfl, g7⟩ := h7.rows_inv (fun x es h1 h2 => Entry.likeX_of h1 h2)
  exact ⟨⟨b0, b1, ⟨b2, b3, ⟨b4, b5⟩, b6⟩, b7⟩, rfl, g4, g5, g7, trivial⟩
theorem Kept.like_of {x : Kept} {es : List D} (hL : LSh x.enc es) : ∃ y : Kept, es = y.enc ∧ Kept.Like x y := by
  obtain ⟨hl, h⟩ := hL
  obtain ⟨v0, v1, v2, v3, v4, v5, v6, v7, rfl⟩ := list8 (show es.length = 8 from hl)
  have h0 : D.Sh (.int x.term) v0 := h 0 (by rw [Kept.enc_len]; decide)
  obtain rfl := h0.2 (fun r e => by cases e)
  have h1 : D.Sh (.int x.vote) v1 := h 1 (by rw [Kept.enc_len]; decide)
  obtain rfl := h1.2 (fun r e => by cases e)
  have h2 : D.Sh (.int x.snap.index) v2 := h 2 (by rw [Kept.enc_len]; decide)
  obtain rfl := h2.2 (fun r e => by cases e)
  have h3 : D.Sh (.int x.snap.term) v3 := h 3 (by rw [Kept.enc_len]; decide)
  obtain rfl := h3.2 (fun r e => by cases e)
  have h4 : D.Sh (.sl (ints x.snap.config.voters)) v4 := h 4 (by rw [Kept.enc_len]; decide)
  obtain ⟨b4, rfl, g4⟩ := h4.1.ints_inv
  have h5 : D.Sh (.sl (ints x.snap.config.learners)) v5 := h 5 (by rw [Kept.enc_len]; decide)
  obtain ⟨b5, rfl, g5⟩ := h5.1.ints_inv
  have h6 : D.Sh (.str x.snap.data) v6 := h 6 (by rw [Kept.enc_len]; decide)
  obtain rfl := h6.2 (fun r e => by cases e)
  have h7 : D.Sh (.sl (x.entries.map Entry.enc)) v7 := h 7 (by rw [Kept.enc_len]; decide)
  obtain ⟨b7, rfl, g7⟩ := h7.1.rows_inv (fun x es h1 h2 => Entry.likeX_of h1 h2)
  exact ⟨⟨x.term, x.vote, ⟨x.snap.index, x.snap.term, ⟨b4, b5⟩, x.snap.data⟩, b7⟩, rfl, ⟨rfl, rfl, rfl, rfl, g4, g5, rfl, g7⟩⟩
def Record.LikeX (x y : Record) : Prop := y.entry.config.voters.length = x.entry.config.voters.length ∧ y.entry.config.learners.length = x.entry.config.learners.length ∧ y.snap.config.voters.length = x.snap.config.voters.length ∧ y.snap.config.learners.length = x.snap.config.learners.length ∧ True
structure Record.Like (x y : Record) : Prop where
  kind : y.kind = x.kind
  term : y.term = x.term
  vote : y.vote = x.vote
  entry_index : y.entry.index = x.entry.index
  entry_term : y.entry.term = x.entry.term
  entry_kind : y.entry.kind = x.entry.kind
  entry_config_voters : y.entry.config.voters.length = x.entry.config.voters.length
  entry_config_learners : y.entry.config.learners.length = x.entry.config.learners.length
  entry_data : y.entry.data = x.entry.data
  index : y.index = x.index
  snap_index : y.snap.index = x.snap.index
  snap_term : y.snap.term = x.snap.term
  snap_config_voters : y.snap.config.voters.length = x.snap.config.voters.length
  snap_config_learners : y.snap.config.learners.length = x.snap.config.learners.length
  snap_data : y.snap.data = x.snap.data
theorem Record.likeX_of {x : Record} {es : List D} (hl : es.length = x.enc.length) (h : ∀ j, j < x.enc.length → D.Sx (x.enc.getD j default) (es.getD j default)) : ∃ y : Record, es = y.enc ∧ Record.LikeX x y := by
  obtain ⟨v0, v1, v2, v3, v4, v5, v6, v7, v8, v9, v10, v11, v12, v13, v14, rfl⟩ := list15 (show es.length = 15 from hl)
  have h0 : D.Sx (.int x.kind) v0 := h 0 (by rw [Record.enc_len]; decide)
  obtain ⟨b0, rfl⟩ := h0.int_inv
  have h1 : D.Sx (.int x.term) v1 := h 1 (by rw [Record.enc_len]; decide)
  obtain ⟨b1, rfl⟩ := h1.int_inv
  have h2 : D.Sx (.int x.vote) v2 := h 2 (by rw [Record.enc_len]; decide)
  obtain ⟨b2, rfl⟩ := h2.int_inv
  have h3 : D.Sx (.int x.entry.index) v3 := h 3 (by rw [Record.enc_len]; decide)
  obtain ⟨b3, rfl⟩ := h3.int_inv
  have h4 : D.Sx (.int x.entry.term) v4 := h 4 (by rw [Record.enc_len]; decide)
  obtain ⟨b4, rfl⟩ := h4.int_inv
  have h5 : D.Sx (.int x.entry.kind) v5 := h 5 (by rw [Record.enc_len]; decide)
  obtain ⟨b5, rfl⟩ := h5.int_inv
  have h6 : D.Sx (.sl (ints x.entry.config.voters)) v6 := h 6 (by rw [Record.enc_len]; decide)
  obtain ⟨b6, rfl, g6⟩ := h6.ints_inv
  have h7 : D.Sx (.sl (ints x.entry.config.learners)) v7 := h 7 (by rw [Record.enc_len]; decide)
  obtain ⟨b7, rfl, g7⟩ := h7.ints_inv
  have h8 : D.Sx (.str x.entry.data) v8 := h 8 (by rw [Record.enc_len]; decide)
  obtain ⟨b8, rfl⟩ := h8.str_inv
  have h9 : D.Sx (.int x.index) v9 := h 9 (by rw [Record.enc_len]; decide)
  obtain ⟨b9, rfl⟩ := h9.int_inv
  have h10 : D.Sx (.int x.snap.index) v10 := h 10 (by rw [Record.enc_len]; decide)
  obtain ⟨b10, rfl⟩ := h10.int_inv
  have h11 : D.Sx (.int x.snap.term) v11 := h 11 (by rw [Record.enc_len]; decide)
  obtain ⟨b11, rfl⟩ := h11.int_inv
  have h12 : D.Sx (.sl (ints x.snap.config.voters)) v12 := h 12 (by rw [Record.enc_len]; decide)
  obtain ⟨b12, rfl, g12⟩ := h12.ints_inv
  have h13 : D.Sx (.sl (ints x.snap.config.learners)) v13 := h 13 (by rw [Record.enc_len]; decide)
  obtain ⟨b13, rfl, g13⟩ := h13.ints_inv
  have h14 : D.Sx (.str x.snap.data) v14 := h 14 (by rw [Record.enc_len]; decide)
  obtain ⟨b14, rfl⟩ := h14.str_inv
  exact ⟨⟨b0, b1, b2, ⟨b3, b4, b5, ⟨b6, b7⟩, b8⟩, b9, ⟨b10, b11, ⟨b12, b13⟩, b14⟩⟩, rfl, g6, g7, g12, g13, trivial⟩
theorem Record.like_of {x : Record} {es : List D} (hL : LSh x.enc es) : ∃ y : Record, es = y.enc ∧ Record.Like x y := by
  obtain ⟨hl, h⟩ := hL
  obtain ⟨v0, v1, v2, v3, v4, v5, v6, v7, v8, v9, v10, v11, v12, v13, v14, rfl⟩ := list15 (show es.length = 15 from hl)
  have h0 : D.Sh (.int x.kind) v0 := h 0 (by rw [Record.enc_len]; decide)
  obtain rfl := h0.2 (fun r e => by cases e)
  have h1 : D.Sh (.int x.term) v1 := h 1 (by rw [Record.enc_len]; decide)
  obtain rfl := h1.2 (fun r e => by cases e)
  have h2 : D.Sh (.int x.vote) v2 := h 2 (by rw [Record.enc_len]; decide)
  obtain rfl := h2.2 (fun r e => by cases e)
  have h3 : D.Sh (.int x.entry.index) v3 := h 3 (by rw [Record.enc_len]; decide)
  obtain rfl := h3.2 (fun r e => by cases e)
  have h4 : D.Sh (.int x.entry.term) v4 := h 4 (by rw [Record.enc_len]; decide)
  obtain rfl := h4.2 (fun r e => by cases e)
  have h5 : D.Sh (.int x.entry.kind) v5 := h 5 (by rw [Record.enc_len]; decide)
  obtain rfl := h5.2 (fun r e => by cases e)
  have h6 : D.Sh (.sl (ints x.entry.config.voters)) v6 := h 6 (by rw [Record.enc_len]; decide)
  obtain ⟨b6, rfl, g6⟩ := h6.1.ints_inv
  have h7 : D.Sh (.sl (ints x.entry.config.learners)) v7 := h 7 (by rw [Record.enc_len]; decide)
  obtain ⟨b7, rfl, g7⟩ := h7.1.ints_inv
  have h8 : D.Sh (.str x.entry.data) v8 := h 8 (by rw [Record.enc_len]; decide)
  obtain rfl := h8.2 (fun r e => by cases e)
  have h9 : D.Sh (.int x.index) v9 := h 9 (by rw [Record.enc_len]; decide)
  obtain rfl := h9.2 (fun r e => by cases e)
  have h10 : D.Sh (.int x.snap.index) v10 := h 10 (by rw [Record.enc_len]; decide)
  obtain rfl := h10.2 (fun r e => by cases e)
  have h11 : D.Sh (.int x.snap.term) v11 := h 11 (by rw [Record.enc_len]; decide)
  obtain rfl := h11.2 (fun r e => by cases e)
  have h12 : D.Sh (.sl (ints x.snap.config.voters)) v12 := h 12 (by rw [Record.enc_len]; decide)
  obtain ⟨b12, rfl, g12⟩ := h12.1.ints_inv
  have h13 : D.Sh (.sl (ints x.snap.config.learners)) v13 := h 13 (by rw [Record.enc_len]; decide)
  obtain ⟨b13, rfl, g13⟩ := h13.1.ints_inv
  have h14 : D.Sh (.str x.snap.data) v14 := h 14 (by rw [Record.enc_len]; decide)
  obtain rfl := h14.2 (fun r e => by cases e)
  exact ⟨⟨x.kind, x.term, x.vote, ⟨x.entry.index, x.entry.term, x.entry.kind, ⟨b6, b7⟩, x.entry.data⟩, x.index, ⟨x.snap.index, x.snap.term, ⟨b12, b13⟩, x.snap.data⟩⟩, rfl, ⟨rfl, rfl, rfl, rfl, rfl, rfl, g6, g7, rfl, rfl, rfl, rfl, g12, g13, rfl⟩⟩
def RL.Like : RL → RL → Prop
  | .rInts l, .rInts m => m = l
  | .rEntry l, .rEntry m => m.length = l.length ∧ ∀ i, i < l.length → Entry.Like (l.getD i default) (m.getD i default)
  | .rRecord l, .rRecord m => m.length = l.length ∧ ∀ i, i < l.length → Record.Like (l.getD i default) (m.getD i default)
  | .rBytes l, .rBytes m => m = l
  | _, _ => False
theorem rows_like {α : Type} [Inhabited α] {enc : α → List D} {l : List α} {rows : List (List D)} {p : α → α → Prop} (hn : rows.length = (l.map enc).length) (h : ∀ i, i < (l.map enc).length → LSh ((l.map enc).getD i []) (rows.getD i [])) (hp : ∀ x es, LSh (enc x) es → ∃ y, es = enc y ∧ p x y) :
    ∃ m : List α, rows = m.map enc ∧ m.length = l.length ∧ ∀ i, i < l.length → p (l.getD i default) (m.getD i default) := by
  rw [List.length_map] at hn h
  have he : ∀ i, i < l.length → (l.map enc).getD i [] = enc (l.getD i default) := fun i hi => by simp [List.getD, hi]
  obtain ⟨m, hm, hpm⟩ := pick_list (default : α) l.length (p := fun i y => rows.getD i [] = enc y ∧ p (l.getD i default) y) (fun i hi => hp _ _ (by rw [← he i hi]; exact h i hi))
  refine ⟨m, ?_, hm, fun i hi => (hpm i hi).2⟩
  apply List.ext_getElem (by simp [hn, hm])
  intro i g1 g2
  have hi : i < l.length := by omega
  have := (hpm i hi).1
  have e1 : rows.getD i [] = rows[i] := by simp [List.getD, g1]
  have e2 : m.getD i default = m[i]'(by omega) := by simp [List.getD, show i < m.length by omega]
  rw [e1, e2] at this
  simp [this]
theorem RL.like_of {r : RL} {rows : List (List D)} (hn : rows.length = r.rows.length) (h : ∀ i, i < r.rows.length → LSh (r.rows.getD i []) (rows.getD i [])) : ∃ q : RL, q.rows = rows ∧ q.tys = r.tys ∧ q.len = r.len ∧ RL.Like r q := by
  cases r with
  | rInts l =>
    obtain ⟨m, e1, e2, e3⟩ := rows_like (enc := fun x : Int => [D.int x]) (p := fun x y => y = x) (rows := rows) (l := l) hn h (fun x es h => by
      obtain ⟨h1, h2⟩ := h
      match es, h1 with
      | [v], _ =>
        have := (h2 0 (by simp)).2 (fun r e => by simp at e)
        exact ⟨x, by simpa using this, rfl⟩)
    have : m = l := List.ext_getElem e2 (fun i g1 g2 => by have := e3 i g2; simpa [List.getD, g1, g2] using this)
    exact ⟨.rInts m, e1.symm, rfl, e2, this⟩
  | rEntry l =>
    obtain ⟨m, e1, e2, e3⟩ := rows_like (rows := rows) (l := l) hn h (fun x es h => Entry.like_of h)
    exact ⟨.rEntry m, e1.symm, rfl, e2, e2, e3⟩
  | rRecord l =>
    obtain ⟨m, e1, e2, e3⟩ := rows_like (rows := rows) (l := l) hn h (fun x es h => Record.like_of h)
    exact ⟨.rRecord m, e1.symm, rfl, e2, e2, e3⟩
  | rBytes l =>
    obtain ⟨m, e1, e2, e3⟩ := rows_like (enc := fun x : Int => [D.int x]) (p := fun x y => y = x) (rows := rows) (l := l) hn h (fun x es h => by
      obtain ⟨h1, h2⟩ := h
      match es, h1 with
      | [v], _ =>
        have := (h2 0 (by simp)).2 (fun r e => by simp at e)
        exact ⟨x, by simpa using this, rfl⟩)
    have : m = l := List.ext_getElem e2 (fun i g1 g2 => by have := e3 i g2; simpa [List.getD, g1, g2] using this)
    exact ⟨.rBytes m, e1.symm, rfl, e2, this⟩
/-- for all rows of the same shape -/
def RL.All (r : RL) (p : RL → Prop) : Prop :=
  match r with
  | .rInts l => ∀ m : List Int, RL.Like (.rInts l) (.rInts m) → p (.rInts m)
  | .rEntry l => ∀ m : List Entry, RL.Like (.rEntry l) (.rEntry m) → p (.rEntry m)
  | .rRecord l => ∀ m : List Record, RL.Like (.rRecord l) (.rRecord m) → p (.rRecord m)
  | .rBytes l => ∀ m : List Int, RL.Like (.rBytes l) (.rBytes m) → p (.rBytes m)
theorem RL.All_mono {r : RL} {p q : RL → Prop} (h : RL.All r p) (hpq : ∀ s, p s → q s) : RL.All r q := by
  cases r <;> exact fun m hm => hpq _ (h m hm)
theorem RL.all_of {r q : RL} {p : RL → Prop} (h : RL.All r p) (hl : RL.Like r q) : p q := by
  cases r <;> cases q <;> first | exact h _ hl | exact hl.elim
end Go.Proofs.Yteiojclemodhaaa
