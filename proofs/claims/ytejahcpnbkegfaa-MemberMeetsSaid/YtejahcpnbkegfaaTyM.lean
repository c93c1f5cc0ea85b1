/- The struct types of the program as Lean structures, and their readings. Written by a program (gen_ty.py). No condition. -/
import Derived.Test.YtejahcpnbkegfaaRd
namespace Go.Proofs.Ytejahcpnbkegfaa
open Go.RowKit Go.ChangeShapes Go.WideShapes Go.Deep
set_option linter.unusedVariables false
set_option linter.unusedSimpArgs false
theorem list2 {α : Type} {l : List α} (h : l.length = 2) : ∃ v0 v1, l = [v0, v1] := by
  match l, h with
  | [v0, v1], _ => exact ⟨v0, v1, rfl⟩
theorem box2 {w : World} {g : Nat} {t : TypeId} {v0 v1 : Value} (h : Blk w g t #[v0, v1]) : w.cell? ⟨g, 0, none⟩ = some v0 ∧ w.cell? ⟨g, 1, none⟩ = some v1 :=
  ⟨h.cell 0, h.cell 1⟩
theorem thaw2 {w : World} {g : Nat} {t : TypeId} {v0 v1 : Value} (h : Blk w g t #[v0, v1]) : w.frozen? ⟨g, 0, none⟩ = false ∧ w.frozen? ⟨g, 1, none⟩ = false :=
  ⟨h.frozen 0, h.frozen 1⟩
theorem list5 {α : Type} {l : List α} (h : l.length = 5) : ∃ v0 v1 v2 v3 v4, l = [v0, v1, v2, v3, v4] := by
  match l, h with
  | [v0, v1, v2, v3, v4], _ => exact ⟨v0, v1, v2, v3, v4, rfl⟩
theorem box5 {w : World} {g : Nat} {t : TypeId} {v0 v1 v2 v3 v4 : Value} (h : Blk w g t #[v0, v1, v2, v3, v4]) : w.cell? ⟨g, 0, none⟩ = some v0 ∧ w.cell? ⟨g, 1, none⟩ = some v1 ∧ w.cell? ⟨g, 2, none⟩ = some v2 ∧ w.cell? ⟨g, 3, none⟩ = some v3 ∧ w.cell? ⟨g, 4, none⟩ = some v4 :=
  ⟨h.cell 0, h.cell 1, h.cell 2, h.cell 3, h.cell 4⟩
theorem thaw5 {w : World} {g : Nat} {t : TypeId} {v0 v1 v2 v3 v4 : Value} (h : Blk w g t #[v0, v1, v2, v3, v4]) : w.frozen? ⟨g, 0, none⟩ = false ∧ w.frozen? ⟨g, 1, none⟩ = false ∧ w.frozen? ⟨g, 2, none⟩ = false ∧ w.frozen? ⟨g, 3, none⟩ = false ∧ w.frozen? ⟨g, 4, none⟩ = false :=
  ⟨h.frozen 0, h.frozen 1, h.frozen 2, h.frozen 3, h.frozen 4⟩
structure Config where
  voters : List Int
  learners : List Int
  deriving DecidableEq, Inhabited
def Config.ty : List Ty := [.sl [.int .i64], .sl [.int .i64]]
def Config.enc (x : Config) : List D := [.sl (ints x.voters), .sl (ints x.learners)]
theorem Config.ty_len : Config.ty.length = 2 := rfl
theorem Config.enc_len (x : Config) : x.enc.length = 2 := rfl
theorem Config.opens {w : World} {S : Nat → Prop} {vs : List Value} {x : Config} (h : RdL w S Config.ty vs x.enc) : ∃ (a0 : Option Addr) (c0 : Nat) (a1 : Option Addr) (c1 : Nat), vs = [.slice a0 (x.voters).length c0, .slice a1 (x.learners).length c1] ∧ SlI w S a0 (x.voters).length c0 x.voters ∧ SlI w S a1 (x.learners).length c1 x.learners := by
  match vs, h with
  | [v0, v1], h =>
    obtain ⟨h0, h1, _⟩ := h
    obtain ⟨a0, c0, rfl, k0⟩ := h0.sl'
    rw [ints_len] at k0
    obtain ⟨a1, c1, rfl, k1⟩ := h1.sl'
    rw [ints_len] at k1
    exact ⟨a0, c0, a1, c1, (by simp [ints, List.length_map]), k0, k1⟩
theorem Config.shuts {w : World} {S : Nat → Prop} (x : Config) {a0 : Option Addr} {c0 : Nat} {a1 : Option Addr} {c1 : Nat} (k0 : SlI w S a0 (x.voters).length c0 x.voters) (k1 : SlI w S a1 (x.learners).length c1 x.learners) : RdL w S Config.ty [.slice a0 (x.voters).length c0, .slice a1 (x.learners).length c1] x.enc := by
  exact ⟨k0, k1, trivial⟩
theorem Config.row {w : World} {S : Nat → Prop} {b off n c i : Nat} {xs : List Config} (h : Sl w S Config.ty (some ⟨b, off, none⟩) n c (xs.map Config.enc)) (hi : i < n) : S b ∧ b < w.heap.size ∧ ∃ (a0 : Option Addr) (c0 : Nat) (a1 : Option Addr) (c1 : Nat), w.cell? ⟨b, off + i * 2, none⟩ = some (.slice a0 ((xs.getD i default).voters).length c0) ∧ w.cell? ⟨b, off + i * 2 + 1, none⟩ = some (.slice a1 ((xs.getD i default).learners).length c1) ∧ SlI w S a0 ((xs.getD i default).voters).length c0 (xs.getD i default).voters ∧ SlI w S a1 ((xs.getD i default).learners).length c1 (xs.getD i default).learners := by
  have hl := h.len
  rw [List.length_map] at hl
  obtain ⟨b2, off2, e, hS, hb, vals, hc, hr⟩ := h.rowAt (by omega)
  simp only [Option.some.injEq, Addr.mk.injEq, and_true] at e
  obtain ⟨rfl, rfl⟩ := e
  have hr1 := hr i hi
  have he : (xs.map Config.enc).getD i [] = (xs.getD i default).enc := by simp [List.getD, show i < xs.length by omega]
  rw [he] at hr1
  have hL := RdL.of_at (ts := Config.ty) (vals i) hr1.1 hr1.2
  obtain ⟨a0, c0, a1, c1, e, k0, k1⟩ := Config.opens hL
  rw [show Config.ty.length = 2 from rfl] at hc e
  simp only [List.range_succ, List.range_zero, List.nil_append, List.cons_append, List.map_cons, List.map_nil, List.cons.injEq, and_true] at e
  obtain ⟨e0, e1⟩ := e
  refine ⟨hS, hb, a0, c0, a1, c1, ?_, ?_, k0, k1⟩
  · rw [← e0]; exact hc i 0 hi (by omega)
  · rw [← e1]; exact hc i 1 hi (by omega)
theorem Config.dec {w : World} {S : Nat → Prop} {vs : List Value} {ds : List D} (h : RdL w S Config.ty vs ds) : ∃ x : Config, ds = x.enc := by
  have hl := h.lens
  rw [Config.ty_len] at hl
  obtain ⟨v0, v1, rfl⟩ := list2 hl.1
  obtain ⟨d0, d1, rfl⟩ := list2 hl.2
  obtain ⟨h0, h1, _⟩ := h
  obtain ⟨x0, rfl⟩ := ints_dec h0
  obtain ⟨x1, rfl⟩ := ints_dec h1
  exact ⟨⟨x0, x1⟩, rfl⟩
structure Snap where
  index : Int
  term : Int
  config : Config
  data : ByteArray
  deriving DecidableEq, Inhabited
def Snap.ty : List Ty := [.int .i64, .int .i64, .sl [.int .i64], .sl [.int .i64], .str]
def Snap.enc (x : Snap) : List D := [.int x.index, .int x.term, .sl (ints x.config.voters), .sl (ints x.config.learners), .str x.data]
theorem Snap.ty_len : Snap.ty.length = 5 := rfl
theorem Snap.enc_len (x : Snap) : x.enc.length = 5 := rfl
theorem Snap.opens {w : World} {S : Nat → Prop} {vs : List Value} {x : Snap} (h : RdL w S Snap.ty vs x.enc) : ∃ (a2 : Option Addr) (c2 : Nat) (a3 : Option Addr) (c3 : Nat), vs = [.int .i64 x.index, .int .i64 x.term, .slice a2 (x.config.voters).length c2, .slice a3 (x.config.learners).length c3, .string x.data] ∧ I64 x.index ∧ I64 x.term ∧ SlI w S a2 (x.config.voters).length c2 x.config.voters ∧ SlI w S a3 (x.config.learners).length c3 x.config.learners ∧ (x.data).size ≤ 140737488355328 := by
  match vs, h with
  | [v0, v1, v2, v3, v4], h =>
    obtain ⟨h0, h1, h2, h3, h4, _⟩ := h
    obtain ⟨rfl, k0⟩ := h0.i64
    obtain ⟨rfl, k1⟩ := h1.i64
    obtain ⟨a2, c2, rfl, k2⟩ := h2.sl'
    rw [ints_len] at k2
    obtain ⟨a3, c3, rfl, k3⟩ := h3.sl'
    rw [ints_len] at k3
    obtain ⟨rfl, k4⟩ := h4.str'
    exact ⟨a2, c2, a3, c3, (by simp [ints, List.length_map]), k0, k1, k2, k3, k4⟩
theorem Snap.shuts {w : World} {S : Nat → Prop} (x : Snap) {a2 : Option Addr} {c2 : Nat} {a3 : Option Addr} {c3 : Nat} (k0 : I64 x.index) (k1 : I64 x.term) (k2 : SlI w S a2 (x.config.voters).length c2 x.config.voters) (k3 : SlI w S a3 (x.config.learners).length c3 x.config.learners) (k4 : (x.data).size ≤ 140737488355328) : RdL w S Snap.ty [.int .i64 x.index, .int .i64 x.term, .slice a2 (x.config.voters).length c2, .slice a3 (x.config.learners).length c3, .string x.data] x.enc := by
  exact ⟨.ofI64 k0, .ofI64 k1, k2, k3, .str k4, trivial⟩
theorem Snap.row {w : World} {S : Nat → Prop} {b off n c i : Nat} {xs : List Snap} (h : Sl w S Snap.ty (some ⟨b, off, none⟩) n c (xs.map Snap.enc)) (hi : i < n) : S b ∧ b < w.heap.size ∧ ∃ (a2 : Option Addr) (c2 : Nat) (a3 : Option Addr) (c3 : Nat), w.cell? ⟨b, off + i * 5, none⟩ = some (.int .i64 (xs.getD i default).index) ∧ w.cell? ⟨b, off + i * 5 + 1, none⟩ = some (.int .i64 (xs.getD i default).term) ∧ w.cell? ⟨b, off + i * 5 + 2, none⟩ = some (.slice a2 ((xs.getD i default).config.voters).length c2) ∧ w.cell? ⟨b, off + i * 5 + 3, none⟩ = some (.slice a3 ((xs.getD i default).config.learners).length c3) ∧ w.cell? ⟨b, off + i * 5 + 4, none⟩ = some (.string (xs.getD i default).data) ∧ I64 (xs.getD i default).index ∧ I64 (xs.getD i default).term ∧ SlI w S a2 ((xs.getD i default).config.voters).length c2 (xs.getD i default).config.voters ∧ SlI w S a3 ((xs.getD i default).config.learners).length c3 (xs.getD i default).config.learners ∧ ((xs.getD i default).data).size ≤ 140737488355328 := by
  have hl := h.len
  rw [List.length_map] at hl
  obtain ⟨b2, off2, e, hS, hb, vals, hc, hr⟩ := h.rowAt (by omega)
  simp only [Option.some.injEq, Addr.mk.injEq, and_true] at e
  obtain ⟨rfl, rfl⟩ := e
  have hr1 := hr i hi
  have he : (xs.map Snap.enc).getD i [] = (xs.getD i default).enc := by simp [List.getD, show i < xs.length by omega]
  rw [he] at hr1
  have hL := RdL.of_at (ts := Snap.ty) (vals i) hr1.1 hr1.2
  obtain ⟨a2, c2, a3, c3, e, k0, k1, k2, k3, k4⟩ := Snap.opens hL
  rw [show Snap.ty.length = 5 from rfl] at hc e
  simp only [List.range_succ, List.range_zero, List.nil_append, List.cons_append, List.map_cons, List.map_nil, List.cons.injEq, and_true] at e
  obtain ⟨e0, e1, e2, e3, e4⟩ := e
  refine ⟨hS, hb, a2, c2, a3, c3, ?_, ?_, ?_, ?_, ?_, k0, k1, k2, k3, k4⟩
  · rw [← e0]; exact hc i 0 hi (by omega)
  · rw [← e1]; exact hc i 1 hi (by omega)
  · rw [← e2]; exact hc i 2 hi (by omega)
  · rw [← e3]; exact hc i 3 hi (by omega)
  · rw [← e4]; exact hc i 4 hi (by omega)
theorem Snap.dec {w : World} {S : Nat → Prop} {vs : List Value} {ds : List D} (h : RdL w S Snap.ty vs ds) : ∃ x : Snap, ds = x.enc := by
  have hl := h.lens
  rw [Snap.ty_len] at hl
  obtain ⟨v0, v1, v2, v3, v4, rfl⟩ := list5 hl.1
  obtain ⟨d0, d1, d2, d3, d4, rfl⟩ := list5 hl.2
  obtain ⟨h0, h1, h2, h3, h4, _⟩ := h
  obtain ⟨x0, _, rfl, _⟩ := h0.int_inv
  obtain ⟨x1, _, rfl, _⟩ := h1.int_inv
  obtain ⟨x2, rfl⟩ := ints_dec h2
  obtain ⟨x3, rfl⟩ := ints_dec h3
  obtain ⟨x4, _, rfl⟩ := h4.str_inv
  exact ⟨⟨x0, x1, ⟨x2, x3⟩, x4⟩, rfl⟩
structure Change where
  kind : Int
  node : Int
  deriving DecidableEq, Inhabited
def Change.ty : List Ty := [.int .i64, .int .i64]
def Change.enc (x : Change) : List D := [.int x.kind, .int x.node]
theorem Change.ty_len : Change.ty.length = 2 := rfl
theorem Change.enc_len (x : Change) : x.enc.length = 2 := rfl
theorem Change.opens {w : World} {S : Nat → Prop} {vs : List Value} {x : Change} (h : RdL w S Change.ty vs x.enc) : vs = [.int .i64 x.kind, .int .i64 x.node] ∧ I64 x.kind ∧ I64 x.node := by
  match vs, h with
  | [v0, v1], h =>
    obtain ⟨h0, h1, _⟩ := h
    obtain ⟨rfl, k0⟩ := h0.i64
    obtain ⟨rfl, k1⟩ := h1.i64
    exact ⟨rfl, k0, k1⟩
theorem Change.shuts {w : World} {S : Nat → Prop} (x : Change) (k0 : I64 x.kind) (k1 : I64 x.node) : RdL w S Change.ty [.int .i64 x.kind, .int .i64 x.node] x.enc := by
  exact ⟨.ofI64 k0, .ofI64 k1, trivial⟩
theorem Change.row {w : World} {S : Nat → Prop} {b off n c i : Nat} {xs : List Change} (h : Sl w S Change.ty (some ⟨b, off, none⟩) n c (xs.map Change.enc)) (hi : i < n) : S b ∧ b < w.heap.size ∧ w.cell? ⟨b, off + i * 2, none⟩ = some (.int .i64 (xs.getD i default).kind) ∧ w.cell? ⟨b, off + i * 2 + 1, none⟩ = some (.int .i64 (xs.getD i default).node) ∧ I64 (xs.getD i default).kind ∧ I64 (xs.getD i default).node := by
  have hl := h.len
  rw [List.length_map] at hl
  obtain ⟨b2, off2, e, hS, hb, vals, hc, hr⟩ := h.rowAt (by omega)
  simp only [Option.some.injEq, Addr.mk.injEq, and_true] at e
  obtain ⟨rfl, rfl⟩ := e
  have hr1 := hr i hi
  have he : (xs.map Change.enc).getD i [] = (xs.getD i default).enc := by simp [List.getD, show i < xs.length by omega]
  rw [he] at hr1
  have hL := RdL.of_at (ts := Change.ty) (vals i) hr1.1 hr1.2
  obtain ⟨e, k0, k1⟩ := Change.opens hL
  rw [show Change.ty.length = 2 from rfl] at hc e
  simp only [List.range_succ, List.range_zero, List.nil_append, List.cons_append, List.map_cons, List.map_nil, List.cons.injEq, and_true] at e
  obtain ⟨e0, e1⟩ := e
  refine ⟨hS, hb, ?_, ?_, k0, k1⟩
  · rw [← e0]; exact hc i 0 hi (by omega)
  · rw [← e1]; exact hc i 1 hi (by omega)
theorem Change.dec {w : World} {S : Nat → Prop} {vs : List Value} {ds : List D} (h : RdL w S Change.ty vs ds) : ∃ x : Change, ds = x.enc := by
  have hl := h.lens
  rw [Change.ty_len] at hl
  obtain ⟨v0, v1, rfl⟩ := list2 hl.1
  obtain ⟨d0, d1, rfl⟩ := list2 hl.2
  obtain ⟨h0, h1, _⟩ := h
  obtain ⟨x0, _, rfl, _⟩ := h0.int_inv
  obtain ⟨x1, _, rfl, _⟩ := h1.int_inv
  exact ⟨⟨x0, x1⟩, rfl⟩
end Go.Proofs.Ytejahcpnbkegfaa
