/- The struct types of the program as Lean structures, and their readings. Written by a program (gen_ty.py). No condition. -/
import Derived.Test.YteiojclemodhaaaRd
namespace Go.Proofs.Yteiojclemodhaaa
open Go.RowKit Go.ChangeShapes Go.WideShapes Go.Deep
set_option linter.unusedVariables false
theorem list1 {α : Type} {l : List α} (h : l.length = 1) : ∃ v0, l = [v0] := by
  match l, h with
  | [v0], _ => exact ⟨v0, rfl⟩
theorem box1 {w : World} {g : Nat} {t : TypeId} {v0 : Value} (h : Blk w g t #[v0]) : w.cell? ⟨g, 0, none⟩ = some v0 :=
  h.cell 0
theorem thaw1 {w : World} {g : Nat} {t : TypeId} {v0 : Value} (h : Blk w g t #[v0]) : w.frozen? ⟨g, 0, none⟩ = false :=
  h.frozen 0
theorem list2 {α : Type} {l : List α} (h : l.length = 2) : ∃ v0 v1, l = [v0, v1] := by
  match l, h with
  | [v0, v1], _ => exact ⟨v0, v1, rfl⟩
theorem box2 {w : World} {g : Nat} {t : TypeId} {v0 v1 : Value} (h : Blk w g t #[v0, v1]) : w.cell? ⟨g, 0, none⟩ = some v0 ∧ w.cell? ⟨g, 1, none⟩ = some v1 :=
  ⟨h.cell 0, h.cell 1⟩
theorem thaw2 {w : World} {g : Nat} {t : TypeId} {v0 v1 : Value} (h : Blk w g t #[v0, v1]) : w.frozen? ⟨g, 0, none⟩ = false ∧ w.frozen? ⟨g, 1, none⟩ = false :=
  ⟨h.frozen 0, h.frozen 1⟩
theorem list5 {α : Type} {l : List α} (h : l.length = 5) : ∃ v0 v1 v2 v3 v4, l = [v0, v1, v2, v3, v4] := by
  match l, h with
  | [v0, v1, v2, v3, v4], _ => exact ⟨v0, v1, v2, v3, v4, rfl⟩
theorem box5 {w : World} {g : Nat} {t : TypeId} {v0 v1 v2 v3 v4 : Value} (h : Blk w g t #[v0, v1, v2, v3, v4]) : w.cell? ⟨g, 0, none⟩ = some v0 ∧ w.cell? ⟨g, 1, none⟩ = some v1 ∧ w.cell? ⟨g, 2, none⟩ = some v2 ∧ w.cell? ⟨g, 3, none⟩ = some v3 ∧ w.cell? ⟨g, 4, none⟩ = some v4 :=
  ⟨h.cell 0, h.cell 1, h.cell 2, h.cell 3, h.cell 4⟩
theorem thaw5 {w : World} {g : Nat} {t : TypeId} {v0 v1 v2 v3 v4 : Value} (h : Blk w g t #[v0, v1, v2, v3, v4]) : w.frozen? ⟨g, 0, none⟩ = false ∧ w.frozen? ⟨g, 1, none⟩ = false ∧ w.frozen? ⟨g, 2, none⟩ = false ∧ w.frozen? ⟨g, 3, none⟩ = false ∧ w.frozen? ⟨g, 4, none⟩ = false :=
  ⟨h.frozen 0, h.frozen 1, h.frozen 2, h.frozen 3, h.frozen 4⟩
theorem list6 {α : Type} {l : List α} (h : l.length = 6) : ∃ v0 v1 v2 v3 v4 v5, l = [v0, v1, v2, v3, v4, v5] := by
  match l, h with
  | [v0, v1, v2, v3, v4, v5], _ => exact ⟨v0, v1, v2, v3, v4, v5, rfl⟩
theorem box6 {w : World} {g : Nat} {t : TypeId} {v0 v1 v2 v3 v4 v5 : Value} (h : Blk w g t #[v0, v1, v2, v3, v4, v5]) : w.cell? ⟨g, 0, none⟩ = some v0 ∧ w.cell? ⟨g, 1, none⟩ = some v1 ∧ w.cell? ⟨g, 2, none⟩ = some v2 ∧ w.cell? ⟨g, 3, none⟩ = some v3 ∧ w.cell? ⟨g, 4, none⟩ = some v4 ∧ w.cell? ⟨g, 5, none⟩ = some v5 :=
  ⟨h.cell 0, h.cell 1, h.cell 2, h.cell 3, h.cell 4, h.cell 5⟩
theorem thaw6 {w : World} {g : Nat} {t : TypeId} {v0 v1 v2 v3 v4 v5 : Value} (h : Blk w g t #[v0, v1, v2, v3, v4, v5]) : w.frozen? ⟨g, 0, none⟩ = false ∧ w.frozen? ⟨g, 1, none⟩ = false ∧ w.frozen? ⟨g, 2, none⟩ = false ∧ w.frozen? ⟨g, 3, none⟩ = false ∧ w.frozen? ⟨g, 4, none⟩ = false ∧ w.frozen? ⟨g, 5, none⟩ = false :=
  ⟨h.frozen 0, h.frozen 1, h.frozen 2, h.frozen 3, h.frozen 4, h.frozen 5⟩
theorem list8 {α : Type} {l : List α} (h : l.length = 8) : ∃ v0 v1 v2 v3 v4 v5 v6 v7, l = [v0, v1, v2, v3, v4, v5, v6, v7] := by
  match l, h with
  | [v0, v1, v2, v3, v4, v5, v6, v7], _ => exact ⟨v0, v1, v2, v3, v4, v5, v6, v7, rfl⟩
theorem box8 {w : World} {g : Nat} {t : TypeId} {v0 v1 v2 v3 v4 v5 v6 v7 : Value} (h : Blk w g t #[v0, v1, v2, v3, v4, v5, v6, v7]) : w.cell? ⟨g, 0, none⟩ = some v0 ∧ w.cell? ⟨g, 1, none⟩ = some v1 ∧ w.cell? ⟨g, 2, none⟩ = some v2 ∧ w.cell? ⟨g, 3, none⟩ = some v3 ∧ w.cell? ⟨g, 4, none⟩ = some v4 ∧ w.cell? ⟨g, 5, none⟩ = some v5 ∧ w.cell? ⟨g, 6, none⟩ = some v6 ∧ w.cell? ⟨g, 7, none⟩ = some v7 :=
  ⟨h.cell 0, h.cell 1, h.cell 2, h.cell 3, h.cell 4, h.cell 5, h.cell 6, h.cell 7⟩
theorem thaw8 {w : World} {g : Nat} {t : TypeId} {v0 v1 v2 v3 v4 v5 v6 v7 : Value} (h : Blk w g t #[v0, v1, v2, v3, v4, v5, v6, v7]) : w.frozen? ⟨g, 0, none⟩ = false ∧ w.frozen? ⟨g, 1, none⟩ = false ∧ w.frozen? ⟨g, 2, none⟩ = false ∧ w.frozen? ⟨g, 3, none⟩ = false ∧ w.frozen? ⟨g, 4, none⟩ = false ∧ w.frozen? ⟨g, 5, none⟩ = false ∧ w.frozen? ⟨g, 6, none⟩ = false ∧ w.frozen? ⟨g, 7, none⟩ = false :=
  ⟨h.frozen 0, h.frozen 1, h.frozen 2, h.frozen 3, h.frozen 4, h.frozen 5, h.frozen 6, h.frozen 7⟩
theorem list15 {α : Type} {l : List α} (h : l.length = 15) : ∃ v0 v1 v2 v3 v4 v5 v6 v7 v8 v9 v10 v11 v12 v13 v14, l = [v0, v1, v2, v3, v4, v5, v6, v7, v8, v9, v10, v11, v12, v13, v14] := by
  match l, h with
  | [v0, v1, v2, v3, v4, v5, v6, v7, v8, v9, v10, v11, v12, v13, v14], _ => exact ⟨v0, v1, v2, v3, v4, v5, v6, v7, v8, v9, v10, v11, v12, v13, v14, rfl⟩
theorem box15 {w : World} {g : Nat} {t : TypeId} {v0 v1 v2 v3 v4 v5 v6 v7 v8 v9 v10 v11 v12 v13 v14 : Value} (h : Blk w g t #[v0, v1, v2, v3, v4, v5, v6, v7, v8, v9, v10, v11, v12, v13, v14]) : w.cell? ⟨g, 0, none⟩ = some v0 ∧ w.cell? ⟨g, 1, none⟩ = some v1 ∧ w.cell? ⟨g, 2, none⟩ = some v2 ∧ w.cell? ⟨g, 3, none⟩ = some v3 ∧ w.cell? ⟨g, 4, none⟩ = some v4 ∧ w.cell? ⟨g, 5, none⟩ = some v5 ∧ w.cell? ⟨g, 6, none⟩ = some v6 ∧ w.cell? ⟨g, 7, none⟩ = some v7 ∧ w.cell? ⟨g, 8, none⟩ = some v8 ∧ w.cell? ⟨g, 9, none⟩ = some v9 ∧ w.cell? ⟨g, 10, none⟩ = some v10 ∧ w.cell? ⟨g, 11, none⟩ = some v11 ∧ w.cell? ⟨g, 12, none⟩ = some v12 ∧ w.cell? ⟨g, 13, none⟩ = some v13 ∧ w.cell? ⟨g, 14, none⟩ = some v14 :=
  ⟨h.cell 0, h.cell 1, h.cell 2, h.cell 3, h.cell 4, h.cell 5, h.cell 6, h.cell 7, h.cell 8, h.cell 9, h.cell 10, h.cell 11, h.cell 12, h.cell 13, h.cell 14⟩
theorem thaw15 {w : World} {g : Nat} {t : TypeId} {v0 v1 v2 v3 v4 v5 v6 v7 v8 v9 v10 v11 v12 v13 v14 : Value} (h : Blk w g t #[v0, v1, v2, v3, v4, v5, v6, v7, v8, v9, v10, v11, v12, v13, v14]) : w.frozen? ⟨g, 0, none⟩ = false ∧ w.frozen? ⟨g, 1, none⟩ = false ∧ w.frozen? ⟨g, 2, none⟩ = false ∧ w.frozen? ⟨g, 3, none⟩ = false ∧ w.frozen? ⟨g, 4, none⟩ = false ∧ w.frozen? ⟨g, 5, none⟩ = false ∧ w.frozen? ⟨g, 6, none⟩ = false ∧ w.frozen? ⟨g, 7, none⟩ = false ∧ w.frozen? ⟨g, 8, none⟩ = false ∧ w.frozen? ⟨g, 9, none⟩ = false ∧ w.frozen? ⟨g, 10, none⟩ = false ∧ w.frozen? ⟨g, 11, none⟩ = false ∧ w.frozen? ⟨g, 12, none⟩ = false ∧ w.frozen? ⟨g, 13, none⟩ = false ∧ w.frozen? ⟨g, 14, none⟩ = false :=
  ⟨h.frozen 0, h.frozen 1, h.frozen 2, h.frozen 3, h.frozen 4, h.frozen 5, h.frozen 6, h.frozen 7, h.frozen 8, h.frozen 9, h.frozen 10, h.frozen 11, h.frozen 12, h.frozen 13, h.frozen 14⟩
structure Config where
  voters : List Int
  learners : List Int
  deriving DecidableEq, Inhabited
def Config.ty : List Ty := [.sl [.int .i64], .sl [.int .i64]]
def Config.enc (x : Config) : List D := [.sl (ints x.voters), .sl (ints x.learners)]
theorem Config.ty_len : Config.ty.length = 2 := rfl
theorem Config.enc_len (x : Config) : x.enc.length = 2 := rfl
theorem Config.opens {w : World} {S : Nat → Prop} {vs : List Value} {x : Config} (h : RdL w S Config.ty vs x.enc) : ∃ (a0 : Option Addr) (c0 : Nat) (a1 : Option Addr) (c1 : Nat), vs = [.slice a0 (x.voters).length c0, .slice a1 (x.learners).length c1] ∧ SlI w S a0 (x.voters).length c0 x.voters ∧ SlI w S a1 (x.learners).length c1 x.learners := by
  match vs, h with
  | [v0, v1], h =>
    obtain ⟨h0, h1, _⟩ := h
    obtain ⟨a0, c0, rfl, k0⟩ := h0.sl'
    rw [ints_len] at k0
    obtain ⟨a1, c1, rfl, k1⟩ := h1.sl'
    rw [ints_len] at k1
    exact ⟨a0, c0, a1, c1, (by simp [ints, List.length_map]), k0, k1⟩
theorem Config.shuts {w : World} {S : Nat → Prop} (x : Config) {a0 : Option Addr} {c0 : Nat} {a1 : Option Addr} {c1 : Nat} (k0 : SlI w S a0 (x.voters).length c0 x.voters) (k1 : SlI w S a1 (x.learners).length c1 x.learners) : RdL w S Config.ty [.slice a0 (x.voters).length c0, .slice a1 (x.learners).length c1] x.enc := by
  exact ⟨k0, k1, trivial⟩
theorem Config.row {w : World} {S : Nat → Prop} {b off n c i : Nat} {xs : List Config} (h : Sl w S Config.ty (some ⟨b, off, none⟩) n c (xs.map Config.enc)) (hi : i < n) : S b ∧ b < w.heap.size ∧ ∃ (a0 : Option Addr) (c0 : Nat) (a1 : Option Addr) (c1 : Nat), w.cell? ⟨b, off + i * 2, none⟩ = some (.slice a0 ((xs.getD i default).voters).length c0) ∧ w.cell? ⟨b, off + i * 2 + 1, none⟩ = some (.slice a1 ((xs.getD i default).learners).length c1) ∧ SlI w S a0 ((xs.getD i default).voters).length c0 (xs.getD i default).voters ∧ SlI w S a1 ((xs.getD i default).learners).length c1 (xs.getD i default).learners := by
  have hl := h.len
  rw [List.length_map] at hl
  obtain ⟨b2, off2, e, hS, hb, vals, hc, hr⟩ := h.rowAt (by omega)
  simp only [Option.some.injEq, Addr.mk.injEq, and_true] at e
  obtain ⟨rfl, rfl⟩ := e
  have hr1 := hr i hi
  have he : (xs.map Config.enc).getD i [] = (xs.getD i default).enc := by simp [List.getD, show i < xs.length by omega]
  rw [he] at hr1
  have hL := RdL.of_at (ts := Config.ty) (vals i) hr1.1 hr1.2
  obtain ⟨a0, c0, a1, c1, e, k0, k1⟩ := Config.opens hL
  rw [show Config.ty.length = 2 from rfl] at hc e
  simp only [List.range_succ, List.range_zero, List.nil_append, List.cons_append, List.map_cons, List.map_nil, List.cons.injEq, and_true] at e
  obtain ⟨e0, e1⟩ := e
  refine ⟨hS, hb, a0, c0, a1, c1, ?_, ?_, k0, k1⟩
  · rw [← e0]; exact hc i 0 hi (by omega)
  · rw [← e1]; exact hc i 1 hi (by omega)
theorem Config.dec {w : World} {S : Nat → Prop} {vs : List Value} {ds : List D} (h : RdL w S Config.ty vs ds) : ∃ x : Config, ds = x.enc := by
  have hl := h.lens
  rw [Config.ty_len] at hl
  obtain ⟨v0, v1, rfl⟩ := list2 hl.1
  obtain ⟨d0, d1, rfl⟩ := list2 hl.2
  obtain ⟨h0, h1, _⟩ := h
  obtain ⟨x0, rfl⟩ := ints_dec h0
  obtain ⟨x1, rfl⟩ := ints_dec h1
  exact ⟨⟨x0, x1⟩, rfl⟩
structure Entry where
  index : Int
  term : Int
  kind : Int
  config : Config
  data : ByteArray
  deriving DecidableEq, Inhabited
def Entry.ty : List Ty := [.int .i64, .int .i64, .int .i64, .sl [.int .i64], .sl [.int .i64], .str]
def Entry.enc (x : Entry) : List D := [.int x.index, .int x.term, .int x.kind, .sl (ints x.config.voters), .sl (ints x.config.learners), .str x.data]
theorem Entry.ty_len : Entry.ty.length = 6 := rfl
theorem Entry.enc_len (x : Entry) : x.enc.length = 6 := rfl
theorem Entry.opens {w : World} {S : Nat → Prop} {vs : List Value} {x : Entry} (h : RdL w S Entry.ty vs x.enc) : ∃ (a3 : Option Addr) (c3 : Nat) (a4 : Option Addr) (c4 : Nat), vs = [.int .i64 x.index, .int .i64 x.term, .int .i64 x.kind, .slice a3 (x.config.voters).length c3, .slice a4 (x.config.learners).length c4, .string x.data] ∧ I64 x.index ∧ I64 x.term ∧ I64 x.kind ∧ SlI w S a3 (x.config.voters).length c3 x.config.voters ∧ SlI w S a4 (x.config.learners).length c4 x.config.learners ∧ (x.data).size ≤ 140737488355328 := by
  match vs, h with
  | [v0, v1, v2, v3, v4, v5], h =>
    obtain ⟨h0, h1, h2, h3, h4, h5, _⟩ := h
    obtain ⟨rfl, k0⟩ := h0.i64
    obtain ⟨rfl, k1⟩ := h1.i64
    obtain ⟨rfl, k2⟩ := h2.i64
    obtain ⟨a3, c3, rfl, k3⟩ := h3.sl'
    rw [ints_len] at k3
    obtain ⟨a4, c4, rfl, k4⟩ := h4.sl'
    rw [ints_len] at k4
    obtain ⟨rfl, k5⟩ := h5.str'
    exact ⟨a3, c3, a4, c4, (by simp [ints, List.length_map]), k0, k1, k2, k3, k4, k5⟩
theorem Entry.shuts {w : World} {S : Nat → Prop} (x : Entry) {a3 : Option Addr} {c3 : Nat} {a4 : Option Addr} {c4 : Nat} (k0 : I64 x.index) (k1 : I64 x.term) (k2 : I64 x.kind) (k3 : SlI w S a3 (x.config.voters).length c3 x.config.voters) (k4 : SlI w S a4 (x.config.learners).length c4 x.config.learners) (k5 : (x.data).size ≤ 140737488355328) : RdL w S Entry.ty [.int .i64 x.index, .int .i64 x.term, .int .i64 x.kind, .slice a3 (x.config.voters).length c3, .slice a4 (x.config.learners).length c4, .string x.data] x.enc := by
  exact ⟨.ofI64 k0, .ofI64 k1, .ofI64 k2, k3, k4, .str k5, trivial⟩
theorem Entry.row {w : World} {S : Nat → Prop} {b off n c i : Nat} {xs : List Entry} (h : Sl w S Entry.ty (some ⟨b, off, none⟩) n c (xs.map Entry.enc)) (hi : i < n) : S b ∧ b < w.heap.size ∧ ∃ (a3 : Option Addr) (c3 : Nat) (a4 : Option Addr) (c4 : Nat), w.cell? ⟨b, off + i * 6, none⟩ = some (.int .i64 (xs.getD i default).index) ∧ w.cell? ⟨b, off + i * 6 + 1, none⟩ = some (.int .i64 (xs.getD i default).term) ∧ w.cell? ⟨b, off + i * 6 + 2, none⟩ = some (.int .i64 (xs.getD i default).kind) ∧ w.cell? ⟨b, off + i * 6 + 3, none⟩ = some (.slice a3 ((xs.getD i default).config.voters).length c3) ∧ w.cell? ⟨b, off + i * 6 + 4, none⟩ = some (.slice a4 ((xs.getD i default).config.learners).length c4) ∧ w.cell? ⟨b, off + i * 6 + 5, none⟩ = some (.string (xs.getD i default).data) ∧ I64 (xs.getD i default).index ∧ I64 (xs.getD i default).term ∧ I64 (xs.getD i default).kind ∧ SlI w S a3 ((xs.getD i default).config.voters).length c3 (xs.getD i default).config.voters ∧ SlI w S a4 ((xs.getD i default).config.learners).length c4 (xs.getD i default).config.learners ∧ ((xs.getD i default).data).size ≤ 140737488355328 := by
  have hl := h.len
  rw [List.length_map] at hl
  obtain ⟨b2, off2, e, hS, hb, vals, hc, hr⟩ := h.rowAt (by omega)
  simp only [Option.some.injEq, Addr.mk.injEq, and_true] at e
  obtain ⟨rfl, rfl⟩ := e
  have hr1 := hr i hi
  have he : (xs.map Entry.enc).getD i [] = (xs.getD i default).enc := by simp [List.getD, show i < xs.length by omega]
  rw [he] at hr1
  have hL := RdL.of_at (ts := Entry.ty) (vals i) hr1.1 hr1.2
  obtain ⟨a3, c3, a4, c4, e, k0, k1, k2, k3, k4, k5⟩ := Entry.opens hL
  rw [show Entry.ty.length = 6 from rfl] at hc e
  simp only [List.range_succ, List.range_zero, List.nil_append, List.cons_append, List.map_cons, List.map_nil, List.cons.injEq, and_true] at e
  obtain ⟨e0, e1, e2, e3, e4, e5⟩ := e
  refine ⟨hS, hb, a3, c3, a4, c4, ?_, ?_, ?_, ?_, ?_, ?_, k0, k1, k2, k3, k4, k5⟩
  · rw [← e0]; exact hc i 0 hi (by omega)
  · rw [← e1]; exact hc i 1 hi (by omega)
  · rw [← e2]; exact hc i 2 hi (by omega)
  · rw [← e3]; exact hc i 3 hi (by omega)
  · rw [← e4]; exact hc i 4 hi (by omega)
  · rw [← e5]; exact hc i 5 hi (by omega)
theorem Entry.dec {w : World} {S : Nat → Prop} {vs : List Value} {ds : List D} (h : RdL w S Entry.ty vs ds) : ∃ x : Entry, ds = x.enc := by
  have hl := h.lens
  rw [Entry.ty_len] at hl
  obtain ⟨v0, v1, v2, v3, v4, v5, rfl⟩ := list6 hl.1
  obtain ⟨d0, d1, d2, d3, d4, d5, rfl⟩ := list6 hl.2
  obtain ⟨h0, h1, h2, h3, h4, h5, _⟩ := h
  obtain ⟨x0, _, rfl, _⟩ := h0.int_inv
  obtain ⟨x1, _, rfl, _⟩ := h1.int_inv
  obtain ⟨x2, _, rfl, _⟩ := h2.int_inv
  obtain ⟨x3, rfl⟩ := ints_dec h3
  obtain ⟨x4, rfl⟩ := ints_dec h4
  obtain ⟨x5, _, rfl⟩ := h5.str_inv
  exact ⟨⟨x0, x1, x2, ⟨x3, x4⟩, x5⟩, rfl⟩
structure Snap where
  index : Int
  term : Int
  config : Config
  data : ByteArray
  deriving DecidableEq, Inhabited
def Snap.ty : List Ty := [.int .i64, .int .i64, .sl [.int .i64], .sl [.int .i64], .str]
def Snap.enc (x : Snap) : List D := [.int x.index, .int x.term, .sl (ints x.config.voters), .sl (ints x.config.learners), .str x.data]
theorem Snap.ty_len : Snap.ty.length = 5 := rfl
theorem Snap.enc_len (x : Snap) : x.enc.length = 5 := rfl
theorem Snap.opens {w : World} {S : Nat → Prop} {vs : List Value} {x : Snap} (h : RdL w S Snap.ty vs x.enc) : ∃ (a2 : Option Addr) (c2 : Nat) (a3 : Option Addr) (c3 : Nat), vs = [.int .i64 x.index, .int .i64 x.term, .slice a2 (x.config.voters).length c2, .slice a3 (x.config.learners).length c3, .string x.data] ∧ I64 x.index ∧ I64 x.term ∧ SlI w S a2 (x.config.voters).length c2 x.config.voters ∧ SlI w S a3 (x.config.learners).length c3 x.config.learners ∧ (x.data).size ≤ 140737488355328 := by
  match vs, h with
  | [v0, v1, v2, v3, v4], h =>
    obtain ⟨h0, h1, h2, h3, h4, _⟩ := h
    obtain ⟨rfl, k0⟩ := h0.i64
    obtain ⟨rfl, k1⟩ := h1.i64
    obtain ⟨a2, c2, rfl, k2⟩ := h2.sl'
    rw [ints_len] at k2
    obtain ⟨a3, c3, rfl, k3⟩ := h3.sl'
    rw [ints_len] at k3
    obtain ⟨rfl, k4⟩ := h4.str'
    exact ⟨a2, c2, a3, c3, (by simp [ints, List.length_map]), k0, k1, k2, k3, k4⟩
theorem Snap.shuts {w : World} {S : Nat → Prop} (x : Snap) {a2 : Option Addr} {c2 : Nat} {a3 : Option Addr} {c3 : Nat} (k0 : I64 x.index) (k1 : I64 x.term) (k2 : SlI w S a2 (x.config.voters).length c2 x.config.voters) (k3 : SlI w S a3 (x.config.learners).length c3 x.config.learners) (k4 : (x.data).size ≤ 140737488355328) : RdL w S Snap.ty [.int .i64 x.index, .int .i64 x.term, .slice a2 (x.config.voters).length c2, .slice a3 (x.config.learners).length c3, .string x.data] x.enc := by
  exact ⟨.ofI64 k0, .ofI64 k1, k2, k3, .str k4, trivial⟩
theorem Snap.row {w : World} {S : Nat → Prop} {b off n c i : Nat} {xs : List Snap} (h : Sl w S Snap.ty (some ⟨b, off, none⟩) n c (xs.map Snap.enc)) (hi : i < n) : S b ∧ b < w.heap.size ∧ ∃ (a2 : Option Addr) (c2 : Nat) (a3 : Option Addr) (c3 : Nat), w.cell? ⟨b, off + i * 5, none⟩ = some (.int .i64 (xs.getD i default).index) ∧ w.cell? ⟨b, off + i * 5 + 1, none⟩ = some (.int .i64 (xs.getD i default).term) ∧ w.cell? ⟨b, off + i * 5 + 2, none⟩ = some (.slice a2 ((xs.getD i default).config.voters).length c2) ∧ w.cell? ⟨b, off + i * 5 + 3, none⟩ = some (.slice a3 ((xs.getD i default).config.learners).length c3) ∧ w.cell? ⟨b, off + i * 5 + 4, none⟩ = some (.string (xs.getD i default).data) ∧ I64 (xs.getD i default).index ∧ I64 (xs.getD i default).term ∧ SlI w S a2 ((xs.getD i default).config.voters).length c2 (xs.getD i default).config.voters ∧ SlI w S a3 ((xs.getD i default).config.learners).length c3 (xs.getD i default).config.learners ∧ ((xs.getD i default).data).size ≤ 140737488355328 := by
  have hl := h.len
  rw [List.length_map] at hl
  obtain ⟨b2, off2, e, hS, hb, vals, hc, hr⟩ := h.rowAt (by omega)
  simp only [Option.some.injEq, Addr.mk.injEq, and_true] at e
  obtain ⟨rfl, rfl⟩ := e
  have hr1 := hr i hi
  have he : (xs.map Snap.enc).getD i [] = (xs.getD i default).enc := by simp [List.getD, show i < xs.length by omega]
  rw [he] at hr1
  have hL := RdL.of_at (ts := Snap.ty) (vals i) hr1.1 hr1.2
  obtain ⟨a2, c2, a3, c3, e, k0, k1, k2, k3, k4⟩ := Snap.opens hL
  rw [show Snap.ty.length = 5 from rfl] at hc e
  simp only [List.range_succ, List.range_zero, List.nil_append, List.cons_append, List.map_cons, List.map_nil, List.cons.injEq, and_true] at e
  obtain ⟨e0, e1, e2, e3, e4⟩ := e
  refine ⟨hS, hb, a2, c2, a3, c3, ?_, ?_, ?_, ?_, ?_, k0, k1, k2, k3, k4⟩
  · rw [← e0]; exact hc i 0 hi (by omega)
  · rw [← e1]; exact hc i 1 hi (by omega)
  · rw [← e2]; exact hc i 2 hi (by omega)
  · rw [← e3]; exact hc i 3 hi (by omega)
  · rw [← e4]; exact hc i 4 hi (by omega)
theorem Snap.dec {w : World} {S : Nat → Prop} {vs : List Value} {ds : List D} (h : RdL w S Snap.ty vs ds) : ∃ x : Snap, ds = x.enc := by
  have hl := h.lens
  rw [Snap.ty_len] at hl
  obtain ⟨v0, v1, v2, v3, v4, rfl⟩ := list5 hl.1
  obtain ⟨d0, d1, d2, d3, d4, rfl⟩ := list5 hl.2
  obtain ⟨h0, h1, h2, h3, h4, _⟩ := h
  obtain ⟨x0, _, rfl, _⟩ := h0.int_inv
  obtain ⟨x1, _, rfl, _⟩ := h1.int_inv
  obtain ⟨x2, rfl⟩ := ints_dec h2
  obtain ⟨x3, rfl⟩ := ints_dec h3
  obtain ⟨x4, _, rfl⟩ := h4.str_inv
  exact ⟨⟨x0, x1, ⟨x2, x3⟩, x4⟩, rfl⟩
structure Kept where
  term : Int
  vote : Int
  snap : Snap
  entries : List Entry
  deriving DecidableEq, Inhabited
def Kept.ty : List Ty := [.int .i64, .int .i64, .int .i64, .int .i64, .sl [.int .i64], .sl [.int .i64], .str, .sl Entry.ty]
def Kept.enc (x : Kept) : List D := [.int x.term, .int x.vote, .int x.snap.index, .int x.snap.term, .sl (ints x.snap.config.voters), .sl (ints x.snap.config.learners), .str x.snap.data, .sl (x.entries.map Entry.enc)]
theorem Kept.ty_len : Kept.ty.length = 8 := rfl
theorem Kept.enc_len (x : Kept) : x.enc.length = 8 := rfl
theorem Kept.opens {w : World} {S : Nat → Prop} {vs : List Value} {x : Kept} (h : RdL w S Kept.ty vs x.enc) : ∃ (a4 : Option Addr) (c4 : Nat) (a5 : Option Addr) (c5 : Nat) (a7 : Option Addr) (c7 : Nat), vs = [.int .i64 x.term, .int .i64 x.vote, .int .i64 x.snap.index, .int .i64 x.snap.term, .slice a4 (x.snap.config.voters).length c4, .slice a5 (x.snap.config.learners).length c5, .string x.snap.data, .slice a7 (x.entries).length c7] ∧ I64 x.term ∧ I64 x.vote ∧ I64 x.snap.index ∧ I64 x.snap.term ∧ SlI w S a4 (x.snap.config.voters).length c4 x.snap.config.voters ∧ SlI w S a5 (x.snap.config.learners).length c5 x.snap.config.learners ∧ (x.snap.data).size ≤ 140737488355328 ∧ Sl w S Entry.ty a7 (x.entries).length c7 ((x.entries).map Entry.enc) := by
  match vs, h with
  | [v0, v1, v2, v3, v4, v5, v6, v7], h =>
    obtain ⟨h0, h1, h2, h3, h4, h5, h6, h7, _⟩ := h
    obtain ⟨rfl, k0⟩ := h0.i64
    obtain ⟨rfl, k1⟩ := h1.i64
    obtain ⟨rfl, k2⟩ := h2.i64
    obtain ⟨rfl, k3⟩ := h3.i64
    obtain ⟨a4, c4, rfl, k4⟩ := h4.sl'
    rw [ints_len] at k4
    obtain ⟨a5, c5, rfl, k5⟩ := h5.sl'
    rw [ints_len] at k5
    obtain ⟨rfl, k6⟩ := h6.str'
    obtain ⟨a7, c7, rfl, k7⟩ := h7.sl'
    rw [List.length_map] at k7
    exact ⟨a4, c4, a5, c5, a7, c7, (by simp [ints, List.length_map]), k0, k1, k2, k3, k4, k5, k6, k7⟩
theorem Kept.shuts {w : World} {S : Nat → Prop} (x : Kept) {a4 : Option Addr} {c4 : Nat} {a5 : Option Addr} {c5 : Nat} {a7 : Option Addr} {c7 : Nat} (k0 : I64 x.term) (k1 : I64 x.vote) (k2 : I64 x.snap.index) (k3 : I64 x.snap.term) (k4 : SlI w S a4 (x.snap.config.voters).length c4 x.snap.config.voters) (k5 : SlI w S a5 (x.snap.config.learners).length c5 x.snap.config.learners) (k6 : (x.snap.data).size ≤ 140737488355328) (k7 : Sl w S Entry.ty a7 (x.entries).length c7 ((x.entries).map Entry.enc)) : RdL w S Kept.ty [.int .i64 x.term, .int .i64 x.vote, .int .i64 x.snap.index, .int .i64 x.snap.term, .slice a4 (x.snap.config.voters).length c4, .slice a5 (x.snap.config.learners).length c5, .string x.snap.data, .slice a7 (x.entries).length c7] x.enc := by
  exact ⟨.ofI64 k0, .ofI64 k1, .ofI64 k2, .ofI64 k3, k4, k5, .str k6, k7, trivial⟩
theorem Kept.row {w : World} {S : Nat → Prop} {b off n c i : Nat} {xs : List Kept} (h : Sl w S Kept.ty (some ⟨b, off, none⟩) n c (xs.map Kept.enc)) (hi : i < n) : S b ∧ b < w.heap.size ∧ ∃ (a4 : Option Addr) (c4 : Nat) (a5 : Option Addr) (c5 : Nat) (a7 : Option Addr) (c7 : Nat), w.cell? ⟨b, off + i * 8, none⟩ = some (.int .i64 (xs.getD i default).term) ∧ w.cell? ⟨b, off + i * 8 + 1, none⟩ = some (.int .i64 (xs.getD i default).vote) ∧ w.cell? ⟨b, off + i * 8 + 2, none⟩ = some (.int .i64 (xs.getD i default).snap.index) ∧ w.cell? ⟨b, off + i * 8 + 3, none⟩ = some (.int .i64 (xs.getD i default).snap.term) ∧ w.cell? ⟨b, off + i * 8 + 4, none⟩ = some (.slice a4 ((xs.getD i default).snap.config.voters).length c4) ∧ w.cell? ⟨b, off + i * 8 + 5, none⟩ = some (.slice a5 ((xs.getD i default).snap.config.learners).length c5) ∧ w.cell? ⟨b, off + i * 8 + 6, none⟩ = some (.string (xs.getD i default).snap.data) ∧ w.cell? ⟨b, off + i * 8 + 7, none⟩ = some (.slice a7 ((xs.getD i default).entries).length c7) ∧ I64 (xs.getD i default).term ∧ I64 (xs.getD i default).vote ∧ I64 (xs.getD i default).snap.index ∧ I64 (xs.getD i default).snap.term ∧ SlI w S a4 ((xs.getD i default).snap.config.voters).length c4 (xs.getD i default).snap.config.voters ∧ SlI w S a5 ((xs.getD i default).snap.config.learners).length c5 (xs.getD i default).snap.config.learners ∧ ((xs.getD i default).snap.data).size ≤ 140737488355328 ∧ Sl w S Entry.ty a7 ((xs.getD i default).entries).length c7 (((xs.getD i default).entries).map Entry.enc) := by
  have hl := h.len
  rw [List.length_map] at hl
  obtain ⟨b2, off2, e, hS, hb, vals, hc, hr⟩ := h.rowAt (by omega)
  simp only [Option.some.injEq, Addr.mk.injEq, and_true] at e
  obtain ⟨rfl, rfl⟩ := e
  have hr1 := hr i hi
  have he : (xs.map Kept.enc).getD i [] = (xs.getD i default).enc := by simp [List.getD, show i < xs.length by omega]
  rw [he] at hr1
  have hL := RdL.of_at (ts := Kept.ty) (vals i) hr1.1 hr1.2
  obtain ⟨a4, c4, a5, c5, a7, c7, e, k0, k1, k2, k3, k4, k5, k6, k7⟩ := Kept.opens hL
  rw [show Kept.ty.length = 8 from rfl] at hc e
  simp only [List.range_succ, List.range_zero, List.nil_append, List.cons_append, List.map_cons, List.map_nil, List.cons.injEq, and_true] at e
  obtain ⟨e0, e1, e2, e3, e4, e5, e6, e7⟩ := e
  refine ⟨hS, hb, a4, c4, a5, c5, a7, c7, ?_, ?_, ?_, ?_, ?_, ?_, ?_, ?_, k0, k1, k2, k3, k4, k5, k6, k7⟩
  · rw [← e0]; exact hc i 0 hi (by omega)
  · rw [← e1]; exact hc i 1 hi (by omega)
  · rw [← e2]; exact hc i 2 hi (by omega)
  · rw [← e3]; exact hc i 3 hi (by omega)
  · rw [← e4]; exact hc i 4 hi (by omega)
  · rw [← e5]; exact hc i 5 hi (by omega)
  · rw [← e6]; exact hc i 6 hi (by omega)
  · rw [← e7]; exact hc i 7 hi (by omega)
theorem Kept.dec {w : World} {S : Nat → Prop} {vs : List Value} {ds : List D} (h : RdL w S Kept.ty vs ds) : ∃ x : Kept, ds = x.enc := by
  have hl := h.lens
  rw [Kept.ty_len] at hl
  obtain ⟨v0, v1, v2, v3, v4, v5, v6, v7, rfl⟩ := list8 hl.1
  obtain ⟨d0, d1, d2, d3, d4, d5, d6, d7, rfl⟩ := list8 hl.2
  obtain ⟨h0, h1, h2, h3, h4, h5, h6, h7, _⟩ := h
  obtain ⟨x0, _, rfl, _⟩ := h0.int_inv
  obtain ⟨x1, _, rfl, _⟩ := h1.int_inv
  obtain ⟨x2, _, rfl, _⟩ := h2.int_inv
  obtain ⟨x3, _, rfl, _⟩ := h3.int_inv
  obtain ⟨x4, rfl⟩ := ints_dec h4
  obtain ⟨x5, rfl⟩ := ints_dec h5
  obtain ⟨x6, _, rfl⟩ := h6.str_inv
  obtain ⟨x7, rfl⟩ := Rd.dec Entry.enc (fun _ _ => Entry.dec) h7
  exact ⟨⟨x0, x1, ⟨x2, x3, ⟨x4, x5⟩, x6⟩, x7⟩, rfl⟩
structure Record where
  kind : Int
  term : Int
  vote : Int
  entry : Entry
  index : Int
  snap : Snap
  deriving DecidableEq, Inhabited
def Record.ty : List Ty := [.int .i64, .int .i64, .int .i64, .int .i64, .int .i64, .int .i64, .sl [.int .i64], .sl [.int .i64], .str, .int .i64, .int .i64, .int .i64, .sl [.int .i64], .sl [.int .i64], .str]
def Record.enc (x : Record) : List D := [.int x.kind, .int x.term, .int x.vote, .int x.entry.index, .int x.entry.term, .int x.entry.kind, .sl (ints x.entry.config.voters), .sl (ints x.entry.config.learners), .str x.entry.data, .int x.index, .int x.snap.index, .int x.snap.term, .sl (ints x.snap.config.voters), .sl (ints x.snap.config.learners), .str x.snap.data]
theorem Record.ty_len : Record.ty.length = 15 := rfl
theorem Record.enc_len (x : Record) : x.enc.length = 15 := rfl
theorem Record.opens {w : World} {S : Nat → Prop} {vs : List Value} {x : Record} (h : RdL w S Record.ty vs x.enc) : ∃ (a6 : Option Addr) (c6 : Nat) (a7 : Option Addr) (c7 : Nat) (a12 : Option Addr) (c12 : Nat) (a13 : Option Addr) (c13 : Nat), vs = [.int .i64 x.kind, .int .i64 x.term, .int .i64 x.vote, .int .i64 x.entry.index, .int .i64 x.entry.term, .int .i64 x.entry.kind, .slice a6 (x.entry.config.voters).length c6, .slice a7 (x.entry.config.learners).length c7, .string x.entry.data, .int .i64 x.index, .int .i64 x.snap.index, .int .i64 x.snap.term, .slice a12 (x.snap.config.voters).length c12, .slice a13 (x.snap.config.learners).length c13, .string x.snap.data] ∧ I64 x.kind ∧ I64 x.term ∧ I64 x.vote ∧ I64 x.entry.index ∧ I64 x.entry.term ∧ I64 x.entry.kind ∧ SlI w S a6 (x.entry.config.voters).length c6 x.entry.config.voters ∧ SlI w S a7 (x.entry.config.learners).length c7 x.entry.config.learners ∧ (x.entry.data).size ≤ 140737488355328 ∧ I64 x.index ∧ I64 x.snap.index ∧ I64 x.snap.term ∧ SlI w S a12 (x.snap.config.voters).length c12 x.snap.config.voters ∧ SlI w S a13 (x.snap.config.learners).length c13 x.snap.config.learners ∧ (x.snap.data).size ≤ 140737488355328 := by
  match vs, h with
  | [v0, v1, v2, v3, v4, v5, v6, v7, v8, v9, v10, v11, v12, v13, v14], h =>
    obtain ⟨h0, h1, h2, h3, h4, h5, h6, h7, h8, h9, h10, h11, h12, h13, h14, _⟩ := h
    obtain ⟨rfl, k0⟩ := h0.i64
    obtain ⟨rfl, k1⟩ := h1.i64
    obtain ⟨rfl, k2⟩ := h2.i64
    obtain ⟨rfl, k3⟩ := h3.i64
    obtain ⟨rfl, k4⟩ := h4.i64
    obtain ⟨rfl, k5⟩ := h5.i64
    obtain ⟨a6, c6, rfl, k6⟩ := h6.sl'
    rw [ints_len] at k6
    obtain ⟨a7, c7, rfl, k7⟩ := h7.sl'
    rw [ints_len] at k7
    obtain ⟨rfl, k8⟩ := h8.str'
    obtain ⟨rfl, k9⟩ := h9.i64
    obtain ⟨rfl, k10⟩ := h10.i64
    obtain ⟨rfl, k11⟩ := h11.i64
    obtain ⟨a12, c12, rfl, k12⟩ := h12.sl'
    rw [ints_len] at k12
    obtain ⟨a13, c13, rfl, k13⟩ := h13.sl'
    rw [ints_len] at k13
    obtain ⟨rfl, k14⟩ := h14.str'
    exact ⟨a6, c6, a7, c7, a12, c12, a13, c13, (by simp [ints, List.length_map]), k0, k1, k2, k3, k4, k5, k6, k7, k8, k9, k10, k11, k12, k13, k14⟩
theorem Record.shuts {w : World} {S : Nat → Prop} (x : Record) {a6 : Option Addr} {c6 : Nat} {a7 : Option Addr} {c7 : Nat} {a12 : Option Addr} {c12 : Nat} {a13 : Option Addr} {c13 : Nat} (k0 : I64 x.kind) (k1 : I64 x.term) (k2 : I64 x.vote) (k3 : I64 x.entry.index) (k4 : I64 x.entry.term) (k5 : I64 x.entry.kind) (k6 : SlI w S a6 (x.entry.config.voters).length c6 x.entry.config.voters) (k7 : SlI w S a7 (x.entry.config.learners).length c7 x.entry.config.learners) (k8 : (x.entry.data).size ≤ 140737488355328) (k9 : I64 x.index) (k10 : I64 x.snap.index) (k11 : I64 x.snap.term) (k12 : SlI w S a12 (x.snap.config.voters).length c12 x.snap.config.voters) (k13 : SlI w S a13 (x.snap.config.learners).length c13 x.snap.config.learners) (k14 : (x.snap.data).size ≤ 140737488355328) : RdL w S Record.ty [.int .i64 x.kind, .int .i64 x.term, .int .i64 x.vote, .int .i64 x.entry.index, .int .i64 x.entry.term, .int .i64 x.entry.kind, .slice a6 (x.entry.config.voters).length c6, .slice a7 (x.entry.config.learners).length c7, .string x.entry.data, .int .i64 x.index, .int .i64 x.snap.index, .int .i64 x.snap.term, .slice a12 (x.snap.config.voters).length c12, .slice a13 (x.snap.config.learners).length c13, .string x.snap.data] x.enc := by
  exact ⟨.ofI64 k0, .ofI64 k1, .ofI64 k2, .ofI64 k3, .ofI64 k4, .ofI64 k5, k6, k7, .str k8, .ofI64 k9, .ofI64 k10, .ofI64 k11, k12, k13, .str k14, trivial⟩
theorem Record.row {w : World} {S : Nat → Prop} {b off n c i : Nat} {xs : List Record} (h : Sl w S Record.ty (some ⟨b, off, none⟩) n c (xs.map Record.enc)) (hi : i < n) : S b ∧ b < w.heap.size ∧ ∃ (a6 : Option Addr) (c6 : Nat) (a7 : Option Addr) (c7 : Nat) (a12 : Option Addr) (c12 : Nat) (a13 : Option Addr) (c13 : Nat), w.cell? ⟨b, off + i * 15, none⟩ = some (.int .i64 (xs.getD i default).kind) ∧ w.cell? ⟨b, off + i * 15 + 1, none⟩ = some (.int .i64 (xs.getD i default).term) ∧ w.cell? ⟨b, off + i * 15 + 2, none⟩ = some (.int .i64 (xs.getD i default).vote) ∧ w.cell? ⟨b, off + i * 15 + 3, none⟩ = some (.int .i64 (xs.getD i default).entry.index) ∧ w.cell? ⟨b, off + i * 15 + 4, none⟩ = some (.int .i64 (xs.getD i default).entry.term) ∧ w.cell? ⟨b, off + i * 15 + 5, none⟩ = some (.int .i64 (xs.getD i default).entry.kind) ∧ w.cell? ⟨b, off + i * 15 + 6, none⟩ = some (.slice a6 ((xs.getD i default).entry.config.voters).length c6) ∧ w.cell? ⟨b, off + i * 15 + 7, none⟩ = some (.slice a7 ((xs.getD i default).entry.config.learners).length c7) ∧ w.cell? ⟨b, off + i * 15 + 8, none⟩ = some (.string (xs.getD i default).entry.data) ∧ w.cell? ⟨b, off + i * 15 + 9, none⟩ = some (.int .i64 (xs.getD i default).index) ∧ w.cell? ⟨b, off + i * 15 + 10, none⟩ = some (.int .i64 (xs.getD i default).snap.index) ∧ w.cell? ⟨b, off + i * 15 + 11, none⟩ = some (.int .i64 (xs.getD i default).snap.term) ∧ w.cell? ⟨b, off + i * 15 + 12, none⟩ = some (.slice a12 ((xs.getD i default).snap.config.voters).length c12) ∧ w.cell? ⟨b, off + i * 15 + 13, none⟩ = some (.slice a13 ((xs.getD i default).snap.config.learners).length c13) ∧ w.cell? ⟨b, off + i * 15 + 14, none⟩ = some (.string (xs.getD i default).snap.data) ∧ I64 (xs.getD i default).kind ∧ I64 (xs.getD i default).term ∧ I64 (xs.getD i default).vote ∧ I64 (xs.getD i default).entry.index ∧ I64 (xs.getD i default).entry.term ∧ I64 (xs.getD i default).entry.kind ∧ SlI w S a6 ((xs.getD i default).entry.config.voters).length c6 (xs.getD i default).entry.config.voters ∧ SlI w S a7 ((xs.getD i default).entry.config.learners).length c7 (xs.getD i default).entry.config.learners ∧ ((xs.getD i default).entry.data).size ≤ 140737488355328 ∧ I64 (xs.getD i default).index ∧ I64 (xs.getD i default).snap.index ∧ I64 (xs.getD i default).snap.term ∧ SlI w S a12 ((xs.getD i default).snap.config.voters).length c12 (xs.getD i default).snap.config.voters ∧ SlI w S a13 ((xs.getD i default).snap.config.learners).length c13 (xs.getD i default).snap.config.learners ∧ ((xs.getD i default).snap.data).size ≤ 140737488355328 := by
  have hl := h.len
  rw [List.length_map] at hl
  obtain ⟨b2, off2, e, hS, hb, vals, hc, hr⟩ := h.rowAt (by omega)
  simp only [Option.some.injEq, Addr.mk.injEq, and_true] at e
  obtain ⟨rfl, rfl⟩ := e
  have hr1 := hr i hi
  have he : (xs.map Record.enc).getD i [] = (xs.getD i default).enc := by simp [List.getD, show i < xs.length by omega]
  rw [he] at hr1
  have hL := RdL.of_at (ts := Record.ty) (vals i) hr1.1 hr1.2
  obtain ⟨a6, c6, a7, c7, a12, c12, a13, c13, e, k0, k1, k2, k3, k4, k5, k6, k7, k8, k9, k10, k11, k12, k13, k14⟩ := Record.opens hL
  rw [show Record.ty.length = 15 from rfl] at hc e
  simp only [List.range_succ, List.range_zero, List.nil_append, List.cons_append, List.map_cons, List.map_nil, List.cons.injEq, and_true] at e
  obtain ⟨e0, e1, e2, e3, e4, e5, e6, e7, e8, e9, e10, e11, e12, e13, e14⟩ := e
  refine ⟨hS, hb, a6, c6, a7, c7, a12, c12, a13, c13, ?_, ?_, ?_, ?_, ?_, ?_, ?_, ?_, ?_, ?_, ?_, ?_, ?_, ?_, ?_, k0, k1, k2, k3, k4, k5, k6, k7, k8, k9, k10, k11, k12, k13, k14⟩
  · rw [← e0]; exact hc i 0 hi (by omega)
  · rw [← e1]; exact hc i 1 hi (by omega)
  · rw [← e2]; exact hc i 2 hi (by omega)
  · rw [← e3]; exact hc i 3 hi (by omega)
  · rw [← e4]; exact hc i 4 hi (by omega)
  · rw [← e5]; exact hc i 5 hi (by omega)
  · rw [← e6]; exact hc i 6 hi (by omega)
  · rw [← e7]; exact hc i 7 hi (by omega)
  · rw [← e8]; exact hc i 8 hi (by omega)
  · rw [← e9]; exact hc i 9 hi (by omega)
  · rw [← e10]; exact hc i 10 hi (by omega)
  · rw [← e11]; exact hc i 11 hi (by omega)
  · rw [← e12]; exact hc i 12 hi (by omega)
  · rw [← e13]; exact hc i 13 hi (by omega)
  · rw [← e14]; exact hc i 14 hi (by omega)
theorem Record.dec {w : World} {S : Nat → Prop} {vs : List Value} {ds : List D} (h : RdL w S Record.ty vs ds) : ∃ x : Record, ds = x.enc := by
  have hl := h.lens
  rw [Record.ty_len] at hl
  obtain ⟨v0, v1, v2, v3, v4, v5, v6, v7, v8, v9, v10, v11, v12, v13, v14, rfl⟩ := list15 hl.1
  obtain ⟨d0, d1, d2, d3, d4, d5, d6, d7, d8, d9, d10, d11, d12, d13, d14, rfl⟩ := list15 hl.2
  obtain ⟨h0, h1, h2, h3, h4, h5, h6, h7, h8, h9, h10, h11, h12, h13, h14, _⟩ := h
  obtain ⟨x0, _, rfl, _⟩ := h0.int_inv
  obtain ⟨x1, _, rfl, _⟩ := h1.int_inv
  obtain ⟨x2, _, rfl, _⟩ := h2.int_inv
  obtain ⟨x3, _, rfl, _⟩ := h3.int_inv
  obtain ⟨x4, _, rfl, _⟩ := h4.int_inv
  obtain ⟨x5, _, rfl, _⟩ := h5.int_inv
  obtain ⟨x6, rfl⟩ := ints_dec h6
  obtain ⟨x7, rfl⟩ := ints_dec h7
  obtain ⟨x8, _, rfl⟩ := h8.str_inv
  obtain ⟨x9, _, rfl, _⟩ := h9.int_inv
  obtain ⟨x10, _, rfl, _⟩ := h10.int_inv
  obtain ⟨x11, _, rfl, _⟩ := h11.int_inv
  obtain ⟨x12, rfl⟩ := ints_dec h12
  obtain ⟨x13, rfl⟩ := ints_dec h13
  obtain ⟨x14, _, rfl⟩ := h14.str_inv
  exact ⟨⟨x0, x1, x2, ⟨x3, x4, x5, ⟨x6, x7⟩, x8⟩, x9, ⟨x10, x11, ⟨x12, x13⟩, x14⟩⟩, rfl⟩
end Go.Proofs.Yteiojclemodhaaa
