/- The struct types of the program as Lean structures, and their readings. Written by a program (gen_ty.py). No condition. -/
import Derived.Test.YtjfphnegcelbpaaRd
namespace Go.Proofs.Ytjfphnegcelbpaa
open Go.RowKit Go.ChangeShapes Go.WideShapes Go.Deep
set_option linter.unusedVariables false
set_option linter.unusedSimpArgs false
theorem list2 {α : Type} {l : List α} (h : l.length = 2) : ∃ v0 v1, l = [v0, v1] := by
  match l, h with
  | [v0, v1], _ => exact ⟨v0, v1, rfl⟩
theorem box2 {w : World} {g : Nat} {t : TypeId} {v0 v1 : Value} (h : Blk w g t #[v0, v1]) : w.cell? ⟨g, 0, none⟩ = some v0 ∧ w.cell? ⟨g, 1, none⟩ = some v1 :=
  ⟨h.cell 0, h.cell 1⟩
theorem thaw2 {w : World} {g : Nat} {t : TypeId} {v0 v1 : Value} (h : Blk w g t #[v0, v1]) : w.frozen? ⟨g, 0, none⟩ = false ∧ w.frozen? ⟨g, 1, none⟩ = false :=
  ⟨h.frozen 0, h.frozen 1⟩
theorem list3 {α : Type} {l : List α} (h : l.length = 3) : ∃ v0 v1 v2, l = [v0, v1, v2] := by
  match l, h with
  | [v0, v1, v2], _ => exact ⟨v0, v1, v2, rfl⟩
theorem box3 {w : World} {g : Nat} {t : TypeId} {v0 v1 v2 : Value} (h : Blk w g t #[v0, v1, v2]) : w.cell? ⟨g, 0, none⟩ = some v0 ∧ w.cell? ⟨g, 1, none⟩ = some v1 ∧ w.cell? ⟨g, 2, none⟩ = some v2 :=
  ⟨h.cell 0, h.cell 1, h.cell 2⟩
theorem thaw3 {w : World} {g : Nat} {t : TypeId} {v0 v1 v2 : Value} (h : Blk w g t #[v0, v1, v2]) : w.frozen? ⟨g, 0, none⟩ = false ∧ w.frozen? ⟨g, 1, none⟩ = false ∧ w.frozen? ⟨g, 2, none⟩ = false :=
  ⟨h.frozen 0, h.frozen 1, h.frozen 2⟩
theorem list6 {α : Type} {l : List α} (h : l.length = 6) : ∃ v0 v1 v2 v3 v4 v5, l = [v0, v1, v2, v3, v4, v5] := by
  match l, h with
  | [v0, v1, v2, v3, v4, v5], _ => exact ⟨v0, v1, v2, v3, v4, v5, rfl⟩
theorem box6 {w : World} {g : Nat} {t : TypeId} {v0 v1 v2 v3 v4 v5 : Value} (h : Blk w g t #[v0, v1, v2, v3, v4, v5]) : w.cell? ⟨g, 0, none⟩ = some v0 ∧ w.cell? ⟨g, 1, none⟩ = some v1 ∧ w.cell? ⟨g, 2, none⟩ = some v2 ∧ w.cell? ⟨g, 3, none⟩ = some v3 ∧ w.cell? ⟨g, 4, none⟩ = some v4 ∧ w.cell? ⟨g, 5, none⟩ = some v5 :=
  ⟨h.cell 0, h.cell 1, h.cell 2, h.cell 3, h.cell 4, h.cell 5⟩
theorem thaw6 {w : World} {g : Nat} {t : TypeId} {v0 v1 v2 v3 v4 v5 : Value} (h : Blk w g t #[v0, v1, v2, v3, v4, v5]) : w.frozen? ⟨g, 0, none⟩ = false ∧ w.frozen? ⟨g, 1, none⟩ = false ∧ w.frozen? ⟨g, 2, none⟩ = false ∧ w.frozen? ⟨g, 3, none⟩ = false ∧ w.frozen? ⟨g, 4, none⟩ = false ∧ w.frozen? ⟨g, 5, none⟩ = false :=
  ⟨h.frozen 0, h.frozen 1, h.frozen 2, h.frozen 3, h.frozen 4, h.frozen 5⟩
structure Sent where
  ask : Int
  at_ : Int
  deriving DecidableEq, Inhabited
def Sent.ty : List Ty := [.int .i64, .int .i64]
def Sent.enc (x : Sent) : List D := [.int x.ask, .int x.at_]
theorem Sent.ty_len : Sent.ty.length = 2 := rfl
theorem Sent.enc_len (x : Sent) : x.enc.length = 2 := rfl
theorem Sent.opens {w : World} {S : Nat → Prop} {vs : List Value} {x : Sent} (h : RdL w S Sent.ty vs x.enc) : vs = [.int .i64 x.ask, .int .i64 x.at_] ∧ I64 x.ask ∧ I64 x.at_ := by
  match vs, h with
  | [v0, v1], h =>
    obtain ⟨h0, h1, _⟩ := h
    obtain ⟨rfl, k0⟩ := h0.i64
    obtain ⟨rfl, k1⟩ := h1.i64
    exact ⟨rfl, k0, k1⟩
theorem Sent.shuts {w : World} {S : Nat → Prop} (x : Sent) (k0 : I64 x.ask) (k1 : I64 x.at_) : RdL w S Sent.ty [.int .i64 x.ask, .int .i64 x.at_] x.enc := by
  exact ⟨.ofI64 k0, .ofI64 k1, trivial⟩
theorem Sent.row {w : World} {S : Nat → Prop} {b off n c i : Nat} {xs : List Sent} (h : Sl w S Sent.ty (some ⟨b, off, none⟩) n c (xs.map Sent.enc)) (hi : i < n) : S b ∧ b < w.heap.size ∧ w.cell? ⟨b, off + i * 2, none⟩ = some (.int .i64 (xs.getD i default).ask) ∧ w.cell? ⟨b, off + i * 2 + 1, none⟩ = some (.int .i64 (xs.getD i default).at_) ∧ I64 (xs.getD i default).ask ∧ I64 (xs.getD i default).at_ := by
  have hl := h.len
  rw [List.length_map] at hl
  obtain ⟨b2, off2, e, hS, hb, vals, hc, hr⟩ := h.rowAt (by omega)
  simp only [Option.some.injEq, Addr.mk.injEq, and_true] at e
  obtain ⟨rfl, rfl⟩ := e
  have hr1 := hr i hi
  have he : (xs.map Sent.enc).getD i [] = (xs.getD i default).enc := by simp [List.getD, show i < xs.length by omega]
  rw [he] at hr1
  have hL := RdL.of_at (ts := Sent.ty) (vals i) hr1.1 hr1.2
  obtain ⟨e, k0, k1⟩ := Sent.opens hL
  rw [show Sent.ty.length = 2 from rfl] at hc e
  simp only [List.range_succ, List.range_zero, List.nil_append, List.cons_append, List.map_cons, List.map_nil, List.cons.injEq, and_true] at e
  obtain ⟨e0, e1⟩ := e
  refine ⟨hS, hb, ?_, ?_, k0, k1⟩
  · rw [← e0]; exact hc i 0 hi (by omega)
  · rw [← e1]; exact hc i 1 hi (by omega)
theorem Sent.dec {w : World} {S : Nat → Prop} {vs : List Value} {ds : List D} (h : RdL w S Sent.ty vs ds) : ∃ x : Sent, ds = x.enc := by
  have hl := h.lens
  rw [Sent.ty_len] at hl
  obtain ⟨v0, v1, rfl⟩ := list2 hl.1
  obtain ⟨d0, d1, rfl⟩ := list2 hl.2
  obtain ⟨h0, h1, _⟩ := h
  obtain ⟨x0, _, rfl, _⟩ := h0.int_inv
  obtain ⟨x1, _, rfl, _⟩ := h1.int_inv
  exact ⟨⟨x0, x1⟩, rfl⟩
structure Holder where
  node : Int
  now : Int
  ask : Int
  sent : List Sent
  seq : Int
  at_ : Int
  deriving DecidableEq, Inhabited
def Holder.ty : List Ty := [.int .i64, .int .i64, .int .i64, .sl Sent.ty, .int .i64, .int .i64]
def Holder.enc (x : Holder) : List D := [.int x.node, .int x.now, .int x.ask, .sl (x.sent.map Sent.enc), .int x.seq, .int x.at_]
theorem Holder.ty_len : Holder.ty.length = 6 := rfl
theorem Holder.enc_len (x : Holder) : x.enc.length = 6 := rfl
theorem Holder.opens {w : World} {S : Nat → Prop} {vs : List Value} {x : Holder} (h : RdL w S Holder.ty vs x.enc) : ∃ (a3 : Option Addr) (c3 : Nat), vs = [.int .i64 x.node, .int .i64 x.now, .int .i64 x.ask, .slice a3 (x.sent).length c3, .int .i64 x.seq, .int .i64 x.at_] ∧ I64 x.node ∧ I64 x.now ∧ I64 x.ask ∧ Sl w S Sent.ty a3 (x.sent).length c3 ((x.sent).map Sent.enc) ∧ I64 x.seq ∧ I64 x.at_ := by
  match vs, h with
  | [v0, v1, v2, v3, v4, v5], h =>
    obtain ⟨h0, h1, h2, h3, h4, h5, _⟩ := h
    obtain ⟨rfl, k0⟩ := h0.i64
    obtain ⟨rfl, k1⟩ := h1.i64
    obtain ⟨rfl, k2⟩ := h2.i64
    obtain ⟨a3, c3, rfl, k3⟩ := h3.sl'
    rw [List.length_map] at k3
    obtain ⟨rfl, k4⟩ := h4.i64
    obtain ⟨rfl, k5⟩ := h5.i64
    exact ⟨a3, c3, (by simp [ints, List.length_map]), k0, k1, k2, k3, k4, k5⟩
theorem Holder.shuts {w : World} {S : Nat → Prop} (x : Holder) {a3 : Option Addr} {c3 : Nat} (k0 : I64 x.node) (k1 : I64 x.now) (k2 : I64 x.ask) (k3 : Sl w S Sent.ty a3 (x.sent).length c3 ((x.sent).map Sent.enc)) (k4 : I64 x.seq) (k5 : I64 x.at_) : RdL w S Holder.ty [.int .i64 x.node, .int .i64 x.now, .int .i64 x.ask, .slice a3 (x.sent).length c3, .int .i64 x.seq, .int .i64 x.at_] x.enc := by
  exact ⟨.ofI64 k0, .ofI64 k1, .ofI64 k2, k3, .ofI64 k4, .ofI64 k5, trivial⟩
theorem Holder.row {w : World} {S : Nat → Prop} {b off n c i : Nat} {xs : List Holder} (h : Sl w S Holder.ty (some ⟨b, off, none⟩) n c (xs.map Holder.enc)) (hi : i < n) : S b ∧ b < w.heap.size ∧ ∃ (a3 : Option Addr) (c3 : Nat), w.cell? ⟨b, off + i * 6, none⟩ = some (.int .i64 (xs.getD i default).node) ∧ w.cell? ⟨b, off + i * 6 + 1, none⟩ = some (.int .i64 (xs.getD i default).now) ∧ w.cell? ⟨b, off + i * 6 + 2, none⟩ = some (.int .i64 (xs.getD i default).ask) ∧ w.cell? ⟨b, off + i * 6 + 3, none⟩ = some (.slice a3 ((xs.getD i default).sent).length c3) ∧ w.cell? ⟨b, off + i * 6 + 4, none⟩ = some (.int .i64 (xs.getD i default).seq) ∧ w.cell? ⟨b, off + i * 6 + 5, none⟩ = some (.int .i64 (xs.getD i default).at_) ∧ I64 (xs.getD i default).node ∧ I64 (xs.getD i default).now ∧ I64 (xs.getD i default).ask ∧ Sl w S Sent.ty a3 ((xs.getD i default).sent).length c3 (((xs.getD i default).sent).map Sent.enc) ∧ I64 (xs.getD i default).seq ∧ I64 (xs.getD i default).at_ := by
  have hl := h.len
  rw [List.length_map] at hl
  obtain ⟨b2, off2, e, hS, hb, vals, hc, hr⟩ := h.rowAt (by omega)
  simp only [Option.some.injEq, Addr.mk.injEq, and_true] at e
  obtain ⟨rfl, rfl⟩ := e
  have hr1 := hr i hi
  have he : (xs.map Holder.enc).getD i [] = (xs.getD i default).enc := by simp [List.getD, show i < xs.length by omega]
  rw [he] at hr1
  have hL := RdL.of_at (ts := Holder.ty) (vals i) hr1.1 hr1.2
  obtain ⟨a3, c3, e, k0, k1, k2, k3, k4, k5⟩ := Holder.opens hL
  rw [show Holder.ty.length = 6 from rfl] at hc e
  simp only [List.range_succ, List.range_zero, List.nil_append, List.cons_append, List.map_cons, List.map_nil, List.cons.injEq, and_true] at e
  obtain ⟨e0, e1, e2, e3, e4, e5⟩ := e
  refine ⟨hS, hb, a3, c3, ?_, ?_, ?_, ?_, ?_, ?_, k0, k1, k2, k3, k4, k5⟩
  · rw [← e0]; exact hc i 0 hi (by omega)
  · rw [← e1]; exact hc i 1 hi (by omega)
  · rw [← e2]; exact hc i 2 hi (by omega)
  · rw [← e3]; exact hc i 3 hi (by omega)
  · rw [← e4]; exact hc i 4 hi (by omega)
  · rw [← e5]; exact hc i 5 hi (by omega)
theorem Holder.dec {w : World} {S : Nat → Prop} {vs : List Value} {ds : List D} (h : RdL w S Holder.ty vs ds) : ∃ x : Holder, ds = x.enc := by
  have hl := h.lens
  rw [Holder.ty_len] at hl
  obtain ⟨v0, v1, v2, v3, v4, v5, rfl⟩ := list6 hl.1
  obtain ⟨d0, d1, d2, d3, d4, d5, rfl⟩ := list6 hl.2
  obtain ⟨h0, h1, h2, h3, h4, h5, _⟩ := h
  obtain ⟨x0, _, rfl, _⟩ := h0.int_inv
  obtain ⟨x1, _, rfl, _⟩ := h1.int_inv
  obtain ⟨x2, _, rfl, _⟩ := h2.int_inv
  obtain ⟨x3, rfl⟩ := Rd.dec Sent.enc (fun _ _ => Sent.dec) h3
  obtain ⟨x4, _, rfl, _⟩ := h4.int_inv
  obtain ⟨x5, _, rfl, _⟩ := h5.int_inv
  exact ⟨⟨x0, x1, x2, x3, x4, x5⟩, rfl⟩
structure Wait where
  seq : Int
  at_ : Int
  deriving DecidableEq, Inhabited
def Wait.ty : List Ty := [.int .i64, .int .i64]
def Wait.enc (x : Wait) : List D := [.int x.seq, .int x.at_]
theorem Wait.ty_len : Wait.ty.length = 2 := rfl
theorem Wait.enc_len (x : Wait) : x.enc.length = 2 := rfl
theorem Wait.opens {w : World} {S : Nat → Prop} {vs : List Value} {x : Wait} (h : RdL w S Wait.ty vs x.enc) : vs = [.int .i64 x.seq, .int .i64 x.at_] ∧ I64 x.seq ∧ I64 x.at_ := by
  match vs, h with
  | [v0, v1], h =>
    obtain ⟨h0, h1, _⟩ := h
    obtain ⟨rfl, k0⟩ := h0.i64
    obtain ⟨rfl, k1⟩ := h1.i64
    exact ⟨rfl, k0, k1⟩
theorem Wait.shuts {w : World} {S : Nat → Prop} (x : Wait) (k0 : I64 x.seq) (k1 : I64 x.at_) : RdL w S Wait.ty [.int .i64 x.seq, .int .i64 x.at_] x.enc := by
  exact ⟨.ofI64 k0, .ofI64 k1, trivial⟩
theorem Wait.row {w : World} {S : Nat → Prop} {b off n c i : Nat} {xs : List Wait} (h : Sl w S Wait.ty (some ⟨b, off, none⟩) n c (xs.map Wait.enc)) (hi : i < n) : S b ∧ b < w.heap.size ∧ w.cell? ⟨b, off + i * 2, none⟩ = some (.int .i64 (xs.getD i default).seq) ∧ w.cell? ⟨b, off + i * 2 + 1, none⟩ = some (.int .i64 (xs.getD i default).at_) ∧ I64 (xs.getD i default).seq ∧ I64 (xs.getD i default).at_ := by
  have hl := h.len
  rw [List.length_map] at hl
  obtain ⟨b2, off2, e, hS, hb, vals, hc, hr⟩ := h.rowAt (by omega)
  simp only [Option.some.injEq, Addr.mk.injEq, and_true] at e
  obtain ⟨rfl, rfl⟩ := e
  have hr1 := hr i hi
  have he : (xs.map Wait.enc).getD i [] = (xs.getD i default).enc := by simp [List.getD, show i < xs.length by omega]
  rw [he] at hr1
  have hL := RdL.of_at (ts := Wait.ty) (vals i) hr1.1 hr1.2
  obtain ⟨e, k0, k1⟩ := Wait.opens hL
  rw [show Wait.ty.length = 2 from rfl] at hc e
  simp only [List.range_succ, List.range_zero, List.nil_append, List.cons_append, List.map_cons, List.map_nil, List.cons.injEq, and_true] at e
  obtain ⟨e0, e1⟩ := e
  refine ⟨hS, hb, ?_, ?_, k0, k1⟩
  · rw [← e0]; exact hc i 0 hi (by omega)
  · rw [← e1]; exact hc i 1 hi (by omega)
theorem Wait.dec {w : World} {S : Nat → Prop} {vs : List Value} {ds : List D} (h : RdL w S Wait.ty vs ds) : ∃ x : Wait, ds = x.enc := by
  have hl := h.lens
  rw [Wait.ty_len] at hl
  obtain ⟨v0, v1, rfl⟩ := list2 hl.1
  obtain ⟨d0, d1, rfl⟩ := list2 hl.2
  obtain ⟨h0, h1, _⟩ := h
  obtain ⟨x0, _, rfl, _⟩ := h0.int_inv
  obtain ⟨x1, _, rfl, _⟩ := h1.int_inv
  exact ⟨⟨x0, x1⟩, rfl⟩
structure Lease where
  seq : Int
  node : Int
  ask : Int
  deriving DecidableEq, Inhabited
def Lease.ty : List Ty := [.int .i64, .int .i64, .int .i64]
def Lease.enc (x : Lease) : List D := [.int x.seq, .int x.node, .int x.ask]
theorem Lease.ty_len : Lease.ty.length = 3 := rfl
theorem Lease.enc_len (x : Lease) : x.enc.length = 3 := rfl
theorem Lease.opens {w : World} {S : Nat → Prop} {vs : List Value} {x : Lease} (h : RdL w S Lease.ty vs x.enc) : vs = [.int .i64 x.seq, .int .i64 x.node, .int .i64 x.ask] ∧ I64 x.seq ∧ I64 x.node ∧ I64 x.ask := by
  match vs, h with
  | [v0, v1, v2], h =>
    obtain ⟨h0, h1, h2, _⟩ := h
    obtain ⟨rfl, k0⟩ := h0.i64
    obtain ⟨rfl, k1⟩ := h1.i64
    obtain ⟨rfl, k2⟩ := h2.i64
    exact ⟨rfl, k0, k1, k2⟩
theorem Lease.shuts {w : World} {S : Nat → Prop} (x : Lease) (k0 : I64 x.seq) (k1 : I64 x.node) (k2 : I64 x.ask) : RdL w S Lease.ty [.int .i64 x.seq, .int .i64 x.node, .int .i64 x.ask] x.enc := by
  exact ⟨.ofI64 k0, .ofI64 k1, .ofI64 k2, trivial⟩
theorem Lease.row {w : World} {S : Nat → Prop} {b off n c i : Nat} {xs : List Lease} (h : Sl w S Lease.ty (some ⟨b, off, none⟩) n c (xs.map Lease.enc)) (hi : i < n) : S b ∧ b < w.heap.size ∧ w.cell? ⟨b, off + i * 3, none⟩ = some (.int .i64 (xs.getD i default).seq) ∧ w.cell? ⟨b, off + i * 3 + 1, none⟩ = some (.int .i64 (xs.getD i default).node) ∧ w.cell? ⟨b, off + i * 3 + 2, none⟩ = some (.int .i64 (xs.getD i default).ask) ∧ I64 (xs.getD i default).seq ∧ I64 (xs.getD i default).node ∧ I64 (xs.getD i default).ask := by
  have hl := h.len
  rw [List.length_map] at hl
  obtain ⟨b2, off2, e, hS, hb, vals, hc, hr⟩ := h.rowAt (by omega)
  simp only [Option.some.injEq, Addr.mk.injEq, and_true] at e
  obtain ⟨rfl, rfl⟩ := e
  have hr1 := hr i hi
  have he : (xs.map Lease.enc).getD i [] = (xs.getD i default).enc := by simp [List.getD, show i < xs.length by omega]
  rw [he] at hr1
  have hL := RdL.of_at (ts := Lease.ty) (vals i) hr1.1 hr1.2
  obtain ⟨e, k0, k1, k2⟩ := Lease.opens hL
  rw [show Lease.ty.length = 3 from rfl] at hc e
  simp only [List.range_succ, List.range_zero, List.nil_append, List.cons_append, List.map_cons, List.map_nil, List.cons.injEq, and_true] at e
  obtain ⟨e0, e1, e2⟩ := e
  refine ⟨hS, hb, ?_, ?_, ?_, k0, k1, k2⟩
  · rw [← e0]; exact hc i 0 hi (by omega)
  · rw [← e1]; exact hc i 1 hi (by omega)
  · rw [← e2]; exact hc i 2 hi (by omega)
theorem Lease.dec {w : World} {S : Nat → Prop} {vs : List Value} {ds : List D} (h : RdL w S Lease.ty vs ds) : ∃ x : Lease, ds = x.enc := by
  have hl := h.lens
  rw [Lease.ty_len] at hl
  obtain ⟨v0, v1, v2, rfl⟩ := list3 hl.1
  obtain ⟨d0, d1, d2, rfl⟩ := list3 hl.2
  obtain ⟨h0, h1, h2, _⟩ := h
  obtain ⟨x0, _, rfl, _⟩ := h0.int_inv
  obtain ⟨x1, _, rfl, _⟩ := h1.int_inv
  obtain ⟨x2, _, rfl, _⟩ := h2.int_inv
  exact ⟨⟨x0, x1, x2⟩, rfl⟩
end Go.Proofs.Ytjfphnegcelbpaa
