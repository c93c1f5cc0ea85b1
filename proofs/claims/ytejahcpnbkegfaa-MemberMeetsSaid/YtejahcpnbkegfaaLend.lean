/- Contracts of folkmootkeep.LendInts, BackInts, Ints. Condition: rows of fewer than 2^40 numbers. -/
import Derived.Test.YtejahcpnbkegfaaSetsB
import Derived.Laws.CopyOwn
namespace Go.Proofs.Ytejahcpnbkegfaa
open Go.RowKit
set_option linter.unusedVariables false
theorem infoInt : (Try.prog.info? 3).map (fun i => (i.zero, i.size, i.bytes)) = some (some (.int .i64 0), 1, 8) := by kernel_rfl
/-- block g is a row of just these numbers, not frozen -/
def RowAt (w : World) (g : Nat) (t : TypeId) (l : List Int) : Prop := w.heap[g]? = some (.cells (l.map (Value.int .i64)).toArray t (0, 0))
def LendPost (w : World) (n : Nat) (xs : List Int) (e : Ending) (w' : World) : Prop :=
  ∃ g, e = .returned (.slice (some ⟨g, 0, none⟩) n (n + 1)) ∧ w.heap.size ≤ g ∧ RowAt w' g 3 (xs ++ [-77]) ∧ w.grownBy w' none
theorem row_of_owns {w : World} {base : Nat} {e : TypeId} {g n : Nat} {l : List Value} (h : w.ownsRow base e 1 (.slice (some ⟨g, 0, none⟩) n n) n l) : w.heap[g]? = some (.cells l.toArray e (0, 0)) := by
  obtain ⟨h1, h2 | ⟨g', cap, cur, hv, hb, hh, hl, hm, hs, ht⟩⟩ := h
  · simp at h2
  · simp only [Value.slice.injEq, Option.some.injEq, Addr.mk.injEq, and_true] at hv
    obtain ⟨rfl, _, rfl⟩ := hv
    rw [hh, ← ht, List.take_of_length_le (by simp [hs])]
theorem toList_made (n : Nat) : (madeCells (Value.int .i64 0).cells (n * 1)).toList = List.replicate n (Value.int .i64 0) := by
  rw [Nat.mul_one]; exact toList_madeCells_one (Value.int .i64 0) n
theorem splice_lend (n : Nat) (xs : List Int) (h : xs.length = n) :
    (splice (List.replicate (n + 1) (Value.int .i64 0)) 0 (xs.map (Value.int .i64))).set n (.int .i64 (-77)) = (xs ++ [-77]).map (Value.int .i64) := by
  subst h
  have e : (List.replicate (xs.length + 1) (Value.int .i64 0)).drop xs.length = [.int .i64 0] := by
    rw [List.drop_replicate]; simp
  simp only [splice, List.take_zero, List.nil_append, List.length_map, Nat.zero_add, e, List.map_append, List.map_cons, List.map_nil]
  rw [List.set_append_right _ _ (by simp)]
  simp
theorem oneInts (xs : List Int) : ∀ v ∈ xs.map (Value.int .i64), v.oneCell' = true := by
  intro v hv; obtain ⟨x, _, rfl⟩ := List.mem_map.1 hv; rfl
theorem src_ints {w : World} {b off n : Nat} {xs : List Int} (hl : xs.length = n) (h : ∀ i, i < n → w.cell? ⟨b, off + i, none⟩ = some (.int .i64 (el xs i))) :
    ∀ j v, (xs.map (Value.int .i64))[j]? = some v → w.cell? ((⟨b, off, none⟩ : Addr).add j) = some v := by
  intro j v hj
  rw [List.getElem?_map] at hj
  by_cases h2 : j < xs.length
  · rw [List.getElem?_eq_getElem h2] at hj
    simp only [Option.map_some, Option.some.injEq] at hj
    rw [WideShapes.add_plain, h j (by omega), ← hj]
    simp [el, h2]
  · rw [List.getElem?_eq_none (by omega)] at hj; simp at hj
theorem row_cell {w : World} {g : Nat} {t : TypeId} {l : List Value} (h : w.heap[g]? = some (.cells l.toArray t (0, 0))) {i : Nat} {v : Value} (hv : l[i]? = some v) : w.cell? ⟨g, i, none⟩ = some v := by
  simp [World.cell?, h, hv]
theorem row_frozen {w : World} {g : Nat} {t : TypeId} {l : List Value} (h : w.heap[g]? = some (.cells l.toArray t (0, 0))) (i : Nat) : w.frozen? ⟨g, i, none⟩ = false := by
  simp [World.frozen?, h]
theorem row_set {w : World} {g : Nat} {t : TypeId} {l : List Value} (h : w.heap[g]? = some (.cells l.toArray t (0, 0))) (i : Nat) (v : Value) : (w.setCell ⟨g, i, none⟩ v).heap[g]? = some (.cells (l.set i v).toArray t (0, 0)) := by
  simp [World.setCell, Array.getElem?_modify, h]
theorem IntSl.bd {w : World} {a : Option Addr} {n : Nat} {xs : List Int} (h : IntSl w a n xs) : ∀ x ∈ xs, -9223372036854775808 ≤ x ∧ x ≤ 9223372036854775807 := by
  intro x hx
  obtain ⟨i, hi, e⟩ := List.mem_iff_getElem.1 hx
  have h1 := h.lo i
  have h2 := h.hi i
  have : el xs i = x := by rw [← e]; simp [el, hi]
  rw [this] at h1 h2
  exact ⟨h1, h2⟩
theorem RowAt.sl {w : World} {g : Nat} {t : TypeId} {ys zs : List Int} {n : Nat} (h : RowAt w g t (ys ++ zs)) (hn : ys.length = n) (hm : n ≤ 9223372036854775807) (hb : ∀ x ∈ ys, -9223372036854775808 ≤ x ∧ x ≤ 9223372036854775807) :
    IntSl w (some ⟨g, 0, none⟩) n ys := by
  have hr : ∀ i, -9223372036854775808 ≤ el ys i ∧ el ys i ≤ 9223372036854775807 := by
    intro i
    rcases el_mem_or ys i with hm | h0
    · exact hb _ hm
    · rw [h0]; omega
  refine ⟨hn, hm, fun hp => ⟨g, 0, rfl, (Array.getElem?_eq_some_iff.1 h).1, fun i hi => ?_⟩, fun i => (hr i).1, fun i => (hr i).2⟩
  rw [Nat.zero_add]
  have hi' : i < ys.length := by omega
  refine row_cell h ?_
  simp [el, List.getElem?_append_left, hi']
def BackPost (w : World) (g : Nat) (b : Bool) (e : Ending) (w' : World) : Prop := e = .returned (.bool b) ∧ w.grownBy w' (some g)
theorem grownBy_set {w w' : World} {g : Nat} (h : w.grownBy w' (some g)) (i : Nat) (v : Value) : w.grownBy (w'.setCell ⟨g, i, none⟩ v) (some g) :=
  ⟨h.os, h.tape, h.output, by have := h.size; simpa [World.setCell] using this, fun k hk hne => by
    rw [Below.heap_setCell _ _ _ _ (fun e => hne (by rw [e]))]; exact h.block k hk hne⟩
theorem grownBy_drewN {w w' : World} {r : Option Nat} (h : w.grownBy w' r) (n : Nat) : w.grownBy (w'.drewN n) r := ⟨h.os, h.tape, h.output, h.size, h.block⟩
theorem lend_bel {w w' : World} (h : w.grownBy w' none) : Below w.heap.size w w' := (Below.refl _ _).grown h (Nat.le_refl _) (fun k h => by cases h)
theorem RowAt.below {w w' : World} {g B : Nat} {t : TypeId} {l : List Int} (h : RowAt w g t l) (hb : Below B w w') (hg : g < B) : RowAt w' g t l := by
  show _ = _; rw [hb.block g hg]; exact h
theorem RowAt.grown {w w' : World} {g k : Nat} {t : TypeId} {l : List Int} (h : RowAt w g t l) (hb : w.grownBy w' (some k)) (hg : g ≠ k) : RowAt w' g t l := by
  show _ = _; rw [hb.block g (Array.getElem?_eq_some_iff.1 h).1 (by simpa using hg)]; exact h
theorem RowAt.lt {w : World} {g : Nat} {t : TypeId} {l : List Int} (h : RowAt w g t l) : g < w.heap.size := (Array.getElem?_eq_some_iff.1 h).1
theorem lend_bel_at {w w' : World} {g B : Nat} (h : w.grownBy w' (some g)) (hB : B ≤ w.heap.size) (hg : B ≤ g) : Below B w w' := (Below.refl _ _).grown h hB (fun k h => by cases h; exact hg)
end Go.Proofs.Ytejahcpnbkegfaa
