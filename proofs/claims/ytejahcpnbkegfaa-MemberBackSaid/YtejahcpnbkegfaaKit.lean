/- Plain words on slices of int, for the walks of this seat. No condition. -/
import Derived.Test.YtejahcpnbkegfaaRows
import Derived.WalkKit
import Derived.ProofKit
import Derived.OpenShut
import Derived.Lib.Hide
import Derived.Deep.QuietTactic
import Derived.BigQuiet
namespace Go.Proofs.Ytejahcpnbkegfaa
open Go.RowKit
/-- the i-th number of a list (0 behind its end) -/
def el (xs : List Int) (i : Nat) : Int := xs.getD i 0
/-- 'a, n' is a slice whose n elements read as xs. -/
structure IntSl (w : World) (a : Option Addr) (n : Nat) (xs : List Int) : Prop where
  len : xs.length = n
  mx : n ≤ 9223372036854775807
  row : 0 < n → ∃ b off, a = some ⟨b, off, none⟩ ∧ b < w.heap.size ∧ ∀ i, i < n → w.cell? ⟨b, off + i, none⟩ = some (.int .i64 (el xs i))
  lo : ∀ i, -9223372036854775808 ≤ el xs i
  hi : ∀ i, el xs i ≤ 9223372036854775807
theorem IntSl.drewN {w : World} {a : Option Addr} {n : Nat} {xs : List Int} (h : IntSl w a n xs) (k : Nat) : IntSl (w.drewN k) a n xs := ⟨h.len, h.mx, h.row, h.lo, h.hi⟩
theorem IntSl.below {w w' : World} {a : Option Addr} {n : Nat} {xs : List Int} (h : IntSl w a n xs) (hb : Below w.heap.size w w') : IntSl w' a n xs :=
  ⟨h.len, h.mx, fun hp => by
    obtain ⟨b, off, e, hlt, hc⟩ := h.row hp
    exact ⟨b, off, e, Nat.lt_of_lt_of_le hlt hb.size, fun i hi => by rw [hb.cell (p := ⟨b, off + i, none⟩) hlt]; exact hc i hi⟩, h.lo, h.hi⟩
theorem IntSl.alloc {w : World} {a : Option Addr} {n : Nat} {xs : List Int} (h : IntSl w a n xs) (o : Obj) : IntSl (w.alloc o) a n xs :=
  h.below ((Below.refl _ _).alloc (Nat.le_refl _) o)
theorem IntSl.nil (w : World) : IntSl w none 0 [] :=
  ⟨rfl, by omega, fun h => absurd h (by omega), fun i => by simp [el], fun i => by simp [el]⟩
theorem IntSl.lit (w : World) (xs : List Int) (t : TypeId) (hm : xs.length ≤ 9223372036854775807) (h : ∀ x ∈ xs, -9223372036854775808 ≤ x ∧ x ≤ 9223372036854775807) :
    IntSl (w.alloc (.cells (xs.map (Value.int .i64)).toArray t)) (some ⟨w.heap.size, 0, none⟩) xs.length xs := by
  have hr : ∀ i, -9223372036854775808 ≤ el xs i ∧ el xs i ≤ 9223372036854775807 := by
    intro i
    by_cases hi : i < xs.length
    · have : el xs i = xs[i] := by simp [el, hi]
      rw [this]; exact h _ (List.getElem_mem hi)
    · have : el xs i = 0 := by simp [el, List.getElem?_eq_none (Nat.not_lt.1 hi)]
      rw [this]; omega
  refine ⟨rfl, hm, fun _ => ⟨w.heap.size, 0, rfl, by simp, fun i hi => ?_⟩, fun i => (hr i).1, fun i => (hr i).2⟩
  have e : el xs i = xs[i] := by simp [el, hi]
  rw [e, Nat.zero_add, World.cell?_alloc_at _ _ _ _ rfl]
  simp [hi]
theorem IntSl.litAt (w : World) (g : Nat) (hg : g = w.heap.size) (xs : List Int) (t : TypeId) (hm : xs.length ≤ 9223372036854775807) (h : ∀ x ∈ xs, -9223372036854775808 ≤ x ∧ x ≤ 9223372036854775807) :
    IntSl (w.alloc (.cells (xs.map (Value.int .i64)).toArray t)) (some ⟨g, 0, none⟩) xs.length xs := by
  subst hg; exact IntSl.lit w xs t hm h
theorem IntSl.of_dr {w w' : World} {a : Option Addr} {n : Nat} {xs : List Int} (h : IntSl w a n xs) (hd : ∃ q, w' = w.drewN q) : IntSl w' a n xs := by
  obtain ⟨q, rfl⟩ := hd; exact h.drewN q
/-- w' is w but for draws -/
def Dr (w w' : World) : Prop := ∃ q, w' = w.drewN q
theorem Dr.refl (w : World) : Dr w w := ⟨0, rfl⟩
theorem Dr.drewN {w w' : World} (h : Dr w w') (n : Nat) : Dr w (w'.drewN n) := by
  obtain ⟨q, rfl⟩ := h; exact ⟨q + n, by simp [World.drewN, Nat.add_assoc]⟩
theorem Dr.nn (w : World) (a b : Nat) : Dr w ((w.drewN a).drewN b) := Dr.drewN ⟨a, rfl⟩ b
theorem Dr.drew {w w' : World} (h : Dr w w') : Dr w w'.drew := by
  obtain ⟨q, rfl⟩ := h; exact ⟨q + 1, rfl⟩
theorem Dr.trans {a b c : World} (h : Dr a b) (k : Dr b c) : Dr a c := by
  obtain ⟨q, rfl⟩ := k; exact h.drewN q
theorem Dr.below {w w' : World} (h : Dr w w') (B : Nat) : Below B w w' := by
  obtain ⟨q, rfl⟩ := h; exact ⟨rfl, rfl, rfl, Nat.le_refl _, fun _ _ => rfl⟩
theorem _root_.Go.RowKit.Below.trans' {B : Nat} {a b c : World} (k : Below B b c) (h : Below B a b) : Below B a c := h.trans k
theorem bdrewN {B : Nat} {w w' : World} (h : Below B w w') (n : Nat) : Below B w (w'.drewN n) := h.trans ((Dr.refl _).drewN n |>.below B)
/-- What the row's step knows of a slice of numbers that came in (as the kit's shell writes it). -/
def IsRow (k : IntKind) (w : World) (a : Option Addr) (len cap : Nat) (zs : List Int) : Prop :=
  (a = none ∧ len = 0 ∧ cap = 0 ∧ zs = []) ∨
  ∃ x, a = some x ∧ len ≤ cap ∧ cap ≤ maxLen ∧ zs.length = cap ∧ (∀ i, i < zs.length → w.cell? (x.add i) = some (.int k (zs.getD i 0))) ∧ ∀ n ∈ zs, (Lit.int k n).wf = true
theorem el_take {zs : List Int} {n i : Nat} (h : i < n) : el (zs.take n) i = el zs i := by
  simp [el, h]
theorem el_mem_or (zs : List Int) (i : Nat) : el zs i ∈ zs ∨ el zs i = 0 := by
  by_cases h : i < zs.length
  · left; simp [el, h]
  · right; simp [el, List.getElem?_eq_none (Nat.not_lt.1 h)]
theorem IsRow.sl {w : World} {a : Option Addr} {n c : Nat} {zs : List Int} (h : IsRow .i64 w a n c zs) : IntSl w a n (zs.take n) := by
  rcases h with ⟨rfl, rfl, rfl, rfl⟩ | ⟨x, rfl, h1, h2, h3, h4, h5⟩
  · exact ⟨rfl, by omega, fun h => absurd h (by omega), fun i => by simp [el], fun i => by simp [el]⟩
  · have hw : ∀ i, -9223372036854775808 ≤ el (zs.take n) i ∧ el (zs.take n) i ≤ 9223372036854775807 := by
      intro i
      rcases el_mem_or (zs.take n) i with hm | h0
      · have := h5 _ (List.mem_of_mem_take hm)
        simp only [Lit.wf, Bool.and_eq_true, decide_eq_true_eq] at this
        exact this
      · rw [h0]; omega
    unfold maxLen at h2
    refine ⟨by simp; omega, by omega, fun hp => ?_, fun i => (hw i).1, fun i => (hw i).2⟩
    have hc0 := h4 0 (by omega)
    obtain ⟨b, off, spot⟩ := x
    have hspot : spot = none := by simpa [Addr.add] using World.cell?_spot hc0
    subst hspot
    refine ⟨b, off, rfl, ?_, fun i hi => ?_⟩
    · have := World.block_lt_of_cell? _ _ hc0
      simpa [Addr.add] using this
    · have h6 := h4 i (by omega)
      rw [el_take hi, ← WideShapes.add_plain]
      exact h6
theorem wf_bd {x : Int} (h : (Lit.int .i64 x).wf = true) : -9223372036854775808 ≤ x ∧ x ≤ 9223372036854775807 := by
  simp only [Lit.wf, Bool.and_eq_true, decide_eq_true_eq] at h; exact h
/-- are two lists one? -/
def eqB (xs ys : List Int) : Bool := decide (xs = ys)
/-- Go's 'for i, x := range a { if x != b[i] { return false } }' from i on -/
def eqFrom (xs ys : List Int) (n : Nat) : Prop := ∀ i, i < n → el xs i = el ys i
theorem el_ext {xs ys : List Int} (hl : xs.length = ys.length) (h : ∀ i, i < xs.length → el xs i = el ys i) : xs = ys := by
  apply List.ext_getElem hl
  intro i h1 h2
  have := h i h1
  simpa [el, List.getD, h1, h2] using this
end Go.Proofs.Ytejahcpnbkegfaa
