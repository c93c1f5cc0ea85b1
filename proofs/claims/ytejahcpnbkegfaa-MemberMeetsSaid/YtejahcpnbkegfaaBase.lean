/- Posts of contracts, and small laws on slices of rows. No condition. -/
import Derived.Test.YtejahcpnbkegfaaHeld
import Derived.Test.YtejahcpnbkegfaaRdOwn
import Derived.StillTailTactics
import Derived.WalkSpells
import Derived.Deep.DeepCutAuto
namespace Go.Proofs.Ytejahcpnbkegfaa
open Go.RowKit Go.ChangeShapes Go.WideShapes Go.Deep
set_option linter.unusedVariables false
set_option linter.unusedSimpArgs false
def IPost (w : World) (n : Int) (e : Ending) (w' : World) : Prop := e = .returned (.int .i64 n) ∧ Below w.heap.size w w'
def TPost (w : World) (b : Bool) (e : Ending) (w' : World) : Prop := e = .returned (.bool b) ∧ Below w.heap.size w w'
def I2Post (w : World) (m n : Int) (e : Ending) (w' : World) : Prop := e = .returned (.tuple #[.int .i64 m, .int .i64 n]) ∧ Below w.heap.size w w'
def err (b : Bool) : Int := if b then 0 else 1
theorem err_t : err true = 0 := rfl
theorem err_f : err false = 1 := rfl
theorem boxed_call {w w1 : World} {T : TypeId} {cs : Array Value} (B1 : Below (w.alloc (.cells cs T)).heap.size (w.alloc (.cells cs T)) w1) : Blk w1 w.heap.size T cs ∧ Below w.heap.size w w1 ∧ w.heap.size < w1.heap.size := by
  have z := B1.size
  simp only [World.size_alloc] at z
  exact ⟨(Blk.new w T cs).below B1 (by simp), ((Below.refl _ w).alloc (Nat.le_refl _) _).trans (B1.mono (by simp)), by omega⟩
def APost (w : World) (ty : List Ty) (d : List D) (e : Ending) (w' : World) : Prop := ∃ vs : List Value, e = .returned (.agg vs.toArray) ∧ RdL w' (fun b => w.heap.size ≤ b) ty vs d ∧ Below w.heap.size w w'
theorem infoI0 : (Try.prog.info? 3).map (fun i => (i.zero, i.size, i.bytes)) = some (some (.int .i64 0), 1, 8) := by kernel_rfl
theorem infoI : Info Try.prog 3 1 8 := by
  obtain ⟨i0, h1, h2, h3, h4⟩ := info_parts infoI0
  exact ⟨i0, _, h1, h2, h3, h4, rfl⟩
theorem grown_none {w w' : World} {r : Option Nat} (h : w.grownBy w' r) (hr : r = none) : Below w.heap.size w w' := (Below.refl _ _).grown h (Nat.le_refl _) (fun k e => by rw [hr] at e; cases e)
theorem Sl.up {w : World} {S T : Nat → Prop} {fs : List Ty} {a : Option Addr} {n c : Nat} {rows : List (List D)} (h : Sl w S fs a n c rows) (hs : ∀ b, S b → T b) : Sl w T fs a n c rows := h.mono (fun b _ => hs b)
theorem Sl.cut {w : World} {S : Nat → Prop} {fs : List Ty} {b off n c d : Nat} {rows : List (List D)} (h : Sl w S fs (some ⟨b, off, none⟩) n c rows) (hd : d < n) : Sl w S fs (some ⟨b, off + d * fs.length, none⟩) (n - d) (c - d) (rows.drop d) := by
  cases h with
  | emp _ _ => omega
  | row vals h1 h2 h3 h4 h5 h6 h7 h8 h9 h10 h11 =>
    have e : ∀ i, (rows.drop d).getD i [] = rows.getD (d + i) [] := fun i => by simp [List.getD]
    refine .row (fun i j => vals (d + i) j) (by omega) (by simp; omega) (by omega) (by unfold maxLen at *; omega) (by omega) h6 h7 (fun i j hi hj => ?_) (fun i hi => ?_) (fun i j hi hj => ?_) (fun i j hi hj => ?_)
    · have := h8 (d + i) j (by omega) hj
      rw [Nat.add_mul] at this
      rw [← this]; congr 2; omega
    · rw [e]; exact h9 _ (by omega)
    · rw [e]; exact h10 _ _ (by omega) hj
    · have := h11 (d + i) j (by omega) hj
      rw [Nat.add_mul] at this
      rw [← this]; congr 2; omega
theorem Sl.cutM {w : World} {S : Nat → Prop} {fs : List Ty} {a : Option Addr} {n c d : Nat} {rows : List (List D)} (h : Sl w S fs a n c rows) (hd : d ≤ n) (hc : d < c) : Sl w S fs (a.map fun x => x.add (d * fs.length)) (n - d) (c - d) (rows.drop d) := by
  have hb := h.bd
  have hl := h.len
  rcases Nat.lt_or_ge d n with h1 | h1
  · obtain ⟨b, off, rfl⟩ := h.addr (by omega)
    have := h.cut h1
    simpa [Go.WideShapes.add_plain] using this
  · have e : n - d = 0 := by omega
    have e2 : rows.drop d = [] := List.drop_eq_nil_of_le (by omega)
    rw [e, e2]
    refine .emp (fun h0 => ?_) (by obtain ⟨g1, g2, g3, g4⟩ := hb; unfold maxLen at *; omega)
    rcases a with _ | a
    · have := hb.2.2.2 rfl; omega
    · simp at h0
def SPost (w : World) (e : Ending) (w' : World) : Prop := e = .returned (.bool true) ∧ Below w.heap.size w w'
abbrev All (w : World) : Nat → Prop := fun b => b < w.heap.size
/-- a post of a call that leaves the world as it was -/
def QPost (w : World) (b : Bool) (e : Ending) (w' : World) : Prop := e = .returned (.bool b) ∧ w = w'
/-- a store far from an own row -/
theorem OwnR.set {base : Nat} {w : World} {E : TypeId} {fs : List Ty} {v : Value} {rows : List (List D)} (h : OwnR base w E (fun b => base ≤ b) fs v rows) {p : Addr} (hp : p.block < base) (u : Value) : OwnR base (w.setCell p u) E (fun b => base ≤ b) fs v rows :=
  h.same (T := fun b => base ≤ b) (Same.setCell (by omega) u) (fun _ h => h) (fun b e => (h.lt b e).1)
theorem OwnR.next {base : Nat} {w w' : World} {E : TypeId} {S : Nat → Prop} {fs : List Ty} {v : Value} {rows : List (List D)} (h : OwnR base w E S fs v rows) (hb : Below w.heap.size w w') : OwnR base w' E S fs v rows := h.below hb
theorem OwnR.low {base B : Nat} {w : World} {E : TypeId} {fs : List Ty} {v : Value} {rows : List (List D)} (h : OwnR base w E (fun b => base ≤ b) fs v rows) (hb : B ≤ base) : OwnR B w E (fun b => B ≤ b) fs v rows := h.mono hb (fun b hb2 => Nat.le_trans hb hb2)
end Go.Proofs.Ytejahcpnbkegfaa
