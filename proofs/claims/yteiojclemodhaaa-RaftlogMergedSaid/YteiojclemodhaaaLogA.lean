/- Contracts of raftlog.Check and of the reference's On. Condition: a struct that reads as a log. -/
import Derived.Test.YteiojclemodhaaaTyA
namespace Go.Proofs.Yteiojclemodhaaa
open Go.RowKit Go.ChangeShapes Go.WideShapes Go.Deep
set_option linter.unusedVariables false
set_option linter.unusedSimpArgs false
/-- a post of a call that only makes memory, and returns a number | a truth -/
def IPost (w : World) (n : Int) (e : Ending) (w' : World) : Prop := e = .returned (.int .i64 n) ∧ Below w.heap.size w w'
def TPost (w : World) (b : Bool) (e : Ending) (w' : World) : Prop := e = .returned (.bool b) ∧ Below w.heap.size w w'
def I2Post (w : World) (m n : Int) (e : Ending) (w' : World) : Prop := e = .returned (.tuple #[.int .i64 m, .int .i64 n]) ∧ Below w.heap.size w w'
def Kept.en (k : Kept) (i : Nat) : Entry := k.entries.getD i default
def okAt (k : Kept) (i : Nat) : Prop := 1 ≤ (k.en i).index ∧ (k.en i).index - 1 - i = k.snap.index
def onP (k : Kept) : Prop := 0 ≤ k.snap.index ∧ k.entries.length ≤ 10000 ∧ ∀ i, i < k.entries.length → okAt k i
noncomputable def onB (k : Kept) : Bool := @decide (onP k) (Classical.propDecidable _)
theorem onB_iff {k : Kept} : onB k = true ↔ onP k := by simp [onB]
theorem onB_no {k : Kept} : onB k = false ↔ ¬ onP k := by simp [onB]
def err (b : Bool) : Int := if b then 0 else 1
theorem err_t : err true = 0 := rfl
theorem err_f : err false = 1 := rfl
set_option maxHeartbeats 1000000 in
theorem check_any (vs : List Value) (k : Kept) (w : World) (S : Nat → Prop) (h : RdL w S Kept.ty vs k.enc) :
    Calls Try.prog 12 #[.agg vs.toArray] w (IPost w (err (onB k))) := by
  obtain ⟨a4, c4, a5, c5, a7, c7, rfl, b0, b1, b2, b3, s4, s5, b6, s7⟩ := Kept.opens h
  obtain ⟨n1, n2, n3, n4⟩ := s7.bd
  obtain ⟨m1, m2⟩ := b2
  have H7 := Lib.hid s7
  have N4 := Lib.hid n4
  clear h s4 s5 s7 n4
  by_cases c1 : k.snap.index < 0
  · have HN := Lib.hid (show onB k = false from onB_no.2 fun h => by have := h.1; omega)
    go_enter Try.func12, Try.ntmps12
    go_wp2_with fail
    go_ret
    exact ⟨by rw [HN.out]; rfl, (Below.refl _ _).alloc (Nat.le_refl _) _⟩
  by_cases c2 : (10000 : Int) < k.entries.length
  · have HN := Lib.hid (show onB k = false from onB_no.2 fun h => by have := h.2.1; omega)
    go_enter Try.func12, Try.ntmps12
    go_wp2_with fail
    go_ret
    exact ⟨by rw [HN.out]; rfl, (Below.refl _ _).alloc (Nat.le_refl _) _⟩
  go_enter Try.func12, Try.ntmps12
  go_wp2_with fail
  obtain ⟨w1, hw1⟩ : ∃ w1 : World, w1 = w.alloc (.cells #[.int .i64 k.term, .int .i64 k.vote, .int .i64 k.snap.index, .int .i64 k.snap.term, .slice a4 (k.snap.config.voters).length c4, .slice a5 (k.snap.config.learners).length c5, .string k.snap.data, .slice a7 (k.entries).length c7] 30) := ⟨_, rfl⟩
  have HW := Lib.hid hw1
  have B0 : Below w.heap.size w w1 := by rw [hw1]; exact (Below.refl _ _).alloc (Nat.le_refl _) _
  have z1 : w.heap.size + 1 = w1.heap.size := by rw [hw1]; simp
  have hc1 : Blk w1 w.heap.size 30 #[.int .i64 k.term, .int .i64 k.vote, .int .i64 k.snap.index, .int .i64 k.snap.term, .slice a4 (k.snap.config.voters).length c4, .slice a5 (k.snap.config.learners).length c5, .string k.snap.data, .slice a7 (k.entries).length c7] := by rw [hw1]; exact Blk.new _ _ _
  rw [← hw1]
  have Z1 := Lib.hid z1
  have C1 := Lib.hid hc1
  have BB0 := Lib.hid B0
  clear hw1 hc1 z1 B0
  go_loopw [18] (fun i wr => ∃ j : Nat, j ≤ k.entries.length ∧ i = .int .i64 j ∧ (∀ i, i < j → okAt k i) ∧ Below w1.heap.size w1 wr) (fun i _ => k.entries.length - (intOf i).toNat)
  case atStart => exact ⟨0, Nat.zero_le _, rfl, fun i h => absurd h (by omega), Below.refl _ _⟩
  case round =>
    obtain ⟨j, hj, rfl, hq, B1⟩ := hrel
    have HQ := Lib.hid hq
    have BB1 := Lib.hid B1
    have H71 := Lib.hid ((H7.out.same (Same.below BB0.out)).same (Same.below B1))
    have HB := Lib.hid (C1.out.below B1 (by rw [← Z1.out]; omega))
    have hcb : wr.cell? ⟨w.heap.size, 2, none⟩ = some (.int .i64 k.snap.index) := HB.out.cell 2
    have hcb7 : wr.cell? ⟨w.heap.size, 7, none⟩ = some (.slice a7 k.entries.length c7) := HB.out.cell 7
    clear hq B1
    by_cases hlt : j < k.entries.length
    · obtain ⟨b, off, rfl⟩ := H71.out.addr (by omega)
      obtain ⟨hS, hb, a3e, c3e, a4e, c4e, e0, e1, e2, e3, e4, e5, f0, f1, f2, f3, f4, f5⟩ := Entry.row H71.out hlt
      clear f3 f4 N4
      have HJ := Lib.hid (show k.en j = k.entries.getD j default from rfl)
      generalize k.entries.getD j default = e at *
      obtain ⟨g1, g2⟩ := f0
      have j0 : (0 : Int) ≤ (j : Int) := by omega
      have j1 : (j : Int) < (k.entries.length : Int) := by omega
      have z2 : w.heap.size < wr.heap.size := by have := BB1.out.size; have := Z1.out; omega
      have B2 := Lib.hid (BB0.out.trans ((BB1.out.mono (by have := Z1.out; omega)).alloc (show w.heap.size ≤ wr.heap.size by omega) (.cells #[.int .i64 e.index, .int .i64 e.term, .int .i64 e.kind, .slice a3e (e.config.voters).length c3e, .slice a4e (e.config.learners).length c4e, .string e.data] 54)))
      by_cases q1 : e.index < 1
      · have HN := Lib.hid (show onB k = false from onB_no.2 fun h => by have := (h.2.2 j hlt).1; rw [HJ.out] at this; omega)
        go_wp2_with fail
        go_ret
        exact ⟨by rw [HN.out]; rfl, B2.out⟩
      by_cases q2 : e.index - 1 - j = k.snap.index
      · have q3 : ((e.index - 1 - (j : Int)) != k.snap.index) = false := by simp [q2]
        have Q2 := Lib.hid q2
        clear q2
        go_wp2_with fail
        go_roundw
        case rel =>
          refine ⟨j + 1, by omega, by go_num, fun i hi => ?_, BB1.out.alloc BB1.out.size _⟩
          by_cases h : i = j
          · subst h; unfold okAt; rw [HJ.out]; exact ⟨by omega, Q2.out⟩
          · exact HQ.out i (by omega)
        case measure => simp [intOf]; omega
      · have q3 : ((e.index - 1 - (j : Int)) != k.snap.index) = true := by simp [q2]
        have HN := Lib.hid (show onB k = false from onB_no.2 fun h => by have := (h.2.2 j hlt).2; rw [HJ.out] at this; omega)
        clear q2
        go_wp2_with fail
        go_ret
        exact ⟨by rw [HN.out]; rfl, B2.out⟩
    · have hjn : j = k.entries.length := by omega
      have HN := Lib.hid (show onB k = true from onB_iff.2 ⟨by omega, by omega, fun i hi => HQ.out i (by omega)⟩)
      have B2 := Lib.hid (BB0.out.trans (BB1.out.mono (by have := Z1.out; omega)))
      have j1 : ¬ (j : Int) < (k.entries.length : Int) := by omega
      clear hjn
      go_wp2_with fail
      go_ret
      exact ⟨by rw [HN.out]; rfl, B2.out⟩
set_option maxHeartbeats 1000000 in
theorem on_any (vs : List Value) (k : Kept) (w : World) (S : Nat → Prop) (h : RdL w S Kept.ty vs k.enc) :
    Calls Try.prog 14 #[.agg vs.toArray] w (TPost w (onB k)) := by
  obtain ⟨a4, c4, a5, c5, a7, c7, rfl, b0, b1, b2, b3, s4, s5, b6, s7⟩ := Kept.opens h
  obtain ⟨n1, n2, n3, n4⟩ := s7.bd
  obtain ⟨m1, m2⟩ := b2
  have H7 := Lib.hid s7
  have N4 := Lib.hid n4
  clear h s4 s5 s7 n4
  by_cases c1 : k.snap.index < 0
  · have HN := Lib.hid (show onB k = false from onB_no.2 fun h => by have := h.1; omega)
    go_enter Try.func14, Try.ntmps14
    go_wp2_with fail
    go_ret
    exact ⟨by rw [HN.out]; rfl, (Below.refl _ _).alloc (Nat.le_refl _) _⟩
  by_cases c2 : (10000 : Int) < k.entries.length
  · have HN := Lib.hid (show onB k = false from onB_no.2 fun h => by have := h.2.1; omega)
    go_enter Try.func14, Try.ntmps14
    go_wp2_with fail
    go_ret
    exact ⟨by rw [HN.out]; rfl, (Below.refl _ _).alloc (Nat.le_refl _) _⟩
  go_enter Try.func14, Try.ntmps14
  go_wp2_with fail
  obtain ⟨w1, hw1⟩ : ∃ w1 : World, w1 = w.alloc (.cells #[.int .i64 k.term, .int .i64 k.vote, .int .i64 k.snap.index, .int .i64 k.snap.term, .slice a4 (k.snap.config.voters).length c4, .slice a5 (k.snap.config.learners).length c5, .string k.snap.data, .slice a7 (k.entries).length c7] 30) := ⟨_, rfl⟩
  have HW := Lib.hid hw1
  have B0 : Below w.heap.size w w1 := by rw [hw1]; exact (Below.refl _ _).alloc (Nat.le_refl _) _
  have z1 : w.heap.size + 1 = w1.heap.size := by rw [hw1]; simp
  have hc1 : Blk w1 w.heap.size 30 #[.int .i64 k.term, .int .i64 k.vote, .int .i64 k.snap.index, .int .i64 k.snap.term, .slice a4 (k.snap.config.voters).length c4, .slice a5 (k.snap.config.learners).length c5, .string k.snap.data, .slice a7 (k.entries).length c7] := by rw [hw1]; exact Blk.new _ _ _
  rw [← hw1]
  have Z1 := Lib.hid z1
  have C1 := Lib.hid hc1
  have BB0 := Lib.hid B0
  clear hw1 hc1 z1 B0
  go_loopw [3] (fun i wr => ∃ j : Nat, j ≤ k.entries.length ∧ i = .int .i64 j ∧ (∀ i, i < j → okAt k i) ∧ Below w1.heap.size w1 wr) (fun i _ => k.entries.length - (intOf i).toNat)
  case atStart => exact ⟨0, Nat.zero_le _, rfl, fun i h => absurd h (by omega), Below.refl _ _⟩
  case round =>
    obtain ⟨j, hj, rfl, hq, B1⟩ := hrel
    have HQ := Lib.hid hq
    have BB1 := Lib.hid B1
    have H71 := Lib.hid ((H7.out.same (Same.below BB0.out)).same (Same.below B1))
    have HB := Lib.hid (C1.out.below B1 (by rw [← Z1.out]; omega))
    have hcb : wr.cell? ⟨w.heap.size, 2, none⟩ = some (.int .i64 k.snap.index) := HB.out.cell 2
    have hcb7 : wr.cell? ⟨w.heap.size, 7, none⟩ = some (.slice a7 k.entries.length c7) := HB.out.cell 7
    clear hq B1
    by_cases hlt : j < k.entries.length
    · obtain ⟨b, off, rfl⟩ := H71.out.addr (by omega)
      obtain ⟨hS, hb, a3e, c3e, a4e, c4e, e0, e1, e2, e3, e4, e5, f0, f1, f2, f3, f4, f5⟩ := Entry.row H71.out hlt
      clear f3 f4 N4
      have HJ := Lib.hid (show k.en j = k.entries.getD j default from rfl)
      generalize k.entries.getD j default = e at *
      obtain ⟨g1, g2⟩ := f0
      have j0 : (0 : Int) ≤ (j : Int) := by omega
      have j1 : (j : Int) < (k.entries.length : Int) := by omega
      have B2 := Lib.hid (BB0.out.trans (BB1.out.mono (by have := Z1.out; omega)))
      by_cases q1 : e.index < 1
      · have HN := Lib.hid (show onB k = false from onB_no.2 fun h => by have := (h.2.2 j hlt).1; rw [HJ.out] at this; omega)
        have q0 : decide (e.index < 1) = true := by simpa using q1
        go_wp2_with fail
        go_quiet (fail)
        go_wp2_with fail
        go_ret
        exact ⟨by rw [HN.out]; rfl, bdrewN B2.out _⟩
      have q0 : decide (e.index < 1) = false := by simpa using q1
      by_cases q2 : e.index - 1 - j = k.snap.index
      · have q3 : ((e.index - 1 - (j : Int)) != k.snap.index) = false := by simp [q2]
        have Q2 := Lib.hid q2
        clear q2
        go_wp2_with fail
        go_quiet (fail)
        go_wp2_with fail
        go_roundw
        case rel =>
          refine ⟨j + 1, by omega, by go_num, fun i hi => ?_, bdrewN BB1.out _⟩
          by_cases h : i = j
          · subst h; unfold okAt; rw [HJ.out]; exact ⟨by omega, Q2.out⟩
          · exact HQ.out i (by omega)
        case measure => simp [intOf]; omega
      · have q3 : ((e.index - 1 - (j : Int)) != k.snap.index) = true := by simp [q2]
        have HN := Lib.hid (show onB k = false from onB_no.2 fun h => by have := (h.2.2 j hlt).2; rw [HJ.out] at this; omega)
        clear q2
        go_wp2_with fail
        go_quiet (fail)
        go_wp2_with fail
        go_ret
        exact ⟨by rw [HN.out]; rfl, bdrewN B2.out _⟩
    · have hjn : j = k.entries.length := by omega
      have HN := Lib.hid (show onB k = true from onB_iff.2 ⟨by omega, by omega, fun i hi => HQ.out i (by omega)⟩)
      have B2 := Lib.hid (BB0.out.trans (BB1.out.mono (by have := Z1.out; omega)))
      have j1 : ¬ (j : Int) < (k.entries.length : Int) := by omega
      clear hjn
      go_wp2_with fail
      go_ret
      exact ⟨by rw [HN.out]; rfl, B2.out⟩
end Go.Proofs.Yteiojclemodhaaa
