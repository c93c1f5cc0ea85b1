/- The walk of the law RaftlogNewer: true for every struct and numbers. No condition. -/
import Derived.Test.YteiojclemodhaaaLaws16A
import Derived.Deep.RegionHeld3
namespace Go.Proofs.Yteiojclemodhaaa
open Go.RowKit
set_option linter.unusedVariables false
set_option linter.unusedSimpArgs false
theorem tr_below {w a b : World} (k : Below a.heap.size a b) (h : Below w.heap.size w a) : Below w.heap.size w b := h.trans (k.mono h.size)
theorem heldS {w a b : World} {g : Nat} {v0 v1 v2 v3 v4 v5 v6 v7 : Value} (k : Below a.heap.size a b) (h : a.cell? ⟨g, 0, none⟩ = some v0 ∧ a.cell? ⟨g, 1, none⟩ = some v1 ∧ a.cell? ⟨g, 2, none⟩ = some v2 ∧ a.cell? ⟨g, 3, none⟩ = some v3 ∧ a.cell? ⟨g, 4, none⟩ = some v4 ∧ a.cell? ⟨g, 5, none⟩ = some v5 ∧ a.cell? ⟨g, 6, none⟩ = some v6 ∧ a.cell? ⟨g, 7, none⟩ = some v7 ∧ Below w.heap.size w a) : b.cell? ⟨g, 0, none⟩ = some v0 ∧ b.cell? ⟨g, 1, none⟩ = some v1 ∧ b.cell? ⟨g, 2, none⟩ = some v2 ∧ b.cell? ⟨g, 3, none⟩ = some v3 ∧ b.cell? ⟨g, 4, none⟩ = some v4 ∧ b.cell? ⟨g, 5, none⟩ = some v5 ∧ b.cell? ⟨g, 6, none⟩ = some v6 ∧ b.cell? ⟨g, 7, none⟩ = some v7 ∧ Below w.heap.size w b := by
  obtain ⟨h0, h1, h2, h3, h4, h5, h6, h7, h8⟩ := h
  exact ⟨(k.cell (World.block_lt_of_cell? _ _ h0)).trans h0, (k.cell (World.block_lt_of_cell? _ _ h1)).trans h1, (k.cell (World.block_lt_of_cell? _ _ h2)).trans h2, (k.cell (World.block_lt_of_cell? _ _ h3)).trans h3, (k.cell (World.block_lt_of_cell? _ _ h4)).trans h4, (k.cell (World.block_lt_of_cell? _ _ h5)).trans h5, (k.cell (World.block_lt_of_cell? _ _ h6)).trans h6, (k.cell (World.block_lt_of_cell? _ _ h7)).trans h7, tr_below k h8⟩
theorem heldD {w a : World} {g : Nat} {v0 v1 v2 v3 v4 v5 v6 v7 : Value} (h : a.cell? ⟨g, 0, none⟩ = some v0 ∧ a.cell? ⟨g, 1, none⟩ = some v1 ∧ a.cell? ⟨g, 2, none⟩ = some v2 ∧ a.cell? ⟨g, 3, none⟩ = some v3 ∧ a.cell? ⟨g, 4, none⟩ = some v4 ∧ a.cell? ⟨g, 5, none⟩ = some v5 ∧ a.cell? ⟨g, 6, none⟩ = some v6 ∧ a.cell? ⟨g, 7, none⟩ = some v7 ∧ Below w.heap.size w a) : a.drew.cell? ⟨g, 0, none⟩ = some v0 ∧ a.drew.cell? ⟨g, 1, none⟩ = some v1 ∧ a.drew.cell? ⟨g, 2, none⟩ = some v2 ∧ a.drew.cell? ⟨g, 3, none⟩ = some v3 ∧ a.drew.cell? ⟨g, 4, none⟩ = some v4 ∧ a.drew.cell? ⟨g, 5, none⟩ = some v5 ∧ a.drew.cell? ⟨g, 6, none⟩ = some v6 ∧ a.drew.cell? ⟨g, 7, none⟩ = some v7 ∧ Below w.heap.size w a.drew := by
  obtain ⟨h0, h1, h2, h3, h4, h5, h6, h7, h8⟩ := h
  exact ⟨h0, h1, h2, h3, h4, h5, h6, h7, h8.drew⟩
theorem of9 {w a : World} {p0 p1 p2 p3 p4 p5 p6 p7 : Prop} (h : p0 ∧ p1 ∧ p2 ∧ p3 ∧ p4 ∧ p5 ∧ p6 ∧ p7 ∧ Below w.heap.size w a) : Below w.heap.size w a := h.2.2.2.2.2.2.2.2
set_option maxHeartbeats 8000000 in
theorem law_raftlogNewer (vs : List Value) (k : Kept) (index term : Int) (w : World) (h : RdL w (All w) Kept.ty vs k.enc) (hx : I64 index) (hy : I64 term) :
    Calls Try.prog 5 #[.agg vs.toArray, .int .i64 index, .int .i64 term] w fun e w' => e = .returned (.bool true) ∧ Below w.heap.size w w' := by
  have hr := fun w' (hb : Below w.heap.size w w') => RdL.same (Same.below (S := All w) hb) h
  have HR := Lib.hid hr
  obtain ⟨a4, c4, a5, c5, a7, c7, rfl, b0, b1, b2, b3, s4, s5, b6, s7⟩ := Kept.opens h
  clear h s4 s5 s7 hr
  have hb1 := (Below.refl w.heap.size w).alloc (Nat.le_refl _) (.cells #[.int .i64 k.term, .int .i64 k.vote, .int .i64 k.snap.index, .int .i64 k.snap.term, .slice a4 (k.snap.config.voters).length c4, .slice a5 (k.snap.config.learners).length c5, .string k.snap.data, .slice a7 (k.entries).length c7] 30)
  have hlg := large_any _ k none 0 0 [] _ _ (HR.out _ hb1) (.emp (fun _ => rfl) (by simp [maxLen]))
  have HLG := Lib.hid hlg
  clear hlg hb1
  cases hl : largeB k []
  rotate_left
  · have HL := Lib.hid hl
    clear hl
    go_enter Try.func5, Try.ntmps5
    go_wp2_with fail
    refine (HLG.out).mono ?_
    rw [HL.out]
    rintro e w1 ⟨rfl, P1⟩
    obtain ⟨kb1, BT1, z1⟩ := boxed_call P1
    obtain ⟨q0, q1, q2, q3, q4, q5, q6, q7⟩ := box8 kb1
    go_wp2_with fail
    go_ret
    exact ⟨rfl, BT1⟩
  · have HL := Lib.hid hl
    clear hl
    cases hn : newerB k index term
    all_goals
      have HN := Lib.hid hn
      clear hn
      go_enter Try.func5, Try.ntmps5
      go_wp2_with fail
      refine (HLG.out).mono ?_
      rw [HL.out]
      rintro e w1 ⟨rfl, P1⟩
      obtain ⟨kb1, BT1, z1⟩ := boxed_call P1
      obtain ⟨q0, q1, q2, q3, q4, q5, q6, q7⟩ := box8 kb1
      go_wp2_with fail
      have hz := Lib.hid z1
      go_region_held3 (fun W => W.cell? ⟨w.heap.size, 0, none⟩ = some (.int .i64 k.term) ∧ W.cell? ⟨w.heap.size, 1, none⟩ = some (.int .i64 k.vote) ∧ W.cell? ⟨w.heap.size, 2, none⟩ = some (.int .i64 k.snap.index) ∧ W.cell? ⟨w.heap.size, 3, none⟩ = some (.int .i64 k.snap.term) ∧ W.cell? ⟨w.heap.size, 4, none⟩ = some (.slice a4 k.snap.config.voters.length c4) ∧ W.cell? ⟨w.heap.size, 5, none⟩ = some (.slice a5 k.snap.config.learners.length c5) ∧ W.cell? ⟨w.heap.size, 6, none⟩ = some (.string k.snap.data) ∧ W.cell? ⟨w.heap.size, 7, none⟩ = some (.slice a7 k.entries.length c7) ∧ Below w.heap.size w W) (first | exact heldS (by assumption) (by assumption) | exact heldD (by assumption) | exact ⟨by assumption, by assumption, by assumption, by assumption, by assumption, by assumption, by assumption, by assumption, Below.drew (by assumption)⟩) (first | (go_at_call 18; refine (newers_any _).mono ?_; rintro e wa ⟨rfl, PA⟩) | (go_at_call 20; refine Calls.mono (rnewer_any _ k index term _ _ (HR.out _ ?_)) ?_; exact of9 (by assumption); rw [HN.out]; rintro e wa ⟨rfl, PA⟩) | (go_at_call 19; refine Calls.mono (newer_any _ k index term _ _ (HR.out _ ?_)) ?_; exact of9 (by assumption); rw [HN.out]; rintro e wa ⟨rfl, PA⟩))
      all_goals
        go_wp2_with fail
        go_ret
        exact ⟨rfl, by first | exact of9 (by assumption) | exact tr_below (by assumption) (of9 (by assumption))⟩

end Go.Proofs.Yteiojclemodhaaa
