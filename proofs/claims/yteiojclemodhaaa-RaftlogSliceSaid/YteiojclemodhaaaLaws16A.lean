/- The walks of the laws RaftlogLast, RaftlogTerm, RaftlogNewer: true for every struct and numbers. No condition. -/
import Derived.Test.YteiojclemodhaaaLogF
namespace Go.Proofs.Yteiojclemodhaaa
open Go.RowKit
set_option linter.unusedVariables false
set_option linter.unusedSimpArgs false
abbrev All (w : World) : Nat → Prop := fun b => b < w.heap.size
set_option maxHeartbeats 8000000 in
theorem law_raftlogLast (vs : List Value) (k : Kept) (w : World) (h : RdL w (All w) Kept.ty vs k.enc) :
    Calls Try.prog 3 #[.agg vs.toArray] w fun e w' => e = .returned (.bool true) ∧ Below w.heap.size w w' := by
  have hr := fun w' (hb : Below w.heap.size w w') => RdL.same (Same.below (S := All w) hb) h
  have HR := Lib.hid hr
  obtain ⟨a4, c4, a5, c5, a7, c7, rfl, b0, b1, b2, b3, s4, s5, b6, s7⟩ := Kept.opens h
  clear h s4 s5 s7 hr
  have hb1 := (Below.refl w.heap.size w).alloc (Nat.le_refl _) (.cells #[.int .i64 k.term, .int .i64 k.vote, .int .i64 k.snap.index, .int .i64 k.snap.term, .slice a4 (k.snap.config.voters).length c4, .slice a5 (k.snap.config.learners).length c5, .string k.snap.data, .slice a7 (k.entries).length c7] 30)
  have hlg := large_any _ k none 0 0 [] _ _ (HR.out _ hb1) (.emp (fun _ => rfl) (by simp [maxLen]))
  have HLG := Lib.hid hlg
  clear hlg hb1
  cases hl : largeB k []
  rotate_left
  · have HL := Lib.hid hl
    clear hl
    go_enter Try.func3, Try.ntmps3
    go_wp2_with fail
    refine (HLG.out).mono ?_
    rw [HL.out]
    rintro e w1 ⟨rfl, P1⟩
    obtain ⟨kb1, BT1, z1⟩ := boxed_call P1
    obtain ⟨q0, q1, q2, q3, q4, q5, q6, q7⟩ := box8 kb1
    go_wp2_with fail
    go_ret
    exact ⟨rfl, BT1⟩
  · have HL := Lib.hid hl
    clear hl
    cases ho : onB k
    all_goals
      have HO := Lib.hid ho
      clear ho
      go_enter Try.func3, Try.ntmps3
      go_wp2_with fail
      refine (HLG.out).mono ?_
      rw [HL.out]
      rintro e w1 ⟨rfl, P1⟩
      obtain ⟨kb1, BT1, z1⟩ := boxed_call P1
      obtain ⟨q0, q1, q2, q3, q4, q5, q6, q7⟩ := box8 kb1
      go_wp2_with fail
      refine (last_any _ k _ _ (HR.out _ BT1)).mono ?_
      generalize hp1 : (lastP k).1 = p1
      generalize hp2 : (lastP k).2 = p2
      have HP1 := Lib.hid hp1
      have HP2 := Lib.hid hp2
      clear hp1 hp2
      clear q0 q1 q2 q3 q4 q5 q6 q7
      rintro e w2 ⟨rfl, P2⟩
      have kb2 := kb1.below P2 z1
      have z2 := Nat.lt_of_lt_of_le z1 P2.size
      have BT2 := BT1.trans (P2.mono BT1.size)
      obtain ⟨q0, q1, q2, q3, q4, q5, q6, q7⟩ := box8 kb2
      go_wp2_with fail
      refine (rlast_any _ k _ _ (HR.out _ BT2)).mono ?_
      rw [HP1.out, HP2.out]
      clear q0 q1 q2 q3 q4 q5 q6 q7
      rintro e w3 ⟨rfl, P3⟩
      have kb3 := kb2.below P3 z2
      have z3 := Nat.lt_of_lt_of_le z2 P3.size
      have BT3 := BT2.trans (P3.mono BT2.size)
      obtain ⟨q0, q1, q2, q3, q4, q5, q6, q7⟩ := box8 kb3
      go_wp2_with fail
      refine (check_any _ k _ _ (HR.out _ BT3)).mono ?_
      rw [HO.out]; first | rw [err_t] | rw [err_f]
      clear q0 q1 q2 q3 q4 q5 q6 q7
      rintro e w4 ⟨rfl, P4⟩
      have kb4 := kb3.below P4 z3
      have z4 := Nat.lt_of_lt_of_le z3 P4.size
      have BT4 := BT3.trans (P4.mono BT3.size)
      obtain ⟨q0, q1, q2, q3, q4, q5, q6, q7⟩ := box8 kb4
      go_wp2_with fail
      refine (lasts_any _).mono ?_
      clear q0 q1 q2 q3 q4 q5 q6 q7
      rintro e w5 ⟨rfl, P5⟩
      have kb5 := kb4.below P5 z4
      have z5 := Nat.lt_of_lt_of_le z4 P5.size
      have BT5 := BT4.trans (P5.mono BT4.size)
      obtain ⟨q0, q1, q2, q3, q4, q5, q6, q7⟩ := box8 kb5
      go_wp2_with fail
      refine (on_any _ k _ _ (HR.out _ BT5)).mono ?_
      rw [HO.out]
      clear q0 q1 q2 q3 q4 q5 q6 q7
      rintro e w6 ⟨rfl, P6⟩
      have kb6 := kb5.below P6 z5
      have z6 := Nat.lt_of_lt_of_le z5 P6.size
      have BT6 := BT5.trans (P6.mono BT5.size)
      obtain ⟨q0, q1, q2, q3, q4, q5, q6, q7⟩ := box8 kb6
      go_wp2_with fail
      go_ret
      exact ⟨rfl, BT6⟩
set_option maxHeartbeats 8000000 in
theorem law_raftlogTerm (vs : List Value) (k : Kept) (index : Int) (w : World) (h : RdL w (All w) Kept.ty vs k.enc) (hx : I64 index) :
    Calls Try.prog 4 #[.agg vs.toArray, .int .i64 index] w fun e w' => e = .returned (.bool true) ∧ Below w.heap.size w w' := by
  have hr := fun w' (hb : Below w.heap.size w w') => RdL.same (Same.below (S := All w) hb) h
  have HR := Lib.hid hr
  obtain ⟨a4, c4, a5, c5, a7, c7, rfl, b0, b1, b2, b3, s4, s5, b6, s7⟩ := Kept.opens h
  clear h s4 s5 s7 hr
  have hb1 := (Below.refl w.heap.size w).alloc (Nat.le_refl _) (.cells #[.int .i64 k.term, .int .i64 k.vote, .int .i64 k.snap.index, .int .i64 k.snap.term, .slice a4 (k.snap.config.voters).length c4, .slice a5 (k.snap.config.learners).length c5, .string k.snap.data, .slice a7 (k.entries).length c7] 30)
  have hlg := large_any _ k none 0 0 [] _ _ (HR.out _ hb1) (.emp (fun _ => rfl) (by simp [maxLen]))
  have HLG := Lib.hid hlg
  clear hlg hb1
  cases hl : largeB k []
  rotate_left
  · have HL := Lib.hid hl
    clear hl
    go_enter Try.func4, Try.ntmps4
    go_wp2_with fail
    refine (HLG.out).mono ?_
    rw [HL.out]
    rintro e w1 ⟨rfl, P1⟩
    obtain ⟨kb1, BT1, z1⟩ := boxed_call P1
    obtain ⟨q0, q1, q2, q3, q4, q5, q6, q7⟩ := box8 kb1
    go_wp2_with fail
    go_ret
    exact ⟨rfl, BT1⟩
  · have HL := Lib.hid hl
    clear hl
    go_enter Try.func4, Try.ntmps4
    go_wp2_with fail
    refine (HLG.out).mono ?_
    rw [HL.out]
    rintro e w1 ⟨rfl, P1⟩
    obtain ⟨kb1, BT1, z1⟩ := boxed_call P1
    obtain ⟨q0, q1, q2, q3, q4, q5, q6, q7⟩ := box8 kb1
    go_wp2_with fail
    refine (term_any _ k index _ _ (HR.out _ BT1)).mono ?_
    generalize hp1 : (termP k index).1 = p1
    generalize hp2 : (termP k index).2 = p2
    have HP1 := Lib.hid hp1
    have HP2 := Lib.hid hp2
    clear hp1 hp2
    clear q0 q1 q2 q3 q4 q5 q6 q7
    rintro e w2 ⟨rfl, P2⟩
    have kb2 := kb1.below P2 z1
    have z2 := Nat.lt_of_lt_of_le z1 P2.size
    have BT2 := BT1.trans (P2.mono BT1.size)
    obtain ⟨q0, q1, q2, q3, q4, q5, q6, q7⟩ := box8 kb2
    go_wp2_with fail
    refine (rterm_any _ k index _ _ (HR.out _ BT2)).mono ?_
    rw [HP1.out, HP2.out]
    clear q0 q1 q2 q3 q4 q5 q6 q7
    rintro e w3 ⟨rfl, P3⟩
    have kb3 := kb2.below P3 z2
    have z3 := Nat.lt_of_lt_of_le z2 P3.size
    have BT3 := BT2.trans (P3.mono BT2.size)
    obtain ⟨q0, q1, q2, q3, q4, q5, q6, q7⟩ := box8 kb3
    go_wp2_with fail
    refine (terms_any _).mono ?_
    clear q0 q1 q2 q3 q4 q5 q6 q7
    rintro e w4 ⟨rfl, P4⟩
    have kb4 := kb3.below P4 z3
    have z4 := Nat.lt_of_lt_of_le z3 P4.size
    have BT4 := BT3.trans (P4.mono BT3.size)
    obtain ⟨q0, q1, q2, q3, q4, q5, q6, q7⟩ := box8 kb4
    go_wp2_with fail
    go_ret
    exact ⟨by simp, BT4⟩
end Go.Proofs.Yteiojclemodhaaa
