/- The law's large, one, asks. No condition. -/
import Derived.Test.YtejahcpnbkegfaaMeH
namespace Go.Proofs.Ytejahcpnbkegfaa
open Go.RowKit
set_option linter.unusedVariables false
set_option linter.unusedSimpArgs false
def largeC (c : Config) : Bool := decide ((1000 : Int) < (c.voters.length : Int)) || decide ((1000 : Int) < (c.learners.length : Int))
theorem small_c {c : Config} (h : largeC c = false) : c.voters.length ≤ 1000 ∧ c.learners.length ≤ 1000 := by
  unfold largeC at h
  simp only [Bool.or_eq_false_iff, decide_eq_false_iff_not] at h
  omega
set_option maxHeartbeats 1000000 in
theorem largeC_any (vs : List Value) (c : Config) (w : World) (S : Nat → Prop) (h : RdL w S Config.ty vs c.enc) :
    Calls Try.prog 7 #[.agg vs.toArray] w (TPost w (largeC c)) := by
  obtain ⟨a0, c0, a1, c1, rfl, s0, s1⟩ := Config.opens h
  have n0 := s0.bd.2.2.1
  have n1 := s1.bd.2.2.1
  have HL := Lib.hid (show largeC c = (decide ((1000 : Int) < (c.voters.length : Int)) || decide ((1000 : Int) < (c.learners.length : Int))) from rfl)
  clear h s0 s1
  by_cases h1 : (1000 : Int) < (c.voters.length : Int)
  all_goals
    by_cases h2 : (1000 : Int) < (c.learners.length : Int)
    all_goals
      go_enter Try.func7, Try.ntmps7
      go_wp2_with fail
      go_ret
      exact ⟨by rw [HL.out]; simp [h1, h2], (Below.refl _ _).alloc (Nat.le_refl _) _⟩
def oneC : Config := ⟨[1, 2, 3], [4]⟩
set_option maxHeartbeats 1000000 in
theorem oneC_any (w : World) : Calls Try.prog 30 #[] w (APost w Config.ty oneC.enc) := by
  go_enter Try.func30, Try.ntmps30
  go_wp2_with fail
  refine bodyPost_ret (v := .agg #[.slice (some ⟨w.heap.size + 1, 0, none⟩) 3 3, .slice (some ⟨w.heap.size + 1 + 1, 0, none⟩) 1 1]) (by simp [results, Try.results30, go_sem]) rfl ?_
  refine ⟨[.slice (some ⟨w.heap.size + 1, 0, none⟩) 3 3, .slice (some ⟨w.heap.size + 1 + 1, 0, none⟩) 1 1], rfl, ?_, (((Below.refl _ _).alloc (Nat.le_refl _) _).alloc (by simp) _).alloc (by simp <;> omega) _⟩
  refine Config.shuts oneC ?_ ?_
  · refine Blk.slI (t := 3) (xs := [1, 2, 3]) ((Blk.newAt _ (w.heap.size + 1) _ _ (by simp)).alloc _) (fun x hx => ?_) (by show w.heap.size ≤ _; omega) (by decide)
    simp at hx
    rcases hx with rfl | rfl | rfl <;> exact ⟨by decide, by decide⟩
  · refine Blk.slI (t := 3) (xs := [4]) (Blk.newAt _ (w.heap.size + 1 + 1) _ _ (by simp)) (fun x hx => ?_) (by show w.heap.size ≤ _; omega) (by decide)
    simp at hx
    subst hx; exact ⟨by decide, by decide⟩
theorem isB_123 : isB [1, 2, 3] = true := isB_asc.2 ⟨by unfold Asc; decide, by decide⟩
theorem isB_4 : isB [4] = true := isB_asc.2 ⟨by unfold Asc; decide, by decide⟩
theorem may_one : mayB oneC = true := by
  unfold mayB
  rw [show isB oneC.voters = true from isB_123, show isB oneC.learners = true from isB_4]
  decide
theorem all_one : allL oneC = [1, 2, 3, 4] := by
  rw [allL, may_one, if_pos rfl, both_put may_one]
  decide
theorem reach_12 : mreachB oneC [1, 2] = true := by
  rw [mreachB, may_one, reachB, show isB oneC.voters = true from isB_123]
  decide
theorem reach_14 : mreachB oneC [1, 4] = false := by
  rw [mreachB, may_one, reachB, show isB oneC.voters = true from isB_123]
  decide
theorem voter_3 : voterB oneC 3 = true := by rw [voterB, may_one]; decide
theorem voter_4 : voterB oneC 4 = false := by rw [voterB, may_one]; decide
set_option maxHeartbeats 4000000 in
theorem masks_any (w : World) : Calls Try.prog 14 #[] w (SPost w) := by
  have hsm : SmallC oneC := ⟨by decide, by decide⟩
  have HSM := Lib.hid hsm
  have BW := Lib.hid (Below.refl w.heap.size w)
  clear hsm
  go_enter Try.func14, Try.ntmps14
  go_wp2_with fail
  refine (oneC_any w).mono ?_
  rintro e w1 ⟨vs1, rfl, r1, P1⟩
  obtain ⟨a0, c0, a1, c1, rfl, s0, s1⟩ := Config.opens r1
  have R1 := Lib.hid r1
  have B1 := Lib.hid P1
  clear r1 P1 s0 s1
  go_upto_region 2 with fail
  obtain ⟨X1, hX1⟩ : ∃ W : World, w1.alloc (.cells #[.slice a0 oneC.voters.length c0, .slice a1 oneC.learners.length c1] 25) = W := ⟨_, rfl⟩; rw [hX1]; have kX1 := Blk.new w1 25 #[.slice a0 oneC.voters.length c0, .slice a1 oneC.learners.length c1]; rw [hX1] at kX1; have B1X1 := Lib.hid (B1.out.alloc B1.out.size (.cells #[.slice a0 oneC.voters.length c0, .slice a1 oneC.learners.length c1] 25)); rw [hX1] at B1X1; have R1X1 := Lib.hid (RdL.same (Same.alloc _ w1 (.cells #[.slice a0 oneC.voters.length c0, .slice a1 oneC.learners.length c1] 25)) R1.out); rw [hX1] at R1X1; have zX1 : w1.heap.size + 1 ≤ X1.heap.size := (by rw [← hX1] <;> simp); clear hX1
  obtain ⟨q0, q1⟩ := box2 kX1
  go_wp2_with fail
  refine (mcheck_any _ oneC X1 _ R1X1.out HSM.out).mono ?_
  rw [may_one, errM_t]
  rintro e w2 ⟨rfl, P2⟩
  have k2 := kX1.next P2
  have R2 := Lib.hid (RdL.same (Same.below P2) R1X1.out)
  have B2 := Lib.hid (B1X1.out.trans (P2.mono B1X1.out.size))
  clear P2 q0 q1
  obtain ⟨q0, q1⟩ := box2 k2
  go_wp2_with fail
  refine (mall_any _ oneC w2 _ R2.out HSM.out).mono ?_
  rw [all_one]
  rintro e w3 ⟨v3, rfl, o3, P3⟩
  have k3 := k2.next P3
  have R3 := Lib.hid (RdL.same (Same.below P3) R2.out)
  have B3 := Lib.hid (B2.out.trans (P3.mono B2.out.size))
  obtain ⟨a3, c3, rfl, hs3⟩ := o3.sl (fun x hx => by simp at hx; rcases hx with rfl | rfl | rfl | rfl <;> exact ⟨by decide, by decide⟩)
  have HS3 := Lib.hid hs3
  clear P3 o3 hs3 q0 q1
  go_wp2_with fail
  have L4 : SlI (w3.alloc (.cells #[.int .i64 1, .int .i64 2, .int .i64 3, .int .i64 4] 3)) (fun _ => True) (some ⟨w3.heap.size, 0, none⟩) 4 4 [1, 2, 3, 4] := Blk.slI (xs := [1, 2, 3, 4]) (Blk.new _ _ _) (fun x hx => by simp at hx; rcases hx with rfl | rfl | rfl | rfl <;> exact ⟨by decide, by decide⟩) trivial (by decide)
  refine (ints_any a3 _ _ _ _ _ [1, 2, 3, 4] [1, 2, 3, 4] _ (HS3.out.alloc _) (IntSl.ofSl L4)).mono ?_
  rw [show eqB [1, 2, 3, 4] [1, 2, 3, 4] = true from by simp [eqB]]
  rintro e w4 ⟨rfl, q, rfl⟩
  have k4 : Blk ((w3.alloc (.cells #[.int .i64 1, .int .i64 2, .int .i64 3, .int .i64 4] 3)).drewN q) w1.heap.size 25 _ := k3.alloc _
  have P4 : Below w3.heap.size w3 ((w3.alloc (.cells #[.int .i64 1, .int .i64 2, .int .i64 3, .int .i64 4] 3)).drewN q) := bdrewN ((Below.refl _ _).alloc (Nat.le_refl _) _) _
  have R4 := Lib.hid (RdL.same (Same.below P4) R3.out)
  have B4 := Lib.hid (B3.out.trans (P4.mono B3.out.size))
  clear L4 k3
  generalize (w3.alloc (.cells #[.int .i64 1, .int .i64 2, .int .i64 3, .int .i64 4] 3)).drewN q = w4 at *
  clear P4
  obtain ⟨q0, q1⟩ := box2 k4
  go_wp2_with fail
  have L5 : SlI (w4.alloc (.cells #[.int .i64 1, .int .i64 2] 3)) (fun _ => True) (some ⟨w4.heap.size, 0, none⟩) 2 2 [1, 2] := Blk.slI (xs := [1, 2]) (Blk.new _ _ _) (fun x hx => by simp at hx; rcases hx with rfl | rfl <;> exact ⟨by decide, by decide⟩) trivial (by decide)
  have Q5 : Below w4.heap.size w4 (w4.alloc (.cells #[.int .i64 1, .int .i64 2] 3)) := (Below.refl _ _).alloc (Nat.le_refl _) _
  refine (mreached_any _ oneC _ _ _ [1, 2] _ _ _ (RdL.same (Same.below Q5) R4.out) HSM.out L5).mono ?_
  rw [reach_12]
  rintro e w5 ⟨rfl, P5⟩
  have k5 := (k4.alloc _).next P5
  have R5 := Lib.hid (RdL.same (Same.below P5) (RdL.same (Same.below Q5) R4.out))
  have B5 := Lib.hid (B4.out.trans ((Q5.trans (P5.mono Q5.size)).mono B4.out.size))
  clear L5 Q5 P5 q0 q1
  obtain ⟨q0, q1⟩ := box2 k5
  go_wp2_with fail
  have L6 : SlI (w5.alloc (.cells #[.int .i64 1, .int .i64 4] 3)) (fun _ => True) (some ⟨w5.heap.size, 0, none⟩) 2 2 [1, 4] := Blk.slI (xs := [1, 4]) (Blk.new _ _ _) (fun x hx => by simp at hx; rcases hx with rfl | rfl <;> exact ⟨by decide, by decide⟩) trivial (by decide)
  have Q6 : Below w5.heap.size w5 (w5.alloc (.cells #[.int .i64 1, .int .i64 4] 3)) := (Below.refl _ _).alloc (Nat.le_refl _) _
  refine (mreached_any _ oneC _ _ _ [1, 4] _ _ _ (RdL.same (Same.below Q6) R5.out) HSM.out L6).mono ?_
  rw [reach_14]
  rintro e w6 ⟨rfl, P6⟩
  have k6 := (k5.alloc _).next P6
  have R6 := Lib.hid (RdL.same (Same.below P6) (RdL.same (Same.below Q6) R5.out))
  have B6 := Lib.hid (B5.out.trans ((Q6.trans (P6.mono Q6.size)).mono B5.out.size))
  clear L6 Q6 P6 q0 q1
  obtain ⟨q0, q1⟩ := box2 k6
  go_wp2_with fail
  refine (mvoter_any _ oneC 3 _ _ R6.out HSM.out).mono ?_
  rw [voter_3]
  rintro e w7 ⟨rfl, P7⟩
  have k7 := k6.next P7
  have R7 := Lib.hid (RdL.same (Same.below P7) R6.out)
  have B7 := Lib.hid (B6.out.trans (P7.mono B6.out.size))
  clear P7 q0 q1
  obtain ⟨q0, q1⟩ := box2 k7
  go_wp2_with fail
  refine (mvoter_any _ oneC 4 _ _ R7.out HSM.out).mono ?_
  rw [voter_4]
  rintro e w8 ⟨rfl, P8⟩
  have k8 := k7.next P8
  have R8 := Lib.hid (RdL.same (Same.below P8) R7.out)
  have B8 := Lib.hid (B7.out.trans (P8.mono B7.out.size))
  clear P8 q0 q1
  obtain ⟨q0, q1⟩ := box2 k8
  go_wp2_with fail
  go_ret
  exact ⟨rfl, B8.out⟩
end Go.Proofs.Ytejahcpnbkegfaa
