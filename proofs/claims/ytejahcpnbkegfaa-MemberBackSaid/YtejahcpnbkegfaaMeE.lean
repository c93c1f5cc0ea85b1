/- member's has, Voter, Reached. Condition: a struct that reads as a configuration, of at most 10^6 numbers in each. -/
import Derived.Test.YtejahcpnbkegfaaMeD
namespace Go.Proofs.Ytejahcpnbkegfaa
open Go.RowKit
set_option linter.unusedVariables false
set_option linter.unusedSimpArgs false
theorem has_q (a : Option Addr) (n c : Nat) (xs : List Int) (v : Int) (w : World) (ha : IntSl w a n xs) :
    Calls Try.prog 47 #[.slice a n c, .int .i64 v] w fun e w' => e = .returned (.bool (hasB xs v)) ∧ w' = w := (has_any a n c xs v w ha).mono fun _ _ h => ⟨h.1, h.2.symm⟩
theorem rhas_q (a : Option Addr) (n c : Nat) (xs : List Int) (v : Int) (w : World) (ha : IntSl w a n xs) :
    Calls Try.prog 23 #[.slice a n c, .int .i64 v] w fun e w' => e = .returned (.bool (hasB xs v)) ∧ w' = w := (rhas_any a n c xs v w ha).mono fun _ _ h => ⟨h.1, h.2.symm⟩
set_option maxRecDepth 100000 in
set_option maxHeartbeats 2000000 in
theorem mhas_any (vs : List Value) (c : Config) (v : Int) (w : World) (S : Nat → Prop) (h : RdL w S Config.ty vs c.enc) :
    Calls Try.prog 33 #[.agg vs.toArray, .int .i64 v] w (THas w (hasB c.voters v) (hasB c.learners v)) := by
  obtain ⟨a0, c0, a1, c1, rfl, s0, s1⟩ := Config.opens h
  have HV := Lib.hid (fun W (hb : Below w.heap.size w W) => has_q a0 _ c0 c.voters v W (IntSl.ofSl (s0.same (Same.below hb))))
  have HL := Lib.hid (fun W (hb : Below w.heap.size w W) => has_q a1 _ c1 c.learners v W (IntSl.ofSl (s1.same (Same.below hb))))
  have HB0 := Lib.hid ((Below.refl w.heap.size w).alloc (Nat.le_refl _) (.cells #[.slice a0 (c.voters).length c0, .slice a1 (c.learners).length c1] 49))
  clear h s0 s1
  go_enter Try.func33, Try.ntmps33
  go_wp2_with fail
  go_quiet ((first | (go_at_call_of 47 (Value.slice a0 c.voters.length c0); exact Calls.quiet_of_same (HV.out _ (bdrewN HB0.out _))) | (go_at_call_of 47 (Value.slice a1 c.learners.length c1); exact Calls.quiet_of_same (HL.out _ (bdrewN HB0.out _)))))
  go_wp2_with fail
  go_ret2
  exact ⟨rfl, bdrewN HB0.out _⟩
noncomputable def voterB (c : Config) (v : Int) : Bool := hasB c.voters v && mayB c
set_option maxRecDepth 100000 in
set_option maxHeartbeats 2000000 in
theorem mvoter_any (vs : List Value) (c : Config) (v : Int) (w : World) (S : Nat → Prop) (h : RdL w S Config.ty vs c.enc) (hs : SmallC c) :
    Calls Try.prog 17 #[.agg vs.toArray, .int .i64 v] w (TPost w (voterB c v)) := by
  have HM := Lib.hid (fun W (hb : Below w.heap.size w W) => may_any vs c W S (RdL.same (Same.below hb) h) hs)
  have HH := Lib.hid (fun W (hb : Below w.heap.size w W) => mhas_any vs c v W S (RdL.same (Same.below hb) h))
  obtain ⟨a0, c0, a1, c1, rfl, s0, s1⟩ := Config.opens h
  have HB0 := Lib.hid ((Below.refl w.heap.size w).alloc (Nat.le_refl _) (.cells #[.slice a0 (c.voters).length c0, .slice a1 (c.learners).length c1] 25))
  have KB := Lib.hid (Blk.new w 25 #[.slice a0 (c.voters).length c0, .slice a1 (c.learners).length c1])
  have hfl := fun W : World => run_two a0 c.voters.length c0 a1 c.learners.length c1 W
  clear h s0 s1
  cases hv : hasB c.voters v
  all_goals cases hm : mayB c
  all_goals
    have HVV := Lib.hid hv
    have HR := Lib.hid hm
    have HE := Lib.hid (show voterB c v = _ by rw [voterB, hv, hm])
    clear hm hv
    go_enter Try.func17, Try.ntmps17
    go_wp2_with fail
    refine (mask_any _ _ _ _ _ _ _).mono ?_
    rintro e w1 ⟨rfl, P1⟩
    have HB1 := Lib.hid (tr_below P1 HB0.out)
    have k1 := Lib.hid (KB.out.next P1)
    clear P1
    go_wp2_with fail
    refine (HH.out _ HB1.out).mono ?_
    rw [HVV.out]
    rintro e w2 ⟨rfl, P2⟩
    have HB2 := Lib.hid (tr_below P2 HB1.out)
    have k2 := k1.out.next P2
    clear P2
    obtain ⟨q0, q1⟩ := box2 k2
    have K2 := Lib.hid k2
    clear k2
    go_wp2_with fail
    first
      | (go_ret; exact ⟨by rw [HE.out]; rfl, HB2.out⟩)
      | (refine (mask_any _ _ _ _ _ _ _).mono ?_
         rintro e w3 ⟨rfl, P3⟩
         have HB3 := Lib.hid (tr_below P3 HB2.out)
         clear P3
         go_wp2_with fail
         refine (HM.out _ HB3.out).mono ?_
         rw [HR.out]
         rintro e w4 ⟨rfl, P4⟩
         have HB4 := Lib.hid (tr_below P4 HB3.out)
         clear P4
         go_wp2_with fail
         go_ret
         exact ⟨by rw [HE.out]; rfl, HB4.out⟩)
noncomputable def mreachB (c : Config) (ys : List Int) : Bool := mayB c && reachB c.voters ys
set_option maxRecDepth 100000 in
set_option maxHeartbeats 2000000 in
theorem mreached_any (vs : List Value) (c : Config) (b : Option Addr) (m cb : Nat) (ys : List Int) (w : World) (S T : Nat → Prop) (h : RdL w S Config.ty vs c.enc) (hs : SmallC c) (hy : SlI w T b m cb ys) :
    Calls Try.prog 15 #[.agg vs.toArray, .slice b m cb] w (TPost w (mreachB c ys)) := by
  have HM := Lib.hid (fun W (hb : Below w.heap.size w W) => may_any vs c W S (RdL.same (Same.below hb) h) hs)
  obtain ⟨a0, c0, a1, c1, rfl, s0, s1⟩ := Config.opens h
  have HQ := Lib.hid (fun W (hb : Below w.heap.size w W) => reached_any a0 _ c0 c.voters b m cb ys W (IntSl.ofSl (s0.same (Same.below hb))) (IntSl.ofSl (hy.same (Same.below hb))))
  have HB0 := Lib.hid ((Below.refl w.heap.size w).alloc (Nat.le_refl _) (.cells #[.slice a0 (c.voters).length c0, .slice a1 (c.learners).length c1] 25))
  have KB := Lib.hid (Blk.new w 25 #[.slice a0 (c.voters).length c0, .slice a1 (c.learners).length c1])
  have hfl := fun W : World => run_two a0 c.voters.length c0 a1 c.learners.length c1 W
  clear h s0 s1 hy
  cases hm : mayB c
  all_goals
    have HR := Lib.hid hm
    have HE := Lib.hid (show mreachB c ys = _ by rw [mreachB, hm])
    clear hm
    go_enter Try.func15, Try.ntmps15
    go_wp2_with fail
    refine (mask_any _ _ _ _ _ _ _).mono ?_
    rintro e w1 ⟨rfl, P1⟩
    have HB1 := Lib.hid (tr_below P1 HB0.out)
    have k1 := Lib.hid (KB.out.next P1)
    clear P1
    go_wp2_with fail
    refine (HM.out _ HB1.out).mono ?_
    rw [HR.out]
    rintro e w2 ⟨rfl, P2⟩
    have HB2 := Lib.hid (tr_below P2 HB1.out)
    have k2 := k1.out.next P2
    clear P2
    obtain ⟨q0, q1⟩ := box2 k2
    clear k2
    go_wp2_with fail
    first
      | (go_ret; exact ⟨by rw [HE.out]; rfl, HB2.out⟩)
      | (refine (HQ.out _ HB2.out).mono ?_
         rintro e w3 ⟨rfl, P3⟩
         have HB3 := Lib.hid (tr_below P3 HB2.out)
         clear P3
         go_wp2_with fail
         go_ret
         exact ⟨by rw [HE.out]; rfl, HB3.out⟩)
end Go.Proofs.Ytejahcpnbkegfaa
