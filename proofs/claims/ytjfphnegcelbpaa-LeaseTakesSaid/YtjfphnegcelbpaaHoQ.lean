/- The walk of the law LeaseTakes: true for every struct and numbers. No condition. -/
import Derived.Test.YtjfphnegcelbpaaHoP
namespace Go.Proofs.Ytjfphnegcelbpaa
open Go.RowKit
set_option linter.unusedVariables false
set_option linter.unusedSimpArgs false
set_option maxHeartbeats 8000000 in
theorem law_leaseTakes (vs : List Value) (h : Holder) (ask seq : Int) (w : World) (hr : RdL w (All w) Holder.ty vs h.enc) (hask : I64 ask) (hseq : I64 seq) :
    Calls Try.prog 5 #[.agg vs.toArray, .int .i64 ask, .int .i64 seq] w fun e w' => e = .returned (.bool true) ∧ Below w.heap.size w w' := by
  have HRW := Lib.hid hr
  obtain ⟨a3, c3, rfl, b0, b1, b2, s3, b4, b5⟩ := Holder.opens hr
  have n3 := s3.bd.2.2.1
  have BW := Lib.hid (Below.refl w.heap.size w)
  clear hr s3
  by_cases hl : 1000 < h.sent.length
  · go_enter Try.func5, Try.ntmps5
    go_wp2_with fail
    go_ret
    exact ⟨rfl, (Below.refl _ _).alloc (Nat.le_refl _) _⟩
  have hn : h.sent.length ≤ 1000000 := by omega
  go_enter Try.func5, Try.ntmps5
  go_upto_region 1 with fail
  obtain ⟨X0, hX0⟩ : ∃ W : World, w.alloc (.cells #[.int .i64 h.node, .int .i64 h.now, .int .i64 h.ask, .slice a3 h.sent.length c3, .int .i64 h.seq, .int .i64 h.at_] 24) = W := ⟨_, rfl⟩; rw [hX0]; have khX0 := Blk.new w 24 #[.int .i64 h.node, .int .i64 h.now, .int .i64 h.ask, .slice a3 h.sent.length c3, .int .i64 h.seq, .int .i64 h.at_]; rw [hX0] at khX0; have BWX0 := Lib.hid (BW.out.alloc BW.out.size (.cells #[.int .i64 h.node, .int .i64 h.now, .int .i64 h.ask, .slice a3 h.sent.length c3, .int .i64 h.seq, .int .i64 h.at_] 24)); rw [hX0] at BWX0; have HRWX0 := Lib.hid (RdL.same (Same.alloc _ w (.cells #[.int .i64 h.node, .int .i64 h.now, .int .i64 h.ask, .slice a3 h.sent.length c3, .int .i64 h.seq, .int .i64 h.at_] 24)) HRW.out); rw [hX0] at HRWX0; have zX0 : w.heap.size + 1 ≤ X0.heap.size := (by rw [← hX0] <;> simp); clear hX0
  obtain ⟨q0, q1, q2, q3, q4, q5⟩ := box6 khX0
  go_wp2_with fail
  refine (rhown_any _ h X0 _ HRWX0.out hn).mono ?_
  rintro e w1 ⟨v, rfl, ho, P1⟩
  obtain ⟨ao, co, rfl⟩ := ho.form
  have ro := hold_rd ho hn (Nat.le_refl _) b0 b1 b2 b4 b5
  rw [List.length_map] at ro ⊢
  have HRO := Lib.hid (RdL.mono (T := fun b => b < w1.heap.size) (fun b hb _ => hb) ro)
  have kh1 := khX0.below P1 khX0.lt
  have HRW1 := Lib.hid (RdL.same (Same.below P1) HRWX0.out)
  have BW1 := Lib.hid (BWX0.out.trans (P1.mono BWX0.out.size))
  have z1 := P1.size
  have zw := BW1.out.size
  clear ho ro P1 q0 q1 q2 q3 q4 q5
  obtain ⟨q0, q1, q2, q3, q4, q5⟩ := box6 kh1
  go_upto_region 4 with fail
  clear q0 q1 q2 q3 q4 q5
  obtain ⟨X1, hX1⟩ : ∃ W : World, w1.alloc (.cells #[.int .i64 h.node, .int .i64 h.now, .int .i64 h.ask, .slice ao h.sent.length co, .int .i64 h.seq, .int .i64 h.at_] 24) = W := ⟨_, rfl⟩; rw [hX1]; have koX1 := Blk.new w1 24 #[.int .i64 h.node, .int .i64 h.now, .int .i64 h.ask, .slice ao h.sent.length co, .int .i64 h.seq, .int .i64 h.at_]; rw [hX1] at koX1; have kh1X1 := kh1.alloc (.cells #[.int .i64 h.node, .int .i64 h.now, .int .i64 h.ask, .slice ao h.sent.length co, .int .i64 h.seq, .int .i64 h.at_] 24); rw [hX1] at kh1X1; have BW1X1 := Lib.hid (BW1.out.alloc BW1.out.size (.cells #[.int .i64 h.node, .int .i64 h.now, .int .i64 h.ask, .slice ao h.sent.length co, .int .i64 h.seq, .int .i64 h.at_] 24)); rw [hX1] at BW1X1; have HROX1 := Lib.hid (RdL.same (Same.alloc _ w1 (.cells #[.int .i64 h.node, .int .i64 h.now, .int .i64 h.ask, .slice ao h.sent.length co, .int .i64 h.seq, .int .i64 h.at_] 24)) HRO.out); rw [hX1] at HROX1; have HRW1X1 := Lib.hid (RdL.same (Same.alloc _ w1 (.cells #[.int .i64 h.node, .int .i64 h.now, .int .i64 h.ask, .slice ao h.sent.length co, .int .i64 h.seq, .int .i64 h.at_] 24)) HRW1.out); rw [hX1] at HRW1X1; have zX1 : w1.heap.size + 1 ≤ X1.heap.size := (by rw [← hX1] <;> simp); clear hX1
  obtain ⟨q0, q1, q2, q3, q4, q5⟩ := box6 kh1X1
  go_wp2_with fail
  refine (take_any _ h X1 _ HRW1X1.out hn ask seq hask hseq).mono ?_
  rintro e w2 ⟨vs2, rfl, r2, P2⟩
  obtain ⟨a2', c2', rfl, _, _, _, s2, _, _⟩ := Holder.opens r2
  have HRX := Lib.hid (RdL.mono (T := fun b => X1.heap.size ≤ b ∧ b < w2.heap.size) (fun b hb hs => ⟨hs, hb⟩) r2)
  have kh1X1_ := kh1X1.below P2 kh1X1.lt
  have koX1_ := koX1.below P2 koX1.lt
  have HROX1_ := Lib.hid (RdL.same (Same.below P2) HROX1.out)
  have HRW1X1_ := Lib.hid (RdL.same (Same.below P2) HRW1X1.out)
  have BW1X1_ := Lib.hid (BW1X1.out.trans (P2.mono BW1X1.out.size))
  have z2 := P2.size
  clear P2 r2 s2 q0 q1 q2 q3 q4 q5
  go_upto_region 5 with fail
  obtain ⟨X2, hX2⟩ : ∃ W : World, w2.alloc (.cells #[.int .i64 (takeH h ask seq).node, .int .i64 (takeH h ask seq).now, .int .i64 (takeH h ask seq).ask, .slice a2' (takeH h ask seq).sent.length c2', .int .i64 (takeH h ask seq).seq, .int .i64 (takeH h ask seq).at_] 24) = W := ⟨_, rfl⟩; rw [hX2]; have kxX2 := Blk.new w2 24 #[.int .i64 (takeH h ask seq).node, .int .i64 (takeH h ask seq).now, .int .i64 (takeH h ask seq).ask, .slice a2' (takeH h ask seq).sent.length c2', .int .i64 (takeH h ask seq).seq, .int .i64 (takeH h ask seq).at_]; rw [hX2] at kxX2; have kh1X1_X2 := kh1X1_.alloc (.cells #[.int .i64 (takeH h ask seq).node, .int .i64 (takeH h ask seq).now, .int .i64 (takeH h ask seq).ask, .slice a2' (takeH h ask seq).sent.length c2', .int .i64 (takeH h ask seq).seq, .int .i64 (takeH h ask seq).at_] 24); rw [hX2] at kh1X1_X2; have koX1_X2 := koX1_.alloc (.cells #[.int .i64 (takeH h ask seq).node, .int .i64 (takeH h ask seq).now, .int .i64 (takeH h ask seq).ask, .slice a2' (takeH h ask seq).sent.length c2', .int .i64 (takeH h ask seq).seq, .int .i64 (takeH h ask seq).at_] 24); rw [hX2] at koX1_X2; have BW1X1_X2 := Lib.hid (BW1X1_.out.alloc BW1X1_.out.size (.cells #[.int .i64 (takeH h ask seq).node, .int .i64 (takeH h ask seq).now, .int .i64 (takeH h ask seq).ask, .slice a2' (takeH h ask seq).sent.length c2', .int .i64 (takeH h ask seq).seq, .int .i64 (takeH h ask seq).at_] 24)); rw [hX2] at BW1X1_X2; have HRXX2 := Lib.hid (RdL.same (Same.alloc _ w2 (.cells #[.int .i64 (takeH h ask seq).node, .int .i64 (takeH h ask seq).now, .int .i64 (takeH h ask seq).ask, .slice a2' (takeH h ask seq).sent.length c2', .int .i64 (takeH h ask seq).seq, .int .i64 (takeH h ask seq).at_] 24)) HRX.out); rw [hX2] at HRXX2; have HROX1_X2 := Lib.hid (RdL.same (Same.alloc _ w2 (.cells #[.int .i64 (takeH h ask seq).node, .int .i64 (takeH h ask seq).now, .int .i64 (takeH h ask seq).ask, .slice a2' (takeH h ask seq).sent.length c2', .int .i64 (takeH h ask seq).seq, .int .i64 (takeH h ask seq).at_] 24)) HROX1_.out); rw [hX2] at HROX1_X2; have HRW1X1_X2 := Lib.hid (RdL.same (Same.alloc _ w2 (.cells #[.int .i64 (takeH h ask seq).node, .int .i64 (takeH h ask seq).now, .int .i64 (takeH h ask seq).ask, .slice a2' (takeH h ask seq).sent.length c2', .int .i64 (takeH h ask seq).seq, .int .i64 (takeH h ask seq).at_] 24)) HRW1X1_.out); rw [hX2] at HRW1X1_X2; have zX2 : w2.heap.size + 1 ≤ X2.heap.size := (by rw [← hX2] <;> simp); clear hX2
  obtain ⟨q0, q1, q2, q3, q4, q5⟩ := box6 koX1_X2
  go_wp2_with fail
  refine (rtake_any _ h X2 _ HROX1_X2.out hn ask seq hask hseq).mono ?_
  rintro e w3 ⟨vs3, rfl, r3, P3⟩
  obtain ⟨a3', c3', rfl, _, _, _, s3, _, _⟩ := Holder.opens r3
  have HRQ := Lib.hid (RdL.mono (T := fun b => X2.heap.size ≤ b ∧ b < w3.heap.size) (fun b hb hs => ⟨hs, hb⟩) r3)
  have kh1X1_X2_ := kh1X1_X2.below P3 kh1X1_X2.lt
  have koX1_X2_ := koX1_X2.below P3 koX1_X2.lt
  have kxX2_ := kxX2.below P3 kxX2.lt
  have HROX1_X2_ := Lib.hid (RdL.same (Same.below P3) HROX1_X2.out)
  have HRW1X1_X2_ := Lib.hid (RdL.same (Same.below P3) HRW1X1_X2.out)
  have HRXX2_ := Lib.hid (RdL.same (Same.below P3) HRXX2.out)
  have BW1X1_X2_ := Lib.hid (BW1X1_X2.out.trans (P3.mono BW1X1_X2.out.size))
  have z3 := P3.size
  clear P3 r3 s3 q0 q1 q2 q3 q4 q5
  go_upto_region 6 with fail
  obtain ⟨X3, hX3⟩ : ∃ W : World, w3.alloc (.cells #[.int .i64 (takeH h ask seq).node, .int .i64 (takeH h ask seq).now, .int .i64 (takeH h ask seq).ask, .slice a3' (takeH h ask seq).sent.length c3', .int .i64 (takeH h ask seq).seq, .int .i64 (takeH h ask seq).at_] 24) = W := ⟨_, rfl⟩; rw [hX3]; have kwX3 := Blk.new w3 24 #[.int .i64 (takeH h ask seq).node, .int .i64 (takeH h ask seq).now, .int .i64 (takeH h ask seq).ask, .slice a3' (takeH h ask seq).sent.length c3', .int .i64 (takeH h ask seq).seq, .int .i64 (takeH h ask seq).at_]; rw [hX3] at kwX3; have kh1X1_X2_X3 := kh1X1_X2_.alloc (.cells #[.int .i64 (takeH h ask seq).node, .int .i64 (takeH h ask seq).now, .int .i64 (takeH h ask seq).ask, .slice a3' (takeH h ask seq).sent.length c3', .int .i64 (takeH h ask seq).seq, .int .i64 (takeH h ask seq).at_] 24); rw [hX3] at kh1X1_X2_X3; have koX1_X2_X3 := koX1_X2_.alloc (.cells #[.int .i64 (takeH h ask seq).node, .int .i64 (takeH h ask seq).now, .int .i64 (takeH h ask seq).ask, .slice a3' (takeH h ask seq).sent.length c3', .int .i64 (takeH h ask seq).seq, .int .i64 (takeH h ask seq).at_] 24); rw [hX3] at koX1_X2_X3; have kxX2_X3 := kxX2_.alloc (.cells #[.int .i64 (takeH h ask seq).node, .int .i64 (takeH h ask seq).now, .int .i64 (takeH h ask seq).ask, .slice a3' (takeH h ask seq).sent.length c3', .int .i64 (takeH h ask seq).seq, .int .i64 (takeH h ask seq).at_] 24); rw [hX3] at kxX2_X3; have BW1X1_X2_X3 := Lib.hid (BW1X1_X2_.out.alloc BW1X1_X2_.out.size (.cells #[.int .i64 (takeH h ask seq).node, .int .i64 (takeH h ask seq).now, .int .i64 (takeH h ask seq).ask, .slice a3' (takeH h ask seq).sent.length c3', .int .i64 (takeH h ask seq).seq, .int .i64 (takeH h ask seq).at_] 24)); rw [hX3] at BW1X1_X2_X3; have HRQX3 := Lib.hid (RdL.same (Same.alloc _ w3 (.cells #[.int .i64 (takeH h ask seq).node, .int .i64 (takeH h ask seq).now, .int .i64 (takeH h ask seq).ask, .slice a3' (takeH h ask seq).sent.length c3', .int .i64 (takeH h ask seq).seq, .int .i64 (takeH h ask seq).at_] 24)) HRQ.out); rw [hX3] at HRQX3; have HROX1_X2_X3 := Lib.hid (RdL.same (Same.alloc _ w3 (.cells #[.int .i64 (takeH h ask seq).node, .int .i64 (takeH h ask seq).now, .int .i64 (takeH h ask seq).ask, .slice a3' (takeH h ask seq).sent.length c3', .int .i64 (takeH h ask seq).seq, .int .i64 (takeH h ask seq).at_] 24)) HROX1_X2_.out); rw [hX3] at HROX1_X2_X3; have HRW1X1_X2_X3 := Lib.hid (RdL.same (Same.alloc _ w3 (.cells #[.int .i64 (takeH h ask seq).node, .int .i64 (takeH h ask seq).now, .int .i64 (takeH h ask seq).ask, .slice a3' (takeH h ask seq).sent.length c3', .int .i64 (takeH h ask seq).seq, .int .i64 (takeH h ask seq).at_] 24)) HRW1X1_X2_.out); rw [hX3] at HRW1X1_X2_X3; have HRXX2_X3 := Lib.hid (RdL.same (Same.alloc _ w3 (.cells #[.int .i64 (takeH h ask seq).node, .int .i64 (takeH h ask seq).now, .int .i64 (takeH h ask seq).ask, .slice a3' (takeH h ask seq).sent.length c3', .int .i64 (takeH h ask seq).seq, .int .i64 (takeH h ask seq).at_] 24)) HRXX2_.out); rw [hX3] at HRXX2_X3; have zX3 : w3.heap.size + 1 ≤ X3.heap.size := (by rw [← hX3] <;> simp); clear hX3
  obtain ⟨q0, q1, q2, q3, q4, q5⟩ := box6 kh1X1_X2_X3
  go_wp2_with fail
  refine (again_any _ h X3 _ HRW1X1_X2_X3.out).mono ?_
  rintro e w4 ⟨vs4, rfl, r4, P4⟩
  obtain ⟨a4', c4', rfl, _, _, _, s4, _, _⟩ := Holder.opens r4
  have HRY := Lib.hid (RdL.mono (T := fun b => X3.heap.size ≤ b ∧ b < w4.heap.size) (fun b hb hs => ⟨hs, hb⟩) r4)
  have kh1X1_X2_X3_ := kh1X1_X2_X3.below P4 kh1X1_X2_X3.lt
  have koX1_X2_X3_ := koX1_X2_X3.below P4 koX1_X2_X3.lt
  have kxX2_X3_ := kxX2_X3.below P4 kxX2_X3.lt
  have kwX3_ := kwX3.below P4 kwX3.lt
  have HROX1_X2_X3_ := Lib.hid (RdL.same (Same.below P4) HROX1_X2_X3.out)
  have HRW1X1_X2_X3_ := Lib.hid (RdL.same (Same.below P4) HRW1X1_X2_X3.out)
  have HRXX2_X3_ := Lib.hid (RdL.same (Same.below P4) HRXX2_X3.out)
  have HRQX3_ := Lib.hid (RdL.same (Same.below P4) HRQX3.out)
  have BW1X1_X2_X3_ := Lib.hid (BW1X1_X2_X3.out.trans (P4.mono BW1X1_X2_X3.out.size))
  have z4 := P4.size
  clear P4 r4 s4 q0 q1 q2 q3 q4 q5
  go_upto_region 7 with fail
  obtain ⟨X4, hX4⟩ : ∃ W : World, w4.alloc (.cells #[.int .i64 (againH h).node, .int .i64 (againH h).now, .int .i64 (againH h).ask, .slice a4' (againH h).sent.length c4', .int .i64 (againH h).seq, .int .i64 (againH h).at_] 24) = W := ⟨_, rfl⟩; rw [hX4]; have kyX4 := Blk.new w4 24 #[.int .i64 (againH h).node, .int .i64 (againH h).now, .int .i64 (againH h).ask, .slice a4' (againH h).sent.length c4', .int .i64 (againH h).seq, .int .i64 (againH h).at_]; rw [hX4] at kyX4; have kh1X1_X2_X3_X4 := kh1X1_X2_X3_.alloc (.cells #[.int .i64 (againH h).node, .int .i64 (againH h).now, .int .i64 (againH h).ask, .slice a4' (againH h).sent.length c4', .int .i64 (againH h).seq, .int .i64 (againH h).at_] 24); rw [hX4] at kh1X1_X2_X3_X4; have koX1_X2_X3_X4 := koX1_X2_X3_.alloc (.cells #[.int .i64 (againH h).node, .int .i64 (againH h).now, .int .i64 (againH h).ask, .slice a4' (againH h).sent.length c4', .int .i64 (againH h).seq, .int .i64 (againH h).at_] 24); rw [hX4] at koX1_X2_X3_X4; have kxX2_X3_X4 := kxX2_X3_.alloc (.cells #[.int .i64 (againH h).node, .int .i64 (againH h).now, .int .i64 (againH h).ask, .slice a4' (againH h).sent.length c4', .int .i64 (againH h).seq, .int .i64 (againH h).at_] 24); rw [hX4] at kxX2_X3_X4; have kwX3_X4 := kwX3_.alloc (.cells #[.int .i64 (againH h).node, .int .i64 (againH h).now, .int .i64 (againH h).ask, .slice a4' (againH h).sent.length c4', .int .i64 (againH h).seq, .int .i64 (againH h).at_] 24); rw [hX4] at kwX3_X4; have BW1X1_X2_X3_X4 := Lib.hid (BW1X1_X2_X3_.out.alloc BW1X1_X2_X3_.out.size (.cells #[.int .i64 (againH h).node, .int .i64 (againH h).now, .int .i64 (againH h).ask, .slice a4' (againH h).sent.length c4', .int .i64 (againH h).seq, .int .i64 (againH h).at_] 24)); rw [hX4] at BW1X1_X2_X3_X4; have HRYX4 := Lib.hid (RdL.same (Same.alloc _ w4 (.cells #[.int .i64 (againH h).node, .int .i64 (againH h).now, .int .i64 (againH h).ask, .slice a4' (againH h).sent.length c4', .int .i64 (againH h).seq, .int .i64 (againH h).at_] 24)) HRY.out); rw [hX4] at HRYX4; have HROX1_X2_X3_X4 := Lib.hid (RdL.same (Same.alloc _ w4 (.cells #[.int .i64 (againH h).node, .int .i64 (againH h).now, .int .i64 (againH h).ask, .slice a4' (againH h).sent.length c4', .int .i64 (againH h).seq, .int .i64 (againH h).at_] 24)) HROX1_X2_X3_.out); rw [hX4] at HROX1_X2_X3_X4; have HRW1X1_X2_X3_X4 := Lib.hid (RdL.same (Same.alloc _ w4 (.cells #[.int .i64 (againH h).node, .int .i64 (againH h).now, .int .i64 (againH h).ask, .slice a4' (againH h).sent.length c4', .int .i64 (againH h).seq, .int .i64 (againH h).at_] 24)) HRW1X1_X2_X3_.out); rw [hX4] at HRW1X1_X2_X3_X4; have HRXX2_X3_X4 := Lib.hid (RdL.same (Same.alloc _ w4 (.cells #[.int .i64 (againH h).node, .int .i64 (againH h).now, .int .i64 (againH h).ask, .slice a4' (againH h).sent.length c4', .int .i64 (againH h).seq, .int .i64 (againH h).at_] 24)) HRXX2_X3_.out); rw [hX4] at HRXX2_X3_X4; have HRQX3_X4 := Lib.hid (RdL.same (Same.alloc _ w4 (.cells #[.int .i64 (againH h).node, .int .i64 (againH h).now, .int .i64 (againH h).ask, .slice a4' (againH h).sent.length c4', .int .i64 (againH h).seq, .int .i64 (againH h).at_] 24)) HRQX3_.out); rw [hX4] at HRQX3_X4; have zX4 : w4.heap.size + 1 ≤ X4.heap.size := (by rw [← hX4] <;> simp); clear hX4
  obtain ⟨q0, q1, q2, q3, q4, q5⟩ := box6 koX1_X2_X3_X4
  go_wp2_with fail
  refine (ragain_any _ h X4 _ HROX1_X2_X3_X4.out).mono ?_
  rintro e w5 ⟨vs5, rfl, r5, P5⟩
  obtain ⟨a5', c5', rfl, _, _, _, s5, _, _⟩ := Holder.opens r5
  have HRV := Lib.hid (RdL.mono (T := fun b => X4.heap.size ≤ b ∧ b < w5.heap.size) (fun b hb hs => ⟨hs, hb⟩) r5)
  have kh1X1_X2_X3_X4_ := kh1X1_X2_X3_X4.below P5 kh1X1_X2_X3_X4.lt
  have koX1_X2_X3_X4_ := koX1_X2_X3_X4.below P5 koX1_X2_X3_X4.lt
  have kxX2_X3_X4_ := kxX2_X3_X4.below P5 kxX2_X3_X4.lt
  have kwX3_X4_ := kwX3_X4.below P5 kwX3_X4.lt
  have kyX4_ := kyX4.below P5 kyX4.lt
  have HROX1_X2_X3_X4_ := Lib.hid (RdL.same (Same.below P5) HROX1_X2_X3_X4.out)
  have HRW1X1_X2_X3_X4_ := Lib.hid (RdL.same (Same.below P5) HRW1X1_X2_X3_X4.out)
  have HRXX2_X3_X4_ := Lib.hid (RdL.same (Same.below P5) HRXX2_X3_X4.out)
  have HRQX3_X4_ := Lib.hid (RdL.same (Same.below P5) HRQX3_X4.out)
  have HRYX4_ := Lib.hid (RdL.same (Same.below P5) HRYX4.out)
  have BW1X1_X2_X3_X4_ := Lib.hid (BW1X1_X2_X3_X4.out.trans (P5.mono BW1X1_X2_X3_X4.out.size))
  have z5 := P5.size
  clear P5 r5 s5 q0 q1 q2 q3 q4 q5
  go_upto_region 8 with fail
  obtain ⟨X5, hX5⟩ : ∃ W : World, w5.alloc (.cells #[.int .i64 (againH h).node, .int .i64 (againH h).now, .int .i64 (againH h).ask, .slice a5' (againH h).sent.length c5', .int .i64 (againH h).seq, .int .i64 (againH h).at_] 24) = W := ⟨_, rfl⟩; rw [hX5]; have kvX5 := Blk.new w5 24 #[.int .i64 (againH h).node, .int .i64 (againH h).now, .int .i64 (againH h).ask, .slice a5' (againH h).sent.length c5', .int .i64 (againH h).seq, .int .i64 (againH h).at_]; rw [hX5] at kvX5; have kh1X1_X2_X3_X4_X5 := kh1X1_X2_X3_X4_.alloc (.cells #[.int .i64 (againH h).node, .int .i64 (againH h).now, .int .i64 (againH h).ask, .slice a5' (againH h).sent.length c5', .int .i64 (againH h).seq, .int .i64 (againH h).at_] 24); rw [hX5] at kh1X1_X2_X3_X4_X5; have koX1_X2_X3_X4_X5 := koX1_X2_X3_X4_.alloc (.cells #[.int .i64 (againH h).node, .int .i64 (againH h).now, .int .i64 (againH h).ask, .slice a5' (againH h).sent.length c5', .int .i64 (againH h).seq, .int .i64 (againH h).at_] 24); rw [hX5] at koX1_X2_X3_X4_X5; have kxX2_X3_X4_X5 := kxX2_X3_X4_.alloc (.cells #[.int .i64 (againH h).node, .int .i64 (againH h).now, .int .i64 (againH h).ask, .slice a5' (againH h).sent.length c5', .int .i64 (againH h).seq, .int .i64 (againH h).at_] 24); rw [hX5] at kxX2_X3_X4_X5; have kwX3_X4_X5 := kwX3_X4_.alloc (.cells #[.int .i64 (againH h).node, .int .i64 (againH h).now, .int .i64 (againH h).ask, .slice a5' (againH h).sent.length c5', .int .i64 (againH h).seq, .int .i64 (againH h).at_] 24); rw [hX5] at kwX3_X4_X5; have kyX4_X5 := kyX4_.alloc (.cells #[.int .i64 (againH h).node, .int .i64 (againH h).now, .int .i64 (againH h).ask, .slice a5' (againH h).sent.length c5', .int .i64 (againH h).seq, .int .i64 (againH h).at_] 24); rw [hX5] at kyX4_X5; have BW1X1_X2_X3_X4_X5 := Lib.hid (BW1X1_X2_X3_X4_.out.alloc BW1X1_X2_X3_X4_.out.size (.cells #[.int .i64 (againH h).node, .int .i64 (againH h).now, .int .i64 (againH h).ask, .slice a5' (againH h).sent.length c5', .int .i64 (againH h).seq, .int .i64 (againH h).at_] 24)); rw [hX5] at BW1X1_X2_X3_X4_X5; have HRVX5 := Lib.hid (RdL.same (Same.alloc _ w5 (.cells #[.int .i64 (againH h).node, .int .i64 (againH h).now, .int .i64 (againH h).ask, .slice a5' (againH h).sent.length c5', .int .i64 (againH h).seq, .int .i64 (againH h).at_] 24)) HRV.out); rw [hX5] at HRVX5; have HROX1_X2_X3_X4_X5 := Lib.hid (RdL.same (Same.alloc _ w5 (.cells #[.int .i64 (againH h).node, .int .i64 (againH h).now, .int .i64 (againH h).ask, .slice a5' (againH h).sent.length c5', .int .i64 (againH h).seq, .int .i64 (againH h).at_] 24)) HROX1_X2_X3_X4_.out); rw [hX5] at HROX1_X2_X3_X4_X5; have HRW1X1_X2_X3_X4_X5 := Lib.hid (RdL.same (Same.alloc _ w5 (.cells #[.int .i64 (againH h).node, .int .i64 (againH h).now, .int .i64 (againH h).ask, .slice a5' (againH h).sent.length c5', .int .i64 (againH h).seq, .int .i64 (againH h).at_] 24)) HRW1X1_X2_X3_X4_.out); rw [hX5] at HRW1X1_X2_X3_X4_X5; have HRXX2_X3_X4_X5 := Lib.hid (RdL.same (Same.alloc _ w5 (.cells #[.int .i64 (againH h).node, .int .i64 (againH h).now, .int .i64 (againH h).ask, .slice a5' (againH h).sent.length c5', .int .i64 (againH h).seq, .int .i64 (againH h).at_] 24)) HRXX2_X3_X4_.out); rw [hX5] at HRXX2_X3_X4_X5; have HRQX3_X4_X5 := Lib.hid (RdL.same (Same.alloc _ w5 (.cells #[.int .i64 (againH h).node, .int .i64 (againH h).now, .int .i64 (againH h).ask, .slice a5' (againH h).sent.length c5', .int .i64 (againH h).seq, .int .i64 (againH h).at_] 24)) HRQX3_X4_.out); rw [hX5] at HRQX3_X4_X5; have HRYX4_X5 := Lib.hid (RdL.same (Same.alloc _ w5 (.cells #[.int .i64 (againH h).node, .int .i64 (againH h).now, .int .i64 (againH h).ask, .slice a5' (againH h).sent.length c5', .int .i64 (againH h).seq, .int .i64 (againH h).at_] 24)) HRYX4_.out); rw [hX5] at HRYX4_X5; have zX5 : w5.heap.size + 1 ≤ X5.heap.size := (by rw [← hX5] <;> simp); clear hX5
  go_wp2_with fail
  refine (good'_any X5).mono ?_
  rintro e wg ⟨rfl, Pg⟩
  have kh1X1_X2_X3_X4_X5g := kh1X1_X2_X3_X4_X5.below Pg kh1X1_X2_X3_X4_X5.lt
  have koX1_X2_X3_X4_X5g := koX1_X2_X3_X4_X5.below Pg koX1_X2_X3_X4_X5.lt
  have kxX2_X3_X4_X5g := kxX2_X3_X4_X5.below Pg kxX2_X3_X4_X5.lt
  have kwX3_X4_X5g := kwX3_X4_X5.below Pg kwX3_X4_X5.lt
  have kyX4_X5g := kyX4_X5.below Pg kyX4_X5.lt
  have kvX5g := kvX5.below Pg kvX5.lt
  have HROX1_X2_X3_X4_X5g := Lib.hid (RdL.same (Same.below Pg) HROX1_X2_X3_X4_X5.out)
  have HRW1X1_X2_X3_X4_X5g := Lib.hid (RdL.same (Same.below Pg) HRW1X1_X2_X3_X4_X5.out)
  have HRXX2_X3_X4_X5g := Lib.hid (RdL.same (Same.below Pg) HRXX2_X3_X4_X5.out)
  have HRQX3_X4_X5g := Lib.hid (RdL.same (Same.below Pg) HRQX3_X4_X5.out)
  have HRYX4_X5g := Lib.hid (RdL.same (Same.below Pg) HRYX4_X5.out)
  have HRVX5g := Lib.hid (RdL.same (Same.below Pg) HRVX5.out)
  have BWg := Lib.hid (BW1X1_X2_X3_X4_X5.out.trans (Pg.mono BW1X1_X2_X3_X4_X5.out.size))
  have zg := Pg.size
  clear Pg
  obtain ⟨q0, q1, q2, q3, q4, q5⟩ := box6 kxX2_X3_X4_X5g
  obtain ⟨r0, r1, r2, r3, r4, r5⟩ := box6 kwX3_X4_X5g
  obtain ⟨o0, o1, o2, o3, o4, o5⟩ := box6 kh1X1_X2_X3_X4_X5g
  obtain ⟨p0, p1, p2, p3, p4, p5⟩ := box6 koX1_X2_X3_X4_X5g
  obtain ⟨Bx, hBx⟩ : ∃ Bx : Nat → Prop, Bx = fun b => X1.heap.size ≤ b ∧ b < w2.heap.size := ⟨_, rfl⟩
  have HBX := Lib.hid hBx
  have hlt : ∀ b, Bx b → b < wg.heap.size := fun b hb => by rw [HBX.out] at hb; have := hb.2; omega
  have RX := Lib.hid (RdL.mono (T := Bx) (fun b _ hb => by rw [HBX.out]; exact hb) HRXX2_X3_X4_X5g.out)
  have RH := Lib.hid (RdL.mono (T := fun b => ¬ Bx b ∧ b < wg.heap.size) (fun b _ hb => by have : b < w.heap.size := hb; exact ⟨fun h => by rw [HBX.out] at h; have := h.1; omega, by omega⟩) HRW1X1_X2_X3_X4_X5g.out)
  have RO := Lib.hid (RdL.mono (T := fun b => ¬ Bx b ∧ b < wg.heap.size) (fun b _ hb => by have : b < w1.heap.size := hb; exact ⟨fun h => by rw [HBX.out] at h; have := h.1; omega, by omega⟩) HROX1_X2_X3_X4_X5g.out)
  have HLT := Lib.hid hlt
  have nb : ∀ b, (b < X1.heap.size ∨ w2.heap.size ≤ b) → ¬ Bx b := fun b hb h => by rw [HBX.out] at h; omega
  have NB := Lib.hid nb
  clear hBx hlt nb
  go_wp2_with fail
  refine (lsameS_any _ _ _ _ (takeH h ask seq) h (takeE h) wg Bx _ HLT.out RX.out HRQX3_X4_X5g.out RH.out RO.out).mono ?_
  rintro e wf ⟨rfl, Pf⟩
  have kh1X1_X2_X3_X4_X5f := kh1X1_X2_X3_X4_X5g.apart Pf (NB.out _ (by omega))
  have koX1_X2_X3_X4_X5f := koX1_X2_X3_X4_X5g.apart Pf (NB.out _ (by omega))
  have kyX4_X5f := kyX4_X5g.apart Pf (NB.out _ (by omega))
  have kvX5f := kvX5g.apart Pf (NB.out _ (by omega))
  have RHf := Lib.hid (RdL.mono (T := fun b => ¬ (fun _ => False) b ∧ b < wf.heap.size) (fun b hb hh => ⟨fun h => h, hb⟩) (RdL.same Pf.same RH.out))
  have ROf := Lib.hid (RdL.mono (T := fun b => ¬ (fun _ => False) b ∧ b < wf.heap.size) (fun b hb hh => ⟨fun h => h, hb⟩) (RdL.same Pf.same RO.out))
  have hag : (againH h).sent = [] := by
    unfold againH
    split <;> rfl
  have RYf := Lib.hid (nosent_rd (w' := wf) (T := fun _ => False) HRYX4_X5g.out hag)
  have RVf := Lib.hid (nosent_rd (w' := wf) (T := fun _ => False) HRVX5g.out hag)
  have BWf := Lib.hid (BWg.out.trans (Pf.below (n := w.heap.size) (fun b hb => by rw [HBX.out] at hb; have := hb.1; omega) (by omega)))
  have zf := Pf.size
  clear Pf hag q0 q1 q2 q3 q4 q5 r0 r1 r2 r3 r4 r5 o0 o1 o2 o3 o4 o5 p0 p1 p2 p3 p4 p5
  obtain ⟨q0, q1, q2, q3, q4, q5⟩ := box6 kyX4_X5f
  obtain ⟨r0, r1, r2, r3, r4, r5⟩ := box6 kvX5f
  obtain ⟨o0, o1, o2, o3, o4, o5⟩ := box6 kh1X1_X2_X3_X4_X5f
  obtain ⟨p0, p1, p2, p3, p4, p5⟩ := box6 koX1_X2_X3_X4_X5f
  go_wp2_with fail
  refine (lsameS_any _ _ _ _ (againH h) h (againE h) wf (fun _ => False) _ (fun b hb => hb.elim) RYf.out RVf.out RHf.out ROf.out).mono ?_
  rintro e we ⟨rfl, Pe⟩
  have BF := Lib.hid (BWf.out.trans (Pe.below (n := w.heap.size) (fun b hb => hb.elim) (by omega)))
  clear Pe q0 q1 q2 q3 q4 q5 r0 r1 r2 r3 r4 r5 o0 o1 o2 o3 o4 o5 p0 p1 p2 p3 p4 p5
  go_wp2_with fail
  go_ret
  exact ⟨rfl, BF.out⟩
end Go.Proofs.Ytjfphnegcelbpaa
