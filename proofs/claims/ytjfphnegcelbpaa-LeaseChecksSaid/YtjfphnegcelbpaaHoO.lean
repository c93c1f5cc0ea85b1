/- The walks of the laws LeaseAsks and LeaseTakes: true for every struct and numbers. No condition. -/
import Derived.Test.YtjfphnegcelbpaaHoN
namespace Go.Proofs.Ytjfphnegcelbpaa
open Go.RowKit
set_option linter.unusedVariables false
set_option linter.unusedSimpArgs false
set_option maxHeartbeats 8000000 in
theorem law_leaseAsks (vs : List Value) (h : Holder) (w : World) (hr : RdL w (All w) Holder.ty vs h.enc) :
    Calls Try.prog 4 #[.agg vs.toArray] w fun e w' => e = .returned (.bool true) ∧ Below w.heap.size w w' := by
  have HRW := Lib.hid hr
  obtain ⟨a3, c3, rfl, b0, b1, b2, s3, b4, b5⟩ := Holder.opens hr
  have n3 := s3.bd.2.2.1
  have BW := Lib.hid (Below.refl w.heap.size w)
  clear hr s3
  by_cases hl : 1000 < h.sent.length
  · go_enter Try.func4, Try.ntmps4
    go_wp2_with fail
    go_ret
    exact ⟨rfl, (Below.refl _ _).alloc (Nat.le_refl _) _⟩
  have hn : h.sent.length ≤ 1000000 := by omega
  go_enter Try.func4, Try.ntmps4
  go_upto_region 1 with fail
  obtain ⟨X0, hX0⟩ : ∃ W : World, w.alloc (.cells #[.int .i64 h.node, .int .i64 h.now, .int .i64 h.ask, .slice a3 h.sent.length c3, .int .i64 h.seq, .int .i64 h.at_] 24) = W := ⟨_, rfl⟩; rw [hX0]; have khX0 := Blk.new w 24 #[.int .i64 h.node, .int .i64 h.now, .int .i64 h.ask, .slice a3 h.sent.length c3, .int .i64 h.seq, .int .i64 h.at_]; rw [hX0] at khX0; have BWX0 := Lib.hid (BW.out.alloc BW.out.size (.cells #[.int .i64 h.node, .int .i64 h.now, .int .i64 h.ask, .slice a3 h.sent.length c3, .int .i64 h.seq, .int .i64 h.at_] 24)); rw [hX0] at BWX0; have HRWX0 := Lib.hid (RdL.same (Same.alloc _ w (.cells #[.int .i64 h.node, .int .i64 h.now, .int .i64 h.ask, .slice a3 h.sent.length c3, .int .i64 h.seq, .int .i64 h.at_] 24)) HRW.out); rw [hX0] at HRWX0; have zX0 : w.heap.size + 1 ≤ X0.heap.size := (by rw [← hX0] <;> simp); clear hX0
  obtain ⟨q0, q1, q2, q3, q4, q5⟩ := box6 khX0
  go_wp2_with fail
  refine (rhown_any _ h X0 _ HRWX0.out hn).mono ?_
  rintro e w1 ⟨v, rfl, ho, P1⟩
  obtain ⟨ao, co, rfl⟩ := ho.form
  have ro := hold_rd ho hn (Nat.le_refl _) b0 b1 b2 b4 b5
  rw [List.length_map] at ro ⊢
  have HRO := Lib.hid (RdL.mono (T := fun b => b < w1.heap.size) (fun b hb _ => hb) ro)
  have kh1 := khX0.below P1 khX0.lt
  have HRW1 := Lib.hid (RdL.same (Same.below P1) HRWX0.out)
  have BW1 := Lib.hid (BWX0.out.trans (P1.mono BWX0.out.size))
  have z1 := P1.size
  have zw := BW1.out.size
  clear ho ro P1 q0 q1 q2 q3 q4 q5
  obtain ⟨q0, q1, q2, q3, q4, q5⟩ := box6 kh1
  go_upto_region 4 with fail
  clear q0 q1 q2 q3 q4 q5
  obtain ⟨X1, hX1⟩ : ∃ W : World, w1.alloc (.cells #[.int .i64 h.node, .int .i64 h.now, .int .i64 h.ask, .slice ao h.sent.length co, .int .i64 h.seq, .int .i64 h.at_] 24) = W := ⟨_, rfl⟩; rw [hX1]; have koX1 := Blk.new w1 24 #[.int .i64 h.node, .int .i64 h.now, .int .i64 h.ask, .slice ao h.sent.length co, .int .i64 h.seq, .int .i64 h.at_]; rw [hX1] at koX1; have kh1X1 := kh1.alloc (.cells #[.int .i64 h.node, .int .i64 h.now, .int .i64 h.ask, .slice ao h.sent.length co, .int .i64 h.seq, .int .i64 h.at_] 24); rw [hX1] at kh1X1; have BW1X1 := Lib.hid (BW1.out.alloc BW1.out.size (.cells #[.int .i64 h.node, .int .i64 h.now, .int .i64 h.ask, .slice ao h.sent.length co, .int .i64 h.seq, .int .i64 h.at_] 24)); rw [hX1] at BW1X1; have HROX1 := Lib.hid (RdL.same (Same.alloc _ w1 (.cells #[.int .i64 h.node, .int .i64 h.now, .int .i64 h.ask, .slice ao h.sent.length co, .int .i64 h.seq, .int .i64 h.at_] 24)) HRO.out); rw [hX1] at HROX1; have HRW1X1 := Lib.hid (RdL.same (Same.alloc _ w1 (.cells #[.int .i64 h.node, .int .i64 h.now, .int .i64 h.ask, .slice ao h.sent.length co, .int .i64 h.seq, .int .i64 h.at_] 24)) HRW1.out); rw [hX1] at HRW1X1; have zX1 : w1.heap.size + 1 ≤ X1.heap.size := (by rw [← hX1] <;> simp); clear hX1
  obtain ⟨q0, q1, q2, q3, q4, q5⟩ := box6 kh1X1
  go_wp2_with fail
  refine (ask_any _ h X1 _ HRW1X1.out hn).mono ?_
  rintro e w2 ⟨vs2, rfl, r2, P2⟩
  obtain ⟨a2', c2', rfl, _, _, _, s2, _, _⟩ := Holder.opens r2
  have HRX := Lib.hid r2
  have kh1X1_ := kh1X1.below P2 kh1X1.lt
  have koX1_ := koX1.below P2 koX1.lt
  have HROX1_ := Lib.hid (RdL.same (Same.below P2) HROX1.out)
  have HRW1X1_ := Lib.hid (RdL.same (Same.below P2) HRW1X1.out)
  have BW1X1_ := Lib.hid (BW1X1.out.trans (P2.mono BW1X1.out.size))
  have z2 := P2.size
  clear P2 r2 s2 q0 q1 q2 q3 q4 q5
  go_upto_region 5 with fail
  obtain ⟨X2, hX2⟩ : ∃ W : World, w2.alloc (.cells #[.int .i64 (askH h).node, .int .i64 (askH h).now, .int .i64 (askH h).ask, .slice a2' (askH h).sent.length c2', .int .i64 (askH h).seq, .int .i64 (askH h).at_] 24) = W := ⟨_, rfl⟩; rw [hX2]; have kxX2 := Blk.new w2 24 #[.int .i64 (askH h).node, .int .i64 (askH h).now, .int .i64 (askH h).ask, .slice a2' (askH h).sent.length c2', .int .i64 (askH h).seq, .int .i64 (askH h).at_]; rw [hX2] at kxX2; have kh1X1_X2 := kh1X1_.alloc (.cells #[.int .i64 (askH h).node, .int .i64 (askH h).now, .int .i64 (askH h).ask, .slice a2' (askH h).sent.length c2', .int .i64 (askH h).seq, .int .i64 (askH h).at_] 24); rw [hX2] at kh1X1_X2; have koX1_X2 := koX1_.alloc (.cells #[.int .i64 (askH h).node, .int .i64 (askH h).now, .int .i64 (askH h).ask, .slice a2' (askH h).sent.length c2', .int .i64 (askH h).seq, .int .i64 (askH h).at_] 24); rw [hX2] at koX1_X2; have BW1X1_X2 := Lib.hid (BW1X1_.out.alloc BW1X1_.out.size (.cells #[.int .i64 (askH h).node, .int .i64 (askH h).now, .int .i64 (askH h).ask, .slice a2' (askH h).sent.length c2', .int .i64 (askH h).seq, .int .i64 (askH h).at_] 24)); rw [hX2] at BW1X1_X2; have HRXX2 := Lib.hid (RdL.same (Same.alloc _ w2 (.cells #[.int .i64 (askH h).node, .int .i64 (askH h).now, .int .i64 (askH h).ask, .slice a2' (askH h).sent.length c2', .int .i64 (askH h).seq, .int .i64 (askH h).at_] 24)) HRX.out); rw [hX2] at HRXX2; have HROX1_X2 := Lib.hid (RdL.same (Same.alloc _ w2 (.cells #[.int .i64 (askH h).node, .int .i64 (askH h).now, .int .i64 (askH h).ask, .slice a2' (askH h).sent.length c2', .int .i64 (askH h).seq, .int .i64 (askH h).at_] 24)) HROX1_.out); rw [hX2] at HROX1_X2; have HRW1X1_X2 := Lib.hid (RdL.same (Same.alloc _ w2 (.cells #[.int .i64 (askH h).node, .int .i64 (askH h).now, .int .i64 (askH h).ask, .slice a2' (askH h).sent.length c2', .int .i64 (askH h).seq, .int .i64 (askH h).at_] 24)) HRW1X1_.out); rw [hX2] at HRW1X1_X2; have zX2 : w2.heap.size + 1 ≤ X2.heap.size := (by rw [← hX2] <;> simp); clear hX2
  obtain ⟨q0, q1, q2, q3, q4, q5⟩ := box6 koX1_X2
  go_wp2_with fail
  refine (rask_any _ h X2 _ HROX1_X2.out hn).mono ?_
  rintro e w3 ⟨vs3, rfl, r3, P3⟩
  obtain ⟨a3', c3', rfl, _, _, _, s3, _, _⟩ := Holder.opens r3
  have HRQ := Lib.hid r3
  have kh1X1_X2_ := kh1X1_X2.below P3 kh1X1_X2.lt
  have koX1_X2_ := koX1_X2.below P3 koX1_X2.lt
  have kxX2_ := kxX2.below P3 kxX2.lt
  have HROX1_X2_ := Lib.hid (RdL.same (Same.below P3) HROX1_X2.out)
  have HRW1X1_X2_ := Lib.hid (RdL.same (Same.below P3) HRW1X1_X2.out)
  have HRXX2_ := Lib.hid (RdL.same (Same.below P3) HRXX2.out)
  have BW1X1_X2_ := Lib.hid (BW1X1_X2.out.trans (P3.mono BW1X1_X2.out.size))
  have z3 := P3.size
  clear P3 r3 s3 q0 q1 q2 q3 q4 q5
  go_upto_region 6 with fail
  obtain ⟨X3, hX3⟩ : ∃ W : World, w3.alloc (.cells #[.int .i64 (askH h).node, .int .i64 (askH h).now, .int .i64 (askH h).ask, .slice a3' (askH h).sent.length c3', .int .i64 (askH h).seq, .int .i64 (askH h).at_] 24) = W := ⟨_, rfl⟩; rw [hX3]; have kwX3 := Blk.new w3 24 #[.int .i64 (askH h).node, .int .i64 (askH h).now, .int .i64 (askH h).ask, .slice a3' (askH h).sent.length c3', .int .i64 (askH h).seq, .int .i64 (askH h).at_]; rw [hX3] at kwX3; have kh1X1_X2_X3 := kh1X1_X2_.alloc (.cells #[.int .i64 (askH h).node, .int .i64 (askH h).now, .int .i64 (askH h).ask, .slice a3' (askH h).sent.length c3', .int .i64 (askH h).seq, .int .i64 (askH h).at_] 24); rw [hX3] at kh1X1_X2_X3; have koX1_X2_X3 := koX1_X2_.alloc (.cells #[.int .i64 (askH h).node, .int .i64 (askH h).now, .int .i64 (askH h).ask, .slice a3' (askH h).sent.length c3', .int .i64 (askH h).seq, .int .i64 (askH h).at_] 24); rw [hX3] at koX1_X2_X3; have kxX2_X3 := kxX2_.alloc (.cells #[.int .i64 (askH h).node, .int .i64 (askH h).now, .int .i64 (askH h).ask, .slice a3' (askH h).sent.length c3', .int .i64 (askH h).seq, .int .i64 (askH h).at_] 24); rw [hX3] at kxX2_X3; have BW1X1_X2_X3 := Lib.hid (BW1X1_X2_.out.alloc BW1X1_X2_.out.size (.cells #[.int .i64 (askH h).node, .int .i64 (askH h).now, .int .i64 (askH h).ask, .slice a3' (askH h).sent.length c3', .int .i64 (askH h).seq, .int .i64 (askH h).at_] 24)); rw [hX3] at BW1X1_X2_X3; have HRQX3 := Lib.hid (RdL.same (Same.alloc _ w3 (.cells #[.int .i64 (askH h).node, .int .i64 (askH h).now, .int .i64 (askH h).ask, .slice a3' (askH h).sent.length c3', .int .i64 (askH h).seq, .int .i64 (askH h).at_] 24)) HRQ.out); rw [hX3] at HRQX3; have HROX1_X2_X3 := Lib.hid (RdL.same (Same.alloc _ w3 (.cells #[.int .i64 (askH h).node, .int .i64 (askH h).now, .int .i64 (askH h).ask, .slice a3' (askH h).sent.length c3', .int .i64 (askH h).seq, .int .i64 (askH h).at_] 24)) HROX1_X2_.out); rw [hX3] at HROX1_X2_X3; have HRW1X1_X2_X3 := Lib.hid (RdL.same (Same.alloc _ w3 (.cells #[.int .i64 (askH h).node, .int .i64 (askH h).now, .int .i64 (askH h).ask, .slice a3' (askH h).sent.length c3', .int .i64 (askH h).seq, .int .i64 (askH h).at_] 24)) HRW1X1_X2_.out); rw [hX3] at HRW1X1_X2_X3; have HRXX2_X3 := Lib.hid (RdL.same (Same.alloc _ w3 (.cells #[.int .i64 (askH h).node, .int .i64 (askH h).now, .int .i64 (askH h).ask, .slice a3' (askH h).sent.length c3', .int .i64 (askH h).seq, .int .i64 (askH h).at_] 24)) HRXX2_.out); rw [hX3] at HRXX2_X3; have zX3 : w3.heap.size + 1 ≤ X3.heap.size := (by rw [← hX3] <;> simp); clear hX3
  go_wp2_with fail
  refine (good'_any X3).mono ?_
  rintro e wg ⟨rfl, Pg⟩
  have kh1X1_X2_X3g := kh1X1_X2_X3.below Pg kh1X1_X2_X3.lt
  have koX1_X2_X3g := koX1_X2_X3.below Pg koX1_X2_X3.lt
  have kxX2_X3g := kxX2_X3.below Pg kxX2_X3.lt
  have kwX3g := kwX3.below Pg kwX3.lt
  have HROX1_X2_X3g := Lib.hid (RdL.same (Same.below Pg) HROX1_X2_X3.out)
  have HRW1X1_X2_X3g := Lib.hid (RdL.same (Same.below Pg) HRW1X1_X2_X3.out)
  have HRXX2_X3g := Lib.hid (RdL.same (Same.below Pg) HRXX2_X3.out)
  have HRQX3g := Lib.hid (RdL.same (Same.below Pg) HRQX3.out)
  have BWg := Lib.hid (BW1X1_X2_X3.out.trans (Pg.mono BW1X1_X2_X3.out.size))
  have zg := Pg.size
  clear Pg
  obtain ⟨q0, q1, q2, q3, q4, q5⟩ := box6 kxX2_X3g
  obtain ⟨r0, r1, r2, r3, r4, r5⟩ := box6 kwX3g
  obtain ⟨o0, o1, o2, o3, o4, o5⟩ := box6 kh1X1_X2_X3g
  obtain ⟨p0, p1, p2, p3, p4, p5⟩ := box6 koX1_X2_X3g
  have hX1 : X1.heap.size ≤ wg.heap.size := by omega
  have RX := Lib.hid (RdL.mono (T := fun b => X1.heap.size ≤ b) (fun b _ hb => hb) HRXX2_X3g.out)
  have RH := Lib.hid (RdL.mono (T := fun b => b < X1.heap.size) (fun b _ hb => by have : b < w.heap.size := hb; omega) HRW1X1_X2_X3g.out)
  have RO := Lib.hid (RdL.mono (T := fun b => b < X1.heap.size) (fun b _ hb => by have : b < w1.heap.size := hb; omega) HROX1_X2_X3g.out)
  go_wp2_with fail
  refine (lsame_any _ _ _ _ (askH h) h (askE h) wg X1.heap.size hX1 _ RX.out HRQX3g.out RH.out RO.out).mono ?_
  rintro e wf ⟨rfl, Pf⟩
  have BF := Lib.hid (BWg.out.trans (Pf.mono (by omega)))
  clear Pf q0 q1 q2 q3 q4 q5 r0 r1 r2 r3 r4 r5 o0 o1 o2 o3 o4 o5 p0 p1 p2 p3 p4 p5
  go_wp2_with fail
  go_ret
  exact ⟨rfl, BF.out⟩
end Go.Proofs.Ytjfphnegcelbpaa
