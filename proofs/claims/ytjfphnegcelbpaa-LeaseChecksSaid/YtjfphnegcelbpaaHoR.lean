/- The walk of the law LeaseChecks: true for every struct and numbers. No condition. -/
import Derived.Test.YtjfphnegcelbpaaHoP
namespace Go.Proofs.Ytjfphnegcelbpaa
open Go.RowKit
set_option linter.unusedVariables false
set_option linter.unusedSimpArgs false
structure Bel (X W : World) : Prop where
  out : Below X.heap.size X W
theorem Bel.next {X W V : World} (h : Bel X W) (k : Below W.heap.size W V) : Bel X V := ⟨tr_below k h.out⟩
theorem Bel.drew {X W : World} (h : Bel X W) : Bel X W.drew := ⟨h.out.drew⟩
theorem keep24D {a : World} {ga gb gc gd : Nat} {v0 v1 v2 v3 v4 v5 x0 x1 x2 x3 x4 x5 y0 y1 y2 y3 y4 y5 z0 z1 z2 z3 z4 z5 : Value} (h : a.cell? ⟨ga, 0, none⟩ = some v0 ∧ a.cell? ⟨ga, 1, none⟩ = some v1 ∧ a.cell? ⟨ga, 2, none⟩ = some v2 ∧ a.cell? ⟨ga, 3, none⟩ = some v3 ∧ a.cell? ⟨ga, 4, none⟩ = some v4 ∧ a.cell? ⟨ga, 5, none⟩ = some v5 ∧ a.cell? ⟨gb, 0, none⟩ = some x0 ∧ a.cell? ⟨gb, 1, none⟩ = some x1 ∧ a.cell? ⟨gb, 2, none⟩ = some x2 ∧ a.cell? ⟨gb, 3, none⟩ = some x3 ∧ a.cell? ⟨gb, 4, none⟩ = some x4 ∧ a.cell? ⟨gb, 5, none⟩ = some x5 ∧ a.cell? ⟨gc, 0, none⟩ = some y0 ∧ a.cell? ⟨gc, 1, none⟩ = some y1 ∧ a.cell? ⟨gc, 2, none⟩ = some y2 ∧ a.cell? ⟨gc, 3, none⟩ = some y3 ∧ a.cell? ⟨gc, 4, none⟩ = some y4 ∧ a.cell? ⟨gc, 5, none⟩ = some y5 ∧ a.cell? ⟨gd, 0, none⟩ = some z0 ∧ a.cell? ⟨gd, 1, none⟩ = some z1 ∧ a.cell? ⟨gd, 2, none⟩ = some z2 ∧ a.cell? ⟨gd, 3, none⟩ = some z3 ∧ a.cell? ⟨gd, 4, none⟩ = some z4 ∧ a.cell? ⟨gd, 5, none⟩ = some z5) : a.drew.cell? ⟨ga, 0, none⟩ = some v0 ∧ a.drew.cell? ⟨ga, 1, none⟩ = some v1 ∧ a.drew.cell? ⟨ga, 2, none⟩ = some v2 ∧ a.drew.cell? ⟨ga, 3, none⟩ = some v3 ∧ a.drew.cell? ⟨ga, 4, none⟩ = some v4 ∧ a.drew.cell? ⟨ga, 5, none⟩ = some v5 ∧ a.drew.cell? ⟨gb, 0, none⟩ = some x0 ∧ a.drew.cell? ⟨gb, 1, none⟩ = some x1 ∧ a.drew.cell? ⟨gb, 2, none⟩ = some x2 ∧ a.drew.cell? ⟨gb, 3, none⟩ = some x3 ∧ a.drew.cell? ⟨gb, 4, none⟩ = some x4 ∧ a.drew.cell? ⟨gb, 5, none⟩ = some x5 ∧ a.drew.cell? ⟨gc, 0, none⟩ = some y0 ∧ a.drew.cell? ⟨gc, 1, none⟩ = some y1 ∧ a.drew.cell? ⟨gc, 2, none⟩ = some y2 ∧ a.drew.cell? ⟨gc, 3, none⟩ = some y3 ∧ a.drew.cell? ⟨gc, 4, none⟩ = some y4 ∧ a.drew.cell? ⟨gc, 5, none⟩ = some y5 ∧ a.drew.cell? ⟨gd, 0, none⟩ = some z0 ∧ a.drew.cell? ⟨gd, 1, none⟩ = some z1 ∧ a.drew.cell? ⟨gd, 2, none⟩ = some z2 ∧ a.drew.cell? ⟨gd, 3, none⟩ = some z3 ∧ a.drew.cell? ⟨gd, 4, none⟩ = some z4 ∧ a.drew.cell? ⟨gd, 5, none⟩ = some z5 := h
theorem keep24 {a b : World} {ga gb gc gd : Nat} {v0 v1 v2 v3 v4 v5 x0 x1 x2 x3 x4 x5 y0 y1 y2 y3 y4 y5 z0 z1 z2 z3 z4 z5 : Value} (k : Below a.heap.size a b) (h : a.cell? ⟨ga, 0, none⟩ = some v0 ∧ a.cell? ⟨ga, 1, none⟩ = some v1 ∧ a.cell? ⟨ga, 2, none⟩ = some v2 ∧ a.cell? ⟨ga, 3, none⟩ = some v3 ∧ a.cell? ⟨ga, 4, none⟩ = some v4 ∧ a.cell? ⟨ga, 5, none⟩ = some v5 ∧ a.cell? ⟨gb, 0, none⟩ = some x0 ∧ a.cell? ⟨gb, 1, none⟩ = some x1 ∧ a.cell? ⟨gb, 2, none⟩ = some x2 ∧ a.cell? ⟨gb, 3, none⟩ = some x3 ∧ a.cell? ⟨gb, 4, none⟩ = some x4 ∧ a.cell? ⟨gb, 5, none⟩ = some x5 ∧ a.cell? ⟨gc, 0, none⟩ = some y0 ∧ a.cell? ⟨gc, 1, none⟩ = some y1 ∧ a.cell? ⟨gc, 2, none⟩ = some y2 ∧ a.cell? ⟨gc, 3, none⟩ = some y3 ∧ a.cell? ⟨gc, 4, none⟩ = some y4 ∧ a.cell? ⟨gc, 5, none⟩ = some y5 ∧ a.cell? ⟨gd, 0, none⟩ = some z0 ∧ a.cell? ⟨gd, 1, none⟩ = some z1 ∧ a.cell? ⟨gd, 2, none⟩ = some z2 ∧ a.cell? ⟨gd, 3, none⟩ = some z3 ∧ a.cell? ⟨gd, 4, none⟩ = some z4 ∧ a.cell? ⟨gd, 5, none⟩ = some z5) : b.cell? ⟨ga, 0, none⟩ = some v0 ∧ b.cell? ⟨ga, 1, none⟩ = some v1 ∧ b.cell? ⟨ga, 2, none⟩ = some v2 ∧ b.cell? ⟨ga, 3, none⟩ = some v3 ∧ b.cell? ⟨ga, 4, none⟩ = some v4 ∧ b.cell? ⟨ga, 5, none⟩ = some v5 ∧ b.cell? ⟨gb, 0, none⟩ = some x0 ∧ b.cell? ⟨gb, 1, none⟩ = some x1 ∧ b.cell? ⟨gb, 2, none⟩ = some x2 ∧ b.cell? ⟨gb, 3, none⟩ = some x3 ∧ b.cell? ⟨gb, 4, none⟩ = some x4 ∧ b.cell? ⟨gb, 5, none⟩ = some x5 ∧ b.cell? ⟨gc, 0, none⟩ = some y0 ∧ b.cell? ⟨gc, 1, none⟩ = some y1 ∧ b.cell? ⟨gc, 2, none⟩ = some y2 ∧ b.cell? ⟨gc, 3, none⟩ = some y3 ∧ b.cell? ⟨gc, 4, none⟩ = some y4 ∧ b.cell? ⟨gc, 5, none⟩ = some y5 ∧ b.cell? ⟨gd, 0, none⟩ = some z0 ∧ b.cell? ⟨gd, 1, none⟩ = some z1 ∧ b.cell? ⟨gd, 2, none⟩ = some z2 ∧ b.cell? ⟨gd, 3, none⟩ = some z3 ∧ b.cell? ⟨gd, 4, none⟩ = some z4 ∧ b.cell? ⟨gd, 5, none⟩ = some z5 := by
  obtain ⟨h0, h1, h2, h3, h4, h5, h6, h7, h8, h9, h10, h11, h12, h13, h14, h15, h16, h17, h18, h19, h20, h21, h22, h23⟩ := h
  exact ⟨(k.cell (World.block_lt_of_cell? _ _ h0)).trans h0, (k.cell (World.block_lt_of_cell? _ _ h1)).trans h1, (k.cell (World.block_lt_of_cell? _ _ h2)).trans h2, (k.cell (World.block_lt_of_cell? _ _ h3)).trans h3, (k.cell (World.block_lt_of_cell? _ _ h4)).trans h4, (k.cell (World.block_lt_of_cell? _ _ h5)).trans h5, (k.cell (World.block_lt_of_cell? _ _ h6)).trans h6, (k.cell (World.block_lt_of_cell? _ _ h7)).trans h7, (k.cell (World.block_lt_of_cell? _ _ h8)).trans h8, (k.cell (World.block_lt_of_cell? _ _ h9)).trans h9, (k.cell (World.block_lt_of_cell? _ _ h10)).trans h10, (k.cell (World.block_lt_of_cell? _ _ h11)).trans h11, (k.cell (World.block_lt_of_cell? _ _ h12)).trans h12, (k.cell (World.block_lt_of_cell? _ _ h13)).trans h13, (k.cell (World.block_lt_of_cell? _ _ h14)).trans h14, (k.cell (World.block_lt_of_cell? _ _ h15)).trans h15, (k.cell (World.block_lt_of_cell? _ _ h16)).trans h16, (k.cell (World.block_lt_of_cell? _ _ h17)).trans h17, (k.cell (World.block_lt_of_cell? _ _ h18)).trans h18, (k.cell (World.block_lt_of_cell? _ _ h19)).trans h19, (k.cell (World.block_lt_of_cell? _ _ h20)).trans h20, (k.cell (World.block_lt_of_cell? _ _ h21)).trans h21, (k.cell (World.block_lt_of_cell? _ _ h22)).trans h22, (k.cell (World.block_lt_of_cell? _ _ h23)).trans h23⟩
theorem Apart.cell {B : Nat → Prop} {a b : World} (k : Apart B a b) {p : Addr} {v : Value} (hp : ¬ B p.block) (h : a.cell? p = some v) : b.cell? p = some v := (World.cell?_of_block (k.block _ (World.block_lt_of_cell? _ _ h) hp)).trans h
theorem keep24A {B : Nat → Prop} {a b : World} {ga gb gc gd : Nat} {v0 v1 v2 v3 v4 v5 x0 x1 x2 x3 x4 x5 y0 y1 y2 y3 y4 y5 z0 z1 z2 z3 z4 z5 : Value} (k : Apart B a b) (na : ¬ B ga) (nb : ¬ B gb) (nc : ¬ B gc) (nd : ¬ B gd) (h : a.cell? ⟨ga, 0, none⟩ = some v0 ∧ a.cell? ⟨ga, 1, none⟩ = some v1 ∧ a.cell? ⟨ga, 2, none⟩ = some v2 ∧ a.cell? ⟨ga, 3, none⟩ = some v3 ∧ a.cell? ⟨ga, 4, none⟩ = some v4 ∧ a.cell? ⟨ga, 5, none⟩ = some v5 ∧ a.cell? ⟨gb, 0, none⟩ = some x0 ∧ a.cell? ⟨gb, 1, none⟩ = some x1 ∧ a.cell? ⟨gb, 2, none⟩ = some x2 ∧ a.cell? ⟨gb, 3, none⟩ = some x3 ∧ a.cell? ⟨gb, 4, none⟩ = some x4 ∧ a.cell? ⟨gb, 5, none⟩ = some x5 ∧ a.cell? ⟨gc, 0, none⟩ = some y0 ∧ a.cell? ⟨gc, 1, none⟩ = some y1 ∧ a.cell? ⟨gc, 2, none⟩ = some y2 ∧ a.cell? ⟨gc, 3, none⟩ = some y3 ∧ a.cell? ⟨gc, 4, none⟩ = some y4 ∧ a.cell? ⟨gc, 5, none⟩ = some y5 ∧ a.cell? ⟨gd, 0, none⟩ = some z0 ∧ a.cell? ⟨gd, 1, none⟩ = some z1 ∧ a.cell? ⟨gd, 2, none⟩ = some z2 ∧ a.cell? ⟨gd, 3, none⟩ = some z3 ∧ a.cell? ⟨gd, 4, none⟩ = some z4 ∧ a.cell? ⟨gd, 5, none⟩ = some z5) : b.cell? ⟨ga, 0, none⟩ = some v0 ∧ b.cell? ⟨ga, 1, none⟩ = some v1 ∧ b.cell? ⟨ga, 2, none⟩ = some v2 ∧ b.cell? ⟨ga, 3, none⟩ = some v3 ∧ b.cell? ⟨ga, 4, none⟩ = some v4 ∧ b.cell? ⟨ga, 5, none⟩ = some v5 ∧ b.cell? ⟨gb, 0, none⟩ = some x0 ∧ b.cell? ⟨gb, 1, none⟩ = some x1 ∧ b.cell? ⟨gb, 2, none⟩ = some x2 ∧ b.cell? ⟨gb, 3, none⟩ = some x3 ∧ b.cell? ⟨gb, 4, none⟩ = some x4 ∧ b.cell? ⟨gb, 5, none⟩ = some x5 ∧ b.cell? ⟨gc, 0, none⟩ = some y0 ∧ b.cell? ⟨gc, 1, none⟩ = some y1 ∧ b.cell? ⟨gc, 2, none⟩ = some y2 ∧ b.cell? ⟨gc, 3, none⟩ = some y3 ∧ b.cell? ⟨gc, 4, none⟩ = some y4 ∧ b.cell? ⟨gc, 5, none⟩ = some y5 ∧ b.cell? ⟨gd, 0, none⟩ = some z0 ∧ b.cell? ⟨gd, 1, none⟩ = some z1 ∧ b.cell? ⟨gd, 2, none⟩ = some z2 ∧ b.cell? ⟨gd, 3, none⟩ = some z3 ∧ b.cell? ⟨gd, 4, none⟩ = some z4 ∧ b.cell? ⟨gd, 5, none⟩ = some z5 := by
  obtain ⟨h0, h1, h2, h3, h4, h5, h6, h7, h8, h9, h10, h11, h12, h13, h14, h15, h16, h17, h18, h19, h20, h21, h22, h23⟩ := h
  exact ⟨k.cell na h0, k.cell na h1, k.cell na h2, k.cell na h3, k.cell na h4, k.cell na h5, k.cell nb h6, k.cell nb h7, k.cell nb h8, k.cell nb h9, k.cell nb h10, k.cell nb h11, k.cell nc h12, k.cell nc h13, k.cell nc h14, k.cell nc h15, k.cell nc h16, k.cell nc h17, k.cell nd h18, k.cell nd h19, k.cell nd h20, k.cell nd h21, k.cell nd h22, k.cell nd h23⟩
set_option maxHeartbeats 8000000 in
theorem law_leaseChecks (vs : List Value) (h : Holder) (w : World) (hr : RdL w (All w) Holder.ty vs h.enc) :
    Calls Try.prog 3 #[.agg vs.toArray] w fun e w' => e = .returned (.bool true) ∧ Below w.heap.size w w' := by
  have HRW := Lib.hid hr
  obtain ⟨a3, c3, rfl, b0, b1, b2, s3, b4, b5⟩ := Holder.opens hr
  have n3 := s3.bd.2.2.1
  have BW := Lib.hid (Below.refl w.heap.size w)
  clear hr s3
  by_cases hl : 1000 < h.sent.length
  · go_enter Try.func3, Try.ntmps3
    go_wp2_with fail
    go_ret
    exact ⟨rfl, (Below.refl _ _).alloc (Nat.le_refl _) _⟩
  have hn : h.sent.length ≤ 1000000 := by omega
  go_enter Try.func3, Try.ntmps3
  go_upto_region 1 with fail
  obtain ⟨X0, hX0⟩ : ∃ W : World, w.alloc (.cells #[.int .i64 h.node, .int .i64 h.now, .int .i64 h.ask, .slice a3 h.sent.length c3, .int .i64 h.seq, .int .i64 h.at_] 24) = W := ⟨_, rfl⟩; rw [hX0]; have khX0 := Blk.new w 24 #[.int .i64 h.node, .int .i64 h.now, .int .i64 h.ask, .slice a3 h.sent.length c3, .int .i64 h.seq, .int .i64 h.at_]; rw [hX0] at khX0; have BWX0 := Lib.hid (BW.out.alloc BW.out.size (.cells #[.int .i64 h.node, .int .i64 h.now, .int .i64 h.ask, .slice a3 h.sent.length c3, .int .i64 h.seq, .int .i64 h.at_] 24)); rw [hX0] at BWX0; have HRWX0 := Lib.hid (RdL.same (Same.alloc _ w (.cells #[.int .i64 h.node, .int .i64 h.now, .int .i64 h.ask, .slice a3 h.sent.length c3, .int .i64 h.seq, .int .i64 h.at_] 24)) HRW.out); rw [hX0] at HRWX0; have zX0 : w.heap.size + 1 ≤ X0.heap.size := (by rw [← hX0] <;> simp); clear hX0
  obtain ⟨q0, q1, q2, q3, q4, q5⟩ := box6 khX0
  go_wp2_with fail
  refine (rhown_any _ h X0 _ HRWX0.out hn).mono ?_
  rintro e w1 ⟨v, rfl, ho, P1⟩
  obtain ⟨ao, co, rfl⟩ := ho.form
  have ro := hold_rd ho hn (Nat.le_refl _) b0 b1 b2 b4 b5
  rw [List.length_map] at ro ⊢
  have HRO := Lib.hid (RdL.mono (T := fun b => b < w1.heap.size) (fun b hb _ => hb) ro)
  have kh1 := khX0.below P1 khX0.lt
  have HRW1 := Lib.hid (RdL.same (Same.below P1) HRWX0.out)
  have BW1 := Lib.hid (BWX0.out.trans (P1.mono BWX0.out.size))
  have z1 := P1.size
  have zw := BW1.out.size
  clear ho ro P1 q0 q1 q2 q3 q4 q5
  obtain ⟨q0, q1, q2, q3, q4, q5⟩ := box6 kh1
  go_upto_region 4 with fail
  clear q0 q1 q2 q3 q4 q5
  obtain ⟨X1, hX1⟩ : ∃ W : World, w1.alloc (.cells #[.int .i64 h.node, .int .i64 h.now, .int .i64 h.ask, .slice ao h.sent.length co, .int .i64 h.seq, .int .i64 h.at_] 24) = W := ⟨_, rfl⟩; rw [hX1]; have koX1 := Blk.new w1 24 #[.int .i64 h.node, .int .i64 h.now, .int .i64 h.ask, .slice ao h.sent.length co, .int .i64 h.seq, .int .i64 h.at_]; rw [hX1] at koX1; have kh1X1 := kh1.alloc (.cells #[.int .i64 h.node, .int .i64 h.now, .int .i64 h.ask, .slice ao h.sent.length co, .int .i64 h.seq, .int .i64 h.at_] 24); rw [hX1] at kh1X1; have BW1X1 := Lib.hid (BW1.out.alloc BW1.out.size (.cells #[.int .i64 h.node, .int .i64 h.now, .int .i64 h.ask, .slice ao h.sent.length co, .int .i64 h.seq, .int .i64 h.at_] 24)); rw [hX1] at BW1X1; have HROX1 := Lib.hid (RdL.same (Same.alloc _ w1 (.cells #[.int .i64 h.node, .int .i64 h.now, .int .i64 h.ask, .slice ao h.sent.length co, .int .i64 h.seq, .int .i64 h.at_] 24)) HRO.out); rw [hX1] at HROX1; have HRW1X1 := Lib.hid (RdL.same (Same.alloc _ w1 (.cells #[.int .i64 h.node, .int .i64 h.now, .int .i64 h.ask, .slice ao h.sent.length co, .int .i64 h.seq, .int .i64 h.at_] 24)) HRW1.out); rw [hX1] at HRW1X1; have zX1 : w1.heap.size + 1 ≤ X1.heap.size := (by rw [← hX1] <;> simp); clear hX1
  obtain ⟨q0, q1, q2, q3, q4, q5⟩ := box6 kh1X1
  go_wp2_with fail
  refine (hcheck_any _ h X1 _ HRW1X1.out).mono ?_
  rintro e wc ⟨rfl, Pc⟩
  have kh1X1c := kh1X1.below Pc kh1X1.lt
  have koX1c := koX1.below Pc koX1.lt
  have HROX1c := Lib.hid (RdL.same (Same.below Pc) HROX1.out)
  have HRW1X1c := Lib.hid (RdL.same (Same.below Pc) HRW1X1.out)
  have BWc := Lib.hid (BW1X1.out.trans (Pc.mono BW1X1.out.size))
  have zc := Pc.size
  clear Pc q0 q1 q2 q3 q4 q5
  obtain ⟨q0, q1, q2, q3, q4, q5⟩ := box6 kh1X1c
  go_wp2_with fail
  refine (tick_any _ h wc _ HRW1X1c.out hn).mono ?_
  rintro e w2 ⟨vs2, rfl, r2, P2⟩
  obtain ⟨a2', c2', rfl, _, _, _, s2, _, _⟩ := Holder.opens r2
  have HRX := Lib.hid (RdL.mono (T := fun b => wc.heap.size ≤ b ∧ b < w2.heap.size) (fun b hb hs => ⟨hs, hb⟩) r2)
  have kh1X1c_ := kh1X1c.below P2 kh1X1c.lt
  have koX1c_ := koX1c.below P2 koX1c.lt
  have HROX1c_ := Lib.hid (RdL.same (Same.below P2) HROX1c.out)
  have HRW1X1c_ := Lib.hid (RdL.same (Same.below P2) HRW1X1c.out)
  have BWc_ := Lib.hid (BWc.out.trans (P2.mono BWc.out.size))
  have z2 := P2.size
  clear P2 r2 s2 q0 q1 q2 q3 q4 q5
  go_upto_region 6 with fail
  obtain ⟨X2, hX2⟩ : ∃ W : World, w2.alloc (.cells #[.int .i64 (tickH h).node, .int .i64 (tickH h).now, .int .i64 (tickH h).ask, .slice a2' (tickH h).sent.length c2', .int .i64 (tickH h).seq, .int .i64 (tickH h).at_] 24) = W := ⟨_, rfl⟩; rw [hX2]; have kxX2 := Blk.new w2 24 #[.int .i64 (tickH h).node, .int .i64 (tickH h).now, .int .i64 (tickH h).ask, .slice a2' (tickH h).sent.length c2', .int .i64 (tickH h).seq, .int .i64 (tickH h).at_]; rw [hX2] at kxX2; have kh1X1c_X2 := kh1X1c_.alloc (.cells #[.int .i64 (tickH h).node, .int .i64 (tickH h).now, .int .i64 (tickH h).ask, .slice a2' (tickH h).sent.length c2', .int .i64 (tickH h).seq, .int .i64 (tickH h).at_] 24); rw [hX2] at kh1X1c_X2; have koX1c_X2 := koX1c_.alloc (.cells #[.int .i64 (tickH h).node, .int .i64 (tickH h).now, .int .i64 (tickH h).ask, .slice a2' (tickH h).sent.length c2', .int .i64 (tickH h).seq, .int .i64 (tickH h).at_] 24); rw [hX2] at koX1c_X2; have BWc_X2 := Lib.hid (BWc_.out.alloc BWc_.out.size (.cells #[.int .i64 (tickH h).node, .int .i64 (tickH h).now, .int .i64 (tickH h).ask, .slice a2' (tickH h).sent.length c2', .int .i64 (tickH h).seq, .int .i64 (tickH h).at_] 24)); rw [hX2] at BWc_X2; have HRXX2 := Lib.hid (RdL.same (Same.alloc _ w2 (.cells #[.int .i64 (tickH h).node, .int .i64 (tickH h).now, .int .i64 (tickH h).ask, .slice a2' (tickH h).sent.length c2', .int .i64 (tickH h).seq, .int .i64 (tickH h).at_] 24)) HRX.out); rw [hX2] at HRXX2; have HROX1c_X2 := Lib.hid (RdL.same (Same.alloc _ w2 (.cells #[.int .i64 (tickH h).node, .int .i64 (tickH h).now, .int .i64 (tickH h).ask, .slice a2' (tickH h).sent.length c2', .int .i64 (tickH h).seq, .int .i64 (tickH h).at_] 24)) HROX1c_.out); rw [hX2] at HROX1c_X2; have HRW1X1c_X2 := Lib.hid (RdL.same (Same.alloc _ w2 (.cells #[.int .i64 (tickH h).node, .int .i64 (tickH h).now, .int .i64 (tickH h).ask, .slice a2' (tickH h).sent.length c2', .int .i64 (tickH h).seq, .int .i64 (tickH h).at_] 24)) HRW1X1c_.out); rw [hX2] at HRW1X1c_X2; have zX2 : w2.heap.size + 1 ≤ X2.heap.size := (by rw [← hX2] <;> simp); clear hX2
  obtain ⟨q0, q1, q2, q3, q4, q5⟩ := box6 koX1c_X2
  go_wp2_with fail
  refine (rtick_any _ h X2 _ HROX1c_X2.out hn).mono ?_
  rintro e w3 ⟨vs3, rfl, r3, P3⟩
  obtain ⟨a3', c3', rfl, _, _, _, s3, _, _⟩ := Holder.opens r3
  have HRQ := Lib.hid (RdL.mono (T := fun b => X2.heap.size ≤ b ∧ b < w3.heap.size) (fun b hb hs => ⟨hs, hb⟩) r3)
  have kh1X1c_X2_ := kh1X1c_X2.below P3 kh1X1c_X2.lt
  have koX1c_X2_ := koX1c_X2.below P3 koX1c_X2.lt
  have kxX2_ := kxX2.below P3 kxX2.lt
  have HROX1c_X2_ := Lib.hid (RdL.same (Same.below P3) HROX1c_X2.out)
  have HRW1X1c_X2_ := Lib.hid (RdL.same (Same.below P3) HRW1X1c_X2.out)
  have HRXX2_ := Lib.hid (RdL.same (Same.below P3) HRXX2.out)
  have BWc_X2_ := Lib.hid (BWc_X2.out.trans (P3.mono BWc_X2.out.size))
  have z3 := P3.size
  clear P3 r3 s3 q0 q1 q2 q3 q4 q5
  go_upto_region 7 with fail
  obtain ⟨X3, hX3⟩ : ∃ W : World, w3.alloc (.cells #[.int .i64 (tickH h).node, .int .i64 (tickH h).now, .int .i64 (tickH h).ask, .slice a3' (tickH h).sent.length c3', .int .i64 (tickH h).seq, .int .i64 (tickH h).at_] 24) = W := ⟨_, rfl⟩; rw [hX3]; have kwX3 := Blk.new w3 24 #[.int .i64 (tickH h).node, .int .i64 (tickH h).now, .int .i64 (tickH h).ask, .slice a3' (tickH h).sent.length c3', .int .i64 (tickH h).seq, .int .i64 (tickH h).at_]; rw [hX3] at kwX3; have kh1X1c_X2_X3 := kh1X1c_X2_.alloc (.cells #[.int .i64 (tickH h).node, .int .i64 (tickH h).now, .int .i64 (tickH h).ask, .slice a3' (tickH h).sent.length c3', .int .i64 (tickH h).seq, .int .i64 (tickH h).at_] 24); rw [hX3] at kh1X1c_X2_X3; have koX1c_X2_X3 := koX1c_X2_.alloc (.cells #[.int .i64 (tickH h).node, .int .i64 (tickH h).now, .int .i64 (tickH h).ask, .slice a3' (tickH h).sent.length c3', .int .i64 (tickH h).seq, .int .i64 (tickH h).at_] 24); rw [hX3] at koX1c_X2_X3; have kxX2_X3 := kxX2_.alloc (.cells #[.int .i64 (tickH h).node, .int .i64 (tickH h).now, .int .i64 (tickH h).ask, .slice a3' (tickH h).sent.length c3', .int .i64 (tickH h).seq, .int .i64 (tickH h).at_] 24); rw [hX3] at kxX2_X3; have BWc_X2_X3 := Lib.hid (BWc_X2_.out.alloc BWc_X2_.out.size (.cells #[.int .i64 (tickH h).node, .int .i64 (tickH h).now, .int .i64 (tickH h).ask, .slice a3' (tickH h).sent.length c3', .int .i64 (tickH h).seq, .int .i64 (tickH h).at_] 24)); rw [hX3] at BWc_X2_X3; have HRQX3 := Lib.hid (RdL.same (Same.alloc _ w3 (.cells #[.int .i64 (tickH h).node, .int .i64 (tickH h).now, .int .i64 (tickH h).ask, .slice a3' (tickH h).sent.length c3', .int .i64 (tickH h).seq, .int .i64 (tickH h).at_] 24)) HRQ.out); rw [hX3] at HRQX3; have HROX1c_X2_X3 := Lib.hid (RdL.same (Same.alloc _ w3 (.cells #[.int .i64 (tickH h).node, .int .i64 (tickH h).now, .int .i64 (tickH h).ask, .slice a3' (tickH h).sent.length c3', .int .i64 (tickH h).seq, .int .i64 (tickH h).at_] 24)) HROX1c_X2_.out); rw [hX3] at HROX1c_X2_X3; have HRW1X1c_X2_X3 := Lib.hid (RdL.same (Same.alloc _ w3 (.cells #[.int .i64 (tickH h).node, .int .i64 (tickH h).now, .int .i64 (tickH h).ask, .slice a3' (tickH h).sent.length c3', .int .i64 (tickH h).seq, .int .i64 (tickH h).at_] 24)) HRW1X1c_X2_.out); rw [hX3] at HRW1X1c_X2_X3; have HRXX2_X3 := Lib.hid (RdL.same (Same.alloc _ w3 (.cells #[.int .i64 (tickH h).node, .int .i64 (tickH h).now, .int .i64 (tickH h).ask, .slice a3' (tickH h).sent.length c3', .int .i64 (tickH h).seq, .int .i64 (tickH h).at_] 24)) HRXX2_.out); rw [hX3] at HRXX2_X3; have zX3 : w3.heap.size + 1 ≤ X3.heap.size := (by rw [← hX3] <;> simp); clear hX3
  obtain ⟨q0, q1, q2, q3, q4, q5⟩ := box6 kh1X1c_X2_X3
  obtain ⟨r0, r1, r2, r3, r4, r5⟩ := box6 koX1c_X2_X3
  obtain ⟨o0, o1, o2, o3, o4, o5⟩ := box6 kxX2_X3
  obtain ⟨p0, p1, p2, p3, p4, p5⟩ := box6 kwX3
  have hsz : w.heap.size < wc.heap.size ∧ w1.heap.size < wc.heap.size ∧ w2.heap.size < w3.heap.size := ⟨by omega, by omega, by omega⟩
  have HSZ := Lib.hid hsz
  have HC1 := Lib.hid (fun W (hb : Below X3.heap.size X3 W) => right_any _ h W _ (RdL.same (Same.below hb) HROX1c_X2_X3.out))
  have HC2 := Lib.hid (fun W (hb : Below X3.heap.size X3 W) => good_any _ h W _ (RdL.same (Same.below hb) HRW1X1c_X2_X3.out))
  have HC3 := Lib.hid (fun W (hb : Below X3.heap.size X3 W) => rgood_any _ h W _ (RdL.same (Same.below hb) HROX1c_X2_X3.out))
  have HC4 := Lib.hid (fun W (hb : Below X3.heap.size X3 W) => lsameS_any _ _ _ _ (tickH h) h (tickE h) W (fun b => wc.heap.size ≤ b ∧ b < w2.heap.size) _ (fun b hbb => by have := hb.size; have := hbb.2; omega) (RdL.same (Same.below hb) HRXX2_X3.out) (RdL.same (Same.below hb) HRQX3.out)
    (RdL.mono (T := fun b => ¬ (wc.heap.size ≤ b ∧ b < w2.heap.size) ∧ b < W.heap.size) (fun b h1 hbb => by have : b < w.heap.size := hbb; exact ⟨by omega, h1⟩) (RdL.same (Same.below hb) HRW1X1c_X2_X3.out))
    (RdL.mono (T := fun b => ¬ (wc.heap.size ≤ b ∧ b < w2.heap.size) ∧ b < W.heap.size) (fun b h1 hbb => by have : b < w1.heap.size := hbb; exact ⟨by omega, h1⟩) (RdL.same (Same.below hb) HROX1c_X2_X3.out)))
  have BX := BWc_X2_X3
  have HN := Lib.hid (show w.heap.size ≤ wc.heap.size by have := BX.out.size; omega)
  have HFN := Lib.hid (fun (W V : World) (hb : Bel X3 W) (ha : Apart (fun b => wc.heap.size ≤ b ∧ b < w2.heap.size) W V) => show Below w.heap.size w V from (BX.out.trans (hb.out.mono BX.out.size)).trans (ha.below (fun b hb => by have h1 : wc.heap.size ≤ _ := hb.1; omega) (by have := hb.out.size; have := BX.out.size; omega)))
  have QA : Bel X3 X3 := ⟨Below.refl _ _⟩
  have HS0 : X3.cell? ⟨w.heap.size, 0, none⟩ = some (.int .i64 h.node) ∧ X3.cell? ⟨w.heap.size, 1, none⟩ = some (.int .i64 h.now) ∧ X3.cell? ⟨w.heap.size, 2, none⟩ = some (.int .i64 h.ask) ∧ X3.cell? ⟨w.heap.size, 3, none⟩ = some (.slice a3 h.sent.length c3) ∧ X3.cell? ⟨w.heap.size, 4, none⟩ = some (.int .i64 h.seq) ∧ X3.cell? ⟨w.heap.size, 5, none⟩ = some (.int .i64 h.at_) ∧ X3.cell? ⟨w1.heap.size, 0, none⟩ = some (.int .i64 h.node) ∧ X3.cell? ⟨w1.heap.size, 1, none⟩ = some (.int .i64 h.now) ∧ X3.cell? ⟨w1.heap.size, 2, none⟩ = some (.int .i64 h.ask) ∧ X3.cell? ⟨w1.heap.size, 3, none⟩ = some (.slice ao h.sent.length co) ∧ X3.cell? ⟨w1.heap.size, 4, none⟩ = some (.int .i64 h.seq) ∧ X3.cell? ⟨w1.heap.size, 5, none⟩ = some (.int .i64 h.at_) ∧ X3.cell? ⟨w2.heap.size, 0, none⟩ = some (.int .i64 (tickH h).node) ∧ X3.cell? ⟨w2.heap.size, 1, none⟩ = some (.int .i64 (tickH h).now) ∧ X3.cell? ⟨w2.heap.size, 2, none⟩ = some (.int .i64 (tickH h).ask) ∧ X3.cell? ⟨w2.heap.size, 3, none⟩ = some (.slice a2' (tickH h).sent.length c2') ∧ X3.cell? ⟨w2.heap.size, 4, none⟩ = some (.int .i64 (tickH h).seq) ∧ X3.cell? ⟨w2.heap.size, 5, none⟩ = some (.int .i64 (tickH h).at_) ∧ X3.cell? ⟨w3.heap.size, 0, none⟩ = some (.int .i64 (tickH h).node) ∧ X3.cell? ⟨w3.heap.size, 1, none⟩ = some (.int .i64 (tickH h).now) ∧ X3.cell? ⟨w3.heap.size, 2, none⟩ = some (.int .i64 (tickH h).ask) ∧ X3.cell? ⟨w3.heap.size, 3, none⟩ = some (.slice a3' (tickH h).sent.length c3') ∧ X3.cell? ⟨w3.heap.size, 4, none⟩ = some (.int .i64 (tickH h).seq) ∧ X3.cell? ⟨w3.heap.size, 5, none⟩ = some (.int .i64 (tickH h).at_) := ⟨q0, q1, q2, q3, q4, q5, r0, r1, r2, r3, r4, r5, o0, o1, o2, o3, o4, o5, p0, p1, p2, p3, p4, p5⟩
  clear hsz
  cases hri : riB h
  · cases hgd : goodB h
    all_goals
      have RI := Lib.hid hri
      have GD := Lib.hid hgd
      clear hri hgd
      simp only [err_f, RI.out]
      go_region_held3 (fun W => W.cell? ⟨w.heap.size, 0, none⟩ = some (.int .i64 h.node) ∧ W.cell? ⟨w.heap.size, 1, none⟩ = some (.int .i64 h.now) ∧ W.cell? ⟨w.heap.size, 2, none⟩ = some (.int .i64 h.ask) ∧ W.cell? ⟨w.heap.size, 3, none⟩ = some (.slice a3 h.sent.length c3) ∧ W.cell? ⟨w.heap.size, 4, none⟩ = some (.int .i64 h.seq) ∧ W.cell? ⟨w.heap.size, 5, none⟩ = some (.int .i64 h.at_) ∧ W.cell? ⟨w1.heap.size, 0, none⟩ = some (.int .i64 h.node) ∧ W.cell? ⟨w1.heap.size, 1, none⟩ = some (.int .i64 h.now) ∧ W.cell? ⟨w1.heap.size, 2, none⟩ = some (.int .i64 h.ask) ∧ W.cell? ⟨w1.heap.size, 3, none⟩ = some (.slice ao h.sent.length co) ∧ W.cell? ⟨w1.heap.size, 4, none⟩ = some (.int .i64 h.seq) ∧ W.cell? ⟨w1.heap.size, 5, none⟩ = some (.int .i64 h.at_) ∧ W.cell? ⟨w2.heap.size, 0, none⟩ = some (.int .i64 (tickH h).node) ∧ W.cell? ⟨w2.heap.size, 1, none⟩ = some (.int .i64 (tickH h).now) ∧ W.cell? ⟨w2.heap.size, 2, none⟩ = some (.int .i64 (tickH h).ask) ∧ W.cell? ⟨w2.heap.size, 3, none⟩ = some (.slice a2' (tickH h).sent.length c2') ∧ W.cell? ⟨w2.heap.size, 4, none⟩ = some (.int .i64 (tickH h).seq) ∧ W.cell? ⟨w2.heap.size, 5, none⟩ = some (.int .i64 (tickH h).at_) ∧ W.cell? ⟨w3.heap.size, 0, none⟩ = some (.int .i64 (tickH h).node) ∧ W.cell? ⟨w3.heap.size, 1, none⟩ = some (.int .i64 (tickH h).now) ∧ W.cell? ⟨w3.heap.size, 2, none⟩ = some (.int .i64 (tickH h).ask) ∧ W.cell? ⟨w3.heap.size, 3, none⟩ = some (.slice a3' (tickH h).sent.length c3') ∧ W.cell? ⟨w3.heap.size, 4, none⟩ = some (.int .i64 (tickH h).seq) ∧ W.cell? ⟨w3.heap.size, 5, none⟩ = some (.int .i64 (tickH h).at_)) (first | exact keep24 (by assumption) (by assumption) | exact keep24A (by assumption) (fun h => by have h1 : wc.heap.size ≤ _ := h.1; have h2 : _ < w2.heap.size := h.2; have := HSZ.out; omega) (fun h => by have h1 : wc.heap.size ≤ _ := h.1; have h2 : _ < w2.heap.size := h.2; have := HSZ.out; omega) (fun h => by have h1 : wc.heap.size ≤ _ := h.1; have h2 : _ < w2.heap.size := h.2; have := HSZ.out; omega) (fun h => by have h1 : wc.heap.size ≤ _ := h.1; have h2 : _ < w2.heap.size := h.2; have := HSZ.out; omega) (by assumption) | exact keep24D (by assumption) | assumption) (first | (go_at_call 11; refine (good'_any _).mono ?_; rintro e wa ⟨rfl, PA⟩; have QA : Bel X3 wa := Bel.next (by first | assumption | exact Bel.drew (by assumption)) PA) | (go_at_call 12; refine Calls.mono (HC1.out _ ?_) ?_; exact Bel.out (by first | assumption | exact Bel.drew (by assumption)); rw [RI.out]; rintro e wb ⟨rfl, PA⟩; have QA : Bel X3 wb := Bel.next (by first | assumption | exact Bel.drew (by assumption)) PA) | (go_at_call 13; refine Calls.mono (HC2.out _ ?_) ?_; exact Bel.out (by first | assumption | exact Bel.drew (by assumption)); rw [GD.out]; rintro e wb ⟨rfl, PA⟩; have QA : Bel X3 wb := Bel.next (by first | assumption | exact Bel.drew (by assumption)) PA) | (go_at_call 14; refine Calls.mono (HC3.out _ ?_) ?_; exact Bel.out (by first | assumption | exact Bel.drew (by assumption)); rw [GD.out]; rintro e wb ⟨rfl, PA⟩; have QA : Bel X3 wb := Bel.next (by first | assumption | exact Bel.drew (by assumption)) PA) | (go_at_call 15; refine Calls.mono (HC4.out _ ?_) ?_; exact Bel.out (by first | assumption | exact Bel.drew (by assumption)); rintro e wf ⟨rfl, PF⟩; have QF : Below w.heap.size w wf := HFN.out _ _ (by first | assumption | exact Bel.drew (by assumption)) PF))
      go_wp2_with fail
      go_ret
      exact ⟨rfl, by assumption⟩
  · cases hgd : goodB h
    all_goals
      have RI := Lib.hid hri
      have GD := Lib.hid hgd
      clear hri hgd
      simp only [err_t, RI.out]
      refine wp_region_held_drew (S := (fun W => W.cell? ⟨w.heap.size, 0, none⟩ = some (.int .i64 h.node) ∧ W.cell? ⟨w.heap.size, 1, none⟩ = some (.int .i64 h.now) ∧ W.cell? ⟨w.heap.size, 2, none⟩ = some (.int .i64 h.ask) ∧ W.cell? ⟨w.heap.size, 3, none⟩ = some (.slice a3 h.sent.length c3) ∧ W.cell? ⟨w.heap.size, 4, none⟩ = some (.int .i64 h.seq) ∧ W.cell? ⟨w.heap.size, 5, none⟩ = some (.int .i64 h.at_) ∧ W.cell? ⟨w1.heap.size, 0, none⟩ = some (.int .i64 h.node) ∧ W.cell? ⟨w1.heap.size, 1, none⟩ = some (.int .i64 h.now) ∧ W.cell? ⟨w1.heap.size, 2, none⟩ = some (.int .i64 h.ask) ∧ W.cell? ⟨w1.heap.size, 3, none⟩ = some (.slice ao h.sent.length co) ∧ W.cell? ⟨w1.heap.size, 4, none⟩ = some (.int .i64 h.seq) ∧ W.cell? ⟨w1.heap.size, 5, none⟩ = some (.int .i64 h.at_) ∧ W.cell? ⟨w2.heap.size, 0, none⟩ = some (.int .i64 (tickH h).node) ∧ W.cell? ⟨w2.heap.size, 1, none⟩ = some (.int .i64 (tickH h).now) ∧ W.cell? ⟨w2.heap.size, 2, none⟩ = some (.int .i64 (tickH h).ask) ∧ W.cell? ⟨w2.heap.size, 3, none⟩ = some (.slice a2' (tickH h).sent.length c2') ∧ W.cell? ⟨w2.heap.size, 4, none⟩ = some (.int .i64 (tickH h).seq) ∧ W.cell? ⟨w2.heap.size, 5, none⟩ = some (.int .i64 (tickH h).at_) ∧ W.cell? ⟨w3.heap.size, 0, none⟩ = some (.int .i64 (tickH h).node) ∧ W.cell? ⟨w3.heap.size, 1, none⟩ = some (.int .i64 (tickH h).now) ∧ W.cell? ⟨w3.heap.size, 2, none⟩ = some (.int .i64 (tickH h).ask) ∧ W.cell? ⟨w3.heap.size, 3, none⟩ = some (.slice a3' (tickH h).sent.length c3') ∧ W.cell? ⟨w3.heap.size, 4, none⟩ = some (.int .i64 (tickH h).seq) ∧ W.cell? ⟨w3.heap.size, 5, none⟩ = some (.int .i64 (tickH h).at_))) (by kernel_rfl) ?_ (fun hHeld => ?_)
      · (first | exact keep24 (by assumption) (by assumption) | exact keep24A (by assumption) (fun h => by have h1 : wc.heap.size ≤ _ := h.1; have h2 : _ < w2.heap.size := h.2; have := HSZ.out; omega) (fun h => by have h1 : wc.heap.size ≤ _ := h.1; have h2 : _ < w2.heap.size := h.2; have := HSZ.out; omega) (fun h => by have h1 : wc.heap.size ≤ _ := h.1; have h2 : _ < w2.heap.size := h.2; have := HSZ.out; omega) (fun h => by have h1 : wc.heap.size ≤ _ := h.1; have h2 : _ < w2.heap.size := h.2; have := HSZ.out; omega) (by assumption) | exact keep24D (by assumption) | assumption)
      refine wpAnyH_ready (rs := [0]) (by kernel_rfl) (by simp) ?_
      refine AllReadyH.cons (o := { dst := Option.some 27, op := Go.Op.call { callee := Go.Callee.value (Go.Operand.func 11), args := #[], argTypes := #[] }, type := 4, pos := "law.go:46", after := #[], guard := Option.none }) rfl (fun K hK => ?_) AllReadyH.nil
      go_simp
      (first | (go_at_call 11; refine (good'_any _).mono ?_; rintro e wa ⟨rfl, PA⟩; have QA : Bel X3 wa := Bel.next (by first | assumption | exact Bel.drew (by assumption)) PA) | (go_at_call 12; refine Calls.mono (HC1.out _ ?_) ?_; exact Bel.out (by first | assumption | exact Bel.drew (by assumption)); rw [RI.out]; rintro e wb ⟨rfl, PA⟩; have QA : Bel X3 wb := Bel.next (by first | assumption | exact Bel.drew (by assumption)) PA) | (go_at_call 13; refine Calls.mono (HC2.out _ ?_) ?_; exact Bel.out (by first | assumption | exact Bel.drew (by assumption)); rw [GD.out]; rintro e wb ⟨rfl, PA⟩; have QA : Bel X3 wb := Bel.next (by first | assumption | exact Bel.drew (by assumption)) PA) | (go_at_call 14; refine Calls.mono (HC3.out _ ?_) ?_; exact Bel.out (by first | assumption | exact Bel.drew (by assumption)); rw [GD.out]; rintro e wb ⟨rfl, PA⟩; have QA : Bel X3 wb := Bel.next (by first | assumption | exact Bel.drew (by assumption)) PA) | (go_at_call 15; refine Calls.mono (HC4.out _ ?_) ?_; exact Bel.out (by first | assumption | exact Bel.drew (by assumption)); rintro e wf ⟨rfl, PF⟩; have QF : Below w.heap.size w wf := HFN.out _ _ (by first | assumption | exact Bel.drew (by assumption)) PF))
      try go_wp2_with fail
      refine hK.out _ _ ?_ (fun hHeld => ?_)
      · (first | exact keep24 (by assumption) (by assumption) | exact keep24A (by assumption) (fun h => by have h1 : wc.heap.size ≤ _ := h.1; have h2 : _ < w2.heap.size := h.2; have := HSZ.out; omega) (fun h => by have h1 : wc.heap.size ≤ _ := h.1; have h2 : _ < w2.heap.size := h.2; have := HSZ.out; omega) (fun h => by have h1 : wc.heap.size ≤ _ := h.1; have h2 : _ < w2.heap.size := h.2; have := HSZ.out; omega) (fun h => by have h1 : wc.heap.size ≤ _ := h.1; have h2 : _ < w2.heap.size := h.2; have := HSZ.out; omega) (by assumption) | exact keep24D (by assumption) | assumption)
      clear hK K
      try simp only [Act.put, List.setIfInBounds_toArray, List.set_cons_zero, List.set_cons_succ]
      refine wpAnyH_take (i := 1) (oi := { dst := Option.some 28, op := Go.Op.move (Go.Operand.tmp 27), type := 4, pos := "law.go:46", after := #[{ on := 0, ground := Go.Ground.data }, { on := 0, ground := Go.Ground.chain }], guard := Option.none }) (v := ?_) rfl (by kernel_rfl) (by kernel_rfl) (by kernel_rfl) (fun _ _ _ h => h) (Or.inl ⟨rfl, ?_⟩) (by assumption) ?_
      rotate_left
      · intro w hSw
        (try dsimp only at hSw)
        first | (go_simp; done) | (go_simp; with_reducible rfl)
      try simp only [Act.put, List.setIfInBounds_toArray, List.set_cons_zero, List.set_cons_succ]
      refine wpAnyH_take (i := 2) (oi := { dst := Option.some 29, op := Go.Op.move (Go.Operand.tmp 4), type := 26, pos := "law.go:46", after := #[{ on := 1, ground := Go.Ground.guard }], guard := Option.some (1, Bool.true) }) (v := ?_) rfl (by kernel_rfl) (by kernel_rfl) (by kernel_rfl) (fun _ _ _ h => h) (Or.inl ⟨rfl, ?_⟩) (by assumption) ?_
      rotate_left
      · intro w hSw
        (try dsimp only at hSw)
        first | (go_simp; done) | (go_simp; with_reducible rfl)
      try simp only [Act.put, List.setIfInBounds_toArray, List.set_cons_zero, List.set_cons_succ]
      refine wpAnyH_take (i := 3) (oi := { dst := Option.some 30, op := Go.Op.binOp Go.BinOp.eql 26 (Go.Operand.tmp 29) (Go.Operand.const (Go.Value.int Go.IntKind.i64 0)) 26, type := 4, pos := "law.go:46", after := #[{ on := 2, ground := Go.Ground.data }, { on := 1, ground := Go.Ground.guard }], guard := Option.some (1, Bool.true) }) (v := ?_) rfl (by kernel_rfl) (by kernel_rfl) (by kernel_rfl) (fun _ _ _ h => h) (Or.inl ⟨rfl, ?_⟩) (by assumption) ?_
      rotate_left
      · intro w hSw
        (try dsimp only at hSw)
        first | (go_simp; done) | (go_simp; with_reducible rfl)
      try simp only [Act.put, List.setIfInBounds_toArray, List.set_cons_zero, List.set_cons_succ]
      refine wpAnyH_take (i := 4) (oi := { dst := Option.some 31, op := Go.Op.load 24 (Go.Operand.tmp 3), type := 24, pos := "law.go:46", after := #[{ on := 1, ground := Go.Ground.guard }], guard := Option.some (1, Bool.true) }) (v := ?_) rfl (by kernel_rfl) (by kernel_rfl) (by kernel_rfl) (fun _ _ _ h => h) (Or.inl ⟨rfl, ?_⟩) (by assumption) ?_
      rotate_left
      · intro w hSw
        (try dsimp only at hSw)
        first | (go_simp; done) | (go_simp; with_reducible rfl)
      try simp only [Act.put, List.setIfInBounds_toArray, List.set_cons_zero, List.set_cons_succ]
      refine wpAnyH_ready (rs := [5]) (by kernel_rfl) (by simp) ?_
      refine AllReadyH.cons (o := { dst := Option.some 32, op := Go.Op.call { callee := Go.Callee.value (Go.Operand.func 12), args := #[Go.Operand.tmp 31], argTypes := #[24] }, type := 4, pos := "law.go:46", after := #[{ on := 4, ground := Go.Ground.data }, { on := 1, ground := Go.Ground.chain }, { on := 1, ground := Go.Ground.guard }], guard := Option.some (1, Bool.true) }) rfl (fun K hK => ?_) AllReadyH.nil
      go_simp
      (first | (go_at_call 11; refine (good'_any _).mono ?_; rintro e wa ⟨rfl, PA⟩; have QA : Bel X3 wa := Bel.next (by first | assumption | exact Bel.drew (by assumption)) PA) | (go_at_call 12; refine Calls.mono (HC1.out _ ?_) ?_; exact Bel.out (by first | assumption | exact Bel.drew (by assumption)); rw [RI.out]; rintro e wb ⟨rfl, PA⟩; have QA : Bel X3 wb := Bel.next (by first | assumption | exact Bel.drew (by assumption)) PA) | (go_at_call 13; refine Calls.mono (HC2.out _ ?_) ?_; exact Bel.out (by first | assumption | exact Bel.drew (by assumption)); rw [GD.out]; rintro e wb ⟨rfl, PA⟩; have QA : Bel X3 wb := Bel.next (by first | assumption | exact Bel.drew (by assumption)) PA) | (go_at_call 14; refine Calls.mono (HC3.out _ ?_) ?_; exact Bel.out (by first | assumption | exact Bel.drew (by assumption)); rw [GD.out]; rintro e wb ⟨rfl, PA⟩; have QA : Bel X3 wb := Bel.next (by first | assumption | exact Bel.drew (by assumption)) PA) | (go_at_call 15; refine Calls.mono (HC4.out _ ?_) ?_; exact Bel.out (by first | assumption | exact Bel.drew (by assumption)); rintro e wf ⟨rfl, PF⟩; have QF : Below w.heap.size w wf := HFN.out _ _ (by first | assumption | exact Bel.drew (by assumption)) PF))
      try go_wp2_with fail
      refine hK.out _ _ ?_ (fun hHeld => ?_)
      · (first | exact keep24 (by assumption) (by assumption) | exact keep24A (by assumption) (fun h => by have h1 : wc.heap.size ≤ _ := h.1; have h2 : _ < w2.heap.size := h.2; have := HSZ.out; omega) (fun h => by have h1 : wc.heap.size ≤ _ := h.1; have h2 : _ < w2.heap.size := h.2; have := HSZ.out; omega) (fun h => by have h1 : wc.heap.size ≤ _ := h.1; have h2 : _ < w2.heap.size := h.2; have := HSZ.out; omega) (fun h => by have h1 : wc.heap.size ≤ _ := h.1; have h2 : _ < w2.heap.size := h.2; have := HSZ.out; omega) (by assumption) | exact keep24D (by assumption) | assumption)
      clear hK K
      try simp only [Act.put, List.setIfInBounds_toArray, List.set_cons_zero, List.set_cons_succ]
      refine wpAnyH_take (i := 6) (oi := { dst := Option.some 33, op := Go.Op.binOp Go.BinOp.eql 4 (Go.Operand.tmp 30) (Go.Operand.tmp 32) 4, type := 4, pos := "law.go:46", after := #[{ on := 3, ground := Go.Ground.data }, { on := 5, ground := Go.Ground.data }, { on := 1, ground := Go.Ground.guard }], guard := Option.some (1, Bool.true) }) (v := ?_) rfl (by kernel_rfl) (by kernel_rfl) (by kernel_rfl) (fun _ _ _ h => h) (Or.inl ⟨rfl, ?_⟩) (by assumption) ?_
      rotate_left
      · intro w hSw
        (try dsimp only at hSw)
        first | (go_simp; done) | (go_simp; with_reducible rfl)
      try simp only [Act.put, List.setIfInBounds_toArray, List.set_cons_zero, List.set_cons_succ]
      refine wpAnyH_take (i := 7) (oi := { dst := Option.some 34, op := Go.Op.pick (Go.Operand.tmp 28) (Go.Operand.tmp 33) (Go.Operand.const (Go.Value.bool Bool.false)), type := 4, pos := "law.go:46", after := #[{ on := 1, ground := Go.Ground.data }, { on := 6, ground := Go.Ground.data }], guard := Option.none }) (v := ?_) rfl (by kernel_rfl) (by kernel_rfl) (by kernel_rfl) (fun _ _ _ h => h) (Or.inl ⟨rfl, ?_⟩) (by assumption) ?_
      rotate_left
      · intro w hSw
        (try dsimp only at hSw)
        first | (go_simp; done) | (go_simp; with_reducible rfl)
      try simp only [Act.put, List.setIfInBounds_toArray, List.set_cons_zero, List.set_cons_succ]
      refine wpAnyH_take (i := 8) (oi := { dst := Option.some 35, op := Go.Op.move (Go.Operand.tmp 34), type := 4, pos := "law.go:46", after := #[{ on := 7, ground := Go.Ground.data }, { on := 5, ground := Go.Ground.chain }], guard := Option.none }) (v := ?_) rfl (by kernel_rfl) (by kernel_rfl) (by kernel_rfl) (fun _ _ _ h => h) (Or.inl ⟨rfl, ?_⟩) (by assumption) ?_
      rotate_left
      · intro w hSw
        (try dsimp only at hSw)
        first | (go_simp; done) | (go_simp; with_reducible rfl)
      try simp only [Act.put, List.setIfInBounds_toArray, List.set_cons_zero, List.set_cons_succ]
      refine wpAnyH_take (i := 9) (oi := { dst := Option.some 36, op := Go.Op.move (Go.Operand.tmp 4), type := 26, pos := "law.go:46", after := #[{ on := 8, ground := Go.Ground.guard }], guard := Option.some (8, Bool.true) }) (v := ?_) rfl (by kernel_rfl) (by kernel_rfl) (by kernel_rfl) (fun _ _ _ h => h) (Or.inl ⟨rfl, ?_⟩) (by assumption) ?_
      rotate_left
      · intro w hSw
        (try dsimp only at hSw)
        first | (go_simp; done) | (go_simp; with_reducible rfl)
      try simp only [Act.put, List.setIfInBounds_toArray, List.set_cons_zero, List.set_cons_succ]
      refine wpAnyH_take (i := 10) (oi := { dst := Option.some 37, op := Go.Op.binOp Go.BinOp.eql 26 (Go.Operand.tmp 36) (Go.Operand.const (Go.Value.int Go.IntKind.i64 0)) 26, type := 4, pos := "law.go:46", after := #[{ on := 9, ground := Go.Ground.data }, { on := 8, ground := Go.Ground.guard }], guard := Option.some (8, Bool.true) }) (v := ?_) rfl (by kernel_rfl) (by kernel_rfl) (by kernel_rfl) (fun _ _ _ h => h) (Or.inl ⟨rfl, ?_⟩) (by assumption) ?_
      rotate_left
      · intro w hSw
        (try dsimp only at hSw)
        first | (go_simp; done) | (go_simp; with_reducible rfl)
      try simp only [Act.put, List.setIfInBounds_toArray, List.set_cons_zero, List.set_cons_succ]
      refine wpAnyH_take (i := 11) (oi := { dst := Option.some 38, op := Go.Op.move (Go.Operand.tmp 37), type := 4, pos := "law.go:46", after := #[{ on := 10, ground := Go.Ground.data }, { on := 8, ground := Go.Ground.chain }, { on := 8, ground := Go.Ground.guard }], guard := Option.some (8, Bool.true) }) (v := ?_) rfl (by kernel_rfl) (by kernel_rfl) (by kernel_rfl) (fun _ _ _ h => h) (Or.inl ⟨rfl, ?_⟩) (by assumption) ?_
      rotate_left
      · intro w hSw
        (try dsimp only at hSw)
        first | (go_simp; done) | (go_simp; with_reducible rfl)
      try simp only [Act.put, List.setIfInBounds_toArray, List.set_cons_zero, List.set_cons_succ]
      refine wpAnyH_take (i := 12) (oi := { dst := Option.some 39, op := Go.Op.move (Go.Operand.tmp 4), type := 26, pos := "law.go:46", after := #[{ on := 11, ground := Go.Ground.guard }], guard := Option.some (11, Bool.false) }) (v := undef) rfl (by kernel_rfl) (by kernel_rfl) (by kernel_rfl) (fun _ _ _ h => h) (Or.inr ⟨rfl, rfl⟩) (by assumption) ?_
      try simp only [Act.put, List.setIfInBounds_toArray, List.set_cons_zero, List.set_cons_succ]
      refine wpAnyH_take (i := 13) (oi := { dst := Option.some 40, op := Go.Op.binOp Go.BinOp.eql 26 (Go.Operand.tmp 39) (Go.Operand.const (Go.Value.int Go.IntKind.i64 1)) 26, type := 4, pos := "law.go:46", after := #[{ on := 12, ground := Go.Ground.data }, { on := 11, ground := Go.Ground.guard }], guard := Option.some (11, Bool.false) }) (v := undef) rfl (by kernel_rfl) (by kernel_rfl) (by kernel_rfl) (fun _ _ _ h => h) (Or.inr ⟨rfl, rfl⟩) (by assumption) ?_
      try simp only [Act.put, List.setIfInBounds_toArray, List.set_cons_zero, List.set_cons_succ]
      refine wpAnyH_take (i := 14) (oi := { dst := Option.some 41, op := Go.Op.pick (Go.Operand.tmp 38) (Go.Operand.const (Go.Value.bool Bool.true)) (Go.Operand.tmp 40), type := 4, pos := "law.go:46", after := #[{ on := 11, ground := Go.Ground.data }, { on := 13, ground := Go.Ground.data }, { on := 8, ground := Go.Ground.guard }], guard := Option.some (8, Bool.true) }) (v := ?_) rfl (by kernel_rfl) (by kernel_rfl) (by kernel_rfl) (fun _ _ _ h => h) (Or.inl ⟨rfl, ?_⟩) (by assumption) ?_
      rotate_left
      · intro w hSw
        (try dsimp only at hSw)
        first | (go_simp; done) | (go_simp; with_reducible rfl)
      try simp only [Act.put, List.setIfInBounds_toArray, List.set_cons_zero, List.set_cons_succ]
      refine wpAnyH_take (i := 15) (oi := { dst := Option.some 42, op := Go.Op.pick (Go.Operand.tmp 35) (Go.Operand.tmp 41) (Go.Operand.const (Go.Value.bool Bool.false)), type := 4, pos := "law.go:46", after := #[{ on := 8, ground := Go.Ground.data }, { on := 14, ground := Go.Ground.data }], guard := Option.none }) (v := ?_) rfl (by kernel_rfl) (by kernel_rfl) (by kernel_rfl) (fun _ _ _ h => h) (Or.inl ⟨rfl, ?_⟩) (by assumption) ?_
      rotate_left
      · intro w hSw
        (try dsimp only at hSw)
        first | (go_simp; done) | (go_simp; with_reducible rfl)
      try simp only [Act.put, List.setIfInBounds_toArray, List.set_cons_zero, List.set_cons_succ]
      refine wpAnyH_take (i := 16) (oi := { dst := Option.some 43, op := Go.Op.move (Go.Operand.tmp 42), type := 4, pos := "law.go:46", after := #[{ on := 15, ground := Go.Ground.data }, { on := 11, ground := Go.Ground.chain }], guard := Option.none }) (v := ?_) rfl (by kernel_rfl) (by kernel_rfl) (by kernel_rfl) (fun _ _ _ h => h) (Or.inl ⟨rfl, ?_⟩) (by assumption) ?_
      rotate_left
      · intro w hSw
        (try dsimp only at hSw)
        first | (go_simp; done) | (go_simp; with_reducible rfl)
      try simp only [Act.put, List.setIfInBounds_toArray, List.set_cons_zero, List.set_cons_succ]
      refine wpAnyH_take (i := 17) (oi := { dst := Option.some 44, op := Go.Op.load 24 (Go.Operand.tmp 1), type := 24, pos := "law.go:46", after := #[{ on := 16, ground := Go.Ground.guard }], guard := Option.some (16, Bool.true) }) (v := ?_) rfl (by kernel_rfl) (by kernel_rfl) (by kernel_rfl) (fun _ _ _ h => h) (Or.inl ⟨rfl, ?_⟩) (by assumption) ?_
      rotate_left
      · intro w hSw
        (try dsimp only at hSw)
        first | (go_simp; done) | (go_simp; with_reducible rfl)
      try simp only [Act.put, List.setIfInBounds_toArray, List.set_cons_zero, List.set_cons_succ]
      refine wpAnyH_take (i := 19) (oi := { dst := Option.some 46, op := Go.Op.load 24 (Go.Operand.tmp 3), type := 24, pos := "law.go:46", after := #[{ on := 16, ground := Go.Ground.guard }], guard := Option.some (16, Bool.true) }) (v := ?_) rfl (by kernel_rfl) (by kernel_rfl) (by kernel_rfl) (fun _ _ _ h => h) (Or.inl ⟨rfl, ?_⟩) (by assumption) ?_
      rotate_left
      · intro w hSw
        (try dsimp only at hSw)
        first | (go_simp; done) | (go_simp; with_reducible rfl)
      try simp only [Act.put, List.setIfInBounds_toArray, List.set_cons_zero, List.set_cons_succ]
      refine wpAnyH_ready (rs := [18]) (by kernel_rfl) (by simp) ?_
      refine AllReadyH.cons (o := { dst := Option.some 45, op := Go.Op.call { callee := Go.Callee.value (Go.Operand.func 13), args := #[Go.Operand.tmp 44], argTypes := #[24] }, type := 4, pos := "law.go:46", after := #[{ on := 17, ground := Go.Ground.data }, { on := 16, ground := Go.Ground.chain }, { on := 16, ground := Go.Ground.guard }], guard := Option.some (16, Bool.true) }) rfl (fun K hK => ?_) AllReadyH.nil
      go_simp
      (first | (go_at_call 11; refine (good'_any _).mono ?_; rintro e wa ⟨rfl, PA⟩; have QA : Bel X3 wa := Bel.next (by first | assumption | exact Bel.drew (by assumption)) PA) | (go_at_call 12; refine Calls.mono (HC1.out _ ?_) ?_; exact Bel.out (by first | assumption | exact Bel.drew (by assumption)); rw [RI.out]; rintro e wb ⟨rfl, PA⟩; have QA : Bel X3 wb := Bel.next (by first | assumption | exact Bel.drew (by assumption)) PA) | (go_at_call 13; refine Calls.mono (HC2.out _ ?_) ?_; exact Bel.out (by first | assumption | exact Bel.drew (by assumption)); rw [GD.out]; rintro e wb ⟨rfl, PA⟩; have QA : Bel X3 wb := Bel.next (by first | assumption | exact Bel.drew (by assumption)) PA) | (go_at_call 14; refine Calls.mono (HC3.out _ ?_) ?_; exact Bel.out (by first | assumption | exact Bel.drew (by assumption)); rw [GD.out]; rintro e wb ⟨rfl, PA⟩; have QA : Bel X3 wb := Bel.next (by first | assumption | exact Bel.drew (by assumption)) PA) | (go_at_call 15; refine Calls.mono (HC4.out _ ?_) ?_; exact Bel.out (by first | assumption | exact Bel.drew (by assumption)); rintro e wf ⟨rfl, PF⟩; have QF : Below w.heap.size w wf := HFN.out _ _ (by first | assumption | exact Bel.drew (by assumption)) PF))
      try go_wp2_with fail
      refine hK.out _ _ ?_ (fun hHeld => ?_)
      · (first | exact keep24 (by assumption) (by assumption) | exact keep24A (by assumption) (fun h => by have h1 : wc.heap.size ≤ _ := h.1; have h2 : _ < w2.heap.size := h.2; have := HSZ.out; omega) (fun h => by have h1 : wc.heap.size ≤ _ := h.1; have h2 : _ < w2.heap.size := h.2; have := HSZ.out; omega) (fun h => by have h1 : wc.heap.size ≤ _ := h.1; have h2 : _ < w2.heap.size := h.2; have := HSZ.out; omega) (fun h => by have h1 : wc.heap.size ≤ _ := h.1; have h2 : _ < w2.heap.size := h.2; have := HSZ.out; omega) (by assumption) | exact keep24D (by assumption) | assumption)
      clear hK K
      try simp only [Act.put, List.setIfInBounds_toArray, List.set_cons_zero, List.set_cons_succ]
      refine wpAnyH_ready (rs := [20]) (by kernel_rfl) (by simp) ?_
      refine AllReadyH.cons (o := { dst := Option.some 47, op := Go.Op.call { callee := Go.Callee.value (Go.Operand.func 14), args := #[Go.Operand.tmp 46], argTypes := #[24] }, type := 4, pos := "law.go:46", after := #[{ on := 19, ground := Go.Ground.data }, { on := 18, ground := Go.Ground.chain }, { on := 16, ground := Go.Ground.guard }], guard := Option.some (16, Bool.true) }) rfl (fun K hK => ?_) AllReadyH.nil
      go_simp
      (first | (go_at_call 11; refine (good'_any _).mono ?_; rintro e wa ⟨rfl, PA⟩; have QA : Bel X3 wa := Bel.next (by first | assumption | exact Bel.drew (by assumption)) PA) | (go_at_call 12; refine Calls.mono (HC1.out _ ?_) ?_; exact Bel.out (by first | assumption | exact Bel.drew (by assumption)); rw [RI.out]; rintro e wb ⟨rfl, PA⟩; have QA : Bel X3 wb := Bel.next (by first | assumption | exact Bel.drew (by assumption)) PA) | (go_at_call 13; refine Calls.mono (HC2.out _ ?_) ?_; exact Bel.out (by first | assumption | exact Bel.drew (by assumption)); rw [GD.out]; rintro e wb ⟨rfl, PA⟩; have QA : Bel X3 wb := Bel.next (by first | assumption | exact Bel.drew (by assumption)) PA) | (go_at_call 14; refine Calls.mono (HC3.out _ ?_) ?_; exact Bel.out (by first | assumption | exact Bel.drew (by assumption)); rw [GD.out]; rintro e wb ⟨rfl, PA⟩; have QA : Bel X3 wb := Bel.next (by first | assumption | exact Bel.drew (by assumption)) PA) | (go_at_call 15; refine Calls.mono (HC4.out _ ?_) ?_; exact Bel.out (by first | assumption | exact Bel.drew (by assumption)); rintro e wf ⟨rfl, PF⟩; have QF : Below w.heap.size w wf := HFN.out _ _ (by first | assumption | exact Bel.drew (by assumption)) PF))
      try go_wp2_with fail
      refine hK.out _ _ ?_ (fun hHeld => ?_)
      · (first | exact keep24 (by assumption) (by assumption) | exact keep24A (by assumption) (fun h => by have h1 : wc.heap.size ≤ _ := h.1; have h2 : _ < w2.heap.size := h.2; have := HSZ.out; omega) (fun h => by have h1 : wc.heap.size ≤ _ := h.1; have h2 : _ < w2.heap.size := h.2; have := HSZ.out; omega) (fun h => by have h1 : wc.heap.size ≤ _ := h.1; have h2 : _ < w2.heap.size := h.2; have := HSZ.out; omega) (fun h => by have h1 : wc.heap.size ≤ _ := h.1; have h2 : _ < w2.heap.size := h.2; have := HSZ.out; omega) (by assumption) | exact keep24D (by assumption) | assumption)
      clear hK K
      try simp only [Act.put, List.setIfInBounds_toArray, List.set_cons_zero, List.set_cons_succ]
      refine wpAnyH_take (i := 21) (oi := { dst := Option.some 48, op := Go.Op.binOp Go.BinOp.eql 4 (Go.Operand.tmp 45) (Go.Operand.tmp 47) 4, type := 4, pos := "law.go:46", after := #[{ on := 18, ground := Go.Ground.data }, { on := 20, ground := Go.Ground.data }, { on := 16, ground := Go.Ground.guard }], guard := Option.some (16, Bool.true) }) (v := ?_) rfl (by kernel_rfl) (by kernel_rfl) (by kernel_rfl) (fun _ _ _ h => h) (Or.inl ⟨rfl, ?_⟩) (by assumption) ?_
      rotate_left
      · intro w hSw
        (try dsimp only at hSw)
        first | (go_simp; done) | (go_simp; with_reducible rfl)
      try simp only [Act.put, List.setIfInBounds_toArray, List.set_cons_zero, List.set_cons_succ]
      refine wpAnyH_take (i := 22) (oi := { dst := Option.some 49, op := Go.Op.pick (Go.Operand.tmp 43) (Go.Operand.tmp 48) (Go.Operand.const (Go.Value.bool Bool.false)), type := 4, pos := "law.go:46", after := #[{ on := 16, ground := Go.Ground.data }, { on := 21, ground := Go.Ground.data }], guard := Option.none }) (v := ?_) rfl (by kernel_rfl) (by kernel_rfl) (by kernel_rfl) (fun _ _ _ h => h) (Or.inl ⟨rfl, ?_⟩) (by assumption) ?_
      rotate_left
      · intro w hSw
        (try dsimp only at hSw)
        first | (go_simp; done) | (go_simp; with_reducible rfl)
      try simp only [Act.put, List.setIfInBounds_toArray, List.set_cons_zero, List.set_cons_succ]
      refine wpAnyH_take (i := 23) (oi := { dst := Option.some 50, op := Go.Op.move (Go.Operand.tmp 49), type := 4, pos := "law.go:46", after := #[{ on := 22, ground := Go.Ground.data }, { on := 20, ground := Go.Ground.chain }], guard := Option.none }) (v := ?_) rfl (by kernel_rfl) (by kernel_rfl) (by kernel_rfl) (fun _ _ _ h => h) (Or.inl ⟨rfl, ?_⟩) (by assumption) ?_
      rotate_left
      · intro w hSw
        (try dsimp only at hSw)
        first | (go_simp; done) | (go_simp; with_reducible rfl)
      try simp only [Act.put, List.setIfInBounds_toArray, List.set_cons_zero, List.set_cons_succ]
      refine wpAnyH_take (i := 24) (oi := { dst := Option.some 51, op := Go.Op.load 24 (Go.Operand.tmp 5), type := 24, pos := "law.go:46", after := #[{ on := 23, ground := Go.Ground.guard }], guard := Option.some (23, Bool.true) }) (v := ?_) rfl (by kernel_rfl) (by kernel_rfl) (by kernel_rfl) (fun _ _ _ h => h) (Or.inl ⟨rfl, ?_⟩) (by assumption) ?_
      rotate_left
      · intro w hSw
        (try dsimp only at hSw)
        first | (go_simp; done) | (go_simp; with_reducible rfl)
      try simp only [Act.put, List.setIfInBounds_toArray, List.set_cons_zero, List.set_cons_succ]
      refine wpAnyH_take (i := 25) (oi := { dst := Option.some 52, op := Go.Op.move (Go.Operand.tmp 6), type := 26, pos := "law.go:46", after := #[{ on := 23, ground := Go.Ground.guard }], guard := Option.some (23, Bool.true) }) (v := ?_) rfl (by kernel_rfl) (by kernel_rfl) (by kernel_rfl) (fun _ _ _ h => h) (Or.inl ⟨rfl, ?_⟩) (by assumption) ?_
      rotate_left
      · intro w hSw
        (try dsimp only at hSw)
        first | (go_simp; done) | (go_simp; with_reducible rfl)
      try simp only [Act.put, List.setIfInBounds_toArray, List.set_cons_zero, List.set_cons_succ]
      refine wpAnyH_take (i := 26) (oi := { dst := Option.some 53, op := Go.Op.load 24 (Go.Operand.tmp 7), type := 24, pos := "law.go:46", after := #[{ on := 23, ground := Go.Ground.guard }], guard := Option.some (23, Bool.true) }) (v := ?_) rfl (by kernel_rfl) (by kernel_rfl) (by kernel_rfl) (fun _ _ _ h => h) (Or.inl ⟨rfl, ?_⟩) (by assumption) ?_
      rotate_left
      · intro w hSw
        (try dsimp only at hSw)
        first | (go_simp; done) | (go_simp; with_reducible rfl)
      try simp only [Act.put, List.setIfInBounds_toArray, List.set_cons_zero, List.set_cons_succ]
      refine wpAnyH_take (i := 27) (oi := { dst := Option.some 54, op := Go.Op.move (Go.Operand.tmp 8), type := 26, pos := "law.go:46", after := #[{ on := 23, ground := Go.Ground.guard }], guard := Option.some (23, Bool.true) }) (v := ?_) rfl (by kernel_rfl) (by kernel_rfl) (by kernel_rfl) (fun _ _ _ h => h) (Or.inl ⟨rfl, ?_⟩) (by assumption) ?_
      rotate_left
      · intro w hSw
        (try dsimp only at hSw)
        first | (go_simp; done) | (go_simp; with_reducible rfl)
      try simp only [Act.put, List.setIfInBounds_toArray, List.set_cons_zero, List.set_cons_succ]
      refine wpAnyH_take (i := 28) (oi := { dst := Option.some 55, op := Go.Op.load 24 (Go.Operand.tmp 1), type := 24, pos := "law.go:46", after := #[{ on := 23, ground := Go.Ground.guard }], guard := Option.some (23, Bool.true) }) (v := ?_) rfl (by kernel_rfl) (by kernel_rfl) (by kernel_rfl) (fun _ _ _ h => h) (Or.inl ⟨rfl, ?_⟩) (by assumption) ?_
      rotate_left
      · intro w hSw
        (try dsimp only at hSw)
        first | (go_simp; done) | (go_simp; with_reducible rfl)
      try simp only [Act.put, List.setIfInBounds_toArray, List.set_cons_zero, List.set_cons_succ]
      refine wpAnyH_take (i := 29) (oi := { dst := Option.some 56, op := Go.Op.load 24 (Go.Operand.tmp 3), type := 24, pos := "law.go:46", after := #[{ on := 23, ground := Go.Ground.guard }], guard := Option.some (23, Bool.true) }) (v := ?_) rfl (by kernel_rfl) (by kernel_rfl) (by kernel_rfl) (fun _ _ _ h => h) (Or.inl ⟨rfl, ?_⟩) (by assumption) ?_
      rotate_left
      · intro w hSw
        (try dsimp only at hSw)
        first | (go_simp; done) | (go_simp; with_reducible rfl)
      try simp only [Act.put, List.setIfInBounds_toArray, List.set_cons_zero, List.set_cons_succ]
      refine wpAnyH_ready (rs := [30]) (by kernel_rfl) (by simp) ?_
      refine AllReadyH.cons (o := { dst := Option.some 57, op := Go.Op.call { callee := Go.Callee.value (Go.Operand.func 15), args := #[Go.Operand.tmp 51, Go.Operand.tmp 52, Go.Operand.tmp 53, Go.Operand.tmp 54, Go.Operand.tmp 55, Go.Operand.tmp 56], argTypes := #[24, 26, 24, 26, 24, 24] }, type := 4, pos := "law.go:46", after := #[{ on := 24, ground := Go.Ground.data }, { on := 25, ground := Go.Ground.data }, { on := 26, ground := Go.Ground.data }, { on := 27, ground := Go.Ground.data }, { on := 28, ground := Go.Ground.data }, { on := 29, ground := Go.Ground.data }, { on := 23, ground := Go.Ground.chain }, { on := 23, ground := Go.Ground.guard }], guard := Option.some (23, Bool.true) }) rfl (fun K hK => ?_) AllReadyH.nil
      go_simp
      (first | (go_at_call 11; refine (good'_any _).mono ?_; rintro e wa ⟨rfl, PA⟩; have QA : Bel X3 wa := Bel.next (by first | assumption | exact Bel.drew (by assumption)) PA) | (go_at_call 12; refine Calls.mono (HC1.out _ ?_) ?_; exact Bel.out (by first | assumption | exact Bel.drew (by assumption)); rw [RI.out]; rintro e wb ⟨rfl, PA⟩; have QA : Bel X3 wb := Bel.next (by first | assumption | exact Bel.drew (by assumption)) PA) | (go_at_call 13; refine Calls.mono (HC2.out _ ?_) ?_; exact Bel.out (by first | assumption | exact Bel.drew (by assumption)); rw [GD.out]; rintro e wb ⟨rfl, PA⟩; have QA : Bel X3 wb := Bel.next (by first | assumption | exact Bel.drew (by assumption)) PA) | (go_at_call 14; refine Calls.mono (HC3.out _ ?_) ?_; exact Bel.out (by first | assumption | exact Bel.drew (by assumption)); rw [GD.out]; rintro e wb ⟨rfl, PA⟩; have QA : Bel X3 wb := Bel.next (by first | assumption | exact Bel.drew (by assumption)) PA) | (go_at_call 15; refine Calls.mono (HC4.out _ ?_) ?_; exact Bel.out (by first | assumption | exact Bel.drew (by assumption)); rintro e wf ⟨rfl, PF⟩; have QF : Below w.heap.size w wf := HFN.out _ _ (by first | assumption | exact Bel.drew (by assumption)) PF))
      try go_wp2_with fail
      refine hK.out _ _ ?_ (fun hHeld => ?_)
      · (first | exact keep24 (by assumption) (by assumption) | exact keep24A (by assumption) (fun h => by have h1 : wc.heap.size ≤ _ := h.1; have h2 : _ < w2.heap.size := h.2; have := HSZ.out; omega) (fun h => by have h1 : wc.heap.size ≤ _ := h.1; have h2 : _ < w2.heap.size := h.2; have := HSZ.out; omega) (fun h => by have h1 : wc.heap.size ≤ _ := h.1; have h2 : _ < w2.heap.size := h.2; have := HSZ.out; omega) (fun h => by have h1 : wc.heap.size ≤ _ := h.1; have h2 : _ < w2.heap.size := h.2; have := HSZ.out; omega) (by assumption) | exact keep24D (by assumption) | assumption)
      clear hK K
      try simp only [Act.put, List.setIfInBounds_toArray, List.set_cons_zero, List.set_cons_succ]
      refine wpAnyH_take (i := 31) (oi := { dst := Option.some 58, op := Go.Op.pick (Go.Operand.tmp 50) (Go.Operand.tmp 57) (Go.Operand.const (Go.Value.bool Bool.false)), type := 4, pos := "law.go:46", after := #[{ on := 23, ground := Go.Ground.data }, { on := 30, ground := Go.Ground.data }], guard := Option.none }) (v := ?_) rfl (by kernel_rfl) (by kernel_rfl) (by kernel_rfl) (fun _ _ _ h => h) (Or.inl ⟨rfl, ?_⟩) (by assumption) ?_
      rotate_left
      · intro w hSw
        (try dsimp only at hSw)
        first | (go_simp; done) | (go_simp; with_reducible rfl)
      try simp only [Act.put, List.setIfInBounds_toArray, List.set_cons_zero, List.set_cons_succ]
      refine wpAnyH_take (i := 32) (oi := { dst := Option.some 2, op := Go.Op.assign (Go.Operand.tmp 58), type := 4, pos := "law.go:46", after := #[{ on := 31, ground := Go.Ground.data }, { on := 30, ground := Go.Ground.chain }, { on := 0, ground := Go.Ground.phase }, { on := 1, ground := Go.Ground.phase }, { on := 2, ground := Go.Ground.phase }, { on := 3, ground := Go.Ground.phase }, { on := 4, ground := Go.Ground.phase }, { on := 5, ground := Go.Ground.phase }, { on := 6, ground := Go.Ground.phase }, { on := 7, ground := Go.Ground.phase }, { on := 8, ground := Go.Ground.phase }, { on := 9, ground := Go.Ground.phase }, { on := 10, ground := Go.Ground.phase }, { on := 11, ground := Go.Ground.phase }, { on := 12, ground := Go.Ground.phase }, { on := 13, ground := Go.Ground.phase }, { on := 14, ground := Go.Ground.phase }, { on := 15, ground := Go.Ground.phase }, { on := 16, ground := Go.Ground.phase }, { on := 17, ground := Go.Ground.phase }, { on := 18, ground := Go.Ground.phase }, { on := 19, ground := Go.Ground.phase }, { on := 20, ground := Go.Ground.phase }, { on := 21, ground := Go.Ground.phase }, { on := 22, ground := Go.Ground.phase }, { on := 23, ground := Go.Ground.phase }, { on := 24, ground := Go.Ground.phase }, { on := 25, ground := Go.Ground.phase }, { on := 26, ground := Go.Ground.phase }, { on := 27, ground := Go.Ground.phase }, { on := 28, ground := Go.Ground.phase }, { on := 29, ground := Go.Ground.phase }, { on := 30, ground := Go.Ground.phase }, { on := 31, ground := Go.Ground.phase }], guard := Option.none }) (v := ?_) rfl (by kernel_rfl) (by kernel_rfl) (by kernel_rfl) (fun _ _ _ h => h) (Or.inl ⟨rfl, ?_⟩) (by assumption) ?_
      rotate_left
      · intro w hSw
        (try dsimp only at hSw)
        first | (go_simp; done) | (go_simp; with_reducible rfl)
      try simp only [Act.put, List.setIfInBounds_toArray, List.set_cons_zero, List.set_cons_succ]
      refine wpAnyH_done (by kernel_rfl) ?_ _
      go_wp2_with fail
      go_ret
      exact ⟨rfl, by assumption⟩
end Go.Proofs.Ytjfphnegcelbpaa
