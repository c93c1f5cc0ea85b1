/- The walk of the law MemberAsks: true for every struct and numbers. No condition. -/
import Derived.Test.YtejahcpnbkegfaaMeI
namespace Go.Proofs.Ytejahcpnbkegfaa
open Go.RowKit
set_option linter.unusedVariables false
set_option linter.unusedSimpArgs false
abbrev zB : ByteArray := ⟨#[]⟩
theorem run_cfg (a : Option Addr) (n c : Nat) (b : Option Addr) (m d : Nat) (i t : Int) (s : ByteArray) (W : World) : (Instr.field 28 (.agg #[.int .i64 i, .int .i64 t, .slice a n c, .slice b m d, .string s]) 2).run Try.prog W = .ok (.agg #[.slice a n c, .slice b m d]) W := by rfl
theorem eqC_self (c : Config) : eqC c c = true := decide_eq_true rfl
def snapOf (c : Config) : Snap := ⟨0, 0, c, zB⟩
theorem snapOf_rd {w : World} {S : Nat → Prop} {c : Config} {a0 a1 : Option Addr} {c0 c1 : Nat} (s0 : SlI w S a0 c.voters.length c0 c.voters) (s1 : SlI w S a1 c.learners.length c1 c.learners) :
    RdL w S Snap.ty [.int .i64 0, .int .i64 0, .slice a0 c.voters.length c0, .slice a1 c.learners.length c1, .string zB] (snapOf c).enc :=
  Snap.shuts (snapOf c) (show I64 0 from ⟨by decide, by decide⟩) (show I64 0 from ⟨by decide, by decide⟩) s0 s1 (Nat.zero_le _)
theorem keepC {B a b : World} {g1 g2 : Nat} {v0 v1 v2 v3 : Value} (k : Below a.heap.size a b) (h : a.cell? ⟨g1, 0, none⟩ = some v0 ∧ a.cell? ⟨g1, 1, none⟩ = some v1 ∧ a.cell? ⟨g2, 0, none⟩ = some v2 ∧ a.cell? ⟨g2, 1, none⟩ = some v3 ∧ Below B.heap.size B a) :
    b.cell? ⟨g1, 0, none⟩ = some v0 ∧ b.cell? ⟨g1, 1, none⟩ = some v1 ∧ b.cell? ⟨g2, 0, none⟩ = some v2 ∧ b.cell? ⟨g2, 1, none⟩ = some v3 ∧ Below B.heap.size B b := by
  obtain ⟨h0, h1, h2, h3, hb⟩ := h
  exact ⟨(k.cell (World.block_lt_of_cell? _ _ h0)).trans h0, (k.cell (World.block_lt_of_cell? _ _ h1)).trans h1, (k.cell (World.block_lt_of_cell? _ _ h2)).trans h2, (k.cell (World.block_lt_of_cell? _ _ h3)).trans h3, tr_below k hb⟩
theorem keepCD {B a : World} {g1 g2 : Nat} {v0 v1 v2 v3 : Value} (h : a.cell? ⟨g1, 0, none⟩ = some v0 ∧ a.cell? ⟨g1, 1, none⟩ = some v1 ∧ a.cell? ⟨g2, 0, none⟩ = some v2 ∧ a.cell? ⟨g2, 1, none⟩ = some v3 ∧ Below B.heap.size B a) :
    a.drew.cell? ⟨g1, 0, none⟩ = some v0 ∧ a.drew.cell? ⟨g1, 1, none⟩ = some v1 ∧ a.drew.cell? ⟨g2, 0, none⟩ = some v2 ∧ a.drew.cell? ⟨g2, 1, none⟩ = some v3 ∧ Below B.heap.size B a.drew := ⟨h.1, h.2.1, h.2.2.1, h.2.2.2.1, h.2.2.2.2.drew⟩
theorem of5 {p0 p1 p2 p3 : Prop} {B a : World} (h : p0 ∧ p1 ∧ p2 ∧ p3 ∧ Below B.heap.size B a) : Below B.heap.size B a := h.2.2.2.2
set_option maxRecDepth 100000 in
set_option maxHeartbeats 8000000 in
theorem law_memberAsks (vs : List Value) (c : Config) (a : Option Addr) (n m : Nat) (ys : List Int) (v : Int) (w : World) (h : RdL w (All w) Config.ty vs c.enc) (hy : SlI w (All w) a n m ys) (hv : I64 v) :
    Calls Try.prog 3 #[.agg vs.toArray, .slice a n m, .int .i64 v] w fun e w' => e = .returned (.bool true) ∧ Below w.heap.size w w' := by
  have HRC := Lib.hid h
  have HY := Lib.hid hy
  have ny := hy.bd.2.2.1
  obtain ⟨a0, c0, a1, c1, rfl, s0, s1⟩ := Config.opens h
  have BW := Lib.hid (Below.refl w.heap.size w)
  have hfl := fun (a : Option Addr) (n c : Nat) (b : Option Addr) (m d : Nat) (i t : Int) (s : ByteArray) (W : World) => run_cfg a n c b m d i t s W
  have HFL := Lib.hid hfl
  clear h hy s0 s1 hfl
  cases hl : largeC c
  rotate_left
  · have HL := Lib.hid hl
    clear hl
    go_enter Try.func3, Try.ntmps3
    go_upto_region 1 with fail
    obtain ⟨X0, hX0⟩ : ∃ W : World, w.alloc (.cells #[.slice a0 c.voters.length c0, .slice a1 c.learners.length c1] 25) = W := ⟨_, rfl⟩; rw [hX0]; have kcX0 := Blk.new w 25 #[.slice a0 c.voters.length c0, .slice a1 c.learners.length c1]; rw [hX0] at kcX0; have BWX0 := Lib.hid (BW.out.alloc BW.out.size (.cells #[.slice a0 c.voters.length c0, .slice a1 c.learners.length c1] 25)); rw [hX0] at BWX0; have HRCX0 := Lib.hid (RdL.same (Same.alloc _ w (.cells #[.slice a0 c.voters.length c0, .slice a1 c.learners.length c1] 25)) HRC.out); rw [hX0] at HRCX0; have zX0 : w.heap.size + 1 ≤ X0.heap.size := (by rw [← hX0] <;> simp); clear hX0
    obtain ⟨q0, q1⟩ := box2 kcX0
    go_wp2_with fail
    refine (largeC_any _ c X0 _ HRCX0.out).mono ?_
    rw [HL.out]
    rintro e w1 ⟨rfl, P1⟩
    have B1 := Lib.hid (BWX0.out.trans (P1.mono BWX0.out.size))
    clear P1
    go_wp2_with fail
    go_ret
    exact ⟨rfl, B1.out⟩
  have HL := Lib.hid hl
  have hsm := small_c hl
  have HSM := Lib.hid (show SmallC c from ⟨by omega, by omega⟩)
  clear hl
  by_cases hn : (1000 : Int) < (n : Int)
  · go_enter Try.func3, Try.ntmps3
    go_upto_region 1 with fail
    obtain ⟨X0, hX0⟩ : ∃ W : World, w.alloc (.cells #[.slice a0 c.voters.length c0, .slice a1 c.learners.length c1] 25) = W := ⟨_, rfl⟩; rw [hX0]; have kcX0 := Blk.new w 25 #[.slice a0 c.voters.length c0, .slice a1 c.learners.length c1]; rw [hX0] at kcX0; have BWX0 := Lib.hid (BW.out.alloc BW.out.size (.cells #[.slice a0 c.voters.length c0, .slice a1 c.learners.length c1] 25)); rw [hX0] at BWX0; have HRCX0 := Lib.hid (RdL.same (Same.alloc _ w (.cells #[.slice a0 c.voters.length c0, .slice a1 c.learners.length c1] 25)) HRC.out); rw [hX0] at HRCX0; have zX0 : w.heap.size + 1 ≤ X0.heap.size := (by rw [← hX0] <;> simp); clear hX0
    obtain ⟨q0, q1⟩ := box2 kcX0
    go_wp2_with fail
    refine (largeC_any _ c X0 _ HRCX0.out).mono ?_
    rw [HL.out]
    rintro e w1 ⟨rfl, P1⟩
    have B1 := Lib.hid (BWX0.out.trans (P1.mono BWX0.out.size))
    clear P1
    go_wp2_with fail
    go_ret
    exact ⟨rfl, B1.out⟩
  go_enter Try.func3, Try.ntmps3
  go_upto_region 1 with fail
  obtain ⟨X0, hX0⟩ : ∃ W : World, w.alloc (.cells #[.slice a0 c.voters.length c0, .slice a1 c.learners.length c1] 25) = W := ⟨_, rfl⟩; rw [hX0]; have kcX0 := Blk.new w 25 #[.slice a0 c.voters.length c0, .slice a1 c.learners.length c1]; rw [hX0] at kcX0; have BWX0 := Lib.hid (BW.out.alloc BW.out.size (.cells #[.slice a0 c.voters.length c0, .slice a1 c.learners.length c1] 25)); rw [hX0] at BWX0; have HRCX0 := Lib.hid (RdL.same (Same.alloc _ w (.cells #[.slice a0 c.voters.length c0, .slice a1 c.learners.length c1] 25)) HRC.out); rw [hX0] at HRCX0; have HYX0 := Lib.hid (HY.out.same (Same.alloc _ w (.cells #[.slice a0 c.voters.length c0, .slice a1 c.learners.length c1] 25))); rw [hX0] at HYX0; have zX0 : w.heap.size + 1 ≤ X0.heap.size := (by rw [← hX0] <;> simp); clear hX0
  obtain ⟨q0, q1⟩ := box2 kcX0
  go_wp2_with fail
  refine (largeC_any _ c X0 _ HRCX0.out).mono ?_
  rw [HL.out]
  rintro e w1 ⟨rfl, P1⟩
  have k1 := kcX0.next P1
  have B1 := Lib.hid (BWX0.out.trans (P1.mono BWX0.out.size))
  have R1 := Lib.hid (RdL.same (Same.below P1) HRCX0.out)
  have Y1 := Lib.hid (HYX0.out.same (Same.below P1))
  have z1 := P1.size
  clear P1 q0 q1
  obtain ⟨q0, q1⟩ := box2 k1
  go_wp2_with fail
  have hsd : RdL w1 (All w) Snap.ty [.int .i64 0, .int .i64 0, .slice a0 c.voters.length c0, .slice a1 c.learners.length c1, .string zB] (snapOf c).enc := by
    obtain ⟨x0, y0, x1, y1, e, s0, s1⟩ := Config.opens R1.out
    simp only [List.cons.injEq, Value.slice.injEq, true_and, and_true] at e
    obtain ⟨⟨rfl, rfl⟩, rfl, rfl⟩ := e
    exact snapOf_rd s0 s1
  refine (snap_any _ (snapOf c) w1 _ hsd HSM.out.1 HSM.out.2).mono ?_
  rintro e w2 ⟨vo, rfl, ro, P2⟩
  obtain ⟨o0, d0, o1, d1, rfl, g0, g1, s0, s1, g4⟩ := Snap.opens ro
  have RO := Lib.hid (RdL.mono (T := fun b => b < w2.heap.size) (fun b hb _ => hb) (show RdL w2 (fun b => w1.heap.size ≤ b) Config.ty [.slice o0 c.voters.length d0, .slice o1 c.learners.length d1] c.enc from Config.shuts c s0 s1))
  have k2 := k1.next P2
  have B2 := Lib.hid (B1.out.trans (P2.mono B1.out.size))
  have R2 := Lib.hid (RdL.same (Same.below P2) R1.out)
  have Y2 := Lib.hid (Rd.same Y1.out (Same.below P2))
  have z2 := P2.size
  have hf1 := fun W : World => HFL.out o0 c.voters.length d0 o1 c.learners.length d1 0 0 zB W
  simp only [show (snapOf c).config = c from rfl, show (snapOf c).index = 0 from rfl, show (snapOf c).term = 0 from rfl, show (snapOf c).data = zB from rfl]
  clear P2 hsd ro s0 s1 g0 g1 g4 q0 q1
  go_upto_region 4 with fail
  obtain ⟨X1, hX1⟩ : ∃ W : World, w2.alloc (.cells #[.slice o0 c.voters.length d0, .slice o1 c.learners.length d1] 25) = W := ⟨_, rfl⟩; rw [hX1]; have koX1 := Blk.new w2 25 #[.slice o0 c.voters.length d0, .slice o1 c.learners.length d1]; rw [hX1] at koX1; have k2X1 := k2.alloc (.cells #[.slice o0 c.voters.length d0, .slice o1 c.learners.length d1] 25); rw [hX1] at k2X1; have B2X1 := Lib.hid (B2.out.alloc B2.out.size (.cells #[.slice o0 c.voters.length d0, .slice o1 c.learners.length d1] 25)); rw [hX1] at B2X1; have ROX1 := Lib.hid (RdL.same (Same.alloc _ w2 (.cells #[.slice o0 c.voters.length d0, .slice o1 c.learners.length d1] 25)) RO.out); rw [hX1] at ROX1; have R2X1 := Lib.hid (RdL.same (Same.alloc _ w2 (.cells #[.slice o0 c.voters.length d0, .slice o1 c.learners.length d1] 25)) R2.out); rw [hX1] at R2X1; have Y2X1 := Lib.hid (Y2.out.same (Same.alloc _ w2 (.cells #[.slice o0 c.voters.length d0, .slice o1 c.learners.length d1] 25))); rw [hX1] at Y2X1; have zX1 : w2.heap.size + 1 ≤ X1.heap.size := (by rw [← hX1] <;> simp); clear hX1
  clear hf1
  obtain ⟨q0, q1⟩ := box2 k2X1
  go_wp2_with fail
  refine (mcheck_any _ c X1 _ R2X1.out HSM.out).mono ?_
  rintro e w3 ⟨rfl, P3⟩
  have k3 := k2X1.next P3
  have o3 := koX1.next P3
  have B3 := Lib.hid (B2X1.out.trans (P3.mono B2X1.out.size))
  have R3 := Lib.hid (RdL.same (Same.below P3) R2X1.out)
  have RO3 := Lib.hid (RdL.same (Same.below P3) ROX1.out)
  have Y3 := Lib.hid (Rd.same Y2X1.out (Same.below P3))
  have z3 := P3.size
  clear P3 q0 q1
  obtain ⟨q0, q1⟩ := box2 k3
  go_wp2_with fail
  refine (mall_any _ c w3 _ R3.out HSM.out).mono ?_
  rintro e w4 ⟨vl, rfl, ol, P4⟩
  have hbl : ∀ x ∈ allL c, -9223372036854775808 ≤ x ∧ x ≤ 9223372036854775807 := by
    obtain ⟨x0, y0, x1, y1, e, s0, s1⟩ := Config.opens R3.out
    unfold allL
    split
    · exact bothL_bd (SlI.i64 s0) (SlI.i64 s1)
    · intro x hx; cases hx
  have HBL := Lib.hid hbl
  obtain ⟨al, cl, rfl, hsl⟩ := ol.sl hbl
  have OL := Lib.hid ol
  have hml := hsl.mx
  have k4 := k3.next P4
  have o4 := o3.next P4
  have B4 := Lib.hid (B3.out.trans (P4.mono B3.out.size))
  have R4 := Lib.hid (RdL.same (Same.below P4) R3.out)
  have RO4 := Lib.hid (RdL.same (Same.below P4) RO3.out)
  have Y4 := Lib.hid (Rd.same Y3.out (Same.below P4))
  have z4 := P4.size
  have HSL := Lib.hid hsl
  clear P4 q0 q1 hbl ol hsl
  obtain ⟨q0, q1⟩ := box2 o4
  go_wp2_with fail
  refine (rall_any _ c w4 _ RO4.out HSM.out).mono ?_
  rintro e w5 ⟨vr, rfl, or', P5⟩
  obtain ⟨ar, cr, rfl, hsr⟩ := or'.sl HBL.out
  have k5 := k4.next P5
  have o5 := o4.next P5
  have B5 := Lib.hid (B4.out.trans (P5.mono B4.out.size))
  have R5 := Lib.hid (RdL.same (Same.below P5) R4.out)
  have RO5 := Lib.hid (RdL.same (Same.below P5) RO4.out)
  have Y5 := Lib.hid (Rd.same Y4.out (Same.below P5))
  have OL5 := Lib.hid (OL.out.next P5)
  have z5 := P5.size
  have HIN := Lib.hid (ints_any al ar _ _ cl cr (allL c) (allL c) w5 (HSL.out.below P5) hsr)
  clear P5 q0 q1 or' hsr
  go_wp2_with fail
  refine HIN.out.mono ?_
  rw [show eqB (allL c) (allL c) = true from by simp [eqB]]
  rintro e w6 ⟨rfl, q, rfl⟩
  generalize hN : (allL c).length = N at *
  have HN := Lib.hid hN
  have k6 : Blk (w5.drewN q) w.heap.size 25 _ := k5
  have o6 : Blk (w5.drewN q) w2.heap.size 25 _ := o5
  have D : Below w5.heap.size w5 (w5.drewN q) := bdrewN (Below.refl _ _) _
  have B6 := Lib.hid (B5.out.trans (D.mono B5.out.size))
  have R6 := Lib.hid (RdL.same (Same.below D) R5.out)
  have RO6 := Lib.hid (RdL.same (Same.below D) RO5.out)
  have Y6 := Lib.hid (Rd.same Y5.out (Same.below D))
  have OL6 := Lib.hid (OL5.out.drewN q)
  have z6 : w5.heap.size ≤ (w5.drewN q).heap.size := Nat.le_refl _
  clear D hN
  generalize w5.drewN q = w6 at *
  clear k5 o5 k4 o4 k3 o3
  go_wp2_with fail
  go_loopw [11] (fun i wr => ∃ k : Nat, ∃ l' : List Int, k ≤ N ∧ i = .int .i64 k ∧ OwnI w3.heap.size wr (.slice al N cl) l' ∧ w6.grownBy wr (Value.ownBlock (.slice al N cl))) (fun i _ => N - (intOf i).toNat)
  case atStart => exact ⟨0, _, Nat.zero_le _, rfl, OL6.out, World.grownBy.refl _ _⟩
  case round =>
    obtain ⟨k, l', hk, rfl, hown, hgrow⟩ := hrel
    by_cases hlt : k < N
    · have k1 : (k : Int) < (N : Int) := by omega
      obtain ⟨g, rfl, hbg, hcell, hfz, hset⟩ := hown.store hlt 77
      have HS := Lib.hid hset
      have HG := Lib.hid hgrow
      clear hset hgrow hown
      go_wp2
      go_roundw
      case rel => exact ⟨k + 1, _, by omega, by go_num, HS.out, grownBy_set' HG.out rfl _ _⟩
      case measure => simp [intOf]; omega
    · have k1' : ¬ (k : Int) < (N : Int) := by omega
      have hob : ∀ b, (Value.slice al N cl).ownBlock = some b → w3.heap.size ≤ b := fun b e => (World.ownsRow.lt hown b e).1
      have k7 := k6.grown hgrow (fun e => by have := hob _ e.symm; omega)
      have o7 := o6.grown hgrow (fun e => by have := hob _ e.symm; omega)
      have B7 := Lib.hid (B6.out.grown hgrow B6.out.size (fun b e => by have := hob b e; have := B3.out.size; omega))
      have R7 := Lib.hid (RdL.same (Same.of_grown hgrow (fun b hb e => by have h1 : b < w.heap.size := hb; have := hob b e.symm; have := B3.out.size; omega)) R6.out)
      have RO7 := Lib.hid (RdL.mono (T := fun _ => True) (fun _ _ _ => trivial) (RdL.same (Same.of_grown hgrow (fun b hb e => by have h1 : b < w2.heap.size := hb; have := hob b e.symm; omega)) RO6.out))
      have Y7 := Lib.hid (Rd.same Y6.out (Same.of_grown hgrow (fun b hb e => by have h1 : b < w.heap.size := hb; have := hob b e.symm; have := B3.out.size; omega)))
      have z7 := hgrow.size
      clear hown hgrow hob k6 o6 k2X1
      obtain ⟨q0, q1⟩ := box2 o7
      go_wp2_with fail
      refine (rmay_any _ c wr _ RO7.out).mono ?_
      rintro e w8 ⟨rfl, P8⟩
      have k8 := k7.next P8
      have o8 := o7.next P8
      have B8 := Lib.hid (B7.out.trans (P8.mono B7.out.size))
      have R8 := Lib.hid (RdL.same (Same.below P8) R7.out)
      have RO8 := Lib.hid (RdL.same (Same.below P8) RO7.out)
      have Y8 := Lib.hid (Rd.same Y7.out (Same.below P8))
      clear P8 q0 q1
      have HC1 := Lib.hid (fun W (hb : Below w8.heap.size w8 W) => mreached_any _ c a n m ys W _ _ (RdL.same (Same.below hb) R8.out) HSM.out (Rd.same Y8.out (Same.below hb)))
      have HC2 := Lib.hid (fun W (hb : Below w8.heap.size w8 W) => rmreached_any _ c a n m ys W _ _ (RdL.same (Same.below hb) RO8.out) (Rd.same Y8.out (Same.below hb)))
      have HC3 := Lib.hid (fun W (hb : Below w8.heap.size w8 W) => mvoter_any _ c v W _ (RdL.same (Same.below hb) R8.out) HSM.out)
      have HC4 := Lib.hid (fun W (hb : Below w8.heap.size w8 W) => rvoter_any _ c v W _ (RdL.same (Same.below hb) RO8.out))
      have HC5 := Lib.hid (fun W (hb : Below w8.heap.size w8 W) => configs_any _ _ c c W _ _ (RdL.same (Same.below hb) R8.out) (RdL.same (Same.below hb) RO8.out))
      have HCE := Lib.hid (eqC_self c)
      have hS0 : w8.cell? ⟨w.heap.size, 0, none⟩ = some (.slice a0 c.voters.length c0) ∧ w8.cell? ⟨w.heap.size, 1, none⟩ = some (.slice a1 c.learners.length c1) ∧ w8.cell? ⟨w2.heap.size, 0, none⟩ = some (.slice o0 c.voters.length d0) ∧ w8.cell? ⟨w2.heap.size, 1, none⟩ = some (.slice o1 c.learners.length d1) ∧ Below w8.heap.size w8 w8 := ⟨(box2 k8).1, (box2 k8).2, (box2 o8).1, (box2 o8).2, Below.refl _ _⟩
      clear k8 o8 k7 o7
      cases hm : mayB c
      all_goals cases hrb : mreachB c ys
      all_goals cases hvb : voterB c v
      all_goals
        have HM := Lib.hid hm
        have HRB := Lib.hid hrb
        have HVB := Lib.hid hvb
        clear hm hrb hvb
        simp only [errM_t, errM_f]
        go_wp2_with fail
        go_region_held3 (fun W => W.cell? ⟨w.heap.size, 0, none⟩ = some (.slice a0 c.voters.length c0) ∧ W.cell? ⟨w.heap.size, 1, none⟩ = some (.slice a1 c.learners.length c1) ∧ W.cell? ⟨w2.heap.size, 0, none⟩ = some (.slice o0 c.voters.length d0) ∧ W.cell? ⟨w2.heap.size, 1, none⟩ = some (.slice o1 c.learners.length d1) ∧ Below w8.heap.size w8 W) (first | exact keepC (by assumption) (by assumption) | exact keepCD (by assumption)) (first | (go_at_call 14; refine (masks_any _).mono ?_; rintro e wa ⟨rfl, PA⟩) | (go_at_call 15; refine Calls.mono (HC1.out _ ?_) ?_; exact of5 (by assumption); rw [HRB.out]; rintro e wa ⟨rfl, PA⟩) | (go_at_call 16; refine Calls.mono (HC2.out _ ?_) ?_; exact of5 (by assumption); rw [HRB.out]; rintro e wa ⟨rfl, PA⟩) | (go_at_call 17; refine Calls.mono (HC3.out _ ?_) ?_; exact of5 (by assumption); rw [HVB.out]; rintro e wa ⟨rfl, PA⟩) | (go_at_call 18; refine Calls.mono (HC4.out _ ?_) ?_; exact of5 (by assumption); rw [HVB.out]; rintro e wa ⟨rfl, PA⟩) | (go_at_call 19; refine Calls.mono (HC5.out _ ?_) ?_; exact of5 (by assumption); rw [HCE.out]; rintro e wa ⟨rfl, PA⟩))
        all_goals
          go_wp2_with fail
          go_ret
          exact ⟨rfl, B8.out.trans (Below.mono (of5 (by assumption)) B8.out.size)⟩
end Go.Proofs.Ytejahcpnbkegfaa
