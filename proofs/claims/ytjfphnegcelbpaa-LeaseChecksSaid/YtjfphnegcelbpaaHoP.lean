/- The law's same, saying just which blocks it writes. Condition: structs that read as holders, what came out apart from what was handed in. -/
import Derived.Test.YtjfphnegcelbpaaHoO
namespace Go.Proofs.Ytjfphnegcelbpaa
open Go.RowKit
set_option linter.unusedVariables false
set_option linter.unusedSimpArgs false
/-- what lay in blocks outside of B is as it was -/
structure Apart (B : Nat → Prop) (w w' : World) : Prop where
  os : w'.os = w.os
  tape : w'.tape = w.tape
  output : w'.output = w.output
  size : w.heap.size ≤ w'.heap.size
  block : ∀ b, b < w.heap.size → ¬ B b → w'.heap[b]? = w.heap[b]?
theorem Apart.refl (B : Nat → Prop) (w : World) : Apart B w w := ⟨rfl, rfl, rfl, Nat.le_refl _, fun _ _ _ => rfl⟩
theorem Apart.trans {B : Nat → Prop} {a b c : World} (h : Apart B a b) (k : Apart B b c) : Apart B a c :=
  ⟨k.os.trans h.os, k.tape.trans h.tape, k.output.trans h.output, Nat.le_trans h.size k.size, fun x hx hb => (k.block x (Nat.lt_of_lt_of_le hx h.size) hb).trans (h.block x hx hb)⟩
theorem Apart.of_below {B : Nat → Prop} {w w' : World} (h : Below w.heap.size w w') : Apart B w w' := ⟨h.os, h.tape, h.output, h.size, fun b hb _ => h.block b hb⟩
theorem Apart.setCell {B : Nat → Prop} {w w' : World} (h : Apart B w w') {p : Addr} (hp : B p.block) (v : Value) : Apart B w (w'.setCell p v) :=
  ⟨h.os, h.tape, h.output, by have := h.size; simpa [World.setCell] using this, fun b hb hn => (Below.heap_setCell _ _ _ _ (fun e => hn (by rw [e]; exact hp))).trans (h.block b hb hn)⟩
theorem Apart.same {B : Nat → Prop} {w w' : World} (h : Apart B w w') : Same (fun b => ¬ B b ∧ b < w.heap.size) w w' := ⟨h.size, fun b hb _ => h.block b hb.2 hb.1⟩
theorem Apart.below {B : Nat → Prop} {w w' : World} {n : Nat} (h : Apart B w w') (hB : ∀ b, B b → n ≤ b) (hn : n ≤ w.heap.size) : Below n w w' := ⟨h.os, h.tape, h.output, h.size, fun b hb => h.block b (by omega) (fun hh => by have := hB b hh; omega)⟩
theorem Blk.apart {B : Nat → Prop} {w w' : World} {g : Nat} {t : TypeId} {cs : Array Value} (h : Blk w g t cs) (hb : Apart B w w') (hg : ¬ B g) : Blk w' g t cs := (hb.block g h.lt hg).trans h
/-- a holder without signs reads so everywhere -/
theorem nosent_rd {w w' : World} {S T : Nat → Prop} {vs : List Value} {x : Holder} (h : RdL w S Holder.ty vs x.enc) (hx : x.sent = []) : RdL w' T Holder.ty vs x.enc := by
  obtain ⟨a, c, rfl, b0, b1, b2, s, b4, b5⟩ := Holder.opens h
  obtain ⟨_, hm, _, hn⟩ := s.bd
  have hl : x.sent.length = 0 := by rw [hx]; rfl
  refine Holder.shuts x b0 b1 b2 ?_ b4 b5
  rw [hl, hx]
  exact .emp (fun e => (hn e).2) (by unfold maxLen; omega)
set_option maxHeartbeats 4000000 in
theorem lsameS_any (xs ws hs os : List Value) (x h : Holder) (er : Int) (w : World) (B S : Nat → Prop) (hB : ∀ b, B b → b < w.heap.size) (rx : RdL w B Holder.ty xs x.enc) (rw' : RdL w S Holder.ty ws x.enc)
    (rh : RdL w (fun b => ¬ B b ∧ b < w.heap.size) Holder.ty hs h.enc) (ro : RdL w (fun b => ¬ B b ∧ b < w.heap.size) Holder.ty os h.enc) :
    Calls Try.prog 15 #[.agg xs.toArray, .int .i64 er, .agg ws.toArray, .int .i64 er, .agg hs.toArray, .agg os.toArray] w (fun e w' => e = .returned (.bool true) ∧ Apart B w w') := by
  have hs1 := fun W (hb : Below w.heap.size w W) => hsame_any xs ws x x W _ _ (RdL.same (Same.below hb) rx) (RdL.same (Same.below hb) rw')
  have hs2 := fun W (hb : Apart B w W) => hsame_any hs os h h W _ _ (RdL.same hb.same rh) (RdL.same hb.same ro)
  rw [eqH_self] at hs1 hs2
  have HS1 := Lib.hid hs1
  have HS2 := Lib.hid hs2
  obtain ⟨a1, c1, rfl, _, _, _, s1, _, _⟩ := Holder.opens rx
  obtain ⟨a2, c2, rfl, _, _, _, _, _, _⟩ := Holder.opens rw'
  obtain ⟨a3, c3, rfl, _, _, _, _, _, _⟩ := Holder.opens rh
  obtain ⟨a4, c4, rfl, _, _, _, _, _, _⟩ := Holder.opens ro
  have hlt1 : ∀ b off, a1 = some ⟨b, off, none⟩ → 0 < x.sent.length → b < w.heap.size := fun b off e hp => by
    obtain ⟨b', off', e', _, hb, _⟩ := s1.rowAt hp
    rw [e] at e'; cases e'; exact hb
  have HLT := Lib.hid hlt1
  have n1 := s1.bd.2.2.1
  have HX := Lib.hid s1
  clear rx rw' rh ro s1 hs1 hs2 hlt1
  obtain ⟨w1, hw1⟩ : ∃ w1 : World, (((w.alloc (.cells #[.int .i64 x.node, .int .i64 x.now, .int .i64 x.ask, .slice a1 x.sent.length c1, .int .i64 x.seq, .int .i64 x.at_] 24)).alloc (.cells #[.int .i64 x.node, .int .i64 x.now, .int .i64 x.ask, .slice a2 x.sent.length c2, .int .i64 x.seq, .int .i64 x.at_] 24)).alloc (.cells #[.int .i64 h.node, .int .i64 h.now, .int .i64 h.ask, .slice a3 h.sent.length c3, .int .i64 h.seq, .int .i64 h.at_] 24)).alloc (.cells #[.int .i64 h.node, .int .i64 h.now, .int .i64 h.ask, .slice a4 h.sent.length c4, .int .i64 h.seq, .int .i64 h.at_] 24) = w1 := ⟨_, rfl⟩
  have k1 : Blk w1 w.heap.size 24 #[.int .i64 x.node, .int .i64 x.now, .int .i64 x.ask, .slice a1 x.sent.length c1, .int .i64 x.seq, .int .i64 x.at_] := by rw [← hw1]; exact (((Blk.new _ _ _).alloc _).alloc _).alloc _
  have k2 : Blk w1 (w.heap.size + 1) 24 #[.int .i64 x.node, .int .i64 x.now, .int .i64 x.ask, .slice a2 x.sent.length c2, .int .i64 x.seq, .int .i64 x.at_] := by rw [← hw1]; exact ((Blk.newAt _ _ _ _ (by simp)).alloc _).alloc _
  have k3 : Blk w1 (w.heap.size + 1 + 1) 24 #[.int .i64 h.node, .int .i64 h.now, .int .i64 h.ask, .slice a3 h.sent.length c3, .int .i64 h.seq, .int .i64 h.at_] := by rw [← hw1]; exact (Blk.newAt _ _ _ _ (by simp)).alloc _
  have k4 : Blk w1 (w.heap.size + 1 + 1 + 1) 24 #[.int .i64 h.node, .int .i64 h.now, .int .i64 h.ask, .slice a4 h.sent.length c4, .int .i64 h.seq, .int .i64 h.at_] := by rw [← hw1]; exact Blk.newAt _ _ _ _ (by simp)
  have B1 : Below w.heap.size w w1 := by rw [← hw1]; exact ((((Below.refl _ w).alloc (Nat.le_refl _) _).alloc (by simp) _).alloc (by simp <;> omega) _).alloc (by simp <;> omega) _
  have z1 : w.heap.size + 4 ≤ w1.heap.size := by rw [← hw1]; simp
  have HB1 := Lib.hid B1
  clear B1
  go_enter Try.func15, Try.ntmps15
  go_upto_region 1 with fail
  clear hw1
  generalize Value.agg #[.int .i64 x.node, .int .i64 x.now, .int .i64 x.ask, .slice a1 x.sent.length c1, .int .i64 x.seq, .int .i64 x.at_] = v0
  obtain ⟨q0, q1, q2, q3, q4, q5⟩ := box6 k1
  obtain ⟨r0, r1, r2, r3, r4, r5⟩ := box6 k2
  go_wp2_with fail
  refine (HS1.out _ HB1.out).mono ?_
  rintro e w2 ⟨rfl, P2⟩
  have j1 := k1.below P2 (by omega)
  have j3 := k3.below P2 (by omega)
  have j4 := k4.below P2 (by omega)
  have z2 := P2.size
  have HX2 := Lib.hid ((HX.out.next HB1.out).next P2)
  have HB2 := Lib.hid (HB1.out.trans (P2.mono HB1.out.size))
  clear q0 q1 q2 q3 q4 q5 r0 r1 r2 r3 r4 r5 k1 k2 k3 k4 P2
  obtain ⟨q0, q1, q2, q3, q4, q5⟩ := box6 j1
  have J1 := Lib.hid j1
  have J3 := Lib.hid j3
  have J4 := Lib.hid j4
  clear j1 j3 j4
  go_wp2_with fail
  clear q0 q1 q2 q3 q4 q5
  go_loopw [14] (fun i wr => ∃ j : Nat, j ≤ x.sent.length ∧ i = .int .i64 j ∧ Keep w2 wr ∧ Blk wr w.heap.size 24 #[.int .i64 x.node, .int .i64 x.now, .int .i64 x.ask, .slice a1 x.sent.length c1, .int .i64 x.seq, .int .i64 x.at_] ∧ Apart B w2 wr ∧ w2.heap.size ≤ wr.heap.size ∧ (∀ b, w.heap.size ≤ b → b < w2.heap.size → wr.heap[b]? = w2.heap[b]?)) (fun i _ => x.sent.length - (intOf i).toNat)
  case atStart => exact ⟨0, Nat.zero_le _, rfl, Keep.refl _, J1.out, Apart.refl _ _, Nat.le_refl _, fun _ _ _ => rfl⟩
  case round =>
    obtain ⟨j, hj, rfl, hk, k1, hb, hz, hbl⟩ := hrel
    have HBL := Lib.hid hbl
    have HK := Lib.hid hk
    have HB := Lib.hid hb
    clear hbl
    obtain ⟨q0, q1, q2, q3, q4, q5⟩ := box6 k1
    by_cases hlt : j < x.sent.length
    · obtain ⟨b, off, rfl⟩ := HX.out.addr (by omega)
      have hbw := HLT.out b off rfl (by omega)
      obtain ⟨hS, hb1, e0, e1, g0, g1⟩ := Sent.row HX2.out hlt
      have t0 := HX2.out.thaw (j := 0) hlt (by decide)
      rw [show Sent.ty.length = 2 from rfl, Nat.add_zero] at t0
      obtain ⟨⟨v0', c0⟩, f0⟩ := hk.cell e0 t0
      have kj0 : (0 : Int) ≤ (j : Int) := by omega
      have kj1 : (j : Int) < (x.sent.length : Int) := by omega
      have HK2 := Lib.hid (hk.set e0 (by rintro ⟨_, _, _, e⟩; cases e) (.int .i64 77))
      have HB2' := Lib.hid (hb.setCell (p := ⟨b, off + j * 2, none⟩) hS (.int .i64 77))
      have K1 := Lib.hid (k1.far (p := ⟨b, off + j * 2, none⟩) (by show w.heap.size ≠ b; omega) (.int .i64 77))
      clear e0 e1 t0 k1 hk hb
      go_wp2_with fail
      go_roundw
      case rel => exact ⟨j + 1, by omega, by go_num, HK2.out, K1.out, HB2'.out, by simp [World.setCell]; exact hz, fun b' h1 h2 => (Below.heap_setCell _ _ _ _ (by show b' ≠ b; omega)).trans (HBL.out b' h1 h2)⟩
      case measure => simp [intOf]; omega
    · have k1' : ¬ (j : Int) < (x.sent.length : Int) := by omega
      have m3 : Blk wr (w.heap.size + 1 + 1) 24 _ := (HBL.out _ (by omega) (by omega)).trans J3.out
      have m4 : Blk wr (w.heap.size + 1 + 1 + 1) 24 _ := (HBL.out _ (by omega) (by omega)).trans J4.out
      obtain ⟨r0, r1, r2, r3, r4, r5⟩ := box6 m3
      obtain ⟨p0, p1, p2, p3, p4, p5⟩ := box6 m4
      have HBB := Lib.hid ((Apart.of_below HB2.out).trans hb)
      clear k1 hk hb m3 m4
      go_wp2_with fail
      refine (HS2.out _ HBB.out).mono ?_
      rintro e w5 ⟨rfl, P5⟩
      have HBF := Lib.hid (HBB.out.trans (Apart.of_below P5))
      clear q0 q1 q2 q3 q4 q5 r0 r1 r2 r3 r4 r5 p0 p1 p2 p3 p4 p5 P5
      go_wp2_with fail
      go_ret
      exact ⟨rfl, HBF.out⟩
end Go.Proofs.Ytjfphnegcelbpaa
