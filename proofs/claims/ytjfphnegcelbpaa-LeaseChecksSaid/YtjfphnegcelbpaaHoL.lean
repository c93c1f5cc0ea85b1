/- Contract of the reference's Same. Condition: two structs that read as holders. -/
import Derived.Test.YtjfphnegcelbpaaHoA
import Derived.Test.YtjfphnegcelbpaaPuts
namespace Go.Proofs.Ytjfphnegcelbpaa
open Go.RowKit
set_option linter.unusedVariables false
set_option linter.unusedSimpArgs false
def eqH (a b : Holder) : Bool := decide (a = b)
theorem eqH_head (a b : Holder) : eqH a b = ((a.node == b.node) && (a.now == b.now) && (a.ask == b.ask) && (a.seq == b.seq) && (a.at_ == b.at_) && decide (a.sent = b.sent)) := by
  unfold eqH
  rw [Bool.eq_iff_iff]
  simp only [decide_eq_true_eq, Bool.and_eq_true, beq_iff_eq]
  cases a; cases b
  simp only [Holder.mk.injEq]
  constructor
  · rintro ⟨h1, h2, h3, h4, h5, h6⟩; exact ⟨⟨⟨⟨⟨h1, h2⟩, h3⟩, h5⟩, h6⟩, h4⟩
  · rintro ⟨⟨⟨⟨⟨h1, h2⟩, h3⟩, h5⟩, h6⟩, h4⟩; exact ⟨h1, h2, h3, h4, h5, h6⟩
def headE (a b : Holder) : Bool := (a.node == b.node) && (a.now == b.now) && (a.ask == b.ask) && (a.seq == b.seq) && (a.at_ == b.at_) && ((a.sent.length : Int) == (b.sent.length : Int))
theorem eqH_no {a b : Holder} (h : headE a b = false) : eqH a b = false := by
  cases he : eqH a b
  · rfl
  · have e : a = b := of_decide_eq_true he
    subst e
    simp [headE] at h
theorem eqH_sent {a b : Holder} (h : headE a b = true) : eqH a b = decide (a.sent = b.sent) := by
  rw [eqH_head]
  unfold headE at h
  simp only [Bool.and_eq_true, beq_iff_eq] at h
  obtain ⟨⟨⟨⟨⟨h1, h2⟩, h3⟩, h4⟩, h5⟩, h6⟩ := h
  rw [h1, h2, h3, h4, h5]; simp
theorem sent_ext {l m : List Sent} (hl : l.length = m.length) (h : ∀ i, i < l.length → l.getD i default = m.getD i default) : l = m := by
  apply List.ext_getElem hl
  intro i h1 h2
  have := h i h1
  simpa [List.getD, h1, h2] using this
set_option maxRecDepth 20000 in
set_option maxHeartbeats 4000000 in
theorem hsame_any (vs us : List Value) (x y : Holder) (w : World) (S T : Nat → Prop) (h : RdL w S Holder.ty vs x.enc) (h' : RdL w T Holder.ty us y.enc) :
    Calls Try.prog 30 #[.agg vs.toArray, .agg us.toArray] w (TPost w (eqH x y)) := by
  obtain ⟨a3, c3, rfl, b0, b1, b2, s3, b4, b5⟩ := Holder.opens h
  obtain ⟨a3', c3', rfl, b0', b1', b2', s3', b4', b5'⟩ := Holder.opens h'
  obtain ⟨w1, hw1⟩ : ∃ w1 : World, (w.alloc (.cells #[.int .i64 x.node, .int .i64 x.now, .int .i64 x.ask, .slice a3 (x.sent).length c3, .int .i64 x.seq, .int .i64 x.at_] 24)).alloc (.cells #[.int .i64 y.node, .int .i64 y.now, .int .i64 y.ask, .slice a3' y.sent.length c3', .int .i64 y.seq, .int .i64 y.at_] 24) = w1 := ⟨_, rfl⟩
  have hb0 : Blk w1 w.heap.size 24 #[.int .i64 x.node, .int .i64 x.now, .int .i64 x.ask, .slice a3 (x.sent).length c3, .int .i64 x.seq, .int .i64 x.at_] := by rw [← hw1]; exact (Blk.new _ _ _).alloc _
  have hb1 : Blk w1 (w.heap.size + 1) 24 #[.int .i64 y.node, .int .i64 y.now, .int .i64 y.ask, .slice a3' y.sent.length c3', .int .i64 y.seq, .int .i64 y.at_] := by rw [← hw1]; exact Blk.newAt _ _ _ _ (by simp)
  have B0 : Below w.heap.size w w1 := by rw [← hw1]; exact ((Below.refl _ w).alloc (Nat.le_refl _) _).alloc (by simp) _
  have H3 := Lib.hid (s3.same (Same.below B0))
  have H3' := Lib.hid (s3'.same (Same.below B0))
  have n3 := s3.bd.2.2.1
  have n3' := s3'.bd.2.2.1
  have HB0 := Lib.hid B0
  have Z1 := Lib.hid (show w1.heap.size = w.heap.size + 2 by rw [← hw1]; simp)
  have KB0 := Lib.hid hb0
  have KB1 := Lib.hid hb1
  clear h h' s3 s3' B0
  go_enter Try.func30, Try.ntmps30
  go_upto_region 1 with fail
  clear hw1
  generalize Value.agg #[.int .i64 x.node, .int .i64 x.now, .int .i64 x.ask, .slice a3 (x.sent).length c3, .int .i64 x.seq, .int .i64 x.at_] = v0
  generalize Value.agg #[.int .i64 y.node, .int .i64 y.now, .int .i64 y.ask, .slice a3' y.sent.length c3', .int .i64 y.seq, .int .i64 y.at_] = v1
  obtain ⟨q0, q1, q2, q3, q4, q5⟩ := box6 hb0
  obtain ⟨r0, r1, r2, r3, r4, r5⟩ := box6 hb1
  clear hb0 hb1
  go_cut [47] (fun s wx => s = .bool (!headE x y) ∧ w1 = wx)
  case first =>
    cases e0 : (x.node == y.node)
    · have n0 : (x.node != y.node) = true := by rw [bne, e0]; rfl
      go_wp2_with fail
      go_meet
      exact ⟨by unfold headE; simp [*], rfl⟩
    have n0 : (x.node != y.node) = false := by rw [bne, e0]; rfl
    cases e1 : (x.now == y.now)
    · have n1 : (x.now != y.now) = true := by rw [bne, e1]; rfl
      go_wp2_with fail
      go_meet
      exact ⟨by unfold headE; simp [*], rfl⟩
    have n1 : (x.now != y.now) = false := by rw [bne, e1]; rfl
    cases e2 : (x.ask == y.ask)
    · have n2 : (x.ask != y.ask) = true := by rw [bne, e2]; rfl
      go_wp2_with fail
      go_meet
      exact ⟨by unfold headE; simp [*], rfl⟩
    have n2 : (x.ask != y.ask) = false := by rw [bne, e2]; rfl
    cases e3 : (x.seq == y.seq)
    · have n3 : (x.seq != y.seq) = true := by rw [bne, e3]; rfl
      go_wp2_with fail
      go_meet
      exact ⟨by unfold headE; simp [*], rfl⟩
    have n3 : (x.seq != y.seq) = false := by rw [bne, e3]; rfl
    cases e4 : (x.at_ == y.at_)
    · have n4 : (x.at_ != y.at_) = true := by rw [bne, e4]; rfl
      go_wp2_with fail
      go_meet
      exact ⟨by unfold headE; simp [*], rfl⟩
    have n4 : (x.at_ != y.at_) = false := by rw [bne, e4]; rfl
    by_cases e5 : x.sent.length = y.sent.length
    · have n5 : ((x.sent.length : Int) == (y.sent.length : Int)) = true := by rw [beq_iff_eq]; omega
      have m5 : ((x.sent.length : Int) != (y.sent.length : Int)) = false := by rw [bne, n5]; rfl
      have E5 := Lib.hid e5
      clear e5
      go_wp2_with fail
      go_meet
      exact ⟨by unfold headE; simp [*], rfl⟩
    · have n5 : ((x.sent.length : Int) == (y.sent.length : Int)) = false := by rw [beq_eq_false_iff_ne]; omega
      have m5 : ((x.sent.length : Int) != (y.sent.length : Int)) = true := by rw [bne, n5]; rfl
      go_wp2_with fail
      go_meet
      exact ⟨by unfold headE; simp [*], rfl⟩
  case rest =>
    obtain ⟨rfl, rfl⟩ := hcut
    cases hh : headE x y
    · have HR := Lib.hid (eqH_no hh)
      clear hh
      go_wp2_with fail
      go_ret
      exact ⟨by rw [HR.out]; rfl, HB0.out⟩
    have HH := Lib.hid hh
    have HR := Lib.hid (eqH_sent hh)
    have hlen : x.sent.length = y.sent.length := by
      unfold headE at hh
      simp only [Bool.and_eq_true, beq_iff_eq] at hh
      omega
    have HL := Lib.hid hlen
    clear hh hlen
    go_wp2_with fail
    clear q0 q1 q2 q3 q4 q5 r0 r1 r2 r3 r4 r5
    go_loopw [5] (fun i wr => ∃ j : Nat, j ≤ x.sent.length ∧ i = .int .i64 j ∧ (∀ i, i < j → x.sent.getD i default = y.sent.getD i default) ∧ Below w1.heap.size w1 wr) (fun i _ => x.sent.length - (intOf i).toNat)
    case atStart => exact ⟨0, Nat.zero_le _, rfl, fun i hi => by omega, Below.refl _ _⟩
    case round =>
      obtain ⟨j, hj, rfl, hq, B1⟩ := hrel
      have HQ := Lib.hid hq
      have BB1 := Lib.hid B1
      have k0 := KB0.out.below B1 (by rw [Z1.out]; omega)
      have k1 := KB1.out.below B1 (by rw [Z1.out]; omega)
      obtain ⟨q0, q1, q2, q3, q4, q5⟩ := box6 k0
      obtain ⟨r0, r1, r2, r3, r4, r5⟩ := box6 k1
      clear hq B1 k0 k1
      by_cases hlt : j < x.sent.length
      · have hlt' : j < y.sent.length := by have := HL.out; omega
        obtain ⟨b, off, rfl⟩ := H3.out.addr (by omega)
        obtain ⟨_, _, e0, e1, g0, g1⟩ := Sent.row (H3.out.same (Same.below BB1.out)) hlt
        obtain ⟨b', off', rfl⟩ := H3'.out.addr (by omega)
        obtain ⟨_, _, e0', e1', g0', g1'⟩ := Sent.row (H3'.out.same (Same.below BB1.out)) hlt'
        have HE := Lib.hid (show x.sent.getD j default = x.sent.getD j default from rfl)
        generalize hX : x.sent.getD j default = ex at *
        generalize hY : y.sent.getD j default = ey at *
        have HX := Lib.hid hX
        have HY := Lib.hid hY
        have kj0 : (0 : Int) ≤ (j : Int) := by omega
        have kj1 : (j : Int) < (x.sent.length : Int) := by omega
        have kj2 : (j : Int) < (y.sent.length : Int) := by omega
        clear hX hY HE
        by_cases hxy : ex = ey
        · have HXY := Lib.hid hxy
          go_wp2_with fail
          go_quiet (fail)
          go_wp2_with fail
          go_roundw
          case rel => exact ⟨j + 1, by omega, by go_num, fun i hi => by
            by_cases h : i = j
            · subst h; rw [HX.out, HY.out]; exact HXY.out
            · exact HQ.out i (by omega), bdrewN BB1.out _⟩
          case measure => simp [intOf]; omega
        · have HT := Lib.hid (show decide (x.sent = y.sent) = false from decide_eq_false fun e => hxy (by rw [← HX.out, ← HY.out, e]))
          have hd : ((ex.ask == ey.ask) = false) ∨ ((ex.ask == ey.ask) = true ∧ (ex.at_ == ey.at_) = false) := by
            by_cases h1 : ex.ask = ey.ask
            · right
              refine ⟨by simpa using h1, ?_⟩
              rw [beq_eq_false_iff_ne]; intro h2; exact hxy (by cases ex; cases ey; simp_all)
            · left; rw [beq_eq_false_iff_ne]; exact h1
          clear hxy
          rcases hd with hd | ⟨hd, hd2⟩
          all_goals
            go_wp2_with fail
            go_quiet (fail)
            go_wp2_with fail
            go_ret
            exact ⟨by rw [HR.out, HT.out]; rfl, bdrewN (HB0.out.trans (BB1.out.mono HB0.out.size)) _⟩
      · have hjn : j = x.sent.length := by omega
        have HT := Lib.hid (show decide (x.sent = y.sent) = true from decide_eq_true (sent_ext HL.out (fun i hi => HQ.out i (by omega))))
        have k1 : ¬ (j : Int) < (x.sent.length : Int) := by omega
        clear hjn
        go_wp2_with fail
        go_ret
        exact ⟨by rw [HR.out, HT.out]; rfl, HB0.out.trans (BB1.out.mono HB0.out.size)⟩
end Go.Proofs.Ytjfphnegcelbpaa
