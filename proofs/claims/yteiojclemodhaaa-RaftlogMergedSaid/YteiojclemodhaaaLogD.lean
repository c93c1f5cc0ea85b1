/- The law's large. Condition: structs that read as a log and as entries. -/
import Derived.Test.YteiojclemodhaaaLogA
namespace Go.Proofs.Yteiojclemodhaaa
open Go.RowKit
set_option linter.unusedVariables false
set_option linter.unusedSimpArgs false
def sizeE (e : Entry) : Nat := e.config.voters.length + e.config.learners.length
def sumTo (l : List Entry) (j : Nat) : Nat := ((l.take j).map sizeE).sum
theorem sumTo_zero (l : List Entry) : sumTo l 0 = 0 := rfl
theorem sumTo_succ {l : List Entry} {j : Nat} (h : j < l.length) : sumTo l (j + 1) = sumTo l j + sizeE (l.getD j default) := by
  unfold sumTo
  rw [List.take_succ_eq_append_getElem h, List.map_append, List.sum_append]
  simp [List.getD, h]
theorem sumTo_le (l : List Entry) {i j : Nat} (h : i ≤ j) : sumTo l i ≤ sumTo l j := by
  unfold sumTo
  have : l.take j = l.take i ++ (l.take j).drop i := by
    conv => lhs; rw [← List.take_append_drop i (l.take j), List.take_take, Nat.min_eq_left h]
  rw [this, List.map_append, List.sum_append]
  omega
def baseK (k : Kept) (l : List Entry) : Nat := k.entries.length + l.length + k.snap.config.voters.length + k.snap.config.learners.length
def totalK (k : Kept) (l : List Entry) : Nat := baseK k l + sumTo k.entries k.entries.length + sumTo l l.length
def largeB (k : Kept) (l : List Entry) : Bool := decide (3000 < totalK k l)
theorem boxed_call {w w1 : World} {T : TypeId} {cs : Array Value} (B1 : Below (w.alloc (.cells cs T)).heap.size (w.alloc (.cells cs T)) w1) : Blk w1 w.heap.size T cs ∧ Below w.heap.size w w1 ∧ w.heap.size < w1.heap.size := by
  have z := B1.size
  simp only [World.size_alloc] at z
  exact ⟨(Blk.new w T cs).below B1 (by simp), ((Below.refl _ w).alloc (Nat.le_refl _) _).trans (B1.mono (by simp)), by omega⟩
set_option maxHeartbeats 2000000 in
theorem large_any (vs : List Value) (k : Kept) (al : Option Addr) (nl cl : Nat) (l : List Entry) (w : World) (S : Nat → Prop) (h : RdL w S Kept.ty vs k.enc) (hl : Sl w S Entry.ty al nl cl (l.map Entry.enc)) :
    Calls Try.prog 9 #[.agg vs.toArray, .slice al nl cl] w (TPost w (largeB k l)) := by
  obtain ⟨a4, c4, a5, c5, a7, c7, rfl, b0, b1, b2, b3, s4, s5, b6, s7⟩ := Kept.opens h
  have n7 := s7.bd.2.2.1
  have n4 := s4.bd.2.2.1
  have n5 := s5.bd.2.2.1
  have nb := hl.bd.2.2.1
  have nll := hl.len
  rw [List.length_map] at nll
  subst nll
  have H7 := Lib.hid s7
  have HL := Lib.hid hl
  have HB := Lib.hid (show baseK k l = k.entries.length + l.length + k.snap.config.voters.length + k.snap.config.learners.length from rfl)
  have hbase : baseK k l ≤ 70368744177664 := by unfold baseK; omega
  clear h s4 s5 s7 hl
  go_enter Try.func9, Try.ntmps9
  go_wp2_with fail
  obtain ⟨w1, hw1⟩ : ∃ w1 : World, w1 = w.alloc (.cells #[.int .i64 k.term, .int .i64 k.vote, .int .i64 k.snap.index, .int .i64 k.snap.term, .slice a4 (k.snap.config.voters).length c4, .slice a5 (k.snap.config.learners).length c5, .string k.snap.data, .slice a7 (k.entries).length c7] 30) := ⟨_, rfl⟩
  have B0 : Below w.heap.size w w1 := by rw [hw1]; exact (Below.refl _ _).alloc (Nat.le_refl _) _
  have z1 : w.heap.size < w1.heap.size := by rw [hw1]; simp
  have hc1 : Blk w1 w.heap.size 30 #[.int .i64 k.term, .int .i64 k.vote, .int .i64 k.snap.index, .int .i64 k.snap.term, .slice a4 (k.snap.config.voters).length c4, .slice a5 (k.snap.config.learners).length c5, .string k.snap.data, .slice a7 (k.entries).length c7] := by rw [hw1]; exact Blk.new _ _ _
  rw [← hw1]
  have C1 := Lib.hid hc1
  have BB0 := Lib.hid B0
  clear hw1 hc1 B0
  go_loopw [5, 6] (fun n i wr => ∃ j : Nat, j ≤ k.entries.length ∧ i = .int .i64 j ∧ n = .int .i64 ((baseK k l + sumTo k.entries j : Nat) : Int) ∧ baseK k l + sumTo k.entries j ≤ 70368744177664 ∧ Below w1.heap.size w1 wr) (fun n i _ => k.entries.length - (intOf i).toNat)
  case atStart => exact ⟨0, Nat.zero_le _, rfl, by rw [sumTo_zero, HB.out]; simp, by rw [sumTo_zero]; exact hbase, Below.refl _ _⟩
  case round =>
    obtain ⟨j, hj, rfl, e, hb1, B1⟩ := hrel
    generalize hs : baseK k l + sumTo k.entries j = s at *
    have HS := Lib.hid hs
    obtain rfl := e
    have BB1 := Lib.hid B1
    have HB1 := Lib.hid (C1.out.below B1 z1)
    have zr : w.heap.size < wr.heap.size := by have := B1.size; omega
    have q7 : wr.cell? ⟨w.heap.size, 7, none⟩ = some (.slice a7 k.entries.length c7) := HB1.out.cell 7
    have H71 := Lib.hid ((H7.out.same (Same.below BB0.out)).same (Same.below B1))
    clear hs B1
    by_cases hlt : j < k.entries.length
    · by_cases hle : s ≤ 3000
      · obtain ⟨b, off, rfl⟩ := H71.out.addr (by omega)
        obtain ⟨hS, hb, a3e, c3e, a4e, c4e, e0, e1, e2, e3, e4, e5, f0, f1, f2, f3, f4, f5⟩ := Entry.row H71.out hlt
        have m3 := f3.bd.2.2.1
        have m4 := f4.bd.2.2.1
        clear e0 e1 e2 e5 f3 f4
        generalize hE : k.entries.getD j default = e at *
        have HJ := Lib.hid hE
        clear hE
        have j0 : (0 : Int) ≤ (j : Int) := by omega
        have j1 : (j : Int) < (k.entries.length : Int) := by omega
        have s1 : (s : Int) ≤ 3000 := by omega
        go_wp2_with fail
        go_quiet (fail)
        go_wp2_with fail
        go_roundw
        case rel =>
          have hh : baseK k l + sumTo k.entries (j + 1) = s + (e.config.voters.length + e.config.learners.length) := by
            rw [sumTo_succ hlt, HJ.out, ← HS.out]; unfold sizeE; omega
          refine ⟨j + 1, by omega, by go_num, ?_, by rw [hh]; omega, bdrewN BB1.out _⟩
          rw [hh]
          go_num
        case measure => simp [intOf]; omega
      · have s1 : ¬ (s : Int) ≤ 3000 := by omega
        have j1 : (j : Int) < (k.entries.length : Int) := by omega
        have HT := Lib.hid (show largeB k l = true from by
          unfold largeB totalK
          have := sumTo_le k.entries (show j ≤ k.entries.length by omega)
          have := HS.out
          rw [decide_eq_true_iff]; omega)
        go_wp2_with fail
        go_loopw [5, 7] (fun n i wr2 => i = .int .i64 0 ∧ n = .int .i64 (s : Int) ∧ wr = wr2) (fun n i _ => 0)
        case atStart => exact ⟨rfl, rfl, rfl⟩
        case round =>
          obtain ⟨rfl, rfl, rfl⟩ := hrel
          by_cases hl0 : (0 : Int) < (l.length : Int)
          all_goals
            have s2 : (3000 : Int) < s := by omega
            go_wp2_with fail
            go_ret
            exact ⟨by rw [HT.out]; rfl, BB0.out.trans (BB1.out.mono (by omega))⟩
    · have hjn : j = k.entries.length := by omega
      have HS2 := Lib.hid (show baseK k l + sumTo k.entries k.entries.length = s by rw [← hjn]; exact HS.out)
      have j1 : ¬ (j : Int) < (k.entries.length : Int) := by omega
      clear hjn
      go_wp2_with fail
      go_loopw [5, 7] (fun n i wr2 => ∃ j2 : Nat, j2 ≤ l.length ∧ i = .int .i64 j2 ∧ n = .int .i64 ((s + sumTo l j2 : Nat) : Int) ∧ s + sumTo l j2 ≤ 140737488355328 ∧ Below w1.heap.size w1 wr2) (fun n i _ => l.length - (intOf i).toNat)
      case atStart => exact ⟨0, Nat.zero_le _, rfl, by rw [sumTo_zero]; simp, by rw [sumTo_zero]; omega, BB1.out⟩
      case round =>
        obtain ⟨j2, hj2, rfl, e, hb2, B2⟩ := hrel
        generalize hs2 : s + sumTo l j2 = s2 at *
        have HS3 := Lib.hid hs2
        obtain rfl := e
        rename World => wr2
        have BB2 := Lib.hid B2
        have HL2 := Lib.hid ((HL.out.same (Same.below BB0.out)).same (Same.below B2))
        clear hs2 B2
        by_cases hlt2 : j2 < l.length
        · have k1 : (j2 : Int) < (l.length : Int) := by omega
          have k0 : (0 : Int) ≤ (j2 : Int) := by omega
          by_cases hle2 : s2 ≤ 3000
          · obtain ⟨b, off, rfl⟩ := HL2.out.addr (by omega)
            obtain ⟨hS, hb, a3e, c3e, a4e, c4e, e0, e1, e2, e3, e4, e5, f0, f1, f2, f3, f4, f5⟩ := Entry.row HL2.out hlt2
            have m3 := f3.bd.2.2.1
            have m4 := f4.bd.2.2.1
            clear e0 e1 e2 e5 f3 f4
            generalize hE : l.getD j2 default = e at *
            have HJ := Lib.hid hE
            clear hE
            have s3 : (s2 : Int) ≤ 3000 := by omega
            go_wp2_with fail
            go_quiet (fail)
            go_wp2_with fail
            go_roundw
            case rel =>
              have hh : s + sumTo l (j2 + 1) = s2 + (e.config.voters.length + e.config.learners.length) := by
                rw [sumTo_succ hlt2, HJ.out, ← HS3.out]; unfold sizeE; omega
              refine ⟨j2 + 1, by omega, by go_num, ?_, by rw [hh]; omega, bdrewN BB2.out _⟩
              rw [hh]
              go_num
            case measure => simp [intOf]; omega
          · have s3 : (3000 : Int) < s2 := by omega
            have HT := Lib.hid (show largeB k l = true from by
              unfold largeB totalK
              have := sumTo_le l (show j2 ≤ l.length by omega)
              have := HS2.out
              have := HS3.out
              rw [decide_eq_true_iff]; omega)
            go_wp2_with fail
            go_ret
            exact ⟨by rw [HT.out]; rfl, BB0.out.trans (BB2.out.mono (by omega))⟩
        · have hjn2 : j2 = l.length := by omega
          have k1 : ¬ (j2 : Int) < (l.length : Int) := by omega
          have HT := Lib.hid (show largeB k l = decide ((3000 : Int) < s2) from by
              unfold largeB totalK
              have := HS2.out
              have := HS3.out
              rw [hjn2] at this
              rw [show baseK k l + sumTo k.entries k.entries.length + sumTo l l.length = s2 by omega]
              apply decide_eq_decide.2
              omega)
          clear hjn2
          go_wp2_with fail
          go_ret
          exact ⟨by rw [HT.out]; rfl, BB0.out.trans (BB2.out.mono (by omega))⟩
end Go.Proofs.Yteiojclemodhaaa
