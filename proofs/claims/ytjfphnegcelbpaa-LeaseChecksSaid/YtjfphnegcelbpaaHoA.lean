/- Contracts of lease.within, lease.Check and of the reference's within and Right. Condition: a struct that reads as a holder. -/
import Derived.Test.YtjfphnegcelbpaaBase
import Derived.Test.YtjfphnegcelbpaaTyL
namespace Go.Proofs.Ytjfphnegcelbpaa
open Go.RowKit
set_option linter.unusedVariables false
set_option linter.unusedSimpArgs false
def wiB (n m : Int) : Bool := decide (0 ≤ n) && decide (n ≤ m)
theorem wiB_iff {n m : Int} : wiB n m = true ↔ (0 ≤ n ∧ n ≤ m) := by simp [wiB]
theorem wiB_no {n m : Int} : wiB n m = false ↔ ¬ (0 ≤ n ∧ n ≤ m) := by
  rw [← wiB_iff]; cases wiB n m <;> simp
theorem within_any (n m : Int) (w : World) : Calls Try.prog 27 #[.int .i64 n, .int .i64 m] w (QPost w (wiB n m)) := by
  unfold wiB
  by_cases h1 : 0 ≤ n
  all_goals
    by_cases h2 : n ≤ m
    all_goals
      go_enter Try.func27, Try.ntmps27
      go_wp2_with fail
      go_ret
      exact ⟨by simp [h1, h2], rfl⟩
theorem rwithin_any (n m : Int) (w : World) : Calls Try.prog 29 #[.int .i64 n, .int .i64 m] w (QPost w (wiB n m)) := by
  unfold wiB
  by_cases h1 : 0 ≤ n
  all_goals
    by_cases h2 : n ≤ m
    all_goals
      go_enter Try.func29, Try.ntmps29
      go_wp2_with fail
      go_ret
      exact ⟨by simp [h1, h2], rfl⟩
def Holder.sn (h : Holder) (i : Nat) : Sent := h.sent.getD i default
def prevA (h : Holder) : Nat → Int
  | 0 => 0
  | i + 1 => (h.sn i).ask
def seOk (h : Holder) (i : Nat) : Prop := prevA h i < (h.sn i).ask ∧ (h.sn i).ask ≤ h.ask ∧ 0 ≤ (h.sn i).at_ ∧ (h.sn i).at_ ≤ h.now
def headB (h : Holder) : Bool := wiB (wrap64 (h.node - 11)) 2 && wiB h.now 1000000000 && wiB h.ask 1000000000 && wiB h.seq 1000000000 && (wiB h.at_ h.now && (!(h.seq == 0) || h.at_ == 0) && decide ((h.sent.length : Int) ≤ 16))
noncomputable def ckB (h : Holder) (j : Nat) : Bool := @decide (headB h = true ∧ ∀ i, i < j → seOk h i) (Classical.propDecidable _)
noncomputable def riB (h : Holder) : Bool := ckB h h.sent.length
theorem ckB_iff {h : Holder} {j : Nat} : ckB h j = true ↔ (headB h = true ∧ ∀ i, i < j → seOk h i) := by simp [ckB]
theorem ckB_zero (h : Holder) : ckB h 0 = headB h := by
  rw [Bool.eq_iff_iff, ckB_iff]; exact ⟨fun h => h.1, fun h => ⟨h, fun i hi => by omega⟩⟩
noncomputable def seB (h : Holder) (i : Nat) : Bool := @decide (seOk h i) (Classical.propDecidable _)
theorem seB_iff {h : Holder} {i : Nat} : seB h i = true ↔ seOk h i := by simp [seB]
theorem ckB_succ (h : Holder) (j : Nat) : ckB h (j + 1) = (ckB h j && seB h j) := by
  rw [Bool.eq_iff_iff, Bool.and_eq_true, ckB_iff, ckB_iff, seB_iff]
  constructor
  · rintro ⟨h1, h2⟩; exact ⟨⟨h1, fun i hi => h2 i (by omega)⟩, h2 j (by omega)⟩
  · rintro ⟨⟨h1, h2⟩, h3⟩
    refine ⟨h1, fun i hi => ?_⟩
    by_cases e : i = j
    · subst e; exact h3
    · exact h2 i (by omega)
set_option maxHeartbeats 4000000 in
theorem hcheck_any (vs : List Value) (h : Holder) (w : World) (S : Nat → Prop) (hr : RdL w S Holder.ty vs h.enc) :
    Calls Try.prog 8 #[.agg vs.toArray] w (IPost w (err (riB h))) := by
  obtain ⟨a3, c3, rfl, b0, b1, b2, s3, b4, b5⟩ := Holder.opens hr
  obtain ⟨n1, n2, n3, n4⟩ := s3.bd
  have H3 := Lib.hid s3
  have N4 := Lib.hid n4
  have HB := Lib.hid (show headB h = (wiB (wrap64 (h.node - 11)) 2 && wiB h.now 1000000000 && wiB h.ask 1000000000 && wiB h.seq 1000000000 && (wiB h.at_ h.now && (!(h.seq == 0) || h.at_ == 0) && decide ((h.sent.length : Int) ≤ 16))) from rfl)
  clear hr s3 n4
  go_enter Try.func8, Try.ntmps8
  go_upto_region 1 with fail
  obtain ⟨w1, hw1⟩ : ∃ w1 : World, w1 = w.alloc (.cells #[.int .i64 h.node, .int .i64 h.now, .int .i64 h.ask, .slice a3 (h.sent).length c3, .int .i64 h.seq, .int .i64 h.at_] 24) := ⟨_, rfl⟩
  have hb1 : Blk w1 w.heap.size 24 #[.int .i64 h.node, .int .i64 h.now, .int .i64 h.ask, .slice a3 (h.sent).length c3, .int .i64 h.seq, .int .i64 h.at_] := by rw [hw1]; exact Blk.new _ _ _
  have BW := Lib.hid (show Below w.heap.size w w1 by rw [hw1]; exact (Below.refl _ _).alloc (Nat.le_refl _) _)
  have Z1 := Lib.hid (show w1.heap.size = w.heap.size + 1 by rw [hw1]; simp)
  rw [← hw1]
  clear hw1
  obtain ⟨q0, q1, q2, q3, q4, q5⟩ := box6 hb1
  have KB := Lib.hid hb1
  clear hb1
  generalize Value.agg #[.int .i64 h.node, .int .i64 h.now, .int .i64 h.ask, .slice a3 (h.sent).length c3, .int .i64 h.seq, .int .i64 h.at_] = v0
  go_cut [3] (fun s wx => s = .bool (wiB (wrap64 (h.node - 11)) 2 && wiB h.now 1000000000 && wiB h.ask 1000000000 && wiB h.seq 1000000000) ∧ w1 = wx)
  case first =>
    go_wp2_with (go_at_call 27; refine (within_any _ _ _).mono ?_; rintro e w' ⟨rfl, rfl⟩)
    all_goals
      go_meet
      exact ⟨by simp [*], rfl⟩
  case rest =>
    obtain ⟨rfl, rfl⟩ := hcut
    generalize (wiB (wrap64 (h.node - 11)) 2 && wiB h.now 1000000000 && wiB h.ask 1000000000 && wiB h.seq 1000000000) = B1 at *
    go_upto_region 2 with fail
    go_cut [3] (fun s wx => s = .bool (B1 && (wiB h.at_ h.now && (!(h.seq == 0) || h.at_ == 0) && decide ((h.sent.length : Int) ≤ 16))) ∧ w1 = wx)
    case first =>
      cases hs : (h.seq == 0)
      all_goals cases ha : (h.at_ == 0)
      all_goals have hs2 : (h.seq != 0) = !(h.seq == 0) := rfl
      all_goals rw [hs] at hs2
      all_goals cases B1
      all_goals
        go_wp2_with (go_at_call 27; refine (within_any _ _ _).mono ?_; rintro e w' ⟨rfl, rfl⟩)
      all_goals
        go_meet
        exact ⟨by simp [*], rfl⟩
    case rest =>
      obtain ⟨rfl, rfl⟩ := hcut
      rw [← HB.out]
      rw [show headB h = ckB h 0 from (ckB_zero h).symm]
      clear HB
      go_wp2_with fail
      clear q0 q1 q2 q3 q4 q5
      go_loopw [3, 4, 53] (fun s l i wr => ∃ j : Nat, j ≤ h.sent.length ∧ i = .int .i64 j ∧ s = .bool (ckB h j) ∧ l = .int .i64 (prevA h j) ∧ Below w1.heap.size w1 wr) (fun _ _ i _ => h.sent.length - (intOf i).toNat)
      case atStart => exact ⟨0, Nat.zero_le _, rfl, rfl, rfl, Below.refl _ _⟩
      case round =>
        obtain ⟨j, hj, rfl, rfl, rfl, B2⟩ := hrel
        have BB := Lib.hid B2
        have K2 := KB.out.below B2 (by rw [Z1.out]; omega)
        obtain ⟨q0, q1, q2, q3, q4, q5⟩ := box6 K2
        have H32 := Lib.hid ((H3.out.same (Same.below BW.out)).same (Same.below B2))
        clear B2 K2
        by_cases hlt : j < h.sent.length
        · obtain ⟨b, off, rfl⟩ := H32.out.addr (by omega)
          obtain ⟨hS, hb, e0, e1, f0, f1⟩ := Sent.row H32.out hlt
          have HS := Lib.hid (ckB_succ h j)
          have HE := Lib.hid (show seB h j = true ↔ seOk h j from seB_iff)
          have HP := Lib.hid (show seOk h j = (prevA h j < (h.sn j).ask ∧ (h.sn j).ask ≤ h.ask ∧ 0 ≤ (h.sn j).at_ ∧ (h.sn j).at_ ≤ h.now) from rfl)
          have HN := Lib.hid (show prevA h (j + 1) = (h.sn j).ask from rfl)
          have HJ := Lib.hid (show h.sn j = h.sent.getD j default from rfl)
          rw [HJ.out] at HP HN
          generalize h.sent.getD j default = e at *
          have j0 : (0 : Int) ≤ (j : Int) := by omega
          have j1 : (j : Int) < (h.sent.length : Int) := by omega
          have zr : w.heap.size < wr.heap.size := by have := BB.out.size; have := Z1.out; omega
          have B3 := Lib.hid (BB.out.alloc BB.out.size (.cells #[.int .i64 e.ask, .int .i64 e.at_] 51))
          generalize ckB h j = B0 at *
          generalize prevA h j = p at *
          have HQ := Lib.hid (show seB h j = (decide (p < e.ask) && decide (e.ask ≤ h.ask) && wiB e.at_ h.now) by
            rw [Bool.eq_iff_iff, HE.out, HP.out]; simp [wiB, and_assoc])
          by_cases c1 : p < e.ask
          all_goals by_cases c2 : e.ask ≤ h.ask
          all_goals cases B0
          all_goals
            go_wp2_with (go_at_call 27; refine (within_any _ _ _).mono ?_; rintro e w' ⟨rfl, rfl⟩)
            go_roundw
            case rel => exact ⟨j + 1, by omega, by go_num, by rw [HS.out, HQ.out]; simp [c1, c2], by rw [HN.out], B3.out⟩
            case measure => simp [intOf]; omega
        · have hjn : j = h.sent.length := by omega
          have k1 : ¬ (j : Int) < (h.sent.length : Int) := by omega
          have HR := Lib.hid (show ckB h j = riB h by rw [hjn]; rfl)
          rw [HR.out]
          clear hjn
          cases hr : riB h
          all_goals
            have HF := Lib.hid hr
            clear hr
            go_wp2_with fail
            go_ret
            exact ⟨by rw [HF.out]; rfl, BW.out.trans (BB.out.mono BW.out.size)⟩
end Go.Proofs.Ytjfphnegcelbpaa
