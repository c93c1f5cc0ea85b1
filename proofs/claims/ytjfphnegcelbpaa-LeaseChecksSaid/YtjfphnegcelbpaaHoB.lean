/- Contract of the reference's Right. Condition: a struct that reads as a holder. -/
import Derived.Test.YtjfphnegcelbpaaHoA
import Derived.IntWalk
namespace Go.Proofs.Ytjfphnegcelbpaa
open Go.RowKit
set_option linter.unusedVariables false
set_option linter.unusedSimpArgs false
theorem se_pos {h : Holder} {j : Nat} (hq : ∀ i, i < j → seOk h i) : 0 ≤ prevA h j := by
  induction j with
  | zero => exact Int.le_refl _
  | succ j ih =>
    have h1 := ih (fun i hi => hq i (by omega))
    have h2 := (hq j (by omega)).1
    show 0 ≤ (h.sn j).ask
    omega
theorem rwithin_q (n m : Int) (w : World) : Calls Try.prog 29 #[.int .i64 n, .int .i64 m] w (fun e w' => e = .returned (.bool (wiB n m)) ∧ w' = w) := (rwithin_any n m w).mono fun _ _ h => ⟨h.1, h.2.symm⟩
set_option maxRecDepth 20000 in
set_option maxHeartbeats 4000000 in
theorem right_any (vs : List Value) (h : Holder) (w : World) (S : Nat → Prop) (hr : RdL w S Holder.ty vs h.enc) :
    Calls Try.prog 12 #[.agg vs.toArray] w (TPost w (riB h)) := by
  obtain ⟨a3, c3, rfl, b0, b1, b2, s3, b4, b5⟩ := Holder.opens hr
  obtain ⟨n1, n2, n3, n4⟩ := s3.bd
  have H3 := Lib.hid s3
  have N4 := Lib.hid n4
  have HB := Lib.hid (show headB h = (wiB (wrap64 (h.node - 11)) 2 && wiB h.now 1000000000 && wiB h.ask 1000000000 && wiB h.seq 1000000000 && (wiB h.at_ h.now && (!(h.seq == 0) || h.at_ == 0) && decide ((h.sent.length : Int) ≤ 16))) from rfl)
  clear hr s3 n4
  go_enter Try.func12, Try.ntmps12
  go_upto_region 1 with fail
  obtain ⟨w1, hw1⟩ : ∃ w1 : World, w1 = w.alloc (.cells #[.int .i64 h.node, .int .i64 h.now, .int .i64 h.ask, .slice a3 (h.sent).length c3, .int .i64 h.seq, .int .i64 h.at_] 24) := ⟨_, rfl⟩
  have hb1 : Blk w1 w.heap.size 24 #[.int .i64 h.node, .int .i64 h.now, .int .i64 h.ask, .slice a3 (h.sent).length c3, .int .i64 h.seq, .int .i64 h.at_] := by rw [hw1]; exact Blk.new _ _ _
  have BW := Lib.hid (show Below w.heap.size w w1 by rw [hw1]; exact (Below.refl _ _).alloc (Nat.le_refl _) _)
  have Z1 := Lib.hid (show w1.heap.size = w.heap.size + 1 by rw [hw1]; simp)
  rw [← hw1]
  clear hw1
  obtain ⟨q0, q1, q2, q3, q4, q5⟩ := box6 hb1
  have KB := Lib.hid hb1
  clear hb1
  generalize Value.agg #[.int .i64 h.node, .int .i64 h.now, .int .i64 h.ask, .slice a3 (h.sent).length c3, .int .i64 h.seq, .int .i64 h.at_] = v0
  go_cut [51] (fun s wx => s = .bool (!headB h) ∧ w1 = wx)
  case first =>
    cases hs : (h.seq == 0)
    all_goals cases ha : (h.at_ == 0)
    all_goals have ha2 : (h.at_ != 0) = !(h.at_ == 0) := rfl
    all_goals rw [ha] at ha2
    all_goals
      go_wp2_with (go_at_call 29; refine (rwithin_any _ _ _).mono ?_; rintro e w' ⟨rfl, rfl⟩)
    all_goals
      go_meet
      exact ⟨by rw [HB.out]; simp [*] <;> (rw [Bool.eq_iff_iff]; simp), rfl⟩
  case rest =>
    obtain ⟨rfl, rfl⟩ := hcut
    clear HB
    cases hh : headB h
    · have HR := Lib.hid (show riB h = false by
        rw [riB, ckB]; simp [hh])
      clear hh
      go_wp2_with fail
      go_ret
      exact ⟨by rw [HR.out]; rfl, BW.out⟩
    have HH := Lib.hid hh
    clear hh
    go_wp2_with fail
    clear q0 q1 q2 q3 q4 q5
    go_loopw [3] (fun i wr => ∃ j : Nat, j ≤ h.sent.length ∧ i = .int .i64 j ∧ (∀ i, i < j → seOk h i) ∧ Below w1.heap.size w1 wr) (fun i _ => h.sent.length - (intOf i).toNat)
    case atStart => exact ⟨0, Nat.zero_le _, rfl, fun i hi => by omega, Below.refl _ _⟩
    case round =>
      obtain ⟨j, hj, rfl, hq, B2⟩ := hrel
      have HQ := Lib.hid hq
      have BB := Lib.hid B2
      have K2 := KB.out.below B2 (by rw [Z1.out]; omega)
      obtain ⟨q0, q1, q2, q3, q4, q5⟩ := box6 K2
      have H32 := Lib.hid ((H3.out.same (Same.below BW.out)).same (Same.below B2))
      have hpos := se_pos hq
      clear B2 K2 hq
      by_cases hlt : j < h.sent.length
      · obtain ⟨b, off, rfl⟩ := H32.out.addr (by omega)
        obtain ⟨hS, hb, e0, e1, f0, f1⟩ := Sent.row H32.out hlt
        have HP := Lib.hid (show seOk h j = (prevA h j < (h.sn j).ask ∧ (h.sn j).ask ≤ h.ask ∧ 0 ≤ (h.sn j).at_ ∧ (h.sn j).at_ ≤ h.now) from rfl)
        have HJ := Lib.hid (show h.sn j = h.sent.getD j default from rfl)
        rw [HJ.out] at HP
        generalize hE : h.sent.getD j default = e at *
        have j0 : (0 : Int) ≤ (j : Int) := by omega
        have j1 : (j : Int) < (h.sent.length : Int) := by omega
        have zr : w.heap.size < wr.heap.size := by have := BB.out.size; have := Z1.out; omega
        have B3 := Lib.hid (BB.out.alloc BB.out.size (.cells #[.int .i64 e.ask, .int .i64 e.at_] 51))
        clear hE
        have HQ1 := Lib.hid (fun (hs : seOk h j) i (hi : i < j + 1) => show seOk h i by
          by_cases h : i = j
          · subst h; exact hs
          · exact HQ.out i (by omega))
        have HNR := Lib.hid (fun (hs : ¬ seOk h j) => show riB h = false by
          have : ¬ riB h = true := fun hh => hs ((ckB_iff.1 hh).2 j hlt)
          simpa using this)
        rw [HP.out] at HQ1 HNR
        have B4 := Lib.hid (BW.out.trans (B3.out.mono BW.out.size))
        have B4 := Lib.hid (BW.out.trans (B3.out.mono BW.out.size))
        by_cases h0 : j = 0
        · subst h0
          simp only [Nat.zero_mul, Nat.add_zero] at e0 e1
          have HZ := Lib.hid (show prevA h 0 = 0 from rfl)
          rw [HZ.out] at HQ1 HNR
          have d0 : decide ((0 : Int) < ((0 : Nat) : Int)) = false := by simp
          clear hpos
          by_cases c1 : 0 < e.ask
          · have d1 : decide (e.ask < 1) = false := by simp; omega
            by_cases c2 : e.ask ≤ h.ask
            · have d2 : decide (h.ask < e.ask) = false := by simp; omega
              cases hw : wiB e.at_ h.now
              · have HF := Lib.hid (HNR.out (fun hh => by have := wiB_no.1 hw; omega))
                have hcw : ∀ W : World, Calls Try.prog 29 #[.int .i64 e.at_, .int .i64 h.now] W (fun e w' => e = .returned (.bool false) ∧ w' = W) := fun W => by rw [← hw]; exact rwithin_q _ _ _
                have HCW := Lib.hid hcw
                have HW := Lib.hid hw
                clear hw hcw
                go_wp2_with fail
                go_quiet ((go_at_call 29; exact Calls.quiet_of_same (HCW.out _)))
                go_wp2_with fail
                go_ret
                exact ⟨by rw [HF.out]; rfl, bdrewN B4.out _⟩
              · have HT := Lib.hid (HQ1.out (by have := wiB_iff.1 hw; exact ⟨by omega, by omega, by omega, by omega⟩))
                have hcw : ∀ W : World, Calls Try.prog 29 #[.int .i64 e.at_, .int .i64 h.now] W (fun e w' => e = .returned (.bool true) ∧ w' = W) := fun W => by rw [← hw]; exact rwithin_q _ _ _
                have HCW := Lib.hid hcw
                have HW := Lib.hid hw
                clear hw hcw
                go_wp2_with fail
                go_quiet ((go_at_call 29; exact Calls.quiet_of_same (HCW.out _)))
                go_wp2_with fail
                go_roundw
                case rel => exact ⟨0 + 1, by omega, by go_num, HT.out, bdrewN B3.out _⟩
                case measure => simp [intOf]; omega
            · have d2 : decide (h.ask < e.ask) = true := by simp; omega
              have HF := Lib.hid (HNR.out (fun hh => by omega))
              go_wp2_with fail
              go_quiet (fail)
              go_wp2_with fail
              go_ret
              exact ⟨by rw [HF.out]; rfl, bdrewN B4.out _⟩
          · have d1 : decide (e.ask < 1) = true := by simp; omega
            have HF := Lib.hid (HNR.out (fun hh => by omega))
            go_wp2_with fail
            go_quiet (fail)
            go_wp2_with fail
            go_ret
            exact ⟨by rw [HF.out]; rfl, bdrewN B4.out _⟩
        · have hpa : prevA h j = (h.sent.getD (j - 1) default).ask := by
            obtain ⟨m, rfl⟩ : ∃ m, j = m + 1 := ⟨j - 1, by omega⟩
            rfl
          obtain ⟨_, _, p0, p1, g0, g1⟩ := Sent.row H32.out (i := j - 1) (by omega)
          rw [hpa] at HQ1 HNR hpos
          generalize h.sent.getD (j - 1) default = e' at *
          have d0 : decide ((0 : Int) < (j : Int)) = true := by simp; omega
          have d0n : 0 < j := by omega
          have d0m : decide (0 < j) = true := by simp; omega
          have z0 : (0 : Int) ≤ (j : Int) - 1 := by omega
          have z1 : (j : Int) - 1 < (h.sent.length : Int) := by omega
          have z2 : ((j : Int) - 1).toNat = j - 1 := by omega
          have z3 : IntKind.i64.wrap ((j : Int) - 1) = (j : Int) - 1 := IntWalk.i64_in _ (by omega)
          have Z2 := Lib.hid z2
          have Z3 := Lib.hid z3
          clear hpa z2 z3 p1 g1
          by_cases cp : e'.ask < e.ask
          · have dp : decide (e.ask ≤ e'.ask) = false := by simp; omega
            by_cases c1 : 0 < e.ask
            · have d1 : decide (e.ask < 1) = false := by simp; omega
              by_cases c2 : e.ask ≤ h.ask
              · have d2 : decide (h.ask < e.ask) = false := by simp; omega
                cases hw : wiB e.at_ h.now
                · have HF := Lib.hid (HNR.out (fun hh => by have := wiB_no.1 hw; omega))
                  have hcw : ∀ W : World, Calls Try.prog 29 #[.int .i64 e.at_, .int .i64 h.now] W (fun e w' => e = .returned (.bool false) ∧ w' = W) := fun W => by rw [← hw]; exact rwithin_q _ _ _
                  have HCW := Lib.hid hcw
                  have HW := Lib.hid hw
                  clear hw hcw
                  go_wp2_with fail
                  have z2 := Z2.out
                  have z3 := Z3.out
                  go_quiet ((go_at_call 29; exact Calls.quiet_of_same (HCW.out _)))
                  clear z2 z3
                  go_wp2_with fail
                  go_ret
                  exact ⟨by rw [HF.out]; rfl, bdrewN B4.out _⟩
                · have HT := Lib.hid (HQ1.out (by have := wiB_iff.1 hw; exact ⟨by omega, by omega, by omega, by omega⟩))
                  have hcw : ∀ W : World, Calls Try.prog 29 #[.int .i64 e.at_, .int .i64 h.now] W (fun e w' => e = .returned (.bool true) ∧ w' = W) := fun W => by rw [← hw]; exact rwithin_q _ _ _
                  have HCW := Lib.hid hcw
                  have HW := Lib.hid hw
                  clear hw hcw
                  go_wp2_with fail
                  have z2 := Z2.out
                  have z3 := Z3.out
                  go_quiet ((go_at_call 29; exact Calls.quiet_of_same (HCW.out _)))
                  clear z2 z3
                  go_wp2_with fail
                  go_roundw
                  case rel => exact ⟨j + 1, by omega, by go_num, HT.out, bdrewN B3.out _⟩
                  case measure => simp [intOf]; omega
              · have d2 : decide (h.ask < e.ask) = true := by simp; omega
                have HF := Lib.hid (HNR.out (fun hh => by omega))
                go_wp2_with fail
                have z2 := Z2.out
                have z3 := Z3.out
                go_quiet (fail)
                clear z2 z3
                go_wp2_with fail
                go_ret
                exact ⟨by rw [HF.out]; rfl, bdrewN B4.out _⟩
            · exfalso; omega
          · have dp : decide (e.ask ≤ e'.ask) = true := by simp; omega
            have HF := Lib.hid (HNR.out (fun hh => by omega))
            go_wp2_with fail
            have z2 := Z2.out
            have z3 := Z3.out
            go_quiet (fail)
            clear z2 z3
            go_wp2_with fail
            go_ret
            exact ⟨by rw [HF.out]; rfl, bdrewN B4.out _⟩
      · have hjn : j = h.sent.length := by omega
        have k1 : ¬ (j : Int) < (h.sent.length : Int) := by omega
        have HR := Lib.hid (show riB h = true from ckB_iff.2 ⟨HH.out, fun i hi => HQ.out i (by omega)⟩)
        clear hjn
        go_wp2_with fail
        go_ret
        exact ⟨by rw [HR.out]; rfl, BW.out.trans (BB.out.mono BW.out.size)⟩
end Go.Proofs.Ytjfphnegcelbpaa
