/- Contracts of lease.Good and Again and of the reference's. Condition: a struct that reads as a holder. -/
import Derived.Test.YtjfphnegcelbpaaHoD
namespace Go.Proofs.Ytjfphnegcelbpaa
open Go.RowKit
set_option linter.unusedVariables false
set_option linter.unusedSimpArgs false
theorem iz : I64 0 := ⟨by decide, by decide⟩
noncomputable def goodB (h : Holder) : Bool := riB h && !(h.seq == 0) && decide (h.now - h.at_ < 8)
theorem ri_now2 {h : Holder} (hr : riB h = true) : 0 ≤ h.at_ ∧ h.at_ ≤ h.now ∧ h.now ≤ 1000000000 ∧ 0 ≤ h.ask ∧ h.ask ≤ 1000000000 ∧ 0 ≤ h.seq ∧ h.seq ≤ 1000000000 ∧ h.sent.length ≤ 16 := by
  have hh := (ckB_iff.1 hr).1
  unfold headB at hh
  simp only [Bool.and_eq_true, wiB_iff, decide_eq_true_eq] at hh
  omega
def Holder.again (h : Holder) : Holder := ⟨h.node, 0, h.ask, [], 0, 0⟩
noncomputable def againE (h : Holder) : Int := if riB h = true then 0 else 1
noncomputable def againH (h : Holder) : Holder := if riB h = true then h.again else h0
set_option maxHeartbeats 2000000 in
theorem good_any (vs : List Value) (h : Holder) (w : World) (S : Nat → Prop) (hr : RdL w S Holder.ty vs h.enc) :
    Calls Try.prog 13 #[.agg vs.toArray] w (TPost w (goodB h)) := by
  have hc1 := fun w' (hb : Below w.heap.size w w') => hcheck_any vs h w' S (RdL.same (Same.below hb) hr)
  have HC1 := Lib.hid hc1
  obtain ⟨a3, c3, rfl, b0, b1, b2, s3, b4, b5⟩ := Holder.opens hr
  have HB0 := Lib.hid ((Below.refl w.heap.size w).alloc (Nat.le_refl _) (.cells #[.int .i64 h.node, .int .i64 h.now, .int .i64 h.ask, .slice a3 (h.sent).length c3, .int .i64 h.seq, .int .i64 h.at_] 24))
  clear hr s3 hc1
  cases hri : riB h
  · have HR := Lib.hid hri
    have HE := Lib.hid (show goodB h = false by simp [goodB, hri])
    clear hri
    go_enter Try.func13, Try.ntmps13
    go_wp2_with fail
    refine (HC1.out _ HB0.out).mono ?_
    rw [HR.out, err_f]
    rintro e w1 ⟨rfl, P1⟩
    obtain ⟨kb1, BT1, z1⟩ := boxed_call P1
    go_wp2_with fail
    go_ret
    exact ⟨by rw [HE.out]; rfl, BT1⟩
  · have HR := Lib.hid hri
    obtain ⟨m1, m2, m3, m4, m5, m6, m7, m8⟩ := ri_now2 hri
    cases hq : (h.seq == 0)
    all_goals have hq2 : (h.seq != 0) = !(h.seq == 0) := rfl
    all_goals rw [hq] at hq2
    all_goals by_cases hl : h.now - h.at_ < 8
    all_goals have HE := Lib.hid (show goodB h = _ by rw [goodB, hri, hq])
    all_goals clear hri
    all_goals
      go_enter Try.func13, Try.ntmps13
      go_wp2_with fail
      refine (HC1.out _ HB0.out).mono ?_
      rw [HR.out, err_t]
      rintro e w1 ⟨rfl, P1⟩
      obtain ⟨kb1, BT1, z1⟩ := boxed_call P1
      obtain ⟨q0, q1, q2, q3, q4, q5⟩ := box6 kb1
      go_wp2_with fail
      go_ret
      exact ⟨by rw [HE.out]; simp [hl], BT1⟩
set_option maxHeartbeats 2000000 in
theorem rgood_any (vs : List Value) (h : Holder) (w : World) (S : Nat → Prop) (hr : RdL w S Holder.ty vs h.enc) :
    Calls Try.prog 14 #[.agg vs.toArray] w (TPost w (goodB h)) := by
  have hc1 := fun w' (hb : Below w.heap.size w w') => right_any vs h w' S (RdL.same (Same.below hb) hr)
  have HC1 := Lib.hid hc1
  obtain ⟨a3, c3, rfl, b0, b1, b2, s3, b4, b5⟩ := Holder.opens hr
  have HB0 := Lib.hid ((Below.refl w.heap.size w).alloc (Nat.le_refl _) (.cells #[.int .i64 h.node, .int .i64 h.now, .int .i64 h.ask, .slice a3 (h.sent).length c3, .int .i64 h.seq, .int .i64 h.at_] 24))
  clear hr s3 hc1
  cases hri : riB h
  · have HR := Lib.hid hri
    have HE := Lib.hid (show goodB h = false by simp [goodB, hri])
    clear hri
    go_enter Try.func14, Try.ntmps14
    go_wp2_with fail
    refine (HC1.out _ HB0.out).mono ?_
    rw [HR.out]
    rintro e w1 ⟨rfl, P1⟩
    obtain ⟨kb1, BT1, z1⟩ := boxed_call P1
    go_wp2_with fail
    go_ret
    exact ⟨by rw [HE.out]; rfl, BT1⟩
  · have HR := Lib.hid hri
    obtain ⟨m1, m2, m3, m4, m5, m6, m7, m8⟩ := ri_now2 hri
    cases hq : (h.seq == 0)
    all_goals have hq2 : (h.seq != 0) = !(h.seq == 0) := rfl
    all_goals rw [hq] at hq2
    all_goals by_cases hl : h.now - h.at_ < 8
    all_goals have HE := Lib.hid (show goodB h = _ by rw [goodB, hri, hq])
    all_goals clear hri
    all_goals
      go_enter Try.func14, Try.ntmps14
      go_wp2_with fail
      refine (HC1.out _ HB0.out).mono ?_
      rw [HR.out]
      rintro e w1 ⟨rfl, P1⟩
      obtain ⟨kb1, BT1, z1⟩ := boxed_call P1
      obtain ⟨q0, q1, q2, q3, q4, q5⟩ := box6 kb1
      go_wp2_with fail
      go_ret
      exact ⟨by rw [HE.out]; simp [hl], BT1⟩
set_option maxHeartbeats 2000000 in
theorem again_any (vs : List Value) (h : Holder) (w : World) (S : Nat → Prop) (hr : RdL w S Holder.ty vs h.enc) :
    Calls Try.prog 20 #[.agg vs.toArray] w (H2Post w (againH h) (againE h)) := by
  have hc1 := fun w' (hb : Below w.heap.size w w') => hcheck_any vs h w' S (RdL.same (Same.below hb) hr)
  have HC1 := Lib.hid hc1
  obtain ⟨a3, c3, rfl, b0, b1, b2, s3, b4, b5⟩ := Holder.opens hr
  have B0 : Below w.heap.size w ((w.alloc (.cells #[.int .i64 h.node, .int .i64 h.now, .int .i64 h.ask, .slice a3 (h.sent).length c3, .int .i64 h.seq, .int .i64 h.at_] 24)).alloc (.cells #[.int .i64 0, .int .i64 0, .int .i64 0, .slice none 0 0, .int .i64 0, .int .i64 0] 24)) := ((Below.refl _ w).alloc (Nat.le_refl _) _).alloc (by simp) _
  have HB0 := Lib.hid B0
  clear hr s3 B0 hc1
  cases hri : riB h
  · have HR := Lib.hid hri
    have HE := Lib.hid (show againE h = 1 by simp [againE, hri])
    have HH := Lib.hid (show againH h = h0 by simp [againH, hri])
    clear hri
    go_enter Try.func20, Try.ntmps20
    go_wp2_with fail
    refine (HC1.out _ HB0.out).mono ?_
    rw [HR.out, err_f]
    rintro e w1 ⟨rfl, P1⟩
    have ka0 := ((Blk.newAt _ (w.heap.size) 24 #[.int .i64 h.node, .int .i64 h.now, .int .i64 h.ask, .slice a3 (h.sent).length c3, .int .i64 h.seq, .int .i64 h.at_] (by simp)).alloc _).below P1 (by simp <;> omega); obtain ⟨qa0_0, qa0_1, qa0_2, qa0_3, qa0_4, qa0_5⟩ := box6 ka0; obtain ⟨fa0_0, fa0_1, fa0_2, fa0_3, fa0_4, fa0_5⟩ := thaw6 ka0; have ka1 := (Blk.newAt _ (w.heap.size + 1) 24 #[.int .i64 0, .int .i64 0, .int .i64 0, .slice none 0 0, .int .i64 0, .int .i64 0] (by simp)).below P1 (by simp <;> omega); obtain ⟨qa1_0, qa1_1, qa1_2, qa1_3, qa1_4, qa1_5⟩ := box6 ka1; obtain ⟨fa1_0, fa1_1, fa1_2, fa1_3, fa1_4, fa1_5⟩ := thaw6 ka1
    have hz := P1.size
    simp at hz
    have BB := Lib.hid (HB0.out.trans (P1.mono (by simp <;> omega)))
    clear P1
    go_wp2_with fail
    obtain ⟨Z, hZ⟩ : ∃ W : World, ((((((w1.setCell ⟨w.heap.size + 1, 0, none⟩ (.int .i64 0)).setCell ⟨w.heap.size + 1, 1, none⟩ (.int .i64 0)).setCell ⟨w.heap.size + 1, 2, none⟩ (.int .i64 0)).setCell ⟨w.heap.size + 1, 3, none⟩ (.slice none 0 0)).setCell ⟨w.heap.size + 1, 4, none⟩ (.int .i64 0)).setCell ⟨w.heap.size + 1, 5, none⟩ (.int .i64 0)) = W := ⟨_, rfl⟩; rw [hZ]; have ka1Z := put6_self ka1 (.int .i64 0) (.int .i64 0) (.int .i64 0) (.slice none 0 0) (.int .i64 0) (.int .i64 0); rw [hZ] at ka1Z; have BBZ := Lib.hid (put6_below BB.out (by omega) (b := w.heap.size + 1) (.int .i64 0) (.int .i64 0) (.int .i64 0) (.slice none 0 0) (.int .i64 0) (.int .i64 0)); rw [hZ] at BBZ; have zZ : w1.heap.size ≤ Z.heap.size := (by rw [← hZ] <;> simp [World.setCell]); clear hZ
    obtain ⟨q0, q1, q2, q3, q4, q5⟩ := box6 ka1Z
    rw [HE.out, HH.out]
    refine bodyPost_ret (v := .tuple #[.agg #[.int .i64 0, .int .i64 0, .int .i64 0, .slice none 0 0, .int .i64 0, .int .i64 0], .int .i64 1]) (by simp [results, Try.results20, go_sem, q0, q1, q2, q3, q4, q5]) rfl ?_
    exact ⟨[.int .i64 0, .int .i64 0, .int .i64 0, .slice none 0 0, .int .i64 0, .int .i64 0], rfl, h0_rd _ _, BBZ.out⟩
  · have HR := Lib.hid hri
    have HE := Lib.hid (show againE h = 0 by simp [againE, hri])
    have HH := Lib.hid (show againH h = h.again by simp [againH, hri])
    clear hri
    go_enter Try.func20, Try.ntmps20
    go_wp2_with fail
    refine (HC1.out _ HB0.out).mono ?_
    rw [HR.out, err_t]
    rintro e w1 ⟨rfl, P1⟩
    have ka0 := ((Blk.newAt _ (w.heap.size) 24 #[.int .i64 h.node, .int .i64 h.now, .int .i64 h.ask, .slice a3 (h.sent).length c3, .int .i64 h.seq, .int .i64 h.at_] (by simp)).alloc _).below P1 (by simp <;> omega); obtain ⟨qa0_0, qa0_1, qa0_2, qa0_3, qa0_4, qa0_5⟩ := box6 ka0; obtain ⟨fa0_0, fa0_1, fa0_2, fa0_3, fa0_4, fa0_5⟩ := thaw6 ka0; have ka1 := (Blk.newAt _ (w.heap.size + 1) 24 #[.int .i64 0, .int .i64 0, .int .i64 0, .slice none 0 0, .int .i64 0, .int .i64 0] (by simp)).below P1 (by simp <;> omega); obtain ⟨qa1_0, qa1_1, qa1_2, qa1_3, qa1_4, qa1_5⟩ := box6 ka1; obtain ⟨fa1_0, fa1_1, fa1_2, fa1_3, fa1_4, fa1_5⟩ := thaw6 ka1
    have hz := P1.size
    simp at hz
    have BB := Lib.hid (HB0.out.trans (P1.mono (by simp <;> omega)))
    clear P1
    go_wp2_with fail
    obtain ⟨Z, hZ⟩ : ∃ W : World, ((((((w1.setCell ⟨w.heap.size + 1, 0, none⟩ (.int .i64 h.node)).setCell ⟨w.heap.size + 1, 1, none⟩ (.int .i64 0)).setCell ⟨w.heap.size + 1, 2, none⟩ (.int .i64 h.ask)).setCell ⟨w.heap.size + 1, 3, none⟩ (.slice none 0 0)).setCell ⟨w.heap.size + 1, 4, none⟩ (.int .i64 0)).setCell ⟨w.heap.size + 1, 5, none⟩ (.int .i64 0)) = W := ⟨_, rfl⟩; rw [hZ]; have ka1Z := put6_self ka1 (.int .i64 h.node) (.int .i64 0) (.int .i64 h.ask) (.slice none 0 0) (.int .i64 0) (.int .i64 0); rw [hZ] at ka1Z; have BBZ := Lib.hid (put6_below BB.out (by omega) (b := w.heap.size + 1) (.int .i64 h.node) (.int .i64 0) (.int .i64 h.ask) (.slice none 0 0) (.int .i64 0) (.int .i64 0)); rw [hZ] at BBZ; have zZ : w1.heap.size ≤ Z.heap.size := (by rw [← hZ] <;> simp [World.setCell]); clear hZ
    obtain ⟨q0, q1, q2, q3, q4, q5⟩ := box6 ka1Z
    rw [HE.out, HH.out]
    refine bodyPost_ret (v := .tuple #[.agg #[.int .i64 h.node, .int .i64 0, .int .i64 h.ask, .slice none 0 0, .int .i64 0, .int .i64 0], .int .i64 0]) (by simp [results, Try.results20, go_sem, q0, q1, q2, q3, q4, q5]) rfl ?_
    exact ⟨[.int .i64 h.node, .int .i64 0, .int .i64 h.ask, .slice none 0 0, .int .i64 0, .int .i64 0], rfl, Holder.shuts h.again b0 iz b2 (.emp (fun _ => rfl) (by simp [maxLen])) iz iz, BBZ.out⟩
set_option maxHeartbeats 2000000 in
theorem ragain_any (vs : List Value) (h : Holder) (w : World) (S : Nat → Prop) (hr : RdL w S Holder.ty vs h.enc) :
    Calls Try.prog 21 #[.agg vs.toArray] w (H2Post w (againH h) (againE h)) := by
  have hc1 := fun w' (hb : Below w.heap.size w w') => right_any vs h w' S (RdL.same (Same.below hb) hr)
  have HC1 := Lib.hid hc1
  obtain ⟨a3, c3, rfl, b0, b1, b2, s3, b4, b5⟩ := Holder.opens hr
  have B0 : Below w.heap.size w ((w.alloc (.cells #[.int .i64 h.node, .int .i64 h.now, .int .i64 h.ask, .slice a3 (h.sent).length c3, .int .i64 h.seq, .int .i64 h.at_] 24)).alloc (.cells #[.int .i64 0, .int .i64 0, .int .i64 0, .slice none 0 0, .int .i64 0, .int .i64 0] 24)) := ((Below.refl _ w).alloc (Nat.le_refl _) _).alloc (by simp) _
  have HB0 := Lib.hid B0
  clear hr s3 B0 hc1
  cases hri : riB h
  · have HR := Lib.hid hri
    have HE := Lib.hid (show againE h = 1 by simp [againE, hri])
    have HH := Lib.hid (show againH h = h0 by simp [againH, hri])
    clear hri
    go_enter Try.func21, Try.ntmps21
    go_wp2_with fail
    refine (HC1.out _ HB0.out).mono ?_
    rw [HR.out]
    rintro e w1 ⟨rfl, P1⟩
    have ka0 := ((Blk.newAt _ (w.heap.size) 24 #[.int .i64 h.node, .int .i64 h.now, .int .i64 h.ask, .slice a3 (h.sent).length c3, .int .i64 h.seq, .int .i64 h.at_] (by simp)).alloc _).below P1 (by simp <;> omega); obtain ⟨qa0_0, qa0_1, qa0_2, qa0_3, qa0_4, qa0_5⟩ := box6 ka0; obtain ⟨fa0_0, fa0_1, fa0_2, fa0_3, fa0_4, fa0_5⟩ := thaw6 ka0; have ka1 := (Blk.newAt _ (w.heap.size + 1) 24 #[.int .i64 0, .int .i64 0, .int .i64 0, .slice none 0 0, .int .i64 0, .int .i64 0] (by simp)).below P1 (by simp <;> omega); obtain ⟨qa1_0, qa1_1, qa1_2, qa1_3, qa1_4, qa1_5⟩ := box6 ka1; obtain ⟨fa1_0, fa1_1, fa1_2, fa1_3, fa1_4, fa1_5⟩ := thaw6 ka1
    have hz := P1.size
    simp at hz
    have BB := Lib.hid (HB0.out.trans (P1.mono (by simp <;> omega)))
    clear P1
    go_wp2_with fail
    obtain ⟨Z, hZ⟩ : ∃ W : World, ((((((w1.setCell ⟨w.heap.size + 1, 0, none⟩ (.int .i64 0)).setCell ⟨w.heap.size + 1, 1, none⟩ (.int .i64 0)).setCell ⟨w.heap.size + 1, 2, none⟩ (.int .i64 0)).setCell ⟨w.heap.size + 1, 3, none⟩ (.slice none 0 0)).setCell ⟨w.heap.size + 1, 4, none⟩ (.int .i64 0)).setCell ⟨w.heap.size + 1, 5, none⟩ (.int .i64 0)) = W := ⟨_, rfl⟩; rw [hZ]; have ka1Z := put6_self ka1 (.int .i64 0) (.int .i64 0) (.int .i64 0) (.slice none 0 0) (.int .i64 0) (.int .i64 0); rw [hZ] at ka1Z; have BBZ := Lib.hid (put6_below BB.out (by omega) (b := w.heap.size + 1) (.int .i64 0) (.int .i64 0) (.int .i64 0) (.slice none 0 0) (.int .i64 0) (.int .i64 0)); rw [hZ] at BBZ; have zZ : w1.heap.size ≤ Z.heap.size := (by rw [← hZ] <;> simp [World.setCell]); clear hZ
    obtain ⟨q0, q1, q2, q3, q4, q5⟩ := box6 ka1Z
    rw [HE.out, HH.out]
    refine bodyPost_ret (v := .tuple #[.agg #[.int .i64 0, .int .i64 0, .int .i64 0, .slice none 0 0, .int .i64 0, .int .i64 0], .int .i64 1]) (by simp [results, Try.results21, go_sem, q0, q1, q2, q3, q4, q5]) rfl ?_
    exact ⟨[.int .i64 0, .int .i64 0, .int .i64 0, .slice none 0 0, .int .i64 0, .int .i64 0], rfl, h0_rd _ _, BBZ.out⟩
  · have HR := Lib.hid hri
    have HE := Lib.hid (show againE h = 0 by simp [againE, hri])
    have HH := Lib.hid (show againH h = h.again by simp [againH, hri])
    clear hri
    go_enter Try.func21, Try.ntmps21
    go_wp2_with fail
    refine (HC1.out _ HB0.out).mono ?_
    rw [HR.out]
    rintro e w1 ⟨rfl, P1⟩
    have ka0 := ((Blk.newAt _ (w.heap.size) 24 #[.int .i64 h.node, .int .i64 h.now, .int .i64 h.ask, .slice a3 (h.sent).length c3, .int .i64 h.seq, .int .i64 h.at_] (by simp)).alloc _).below P1 (by simp <;> omega); obtain ⟨qa0_0, qa0_1, qa0_2, qa0_3, qa0_4, qa0_5⟩ := box6 ka0; obtain ⟨fa0_0, fa0_1, fa0_2, fa0_3, fa0_4, fa0_5⟩ := thaw6 ka0; have ka1 := (Blk.newAt _ (w.heap.size + 1) 24 #[.int .i64 0, .int .i64 0, .int .i64 0, .slice none 0 0, .int .i64 0, .int .i64 0] (by simp)).below P1 (by simp <;> omega); obtain ⟨qa1_0, qa1_1, qa1_2, qa1_3, qa1_4, qa1_5⟩ := box6 ka1; obtain ⟨fa1_0, fa1_1, fa1_2, fa1_3, fa1_4, fa1_5⟩ := thaw6 ka1
    have hz := P1.size
    simp at hz
    have BB := Lib.hid (HB0.out.trans (P1.mono (by simp <;> omega)))
    clear P1
    go_wp2_with fail
    obtain ⟨Z, hZ⟩ : ∃ W : World, ((((((w1.setCell ⟨w.heap.size + 1, 0, none⟩ (.int .i64 h.node)).setCell ⟨w.heap.size + 1, 1, none⟩ (.int .i64 0)).setCell ⟨w.heap.size + 1, 2, none⟩ (.int .i64 h.ask)).setCell ⟨w.heap.size + 1, 3, none⟩ (.slice none 0 0)).setCell ⟨w.heap.size + 1, 4, none⟩ (.int .i64 0)).setCell ⟨w.heap.size + 1, 5, none⟩ (.int .i64 0)) = W := ⟨_, rfl⟩; rw [hZ]; have ka1Z := put6_self ka1 (.int .i64 h.node) (.int .i64 0) (.int .i64 h.ask) (.slice none 0 0) (.int .i64 0) (.int .i64 0); rw [hZ] at ka1Z; have BBZ := Lib.hid (put6_below BB.out (by omega) (b := w.heap.size + 1) (.int .i64 h.node) (.int .i64 0) (.int .i64 h.ask) (.slice none 0 0) (.int .i64 0) (.int .i64 0)); rw [hZ] at BBZ; have zZ : w1.heap.size ≤ Z.heap.size := (by rw [← hZ] <;> simp [World.setCell]); clear hZ
    obtain ⟨q0, q1, q2, q3, q4, q5⟩ := box6 ka1Z
    rw [HE.out, HH.out]
    refine bodyPost_ret (v := .tuple #[.agg #[.int .i64 h.node, .int .i64 0, .int .i64 h.ask, .slice none 0 0, .int .i64 0, .int .i64 0], .int .i64 0]) (by simp [results, Try.results21, go_sem, q0, q1, q2, q3, q4, q5]) rfl ?_
    exact ⟨[.int .i64 h.node, .int .i64 0, .int .i64 h.ask, .slice none 0 0, .int .i64 0, .int .i64 0], rfl, Holder.shuts h.again b0 iz b2 (.emp (fun _ => rfl) (by simp [maxLen])) iz iz, BBZ.out⟩
end Go.Proofs.Ytjfphnegcelbpaa
