/- Contracts of lease.Tick and of the reference's Tick. Condition: a struct that reads as a holder, of at most 10^6 signs. -/
import Derived.Test.YtjfphnegcelbpaaHoB
import Derived.Test.YtjfphnegcelbpaaHoC
import Derived.Test.YtjfphnegcelbpaaPuts
namespace Go.Proofs.Ytjfphnegcelbpaa
open Go.RowKit
set_option linter.unusedVariables false
set_option linter.unusedSimpArgs false
/-- a post: a holder in memory of its own, and an error's number -/
def H2Post (w : World) (h : Holder) (er : Int) (e : Ending) (w' : World) : Prop := ∃ vs : List Value, e = .returned (.tuple #[.agg vs.toArray, .int .i64 er]) ∧ RdL w' (fun b => w.heap.size ≤ b) Holder.ty vs h.enc ∧ Below w.heap.size w w'
def h0 : Holder := ⟨0, 0, 0, [], 0, 0⟩
theorem h0_rd (w : World) (S : Nat → Prop) : RdL w S Holder.ty [.int .i64 0, .int .i64 0, .int .i64 0, .slice none 0 0, .int .i64 0, .int .i64 0] h0.enc :=
  have z : I64 0 := ⟨by decide, by decide⟩
  Holder.shuts h0 z z z (.emp (fun _ => rfl) (by simp [maxLen])) z z
/-- a holder whose row is an own one reads as such -/
theorem hold_rd {base : Nat} {w : World} {v : Value} {h : Holder} (ho : OwnR base w 51 (fun b => base ≤ b) Sent.ty v (h.sent.map Sent.enc)) (hn : h.sent.length ≤ 1000000) {B : Nat} (hB : B ≤ base)
    (k0 : I64 h.node) (k1 : I64 h.now) (k2 : I64 h.ask) (k4 : I64 h.seq) (k5 : I64 h.at_) : RdL w (fun b => B ≤ b) Holder.ty [.int .i64 h.node, .int .i64 h.now, .int .i64 h.ask, v, .int .i64 h.seq, .int .i64 h.at_] h.enc := by
  obtain ⟨a, c, rfl, hs⟩ := ho.sl (fun b => B ≤ b) (fun b hb => by omega) (fun b hb => by omega) (by rw [List.length_map]; omega)
  rw [List.length_map] at hs ⊢
  exact Holder.shuts h k0 k1 k2 hs k4 k5
def Holder.tick (h : Holder) : Holder := { h with now := h.now + 1 }
noncomputable def tickE (h : Holder) : Int := if riB h = true then (if 1000000000 ≤ h.now then 2 else 0) else 1
noncomputable def tickH (h : Holder) : Holder := if tickE h = 0 then h.tick else h0
theorem ri_now {h : Holder} (hr : riB h = true) : 0 ≤ h.now ∧ h.now ≤ 1000000000 ∧ 0 ≤ h.ask ∧ h.ask ≤ 1000000000 ∧ 0 ≤ h.seq ∧ h.seq ≤ 1000000000 ∧ 0 ≤ h.at_ ∧ h.at_ ≤ h.now ∧ h.sent.length ≤ 16 ∧ 11 ≤ h.node ∧ h.node ≤ 13 ∨ ¬ I64 h.node := by
  have hh := (ckB_iff.1 hr).1
  unfold headB at hh
  simp only [Bool.and_eq_true, wiB_iff, decide_eq_true_eq, wrap64] at hh
  unfold I64
  omega
set_option maxHeartbeats 2000000 in
theorem tick_any (vs : List Value) (h : Holder) (w : World) (S : Nat → Prop) (hr : RdL w S Holder.ty vs h.enc) (hn : h.sent.length ≤ 1000000) :
    Calls Try.prog 9 #[.agg vs.toArray] w (H2Post w (tickH h) (tickE h)) := by
  have hc1 := fun w' (hb : Below w.heap.size w w') => hcheck_any vs h w' S (RdL.same (Same.below hb) hr)
  have hc2 := fun w' (hb : Below w.heap.size w w') => hown_any vs h w' S (RdL.same (Same.below hb) hr) hn
  have HC1 := Lib.hid hc1
  have HC2 := Lib.hid hc2
  obtain ⟨a3, c3, rfl, b0, b1, b2, s3, b4, b5⟩ := Holder.opens hr
  have B0 : Below w.heap.size w ((w.alloc (.cells #[.int .i64 h.node, .int .i64 h.now, .int .i64 h.ask, .slice a3 (h.sent).length c3, .int .i64 h.seq, .int .i64 h.at_] 24)).alloc (.cells #[.int .i64 0, .int .i64 0, .int .i64 0, .slice none 0 0, .int .i64 0, .int .i64 0] 24)) := ((Below.refl _ w).alloc (Nat.le_refl _) _).alloc (by simp) _
  have HB0 := Lib.hid B0
  clear hr s3 B0 hc1 hc2
  cases hri : riB h
  · have HR := Lib.hid hri
    have HE := Lib.hid (show tickE h = 1 by simp [tickE, hri])
    have HH := Lib.hid (show tickH h = h0 by rw [tickH, HE.out]; rfl)
    clear hri
    go_enter Try.func9, Try.ntmps9
    go_wp2_with fail
    refine (HC1.out _ HB0.out).mono ?_
    rw [HR.out, err_f]
    rintro e w1 ⟨rfl, P1⟩
    have ka0 := ((Blk.newAt _ (w.heap.size) 24 #[.int .i64 h.node, .int .i64 h.now, .int .i64 h.ask, .slice a3 (h.sent).length c3, .int .i64 h.seq, .int .i64 h.at_] (by simp)).alloc _).below P1 (by simp <;> omega); obtain ⟨qa0_0, qa0_1, qa0_2, qa0_3, qa0_4, qa0_5⟩ := box6 ka0; obtain ⟨fa0_0, fa0_1, fa0_2, fa0_3, fa0_4, fa0_5⟩ := thaw6 ka0; have ka1 := (Blk.newAt _ (w.heap.size + 1) 24 #[.int .i64 0, .int .i64 0, .int .i64 0, .slice none 0 0, .int .i64 0, .int .i64 0] (by simp)).below P1 (by simp <;> omega); obtain ⟨qa1_0, qa1_1, qa1_2, qa1_3, qa1_4, qa1_5⟩ := box6 ka1; obtain ⟨fa1_0, fa1_1, fa1_2, fa1_3, fa1_4, fa1_5⟩ := thaw6 ka1
    have hz := P1.size
    simp at hz
    have BB := Lib.hid (HB0.out.trans (P1.mono (by simp <;> omega)))
    clear P1
    go_wp2_with fail
    have kb0 := ka1.set 0 (.int .i64 0); have kb1 := kb0.set 1 (.int .i64 0); have kb2 := kb1.set 2 (.int .i64 0); have kb3 := kb2.set 3 (.slice none 0 0); have kb4 := kb3.set 4 (.int .i64 0); have kb5 := kb4.set 5 (.int .i64 0); have gkb0 := kb5.cell 0; have gkb1 := kb5.cell 1; have gkb2 := kb5.cell 2; have gkb3 := kb5.cell 3; have gkb4 := kb5.cell 4; have gkb5 := kb5.cell 5
    rw [HE.out, HH.out]
    refine bodyPost_ret (v := .tuple #[.agg #[.int .i64 0, .int .i64 0, .int .i64 0, .slice none 0 0, .int .i64 0, .int .i64 0], .int .i64 1]) (by simp [results, Try.results9, go_sem, gkb0, gkb1, gkb2, gkb3, gkb4, gkb5]) rfl ⟨_, rfl, h0_rd _ _, ?_⟩
    repeat (refine Below.setCell ?_ (by simp <;> omega) _)
    exact BB.out

  · have HR := Lib.hid hri
    have hnow := ri_now hri
    by_cases hw : 1000000000 ≤ h.now
    · have HE := Lib.hid (show tickE h = 2 by simp [tickE, hri, hw])
      have HH := Lib.hid (show tickH h = h0 by rw [tickH, HE.out]; rfl)
      clear hri hnow
      go_enter Try.func9, Try.ntmps9
      go_wp2_with fail
      refine (HC1.out _ HB0.out).mono ?_
      rw [HR.out, err_t]
      rintro e w1 ⟨rfl, P1⟩
      have ka0 := ((Blk.newAt _ (w.heap.size) 24 #[.int .i64 h.node, .int .i64 h.now, .int .i64 h.ask, .slice a3 (h.sent).length c3, .int .i64 h.seq, .int .i64 h.at_] (by simp)).alloc _).below P1 (by simp <;> omega); obtain ⟨qa0_0, qa0_1, qa0_2, qa0_3, qa0_4, qa0_5⟩ := box6 ka0; obtain ⟨fa0_0, fa0_1, fa0_2, fa0_3, fa0_4, fa0_5⟩ := thaw6 ka0; have ka1 := (Blk.newAt _ (w.heap.size + 1) 24 #[.int .i64 0, .int .i64 0, .int .i64 0, .slice none 0 0, .int .i64 0, .int .i64 0] (by simp)).below P1 (by simp <;> omega); obtain ⟨qa1_0, qa1_1, qa1_2, qa1_3, qa1_4, qa1_5⟩ := box6 ka1; obtain ⟨fa1_0, fa1_1, fa1_2, fa1_3, fa1_4, fa1_5⟩ := thaw6 ka1
      have hz := P1.size
      simp at hz
      have BB := Lib.hid (HB0.out.trans (P1.mono (by simp <;> omega)))
      clear P1
      go_wp2_with fail
      have kb0 := ka1.set 0 (.int .i64 0); have kb1 := kb0.set 1 (.int .i64 0); have kb2 := kb1.set 2 (.int .i64 0); have kb3 := kb2.set 3 (.slice none 0 0); have kb4 := kb3.set 4 (.int .i64 0); have kb5 := kb4.set 5 (.int .i64 0); have gkb0 := kb5.cell 0; have gkb1 := kb5.cell 1; have gkb2 := kb5.cell 2; have gkb3 := kb5.cell 3; have gkb4 := kb5.cell 4; have gkb5 := kb5.cell 5
      rw [HE.out, HH.out]
      refine bodyPost_ret (v := .tuple #[.agg #[.int .i64 0, .int .i64 0, .int .i64 0, .slice none 0 0, .int .i64 0, .int .i64 0], .int .i64 2]) (by simp [results, Try.results9, go_sem, gkb0, gkb1, gkb2, gkb3, gkb4, gkb5]) rfl ⟨_, rfl, h0_rd _ _, ?_⟩
      repeat (refine Below.setCell ?_ (by simp <;> omega) _)
      exact BB.out

    · have HE := Lib.hid (show tickE h = 0 by simp [tickE, hri, hw])
      have HH := Lib.hid (show tickH h = h.tick by rw [tickH, HE.out]; rfl)
      have hnow2 : 0 ≤ h.now := by
        rcases hnow with h1 | h1
        · omega
        · exact absurd b0 h1
      clear hri hnow
      go_enter Try.func9, Try.ntmps9
      go_wp2_with fail
      refine (HC1.out _ HB0.out).mono ?_
      rw [HR.out, err_t]
      rintro e w1 ⟨rfl, P1⟩
      have ka0 := ((Blk.newAt _ (w.heap.size) 24 #[.int .i64 h.node, .int .i64 h.now, .int .i64 h.ask, .slice a3 (h.sent).length c3, .int .i64 h.seq, .int .i64 h.at_] (by simp)).alloc _).below P1 (by simp <;> omega); obtain ⟨qa0_0, qa0_1, qa0_2, qa0_3, qa0_4, qa0_5⟩ := box6 ka0; obtain ⟨fa0_0, fa0_1, fa0_2, fa0_3, fa0_4, fa0_5⟩ := thaw6 ka0; have ka1 := (Blk.newAt _ (w.heap.size + 1) 24 #[.int .i64 0, .int .i64 0, .int .i64 0, .slice none 0 0, .int .i64 0, .int .i64 0] (by simp)).below P1 (by simp <;> omega); obtain ⟨qa1_0, qa1_1, qa1_2, qa1_3, qa1_4, qa1_5⟩ := box6 ka1; obtain ⟨fa1_0, fa1_1, fa1_2, fa1_3, fa1_4, fa1_5⟩ := thaw6 ka1
      have hz := P1.size
      simp at hz
      have BB := Lib.hid (HB0.out.trans (P1.mono (by simp <;> omega)))
      clear P1
      go_wp2_with fail
      refine (HC2.out _ BB.out).mono ?_
      rintro e w2 ⟨v, rfl, ho, P2⟩
      obtain ⟨av, cv, rfl⟩ := ho.form
      have HO := Lib.hid ho
      rw [List.length_map] at HO
      have kb0 := ka0.below P2 (by omega)
      have kb1 := ka1.below P2 (by omega)
      have hz2 := P2.size
      have BB2 := Lib.hid (BB.out.trans (P2.mono (by omega)))
      clear P2 ho qa0_0 qa0_1 qa0_2 qa0_3 qa0_4 qa0_5 qa1_0 qa1_1 qa1_2 qa1_3 qa1_4 qa1_5 fa0_0 fa0_1 fa0_2 fa0_3 fa0_4 fa0_5 fa1_0 fa1_1 fa1_2 fa1_3 fa1_4 fa1_5
      obtain ⟨q0, q1, q2, q3, q4, q5⟩ := box6 kb0
      obtain ⟨f0, f1, f2, f3, f4, f5⟩ := thaw6 kb0
      rw [List.length_map]
      go_upto_region 6 with fail
      clear q0 q1 q2 q3 q4 q5 f0 f1 f2 f3 f4 f5
      obtain ⟨X, hX⟩ : ∃ W : World, ((((((w2.setCell ⟨w.heap.size, 0, none⟩ (.int .i64 h.node)).setCell ⟨w.heap.size, 1, none⟩ (.int .i64 h.now)).setCell ⟨w.heap.size, 2, none⟩ (.int .i64 h.ask)).setCell ⟨w.heap.size, 3, none⟩ (.slice av h.sent.length cv)).setCell ⟨w.heap.size, 4, none⟩ (.int .i64 h.seq)).setCell ⟨w.heap.size, 5, none⟩ (.int .i64 h.at_)) = W := ⟨_, rfl⟩; rw [hX]; have kb0X := put6_self kb0 (.int .i64 h.node) (.int .i64 h.now) (.int .i64 h.ask) (.slice av h.sent.length cv) (.int .i64 h.seq) (.int .i64 h.at_); rw [hX] at kb0X; have kb1X := put6_far kb1 (by omega) (b := w.heap.size) (.int .i64 h.node) (.int .i64 h.now) (.int .i64 h.ask) (.slice av h.sent.length cv) (.int .i64 h.seq) (.int .i64 h.at_); rw [hX] at kb1X; have HOX := Lib.hid (put6_own HO.out (by omega) (b := w.heap.size) (.int .i64 h.node) (.int .i64 h.now) (.int .i64 h.ask) (.slice av h.sent.length cv) (.int .i64 h.seq) (.int .i64 h.at_)); rw [hX] at HOX; have BB2X := Lib.hid (put6_below BB2.out (by omega) (b := w.heap.size) (.int .i64 h.node) (.int .i64 h.now) (.int .i64 h.ask) (.slice av h.sent.length cv) (.int .i64 h.seq) (.int .i64 h.at_)); rw [hX] at BB2X; have zX : w2.heap.size ≤ X.heap.size := (by rw [← hX] <;> simp [World.setCell]); clear hX
      obtain ⟨q0, q1, q2, q3, q4, q5⟩ := box6 kb0X
      obtain ⟨f0, f1, f2, f3, f4, f5⟩ := thaw6 kb0X
      go_upto_region 7 with fail
      clear q0 q1 q2 q3 q4 q5 f0 f1 f2 f3 f4 f5
      obtain ⟨Y, hY⟩ : ∃ W : World, (X.setCell ⟨w.heap.size, 1, none⟩ (.int .i64 (h.now + 1))) = W := ⟨_, rfl⟩; rw [hY]; have kb0XY := Blk.put1 kb0X 1 (.int .i64 (h.now + 1)) #[.int .i64 h.node, .int .i64 (h.now + 1), .int .i64 h.ask, .slice av h.sent.length cv, .int .i64 h.seq, .int .i64 h.at_] rfl; rw [hY] at kb0XY; have kb1XY := put1_far kb1X (by omega) (b := w.heap.size) (1) (.int .i64 (h.now + 1)); rw [hY] at kb1XY; have HOXY := Lib.hid (put1_own HOX.out (by omega) (b := w.heap.size) (1) (.int .i64 (h.now + 1))); rw [hY] at HOXY; have BB2XY := Lib.hid (put1_below BB2X.out (by omega) (b := w.heap.size) (1) (.int .i64 (h.now + 1))); rw [hY] at BB2XY; have zY : X.heap.size ≤ Y.heap.size := (by rw [← hY] <;> simp [World.setCell]); clear hY
      obtain ⟨q0, q1, q2, q3, q4, q5⟩ := box6 kb0XY
      obtain ⟨p0, p1, p2, p3, p4, p5⟩ := thaw6 kb1XY
      obtain ⟨o0, o1, o2, o3, o4, o5⟩ := box6 kb1XY
      go_wp2_with fail
      clear q0 q1 q2 q3 q4 q5 o0 o1 o2 o3 o4 o5 p0 p1 p2 p3 p4 p5
      obtain ⟨Z, hZ⟩ : ∃ W : World, ((((((Y.setCell ⟨w.heap.size + 1, 0, none⟩ (.int .i64 h.node)).setCell ⟨w.heap.size + 1, 1, none⟩ (.int .i64 (h.now + 1))).setCell ⟨w.heap.size + 1, 2, none⟩ (.int .i64 h.ask)).setCell ⟨w.heap.size + 1, 3, none⟩ (.slice av h.sent.length cv)).setCell ⟨w.heap.size + 1, 4, none⟩ (.int .i64 h.seq)).setCell ⟨w.heap.size + 1, 5, none⟩ (.int .i64 h.at_)) = W := ⟨_, rfl⟩; rw [hZ]; have kb1XYZ := put6_self kb1XY (.int .i64 h.node) (.int .i64 (h.now + 1)) (.int .i64 h.ask) (.slice av h.sent.length cv) (.int .i64 h.seq) (.int .i64 h.at_); rw [hZ] at kb1XYZ; have HOXYZ := Lib.hid (put6_own HOXY.out (by omega) (b := w.heap.size + 1) (.int .i64 h.node) (.int .i64 (h.now + 1)) (.int .i64 h.ask) (.slice av h.sent.length cv) (.int .i64 h.seq) (.int .i64 h.at_)); rw [hZ] at HOXYZ; have BB2XYZ := Lib.hid (put6_below BB2XY.out (by omega) (b := w.heap.size + 1) (.int .i64 h.node) (.int .i64 (h.now + 1)) (.int .i64 h.ask) (.slice av h.sent.length cv) (.int .i64 h.seq) (.int .i64 h.at_)); rw [hZ] at BB2XYZ; have zZ : Y.heap.size ≤ Z.heap.size := (by rw [← hZ] <;> simp [World.setCell]); clear hZ
      obtain ⟨q0, q1, q2, q3, q4, q5⟩ := box6 kb1XYZ
      rw [HE.out, HH.out]
      refine bodyPost_ret (v := .tuple #[.agg #[.int .i64 h.node, .int .i64 (h.now + 1), .int .i64 h.ask, .slice av h.sent.length cv, .int .i64 h.seq, .int .i64 h.at_], .int .i64 0]) (by simp [results, Try.results9, go_sem, q0, q1, q2, q3, q4, q5]) rfl ?_
      refine ⟨[.int .i64 h.node, .int .i64 (h.now + 1), .int .i64 h.ask, .slice av h.sent.length cv, .int .i64 h.seq, .int .i64 h.at_], rfl, ?_, BB2XYZ.out⟩
      exact hold_rd (base := w1.heap.size) (h := h.tick) HOXYZ.out hn (by omega) b0 ⟨by show -9223372036854775808 ≤ h.now + 1; omega, by show h.now + 1 ≤ _; omega⟩ b2 b4 b5
set_option maxHeartbeats 2000000 in
theorem rtick_any (vs : List Value) (h : Holder) (w : World) (S : Nat → Prop) (hr : RdL w S Holder.ty vs h.enc) (hn : h.sent.length ≤ 1000000) :
    Calls Try.prog 10 #[.agg vs.toArray] w (H2Post w (tickH h) (tickE h)) := by
  have hc1 := fun w' (hb : Below w.heap.size w w') => right_any vs h w' S (RdL.same (Same.below hb) hr)
  have hc2 := fun w' (hb : Below w.heap.size w w') => rhown_any vs h w' S (RdL.same (Same.below hb) hr) hn
  have HC1 := Lib.hid hc1
  have HC2 := Lib.hid hc2
  obtain ⟨a3, c3, rfl, b0, b1, b2, s3, b4, b5⟩ := Holder.opens hr
  have B0 : Below w.heap.size w ((w.alloc (.cells #[.int .i64 h.node, .int .i64 h.now, .int .i64 h.ask, .slice a3 (h.sent).length c3, .int .i64 h.seq, .int .i64 h.at_] 24)).alloc (.cells #[.int .i64 0, .int .i64 0, .int .i64 0, .slice none 0 0, .int .i64 0, .int .i64 0] 24)) := ((Below.refl _ w).alloc (Nat.le_refl _) _).alloc (by simp) _
  have HB0 := Lib.hid B0
  clear hr s3 B0 hc1 hc2
  cases hri : riB h
  · have HR := Lib.hid hri
    have HE := Lib.hid (show tickE h = 1 by simp [tickE, hri])
    have HH := Lib.hid (show tickH h = h0 by rw [tickH, HE.out]; rfl)
    clear hri
    go_enter Try.func10, Try.ntmps10
    go_wp2_with fail
    refine (HC1.out _ HB0.out).mono ?_
    rw [HR.out]
    rintro e w1 ⟨rfl, P1⟩
    have ka0 := ((Blk.newAt _ (w.heap.size) 24 #[.int .i64 h.node, .int .i64 h.now, .int .i64 h.ask, .slice a3 (h.sent).length c3, .int .i64 h.seq, .int .i64 h.at_] (by simp)).alloc _).below P1 (by simp <;> omega); obtain ⟨qa0_0, qa0_1, qa0_2, qa0_3, qa0_4, qa0_5⟩ := box6 ka0; obtain ⟨fa0_0, fa0_1, fa0_2, fa0_3, fa0_4, fa0_5⟩ := thaw6 ka0; have ka1 := (Blk.newAt _ (w.heap.size + 1) 24 #[.int .i64 0, .int .i64 0, .int .i64 0, .slice none 0 0, .int .i64 0, .int .i64 0] (by simp)).below P1 (by simp <;> omega); obtain ⟨qa1_0, qa1_1, qa1_2, qa1_3, qa1_4, qa1_5⟩ := box6 ka1; obtain ⟨fa1_0, fa1_1, fa1_2, fa1_3, fa1_4, fa1_5⟩ := thaw6 ka1
    have hz := P1.size
    simp at hz
    have BB := Lib.hid (HB0.out.trans (P1.mono (by simp <;> omega)))
    clear P1
    go_wp2_with fail
    have kb0 := ka1.set 0 (.int .i64 0); have kb1 := kb0.set 1 (.int .i64 0); have kb2 := kb1.set 2 (.int .i64 0); have kb3 := kb2.set 3 (.slice none 0 0); have kb4 := kb3.set 4 (.int .i64 0); have kb5 := kb4.set 5 (.int .i64 0); have gkb0 := kb5.cell 0; have gkb1 := kb5.cell 1; have gkb2 := kb5.cell 2; have gkb3 := kb5.cell 3; have gkb4 := kb5.cell 4; have gkb5 := kb5.cell 5
    rw [HE.out, HH.out]
    refine bodyPost_ret (v := .tuple #[.agg #[.int .i64 0, .int .i64 0, .int .i64 0, .slice none 0 0, .int .i64 0, .int .i64 0], .int .i64 1]) (by simp [results, Try.results10, go_sem, gkb0, gkb1, gkb2, gkb3, gkb4, gkb5]) rfl ⟨_, rfl, h0_rd _ _, ?_⟩
    repeat (refine Below.setCell ?_ (by simp <;> omega) _)
    exact BB.out

  · have HR := Lib.hid hri
    have hnow := ri_now hri
    by_cases hw : 1000000000 ≤ h.now
    · have HE := Lib.hid (show tickE h = 2 by simp [tickE, hri, hw])
      have HH := Lib.hid (show tickH h = h0 by rw [tickH, HE.out]; rfl)
      clear hri hnow
      go_enter Try.func10, Try.ntmps10
      go_wp2_with fail
      refine (HC1.out _ HB0.out).mono ?_
      rw [HR.out]
      rintro e w1 ⟨rfl, P1⟩
      have ka0 := ((Blk.newAt _ (w.heap.size) 24 #[.int .i64 h.node, .int .i64 h.now, .int .i64 h.ask, .slice a3 (h.sent).length c3, .int .i64 h.seq, .int .i64 h.at_] (by simp)).alloc _).below P1 (by simp <;> omega); obtain ⟨qa0_0, qa0_1, qa0_2, qa0_3, qa0_4, qa0_5⟩ := box6 ka0; obtain ⟨fa0_0, fa0_1, fa0_2, fa0_3, fa0_4, fa0_5⟩ := thaw6 ka0; have ka1 := (Blk.newAt _ (w.heap.size + 1) 24 #[.int .i64 0, .int .i64 0, .int .i64 0, .slice none 0 0, .int .i64 0, .int .i64 0] (by simp)).below P1 (by simp <;> omega); obtain ⟨qa1_0, qa1_1, qa1_2, qa1_3, qa1_4, qa1_5⟩ := box6 ka1; obtain ⟨fa1_0, fa1_1, fa1_2, fa1_3, fa1_4, fa1_5⟩ := thaw6 ka1
      have hz := P1.size
      simp at hz
      have BB := Lib.hid (HB0.out.trans (P1.mono (by simp <;> omega)))
      clear P1
      go_wp2_with fail
      have kb0 := ka1.set 0 (.int .i64 0); have kb1 := kb0.set 1 (.int .i64 0); have kb2 := kb1.set 2 (.int .i64 0); have kb3 := kb2.set 3 (.slice none 0 0); have kb4 := kb3.set 4 (.int .i64 0); have kb5 := kb4.set 5 (.int .i64 0); have gkb0 := kb5.cell 0; have gkb1 := kb5.cell 1; have gkb2 := kb5.cell 2; have gkb3 := kb5.cell 3; have gkb4 := kb5.cell 4; have gkb5 := kb5.cell 5
      rw [HE.out, HH.out]
      refine bodyPost_ret (v := .tuple #[.agg #[.int .i64 0, .int .i64 0, .int .i64 0, .slice none 0 0, .int .i64 0, .int .i64 0], .int .i64 2]) (by simp [results, Try.results10, go_sem, gkb0, gkb1, gkb2, gkb3, gkb4, gkb5]) rfl ⟨_, rfl, h0_rd _ _, ?_⟩
      repeat (refine Below.setCell ?_ (by simp <;> omega) _)
      exact BB.out

    · have HE := Lib.hid (show tickE h = 0 by simp [tickE, hri, hw])
      have HH := Lib.hid (show tickH h = h.tick by rw [tickH, HE.out]; rfl)
      have hnow2 : 0 ≤ h.now := by
        rcases hnow with h1 | h1
        · omega
        · exact absurd b0 h1
      clear hri hnow
      go_enter Try.func10, Try.ntmps10
      go_wp2_with fail
      refine (HC1.out _ HB0.out).mono ?_
      rw [HR.out]
      rintro e w1 ⟨rfl, P1⟩
      have ka0 := ((Blk.newAt _ (w.heap.size) 24 #[.int .i64 h.node, .int .i64 h.now, .int .i64 h.ask, .slice a3 (h.sent).length c3, .int .i64 h.seq, .int .i64 h.at_] (by simp)).alloc _).below P1 (by simp <;> omega); obtain ⟨qa0_0, qa0_1, qa0_2, qa0_3, qa0_4, qa0_5⟩ := box6 ka0; obtain ⟨fa0_0, fa0_1, fa0_2, fa0_3, fa0_4, fa0_5⟩ := thaw6 ka0; have ka1 := (Blk.newAt _ (w.heap.size + 1) 24 #[.int .i64 0, .int .i64 0, .int .i64 0, .slice none 0 0, .int .i64 0, .int .i64 0] (by simp)).below P1 (by simp <;> omega); obtain ⟨qa1_0, qa1_1, qa1_2, qa1_3, qa1_4, qa1_5⟩ := box6 ka1; obtain ⟨fa1_0, fa1_1, fa1_2, fa1_3, fa1_4, fa1_5⟩ := thaw6 ka1
      have hz := P1.size
      simp at hz
      have BB := Lib.hid (HB0.out.trans (P1.mono (by simp <;> omega)))
      clear P1
      go_wp2_with fail
      refine (HC2.out _ BB.out).mono ?_
      rintro e w2 ⟨v, rfl, ho, P2⟩
      obtain ⟨av, cv, rfl⟩ := ho.form
      have HO := Lib.hid ho
      rw [List.length_map] at HO
      have kb0 := ka0.below P2 (by omega)
      have kb1 := ka1.below P2 (by omega)
      have hz2 := P2.size
      have BB2 := Lib.hid (BB.out.trans (P2.mono (by omega)))
      clear P2 ho qa0_0 qa0_1 qa0_2 qa0_3 qa0_4 qa0_5 qa1_0 qa1_1 qa1_2 qa1_3 qa1_4 qa1_5 fa0_0 fa0_1 fa0_2 fa0_3 fa0_4 fa0_5 fa1_0 fa1_1 fa1_2 fa1_3 fa1_4 fa1_5
      obtain ⟨q0, q1, q2, q3, q4, q5⟩ := box6 kb0
      obtain ⟨f0, f1, f2, f3, f4, f5⟩ := thaw6 kb0
      rw [List.length_map]
      go_upto_region 7 with fail
      clear q0 q1 q2 q3 q4 q5 f0 f1 f2 f3 f4 f5
      obtain ⟨Y, hY⟩ : ∃ W : World, w2.alloc (.cells #[.int .i64 h.node, .int .i64 (h.now + 1), .int .i64 h.ask, .slice av h.sent.length cv, .int .i64 h.seq, .int .i64 h.at_] 24) = W := ⟨_, rfl⟩; rw [hY]; have kcY := Blk.new w2 24 #[.int .i64 h.node, .int .i64 (h.now + 1), .int .i64 h.ask, .slice av h.sent.length cv, .int .i64 h.seq, .int .i64 h.at_]; rw [hY] at kcY; have kb1Y := kb1.alloc (.cells #[.int .i64 h.node, .int .i64 (h.now + 1), .int .i64 h.ask, .slice av h.sent.length cv, .int .i64 h.seq, .int .i64 h.at_] 24); rw [hY] at kb1Y; have HOY := Lib.hid (HO.out.alloc (.cells #[.int .i64 h.node, .int .i64 (h.now + 1), .int .i64 h.ask, .slice av h.sent.length cv, .int .i64 h.seq, .int .i64 h.at_] 24)); rw [hY] at HOY; have BB2Y := Lib.hid (BB2.out.alloc BB2.out.size (.cells #[.int .i64 h.node, .int .i64 (h.now + 1), .int .i64 h.ask, .slice av h.sent.length cv, .int .i64 h.seq, .int .i64 h.at_] 24)); rw [hY] at BB2Y; have zY : w2.heap.size + 1 ≤ Y.heap.size := (by rw [← hY] <;> simp); clear hY
      obtain ⟨q0, q1, q2, q3, q4, q5⟩ := box6 kcY
      obtain ⟨p0, p1, p2, p3, p4, p5⟩ := thaw6 kb1Y
      obtain ⟨o0, o1, o2, o3, o4, o5⟩ := box6 kb1Y
      go_wp2_with fail
      clear q0 q1 q2 q3 q4 q5 o0 o1 o2 o3 o4 o5 p0 p1 p2 p3 p4 p5
      obtain ⟨Z, hZ⟩ : ∃ W : World, ((((((Y.setCell ⟨w.heap.size + 1, 0, none⟩ (.int .i64 h.node)).setCell ⟨w.heap.size + 1, 1, none⟩ (.int .i64 (h.now + 1))).setCell ⟨w.heap.size + 1, 2, none⟩ (.int .i64 h.ask)).setCell ⟨w.heap.size + 1, 3, none⟩ (.slice av h.sent.length cv)).setCell ⟨w.heap.size + 1, 4, none⟩ (.int .i64 h.seq)).setCell ⟨w.heap.size + 1, 5, none⟩ (.int .i64 h.at_)) = W := ⟨_, rfl⟩; rw [hZ]; have kb1YZ := put6_self kb1Y (.int .i64 h.node) (.int .i64 (h.now + 1)) (.int .i64 h.ask) (.slice av h.sent.length cv) (.int .i64 h.seq) (.int .i64 h.at_); rw [hZ] at kb1YZ; have HOYZ := Lib.hid (put6_own HOY.out (by omega) (b := w.heap.size + 1) (.int .i64 h.node) (.int .i64 (h.now + 1)) (.int .i64 h.ask) (.slice av h.sent.length cv) (.int .i64 h.seq) (.int .i64 h.at_)); rw [hZ] at HOYZ; have BB2YZ := Lib.hid (put6_below BB2Y.out (by omega) (b := w.heap.size + 1) (.int .i64 h.node) (.int .i64 (h.now + 1)) (.int .i64 h.ask) (.slice av h.sent.length cv) (.int .i64 h.seq) (.int .i64 h.at_)); rw [hZ] at BB2YZ; have zZ : Y.heap.size ≤ Z.heap.size := (by rw [← hZ] <;> simp [World.setCell]); clear hZ
      obtain ⟨q0, q1, q2, q3, q4, q5⟩ := box6 kb1YZ
      rw [HE.out, HH.out]
      refine bodyPost_ret (v := .tuple #[.agg #[.int .i64 h.node, .int .i64 (h.now + 1), .int .i64 h.ask, .slice av h.sent.length cv, .int .i64 h.seq, .int .i64 h.at_], .int .i64 0]) (by simp [results, Try.results10, go_sem, q0, q1, q2, q3, q4, q5]) rfl ?_
      refine ⟨[.int .i64 h.node, .int .i64 (h.now + 1), .int .i64 h.ask, .slice av h.sent.length cv, .int .i64 h.seq, .int .i64 h.at_], rfl, ?_, BB2YZ.out⟩
      exact hold_rd (base := w1.heap.size) (h := h.tick) HOYZ.out hn (by omega) b0 ⟨by show -9223372036854775808 ≤ h.now + 1; omega, by show h.now + 1 ≤ _; omega⟩ b2 b4 b5
end Go.Proofs.Ytjfphnegcelbpaa
