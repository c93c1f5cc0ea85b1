/- The law's example: good. No condition. -/
import Derived.Test.YtjfphnegcelbpaaHoM
namespace Go.Proofs.Ytjfphnegcelbpaa
open Go.RowKit
set_option linter.unusedVariables false
set_option linter.unusedSimpArgs false
def oneH : Holder := ⟨11, 0, 0, [], 0, 0⟩
def h1H : Holder := ⟨11, 0, 1, [⟨1, 0⟩], 0, 0⟩
def h2H (k : Nat) : Holder := ⟨11, k, 1, [], 5, 0⟩
theorem w11 : wrap64 (11 - 11) = 0 := by unfold wrap64; omega
theorem ri_one : riB oneH = true := ckB_iff.2 ⟨by unfold headB; simp only [oneH]; rw [w11]; decide, fun i hi => absurd hi (by simp [oneH])⟩
theorem ri_h1 : riB h1H = true := ckB_iff.2 ⟨by unfold headB; simp only [h1H]; rw [w11]; decide, fun i hi => by
  have : i = 0 := by simp [h1H] at hi; omega
  subst this
  refine ⟨?_, ?_, ?_, ?_⟩ <;> decide⟩
theorem ri_h2 {k : Nat} (hk : k ≤ 100) : riB (h2H k) = true := ckB_iff.2 ⟨by
  have h1 : wiB ((k : Nat) : Int) 1000000000 = true := wiB_iff.2 ⟨by omega, by omega⟩
  have h2 : wiB 0 ((k : Nat) : Int) = true := wiB_iff.2 ⟨by omega, by omega⟩
  unfold headB h2H
  simp only [h1, h2]
  rw [w11]
  rfl, fun i hi => absurd hi (by simp [h2H])⟩
theorem ask_oneE : askE oneH = 0 := by rw [askE, ri_one]; rfl
theorem ask_oneH : askH oneH = h1H := by rw [askH, ask_oneE]; rfl
theorem ask_oneN : askN oneH = 1 := by rw [askN, ask_oneE]; rfl
theorem take_h1B : takeB h1H 1 5 = true := by rw [takeB, ri_h1]; decide
theorem take_h1H : takeH h1H 1 5 = h2H 0 := by rw [takeH, take_h1B]; rfl
theorem take_h1E : takeE h1H = 0 := by rw [takeE, ri_h1]; rfl
theorem tick_h2E {k : Nat} (hk : k ≤ 99) : tickE (h2H k) = 0 := by
  rw [tickE, ri_h2 (by omega), if_pos rfl, if_neg]
  show ¬ (1000000000 ≤ ((k : Nat) : Int))
  omega
theorem tick_h2H {k : Nat} (hk : k ≤ 99) : tickH (h2H k) = h2H (k + 1) := by
  rw [tickH, tick_h2E hk, if_pos rfl]; rfl
theorem good_h2 {k : Nat} (hk : k ≤ 7) : goodB (h2H k) = true := by
  rw [goodB, ri_h2 (by omega)]
  have : (h2H k).now - (h2H k).at_ < 8 := by show ((k : Nat) : Int) - 0 < 8; omega
  simp [this]; show ¬ (5 : Int) = 0; decide
theorem good_h28 : goodB (h2H 8) = false := by
  rw [goodB, ri_h2 (by omega)]; rfl
theorem one_any (w : World) : Calls Try.prog 25 #[] w (APost w Holder.ty oneH.enc) := by
  go_enter Try.func25, Try.ntmps25
  go_wp2_with fail
  refine bodyPost_ret (v := .agg #[.int .i64 11, .int .i64 0, .int .i64 0, .slice none 0 0, .int .i64 0, .int .i64 0]) (by simp [results, Try.results25, go_sem]) rfl ?_
  refine ⟨[.int .i64 11, .int .i64 0, .int .i64 0, .slice none 0 0, .int .i64 0, .int .i64 0], rfl, ?_, (Below.refl _ _).alloc (Nat.le_refl _) _⟩
  exact Holder.shuts oneH ⟨by decide, by decide⟩ iz iz (.emp (fun _ => rfl) (by simp [maxLen])) iz iz
set_option maxHeartbeats 4000000 in
theorem good'_any (w : World) : Calls Try.prog 11 #[] w (SPost w) := by
  go_enter Try.func11, Try.ntmps11
  go_wp2_with fail
  refine (one_any w).mono ?_
  rintro e w1 ⟨vs1, rfl, r1, B1⟩
  go_wp2_with fail
  refine (ask_any vs1 oneH w1 _ r1 (by decide)).mono ?_
  rw [ask_oneE, ask_oneH, ask_oneN]
  rintro e w2 ⟨vs2, rfl, r2, B2⟩
  obtain ⟨a2, c2, rfl, _, _, _, s2, _, _⟩ := Holder.opens r2
  have R2 := Lib.hid r2
  have hB2 := Lib.hid (B1.trans (B2.mono B1.size))
  clear r1 r2 s2 B1 B2
  simp only [h1H, List.length_cons, List.length_nil, Nat.zero_add]
  go_upto_region 2 with fail
  obtain ⟨X, hX⟩ : ∃ W : World, w2.alloc (.cells #[.int .i64 11, .int .i64 0, .int .i64 1, .slice a2 1 c2, .int .i64 0, .int .i64 0] 24) = W := ⟨_, rfl⟩; rw [hX]; have kcX := Blk.new w2 24 #[.int .i64 11, .int .i64 0, .int .i64 1, .slice a2 1 c2, .int .i64 0, .int .i64 0]; rw [hX] at kcX; have hB2X := Lib.hid (hB2.out.alloc hB2.out.size (.cells #[.int .i64 11, .int .i64 0, .int .i64 1, .slice a2 1 c2, .int .i64 0, .int .i64 0] 24)); rw [hX] at hB2X; have R2X := Lib.hid (RdL.same (Same.alloc _ w2 (.cells #[.int .i64 11, .int .i64 0, .int .i64 1, .slice a2 1 c2, .int .i64 0, .int .i64 0] 24)) R2.out); rw [hX] at R2X; have zX : w2.heap.size + 1 ≤ X.heap.size := (by rw [← hX] <;> simp); clear hX
  obtain ⟨q0, q1, q2, q3, q4, q5⟩ := box6 kcX
  obtain ⟨f0, f1, f2, f3, f4, f5⟩ := thaw6 kcX
  go_wp2_with fail
  refine (take_any _ h1H X _ R2X.out (by decide) 1 5 ⟨by decide, by decide⟩ ⟨by decide, by decide⟩).mono ?_
  rw [take_h1B, take_h1H, take_h1E]
  rintro e w3 ⟨vs3, rfl, r3, B3⟩
  obtain ⟨a3, c3, rfl, _, _, _, s3, _, _⟩ := Holder.opens r3
  have R3 := Lib.hid r3
  have k3 := kcX.below B3 kcX.lt
  have z3 := B3.size
  have hB3 := Lib.hid (hB2X.out.trans (B3.mono hB2X.out.size))
  have hzw := hB2.out.size
  clear r3 s3 B3 q0 q1 q2 q3 q4 q5 f0 f1 f2 f3 f4 f5
  simp only [h2H, List.length_nil, Int.natCast_zero]
  obtain ⟨q0, q1, q2, q3, q4, q5⟩ := box6 k3
  obtain ⟨f0, f1, f2, f3, f4, f5⟩ := thaw6 k3
  go_upto_region 3 with fail
  clear q0 q1 q2 q3 q4 q5 f0 f1 f2 f3 f4 f5
  obtain ⟨Y, hY⟩ : ∃ W : World, ((((((w3.setCell ⟨w2.heap.size, 0, none⟩ (.int .i64 11)).setCell ⟨w2.heap.size, 1, none⟩ (.int .i64 0)).setCell ⟨w2.heap.size, 2, none⟩ (.int .i64 1)).setCell ⟨w2.heap.size, 3, none⟩ (.slice a3 0 c3)).setCell ⟨w2.heap.size, 4, none⟩ (.int .i64 5)).setCell ⟨w2.heap.size, 5, none⟩ (.int .i64 0)) = W := ⟨_, rfl⟩; rw [hY]; have k3Y := put6_self k3 (.int .i64 11) (.int .i64 0) (.int .i64 1) (.slice a3 0 c3) (.int .i64 5) (.int .i64 0); rw [hY] at k3Y; have hB3Y := Lib.hid (put6_below hB3.out (by omega) (b := w2.heap.size) (.int .i64 11) (.int .i64 0) (.int .i64 1) (.slice a3 0 c3) (.int .i64 5) (.int .i64 0)); rw [hY] at hB3Y; have R3Y := Lib.hid (put6_rd R3.out (by show ¬ _; omega) (b := w2.heap.size) (.int .i64 11) (.int .i64 0) (.int .i64 1) (.slice a3 0 c3) (.int .i64 5) (.int .i64 0)); rw [hY] at R3Y; have zY : w3.heap.size ≤ Y.heap.size := (by rw [← hY] <;> simp [World.setCell]); clear hY
  obtain ⟨q0, q1, q2, q3, q4, q5⟩ := box6 k3Y
  go_wp2_with fail
  refine (good_any _ (h2H 0) Y _ R3Y.out).mono ?_
  rw [good_h2 (by omega)]
  rintro e w4 ⟨rfl, B4⟩
  have k4 := k3Y.below B4 (by omega)
  have z4 := B4.size
  have R4 := Lib.hid (RdL.same (Same.below B4) R3Y.out)
  have hB4 := Lib.hid (hB3Y.out.trans (B4.mono hB3Y.out.size))
  clear B4 q0 q1 q2 q3 q4 q5
  obtain ⟨q0, q1, q2, q3, q4, q5⟩ := box6 k4
  go_wp2_with fail
  refine (hcheck_any _ (h2H 0) w4 _ R4.out).mono ?_
  rw [ri_h2 (by omega), err_t]
  rintro e w5 ⟨rfl, B5⟩
  have k5 := k4.below B5 (by omega)
  have z5 := B5.size
  have R5 := Lib.hid (RdL.same (Same.below B5) R4.out)
  have hB5 := Lib.hid (hB4.out.trans (B5.mono hB4.out.size))
  have K5 := Lib.hid k5
  clear B5 q0 q1 q2 q3 q4 q5 k5 k4
  go_wp2_with fail
  go_loopw [3, 6] (fun er i wr => ∃ (k : Nat) (vs : List Value), k ≤ 7 ∧ i = .int .i64 k ∧ er = .int .i64 0 ∧ RdL wr (fun b => w2.heap.size < b) Holder.ty vs (h2H k).enc ∧ Blk wr w2.heap.size 24 vs.toArray ∧ Below w.heap.size w wr) (fun _ i _ => 7 - (intOf i).toNat)
  case atStart => exact ⟨0, _, by omega, rfl, rfl, RdL.mono (fun b _ hb => by omega) R5.out, K5.out, hB5.out⟩
  case round =>
    obtain ⟨k, vs, hk, rfl, rfl, hr, hbk, hb⟩ := hrel
    obtain ⟨a6, c6, rfl, _, _, _, s6, _, _⟩ := Holder.opens hr
    have HR := Lib.hid hr
    have HB := Lib.hid hb
    have zb := hbk.lt
    have HK := Lib.hid hbk
    obtain ⟨q0, q1, q2, q3, q4, q5⟩ := box6 hbk
    obtain ⟨f0, f1, f2, f3, f4, f5⟩ := thaw6 hbk
    have hsz := hb.size
    clear hr hb s6
    by_cases hlt : k < 7
    · go_wp2_with fail
      refine (tick_any _ (h2H k) wr _ HR.out (show 0 ≤ 1000000 by decide)).mono ?_
      rw [tick_h2E (by omega), tick_h2H (by omega)]
      rintro e w7 ⟨vs7, rfl, r7, B7⟩
      obtain ⟨a7, c7, rfl, _, _, _, s7, _, _⟩ := Holder.opens r7
      have R7 := Lib.hid r7
      have k7 := hbk.below B7 zb
      have z7 := B7.size
      have hB7 := Lib.hid (HB.out.trans (B7.mono HB.out.size))
      clear r7 s7 B7 q0 q1 q2 q3 q4 q5 f0 f1 f2 f3 f4 f5
      obtain ⟨q0, q1, q2, q3, q4, q5⟩ := box6 k7
      obtain ⟨f0, f1, f2, f3, f4, f5⟩ := thaw6 k7
      go_wp2_with fail
      clear q0 q1 q2 q3 q4 q5 f0 f1 f2 f3 f4 f5
      go_roundw
      case rel =>
        refine ⟨k + 1, _, by omega, by go_num, rfl, RdL.mono (fun b _ hb => ?_) (put6_rd R7.out (b := w2.heap.size) (by show ¬ _; omega) _ _ _ _ _ _), put6_self k7 _ _ _ _ _ _, put6_below hB7.out (b := w2.heap.size) (by omega) _ _ _ _ _ _⟩
        show w2.heap.size < b
        have : wr.heap.size ≤ b := hb
        omega
      case measure => simp [intOf]; omega
    · obtain rfl : k = 7 := by omega
      go_wp2_with fail
      refine (tick_any _ (h2H 7) wr _ HR.out (show 0 ≤ 1000000 by decide)).mono ?_
      rw [tick_h2E (by omega), tick_h2H (by omega)]
      rintro e w7 ⟨vs7, rfl, r7, B7⟩
      obtain ⟨a7, c7, rfl, _, _, _, s7, _, _⟩ := Holder.opens r7
      have R7 := Lib.hid r7
      have k7 := hbk.below B7 zb
      have z7 := B7.size
      have hB7 := Lib.hid (HB.out.trans (B7.mono HB.out.size))
      have HR7 := Lib.hid (RdL.same (Same.below B7) HR.out)
      clear r7 s7 B7 q0 q1 q2 q3 q4 q5 f0 f1 f2 f3 f4 f5
      go_upto_region 10 with fail
      obtain ⟨X2, hX2⟩ : ∃ W : World, w7.alloc (.cells #[.int .i64 (h2H (7 + 1)).node, .int .i64 (h2H (7 + 1)).now, .int .i64 (h2H (7 + 1)).ask, .slice a7 (h2H (7 + 1)).sent.length c7, .int .i64 (h2H (7 + 1)).seq, .int .i64 (h2H (7 + 1)).at_] 24) = W := ⟨_, rfl⟩; rw [hX2]; have kxX2 := Blk.new w7 24 #[.int .i64 (h2H (7 + 1)).node, .int .i64 (h2H (7 + 1)).now, .int .i64 (h2H (7 + 1)).ask, .slice a7 (h2H (7 + 1)).sent.length c7, .int .i64 (h2H (7 + 1)).seq, .int .i64 (h2H (7 + 1)).at_]; rw [hX2] at kxX2; have k7X2 := k7.alloc (.cells #[.int .i64 (h2H (7 + 1)).node, .int .i64 (h2H (7 + 1)).now, .int .i64 (h2H (7 + 1)).ask, .slice a7 (h2H (7 + 1)).sent.length c7, .int .i64 (h2H (7 + 1)).seq, .int .i64 (h2H (7 + 1)).at_] 24); rw [hX2] at k7X2; have hB7X2 := Lib.hid (hB7.out.alloc hB7.out.size (.cells #[.int .i64 (h2H (7 + 1)).node, .int .i64 (h2H (7 + 1)).now, .int .i64 (h2H (7 + 1)).ask, .slice a7 (h2H (7 + 1)).sent.length c7, .int .i64 (h2H (7 + 1)).seq, .int .i64 (h2H (7 + 1)).at_] 24)); rw [hX2] at hB7X2; have R7X2 := Lib.hid (RdL.same (Same.alloc _ w7 (.cells #[.int .i64 (h2H (7 + 1)).node, .int .i64 (h2H (7 + 1)).now, .int .i64 (h2H (7 + 1)).ask, .slice a7 (h2H (7 + 1)).sent.length c7, .int .i64 (h2H (7 + 1)).seq, .int .i64 (h2H (7 + 1)).at_] 24)) R7.out); rw [hX2] at R7X2; have HR7X2 := Lib.hid (RdL.same (Same.alloc _ w7 (.cells #[.int .i64 (h2H (7 + 1)).node, .int .i64 (h2H (7 + 1)).now, .int .i64 (h2H (7 + 1)).ask, .slice a7 (h2H (7 + 1)).sent.length c7, .int .i64 (h2H (7 + 1)).seq, .int .i64 (h2H (7 + 1)).at_] 24)) HR7.out); rw [hX2] at HR7X2; have zX2 : w7.heap.size + 1 ≤ X2.heap.size := (by rw [← hX2] <;> simp); clear hX2
      obtain ⟨q0, q1, q2, q3, q4, q5⟩ := box6 k7X2
      go_wp2_with fail
      refine (good_any _ (h2H 7) X2 _ HR7X2.out).mono ?_
      rw [good_h2 (by omega)]
      rintro e w8 ⟨rfl, B8⟩
      have k8 := kxX2.below B8 (by omega)
      have R8 := Lib.hid (RdL.same (Same.below B8) R7X2.out)
      have hB8 := Lib.hid (hB7X2.out.trans (B8.mono hB7X2.out.size))
      clear B8 q0 q1 q2 q3 q4 q5
      obtain ⟨q0, q1, q2, q3, q4, q5⟩ := box6 k8
      go_wp2_with fail
      refine (good_any _ (h2H 8) w8 _ R8.out).mono ?_
      rw [good_h28]
      rintro e w9 ⟨rfl, B9⟩
      have hB9 := Lib.hid (hB8.out.trans (B9.mono hB8.out.size))
      clear B9 q0 q1 q2 q3 q4 q5
      go_wp2_with fail
      go_ret
      exact ⟨rfl, hB9.out⟩
end Go.Proofs.Ytjfphnegcelbpaa
