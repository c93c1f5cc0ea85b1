/- The walk of the law RaftlogSlice: true for every struct and numbers. No condition. -/
import Derived.Test.YteiojclemodhaaaOver
import Derived.Test.YteiojclemodhaaaSameB
import Derived.Test.YteiojclemodhaaaLaws16A
namespace Go.Proofs.Yteiojclemodhaaa
open Go.RowKit
set_option linter.unusedVariables false
set_option linter.unusedSimpArgs false
theorem small_of {k : Kept} {l : List Entry} (h : largeB k l = false) : SmallK k := by
  have h1 : totalK k l ≤ 3000 := by
    unfold largeB at h
    rw [decide_eq_false_iff_not] at h; omega
  unfold totalK baseK at h1
  refine ⟨by omega, by omega, by omega, fun i => ?_⟩
  by_cases hi : i < k.entries.length
  · have e := sumTo_succ hi
    have e2 := sumTo_le k.entries (show i + 1 ≤ k.entries.length by omega)
    unfold sizeE at e
    exact ⟨by show (k.entries.getD i default).config.voters.length ≤ _; omega, by show (k.entries.getD i default).config.learners.length ≤ _; omega⟩
  · have e : k.en i = default := by unfold Kept.en; simp [List.getD, show k.entries.length ≤ i by omega]
    rw [e]; exact ⟨by decide, by decide⟩
theorem one_small : SmallK oneK := by
  refine ⟨by decide, by decide, by decide, fun i => ?_⟩
  match i with
  | 0 => exact ⟨by decide, by decide⟩
  | 1 => exact ⟨by decide, by decide⟩
  | n + 2 => exact ⟨Nat.zero_le _, Nat.zero_le _⟩
theorem one_e4 : sliceE oneK 4 = 0 := by unfold sliceE; rw [one_on, one_last]; rfl
theorem one_e2 : sliceE oneK 2 = 150 := by unfold sliceE; rw [one_on, one_last]; rfl
theorem one_l4 : sliceL oneK 4 5 = [⟨4, 2, 0, ⟨[], []⟩, zs⟩] := by unfold sliceL; rw [one_e4]; rfl
theorem one_l2 : sliceL oneK 2 5 = [] := by unfold sliceL; rw [one_e2]; rfl
set_option maxHeartbeats 2000000 in
theorem slices_any (w : World) : Calls Try.prog 26 #[] w (SPost w) := by
  go_enter Try.func26, Try.ntmps26
  go_wp2_with fail
  refine (one_any w).mono ?_
  rintro e w1 ⟨vs, rfl, hr, B1⟩
  go_wp2_with fail
  refine (slice_any vs oneK 4 5 _ _ hr one_small ⟨by decide, by decide⟩ ⟨by decide, by decide⟩).mono ?_
  rw [one_e4, one_l4]
  rintro e w2 ⟨a, c, rfl, hs, B2⟩
  go_wp2_with fail
  refine (one_any w2).mono ?_
  rintro e w3 ⟨vs2, rfl, hr2, B3⟩
  go_wp2_with fail
  refine (slice_any vs2 oneK 2 5 _ _ hr2 one_small ⟨by decide, by decide⟩ ⟨by decide, by decide⟩).mono ?_
  rw [one_e2, one_l2]
  rintro e w4 ⟨a2, c2, rfl, hs2, B4⟩
  have B := ((B1.trans (B2.mono B1.size)).trans (B3.mono (Nat.le_trans B1.size B2.size))).trans (B4.mono (Nat.le_trans B1.size (Nat.le_trans B2.size B3.size)))
  obtain ⟨b, off, rfl⟩ := hs.addr (by decide)
  obtain ⟨hS, hb1, a3e, c3e, a4e, c4e, e0, _⟩ := Entry.row (i := 0) ((hs.next B3).next B4) (by decide)
  clear B1 B2 B3 B4 hs hs2 hr hr2
  simp only [List.getD_cons_zero, Nat.zero_mul, Nat.add_zero] at e0
  go_wp2_with fail
  go_ret
  exact ⟨by first | rfl | simp, B⟩
set_option maxHeartbeats 8000000 in
theorem law_raftlogSlice (vs : List Value) (k : Kept) (from' most : Int) (w : World) (h : RdL w (All w) Kept.ty vs k.enc) (hx : I64 from') (hy : I64 most) :
    Calls Try.prog 6 #[.agg vs.toArray, .int .i64 from', .int .i64 most] w fun e w' => e = .returned (.bool true) ∧ Below w.heap.size w w' := by
  have hr := fun w' (hb : Below w.heap.size w w') => RdL.same (Same.below (S := All w) hb) h
  have HR := Lib.hid hr
  obtain ⟨a4, c4, a5, c5, a7, c7, rfl, b0, b1, b2, b3, s4, s5, b6, s7⟩ := Kept.opens h
  clear h s4 s5 s7 hr
  have hb1 := (Below.refl w.heap.size w).alloc (Nat.le_refl _) (.cells #[.int .i64 k.term, .int .i64 k.vote, .int .i64 k.snap.index, .int .i64 k.snap.term, .slice a4 (k.snap.config.voters).length c4, .slice a5 (k.snap.config.learners).length c5, .string k.snap.data, .slice a7 (k.entries).length c7] 30)
  have hlg := large_any _ k none 0 0 [] _ _ (HR.out _ hb1) (.emp (fun _ => rfl) (by simp [maxLen]))
  have HLG := Lib.hid hlg
  clear hlg hb1
  cases hl : largeB k []
  rotate_left
  · have HL := Lib.hid hl
    clear hl
    go_enter Try.func6, Try.ntmps6
    go_wp2_with fail
    refine (HLG.out).mono ?_
    rw [HL.out]
    rintro e w1 ⟨rfl, P1⟩
    obtain ⟨kb1, BT1, z1⟩ := boxed_call P1
    obtain ⟨q0, q1, q2, q3, q4, q5, q6, q7⟩ := box8 kb1
    go_wp2_with fail
    go_ret
    exact ⟨rfl, BT1⟩
  · have HL := Lib.hid hl
    have HK := Lib.hid (small_of hl)
    clear hl
    go_enter Try.func6, Try.ntmps6
    go_wp2_with fail
    refine (HLG.out).mono ?_
    rw [HL.out]
    rintro e w1 ⟨rfl, P1⟩
    obtain ⟨kb1, BT1, z1⟩ := boxed_call P1
    obtain ⟨q0, q1, q2, q3, q4, q5, q6, q7⟩ := box8 kb1
    go_wp2_with fail
    refine (own_any _ k _ _ (HR.out _ BT1) HK.out).mono ?_
    rintro e w2 ⟨vo, rfl, hro, P2⟩
    obtain ⟨y4, x4, y5, x5, y7, x7, rfl, _, _, _, _, _, _, _, _⟩ := Kept.opens hro
    have kb2 := kb1.below P2 z1
    have z2 := Nat.lt_of_lt_of_le z1 P2.size
    have BT2 := BT1.trans (P2.mono BT1.size)
    have HRO2 := Lib.hid hro
    clear q0 q1 q2 q3 q4 q5 q6 q7 hro
    obtain ⟨q0, q1, q2, q3, q4, q5, q6, q7⟩ := box8 kb2
    go_wp2_with fail
    clear q0 q1 q2 q3 q4 q5 q6 q7
    obtain ⟨W, hW⟩ : ∃ W : World, W = w2.alloc (.cells #[.int .i64 k.term, .int .i64 k.vote, .int .i64 k.snap.index, .int .i64 k.snap.term, .slice y4 k.snap.config.voters.length x4, .slice y5 k.snap.config.learners.length x5, .string k.snap.data, .slice y7 k.entries.length x7] 30) := ⟨_, rfl⟩
    have kW : Blk W w.heap.size 30 #[.int .i64 k.term, .int .i64 k.vote, .int .i64 k.snap.index, .int .i64 k.snap.term, .slice a4 (k.snap.config.voters).length c4, .slice a5 (k.snap.config.learners).length c5, .string k.snap.data, .slice a7 (k.entries).length c7] := by rw [hW]; exact kb2.alloc _
    have kO : Blk W w2.heap.size 30 #[.int .i64 k.term, .int .i64 k.vote, .int .i64 k.snap.index, .int .i64 k.snap.term, .slice y4 k.snap.config.voters.length x4, .slice y5 k.snap.config.learners.length x5, .string k.snap.data, .slice y7 k.entries.length x7] := by rw [hW]; exact Blk.new _ _ _
    have BW : Below w.heap.size w W := by rw [hW]; exact BT2.alloc BT2.size _
    have zW : w.heap.size < W.heap.size := by rw [hW]; simp; omega
    have zO : w2.heap.size < W.heap.size := by rw [hW]; simp
    have hro := RdL.same (w' := W) (Same.below (by rw [hW]; exact (Below.refl _ _).alloc (Nat.le_refl _) _)) HRO2.out
    have HRO := Lib.hid (fun w' (hb : Below W.heap.size W w') => RdL.same (Same.below hb) hro)
    rw [← hW]
    clear hW hro HRO2 kb2 BT2 z2
    obtain ⟨q0, q1, q2, q3, q4, q5, q6, q7⟩ := box8 kW
    obtain ⟨o0, o1, o2, o3, o4, o5, o6, o7⟩ := box8 kO
    refine (slice_any _ k from' most _ _ (HR.out _ BW) HK.out hx hy).mono ?_
    generalize hxs : sliceL k from' most = xs
    generalize her : sliceE k from' = er
    have HXS := Lib.hid hxs
    have HER := Lib.hid her
    clear hxs her
    rintro e w3 ⟨al, cl, rfl, hs, P3⟩
    have kb3 := kW.below P3 zW
    have BT3 := BW.trans (P3.mono BW.size)
    have BT2H := Lib.hid BW
    have HS3 := Lib.hid hs
    clear q0 q1 q2 q3 q4 q5 q6 q7 o0 o1 o2 o3 o4 o5 o6 o7 hs
    have ko3 := kO.below P3 zO
    obtain ⟨q0, q1, q2, q3, q4, q5, q6, q7⟩ := box8 kb3
    obtain ⟨o0, o1, o2, o3, o4, o5, o6, o7⟩ := box8 ko3
    go_wp2_with fail
    refine (rslice_any _ k from' most _ _ (HRO.out _ P3) HK.out hx hy).mono ?_
    rw [HXS.out, HER.out]
    rintro e w4 ⟨ar, cr, rfl, hs, P4⟩
    have BO4 := P3.trans (P4.mono P3.size)
    have kb4 := kW.below BO4 zW
    have HS4 := Lib.hid hs
    have H34 := Lib.hid (HS3.out.next P4)
    clear q0 q1 q2 q3 q4 q5 q6 q7 o0 o1 o2 o3 o4 o5 o6 o7 hs
    have ko4 := kO.below BO4 zO
    obtain ⟨q0, q1, q2, q3, q4, q5, q6, q7⟩ := box8 kb4
    obtain ⟨o0, o1, o2, o3, o4, o5, o6, o7⟩ := box8 ko4
    go_wp2_with fail
    refine (rows_any _ _ _ _ _ _ xs xs _ _ _ H34.out HS4.out).mono ?_
    rw [show eqRows xs xs = true from by unfold eqRows; exact decide_eq_true rfl]
    rintro e w5 ⟨rfl, P5⟩
    have BO5 := BO4.trans (P5.mono BO4.size)
    have kb5 := kW.below BO5 zW
    have H35 := Lib.hid (H34.out.next P5)
    clear q0 q1 q2 q3 q4 q5 q6 q7 o0 o1 o2 o3 o4 o5 o6 o7
    have ko5 := kO.below BO5 zO
    obtain ⟨q0, q1, q2, q3, q4, q5, q6, q7⟩ := box8 kb5
    obtain ⟨o0, o1, o2, o3, o4, o5, o6, o7⟩ := box8 ko5
    go_wp2_with fail
    refine (over_any _ _ xs W.heap.size _ BO5.size H35.out).mono ?_
    rintro e w6 ⟨rfl, P6⟩
    have BO6 := BO5.trans P6
    have kb6 := kW.below BO6 zW
    clear q0 q1 q2 q3 q4 q5 q6 q7 o0 o1 o2 o3 o4 o5 o6 o7
    have ko6 := kO.below BO6 zO
    obtain ⟨q0, q1, q2, q3, q4, q5, q6, q7⟩ := box8 kb6
    obtain ⟨o0, o1, o2, o3, o4, o5, o6, o7⟩ := box8 ko6
    go_wp2_with fail
    refine (slices_any _).mono ?_
    rintro e w7 ⟨rfl, P7⟩
    have BO7 := BO6.trans (P7.mono BO6.size)
    have kb7 := kW.below BO7 zW
    clear q0 q1 q2 q3 q4 q5 q6 q7 o0 o1 o2 o3 o4 o5 o6 o7
    have ko7 := kO.below BO7 zO
    obtain ⟨q0, q1, q2, q3, q4, q5, q6, q7⟩ := box8 kb7
    obtain ⟨o0, o1, o2, o3, o4, o5, o6, o7⟩ := box8 ko7
    go_wp2_with fail
    refine (same_any _ _ k k _ _ _ (HR.out _ (BT2H.out.trans (BO7.mono BT2H.out.size))) (HRO.out _ BO7)).mono ?_
    rw [show eqK k k = true from by unfold eqK; exact decide_eq_true rfl]
    rintro e w8 ⟨rfl, P8⟩
    have BO8 := BO7.trans (P8.mono BO7.size)
    have BF := Lib.hid (BT2H.out.trans (BO8.mono BT2H.out.size))
    clear q0 q1 q2 q3 q4 q5 q6 q7 o0 o1 o2 o3 o4 o5 o6 o7
    go_wp2_with fail
    go_ret
    exact ⟨by first | rfl | simp, BF.out⟩
end Go.Proofs.Yteiojclemodhaaa
