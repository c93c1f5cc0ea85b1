/- The reference's All, Voter, Reached of a configuration. Condition: a struct that reads as a configuration, of at most 10^6 numbers in each. -/
import Derived.Test.YtejahcpnbkegfaaMeF
namespace Go.Proofs.Ytejahcpnbkegfaa
open Go.RowKit
set_option linter.unusedVariables false
set_option linter.unusedSimpArgs false
theorem may_is {c : Config} (h : mayB c = true) : isB c.voters = true ∧ isB c.learners = true := by
  unfold mayB at h
  simp only [Bool.and_eq_true] at h
  exact ⟨h.1.1.1.1, h.1.1.2.1⟩
theorem both_put {c : Config} (h : mayB c = true) : bothL c = putAll c.voters c.learners := by
  obtain ⟨h1, h2⟩ := may_is h
  have hp := may_prog c
  rw [h] at hp
  have a1 := (isB_asc.1 h1).1
  have em : mergeL (c.voters ++ c.learners) = putAll c.voters c.learners := mergeL_putAll a1
  have ebr : bothR c.voters c.learners = cutR (mergeL (c.voters ++ c.learners)) := by rw [bothR, if_pos ⟨h1, h2⟩]
  have hz : ((bothR c.voters c.learners).1 == 0) = true := by
    cases hb : ((bothR c.voters c.learners).1 == 0)
    · rw [hb] at hp; simp at hp
    · rfl
  rw [bothL, ebr]
  rw [ebr] at hz
  rcases cutR_or (mergeL (c.voters ++ c.learners)) with ⟨k1, k2, k3⟩ | ⟨k1, k2, k3⟩
  · rw [k3, em]
  · rw [k2] at hz; simp at hz
set_option maxHeartbeats 4000000 in
theorem rall_any (vs : List Value) (c : Config) (w : World) (S : Nat → Prop) (h : RdL w S Config.ty vs c.enc) (hs : SmallC c) :
    Calls Try.prog 12 #[.agg vs.toArray] w (OwnPost w (allL c)) := by
  have HM := Lib.hid (fun W (hb : Below w.heap.size w W) => rmay_any vs c W S (RdL.same (Same.below hb) h))
  obtain ⟨a0, c0, a1, c1, rfl, s0, s1⟩ := Config.opens h
  obtain ⟨hs1, hs2⟩ := hs
  have HV := Lib.hid (fun W (hb : Below w.heap.size w W) => IntSl.ofSl (s0.same (Same.below hb)))
  have HL := Lib.hid (fun W (hb : Below w.heap.size w W) => IntSl.ofSl (s1.same (Same.below hb)))
  have hna := nil_cap s0
  have HNA := Lib.hid hna
  have HB0 := Lib.hid ((Below.refl w.heap.size w).alloc (Nat.le_refl _) (.cells #[.slice a0 (c.voters).length c0, .slice a1 (c.learners).length c1] 25))
  have KB := Lib.hid (Blk.new w 25 #[.slice a0 (c.voters).length c0, .slice a1 (c.learners).length c1])
  have HBX := Lib.hid (SlI.i64 s0)
  have HBY := Lib.hid (SlI.i64 s1)
  have nl := s1.bd.2.2.1
  clear h s0 s1 hna
  cases hm : mayB c
  · have HR := Lib.hid hm
    have HE := Lib.hid (show allL c = [] by simp [allL, hm])
    clear hm
    go_enter Try.func12, Try.ntmps12
    go_wp2_with fail
    refine (HM.out _ HB0.out).mono ?_
    rw [HR.out]
    rintro e w1 ⟨rfl, P1⟩
    have HB1 := Lib.hid (tr_below P1 HB0.out)
    clear P1
    go_wp2_with fail
    go_ret
    rw [HE.out]
    exact ⟨_, rfl, OwnI.nil _ _, HB1.out⟩
  · have HR := Lib.hid hm
    have HE := Lib.hid (show allL c = putAll c.voters c.learners by simp [allL, hm, both_put hm])
    clear hm
    go_enter Try.func12, Try.ntmps12
    go_wp2_with fail
    refine (HM.out _ HB0.out).mono ?_
    rw [HR.out]
    rintro e w1 ⟨rfl, P1⟩
    have HB1 := Lib.hid (tr_below P1 HB0.out)
    have k1 := KB.out.next P1
    have z1 : w.heap.size + 1 ≤ w1.heap.size := by have := P1.size; simp at this; omega
    clear P1
    have hva := HV.out _ HB1.out
    obtain ⟨q0, q1⟩ := box2 k1
    have K1 := Lib.hid k1
    have HVA := Lib.hid hva
    clear k1 hva
    go_upto_region 5 with (at_builtin; refine wpList_appAny rfl (.tmp 8) (.tmp 10) 23 rfl Try.underlying23 (w.heap.size + 1) _ [] rfl (OwnI.nil _ _) a0 _ c0 c.voters HVA.out HNA.out rfl (by simp; omega) z1 ?_; intro v1 w2 ho1 hg1; have HO1 := Lib.hid ho1; have P2 := grown_none hg1 rfl; have k2 := Lib.hid (K1.out.next P2); have HB2 := Lib.hid (tr_below P2 HB1.out); have z2 := P2.size; clear ho1 hg1 P2 q0 q1)
    go_wp2_with fail
    go_loopw [3, 4] (fun t i wr => ∃ k : Nat, k ≤ c.learners.length ∧ i = .int .i64 k ∧ OwnI (w.heap.size + 1) wr t (putAll c.voters (c.learners.take k)) ∧ Below w.heap.size w wr ∧ Blk wr w.heap.size 25 #[.slice a0 (c.voters).length c0, .slice a1 (c.learners).length c1] ∧ w.heap.size + 1 ≤ wr.heap.size) (fun _ i _ => c.learners.length - (intOf i).toNat)
    case atStart => exact ⟨0, Nat.zero_le _, rfl, by have := HO1.out; rwa [List.nil_append] at this, HB2.out, k2.out, by omega⟩
    case round =>
      obtain ⟨k, hk, rfl, hown, hbel, kr, hzr⟩ := hrel
      have hlen := putAll_len c.voters (c.learners.take k)
      have hlk : (c.learners.take k).length ≤ k := List.length_take_le _ _
      have hbd := putAll_bd HBX.out (fun x hx => HBY.out x (List.mem_of_mem_take hx) : ∀ x ∈ c.learners.take k, _)
      obtain ⟨oa, oc, rfl, hos⟩ := hown.sl hbd
      obtain ⟨q0, q1⟩ := box2 kr
      have KR := Lib.hid kr
      by_cases hlt : k < c.learners.length
      · have k0 : (0 : Int) ≤ (k : Int) := by omega
        have k1 : (k : Int) < (c.learners.length : Int) := by omega
        have hll := HL.out wr hbel
        obtain ⟨ba, ob, rfl, hba, hca⟩ := hll.row (by omega)
        have ca := hca k hlt
        have hts : putAll c.voters (c.learners.take (k + 1)) = putL (putAll c.voters (c.learners.take k)) (el c.learners k) := by
          rw [take_succ_el hlt]; simp [putAll, List.foldl_append]
        have HTS := Lib.hid hts
        have HB := Lib.hid hbel
        generalize hg : putAll c.voters (c.learners.take k) = o at *
        have hol : o.length ≤ 1099511627776 := by omega
        clear hca hts hbel hg hlen hlk hll kr
        generalize hgl : o.length = ol at *
        clear hgl
        go_wp2_with fail
        refine (put_any _ _ _ o _ _ hos hol).mono ?_
        rintro e w4 ⟨v4, rfl, ho4, hb4⟩
        have k4 := Lib.hid (KR.out.next hb4)
        clear q0 q1
        go_wp2_with fail
        go_roundw
        case rel => exact ⟨k + 1, by omega, by go_num, by rw [HTS.out]; exact ho4.mono hzr, tr_below hb4 HB.out, k4.out, Nat.le_trans hzr hb4.size⟩
        case measure => simp [intOf]; omega
      · have k1 : ¬ (k : Int) < (c.learners.length : Int) := by omega
        have hmm := hos.mx
        have hkn : k = c.learners.length := by omega
        have HO := Lib.hid (show OwnI (w.heap.size + 1) wr (.slice oa (putAll c.voters (c.learners.take k)).length oc) (allL c) by
          rw [HE.out]
          have e : c.learners.take k = c.learners := List.take_of_length_le (by omega)
          rw [e] at hown ⊢; exact hown)
        have HB := Lib.hid hbel
        clear hown hbel hos hlen hlk hbd hlt hk kr hkn
        generalize (putAll c.voters (c.learners.take k)).length = nn at *
        go_wp2_with fail
        go_ret
        exact ⟨_, rfl, HO.out.mono (by omega), HB.out⟩
set_option maxHeartbeats 2000000 in
theorem rvoter_any (vs : List Value) (c : Config) (v : Int) (w : World) (S : Nat → Prop) (h : RdL w S Config.ty vs c.enc) :
    Calls Try.prog 18 #[.agg vs.toArray, .int .i64 v] w (TPost w (voterB c v)) := by
  have HM := Lib.hid (fun W (hb : Below w.heap.size w W) => rmay_any vs c W S (RdL.same (Same.below hb) h))
  obtain ⟨a0, c0, a1, c1, rfl, s0, s1⟩ := Config.opens h
  have HV := Lib.hid (fun W (hb : Below w.heap.size w W) => rhas_any a0 _ c0 c.voters v W (IntSl.ofSl (s0.same (Same.below hb))))
  have HB0 := Lib.hid ((Below.refl w.heap.size w).alloc (Nat.le_refl _) (.cells #[.slice a0 (c.voters).length c0, .slice a1 (c.learners).length c1] 25))
  have KB := Lib.hid (Blk.new w 25 #[.slice a0 (c.voters).length c0, .slice a1 (c.learners).length c1])
  clear h s0 s1
  cases hm : mayB c
  all_goals cases hv : hasB c.voters v
  all_goals
    have HR := Lib.hid hm
    have HVV := Lib.hid hv
    have HE := Lib.hid (show voterB c v = _ by rw [voterB, hm, hv])
    clear hm hv
    go_enter Try.func18, Try.ntmps18
    go_wp2_with fail
    refine (HM.out _ HB0.out).mono ?_
    rw [HR.out]
    rintro e w1 ⟨rfl, P1⟩
    have HB1 := Lib.hid (tr_below P1 HB0.out)
    have k1 := KB.out.next P1
    obtain ⟨q0, q1⟩ := box2 k1
    clear P1 k1
    go_wp2_with fail
    first
      | (go_ret; exact ⟨by rw [HE.out]; rfl, HB1.out⟩)
      | (refine (HV.out _ HB1.out).mono ?_
         rw [HVV.out]
         rintro e w2 ⟨rfl, rfl⟩
         go_wp2_with fail
         go_ret
         exact ⟨by rw [HE.out]; rfl, HB1.out⟩)
set_option maxHeartbeats 2000000 in
theorem rmreached_any (vs : List Value) (c : Config) (b : Option Addr) (m cb : Nat) (ys : List Int) (w : World) (S T : Nat → Prop) (h : RdL w S Config.ty vs c.enc) (hy : SlI w T b m cb ys) :
    Calls Try.prog 16 #[.agg vs.toArray, .slice b m cb] w (TPost w (mreachB c ys)) := by
  have HM := Lib.hid (fun W (hb : Below w.heap.size w W) => rmay_any vs c W S (RdL.same (Same.below hb) h))
  obtain ⟨a0, c0, a1, c1, rfl, s0, s1⟩ := Config.opens h
  have HQ := Lib.hid (fun W (hb : Below w.heap.size w W) => rreached_any a0 _ c0 c.voters b m cb ys W (IntSl.ofSl (s0.same (Same.below hb))) (IntSl.ofSl (hy.same (Same.below hb))))
  have HB0 := Lib.hid ((Below.refl w.heap.size w).alloc (Nat.le_refl _) (.cells #[.slice a0 (c.voters).length c0, .slice a1 (c.learners).length c1] 25))
  have KB := Lib.hid (Blk.new w 25 #[.slice a0 (c.voters).length c0, .slice a1 (c.learners).length c1])
  clear h s0 s1 hy
  cases hm : mayB c
  all_goals
    have HR := Lib.hid hm
    have HE := Lib.hid (show mreachB c ys = _ by rw [mreachB, hm])
    clear hm
    go_enter Try.func16, Try.ntmps16
    go_wp2_with fail
    refine (HM.out _ HB0.out).mono ?_
    rw [HR.out]
    rintro e w1 ⟨rfl, P1⟩
    have HB1 := Lib.hid (tr_below P1 HB0.out)
    have k1 := KB.out.next P1
    obtain ⟨q0, q1⟩ := box2 k1
    clear P1 k1
    go_wp2_with fail
    first
      | (go_ret; exact ⟨by rw [HE.out]; rfl, HB1.out⟩)
      | (refine (HQ.out _ HB1.out).mono ?_
         rintro e w2 ⟨rfl, q, rfl⟩
         go_wp2_with fail
         go_ret
         exact ⟨by rw [HE.out]; rfl, bdrewN HB1.out _⟩)
end Go.Proofs.Ytejahcpnbkegfaa
