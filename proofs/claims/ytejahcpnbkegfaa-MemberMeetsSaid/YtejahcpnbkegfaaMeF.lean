/- The reference's nodes, May, Voter, Reached. Condition: a struct that reads as a configuration. -/
import Derived.Test.YtejahcpnbkegfaaMeE
namespace Go.Proofs.Ytejahcpnbkegfaa
open Go.RowKit
set_option linter.unusedVariables false
set_option linter.unusedSimpArgs false
noncomputable def nodesB (xs : List Int) : Bool := isB xs && xs.all inN
theorem all_no {xs : List Int} {i : Nat} (hi : i < xs.length) (h : inN (nu xs i) = false) : xs.all inN = false := by
  cases he : xs.all inN
  · rfl
  · have := List.all_eq_true.1 he xs[i] (List.getElem_mem hi)
    have e : nu xs i = xs[i] := by simp [nu, List.getD, hi]
    rw [e] at h; rw [h] at this; cases this
theorem all_yes {xs : List Int} (h : ∀ i, i < xs.length → inN (nu xs i) = true) : xs.all inN = true := by
  rw [List.all_eq_true]
  intro x hx
  obtain ⟨i, hi, rfl⟩ := List.mem_iff_getElem.1 hx
  have := h i hi
  simpa [nu, List.getD, hi] using this
set_option maxHeartbeats 2000000 in
theorem nodes_any (a : Option Addr) (n c : Nat) (xs : List Int) (w : World) (S : Nat → Prop) (h : SlI w S a n c xs) :
    Calls Try.prog 29 #[.slice a n c] w (TPost w (nodesB xs)) := by
  have HI := Lib.hid (ris_any a n c xs w (IntSl.ofSl h))
  have hl := h.len
  rw [ints_len] at hl
  subst hl
  have H := Lib.hid h
  have n7 := h.bd.2.2.1
  clear h
  cases hi : isB xs
  · have HB := Lib.hid hi
    have HR := Lib.hid (show nodesB xs = false by simp [nodesB, hi])
    clear hi
    go_enter Try.func29, Try.ntmps29
    go_wp2_with fail
    refine HI.out.mono ?_
    rw [HB.out]
    rintro e w1 ⟨rfl, q, rfl⟩
    go_wp2_with fail
    go_ret
    exact ⟨by rw [HR.out]; rfl, bdrewN (Below.refl _ _) _⟩
  · have HB := Lib.hid hi
    have HR := Lib.hid (show nodesB xs = xs.all inN by simp [nodesB, hi])
    clear hi
    go_enter Try.func29, Try.ntmps29
    go_wp2_with fail
    refine HI.out.mono ?_
    rw [HB.out]
    rintro e w1 ⟨rfl, q, rfl⟩
    go_wp2_with fail
    go_loopw [3] (fun i wr => ∃ j : Nat, j ≤ xs.length ∧ i = .int .i64 j ∧ (∀ i, i < j → inN (nu xs i) = true) ∧ Below w.heap.size w wr) (fun i _ => xs.length - (intOf i).toNat)
    case atStart => exact ⟨0, Nat.zero_le _, rfl, fun i hi => by omega, bdrewN (Below.refl _ _) _⟩
    case round =>
      obtain ⟨j, hj, rfl, hq, B1⟩ := hrel
      have HQ := Lib.hid hq
      have BB1 := Lib.hid B1
      clear hq B1
      by_cases hlt : j < xs.length
      · obtain ⟨b1, o1, rfl⟩ := H.out.addr (by omega)
        obtain ⟨_, c1, i1⟩ := SlI.cell (H.out.next BB1.out) hlt
        have k0 : (0 : Int) ≤ (j : Int) := by omega
        have k1 : (j : Int) < (xs.length : Int) := by omega
        have HN := Lib.hid (show inN (nu xs j) = (decide (1 ≤ nu xs j) && decide (nu xs j ≤ 5)) from rfl)
        have HNO := Lib.hid (fun (h : inN (nu xs j) = false) => all_no hlt h)
        have HJ := Lib.hid (show nu xs j = nu xs j from rfl)
        generalize hx : nu xs j = x at *
        have HX := Lib.hid hx
        clear hx
        by_cases h1 : 1 ≤ x
        · by_cases h2 : x ≤ 5
          · go_wp2_with fail
            go_roundw
            case rel =>
              refine ⟨j + 1, by omega, by go_num, fun i hi => ?_, BB1.out⟩
              by_cases e : i = j
              · subst e; rw [HX.out, HN.out]; simp [h1, h2]
              · exact HQ.out i (by omega)
            case measure => simp [intOf]; omega
          · have HF := Lib.hid (HNO.out (by rw [HN.out]; simp [h2]))
            go_wp2_with fail
            go_ret
            exact ⟨by rw [HR.out, HF.out]; rfl, BB1.out⟩
        · have HF := Lib.hid (HNO.out (by rw [HN.out]; simp [h1]))
          go_wp2_with fail
          go_ret
          exact ⟨by rw [HR.out, HF.out]; rfl, BB1.out⟩
      · have hjn : j = xs.length := by omega
        have HT := Lib.hid (all_yes (xs := xs) (fun i hi => HQ.out i (by omega)))
        have k1 : ¬ (j : Int) < (xs.length : Int) := by omega
        clear hjn
        go_wp2_with fail
        go_ret
        exact ⟨by rw [HR.out, HT.out]; rfl, BB1.out⟩
theorem mayB_ref (c : Config) : mayB c = ((nodesB c.voters && nodesB c.learners && decide (c.voters ≠ [])) && c.voters.all (fun x => !hasB c.learners x)) := rfl
set_option maxHeartbeats 4000000 in
theorem rmay_any (vs : List Value) (c : Config) (w : World) (S : Nat → Prop) (h : RdL w S Config.ty vs c.enc) :
    Calls Try.prog 13 #[.agg vs.toArray] w (TPost w (mayB c)) := by
  obtain ⟨a0, c0, a1, c1, rfl, s0, s1⟩ := Config.opens h
  have H0 := Lib.hid (fun W (hb : Below w.heap.size w W) => nodes_any a0 _ c0 c.voters W S (s0.same (Same.below hb)))
  have H1 := Lib.hid (fun W (hb : Below w.heap.size w W) => nodes_any a1 _ c1 c.learners W S (s1.same (Same.below hb)))
  have HH := Lib.hid (fun W x (hb : Below w.heap.size w W) => rhas_q a1 _ c1 c.learners x W (IntSl.ofSl (s1.same (Same.below hb))))
  have HS0 := Lib.hid s0
  have n0 := s0.bd.2.2.1
  have HB0 := Lib.hid ((Below.refl w.heap.size w).alloc (Nat.le_refl _) (.cells #[.slice a0 (c.voters).length c0, .slice a1 (c.learners).length c1] 25))
  have KB := Lib.hid (Blk.new w 25 #[.slice a0 (c.voters).length c0, .slice a1 (c.learners).length c1])
  have HM := Lib.hid (mayB_ref c)
  clear h s0 s1
  cases e0 : nodesB c.voters
  · have E0 := Lib.hid e0
    have HR := Lib.hid (show mayB c = false by rw [HM.out, e0]; simp)
    clear e0
    go_enter Try.func13, Try.ntmps13
    go_wp2_with fail
    refine (H0.out _ HB0.out).mono ?_
    rw [E0.out]
    rintro e w1 ⟨rfl, P1⟩
    have HB1 := Lib.hid (tr_below P1 HB0.out)
    have k1 := Lib.hid (KB.out.next P1)
    clear P1
    obtain ⟨q0, q1⟩ := box2 k1.out
    go_wp2_with fail
    go_ret
    exact ⟨by rw [HR.out]; rfl, HB1.out⟩
  cases e1 : nodesB c.learners
  · have E0 := Lib.hid e0
    have E1 := Lib.hid e1
    have HR := Lib.hid (show mayB c = false by rw [HM.out, e1]; simp)
    clear e0 e1
    go_enter Try.func13, Try.ntmps13
    go_wp2_with fail
    refine (H0.out _ HB0.out).mono ?_
    rw [E0.out]
    rintro e w1 ⟨rfl, P1⟩
    have HB1 := Lib.hid (tr_below P1 HB0.out)
    have k1 := Lib.hid (KB.out.next P1)
    clear P1
    obtain ⟨q0, q1⟩ := box2 k1.out
    go_wp2_with fail
    refine (H1.out _ HB1.out).mono ?_
    rw [E1.out]
    rintro e w2 ⟨rfl, P2⟩
    have HB2 := Lib.hid (tr_below P2 HB1.out)
    have k2 := Lib.hid (k1.out.next P2)
    clear P2 q0 q1
    obtain ⟨q0, q1⟩ := box2 k2.out
    go_wp2_with fail
    go_ret
    exact ⟨by rw [HR.out]; rfl, HB2.out⟩
  have E0 := Lib.hid e0
  have E1 := Lib.hid e1
  have HM2 := Lib.hid (show mayB c = (decide (c.voters ≠ []) && c.voters.all (fun x => !hasB c.learners x)) by rw [HM.out, e0, e1]; simp)
  clear e0 e1
  by_cases hv : c.voters.length = 0
  · have HR := Lib.hid (show mayB c = false by
      rw [HM2.out]
      have : c.voters = [] := List.eq_nil_of_length_eq_zero hv
      simp [this])
    have hv2 : ((c.voters.length : Int) == 0) = true := by rw [beq_iff_eq]; omega
    have HV := Lib.hid hv
    clear hv
    go_enter Try.func13, Try.ntmps13
    go_wp2_with fail
    refine (H0.out _ HB0.out).mono ?_
    rw [E0.out]
    rintro e w1 ⟨rfl, P1⟩
    have HB1 := Lib.hid (tr_below P1 HB0.out)
    have k1 := Lib.hid (KB.out.next P1)
    clear P1
    obtain ⟨q0, q1⟩ := box2 k1.out
    go_wp2_with fail
    refine (H1.out _ HB1.out).mono ?_
    rw [E1.out]
    rintro e w2 ⟨rfl, P2⟩
    have HB2 := Lib.hid (tr_below P2 HB1.out)
    have k2 := Lib.hid (k1.out.next P2)
    clear P2 q0 q1
    obtain ⟨q0, q1⟩ := box2 k2.out
    go_wp2_with fail
    go_ret
    exact ⟨by rw [HR.out]; rfl, HB2.out⟩
  · have HM3 := Lib.hid (show mayB c = c.voters.all (fun x => !hasB c.learners x) by
      rw [HM2.out]
      have : c.voters ≠ [] := fun e => hv (by rw [e]; rfl)
      simp [this])
    have hv2 : ((c.voters.length : Int) == 0) = false := by rw [beq_eq_false_iff_ne]; omega
    go_enter Try.func13, Try.ntmps13
    go_wp2_with fail
    refine (H0.out _ HB0.out).mono ?_
    rw [E0.out]
    rintro e w1 ⟨rfl, P1⟩
    have HB1 := Lib.hid (tr_below P1 HB0.out)
    have k1 := Lib.hid (KB.out.next P1)
    clear P1
    obtain ⟨q0, q1⟩ := box2 k1.out
    go_wp2_with fail
    refine (H1.out _ HB1.out).mono ?_
    rw [E1.out]
    rintro e w2 ⟨rfl, P2⟩
    have HB2 := Lib.hid (tr_below P2 HB1.out)
    have k2 := Lib.hid (k1.out.next P2)
    clear P2 q0 q1
    obtain ⟨q0, q1⟩ := box2 k2.out
    go_wp2_with fail
    clear q0 q1 hv2
    go_loopw [3] (fun i wr => ∃ j : Nat, j ≤ c.voters.length ∧ i = .int .i64 j ∧ (∀ i, i < j → hasB c.learners (nu c.voters i) = false) ∧ Below w.heap.size w wr ∧ Blk wr w.heap.size 25 #[.slice a0 (c.voters).length c0, .slice a1 (c.learners).length c1]) (fun i _ => c.voters.length - (intOf i).toNat)
    case atStart => exact ⟨0, Nat.zero_le _, rfl, fun i hi => by omega, HB2.out, k2.out⟩
    case round =>
      obtain ⟨j, hj, rfl, hq, B1, kr⟩ := hrel
      have HQ := Lib.hid hq
      have BB1 := Lib.hid B1
      have KR := Lib.hid kr
      obtain ⟨q0, q1⟩ := box2 kr
      clear hq B1 kr
      by_cases hlt : j < c.voters.length
      · obtain ⟨b1, o1, rfl⟩ := HS0.out.addr (by omega)
        obtain ⟨_, e1, i1⟩ := SlI.cell (HS0.out.same (Same.below BB1.out)) hlt
        have kk0 : (0 : Int) ≤ (j : Int) := by omega
        have kk1 : (j : Int) < (c.voters.length : Int) := by omega
        have HX := Lib.hid (show nu c.voters j ∈ c.voters by
          have e : nu c.voters j = c.voters[j] := by simp [nu, List.getD, hlt]
          rw [e]; exact List.getElem_mem hlt)
        cases hb : hasB c.learners (nu c.voters j)
        · have hcq : ∀ W, Below w.heap.size w W → Calls Try.prog 23 #[.slice a1 c.learners.length c1, .int .i64 (nu c.voters j)] W fun e w' => e = .returned (.bool false) ∧ w' = W := fun W hW => by rw [← hb]; exact HH.out W _ hW
          have HCQ := Lib.hid hcq
          have HBF := Lib.hid hb
          clear hcq hb
          go_wp2_with fail
          go_quiet ((go_at_call 23; exact Calls.quiet_of_same (HCQ.out _ (bdrewN BB1.out _))))
          go_wp2_with fail
          go_roundw
          case rel =>
            refine ⟨j + 1, by omega, by go_num, fun i hi => ?_, bdrewN BB1.out _, KR.out⟩
            by_cases e : i = j
            · subst e; exact HBF.out
            · exact HQ.out i (by omega)
          case measure => simp [intOf]; omega
        · have hcq : ∀ W, Below w.heap.size w W → Calls Try.prog 23 #[.slice a1 c.learners.length c1, .int .i64 (nu c.voters j)] W fun e w' => e = .returned (.bool true) ∧ w' = W := fun W hW => by rw [← hb]; exact HH.out W _ hW
          have HCQ := Lib.hid hcq
          have HR := Lib.hid (show mayB c = false by
            rw [HM3.out]
            cases he : c.voters.all (fun x => !hasB c.learners x)
            · rfl
            · have := List.all_eq_true.1 he _ HX.out
              rw [hb] at this; cases this)
          clear hcq hb
          go_wp2_with fail
          go_quiet ((go_at_call 23; exact Calls.quiet_of_same (HCQ.out _ (bdrewN BB1.out _))))
          go_wp2_with fail
          go_ret
          exact ⟨by rw [HR.out]; rfl, bdrewN BB1.out _⟩
      · have hjn : j = c.voters.length := by omega
        have HR := Lib.hid (show mayB c = true by
          rw [HM3.out, List.all_eq_true]
          intro x hx
          obtain ⟨i, hi, rfl⟩ := List.mem_iff_getElem.1 hx
          have := HQ.out i (by omega)
          have e : nu c.voters i = c.voters[i] := by simp [nu, List.getD, hi]
          rw [e] at this
          rw [this]; rfl)
        have k1 : ¬ (j : Int) < (c.voters.length : Int) := by omega
        clear hjn
        go_wp2_with fail
        go_ret
        exact ⟨by rw [HR.out]; rfl, BB1.out⟩
end Go.Proofs.Ytejahcpnbkegfaa
