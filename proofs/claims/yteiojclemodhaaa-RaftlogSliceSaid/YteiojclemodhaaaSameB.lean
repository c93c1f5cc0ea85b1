/- The reference's comparison of rows of entries and of logs. Condition: structs that read as such. -/
import Derived.Test.YteiojclemodhaaaSameA
namespace Go.Proofs.Yteiojclemodhaaa
open Go.RowKit
set_option linter.unusedVariables false
set_option linter.unusedSimpArgs false
def eqRows (a b : List Entry) : Bool := decide (a = b)
theorem eqRows_len {a b : List Entry} (h : a.length ≠ b.length) : eqRows a b = false := by
  unfold eqRows; rw [decide_eq_false_iff_not]; intro e; exact h (by rw [e])
theorem eqRows_no {a b : List Entry} {i : Nat} (h : eqE (a.getD i default) (b.getD i default) = false) : eqRows a b = false := by
  unfold eqRows; rw [decide_eq_false_iff_not]; intro e; subst e; exact of_decide_eq_false h rfl
theorem eqRows_yes {a b : List Entry} (hl : a.length = b.length) (h : ∀ i, i < a.length → eqE (a.getD i default) (b.getD i default) = true) : eqRows a b = true := by
  unfold eqRows; rw [decide_eq_true_iff]
  apply List.ext_getElem hl
  intro i h1 h2
  have := of_decide_eq_true (h i h1)
  simpa [List.getD, h1, h2] using this
set_option maxRecDepth 100000 in
set_option maxHeartbeats 2000000 in
theorem rows_any (a b : Option Addr) (n m c d : Nat) (xs ys : List Entry) (w : World) (S T : Nat → Prop) (ha : Sl w S Entry.ty a n c (xs.map Entry.enc)) (hb : Sl w T Entry.ty b m d (ys.map Entry.enc)) :
    Calls Try.prog 24 #[.slice a n c, .slice b m d] w (TPost w (eqRows xs ys)) := by
  have la := ha.len
  have lb := hb.len
  rw [List.length_map] at la lb
  have ba := ha.bd.2.2.1
  have bb := hb.bd.2.2.1
  have LA := Lib.hid la
  have LB := Lib.hid lb
  have HA := Lib.hid ha
  have HB := Lib.hid hb
  clear ha hb
  by_cases hn : n = m
  · subst hn
    clear la lb
    go_enter Try.func24, Try.ntmps24
    go_wp2_with fail
    go_loopw [5] (fun i wr => ∃ k : Nat, k ≤ n ∧ i = .int .i64 k ∧ (∀ i, i < k → eqE (xs.getD i default) (ys.getD i default) = true) ∧ Below w.heap.size w wr) (fun i _ => n - (intOf i).toNat)
    case atStart => exact ⟨0, Nat.zero_le _, rfl, fun i h => absurd h (by omega), Below.refl _ _⟩
    case round =>
      obtain ⟨k, hk, rfl, hq, B1⟩ := hrel
      have HQ := Lib.hid hq
      have BB1 := Lib.hid B1
      clear hq B1
      by_cases hlt : k < n
      · obtain ⟨b1, o1, rfl⟩ := HA.out.addr (by omega)
        obtain ⟨b2, o2, rfl⟩ := HB.out.addr (by omega)
        obtain ⟨_, _, a3x, c3x, a4x, c4x, e0, e1, e2, e3, e4, e5, f0, f1, f2, f3, f4, f5⟩ := Entry.row (HA.out.next BB1.out) hlt
        obtain ⟨_, _, a3y, c3y, a4y, c4y, g0, g1, g2, g3, g4, g5, h0, h1, h2, h3, h4, h5⟩ := Entry.row (HB.out.next BB1.out) hlt
        generalize hx : xs.getD k default = x at *
        generalize hy : ys.getD k default = y at *
        have HX := Lib.hid hx
        have HY := Lib.hid hy
        have H1 := Lib.hid (entries_any _ _ x y wr.drew S T (RdL.drew (Entry.shuts x f0 f1 f2 f3 f4 f5)) (RdL.drew (Entry.shuts y h0 h1 h2 h3 h4 h5)))
        clear hx hy f3 f4 h3 h4
        have k0 : (0 : Int) ≤ (k : Int) := by omega
        have k1 : (k : Int) < (n : Int) := by omega
        cases he : eqE x y
        · have HR := Lib.hid (show eqRows xs ys = false from eqRows_no (i := k) (by rw [HX.out, HY.out]; exact he))
          have HE := Lib.hid he
          clear he
          go_wp2_with fail
          go_still_tail 8, (by kernel_rfl)
          change wpList _ _ _ _ _ wr.drew
          go_wp2_with fail
          refine H1.out.mono ?_
          rw [HE.out]
          rintro e w1 ⟨rfl, P1⟩
          have BW := Lib.hid (tr_below P1 BB1.out.drew)
          clear P1
          go_wp2_with fail
          go_ret
          exact ⟨by rw [HR.out]; rfl, BW.out⟩
        · have HE := Lib.hid he
          clear he
          go_wp2_with fail
          go_still_tail 8, (by kernel_rfl)
          change wpList _ _ _ _ _ wr.drew
          go_wp2_with fail
          refine H1.out.mono ?_
          rw [HE.out]
          rintro e w1 ⟨rfl, P1⟩
          have BW := Lib.hid (tr_below P1 BB1.out.drew)
          clear P1
          go_wp2_with fail
          go_roundw
          case rel =>
            refine ⟨k + 1, by omega, by go_num, fun i hi => ?_, BW.out⟩
            by_cases e : i = k
            · subst e; rw [HX.out, HY.out]; exact HE.out
            · exact HQ.out i (by omega)
          case measure => simp [intOf]; omega
      · have hkn : k = n := by omega
        have HR := Lib.hid (eqRows_yes (a := xs) (b := ys) (by rw [LA.out, LB.out]) (fun i hi => HQ.out i (by have := LA.out; omega)))
        have k1 : ¬ (k : Int) < (n : Int) := by omega
        clear hkn
        go_wp2_with fail
        go_ret
        exact ⟨by rw [HR.out]; rfl, BB1.out⟩
  · have q : ((n : Int) != (m : Int)) = true := by rw [bne_iff_ne]; omega
    have HR := Lib.hid (eqRows_len (a := xs) (b := ys) (by omega))
    clear hn la lb
    go_enter Try.func24, Try.ntmps24
    go_wp2_with fail
    go_ret
    exact ⟨by rw [HR.out]; rfl, Below.refl _ _⟩
def eqK (a b : Kept) : Bool := decide (a = b)
theorem eqK_no {a b : Kept} (h : a.term ≠ b.term ∨ a.vote ≠ b.vote ∨ eqS a.snap b.snap = false ∨ eqRows a.entries b.entries = false) : eqK a b = false := by
  unfold eqK; rw [decide_eq_false_iff_not]; intro e; subst e; simp [eqS, eqRows] at h
theorem eqK_yes {a b : Kept} (e0 : a.term = b.term) (e1 : a.vote = b.vote) (e2 : eqS a.snap b.snap = true) (e3 : eqRows a.entries b.entries = true) : eqK a b = true := by
  unfold eqK eqS eqRows at *; rw [decide_eq_true_iff] at *; cases a; cases b; simp_all
set_option maxRecDepth 100000 in
set_option maxHeartbeats 4000000 in
theorem same_any (vs us : List Value) (k x : Kept) (w : World) (S T : Nat → Prop) (h : RdL w S Kept.ty vs k.enc) (h' : RdL w T Kept.ty us x.enc) :
    Calls Try.prog 27 #[.agg vs.toArray, .agg us.toArray] w (TPost w (eqK k x)) := by
  obtain ⟨a4, c4, a5, c5, a7, c7, rfl, b0, b1, b2, b3, s4, s5, b6, s7⟩ := Kept.opens h
  obtain ⟨a4x, c4x, a5x, c5x, a7x, c7x, rfl, d0, d1, d2, d3, u4, u5, d6, u7⟩ := Kept.opens h'
  have B0 : Below w.heap.size w ((w.alloc (.cells #[.int .i64 k.term, .int .i64 k.vote, .int .i64 k.snap.index, .int .i64 k.snap.term, .slice a4 (k.snap.config.voters).length c4, .slice a5 (k.snap.config.learners).length c5, .string k.snap.data, .slice a7 (k.entries).length c7] 30)).alloc (.cells #[.int .i64 x.term, .int .i64 x.vote, .int .i64 x.snap.index, .int .i64 x.snap.term, .slice a4x (x.snap.config.voters).length c4x, .slice a5x (x.snap.config.learners).length c5x, .string x.snap.data, .slice a7x (x.entries).length c7x] 30)) := ((Below.refl _ w).alloc (Nat.le_refl _) _).alloc (by simp) _
  have HB0 := Lib.hid B0
  have H1 := Lib.hid (snaps_any _ _ k.snap x.snap _ S T (Snap.shuts k.snap b2 b3 (s4.same (Same.below B0)) (s5.same (Same.below B0)) b6) (Snap.shuts x.snap d2 d3 (u4.same (Same.below B0)) (u5.same (Same.below B0)) d6))
  have n7 := s7.bd.2.2.1
  have n7x := u7.bd.2.2.1
  have S7 := Lib.hid s7
  have U7 := Lib.hid u7
  clear h h' s4 s5 s7 u4 u5 u7 B0
  cases q0 : (k.term != x.term)
  rotate_left
  · have HR := Lib.hid (show eqK k x = false from eqK_no (by left; simpa using q0))
    go_enter Try.func27, Try.ntmps27
    go_wp2_with fail
    go_ret
    exact ⟨by rw [HR.out]; rfl, HB0.out⟩
  cases q1 : (k.vote != x.vote)
  rotate_left
  · have HR := Lib.hid (show eqK k x = false from eqK_no (by right; left; simpa using q1))
    go_enter Try.func27, Try.ntmps27
    go_wp2_with fail
    go_ret
    exact ⟨by rw [HR.out]; rfl, HB0.out⟩
  have HQ0 := Lib.hid q0
  have HQ1 := Lib.hid q1
  cases hs : eqS k.snap x.snap
  · have HS := Lib.hid hs
    have HR := Lib.hid (show eqK k x = false from eqK_no (by right; right; left; exact hs))
    clear hs
    go_enter Try.func27, Try.ntmps27
    go_wp2_with fail
    refine H1.out.mono ?_
    rw [HS.out]
    rintro e w1 ⟨rfl, P1⟩
    have ka0 := ((Blk.newAt _ (w.heap.size) 30 #[.int .i64 k.term, .int .i64 k.vote, .int .i64 k.snap.index, .int .i64 k.snap.term, .slice a4 (k.snap.config.voters).length c4, .slice a5 (k.snap.config.learners).length c5, .string k.snap.data, .slice a7 (k.entries).length c7] (by simp)).alloc _).below P1 (by simp <;> omega); obtain ⟨qa0_0, qa0_1, qa0_2, qa0_3, qa0_4, qa0_5, qa0_6, qa0_7⟩ := box8 ka0; obtain ⟨fa0_0, fa0_1, fa0_2, fa0_3, fa0_4, fa0_5, fa0_6, fa0_7⟩ := thaw8 ka0; have ka1 := (Blk.newAt _ (w.heap.size + 1) 30 #[.int .i64 x.term, .int .i64 x.vote, .int .i64 x.snap.index, .int .i64 x.snap.term, .slice a4x (x.snap.config.voters).length c4x, .slice a5x (x.snap.config.learners).length c5x, .string x.snap.data, .slice a7x (x.entries).length c7x] (by simp)).below P1 (by simp <;> omega); obtain ⟨qa1_0, qa1_1, qa1_2, qa1_3, qa1_4, qa1_5, qa1_6, qa1_7⟩ := box8 ka1; obtain ⟨fa1_0, fa1_1, fa1_2, fa1_3, fa1_4, fa1_5, fa1_6, fa1_7⟩ := thaw8 ka1
    have BT := tr_below P1 HB0.out
    clear P1
    go_wp2_with fail
    go_ret
    exact ⟨by rw [HR.out]; rfl, BT⟩
  have HS := Lib.hid hs
  clear hs
  by_cases hn : k.entries.length = x.entries.length
  rotate_left
  · have HR := Lib.hid (show eqK k x = false from eqK_no (by right; right; right; exact eqRows_len hn))
    have q2 : ((k.entries.length : Int) != (x.entries.length : Int)) = true := by rw [bne_iff_ne]; omega
    clear hn
    go_enter Try.func27, Try.ntmps27
    go_wp2_with fail
    refine H1.out.mono ?_
    rw [HS.out]
    rintro e w1 ⟨rfl, P1⟩
    have ka0 := ((Blk.newAt _ (w.heap.size) 30 #[.int .i64 k.term, .int .i64 k.vote, .int .i64 k.snap.index, .int .i64 k.snap.term, .slice a4 (k.snap.config.voters).length c4, .slice a5 (k.snap.config.learners).length c5, .string k.snap.data, .slice a7 (k.entries).length c7] (by simp)).alloc _).below P1 (by simp <;> omega); obtain ⟨qa0_0, qa0_1, qa0_2, qa0_3, qa0_4, qa0_5, qa0_6, qa0_7⟩ := box8 ka0; obtain ⟨fa0_0, fa0_1, fa0_2, fa0_3, fa0_4, fa0_5, fa0_6, fa0_7⟩ := thaw8 ka0; have ka1 := (Blk.newAt _ (w.heap.size + 1) 30 #[.int .i64 x.term, .int .i64 x.vote, .int .i64 x.snap.index, .int .i64 x.snap.term, .slice a4x (x.snap.config.voters).length c4x, .slice a5x (x.snap.config.learners).length c5x, .string x.snap.data, .slice a7x (x.entries).length c7x] (by simp)).below P1 (by simp <;> omega); obtain ⟨qa1_0, qa1_1, qa1_2, qa1_3, qa1_4, qa1_5, qa1_6, qa1_7⟩ := box8 ka1; obtain ⟨fa1_0, fa1_1, fa1_2, fa1_3, fa1_4, fa1_5, fa1_6, fa1_7⟩ := thaw8 ka1
    have BT := tr_below P1 HB0.out
    clear P1
    go_wp2_with fail
    go_ret
    exact ⟨by rw [HR.out]; rfl, BT⟩
  have HN := Lib.hid hn
  have q2 : ((k.entries.length : Int) != (x.entries.length : Int)) = false := by rw [bne_eq_false_iff_eq]; omega
  have hnx : k.entries.length ≤ x.entries.length := by omega
  clear hn
  go_enter Try.func27, Try.ntmps27
  go_wp2_with fail
  refine H1.out.mono ?_
  rw [HS.out]
  rintro e w1 ⟨rfl, P1⟩
  have ka0 := ((Blk.newAt _ (w.heap.size) 30 #[.int .i64 k.term, .int .i64 k.vote, .int .i64 k.snap.index, .int .i64 k.snap.term, .slice a4 (k.snap.config.voters).length c4, .slice a5 (k.snap.config.learners).length c5, .string k.snap.data, .slice a7 (k.entries).length c7] (by simp)).alloc _).below P1 (by simp <;> omega); obtain ⟨qa0_0, qa0_1, qa0_2, qa0_3, qa0_4, qa0_5, qa0_6, qa0_7⟩ := box8 ka0; obtain ⟨fa0_0, fa0_1, fa0_2, fa0_3, fa0_4, fa0_5, fa0_6, fa0_7⟩ := thaw8 ka0; have ka1 := (Blk.newAt _ (w.heap.size + 1) 30 #[.int .i64 x.term, .int .i64 x.vote, .int .i64 x.snap.index, .int .i64 x.snap.term, .slice a4x (x.snap.config.voters).length c4x, .slice a5x (x.snap.config.learners).length c5x, .string x.snap.data, .slice a7x (x.entries).length c7x] (by simp)).below P1 (by simp <;> omega); obtain ⟨qa1_0, qa1_1, qa1_2, qa1_3, qa1_4, qa1_5, qa1_6, qa1_7⟩ := box8 ka1; obtain ⟨fa1_0, fa1_1, fa1_2, fa1_3, fa1_4, fa1_5, fa1_6, fa1_7⟩ := thaw8 ka1
  have BT := Lib.hid (tr_below P1 HB0.out)
  have KA := Lib.hid ka0
  have KB := Lib.hid ka1
  clear P1
  go_wp2_with fail
  clear qa0_0 qa0_1 qa0_2 qa0_3 qa0_4 qa0_5 qa0_6 qa0_7 qa1_0 qa1_1 qa1_2 qa1_3 qa1_4 qa1_5 qa1_6 qa1_7 fa0_0 fa0_1 fa0_2 fa0_3 fa0_4 fa0_5 fa0_6 fa0_7 fa1_0 fa1_1 fa1_2 fa1_3 fa1_4 fa1_5 fa1_6 fa1_7 ka0 ka1
  go_loopw [5] (fun i wr => ∃ j : Nat, j ≤ k.entries.length ∧ i = .int .i64 j ∧ (∀ i, i < j → eqE (k.entries.getD i default) (x.entries.getD i default) = true) ∧ Below w1.heap.size w1 wr) (fun i _ => k.entries.length - (intOf i).toNat)
  case atStart => exact ⟨0, Nat.zero_le _, rfl, fun i h => absurd h (by omega), Below.refl _ _⟩
  case round =>
    obtain ⟨j, hj, rfl, hq, B1⟩ := hrel
    have HQ := Lib.hid hq
    have BB1 := Lib.hid B1
    have BTR := Lib.hid (tr_below B1 BT.out)
    have q7 : wr.cell? ⟨w.heap.size, 7, none⟩ = some (.slice a7 k.entries.length c7) := (KA.out.next B1).cell 7
    have q7x : wr.cell? ⟨w.heap.size + 1, 7, none⟩ = some (.slice a7x x.entries.length c7x) := (KB.out.next B1).cell 7
    clear hq B1
    by_cases hlt : j < k.entries.length
    · obtain ⟨b1, o1, rfl⟩ := S7.out.addr (by omega)
      obtain ⟨b2, o2, rfl⟩ := U7.out.addr (by omega)
      obtain ⟨_, _, a3p, c3p, a4p, c4p, e0, e1, e2, e3, e4, e5, f0, f1, f2, f3, f4, f5⟩ := Entry.row (S7.out.same (Same.below BTR.out)) hlt
      obtain ⟨_, _, a3q, c3q, a4q, c4q, g0, g1, g2, g3, g4, g5, h0, h1, h2, h3, h4, h5⟩ := Entry.row (U7.out.same (Same.below BTR.out)) (show j < x.entries.length by omega)
      generalize hx : k.entries.getD j default = y at *
      generalize hy : x.entries.getD j default = z at *
      have HX := Lib.hid hx
      have HY := Lib.hid hy
      have HC := Lib.hid (entries_any _ _ y z wr.drew S T (RdL.drew (Entry.shuts y f0 f1 f2 f3 f4 f5)) (RdL.drew (Entry.shuts z h0 h1 h2 h3 h4 h5)))
      clear hx hy f3 f4 h3 h4
      have k0 : (0 : Int) ≤ (j : Int) := by omega
      have k1 : (j : Int) < (k.entries.length : Int) := by omega
      have k2 : (j : Int) < (x.entries.length : Int) := by omega
      cases he : eqE y z
      · have HR := Lib.hid (show eqK k x = false from eqK_no (by right; right; right; exact eqRows_no (i := j) (by rw [HX.out, HY.out]; exact he)))
        have HE := Lib.hid he
        clear he
        go_wp2_with fail
        go_still_tail 10, (by kernel_rfl)
        change wpList _ _ _ _ _ wr.drew
        go_wp2_with fail
        refine HC.out.mono ?_
        rw [HE.out]
        rintro e w2 ⟨rfl, P2⟩
        have BW := Lib.hid (tr_below P2 BTR.out.drew)
        clear P2
        go_wp2_with fail
        go_ret
        exact ⟨by rw [HR.out]; rfl, BW.out⟩
      · have HE := Lib.hid he
        clear he
        go_wp2_with fail
        go_still_tail 10, (by kernel_rfl)
        change wpList _ _ _ _ _ wr.drew
        go_wp2_with fail
        refine HC.out.mono ?_
        rw [HE.out]
        rintro e w2 ⟨rfl, P2⟩
        have BW := Lib.hid (tr_below P2 BB1.out.drew)
        clear P2
        go_wp2_with fail
        go_roundw
        case rel =>
          refine ⟨j + 1, by omega, by go_num, fun i hi => ?_, BW.out⟩
          by_cases e : i = j
          · subst e; rw [HX.out, HY.out]; exact HE.out
          · exact HQ.out i (by omega)
        case measure => simp [intOf]; omega
    · have hjn : j = k.entries.length := by omega
      have HR := Lib.hid (show eqK k x = true from eqK_yes (by simpa using HQ0.out) (by simpa using HQ1.out) HS.out (eqRows_yes HN.out (fun i hi => HQ.out i (by omega))))
      have k1 : ¬ (j : Int) < (k.entries.length : Int) := by omega
      clear hjn
      go_wp2_with fail
      go_ret
      exact ⟨by rw [HR.out]; rfl, BTR.out⟩
end Go.Proofs.Yteiojclemodhaaa
