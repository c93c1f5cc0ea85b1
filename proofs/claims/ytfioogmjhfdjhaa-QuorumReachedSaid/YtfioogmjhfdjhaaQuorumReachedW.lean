/- The walk of the law QuorumReached: true for every two rows. No condition but that the rows read as lists. -/
import Derived.Test.YtfioogmjhfdjhaaLend
import Derived.Test.YtfioogmjhfdjhaaQuorumA
namespace Go.Proofs.Ytfioogmjhfdjhaa
open Go.RowKit
set_option linter.unusedVariables false
theorem law_quorumReached (a : Option Addr) (n ca : Nat) (xs : List Int) (b : Option Addr) (m cb : Nat) (ys : List Int) (w : World) (ha : IntSl w a n xs) (hb : IntSl w b m ys) :
    Calls Try.prog 6 #[.slice a n ca, .slice b m cb] w fun e w' => e = .returned (.bool true) ∧ Below w.heap.size w w' := by
  have hm := ha.mx
  have hm' := hb.mx
  by_cases h1 : 300 < n
  · have h1' : (300 : Int) < (n : Int) := by omega
    go_enter Try.func6, Try.ntmps6
    go_wp2
    go_ret
    exact ⟨rfl, Below.refl _ _⟩
  by_cases h2 : 300 < m
  · have h1' : ¬ (300 : Int) < (n : Int) := by omega
    have h2' : (300 : Int) < (m : Int) := by omega
    go_enter Try.func6, Try.ntmps6
    go_wp2
    go_ret
    exact ⟨rfl, Below.refl _ _⟩
  have h1' : ¬ (300 : Int) < (n : Int) := by omega
  have h2' : ¬ (300 : Int) < (m : Int) := by omega
  have e1 := Lib.hid (show eqB xs xs = true by simp [eqB])
  have e2 := Lib.hid (show eqB ys ys = true by simp [eqB])
  generalize hr : reachB xs ys = r
  have HR := Lib.hid hr
  clear hr
  go_enter Try.func6, Try.ntmps6
  go_wp2_with fail
  refine (lend_any _ _ _ xs _ ha (by omega)).mono ?_
  rintro e w1 ⟨g1, rfl, hg1, hr1, hgr1⟩
  have B1 := lend_bel hgr1
  go_wp2_with fail
  refine (lend_any _ _ _ ys _ (hb.below B1) (by omega)).mono ?_
  rintro e w2 ⟨g2, rfl, hg2, hr2, hgr2⟩
  have B2' := lend_bel hgr2
  have B2 := B1.trans (B2'.mono B1.size)
  have R1 := hr1.below B2' hr1.lt
  have hg12 : g1 < g2 := Nat.lt_of_lt_of_le hr1.lt hg2
  have S1 := R1.sl ha.len hm ha.bd
  have S2 := hr2.sl hb.len hm' hb.bd
  go_wp2_with fail
  refine (reached_any _ _ _ xs _ _ _ ys _ S1 S2).mono ?_
  rw [HR.out]
  rintro e w3 ⟨rfl, B3'⟩
  have B3 := B2.trans (B3'.mono B2.size)
  have Q1 := R1.below B3' R1.lt
  have Q2 := hr2.below B3' hr2.lt
  go_wp2_with fail
  refine (back_any g1 n xs _ _ xs _ Q1 (S1.below B3') (ha.below B3) (by omega)).mono ?_
  rw [e1.out]
  rintro e w4 ⟨rfl, hgr4⟩
  have B4 := B3.trans (lend_bel_at hgr4 B3.size hg1)
  have Z2 := Q2.grown hgr4 (by omega)
  go_wp2_with fail
  refine (back_any g2 m ys _ _ ys _ Z2 (Z2.sl hb.len hm' hb.bd) (hb.below B4) (by omega)).mono ?_
  rw [e2.out]
  rintro e w5 ⟨rfl, hgr5⟩
  have B5 := B4.trans (lend_bel_at hgr5 B4.size (by omega))
  go_wp2_with fail
  refine (shown_reached _).mono ?_
  rintro e w6 ⟨rfl, B6'⟩
  have B6 := B5.trans (B6'.mono B5.size)
  go_wp2_with fail
  refine (rreached_any _ _ _ xs _ _ _ ys _ (ha.below B6) (hb.below B6)).mono ?_
  rw [HR.out]
  rintro e w7 ⟨rfl, q, rfl⟩
  go_wp2_with fail
  go_ret
  exact ⟨rfl, bdrewN B6 _⟩
end Go.Proofs.Ytfioogmjhfdjhaa
