/- The walk of the law QuorumSure: true for every row. No condition but that the row reads as a list. -/
import Derived.Test.YtfioogmjhfdjhaaSure
namespace Go.Proofs.Ytfioogmjhfdjhaa
open Go.RowKit
set_option linter.unusedVariables false
set_option maxRecDepth 100000 in
theorem law_quorumSure_code (m code : Int) (a : Option Addr) (n ca : Nat) (xs : List Int) (w : World) (ha : IntSl w a n xs) (hn : n ≤ 300)
    (h1 : ∀ (a : Option Addr) (c : Nat) (w : World), IntSl w a n xs → Calls Try.prog 35 #[.slice a n c] w fun e w' => e = .returned (.tuple #[.int .i64 m, .int .i64 code]) ∧ Below w.heap.size w w')
    (h2 : ∀ (a : Option Addr) (c : Nat) (w : World), IntSl w a n xs → Calls Try.prog 36 #[.slice a n c] w fun e w' => e = .returned (.tuple #[.int .i64 m, .int .i64 code]) ∧ Below w.heap.size w w') :
    Calls Try.prog 10 #[.slice a n ca] w fun e w' => e = .returned (.bool true) ∧ Below w.heap.size w w' := by
  have hm := ha.mx
  have t1 : ¬ (300 : Int) < (n : Int) := by omega
  have H1 := Lib.hid h1
  have H2 := Lib.hid h2
  have e1 := Lib.hid (show eqB xs xs = true by simp [eqB])
  clear h1 h2
  go_enter Try.func10, Try.ntmps10
  go_wp2_with fail
  refine (lend_any _ _ _ xs _ ha (by omega)).mono ?_
  rintro e w1 ⟨g1, rfl, hg1, hr1, hgr1⟩
  have B1 := lend_bel hgr1
  have S1 := hr1.sl ha.len hm ha.bd
  go_wp2_with fail
  refine (H1.out _ _ _ S1).mono ?_
  rintro e w2 ⟨rfl, B2'⟩
  have B2 := B1.trans (B2'.mono B1.size)
  have R2 := hr1.below B2' hr1.lt
  go_wp2_with fail
  refine (H2.out _ _ _ (ha.below B2)).mono ?_
  rintro e w3 ⟨rfl, B3'⟩
  have B3 := B2.trans (B3'.mono B2.size)
  have R3 := R2.below B3' R2.lt
  go_wp2_with fail
  refine (back_any g1 n xs _ _ xs _ R3 (R3.sl ha.len hm ha.bd) (ha.below B3) (by omega)).mono ?_
  rw [e1.out]
  rintro e w4 ⟨rfl, hgr4⟩
  have B4 := B3.trans (lend_bel_at hgr4 B3.size hg1)
  go_wp2_with fail
  refine (shown_sure _).mono ?_
  rintro e w5 ⟨rfl, B5'⟩
  go_wp2_with fail
  go_ret
  exact ⟨rfl, B4.trans (B5'.mono B4.size)⟩
theorem law_quorumSure (a : Option Addr) (n ca : Nat) (xs : List Int) (w : World) (ha : IntSl w a n xs) :
    Calls Try.prog 10 #[.slice a n ca] w fun e w' => e = .returned (.bool true) ∧ Below w.heap.size w w' := by
  have hm := ha.mx
  by_cases h1 : 300 < n
  · have t1 : (300 : Int) < (n : Int) := by omega
    go_enter Try.func10, Try.ntmps10
    go_wp2
    go_ret
    exact ⟨rfl, Below.refl _ _⟩
  by_cases h0 : n = 0
  · subst h0
    exact law_quorumSure_code 0 1 a 0 ca xs w ha (by omega)
      (fun a c w _ => (sure_nil a c w).mono fun e w' ⟨he, hw⟩ => ⟨he, by rw [← hw]; exact Below.refl _ _⟩)
      (fun a c w _ => (rsure_nil a c w).mono fun e w' ⟨he, hw⟩ => ⟨he, by rw [← hw]; exact Below.refl _ _⟩)
  · exact law_quorumSure_code (sureL xs) 0 a n ca xs w ha (by omega) (fun a c w h => sure_any a n c xs w h (by omega) (by omega)) (fun a c w h => rsure_any a n c xs w h (by omega) (by omega))
end Go.Proofs.Ytfioogmjhfdjhaa
