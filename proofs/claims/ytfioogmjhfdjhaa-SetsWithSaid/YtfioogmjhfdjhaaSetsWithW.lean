/- The walk of the law SetsWith: true for every row and number. No condition but that the row reads as a list. -/
import Derived.Test.YtfioogmjhfdjhaaWith
namespace Go.Proofs.Ytfioogmjhfdjhaa
open Go.RowKit
set_option linter.unusedVariables false
theorem law_setsWith_code (code : Int) (l : List Int)
    (hl : ∀ x ∈ l, -9223372036854775808 ≤ x ∧ x ≤ 9223372036854775807) (a : Option Addr) (n ca : Nat) (xs : List Int) (v : Int) (w : World) (ha : IntSl w a n xs) (hn : n ≤ 1000)
    (h1 : ∀ (g : Nat) (c : Nat) (w : World), IntSl w (some ⟨g, 0, none⟩) n xs → Calls Try.prog 38 #[.slice (some ⟨g, 0, none⟩) n c, .int .i64 v] w (SetPost w code l))
    (h2 : ∀ (a : Option Addr) (c : Nat) (w : World), IntSl w a n xs → Calls Try.prog 39 #[.slice a n c, .int .i64 v] w (SetPost w code l)) :
    Calls Try.prog 12 #[.slice a n ca, .int .i64 v] w fun e w' => e = .returned (.bool true) ∧ Below w.heap.size w w' := by
  have hm := ha.mx
  have t1 : ¬ (1000 : Int) < (n : Int) := by omega
  have H1 := Lib.hid h1
  have H2 := Lib.hid h2
  have e1 := Lib.hid (show eqB xs xs = true by simp [eqB])
  have e2 := Lib.hid (show eqB l l = true by simp [eqB])
  clear h1 h2
  go_enter Try.func12, Try.ntmps12
  go_wp2_with fail
  refine (lend_any _ _ _ xs _ ha (by omega)).mono ?_
  rintro e w1 ⟨g1, rfl, hg1, hr1, hgr1⟩
  have B1 := lend_bel hgr1
  have S1 := hr1.sl ha.len hm ha.bd
  go_wp2_with fail
  refine (H1.out _ _ _ S1).mono ?_
  rintro e w2 ⟨v1, rfl, ho2, B2'⟩
  have B2 := B1.trans (B2'.mono B1.size)
  have R2 := hr1.below B2' hr1.lt
  go_wp2_with fail
  refine (H2.out _ _ _ (ha.below B2)).mono ?_
  rintro e w3 ⟨v2, rfl, ho3, B3'⟩
  have B3 := B2.trans (B3'.mono B2.size)
  have R3 := R2.below B3' R2.lt
  have O3 := ho2.below B3' (Nat.le_refl _)
  obtain ⟨a1, c1, rfl, hs1⟩ := O3.sl hl
  obtain ⟨a2, c2, rfl, hs2⟩ := ho3.sl hl
  go_wp2_with fail
  refine (ints_any _ _ _ _ _ _ l l _ hs1 hs2).mono ?_
  rw [e2.out]
  rintro e w4 ⟨rfl, q, rfl⟩
  have hg12 : g1 < w1.heap.size := hr1.lt
  have hlm := hs1.mx
  generalize hln : l.length = m at *
  have HLN := Lib.hid hln
  clear hln hs1 hs2 ho2 ho3
  go_wp2_with fail
  go_loopw [11] (fun i wr => ∃ k : Nat, ∃ l' : List Int, k ≤ m ∧ i = .int .i64 k ∧ OwnI w1.heap.size wr (.slice a1 m c1) l' ∧ w3.grownBy wr (Value.ownBlock (.slice a1 m c1))) (fun i _ => m - (intOf i).toNat)
  case atStart => exact ⟨0, l, Nat.zero_le _, rfl, O3.drewN _, grownBy_drewN (World.grownBy.refl _ _) _⟩
  case round =>
    obtain ⟨k, l', hk, rfl, hown, hgrow⟩ := hrel
    by_cases hlt : k < m
    · have k1 : (k : Int) < (m : Int) := by omega
      obtain ⟨g, rfl, hbg, hcell, hfz, hset⟩ := hown.store hlt (-5)
      have HS := Lib.hid hset
      have HG := Lib.hid hgrow
      clear hset hgrow hown
      go_wp2
      go_roundw
      case rel => exact ⟨k + 1, _, by omega, by go_num, HS.out, grownBy_set' HG.out rfl _ _⟩
      case measure => simp [intOf]; omega
    · have k1 : ¬ (k : Int) < (m : Int) := by omega
      have B4 : Below w.heap.size w wr := B3.grown hgrow B3.size (fun j hj => by have := World.ownsRow.lt hown _ hj; have := B1.size; omega)
      have R4 : RowAt wr g1 3 (xs ++ [-77]) := by
        show _ = _
        rw [hgrow.block g1 R3.lt (fun e => by have := World.ownsRow.lt hown _ e.symm; omega)]; exact R3
      clear hown hgrow
      go_wp2_with fail
      refine (back_any g1 n xs _ _ xs _ R4 (R4.sl ha.len hm ha.bd) (ha.below B4) (by omega)).mono ?_
      rw [e1.out]
      rintro e w5 ⟨rfl, hgr5⟩
      have B5 := B4.trans (lend_bel_at hgr5 B4.size hg1)
      go_wp2_with fail
      refine (shown_with _).mono ?_
      rintro e w6 ⟨rfl, B6'⟩
      go_wp2_with fail
      go_ret
      exact ⟨rfl, B5.trans (B6'.mono B5.size)⟩
theorem law_setsWith (a : Option Addr) (n ca : Nat) (xs : List Int) (v : Int) (w : World) (ha : IntSl w a n xs) (hv : -9223372036854775808 ≤ v ∧ v ≤ 9223372036854775807) :
    Calls Try.prog 12 #[.slice a n ca, .int .i64 v] w fun e w' => e = .returned (.bool true) ∧ Below w.heap.size w w' := by
  have hm := ha.mx
  by_cases h1 : 1000 < n
  · have t1 : (1000 : Int) < (n : Int) := by omega
    go_enter Try.func12, Try.ntmps12
    go_wp2
    go_ret
    exact ⟨rfl, Below.refl _ _⟩
  exact law_setsWith_code _ _ (withR_bd ha.rg hv) a n ca xs v w ha (by omega) (fun g c w h => with_c _ n c xs v w h (by simp) (by omega) hv) (fun a c w h => rwith_c a n c xs v w h (by omega) hv)
end Go.Proofs.Ytfioogmjhfdjhaa
