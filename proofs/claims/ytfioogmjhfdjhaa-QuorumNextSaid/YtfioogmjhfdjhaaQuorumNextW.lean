/- The walk of the law QuorumNext: true for every three rows and number. No condition but that the rows read as lists. -/
import Derived.Test.YtfioogmjhfdjhaaQuorumLaw
namespace Go.Proofs.Ytfioogmjhfdjhaa
open Go.RowKit
set_option linter.unusedVariables false
theorem law_quorumNext (a : Option Addr) (n ca : Nat) (xs : List Int) (v : Int) (b : Option Addr) (m cb : Nat) (ys : List Int) (c : Option Addr) (l cc : Nat) (zs : List Int) (w : World) (ha : IntSl w a n xs) (hv : -9223372036854775808 ≤ v ∧ v ≤ 9223372036854775807) (hb : IntSl w b m ys) (hc : IntSl w c l zs) :
    Calls Try.prog 8 #[.slice a n ca, .int .i64 v, .slice b m cb, .slice c l cc] w fun e w' => e = .returned (.bool true) ∧ Below w.heap.size w w' := by
  have hm := ha.mx
  have hm' := hb.mx
  have hm'' := hc.mx
  have hpb := Lib.hid (putL_bd (fun i => ⟨ha.lo i, ha.hi i⟩) hv)
  clear hv
  by_cases h1 : 16 ≤ n ∨ 300 < m ∨ 300 < l
  · rcases (show 16 ≤ n ∨ (¬ 16 ≤ n ∧ 300 < m) ∨ (¬ 16 ≤ n ∧ ¬ 300 < m ∧ 300 < l) by omega) with h | ⟨h2, h⟩ | ⟨h2, h3, h⟩
    · have t1 : (16 : Int) ≤ (n : Int) := by omega
      clear h1 h
      go_enter Try.func8, Try.ntmps8
      go_wp2
      go_ret
      exact ⟨rfl, Below.refl _ _⟩
    · have t1 : ¬ (16 : Int) ≤ (n : Int) := by omega
      have t2 : (300 : Int) < (m : Int) := by omega
      clear h1 h h2
      go_enter Try.func8, Try.ntmps8
      go_wp2
      go_ret
      exact ⟨rfl, Below.refl _ _⟩
    · have t1 : ¬ (16 : Int) ≤ (n : Int) := by omega
      have t2 : ¬ (300 : Int) < (m : Int) := by omega
      have t3 : (300 : Int) < (l : Int) := by omega
      clear h1 h h2 h3
      go_enter Try.func8, Try.ntmps8
      go_wp2
      go_ret
      exact ⟨rfl, Below.refl _ _⟩
  have t1 : ¬ (16 : Int) ≤ (n : Int) := by omega
  have t2 : ¬ (300 : Int) < (m : Int) := by omega
  have t3 : ¬ (300 : Int) < (l : Int) := by omega
  have hn40 : n ≤ 1099511627776 := by omega
  clear h1
  cases hi : isB xs
  case false =>
    have HI := Lib.hid hi
    clear hi
    go_enter Try.func8, Try.ntmps8
    go_wp2_with fail
    refine (ris_any _ _ _ xs _ ha).mono ?_
    rw [HI.out]
    rintro e w1 ⟨rfl, q, rfl⟩
    go_wp2_with fail
    go_ret
    exact ⟨rfl, bdrewN (Below.refl _ _) _⟩
  case true =>
  have HI := Lib.hid hi
  clear hi
  cases hr1 : reachB xs ys
  case false =>
    have HR1 := Lib.hid hr1
    clear hr1
    go_enter Try.func8, Try.ntmps8
    go_wp2_with fail
    refine (ris_any _ _ _ xs _ ha).mono ?_
    rw [HI.out]
    rintro e w0 ⟨rfl, q, rfl⟩
    go_wp2_with fail
    refine (reached_any _ _ _ xs _ _ _ ys _ (ha.drewN _) (hb.drewN _)).mono ?_
    rw [HR1.out]
    rintro e w1 ⟨rfl, B1⟩
    go_wp2_with fail
    refine (shown_reached _).mono ?_
    rintro e w2 ⟨rfl, B2⟩
    go_wp2_with fail
    go_ret
    exact ⟨rfl, (bdrewN (Below.refl _ _) q).trans (B1.trans (B2.mono B1.size))⟩
  case true =>
  cases hr2 : reachB (putL xs v) zs
  case false =>
    have HR1 := Lib.hid hr1
    have HR2 := Lib.hid hr2
    clear hr1 hr2
    go_enter Try.func8, Try.ntmps8
    go_wp2_with fail
    refine (ris_any _ _ _ xs _ ha).mono ?_
    rw [HI.out]
    rintro e w0 ⟨rfl, q, rfl⟩
    go_wp2_with fail
    refine (reached_any _ _ _ xs _ _ _ ys _ (ha.drewN _) (hb.drewN _)).mono ?_
    rw [HR1.out]
    rintro e w1 ⟨rfl, B1'⟩
    have B1 := (bdrewN (Below.refl w.heap.size w) q).trans B1'
    go_wp2_with fail
    refine (put_any _ _ _ xs _ _ (ha.below B1) hn40).mono ?_
    rintro e w2 ⟨pv, rfl, hown, B2'⟩
    obtain ⟨pa, pc, rfl, hps⟩ := hown.sl hpb.out
    have B2 := B1.trans (B2'.mono B1.size)
    go_wp2_with fail
    refine (reached_any _ _ _ (putL xs v) _ _ _ zs _ hps (hc.below B2)).mono ?_
    rw [HR2.out]
    rintro e w3 ⟨rfl, B3'⟩
    have B3 := B2.trans (B3'.mono B2.size)
    go_wp2_with fail
    refine (shown_reached _).mono ?_
    rintro e w4 ⟨rfl, B4⟩
    go_wp2_with fail
    go_ret
    exact ⟨rfl, B3.trans (B4.mono B3.size)⟩
  case true =>
    have hno := Lib.hid (meets_next ha.len hr1 hr2)
    have HR1 := Lib.hid hr1
    have HR2 := Lib.hid hr2
    clear hr1 hr2
    go_enter Try.func8, Try.ntmps8
    go_wp2_with fail
    refine (ris_any _ _ _ xs _ ha).mono ?_
    rw [HI.out]
    rintro e w0 ⟨rfl, q, rfl⟩
    go_wp2_with fail
    refine (reached_any _ _ _ xs _ _ _ ys _ (ha.drewN _) (hb.drewN _)).mono ?_
    rw [HR1.out]
    rintro e w1 ⟨rfl, B1'⟩
    have B1 := (bdrewN (Below.refl w.heap.size w) q).trans B1'
    go_wp2_with fail
    refine (put_any _ _ _ xs _ _ (ha.below B1) hn40).mono ?_
    rintro e w2 ⟨pv, rfl, hown, B2'⟩
    obtain ⟨pa, pc, rfl, hps⟩ := hown.sl hpb.out
    have B2a := B1.trans (B2'.mono B1.size)
    go_wp2_with fail
    refine (reached_any _ _ _ (putL xs v) _ _ _ zs _ hps (hc.below B2a)).mono ?_
    rw [HR2.out]
    rintro e w3 ⟨rfl, B3'⟩
    have B2 := B2a.trans (B3'.mono B2a.size)
    clear B1 B1' B2a B2' B3' hown hps
    go_wp2_with fail
    have ha2 := ha.below B2
    have hb2 := hb.below B2
    have hc2 := hc.below B2
    go_loop [9] (fun i => ∃ k : Nat, k ≤ n ∧ i = .int .i64 k ∧ ∀ i, i < k → ¬ (hasB ys (el xs i) = true ∧ hasB zs (el xs i) = true)) (fun i => n - (intOf i).toNat)
    case atStart => exact ⟨0, Nat.zero_le _, rfl, fun i h => absurd h (by omega)⟩
    case round =>
      obtain ⟨k, hk, rfl, hq⟩ := hrel
      have HQ := Lib.hid hq
      clear hq
      by_cases hlt : k < n
      · have k0 : (0 : Int) ≤ (k : Int) := by omega
        have k1 : (k : Int) < (n : Int) := by omega
        obtain ⟨ba, oa, rfl, hba, hca⟩ := ha2.row (by omega)
        have ca := hca k hlt
        clear hca
        cases hp : hasB ys (el xs k)
        case false =>
          have HP := Lib.hid hp
          clear hp
          go_wp2_with fail
          refine (rhas_any _ _ _ ys _ _ hb2).mono ?_
          rw [HP.out]
          rintro e w3 ⟨rfl, rfl⟩
          go_wp2_with fail
          go_round
          case rel => exact ⟨k + 1, by omega, by go_num, fun i hi => if e : i = k then by subst e; rw [HP.out]; simp else HQ.out i (by omega)⟩
          case measure => simp [intOf]; omega
        case true =>
        cases hp2 : hasB zs (el xs k)
        case false =>
          have HP := Lib.hid hp
          have HP2 := Lib.hid hp2
          clear hp hp2
          go_wp2_with fail
          refine (rhas_any _ _ _ ys _ _ hb2).mono ?_
          rw [HP.out]
          rintro e w3 ⟨rfl, rfl⟩
          go_wp2_with fail
          refine (rhas_any _ _ _ zs _ _ hc2).mono ?_
          rw [HP2.out]
          rintro e w3 ⟨rfl, rfl⟩
          go_wp2_with fail
          go_round
          case rel => exact ⟨k + 1, by omega, by go_num, fun i hi => if e : i = k then by subst e; rw [HP2.out]; simp else HQ.out i (by omega)⟩
          case measure => simp [intOf]; omega
        case true =>
          have HP := Lib.hid hp
          have HP2 := Lib.hid hp2
          clear hp hp2
          go_wp2_with fail
          refine (rhas_any _ _ _ ys _ _ hb2).mono ?_
          rw [HP.out]
          rintro e w3 ⟨rfl, rfl⟩
          go_wp2_with fail
          refine (rhas_any _ _ _ zs _ _ hc2).mono ?_
          rw [HP2.out]
          rintro e w3 ⟨rfl, rfl⟩
          go_wp2_with fail
          refine (shown_reached _).mono ?_
          rintro e w3 ⟨rfl, B3⟩
          go_wp2_with fail
          go_ret
          exact ⟨rfl, B2.trans (B3.mono B2.size)⟩
      · exact (hno.out (fun i hi => HQ.out i (by omega))).elim
end Go.Proofs.Ytfioogmjhfdjhaa
