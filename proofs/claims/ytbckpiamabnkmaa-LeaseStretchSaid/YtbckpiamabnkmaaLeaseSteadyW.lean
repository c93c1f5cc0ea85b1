/- The walk of the law LeaseSteady: true for every two rows. No condition but that the rows read as lists. -/
import Derived.Test.YtbckpiamabnkmaaRSteady
namespace Go.Proofs.Ytbckpiamabnkmaa
open Go.RowKit
set_option linter.unusedVariables false
set_option linter.unusedSimpArgs false
set_option maxHeartbeats 1000000 in
theorem rsteady_any (a : Option Addr) (n ca : Nat) (xs : List Int) (b : Option Addr) (m cb : Nat) (ys : List Int) (w : World) (ha : IntSl w a n xs) (hb : IntSl w b m ys) (hm2 : m ≤ 1000) :
    Calls Try.prog 39 #[.slice a n ca, .slice b m cb] w (BPost w (steadyA xs ys)) := by
  have hm := ha.mx
  cases hi : isB xs with
  | false =>
    have HN := Lib.hid (steadyA_no (ys := ys) hi)
    have HI := Lib.hid hi
    clear hi
    go_enter Try.func39, Try.ntmps39
    go_wp2_with fail
    refine (ris_any _ _ _ xs _ ha).mono ?_
    rw [HI.out]
    rintro e w1 ⟨rfl, q, rfl⟩
    go_wp2_with fail
    go_ret
    exact ⟨by rw [HN.out]; rfl, bdrewN (Below.refl _ _) _⟩
  | true =>
    have HI := Lib.hid hi
    have hlen := Lib.hid ha.len
    have hlen2 := Lib.hid hb.len
    clear hi
    go_enter Try.func39, Try.ntmps39
    go_wp2_with fail
    refine (ris_any _ _ _ xs _ ha).mono ?_
    rw [HI.out]
    rintro e w1 ⟨rfl, q, rfl⟩
    go_wp2_with fail
    go_loopw [5] (fun i wr => ∃ k : Nat, k ≤ n ∧ i = .int .i64 k ∧ (∀ i, i < k → 1 ≤ el xs i ∧ steadyB (el xs i) ys = true) ∧ Dr w wr) (fun i _ => n - (intOf i).toNat)
    case atStart => exact ⟨0, Nat.zero_le _, rfl, fun i h => absurd h (by omega), ⟨_, rfl⟩⟩
    case round =>
      obtain ⟨k, hk, rfl, hq, q2, rfl⟩ := hrel
      have HQ := Lib.hid hq
      have HB := Lib.hid (hb.drewN q2)
      clear hq
      by_cases hlt : k < n
      · obtain ⟨ba, oa, rfl, _, hca⟩ := ha.row (by omega)
        have ck := hca k (by omega)
        have k0 : (0 : Int) ≤ (k : Int) := by omega
        have k1 : (k : Int) < (n : Int) := by omega
        clear hca
        have l2 := ha.hi k
        by_cases hv : el xs k < 1
        · have HN := Lib.hid (steadyA_at (ys := ys) (k := k) (by rw [hlen.out]; omega) (.inl hv))
          go_wp2_with fail
          go_ret
          exact ⟨by rw [HN.out]; rfl, (Dr.below ⟨_, rfl⟩ _)⟩
        · cases hs : steadyB (el xs k) ys with
          | false =>
            have HN := Lib.hid (steadyA_at (ys := ys) (k := k) (by rw [hlen.out]; omega) (.inr hs))
            have HS := Lib.hid hs
            clear hs
            go_wp2_with fail
            refine (rsteady1_any _ _ _ ys _ _ HB.out hm2 (by omega) l2).mono ?_
            rw [HS.out]
            rintro e w2 ⟨rfl, q3, rfl⟩
            go_wp2_with fail
            go_ret
            exact ⟨by rw [HN.out]; rfl, (Dr.below ⟨_, rfl⟩ _)⟩
          | true =>
            have HS := Lib.hid hs
            clear hs
            go_wp2_with fail
            refine (rsteady1_any _ _ _ ys _ _ HB.out hm2 (by omega) l2).mono ?_
            rw [HS.out]
            rintro e w2 ⟨rfl, q3, rfl⟩
            go_wp2_with fail
            go_roundw
            case rel =>
              refine ⟨k + 1, by omega, by go_num, fun i hi => ?_, ⟨_, rfl⟩⟩
              by_cases e : i = k
              · subst e; exact ⟨by omega, HS.out⟩
              · exact HQ.out i (by omega)
            case measure => simp [intOf]; omega
      · have hkn : k = n := by omega
        have hr := Lib.hid (steadyA_yes hlen.out HI.out (fun i hi => HQ.out i (by omega)))
        have k1 : ¬ (k : Int) < (n : Int) := by omega
        go_wp2_with fail
        go_ret
        exact ⟨by rw [hr.out]; rfl, (Dr.below ⟨_, rfl⟩ _)⟩
theorem isB_one : isB [1] = true := isB_iff.2 ⟨fun i h => by simp at h, by simp⟩
theorem stA (ys : List Int) : steadyA [1] ys = steadyB 1 ys := by simp [steadyA, isB_one]
set_option maxHeartbeats 1000000 in
theorem shown_steady (w : World) : Calls Try.prog 37 #[] w (BPost w true) := by
  have S1 := Lib.hid (show steadyA [1] [1, 1] = true by rw [stA]; decide)
  have S2 := Lib.hid (show steadyA [1] [1, 1, 1] = false by rw [stA]; decide)
  have S3 := Lib.hid (show steadyA [1] [0, 0] = true by rw [stA]; decide)
  have S4 := Lib.hid (show steadyA [1] [0, 0, 0] = false by rw [stA]; decide)
  have S5 := Lib.hid (show steadyA [1] [1, 1, -1, 0, 0, 0, 0, -1, 1] = true by rw [stA]; decide)
  go_enter Try.func37, Try.ntmps37
  go_wp2_with fail
  have B0 := Lib.hid ((Below.refl w.heap.size w).alloc (Nat.le_refl _) (.cells #[.int .i64 1] 3))
  refine (steady_any _ _ _ [1] _ _ _ [1, 1] _ ((IntSl.lit w [1] _ (by simp) (by simp)).alloc _) (by exact IntSl.litAt _ _ (by simp) [1, 1] _ (by simp) (by simp)) (by simp)).mono ?_
  rw [S1.out]
  rintro e w1 ⟨rfl, B1⟩
  have N1 := Lib.hid (IntSl.below (xs := [1]) (by exact (IntSl.lit w [1] _ (by simp) (by simp)).alloc _) B1)
  have C1 := Lib.hid (((B0.out.alloc (by simp) _).trans (B1.mono (by simp; omega))))
  clear B1
  go_wp2_with fail
  refine (steady_any _ _ _ [1] _ _ _ [1, 1, 1] _ (N1.out.alloc _) (by exact IntSl.litAt _ _ (by simp) [1, 1, 1] _ (by simp) (by simp)) (by simp)).mono ?_
  rw [S2.out]
  rintro e w2 ⟨rfl, B2⟩
  have N2 := Lib.hid ((N1.out.alloc _).below B2)
  have C2 := Lib.hid ((C1.out.alloc C1.out.size _).trans (B2.mono (by have := C1.out.size; simp; omega)))
  clear B2
  go_wp2_with fail
  refine (steady_any _ _ _ [1] _ _ _ [0, 0] _ (N2.out.alloc _) (by exact IntSl.litAt _ _ (by simp) [0, 0] _ (by simp) (by simp)) (by simp)).mono ?_
  rw [S3.out]
  rintro e w3 ⟨rfl, B3⟩
  have N3 := Lib.hid ((N2.out.alloc _).below B3)
  have C3 := Lib.hid ((C2.out.alloc C2.out.size _).trans (B3.mono (by have := C2.out.size; simp; omega)))
  clear B3
  go_wp2_with fail
  refine (steady_any _ _ _ [1] _ _ _ [0, 0, 0] _ (N3.out.alloc _) (by exact IntSl.litAt _ _ (by simp) [0, 0, 0] _ (by simp) (by simp)) (by simp)).mono ?_
  rw [S4.out]
  rintro e w4 ⟨rfl, B4⟩
  have N4 := Lib.hid ((N3.out.alloc _).below B4)
  have C4 := Lib.hid ((C3.out.alloc C3.out.size _).trans (B4.mono (by have := C3.out.size; simp; omega)))
  clear B4
  go_wp2_with fail
  refine (steady_any _ _ _ [1] _ _ _ [1, 1, -1, 0, 0, 0, 0, -1, 1] _ (N4.out.alloc _) (by exact IntSl.litAt _ _ (by simp) [1, 1, -1, 0, 0, 0, 0, -1, 1] _ (by simp) (by simp)) (by simp)).mono ?_
  rw [S5.out]
  rintro e w5 ⟨rfl, B5⟩
  have C5 := Lib.hid ((C4.out.alloc C4.out.size _).trans (B5.mono (by have := C4.out.size; simp; omega)))
  clear B5
  go_wp2_with fail
  go_ret
  exact ⟨rfl, C5.out⟩
theorem law_leaseSteady (a : Option Addr) (n ca : Nat) (xs : List Int) (b : Option Addr) (m cb : Nat) (ys : List Int) (w : World) (ha : IntSl w a n xs) (hb : IntSl w b m ys) :
    Calls Try.prog 5 #[.slice a n ca, .slice b m cb] w fun e w' => e = .returned (.bool true) ∧ Below w.heap.size w w' := by
  have hm := ha.mx
  have hm' := hb.mx
  by_cases h1 : 100 < n
  · have h1' : (100 : Int) < (n : Int) := by omega
    go_enter Try.func5, Try.ntmps5
    go_wp2_with fail
    go_ret
    exact ⟨rfl, Below.refl _ _⟩
  by_cases h2 : 400 < m
  · have h1' : ¬ (100 : Int) < (n : Int) := by omega
    have h2' : (400 : Int) < (m : Int) := by omega
    go_enter Try.func5, Try.ntmps5
    go_wp2_with fail
    go_ret
    exact ⟨rfl, Below.refl _ _⟩
  have h1' : ¬ (100 : Int) < (n : Int) := by omega
  have h2' : ¬ (400 : Int) < (m : Int) := by omega
  cases hr : steadyA xs ys
  all_goals
    have HR := Lib.hid hr
    clear hr
    go_enter Try.func5, Try.ntmps5
    go_wp2_with fail
    refine (shown_steady _).mono ?_
    rintro e w1 ⟨rfl, B1⟩
    have HB1 := Lib.hid B1
    clear B1
    go_wp2_with fail
    refine (steady_any _ _ _ xs _ _ _ ys _ (ha.below HB1.out) (hb.below HB1.out) (by omega)).mono ?_
    rw [HR.out]
    rintro e w2 ⟨rfl, B2⟩
    have HB2 := Lib.hid (HB1.out.trans (B2.mono HB1.out.size))
    clear B2
    go_wp2_with fail
    refine (rsteady_any _ _ _ xs _ _ _ ys _ (ha.below HB2.out) (hb.below HB2.out) (by omega)).mono ?_
    rw [HR.out]
    rintro e w3 ⟨rfl, B3⟩
    have HB3 := Lib.hid (HB2.out.trans (B3.mono HB2.out.size))
    clear B3
    go_wp2_with fail
    go_ret
    exact ⟨rfl, HB3.out⟩
end Go.Proofs.Ytbckpiamabnkmaa
