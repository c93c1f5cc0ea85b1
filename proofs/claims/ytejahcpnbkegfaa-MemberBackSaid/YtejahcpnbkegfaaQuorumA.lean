/- Contracts of package quorum's Majority, count, Reached, and of the reference's. No condition but that the rows read as lists. -/
import Derived.Test.YtejahcpnbkegfaaSetsB
namespace Go.Proofs.Ytejahcpnbkegfaa
open Go.RowKit
set_option linter.unusedVariables false
theorem maj_lo (n : Int) (w : World) (h : n < 1) :
    Calls Try.prog 45 #[.int .i64 n] w fun e w' => e = .returned (.int .i64 0) ∧ w = w' := by
  go_enter Try.func45, Try.ntmps45
  go_wp2
  go_ret
  exact ⟨rfl, rfl⟩
theorem maj_hi (n : Int) (w : World) (h : 1 ≤ n) (h2 : n ≤ 9223372036854775807) :
    Calls Try.prog 45 #[.int .i64 n] w fun e w' => e = .returned (.int .i64 (n / 2 + 1)) ∧ w = w' := by
  have h' : ¬ n < 1 := by omega
  go_enter Try.func45, Try.ntmps45
  go_wp2
  go_ret
  exact ⟨rfl, rfl⟩
theorem enough_any (k n : Int) (b : Bool) (w : World) (h : 0 ≤ k) (h2 : k ≤ n) (h3 : n ≤ 9223372036854775807) (hb : decide (n - k < k) = b) :
    Calls Try.prog 46 #[.int .i64 k, .int .i64 n] w fun e w' => e = .returned (.bool b) ∧ w = w' := by
  subst hb
  go_enter Try.func46, Try.ntmps46
  go_wp2
  go_ret
  exact ⟨rfl, rfl⟩
/-- how many of the first k of xs are in ys -/
def cntTo (xs ys : List Int) : Nat → Nat
  | 0 => 0
  | k + 1 => cntTo xs ys k + (hasB ys (el xs k)).toNat
theorem cntTo_le (xs ys : List Int) (k : Nat) : cntTo xs ys k ≤ k := by
  induction k with
  | zero => exact Nat.le_refl _
  | succ k ih => unfold cntTo; cases hasB ys (el xs k) <;> simp <;> omega
theorem askedhas_any (b : Option Addr) (m cb : Nat) (ys : List Int) (v : Int) (w : World) (hb : IntSl w b m ys) :
    Calls Try.prog 44 #[.agg #[.slice b m cb], .int .i64 v] w fun e w' => e = .returned (.bool (hasB ys v)) ∧ Below w.heap.size w w' := by
  go_enter Try.func44, Try.ntmps44
  go_wp2_with fail
  refine (has_any _ _ _ ys _ _ (by repeat (first | assumption | apply IntSl.drewN | apply IntSl.alloc))).mono ?_
  rintro e w' ⟨rfl, rfl⟩
  go_wp2_with fail
  go_ret
  exact ⟨rfl, by repeat (first | exact Below.refl _ _ | refine bdrewN ?_ _ | refine Below.alloc ?_ (by simp <;> omega) _)⟩
theorem count_any (a : Option Addr) (n ca : Nat) (xs : List Int) (b : Option Addr) (m cb : Nat) (ys : List Int) (w : World) (ha : IntSl w a n xs) (hb : IntSl w b m ys) :
    Calls Try.prog 43 #[.slice a n ca, .func (.func 44) #[.agg #[.slice b m cb]] #[]] w fun e w' => e = .returned (.int .i64 (cntTo xs ys n)) ∧ Below w.heap.size w w' := by
  have hm := ha.mx
  go_enter Try.func43, Try.ntmps43
  go_wp2
  go_loopw [5, 10] (fun t i wr => ∃ k : Nat, k ≤ n ∧ i = .int .i64 k ∧ t = .int .i64 (cntTo xs ys k) ∧ Below w.heap.size w wr) (fun _ i _ => n - (intOf i).toNat)
  case atStart => exact ⟨0, Nat.zero_le _, rfl, rfl, Below.refl _ _⟩
  case round =>
    obtain ⟨k, hk, rfl, rfl, hbel⟩ := hrel
    by_cases hlt : k < n
    · have k0 : (0 : Int) ≤ (k : Int) := by omega
      have k1 : (k : Int) < (n : Int) := by omega
      have hbw := hb.below hbel
      obtain ⟨ba, oa, rfl, _, hca⟩ := (ha.below hbel).row (by omega)
      have ca := hca k (by omega)
      have hle := cntTo_le xs ys k
      have hsc : (cntTo xs ys (k + 1) : Int) = cntTo xs ys k + ((hasB ys (el xs k)).toNat : Int) := by simp [cntTo]
      have HSC := Lib.hid hsc
      clear hca hsc
      cases hbool : hasB ys (el xs k)
      all_goals
        have HB := Lib.hid hbool
        clear hbool
        go_wp2_with fail
        refine (askedhas_any _ _ _ ys _ _ hbw).mono ?_
        rw [HB.out]
        rintro e w' ⟨rfl, hb2⟩
        go_wp2_with fail
        go_roundw
        case rel => exact ⟨k + 1, by omega, by go_num, by rw [HSC.out, HB.out]; simp, hbel.trans (hb2.mono hbel.size)⟩
        case measure => simp [intOf]; omega
    · have k1 : ¬ (k : Int) < (n : Int) := by omega
      obtain rfl : k = n := by omega
      go_wp2
      go_ret
      exact ⟨rfl, hbel⟩
/-- is it a set, not empty, of which more than half are in ys? -/
noncomputable def reachB (xs ys : List Int) : Bool := isB xs && decide ((0 : Int) < (xs.length : Int)) && decide ((xs.length : Int) - (cntTo xs ys xs.length : Int) < (cntTo xs ys xs.length : Int))
theorem reachB_is {xs ys : List Int} (h : isB xs = false) : reachB xs ys = false := by simp [reachB, h]
theorem reachB_nil {xs ys : List Int} {n : Nat} (hn : xs.length = n) (h : n = 0) : reachB xs ys = false := by
  have : ¬ (0 : Int) < (xs.length : Int) := by omega
  simp only [reachB, this, decide_false, Bool.and_false, Bool.false_and]
theorem reachB_yes {xs ys : List Int} {n : Nat} (hn : xs.length = n) (hp : 0 < n) (h : isB xs = true) : reachB xs ys = decide ((n : Int) - (cntTo xs ys n : Int) < (cntTo xs ys n : Int)) := by
  subst hn
  have : (0 : Int) < (xs.length : Int) := by omega
  simp only [reachB, h, this, decide_true, Bool.true_and]
set_option maxRecDepth 100000 in
theorem reached_any (a : Option Addr) (n ca : Nat) (xs : List Int) (b : Option Addr) (m cb : Nat) (ys : List Int) (w : World) (ha : IntSl w a n xs) (hb : IntSl w b m ys) :
    Calls Try.prog 31 #[.slice a n ca, .slice b m cb] w fun e w' => e = .returned (.bool (reachB xs ys)) ∧ Below w.heap.size w w' := by
  have hm := ha.mx
  cases his : isB xs
  case false =>
    have HR := Lib.hid (reachB_is (ys := ys) his)
    have HI := Lib.hid his
    clear his
    go_enter Try.func31, Try.ntmps31
    go_wp2_with fail
    refine (is_any _ _ _ xs _ ha).mono ?_
    rw [HI.out]
    rintro e w' ⟨rfl, q, rfl⟩
    go_wp2_with fail
    go_ret
    exact ⟨by rw [HR.out]; rfl, by repeat (first | exact Below.refl _ _ | refine bdrewN ?_ _ | refine Below.alloc ?_ (by simp <;> omega) _)⟩
  case true =>
    by_cases h0 : n = 0
    · have HR := Lib.hid (reachB_nil (ys := ys) ha.len h0)
      have HI := Lib.hid his
      clear his
      subst h0
      go_enter Try.func31, Try.ntmps31
      go_wp2_with fail
      refine (is_any _ _ _ xs _ ha).mono ?_
      rw [HI.out]
      rintro e w' ⟨rfl, q, rfl⟩
      go_wp2_with fail
      go_ret
      exact ⟨by rw [HR.out]; rfl, by repeat (first | exact Below.refl _ _ | refine bdrewN ?_ _ | refine Below.alloc ?_ (by simp <;> omega) _)⟩
    · have hry := reachB_yes (ys := ys) ha.len (by omega) his
      have hle := cntTo_le xs ys n
      have HR : Hid (reachB xs ys = decide ((n : Int) / 2 + 1 ≤ (cntTo xs ys n : Int))) := by
        show _ = _
        rw [hry]; congr 1; simp only [eq_iff_iff]; omega
      have HI := Lib.hid his
      clear his hry
      have h0' : (0 : Int) < (n : Int) := by omega
      go_enter Try.func31, Try.ntmps31
      go_wp2_with fail
      refine (is_any _ _ _ xs _ ha).mono ?_
      rw [HI.out]
      rintro e w' ⟨rfl, q, rfl⟩
      go_wp2_with fail
      refine (count_any _ _ _ xs _ _ _ ys _ (by repeat (first | assumption | apply IntSl.drewN | apply IntSl.alloc)) (by repeat (first | assumption | apply IntSl.drewN | apply IntSl.alloc))).mono ?_
      rintro e w1 ⟨rfl, hbel⟩
      go_wp2_with fail
      refine (maj_hi _ _ (by omega) (by omega)).mono ?_
      rintro e w2 ⟨rfl, rfl⟩
      go_wp2_with fail
      go_ret
      exact ⟨by rw [HR.out]; rfl, (bdrewN (Below.refl _ _) _).trans hbel⟩
set_option maxRecDepth 100000 in
theorem rreached_any (a : Option Addr) (n ca : Nat) (xs : List Int) (b : Option Addr) (m cb : Nat) (ys : List Int) (w : World) (ha : IntSl w a n xs) (hb : IntSl w b m ys) :
    Calls Try.prog 32 #[.slice a n ca, .slice b m cb] w fun e w' => e = .returned (.bool (reachB xs ys)) ∧ Dr w w' := by
  have hm := ha.mx
  go_enter Try.func32, Try.ntmps32
  go_wp2
  go_loop [5, 6] (fun t i => ∃ k : Nat, k ≤ n ∧ i = .int .i64 k ∧ t = .int .i64 (cntTo xs ys k)) (fun _ i => n - (intOf i).toNat)
  case atStart => exact ⟨0, Nat.zero_le _, rfl, rfl⟩
  case round =>
    obtain ⟨k, hk, rfl, rfl⟩ := hrel
    by_cases hlt : k < n
    · have k0 : (0 : Int) ≤ (k : Int) := by omega
      have k1 : (k : Int) < (n : Int) := by omega
      obtain ⟨ba, oa, rfl, _, hca⟩ := ha.row (by omega)
      have ca := hca k (by omega)
      have hle := cntTo_le xs ys k
      have hsc : (cntTo xs ys (k + 1) : Int) = cntTo xs ys k + ((hasB ys (el xs k)).toNat : Int) := by simp [cntTo]
      have HSC := Lib.hid hsc
      clear hca hsc
      cases hbool : hasB ys (el xs k)
      all_goals
        have HB := Lib.hid hbool
        clear hbool
        go_wp2_with fail
        refine (rhas_any _ _ _ ys _ _ hb).mono ?_
        rw [HB.out]
        rintro e w' ⟨rfl, rfl⟩
        go_wp2_with fail
        go_round
        case rel => exact ⟨k + 1, by omega, by go_num, by rw [HSC.out, HB.out]; simp⟩
        case measure => simp [intOf]; omega
    · have k1 : ¬ (k : Int) < (n : Int) := by omega
      obtain rfl : k = n := by omega
      clear hk hlt
      cases his : isB xs
      case false =>
        have HR := Lib.hid (reachB_is (ys := ys) his)
        have HI := Lib.hid his
        clear his
        go_wp2_with fail
        refine (ris_any _ _ _ xs _ ha).mono ?_
        rw [HI.out]
        rintro e w' ⟨rfl, q, rfl⟩
        go_wp2_with fail
        go_ret
        exact ⟨by rw [HR.out]; rfl, ⟨_, rfl⟩⟩
      case true =>
        by_cases h0 : k = 0
        · have HR := Lib.hid (reachB_nil (ys := ys) ha.len h0)
          have HI := Lib.hid his
          clear his
          subst h0
          go_wp2_with fail
          refine (ris_any _ _ _ xs _ ha).mono ?_
          rw [HI.out]
          rintro e w' ⟨rfl, q, rfl⟩
          go_wp2_with fail
          go_ret
          exact ⟨by rw [HR.out]; rfl, ⟨_, rfl⟩⟩
        · have hry := reachB_yes (ys := ys) ha.len (by omega) his
          have hle := cntTo_le xs ys k
          have HR := Lib.hid hry
          have HI := Lib.hid his
          clear his hry
          have h0' : (0 : Int) < (k : Int) := by omega
          go_wp2_with fail
          refine (ris_any _ _ _ xs _ ha).mono ?_
          rw [HI.out]
          rintro e w' ⟨rfl, q, rfl⟩
          go_wp2_with fail
          refine (enough_any _ _ _ _ (by omega) (by omega) (by omega) rfl).mono ?_
          rintro e w2 ⟨rfl, rfl⟩
          go_wp2_with fail
          go_ret
          exact ⟨by rw [HR.out]; rfl, ⟨_, rfl⟩⟩
end Go.Proofs.Ytejahcpnbkegfaa
