/- Contracts of sets.Is and sets.Has, their references, slices.Contains and Index at rows of numbers. No condition but that the row reads as a list. -/
import Derived.Test.YtejahcpnbkegfaaSetsA
namespace Go.Proofs.Ytejahcpnbkegfaa
open Go.RowKit
def rises (xs : List Int) (k : Nat) : Prop := ∀ i, i + 1 < k → el xs i < el xs (i + 1)
noncomputable def isB (xs : List Int) : Bool := by classical exact decide (rises xs xs.length ∧ xs.length ≤ 16)
theorem isB_iff {xs : List Int} : isB xs = true ↔ rises xs xs.length ∧ xs.length ≤ 16 := by simp [isB]
theorem isB_no {xs : List Int} {k : Nat} (hk : k + 1 < xs.length) (h : el xs (k + 1) ≤ el xs k) : isB xs = false := by
  rw [← Bool.not_eq_true, isB_iff]; intro h'; have := h'.1 k hk; omega
theorem isB_yes {xs : List Int} {n k : Nat} (hn : xs.length = n) (h : rises xs k) (hk : n ≤ k) : isB xs = decide ((n : Int) ≤ 16) := by
  rw [Bool.eq_iff_iff, isB_iff, decide_eq_true_eq]
  constructor
  · intro h'; omega
  · intro h'; exact ⟨fun i hi => h i (by omega), by omega⟩
theorem rises_succ {xs : List Int} {k : Nat} (h : rises xs (k + 1)) (hv : el xs k < el xs (k + 1)) : rises xs (k + 2) := by
  intro i hi
  by_cases e : i = k
  · subst e; exact hv
  · exact h i (by omega)
theorem is_any (a : Option Addr) (n c : Nat) (xs : List Int) (w : World) (ha : IntSl w a n xs) :
    Calls Try.prog 40 #[.slice a n c] w fun e w' => e = .returned (.bool (isB xs)) ∧ Dr w w' := by
  have hm := ha.mx
  by_cases h0 : n ≤ 1
  · have hr := isB_yes ha.len (k := n) (fun i hi => by omega) (Nat.le_refl _)
    have ht : decide ((n : Int) ≤ 16) = true := by simp; omega
    have HR := Lib.hid (hr.trans ht)
    clear hr ht
    rcases (show n = 0 ∨ n = 1 by omega) with rfl | rfl
    all_goals
      go_enter Try.func40, Try.ntmps40
      go_wp2
      refine wp_loop_rounds 1 ?_
      rw [rounds_succ]
      go_wp2
      go_ret
      exact ⟨by rw [HR.out]; rfl, Dr.refl _⟩
  · have h1 : (2 : Int) ≤ (n : Int) := by omega
    go_enter Try.func40, Try.ntmps40
    go_wp2
    go_loopw [8] (fun i wr => ∃ k : Nat, k ≤ n - 1 ∧ i = .int .i64 k ∧ rises xs (k + 1) ∧ Dr w wr) (fun i _ => n - 1 - (intOf i).toNat)
    case atStart => exact ⟨0, Nat.zero_le _, rfl, fun i h => absurd h (by omega), Dr.refl _⟩
    case round =>
      obtain ⟨k, hk, rfl, hq, q, rfl⟩ := hrel
      by_cases hlt : k < n - 1
      · obtain ⟨ba, oa, rfl, _, hca⟩ := ha.row (by omega)
        have ca := hca k (by omega)
        have cb := hca (k + 1) (by omega)
        have k0 : (0 : Int) ≤ (k : Int) := by omega
        have k1 : (k : Int) < (n : Int) - 1 := by omega
        have k2 : (k : Int) + 1 < (n : Int) := by omega
        have l1 := ha.lo k
        have l2 := ha.hi k
        clear hca
        by_cases hv : el xs k < el xs (k + 1)
        · have hv' := Lib.hid hv
          have t : ¬ el xs (k + 1) ≤ el xs k := by omega
          go_wp2
          go_quiet (fail)
          go_wp2
          go_roundw
          case rel => exact ⟨k + 1, by omega, by go_num, rises_succ hq hv'.out, ⟨_, rfl⟩⟩
          case measure => simp [intOf]; omega
        · have hr := Lib.hid (isB_no (xs := xs) (k := k) (by rw [ha.len]; omega) (by omega))
          have t : el xs (k + 1) ≤ el xs k := by omega
          go_wp2
          go_quiet (fail)
          go_wp2
          go_ret
          exact ⟨by rw [hr.out]; rfl, by first | exact ⟨_, rfl⟩ | exact Dr.nn _ _ _⟩
      · have hr := Lib.hid (isB_yes ha.len hq (by omega))
        have k1 : ¬ (k : Int) < (n : Int) - 1 := by omega
        go_wp2
        all_goals
          go_ret
          refine ⟨?_, by first | exact ⟨_, rfl⟩ | exact Dr.nn _ _ _⟩
          rw [hr.out]
          rfl
theorem ris_any (a : Option Addr) (n c : Nat) (xs : List Int) (w : World) (ha : IntSl w a n xs) :
    Calls Try.prog 42 #[.slice a n c] w fun e w' => e = .returned (.bool (isB xs)) ∧ Dr w w' := by
  have hm := ha.mx
  go_enter Try.func42, Try.ntmps42
  go_wp2
  go_loopw [3] (fun i wr => ∃ k : Nat, k ≤ n ∧ i = .int .i64 ((k : Int) + 1) ∧ rises xs (k + 1) ∧ Dr w wr) (fun i _ => n + 1 - (intOf i).toNat)
  case atStart => exact ⟨0, Nat.zero_le _, rfl, fun i h => absurd h (by omega), Dr.refl _⟩
  case round =>
    obtain ⟨k, hk, rfl, hq, q, rfl⟩ := hrel
    by_cases hlt : k + 1 < n
    · obtain ⟨ba, oa, rfl, _, hca⟩ := ha.row (by omega)
      have ca := hca k (by omega)
      have cb := hca (k + 1) (by omega)
      have k0 : (0 : Int) ≤ (k : Int) := by omega
      have k1 : (k : Int) < (n : Int) - 1 := by omega
      have k2 : (k : Int) + 1 < (n : Int) := by omega
      have k3 : (k : Int) < (n : Int) := by omega
      clear hca
      by_cases hv : el xs k < el xs (k + 1)
      · have hv' := Lib.hid hv
        have t : ¬ el xs (k + 1) ≤ el xs k := by omega
        go_wp2
        go_quiet (fail)
        go_wp2
        go_roundw
        case rel => exact ⟨k + 1, by omega, by go_num, rises_succ hq hv'.out, ⟨_, rfl⟩⟩
        case measure => simp [intOf]; omega
      · have hr := Lib.hid (isB_no (xs := xs) (k := k) (by rw [ha.len]; omega) (by omega))
        have t : el xs (k + 1) ≤ el xs k := by omega
        go_wp2
        go_quiet (fail)
        go_wp2
        go_ret
        exact ⟨by rw [hr.out]; rfl, by first | exact ⟨_, rfl⟩ | exact Dr.nn _ _ _⟩
    · have hr := Lib.hid (isB_yes ha.len hq (by omega))
      have k1 : ¬ (k : Int) + 1 < (n : Int) := by omega
      go_wp2
      all_goals
        go_ret
        refine ⟨?_, by first | exact ⟨_, rfl⟩ | exact Dr.nn _ _ _⟩
        rw [hr.out]
        rfl
/-- has the row the number? -/
def hasB (xs : List Int) (v : Int) : Bool := decide (v ∈ xs)
theorem hasB_yes {xs : List Int} {v : Int} {k : Nat} (hk : k < xs.length) (h : el xs k = v) : hasB xs v = true := by
  simp only [hasB, decide_eq_true_eq]
  have : el xs k = xs[k] := by simp [el, hk]
  rw [← h, this]; exact List.getElem_mem hk
theorem hasB_no {xs : List Int} {v : Int} {n : Nat} (hn : xs.length = n) (h : ∀ i, i < n → el xs i ≠ v) : hasB xs v = false := by
  simp only [hasB, decide_eq_false_iff_not]
  intro hm
  obtain ⟨i, hi, e⟩ := List.mem_iff_getElem.1 hm
  exact h i (by omega) (by rw [← e]; simp [el, hi])
theorem rhas_any (a : Option Addr) (n c : Nat) (xs : List Int) (v : Int) (w : World) (ha : IntSl w a n xs) :
    Calls Try.prog 23 #[.slice a n c, .int .i64 v] w fun e w' => e = .returned (.bool (hasB xs v)) ∧ w = w' := by
  have hm := ha.mx
  go_enter Try.func23, Try.ntmps23
  go_wp2
  go_loop [5] (fun i => ∃ k : Nat, k ≤ n ∧ i = .int .i64 k ∧ ∀ i, i < k → el xs i ≠ v) (fun i => n - (intOf i).toNat)
  case atStart => exact ⟨0, Nat.zero_le _, rfl, fun i h => absurd h (by omega)⟩
  case round =>
    obtain ⟨k, hk, rfl, hq⟩ := hrel
    have hq' := Lib.hid hq
    clear hq
    by_cases hlt : k < n
    · obtain ⟨ba, oa, rfl, _, hca⟩ := ha.row (by omega)
      have ca := hca k (by omega)
      have k0 : (0 : Int) ≤ (k : Int) := by omega
      have k1 : (k : Int) < (n : Int) := by omega
      clear hca
      by_cases hv : el xs k = v
      · have t : (el xs k == v) = true := by simp [hv]
        have hr := Lib.hid (hasB_yes (by rw [ha.len]; exact hlt) hv)
        clear hv
        go_wp2
        go_ret
        exact ⟨by rw [hr.out]; rfl, rfl⟩
      · have t : (el xs k == v) = false := by simp [hv]
        have hv' := Lib.hid hv
        clear hv
        go_wp2
        go_round
        case rel => exact ⟨k + 1, by omega, by go_num, fun i hi => if e : i = k then by subst e; exact hv'.out else hq'.out i (by omega)⟩
        case measure => simp [intOf]; omega
    · have hr := Lib.hid (hasB_no ha.len (fun i hi => hq'.out i (by omega)))
      have k1 : ¬ (k : Int) < (n : Int) := by omega
      go_wp2
      go_ret
      exact ⟨by rw [hr.out]; rfl, rfl⟩
def idxI (xs : List Int) (v : Int) : Int := if hasB xs v then (xs.findIdx (fun x => x == v) : Nat) else -1
theorem idxI_ge (xs : List Int) (v : Int) : decide (0 ≤ idxI xs v) = hasB xs v := by
  unfold idxI
  cases hasB xs v <;> simp
theorem idxI_at {xs : List Int} {v : Int} {k : Nat} (hk : k < xs.length) (h : el xs k = v) (hq : ∀ i, i < k → el xs i ≠ v) : idxI xs v = k := by
  have e : xs.findIdx (fun x => x == v) = k := by
    rw [List.findIdx_eq hk]
    refine ⟨?_, fun j hj => ?_⟩
    · rw [← h]; simp [el, hk]
    · have := hq j hj
      have hj' : j < xs.length := by omega
      simpa [el, hj'] using this
  simp [idxI, hasB_yes hk h, e]
theorem idxI_none {xs : List Int} {v : Int} {n : Nat} (hn : xs.length = n) (h : ∀ i, i < n → el xs i ≠ v) : idxI xs v = -1 := by
  simp [idxI, hasB_no hn h]
theorem index_any (a : Option Addr) (n c : Nat) (xs : List Int) (v : Int) (w : World) (ha : IntSl w a n xs) :
    Calls Try.prog 59 #[.slice a n c, .int .i64 v] w fun e w' => e = .returned (.int .i64 (idxI xs v)) ∧ w = w' := by
  have hm := ha.mx
  go_enter Try.func59, Try.ntmps59
  go_wp2
  go_loop [8] (fun i => ∃ k : Nat, k ≤ n ∧ i = .int .i64 k ∧ ∀ i, i < k → el xs i ≠ v) (fun i => n - (intOf i).toNat)
  case atStart => exact ⟨0, Nat.zero_le _, rfl, fun i h => absurd h (by omega)⟩
  case round =>
    obtain ⟨k, hk, rfl, hq⟩ := hrel
    have hq' := Lib.hid hq
    clear hq
    by_cases hlt : k < n
    · obtain ⟨ba, oa, rfl, _, hca⟩ := ha.row (by omega)
      have ca := hca k (by omega)
      have k0 : (0 : Int) ≤ (k : Int) := by omega
      have k1 : (k : Int) < (n : Int) := by omega
      clear hca
      by_cases hv : el xs k = v
      · have t : (v == el xs k) = true := by simp [hv]
        have hr := Lib.hid (idxI_at (by rw [ha.len]; exact hlt) hv hq'.out)
        clear hv
        go_wp2
        go_ret
        exact ⟨by rw [hr.out]; rfl, rfl⟩
      · have t : (v == el xs k) = false := by simp; exact fun e => hv e.symm
        have hv' := Lib.hid hv
        clear hv
        go_wp2
        go_round
        case rel => exact ⟨k + 1, by omega, by go_num, fun i hi => if e : i = k then by subst e; exact hv'.out else hq'.out i (by omega)⟩
        case measure => simp [intOf]; omega
    · have hr := Lib.hid (idxI_none ha.len (fun i hi => hq'.out i (by omega)))
      have k1 : ¬ (k : Int) < (n : Int) := by omega
      go_wp2
      go_ret
      exact ⟨by rw [hr.out]; rfl, rfl⟩
theorem contains_any (a : Option Addr) (n c : Nat) (xs : List Int) (v : Int) (w : World) (ha : IntSl w a n xs) :
    Calls Try.prog 55 #[.slice a n c, .int .i64 v] w fun e w' => e = .returned (.bool (hasB xs v)) ∧ w = w' := by
  rw [← idxI_ge]
  go_enter Try.func55, Try.ntmps55
  go_wp2_with fail
  refine (index_any _ _ _ _ _ _ ha).mono ?_
  rintro e w' ⟨rfl, rfl⟩
  go_wp2
  go_ret
  exact ⟨rfl, rfl⟩
theorem has_any (a : Option Addr) (n c : Nat) (xs : List Int) (v : Int) (w : World) (ha : IntSl w a n xs) :
    Calls Try.prog 47 #[.slice a n c, .int .i64 v] w fun e w' => e = .returned (.bool (hasB xs v)) ∧ w = w' := by
  go_enter Try.func47, Try.ntmps47
  go_wp2_with fail
  refine (contains_any _ _ _ _ _ _ ha).mono ?_
  rintro e w' ⟨rfl, rfl⟩
  go_wp2
  go_ret
  exact ⟨rfl, rfl⟩
end Go.Proofs.Ytejahcpnbkegfaa
