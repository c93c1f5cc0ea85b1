/- Contracts of functions that only read rows of numbers: slices.Equal, sets.Same, sets.Is, and their references. No condition but that the rows read as lists. -/
import Derived.Test.YtejahcpnbkegfaaKit
namespace Go.Proofs.Ytejahcpnbkegfaa
open Go.RowKit
theorem eqFrom_succ {xs ys : List Int} {k : Nat} (h : eqFrom xs ys k) (hv : el xs k = el ys k) : eqFrom xs ys (k + 1) := by
  intro i hi
  by_cases e : i = k
  · subst e; exact hv
  · exact h i (by omega)
theorem eqB_ne {xs ys : List Int} (h : xs ≠ ys) : eqB xs ys = false := by simp [eqB, h]
theorem eqB_len {xs ys : List Int} (h : xs.length ≠ ys.length) : eqB xs ys = false := eqB_ne (fun e => h (by rw [e]))
theorem eqB_el {xs ys : List Int} {k : Nat} (h : el xs k ≠ el ys k) : eqB xs ys = false := eqB_ne (fun e => h (by rw [e]))
theorem eqB_all {xs ys : List Int} {n : Nat} (hx : xs.length = n) (hy : ys.length = n) (h : eqFrom xs ys n) : eqB xs ys = true := by
  simp [eqB]; exact el_ext (by rw [hx, hy]) (fun i hi => h i (by omega))
theorem ints_any (a b : Option Addr) (n m ca cb : Nat) (xs ys : List Int) (w : World) (ha : IntSl w a n xs) (hb : IntSl w b m ys) :
    Calls Try.prog 11 #[.slice a n ca, .slice b m cb] w fun e w' => e = .returned (.bool (eqB xs ys)) ∧ Dr w w' := by
  by_cases hne : n = m
  case neg =>
    have h1 : ((n : Int) == (m : Int)) = false := by simp; omega
    have h2 : ((n : Int) != (m : Int)) = true := by simp; omega
    rw [eqB_len (by rw [ha.len, hb.len]; exact hne)]
    go_enter Try.func11, Try.ntmps11
    go_wp2
    go_ret
    exact ⟨rfl, Dr.refl _⟩
  subst hne
  have hnn : ((n : Int) != (n : Int)) = false := by simp
  have hm := ha.mx
  go_enter Try.func11, Try.ntmps11
  go_wp2
  go_loopw [5] (fun i wr => ∃ k : Nat, k ≤ n ∧ i = .int .i64 k ∧ eqFrom xs ys k ∧ Dr w wr) (fun i _ => n - (intOf i).toNat)
  case atStart => exact ⟨0, Nat.zero_le _, rfl, fun i h => absurd h (by omega), Dr.refl _⟩
  case round =>
    obtain ⟨k, hk, rfl, hq, q, rfl⟩ := hrel
    by_cases hlt : k < n
    · obtain ⟨ba, oa, rfl, _, hca⟩ := ha.row (by omega)
      obtain ⟨bb, ob, rfl, _, hcb⟩ := hb.row (by omega)
      have ca := hca k hlt
      have cb := hcb k hlt
      have k0 : (0 : Int) ≤ (k : Int) := by omega
      have k1 : (k : Int) < (n : Int) := by omega
      clear hca hcb
      by_cases hv : el xs k = el ys k
      · have t : (el xs k != el ys k) = false := by simp [hv]
        have hv' := Lib.hid hv
        clear hv
        go_wp2
        go_quiet (fail)
        go_wp2
        go_roundw
        case rel => exact ⟨k + 1, by omega, by go_num, eqFrom_succ hq hv'.out, ⟨_, rfl⟩⟩
        case measure => simp [intOf]; omega
      · have t : (el xs k != el ys k) = true := by simp [hv]
        have hr := Lib.hid (eqB_el hv)
        clear hv
        go_wp2
        go_quiet (fail)
        go_wp2
        go_ret
        exact ⟨by rw [hr.out]; rfl, by first | exact ⟨_, rfl⟩ | exact Dr.nn _ _ _⟩
    · have hkn : k = n := by omega
      subst hkn
      have hr := Lib.hid (eqB_all ha.len hb.len hq)
      clear hlt hk
      have hlt : ¬ ((k : Int) < (k : Int)) := by omega
      go_wp2
      go_ret
      exact ⟨by rw [hr.out]; rfl, by first | exact ⟨_, rfl⟩ | exact Dr.nn _ _ _⟩
end Go.Proofs.Ytejahcpnbkegfaa
