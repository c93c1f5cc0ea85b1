/- The contracts of sets.With, Without, Both, Common and of the references'. Condition: rows of at most 2^40 numbers. -/
import Derived.Test.YtejahcpnbkegfaaSetsLaw
namespace Go.Proofs.Ytejahcpnbkegfaa
open Go.RowKit
set_option linter.unusedVariables false
noncomputable def withoutR (xs : List Int) (v : Int) : Int × List Int := if isB xs then (0, dropL xs v) else (1, [])
noncomputable def cutR (l : List Int) : Int × List Int := if l.length ≤ 16 then (0, l) else (2, [])
noncomputable def withR (xs : List Int) (v : Int) : Int × List Int := if isB xs then cutR (putL xs v) else (1, [])
noncomputable def bothR (xs ys : List Int) : Int × List Int := if isB xs = true ∧ isB ys = true then cutR (mergeL (xs ++ ys)) else (1, [])
noncomputable def commonR (xs ys : List Int) : Int × List Int := if isB xs = true ∧ isB ys = true then (0, xs.filter (hasB ys)) else (1, [])
theorem cutR_or (l : List Int) : (l.length ≤ 16 ∧ (cutR l).1 = 0 ∧ (cutR l).2 = l) ∨ (16 < l.length ∧ (cutR l).1 = 2 ∧ (cutR l).2 = []) := by
  unfold cutR
  by_cases h : l.length ≤ 16
  · left; simp [h]
  · right; simp [h]; omega
theorem without_c (a : Option Addr) (n c : Nat) (xs : List Int) (v : Int) (w : World) (ha : IntSl w a n xs) (hn : n ≤ 1099511627776) :
    Calls Try.prog 35 #[.slice a n c, .int .i64 v] w (SetPost w (withoutR xs v).1 (withoutR xs v).2) := by
  unfold withoutR
  cases hi : isB xs
  · exact without_no a n c xs v w ha hn hi
  · exact without_yes a n c xs v w ha hn hi
theorem with_no (a : Option Addr) (n c : Nat) (xs : List Int) (v : Int) (w : World) (ha : IntSl w a n xs) (hi : isB xs = false) :
    Calls Try.prog 36 #[.slice a n c, .int .i64 v] w (SetPost w 1 []) := by
  have HI := Lib.hid hi
  clear hi
  go_enter Try.func36, Try.ntmps36
  go_wp2_with fail
  refine (is_any _ _ _ xs _ ha).mono ?_
  rw [HI.out]
  rintro e w1 ⟨rfl, q, rfl⟩
  go_wp2_with fail
  go_ret2
  exact ⟨_, rfl, OwnI.nil _ _, bdrewN (Below.refl _ _) _⟩
theorem with_yes (a : Option Addr) (n c : Nat) (xs : List Int) (v : Int) (w : World) (ha : IntSl w a n xs) (hna : a = none → c = 0) (hn : n ≤ 1099511627776) (hv : -9223372036854775808 ≤ v ∧ v ≤ 9223372036854775807) (hi : isB xs = true) (code : Int) (l : List Int)
    (hcl : ((mergeL (xs ++ [v])).length ≤ 16 ∧ code = 0 ∧ l = mergeL (xs ++ [v])) ∨ (16 < (mergeL (xs ++ [v])).length ∧ code = 2 ∧ l = [])) :
    Calls Try.prog 36 #[.slice a n c, .int .i64 v] w (SetPost w code l) := by
  have HI := Lib.hid hi
  have HC := Lib.hid hcl
  have HV := Lib.hid hv
  clear hi hcl hv
  go_enter Try.func36, Try.ntmps36
  go_wp2_with fail
  refine (is_any _ _ _ xs _ ha).mono ?_
  rw [HI.out]
  rintro e w1 ⟨rfl, q, rfl⟩
  go_wp2_with fail
  refine (merged_yes (w.heap.size + 1) a n c xs (some ⟨w.heap.size, 0, none⟩) 1 1 [v] _ ?_ ?_ ?_ ?_ ?_ hna ?_ hn ?_ code l HC.out).mono ?_
  · exact World.cell?_alloc_at _ _ _ _ (by simp)
  · exact World.cell?_alloc_at _ _ _ _ (by simp)
  · simp
  · repeat (first | assumption | apply IntSl.drewN | apply IntSl.alloc)
  · have h1 := IntSl.lit w [v] 3 (by simp) (by simpa using HV.out)
    exact (h1.alloc _).drewN _
  · simp
  · omega
  rintro e w2 ⟨v2, rfl, ho2, hb2⟩
  go_wp2_with fail
  go_ret2
  have hs := hb2.size
  simp at hs
  exact ⟨_, rfl, ho2.mono (by simp; omega), (by repeat (first | exact Below.refl _ _ | refine bdrewN ?_ _ | refine Below.alloc ?_ (by simp <;> omega) _) : Below w.heap.size w _).trans (hb2.mono (by simp; omega))⟩
theorem with_c (a : Option Addr) (n c : Nat) (xs : List Int) (v : Int) (w : World) (ha : IntSl w a n xs) (hna : a = none → c = 0) (hn : n ≤ 1099511627776) (hv : -9223372036854775808 ≤ v ∧ v ≤ 9223372036854775807) :
    Calls Try.prog 36 #[.slice a n c, .int .i64 v] w (SetPost w (withR xs v).1 (withR xs v).2) := by
  unfold withR
  cases hi : isB xs
  · exact with_no a n c xs v w ha hi
  · have e := mergeL_put (v := v) (isB_asc.1 hi).1
    rw [if_pos rfl]
    exact with_yes a n c xs v w ha hna hn hv hi _ _ (by rw [e]; exact cutR_or _)
theorem withR_bd {xs : List Int} {v : Int} (hx : ∀ i, -9223372036854775808 ≤ el xs i ∧ el xs i ≤ 9223372036854775807) (hv : -9223372036854775808 ≤ v ∧ v ≤ 9223372036854775807) : ∀ x ∈ (withR xs v).2, -9223372036854775808 ≤ x ∧ x ≤ 9223372036854775807 := by
  unfold withR
  split
  · rcases cutR_or (putL xs v) with ⟨_, _, e⟩ | ⟨_, _, e⟩
    · rw [e]; exact putL_bd hx hv
    · rw [e]; simp
  · simp
theorem IntSl.rg {w : World} {a : Option Addr} {n : Nat} {xs : List Int} (h : IntSl w a n xs) : ∀ i, -9223372036854775808 ≤ el xs i ∧ el xs i ≤ 9223372036854775807 := fun i => ⟨h.lo i, h.hi i⟩
end Go.Proofs.Ytejahcpnbkegfaa
