/- The walk of the law SetsIs: true for every row and number. No condition but that the row reads as a list. -/
import Derived.Test.YtfioogmjhfdjhaaSetsB
namespace Go.Proofs.Ytfioogmjhfdjhaa
open Go.RowKit
theorem law_setsIs (a : Option Addr) (n ca : Nat) (xs : List Int) (v : Int) (w : World) (ha : IntSl w a n xs) (hv : -9223372036854775808 ≤ v ∧ v ≤ 9223372036854775807) :
    Calls Try.prog 5 #[.slice a n ca, .int .i64 v] w fun e w' => e = .returned (.bool true) ∧ Below w.heap.size w w' := by
  have hm := ha.mx
  by_cases h1 : 1000 < n
  · have h1' : (1000 : Int) < (n : Int) := by omega
    go_enter Try.func5, Try.ntmps5
    go_wp2
    go_ret
    exact ⟨rfl, Below.refl _ _⟩
  have h1' : ¬ (1000 : Int) < (n : Int) := by omega
  have i1 : isB [] = true := isB_iff.2 ⟨fun i h => absurd h (by simp), by simp⟩
  have i2 : isB [2, 1] = false := isB_no (k := 0) (by simp) (by decide)
  have I1 := Lib.hid i1
  have I2 := Lib.hid i2
  clear i1 i2
  generalize hr : isB xs = r
  have HR := Lib.hid hr
  clear hr
  generalize hr : hasB xs v = s
  have HS := Lib.hid hr
  clear hr
  go_enter Try.func5, Try.ntmps5
  go_wp2_with fail
  refine (is_any _ _ _ [] _ (IntSl.nil _)).mono ?_
  rw [I1.out]
  rintro e w' ⟨rfl, q, rfl⟩
  go_wp2_with fail
  refine (is_any _ _ _ [2, 1] _ (by first | exact IntSl.lit _ [2, 1] _ (by simp) (by simp) | exact (IntSl.lit _ [2, 1] _ (by simp) (by simp)).drewN _)).mono ?_
  rw [I2.out]
  rintro e w' ⟨rfl, q, rfl⟩
  go_wp2_with fail
  refine (is_any _ _ _ xs _ (by repeat (first | assumption | apply IntSl.drewN | apply IntSl.alloc))).mono ?_
  rw [HR.out]
  rintro e w' ⟨rfl, q, rfl⟩
  go_wp2_with fail
  refine (ris_any _ _ _ xs _ (by repeat (first | assumption | apply IntSl.drewN | apply IntSl.alloc))).mono ?_
  rw [HR.out]
  rintro e w' ⟨rfl, q, rfl⟩
  go_wp2_with fail
  refine (has_any _ _ _ xs _ _ (by repeat (first | assumption | apply IntSl.drewN | apply IntSl.alloc))).mono ?_
  rw [HS.out]
  rintro e w' ⟨rfl, rfl⟩
  go_wp2_with fail
  refine (rhas_any _ _ _ xs _ _ (by repeat (first | assumption | apply IntSl.drewN | apply IntSl.alloc))).mono ?_
  rw [HS.out]
  rintro e w' ⟨rfl, rfl⟩
  go_wp2_with fail
  go_ret
  exact ⟨rfl, by repeat (first | exact Below.refl _ _ | refine bdrewN ?_ _ | refine Below.alloc ?_ (by simp) _)⟩
end Go.Proofs.Ytfioogmjhfdjhaa
