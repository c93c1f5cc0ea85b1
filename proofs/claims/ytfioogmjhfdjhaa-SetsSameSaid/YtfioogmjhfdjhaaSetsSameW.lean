/- The walk of the law SetsSame: true for every two rows. No condition but that the rows read as lists. -/
import Derived.Test.YtfioogmjhfdjhaaSetsB
namespace Go.Proofs.Ytfioogmjhfdjhaa
open Go.RowKit
theorem law_setsSame (a : Option Addr) (n ca : Nat) (xs : List Int) (b : Option Addr) (m cb : Nat) (ys : List Int) (w : World) (ha : IntSl w a n xs) (hb : IntSl w b m ys) :
    Calls Try.prog 4 #[.slice a n ca, .slice b m cb] w fun e w' => e = .returned (.bool true) ∧ Below w.heap.size w w' := by
  have hm := ha.mx
  have hm' := hb.mx
  by_cases h1 : 1000 < n
  · have h1' : (1000 : Int) < (n : Int) := by omega
    go_enter Try.func4, Try.ntmps4
    go_wp2
    go_ret
    exact ⟨rfl, Below.refl _ _⟩
  by_cases h2 : 1000 < m
  · have h1' : ¬ (1000 : Int) < (n : Int) := by omega
    have h2' : (1000 : Int) < (m : Int) := by omega
    go_enter Try.func4, Try.ntmps4
    go_wp2
    go_ret
    exact ⟨rfl, Below.refl _ _⟩
  have h1' : ¬ (1000 : Int) < (n : Int) := by omega
  have h2' : ¬ (1000 : Int) < (m : Int) := by omega
  have e2 : eqB xs xs = true := by simp [eqB]
  have E2 := Lib.hid e2
  clear e2
  generalize hr : eqB xs ys = r
  have HR := Lib.hid hr
  clear hr
  go_enter Try.func4, Try.ntmps4
  go_wp2_with fail
  refine (same_any _ _ _ _ _ _ [] [] _ (IntSl.nil _) (IntSl.lit w [] _ (by simp) (by simp))).mono ?_
  rintro e w' ⟨rfl, q, rfl⟩
  rw [show eqB [] [] = true from rfl]
  go_wp2_with fail
  refine (same_any _ _ _ _ _ _ xs ys _ (by repeat (first | assumption | apply IntSl.drewN | apply IntSl.alloc)) (by repeat (first | assumption | apply IntSl.drewN | apply IntSl.alloc))).mono ?_
  rw [HR.out]
  rintro e w' ⟨rfl, q, rfl⟩
  go_wp2_with fail
  refine (rsame_any _ _ _ _ _ _ xs ys _ (by repeat (first | assumption | apply IntSl.drewN | apply IntSl.alloc)) (by repeat (first | assumption | apply IntSl.drewN | apply IntSl.alloc))).mono ?_
  rw [HR.out]
  rintro e w' ⟨rfl, q, rfl⟩
  go_wp2_with fail
  refine (same_any _ _ _ _ _ _ xs xs _ (by repeat (first | assumption | apply IntSl.drewN | apply IntSl.alloc)) (by repeat (first | assumption | apply IntSl.drewN | apply IntSl.alloc))).mono ?_
  rw [E2.out]
  rintro e w' ⟨rfl, q, rfl⟩
  go_wp2_with fail
  go_ret
  exact ⟨rfl, (Dr.below ⟨_, rfl⟩ _).trans' ((Below.refl _ _).alloc (Nat.le_refl _) _)⟩
end Go.Proofs.Ytfioogmjhfdjhaa
