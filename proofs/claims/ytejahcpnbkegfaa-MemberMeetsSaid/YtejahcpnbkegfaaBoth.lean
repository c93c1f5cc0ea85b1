/- The contracts of sets.Both and Common and of the references'. Condition: rows of at most 2^40 numbers. -/
import Derived.Test.YtejahcpnbkegfaaWith
namespace Go.Proofs.Ytejahcpnbkegfaa
open Go.RowKit
set_option linter.unusedVariables false
theorem is2_no (xs ys : List Int) (h : ¬ (isB xs = true ∧ isB ys = true)) : isB xs = false ∨ (isB xs = true ∧ isB ys = false) := by
  cases h1 : isB xs
  · exact .inl rfl
  · cases h2 : isB ys
    · exact .inr ⟨rfl, rfl⟩
    · exact absurd ⟨h1, h2⟩ h
theorem both_no (a : Option Addr) (n ca : Nat) (xs : List Int) (b : Option Addr) (m cb : Nat) (ys : List Int) (w : World) (ha : IntSl w a n xs) (hb : IntSl w b m ys) (h : ¬ (isB xs = true ∧ isB ys = true)) :
    Calls Try.prog 27 #[.slice a n ca, .slice b m cb] w (SetPost w 1 []) := by
  rcases is2_no xs ys h with h1 | ⟨h1, h2⟩
  · have H1 := Lib.hid h1
    clear h h1
    go_enter Try.func27, Try.ntmps27
    go_wp2_with fail
    refine (is_any _ _ _ xs _ ha).mono ?_
    rw [H1.out]
    rintro e w1 ⟨rfl, q, rfl⟩
    go_wp2_with fail
    go_ret2
    exact ⟨_, rfl, OwnI.nil _ _, bdrewN (Below.refl _ _) _⟩
  · have H1 := Lib.hid h1
    have H2 := Lib.hid h2
    clear h h1 h2
    go_enter Try.func27, Try.ntmps27
    go_wp2_with fail
    refine (is_any _ _ _ xs _ ha).mono ?_
    rw [H1.out]
    rintro e w1 ⟨rfl, q, rfl⟩
    go_wp2_with fail
    refine (is_any _ _ _ ys _ (hb.drewN _)).mono ?_
    rw [H2.out]
    rintro e w2 ⟨rfl, q2, rfl⟩
    go_wp2_with fail
    go_ret2
    exact ⟨_, rfl, OwnI.nil _ _, by repeat (first | exact Below.refl _ _ | refine bdrewN ?_ _)⟩
theorem both_yes (a : Option Addr) (n ca : Nat) (xs : List Int) (b : Option Addr) (m cb : Nat) (ys : List Int) (w : World) (ha : IntSl w a n xs) (hb : IntSl w b m ys) (hna : a = none → ca = 0) (hnb : b = none → cb = 0) (hn : n ≤ 1099511627776) (hm : m ≤ 1099511627776) (h1 : isB xs = true) (h2 : isB ys = true) (code : Int) (l : List Int)
    (hcl : ((mergeL (xs ++ ys)).length ≤ 16 ∧ code = 0 ∧ l = mergeL (xs ++ ys)) ∨ (16 < (mergeL (xs ++ ys)).length ∧ code = 2 ∧ l = [])) :
    Calls Try.prog 27 #[.slice a n ca, .slice b m cb] w (SetPost w code l) := by
  have H1 := Lib.hid h1
  have H2 := Lib.hid h2
  have HC := Lib.hid hcl
  clear h1 h2 hcl
  go_enter Try.func27, Try.ntmps27
  go_wp2_with fail
  refine (is_any _ _ _ xs _ ha).mono ?_
  rw [H1.out]
  rintro e w1 ⟨rfl, q, rfl⟩
  go_wp2_with fail
  refine (is_any _ _ _ ys _ (hb.drewN _)).mono ?_
  rw [H2.out]
  rintro e w2 ⟨rfl, q2, rfl⟩
  go_wp2_with fail
  refine (merged_yes w.heap.size a n ca xs b m cb ys _ ?_ ?_ ?_ ?_ ?_ hna hnb hn hm code l HC.out).mono ?_
  · exact World.cell?_alloc_at _ _ _ _ (by simp)
  · exact World.cell?_alloc_at _ _ _ _ (by simp)
  · simp
  · repeat (first | assumption | apply IntSl.drewN | apply IntSl.alloc)
  · repeat (first | assumption | apply IntSl.drewN | apply IntSl.alloc)
  rintro e w3 ⟨v2, rfl, ho2, hb2⟩
  go_wp2_with fail
  go_ret2
  have hs := hb2.size
  simp at hs
  exact ⟨_, rfl, ho2.mono (by simp), (by repeat (first | exact Below.refl _ _ | refine bdrewN ?_ _ | refine Below.alloc ?_ (by simp <;> omega) _) : Below w.heap.size w _).trans (hb2.mono (by simp))⟩
theorem both_c (a : Option Addr) (n ca : Nat) (xs : List Int) (b : Option Addr) (m cb : Nat) (ys : List Int) (w : World) (ha : IntSl w a n xs) (hb : IntSl w b m ys) (hna : a = none → ca = 0) (hnb : b = none → cb = 0) (hn : n ≤ 1099511627776) (hm : m ≤ 1099511627776) :
    Calls Try.prog 27 #[.slice a n ca, .slice b m cb] w (SetPost w (bothR xs ys).1 (bothR xs ys).2) := by
  unfold bothR
  by_cases h : isB xs = true ∧ isB ys = true
  · rw [if_pos h]; exact both_yes a n ca xs b m cb ys w ha hb hna hnb hn hm h.1 h.2 _ _ (cutR_or _)
  · rw [if_neg h]; exact both_no a n ca xs b m cb ys w ha hb h
theorem putL_len (xs : List Int) (v : Int) : (putL xs v).length ≤ xs.length + 1 := by
  cases h : hasB xs v
  · rw [putL_out h, ins_len]; exact Nat.le_refl _
  · rw [putL_in h]; omega
theorem putAll_len (xs ys : List Int) : (putAll xs ys).length ≤ xs.length + ys.length := by
  induction ys generalizing xs with
  | nil => simp [putAll]
  | cons y ys ih =>
    have h1 := ih (putL xs y)
    have h2 := putL_len xs y
    show (putAll (putL xs y) ys).length ≤ _
    simp only [List.length_cons]; omega
theorem putAll_bd {xs ys : List Int} (hx : ∀ x ∈ xs, -9223372036854775808 ≤ x ∧ x ≤ 9223372036854775807) (hy : ∀ x ∈ ys, -9223372036854775808 ≤ x ∧ x ≤ 9223372036854775807) : ∀ x ∈ putAll xs ys, -9223372036854775808 ≤ x ∧ x ≤ 9223372036854775807 := by
  intro x h
  rcases putAll_mem.1 h with h | h
  · exact hx x h
  · exact hy x h
theorem bothR_bd {xs ys : List Int} (hx : ∀ x ∈ xs, -9223372036854775808 ≤ x ∧ x ≤ 9223372036854775807) (hy : ∀ x ∈ ys, -9223372036854775808 ≤ x ∧ x ≤ 9223372036854775807) : ∀ x ∈ (bothR xs ys).2, -9223372036854775808 ≤ x ∧ x ≤ 9223372036854775807 := by
  unfold bothR
  split
  · rcases cutR_or (mergeL (xs ++ ys)) with ⟨_, _, e⟩ | ⟨_, _, e⟩
    · rw [e]
      intro x h
      rcases List.mem_append.1 (mergeL_mem.1 h) with h | h
      · exact hx x h
      · exact hy x h
    · rw [e]; simp
  · simp
theorem commonR_bd {xs ys : List Int} (hx : ∀ x ∈ xs, -9223372036854775808 ≤ x ∧ x ≤ 9223372036854775807) : ∀ x ∈ (commonR xs ys).2, -9223372036854775808 ≤ x ∧ x ≤ 9223372036854775807 := by
  unfold commonR
  split
  · exact fun x h => hx x (List.mem_filter.1 h).1
  · simp
end Go.Proofs.Ytejahcpnbkegfaa
