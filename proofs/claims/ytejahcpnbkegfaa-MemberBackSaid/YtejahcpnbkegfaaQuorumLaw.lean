/- Plain facts on majorities: two of one set, and of a set and of that with one number more, have a number in common. No program. -/
import Derived.Test.YtejahcpnbkegfaaQuorumA
import Derived.Test.YtejahcpnbkegfaaPut
namespace Go.Proofs.Ytejahcpnbkegfaa
open Go.RowKit
set_option linter.unusedVariables false
theorem putSt_fold (xs : List Int) (v : Int) (k : Nat) (hk : k ≤ xs.length) : putSt xs v k = (xs.take k).foldl (putStep v) ([], hasB xs v) := by
  induction k with
  | zero => simp [putSt]
  | succ k ih =>
    have e : el xs k = xs[k]'(by omega) := by simp [el, show k < xs.length by omega]
    rw [putSt, ih (by omega), List.take_succ_eq_append_getElem (by omega), List.foldl_append, e]; rfl
theorem fold_true (v : Int) (l o : List Int) : l.foldl (putStep v) (o, true) = (o ++ l, true) := by
  induction l generalizing o with
  | nil => simp
  | cons x l ih => rw [List.foldl_cons]; simp only [putStep, reduceCtorEq, false_and, if_false]; rw [ih]; simp
def ins (v : Int) : List Int → List Int
  | [] => [v]
  | x :: l => if v < x then v :: x :: l else x :: ins v l
theorem fold_false (v : Int) (l o : List Int) : (if (l.foldl (putStep v) (o, false)).2 then (l.foldl (putStep v) (o, false)).1 else (l.foldl (putStep v) (o, false)).1 ++ [v]) = o ++ ins v l := by
  induction l generalizing o with
  | nil => simp [ins]
  | cons x l ih =>
    rw [List.foldl_cons]
    by_cases h : v < x
    · have e : putStep v (o, false) x = (o ++ [v] ++ [x], true) := by simp [putStep, h]
      rw [e, fold_true]; simp [ins, h]
    · have e : putStep v (o, false) x = (o ++ [x], false) := by simp [putStep, h]
      rw [e, ih]; simp [ins, h]
theorem putL_in {xs : List Int} {v : Int} (h : hasB xs v = true) : putL xs v = xs := by
  unfold putL
  rw [putSt_fold _ _ _ (Nat.le_refl _), h, List.take_length, fold_true]; simp
theorem putL_out {xs : List Int} {v : Int} (h : hasB xs v = false) : putL xs v = ins v xs := by
  unfold putL
  rw [putSt_fold _ _ _ (Nat.le_refl _), h, List.take_length, fold_false]; simp
theorem ins_len (v : Int) (l : List Int) : (ins v l).length = l.length + 1 := by
  induction l with
  | nil => rfl
  | cons x l ih => unfold ins; split <;> simp [ih]
theorem ins_countP (v : Int) (p : Int → Bool) (l : List Int) : (ins v l).countP p = l.countP p + (p v).toNat := by
  induction l with
  | nil => cases h : p v <;> simp [ins, h]
  | cons x l ih =>
    unfold ins
    split
    · cases h : p v <;> simp [List.countP_cons, h]
    · rw [List.countP_cons, ih, List.countP_cons]; omega
theorem cntTo_countP (xs ys : List Int) (k : Nat) (hk : k ≤ xs.length) : cntTo xs ys k = (xs.take k).countP (hasB ys) := by
  induction k with
  | zero => simp [cntTo]
  | succ k ih =>
    have e : el xs k = xs[k]'(by omega) := by simp [el, show k < xs.length by omega]
    rw [cntTo, ih (by omega), List.take_succ_eq_append_getElem (by omega), List.countP_append, e]
    cases h : hasB ys (xs[k]'(by omega)) <;> simp [h]
theorem reach_cnt {xs ys : List Int} (h : reachB xs ys = true) : xs.length < 2 * xs.countP (hasB ys) := by
  have h2 : cntTo xs ys xs.length = xs.countP (hasB ys) := by rw [cntTo_countP _ _ _ (Nat.le_refl _), List.take_length]
  unfold reachB at h
  rw [h2] at h
  simp only [Bool.and_eq_true, decide_eq_true_eq] at h
  omega
theorem pigeon (p q : Int → Bool) (l : List Int) (h : ∀ x ∈ l, ¬ (p x = true ∧ q x = true)) : l.countP p + l.countP q ≤ l.length := by
  induction l with
  | nil => simp
  | cons x l ih =>
    have h1 := ih (fun y hy => h y (by simp [hy]))
    have h2 := h x (by simp)
    rw [List.countP_cons, List.countP_cons]
    cases hp : p x <;> cases hq : q x <;> simp_all <;> omega
theorem not_common {xs A B : List Int} {n : Nat} (hn : xs.length = n) (h : ∀ i, i < n → ¬ (hasB A (el xs i) = true ∧ hasB B (el xs i) = true)) : ∀ x ∈ xs, ¬ (hasB A x = true ∧ hasB B x = true) := by
  intro x hx
  obtain ⟨i, hi, e⟩ := List.mem_iff_getElem.1 hx
  have := h i (by omega)
  rwa [show el xs i = x by rw [← e]; simp [el, hi]] at this
theorem meets {xs A B : List Int} {n : Nat} (hn : xs.length = n) (ha : reachB xs A = true) (hb : reachB xs B = true) (h : ∀ i, i < n → ¬ (hasB A (el xs i) = true ∧ hasB B (el xs i) = true)) : False := by
  have h1 := reach_cnt ha
  have h2 := reach_cnt hb
  have h3 := pigeon _ _ _ (not_common hn h)
  omega
theorem meets_next {xs A B : List Int} {v : Int} {n : Nat} (hn : xs.length = n) (ha : reachB xs A = true) (hb : reachB (putL xs v) B = true) (h : ∀ i, i < n → ¬ (hasB A (el xs i) = true ∧ hasB B (el xs i) = true)) : False := by
  have h1 := reach_cnt ha
  have h2 := reach_cnt hb
  have h3 := pigeon _ _ _ (not_common hn h)
  cases hv : hasB xs v
  · rw [putL_out hv, ins_len, ins_countP] at h2
    cases hb : hasB B v <;> simp [hb] at h2 <;> omega
  · rw [putL_in hv] at h2; omega
end Go.Proofs.Ytejahcpnbkegfaa
