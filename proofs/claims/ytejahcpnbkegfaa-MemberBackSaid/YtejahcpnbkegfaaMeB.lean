/- What a configuration may be: the program's words and the document's say the same. No condition. -/
import Derived.Test.YtejahcpnbkegfaaMeA
namespace Go.Proofs.Ytejahcpnbkegfaa
open Go.RowKit
set_option linter.unusedVariables false
set_option linter.unusedSimpArgs false
def inN (x : Int) : Bool := decide (1 ≤ x) && decide (x ≤ 5)
def outN (x : Int) : Bool := decide (x < 1) || decide (5 < x)
theorem outN_not (x : Int) : outN x = !inN x := by
  unfold outN inN
  by_cases h1 : 1 ≤ x <;> by_cases h2 : x ≤ 5 <;> simp [h1, h2] <;> omega
noncomputable def mayB (c : Config) : Bool := (isB c.voters && c.voters.all inN) && (isB c.learners && c.learners.all inN) && decide (c.voters ≠ []) && c.voters.all (fun x => !hasB c.learners x)
theorem asc_len : ∀ (l : List Int) (a b : Int), Asc l → (∀ x ∈ l, a ≤ x ∧ x ≤ b) → a ≤ b + 1 → (l.length : Int) ≤ b - a + 1
  | [], a, b, _, _, h => by simp; omega
  | x :: l, a, b, hs, hb, h => by
    obtain ⟨hx, hl⟩ := List.pairwise_cons.1 hs
    have h1 := hb x (List.mem_cons_self ..)
    have := asc_len l (x + 1) b hl (fun y hy => ⟨by have := hx y hy; omega, (hb y (List.mem_cons_of_mem _ hy)).2⟩) (by omega)
    rw [List.length_cons]; omega
theorem putAll_full : ∀ (ys acc : List Int), ys.Pairwise (· ≠ ·) → ((putAll acc ys).length = acc.length + ys.length ↔ ∀ y ∈ ys, y ∉ acc)
  | [], acc, _ => by simp [putAll]
  | y :: ys, acc, h => by
    obtain ⟨hy, hys⟩ := List.pairwise_cons.1 h
    have e : putAll acc (y :: ys) = putAll (putL acc y) ys := rfl
    rw [e]
    have hle := putAll_len (putL acc y) ys
    cases hb : hasB acc y
    · have h1 := putL_out hb
      have h2 : (putL acc y).length = acc.length + 1 := by rw [h1, ins_len]
      have hn : y ∉ acc := hasB_not.1 hb
      have ih := putAll_full ys (putL acc y) hys
      rw [List.length_cons]
      constructor
      · intro hh
        have h3 := ih.1 (by omega)
        intro z hz
        rcases List.mem_cons.1 hz with rfl | hz
        · exact hn
        · exact fun hm => h3 z hz (putL_mem.2 (.inr hm))
      · intro hh
        have h3 := ih.2 (fun z hz hm => by
          rcases putL_mem.1 hm with rfl | hm
          · exact hy z hz rfl
          · exact hh z (List.mem_cons_of_mem _ hz) hm)
        omega
    · have h1 := putL_in hb
      have hm : y ∈ acc := hasB_iff.1 hb
      rw [h1] at hle ⊢
      rw [List.length_cons]
      constructor
      · intro hh; omega
      · intro hh; exact absurd hm (hh y (List.mem_cons_self ..))
theorem asc_ne {l : List Int} (h : Asc l) : l.Pairwise (· ≠ ·) := List.Pairwise.imp (fun {a b} (hab : a < b) => by omega) h
noncomputable def bothL (c : Config) : List Int := (bothR c.voters c.learners).2
theorem may_prog (c : Config) : mayB c = (((bothR c.voters c.learners).1 == 0) && !((bothL c).any outN) && decide ((0 : Int) < (c.voters.length : Int)) && (((bothL c).length : Int) == (c.voters.length : Int) + (c.learners.length : Int))) := by
  rw [Bool.eq_iff_iff]
  unfold bothL
  by_cases hi : isB c.voters = true ∧ isB c.learners = true
  · obtain ⟨h1, h2⟩ := hi
    have a1 := (isB_asc.1 h1).1
    have a2 := (isB_asc.1 h2).1
    have em : mergeL (c.voters ++ c.learners) = putAll c.voters c.learners := mergeL_putAll a1
    have ebr : bothR c.voters c.learners = cutR (mergeL (c.voters ++ c.learners)) := by rw [bothR, if_pos ⟨h1, h2⟩]
    have hmem : ∀ x, x ∈ mergeL (c.voters ++ c.learners) ↔ x ∈ c.voters ∨ x ∈ c.learners := fun x => by rw [mergeL_mem, List.mem_append]
    have hfull := putAll_full c.learners c.voters (asc_ne a2)
    rw [← em] at hfull
    have hany : ((mergeL (c.voters ++ c.learners)).any outN = false) ↔ (c.voters.all inN = true ∧ c.learners.all inN = true) := by
      rw [List.any_eq_false, List.all_eq_true, List.all_eq_true]
      constructor
      · intro h
        exact ⟨fun x hx => by have := h x ((hmem x).2 (.inl hx)); rw [outN_not] at this; simpa using this, fun x hx => by have := h x ((hmem x).2 (.inr hx)); rw [outN_not] at this; simpa using this⟩
      · rintro ⟨k1, k2⟩ x hx
        rw [outN_not]
        rcases (hmem x).1 hx with h | h
        · simp [k1 x h]
        · simp [k2 x h]
    have hdis : (c.voters.all (fun x => !hasB c.learners x) = true) ↔ ∀ y ∈ c.learners, y ∉ c.voters := by
      rw [List.all_eq_true]
      constructor
      · intro h y hy hv
        have := h y hv
        simp [hasB_iff.2 hy] at this
      · intro h x hx
        cases hb : hasB c.learners x
        · rfl
        · exact absurd hx (h x (hasB_iff.1 hb))
    have hne : (c.voters ≠ []) ↔ (0 : Int) < (c.voters.length : Int) := by
      cases c.voters <;> simp <;> omega
    unfold mayB
    rw [ebr]
    simp only [Bool.and_eq_true, decide_eq_true_eq, h1, h2, true_and, hdis]
    rcases cutR_or (mergeL (c.voters ++ c.learners)) with ⟨k1, k2, k3⟩ | ⟨k1, k2, k3⟩
    · rw [k2, k3]
      constructor
      · rintro ⟨⟨⟨v1, l1⟩, ne⟩, d⟩
        refine ⟨⟨⟨by simp, ?_⟩, hne.1 ne⟩, ?_⟩
        · rw [hany.2 ⟨v1, l1⟩]; rfl
        · rw [beq_iff_eq]; have := hfull.2 d; omega
      · rintro ⟨⟨⟨_, an⟩, ne⟩, d⟩
        rw [beq_iff_eq] at d
        have h3 := hany.1 (by simpa using an)
        exact ⟨⟨⟨h3.1, h3.2⟩, hne.2 ne⟩, hfull.1 (by omega)⟩
    · rw [k2, k3]
      constructor
      · rintro ⟨⟨⟨v1, l1⟩, ne⟩, d⟩
        exfalso
        have hl := asc_len _ 1 5 (mergeL_asc (c.voters ++ c.learners)) (fun x hx => by
          have : inN x = true := by
            rcases (hmem x).1 hx with h | h
            · exact List.all_eq_true.1 v1 x h
            · exact List.all_eq_true.1 l1 x h
          simpa [inN] using this) (by omega)
        omega
      · rintro ⟨⟨⟨h, _⟩, _⟩, _⟩
        simp at h
  · have ebr : bothR c.voters c.learners = (1, []) := by rw [bothR, if_neg hi]
    rw [ebr]
    constructor
    · intro h
      unfold mayB at h
      simp only [Bool.and_eq_true] at h
      exact absurd ⟨h.1.1.1.1, h.1.1.2.1⟩ hi
    · intro h
      simp at h
end Go.Proofs.Ytejahcpnbkegfaa
