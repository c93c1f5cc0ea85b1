/- What a change makes of a configuration: the program's words and the document's say the same. No condition. -/
import Derived.Test.YtejahcpnbkegfaaMeI
namespace Go.Proofs.Ytejahcpnbkegfaa
open Go.RowKit
set_option linter.unusedVariables false
set_option linter.unusedSimpArgs false
/-- the document's answer -/
def kindB (c : Config) (k n : Int) : Bool := if k = 1 then !hasB c.voters n && !hasB c.learners n else if k = 2 then hasB c.learners n else if k = 3 then hasB c.learners n || (hasB c.voters n && decide ((1 : Int) < (c.voters.length : Int))) else false
noncomputable def applyB (c : Config) (k n : Int) : Bool := (mayB c && decide (1 ≤ n) && decide (n ≤ 5)) && kindB c k n
def applyC (c : Config) (k n : Int) : Config := ⟨if k = 2 then putL (dropL c.voters n) n else dropL c.voters n, if k = 1 then putL (dropL c.learners n) n else dropL c.learners n⟩
noncomputable def applyH (c : Config) (k n : Int) : Config := if applyB c k n = true then applyC c k n else ⟨[], []⟩
noncomputable def applyE (c : Config) (k n : Int) : Int := if applyB c k n = true then 0 else 160
theorem dropL_mem {xs : List Int} {n x : Int} : x ∈ dropL xs n ↔ x ∈ xs ∧ x ≠ n := by simp [dropL]
theorem dropL_asc {xs : List Int} {n : Int} (h : Asc xs) : Asc (dropL xs n) := List.Pairwise.filter _ h
theorem dropL_len (xs : List Int) (n : Int) : (dropL xs n).length ≤ xs.length := List.length_filter_le _ _
theorem may_in {c : Config} (h : mayB c = true) : (∀ x ∈ c.voters, 1 ≤ x ∧ x ≤ 5) ∧ (∀ x ∈ c.learners, 1 ≤ x ∧ x ≤ 5) ∧ c.voters ≠ [] ∧ (∀ x ∈ c.voters, x ∉ c.learners) := by
  unfold mayB at h
  simp only [Bool.and_eq_true, decide_eq_true_eq] at h
  refine ⟨fun x hx => ?_, fun x hx => ?_, h.1.2, fun x hx hl => ?_⟩
  · have := List.all_eq_true.1 h.1.1.1.2 x hx; simpa [inN] using this
  · have := List.all_eq_true.1 h.1.1.2.2 x hx; simpa [inN] using this
  · have := List.all_eq_true.1 h.2 x hx
    simp [hasB_iff.2 hl] at this
theorem may_mk {c : Config} (a1 : Asc c.voters) (a2 : Asc c.learners) (h1 : ∀ x ∈ c.voters, 1 ≤ x ∧ x ≤ 5) (h2 : ∀ x ∈ c.learners, 1 ≤ x ∧ x ≤ 5) (hne : c.voters ≠ []) (hd : ∀ x ∈ c.voters, x ∉ c.learners) : mayB c = true := by
  have l1 := asc_len _ 1 5 a1 h1 (by omega)
  have l2 := asc_len _ 1 5 a2 h2 (by omega)
  unfold mayB
  rw [isB_asc.2 ⟨a1, by omega⟩, isB_asc.2 ⟨a2, by omega⟩]
  simp only [Bool.true_and, Bool.and_eq_true, decide_eq_true_eq]
  refine ⟨⟨⟨?_, ?_⟩, hne⟩, ?_⟩
  · rw [List.all_eq_true]; intro x hx; simpa [inN] using h1 x hx
  · rw [List.all_eq_true]; intro x hx; simpa [inN] using h2 x hx
  · rw [List.all_eq_true]; intro x hx
    rw [hasB_not.2 (hd x hx)]; rfl
theorem set_in {xs : List Int} (a : Asc xs) (h : ∀ x ∈ xs, 1 ≤ x ∧ x ≤ 5) : isB xs = true := by
  have := asc_len _ 1 5 a h (by omega)
  exact isB_asc.2 ⟨a, by omega⟩
theorem put_in {xs : List Int} {n : Int} (a : Asc xs) (h : ∀ x ∈ xs, 1 ≤ x ∧ x ≤ 5) (h1 : 1 ≤ n) (h2 : n ≤ 5) : (∀ x ∈ putL xs n, 1 ≤ x ∧ x ≤ 5) ∧ withR xs n = (0, putL xs n) := by
  have hp : ∀ x ∈ putL xs n, 1 ≤ x ∧ x ≤ 5 := fun x hx => by
    rcases putL_mem.1 hx with rfl | hx
    · exact ⟨h1, h2⟩
    · exact h x hx
  refine ⟨hp, ?_⟩
  have hl := asc_len _ 1 5 (putL_asc (v := n) a) hp (by omega)
  rw [withR, if_pos (set_in a h), cutR, if_pos (by omega)]
theorem drop_out {xs : List Int} {n : Int} (h : n ∉ xs) : dropL xs n = xs := by
  unfold dropL
  rw [List.filter_eq_self]
  intro x hx
  have : x ≠ n := fun e => h (e ▸ hx)
  simp [this]
theorem drop_one : ∀ {xs : List Int} {n : Int}, Asc xs → n ∈ xs → (dropL xs n).length + 1 = xs.length
  | [], n, _, h => by cases h
  | x :: xs, n, ha, h => by
    obtain ⟨hx, hl⟩ := List.pairwise_cons.1 ha
    by_cases e : x = n
    · subst e
      have hn : x ∉ xs := fun hm => by have := hx x hm; omega
      have : dropL (x :: xs) x = xs := by
        have h1 : dropL (x :: xs) x = dropL xs x := by simp [dropL]
        rw [h1, drop_out hn]
      rw [this]; rfl
    · have h1 : dropL (x :: xs) n = x :: dropL xs n := by simp [dropL, e]
      have hm : n ∈ xs := by rcases List.mem_cons.1 h with h | h; exact absurd h.symm e; exact h
      rw [h1, List.length_cons, List.length_cons, drop_one hl hm]
/-- the program's word -/
noncomputable def kindP (c : Config) (k n : Int) : Bool := if k = 1 then !(hasB c.voters n || hasB c.learners n) else if k = 2 then hasB c.learners n && decide ((0 : Int) < ((putL (dropL c.voters n) n).length : Int)) else if k = 3 then (hasB c.voters n || hasB c.learners n) && decide ((0 : Int) < ((dropL c.voters n).length : Int)) else false
theorem kind_same {c : Config} (k n : Int) (h : mayB c = true) : kindP c k n = kindB c k n := by
  obtain ⟨h1, h2, h3, h4⟩ := may_in h
  obtain ⟨i1, i2⟩ := may_is h
  have a1 := (isB_asc.1 i1).1
  unfold kindP kindB
  by_cases c1 : k = 1
  · rw [if_pos c1, if_pos c1]; simp
  rw [if_neg c1, if_neg c1]
  by_cases c2 : k = 2
  · rw [if_pos c2, if_pos c2]
    have hm : n ∈ putL (dropL c.voters n) n := putL_mem.2 (.inl rfl)
    have : (0 : Int) < ((putL (dropL c.voters n) n).length : Int) := by
      have := List.length_pos_of_mem hm; omega
    rw [decide_eq_true this, Bool.and_true]
  rw [if_neg c2, if_neg c2]
  by_cases c3 : k = 3
  · rw [if_pos c3, if_pos c3]
    cases hv : hasB c.voters n
    · have hn := hasB_not.1 hv
      rw [drop_out hn]
      have : (0 : Int) < (c.voters.length : Int) := by
        have := List.length_pos_iff.2 h3; omega
      rw [decide_eq_true this]; simp
    · have hm := hasB_iff.1 hv
      have hl : hasB c.learners n = false := hasB_not.2 (h4 n hm)
      have hd := drop_one a1 hm
      rw [hl]
      simp only [Bool.true_or, Bool.true_and, Bool.false_or]
      rw [Bool.eq_iff_iff]
      simp only [decide_eq_true_eq]
      omega
  rw [if_neg c3, if_neg c3]
end Go.Proofs.Ytejahcpnbkegfaa
