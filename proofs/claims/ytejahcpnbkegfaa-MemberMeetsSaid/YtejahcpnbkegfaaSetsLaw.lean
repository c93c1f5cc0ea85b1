/- Plain facts on rising rows: what is sorted and compacted, what Put lays in. No program. -/
import Derived.Test.YtejahcpnbkegfaaSort
import Derived.Test.YtejahcpnbkegfaaQuorumLaw
namespace Go.Proofs.Ytejahcpnbkegfaa
open Go.RowKit
set_option linter.unusedVariables false
def Asc (l : List Int) : Prop := l.Pairwise (· < ·)
theorem asc_ext : ∀ {a b : List Int}, Asc a → Asc b → (∀ x, x ∈ a ↔ x ∈ b) → a = b
  | [], [], _, _, _ => rfl
  | [], y :: b, _, _, h => absurd ((h y).2 (by simp)) (by simp)
  | x :: a, [], _, _, h => absurd ((h x).1 (by simp)) (by simp)
  | x :: a, y :: b, ha, hb, h => by
    have ha' := List.pairwise_cons.1 ha
    have hb' := List.pairwise_cons.1 hb
    have hxy : x = y := by
      have h1 := (h x).1 (by simp)
      have h2 := (h y).2 (by simp)
      rcases List.mem_cons.1 h1 with e | h1
      · exact e
      · rcases List.mem_cons.1 h2 with e | h2
        · exact e.symm
        · have := hb'.1 x h1; have := ha'.1 y h2; omega
    subst hxy
    congr 1
    refine asc_ext ha'.2 hb'.2 fun z => ?_
    constructor
    · intro hz
      have h1 := (h z).1 (List.mem_cons_of_mem _ hz)
      rcases List.mem_cons.1 h1 with e | h1
      · subst e; exact absurd (ha'.1 z hz) (by omega)
      · exact h1
    · intro hz
      have h1 := (h z).2 (List.mem_cons_of_mem _ hz)
      rcases List.mem_cons.1 h1 with e | h1
      · subst e; exact absurd (hb'.1 z hz) (by omega)
      · exact h1
theorem rises_asc {xs : List Int} (h : rises xs xs.length) : Asc xs := by
  unfold Asc
  rw [List.pairwise_iff_getElem]
  intro i j hi hj hij
  induction j with
  | zero => omega
  | succ j ih =>
    have h1 := h j (by omega)
    rw [el_get (by omega), el_get (by omega)] at h1
    by_cases e : i = j
    · subst e; exact h1
    · have := ih (by omega) (by omega); omega
theorem asc_rises {xs : List Int} (h : Asc xs) : rises xs xs.length := by
  intro i hi
  rw [el_get (by omega), el_get hi]
  exact (List.pairwise_iff_getElem.1 h) i (i + 1) (by omega) hi (by omega)
theorem isB_asc {xs : List Int} : isB xs = true ↔ Asc xs ∧ xs.length ≤ 16 := by
  rw [isB_iff]; exact ⟨fun h => ⟨rises_asc h.1, h.2⟩, fun h => ⟨asc_rises h.1, h.2⟩⟩
theorem keeps_iff {d : Array Int} {i : Nat} : Lib.keeps d i = true ↔ i = 0 ∨ d[i]! ≠ d[i - 1]! := by simp [Lib.keeps]
theorem compact_asc {xs : List Int} (h : xs.Pairwise (· ≤ ·)) : Asc (Lib.compact xs) := by
  unfold Asc Lib.compact Lib.compactUpTo
  rw [List.pairwise_map]
  have h1 : ((List.range xs.length).filter (Lib.keeps xs.toArray)).Pairwise (· < ·) := List.pairwise_lt_range.filter _
  refine h1.imp_of_mem fun {i j} hi hj hij => ?_
  have hi' := List.mem_filter.1 hi
  have hj' := List.mem_filter.1 hj
  have hil := List.mem_range.1 hi'.1
  have hjl := List.mem_range.1 hj'.1
  rcases keeps_iff.1 hj'.2 with e | e
  · omega
  · rw [getElem!_pos _ _ (by simpa using hjl), getElem!_pos _ _ (by simp; omega)] at e
    rw [getElem!_pos _ _ (by simpa using hil), getElem!_pos _ _ (by simpa using hjl)]
    simp only [List.getElem_toArray] at *
    have hp := List.pairwise_iff_getElem.1 h
    have q1 : xs[j - 1] ≤ xs[j] := hp (j - 1) j (by omega) hjl (by omega)
    have q2 : xs[i] ≤ xs[j - 1] := by
      by_cases e2 : i = j - 1
      · subst e2; exact Int.le_refl _
      · exact hp i (j - 1) hil (by omega) (by omega)
    omega
theorem compact_mem_iff {xs : List Int} {x : Int} : x ∈ Lib.compact xs ↔ x ∈ xs := by
  refine ⟨compact_mem, fun h => ?_⟩
  have hlt : xs.findIdx (fun y => y == x) < xs.length := List.findIdx_lt_length_of_exists ⟨x, h, by simp⟩
  have hx : xs[xs.findIdx (fun y => y == x)] = x := by
    have := List.findIdx_getElem (w := hlt); simpa using this
  unfold Lib.compact Lib.compactUpTo
  refine List.mem_map.2 ⟨xs.findIdx (fun y => y == x), List.mem_filter.2 ⟨List.mem_range.2 hlt, ?_⟩, ?_⟩
  · rw [keeps_iff]
    by_cases h0 : xs.findIdx (fun y => y == x) = 0
    · exact .inl h0
    · right
      rw [getElem!_pos _ _ (by simpa using hlt), getElem!_pos _ _ (by simp; omega)]
      simp only [List.getElem_toArray]
      rw [hx]
      have := List.not_of_lt_findIdx (p := fun y => y == x) (xs := xs) (i := xs.findIdx (fun y => y == x) - 1) (by omega)
      simp at this
      exact fun e => this e.symm
  · rw [getElem!_pos _ _ (by simpa using hlt)]; simpa using hx
theorem sortL_sorted (xs : List Int) : (sortL xs).Pairwise (· ≤ ·) := by
  have := List.pairwise_mergeSort (le := fun x y : Int => decide (x ≤ y)) (fun a b c => by simp; omega) (fun a b => by simp; omega) xs
  exact this.imp (by simp)
theorem mergeL_asc (xs : List Int) : Asc (mergeL xs) := compact_asc (sortL_sorted xs)
theorem mergeL_mem {xs : List Int} {x : Int} : x ∈ mergeL xs ↔ x ∈ xs := by
  unfold mergeL; rw [compact_mem_iff]; exact (List.mergeSort_perm xs _).mem_iff
theorem ins_mem {v x : Int} {l : List Int} : x ∈ ins v l ↔ x = v ∨ x ∈ l := by
  induction l with
  | nil => simp [ins]
  | cons y l ih =>
    unfold ins
    split
    · simp
    · simp [ih, or_left_comm]
theorem ins_asc {v : Int} {l : List Int} (h : Asc l) (hv : v ∉ l) : Asc (ins v l) := by
  induction l with
  | nil => simp [ins, Asc]
  | cons y l ih =>
    have h' := List.pairwise_cons.1 h
    unfold ins
    split
    · rename_i hlt
      refine List.pairwise_cons.2 ⟨fun z hz => ?_, h⟩
      rcases List.mem_cons.1 hz with rfl | hz
      · exact hlt
      · have := h'.1 z hz; omega
    · rename_i hlt
      refine List.pairwise_cons.2 ⟨fun z hz => ?_, ih h'.2 (fun hm => hv (List.mem_cons_of_mem _ hm))⟩
      rcases ins_mem.1 hz with rfl | hz
      · have : z ≠ y := fun e => hv (by simp [e]); omega
      · exact h'.1 z hz
theorem hasB_iff {xs : List Int} {v : Int} : hasB xs v = true ↔ v ∈ xs := by simp [hasB]
theorem hasB_not {xs : List Int} {v : Int} : hasB xs v = false ↔ v ∉ xs := by simp [hasB]
theorem putL_mem {xs : List Int} {v x : Int} : x ∈ putL xs v ↔ x = v ∨ x ∈ xs := by
  cases h : hasB xs v
  · rw [putL_out h, ins_mem]
  · rw [putL_in h]
    have := hasB_iff.1 h
    exact ⟨.inr, fun e => e.elim (fun e => e ▸ this) id⟩
theorem putL_asc {xs : List Int} {v : Int} (h : Asc xs) : Asc (putL xs v) := by
  cases hb : hasB xs v
  · rw [putL_out hb]; exact ins_asc h (hasB_not.1 hb)
  · rw [putL_in hb]; exact h
theorem mergeL_put {xs : List Int} {v : Int} (h : Asc xs) : mergeL (xs ++ [v]) = putL xs v :=
  asc_ext (mergeL_asc _) (putL_asc h) fun x => by rw [mergeL_mem, putL_mem]; simp [or_comm]
/-- Put of every number of a row in its order -/
def putAll (xs : List Int) (ys : List Int) : List Int := ys.foldl putL xs
theorem putAll_mem {xs ys : List Int} {x : Int} : x ∈ putAll xs ys ↔ x ∈ xs ∨ x ∈ ys := by
  induction ys generalizing xs with
  | nil => simp [putAll]
  | cons y ys ih =>
    show x ∈ putAll (putL xs y) ys ↔ _
    rw [ih, putL_mem]
    simp [or_assoc, or_left_comm]
theorem putAll_asc {xs ys : List Int} (h : Asc xs) : Asc (putAll xs ys) := by
  induction ys generalizing xs with
  | nil => exact h
  | cons y ys ih => exact ih (putL_asc h)
theorem mergeL_putAll {xs ys : List Int} (h : Asc xs) : mergeL (xs ++ ys) = putAll xs ys :=
  asc_ext (mergeL_asc _) (putAll_asc h) fun x => by rw [mergeL_mem, putAll_mem]; simp
end Go.Proofs.Ytejahcpnbkegfaa
