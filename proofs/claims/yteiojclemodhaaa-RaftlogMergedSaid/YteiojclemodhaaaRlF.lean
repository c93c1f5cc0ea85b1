/- Plain facts of a merge: what the reference's rounds make. No condition. -/
import Derived.Test.YteiojclemodhaaaRlD
namespace Go.Proofs.Yteiojclemodhaaa
open Go.RowKit Go.ChangeShapes Go.WideShapes Go.Deep
set_option linter.unusedVariables false
set_option linter.unusedSimpArgs false
theorem numT_le {index : Int} {l : List Entry} : ∀ {n j : Nat}, j ≤ n → numT index l n = true → numT index l j = true
  | 0, j, hj, h => by
    have : j = 0 := by omega
    subst this; exact h
  | n + 1, j, hj, h => by
    by_cases e : j = n + 1
    · subst e; exact h
    · simp only [numT, Bool.and_eq_true] at h
      exact numT_le (by omega) h.1
theorem numT_at {index : Int} {l : List Entry} {n j : Nat} (hj : j < n) (h : numT index l n = true) : okx index (l.getD j default) j = true := by
  have := numT_le (show j + 1 ≤ n from hj) h
  simp only [numT, Bool.and_eq_true] at this
  exact this.2
theorem numT_false {index : Int} {l : List Entry} {j : Nat} (hj : j < l.length) (h : okx index (l.getD j default) j = false) : numF index l = false := by
  cases hn : numF index l
  · rfl
  · have := numT_at hj hn; rw [h] at this; cases this
theorem okx_index {index : Int} {x : Entry} {i : Nat} (hi : I64 index) (hx : I64 x.index) (hs : i ≤ 1000000000) (h : okx index x i = true) : x.index = index + 1 + i := by
  unfold okx at h
  simp only [Bool.not_eq_true', Bool.or_eq_false_iff, decide_eq_false_iff_not, bne_eq_false_iff_eq] at h
  obtain ⟨h1, h2⟩ := h
  have e1 : IntKind.i64.wrap (x.index - 1) = x.index - 1 := wrapI ⟨by have := hi.1; omega, by have := hx.2; omega⟩
  rw [e1, IntKind.wrap_i64] at h2
  have := hi.1; have := hi.2; have := hx.1; have := hx.2
  omega
theorem numF_index {index : Int} {l : List Entry} (hi : I64 index) (hl : ∀ x, x ∈ l → x.Ok) (hs : l.length ≤ 1000000) (h : numF index l = true) {i : Nat} (hil : i < l.length) : (l.getD i default).index = index + 1 + i :=
  okx_index hi (hl _ (getD_mem hil)).index (by omega) (numT_at hil h)
theorem firstF_snoc (k : Kept) (x : Entry) : ∀ (l : List Entry), firstF k (l ++ [x]) = if firstF k l = -1 then (if freshB k x then (l.length : Int) else -1) else firstF k l
  | [] => by
    simp only [List.nil_append, firstF]
    cases freshB k x <;> simp
  | y :: l => by
    have ih := firstF_snoc k x l
    rw [List.cons_append, firstF, firstF, ih]
    rcases firstF_range k l with h | ⟨f, h1, h2⟩
    · rw [h]
      cases freshB k y <;> cases freshB k x <;> simp <;> omega
    · rw [h2]
      have : ¬ ((f : Int) = -1) := by omega
      cases freshB k y <;> simp [this] <;> omega
theorem mergeR_nil {k : Kept} {l : List Entry} : mergeR k l = [] ↔ firstF k l = -1 := by
  unfold mergeR
  constructor
  · intro h
    rcases firstF_range k l with h1 | ⟨f, h1, h2⟩
    · exact h1
    · rw [if_neg (by omega), h2] at h
      have := (List.append_eq_nil_iff.1 h).2
      simp at this; omega
  · intro h; rw [if_pos h]
theorem mergeR_snoc (k : Kept) (l : List Entry) (x : Entry) : mergeR k (l ++ [x]) = if firstF k l = -1 then (if freshB k x then (if x.index ≤ (lastP k).1 then [cutR x.index] else []) ++ [entR x] else []) else mergeR k l ++ [entR x] := by
  have hsn := firstF_snoc k x l
  rcases firstF_range k l with h | ⟨f, h1, h2⟩
  · rw [if_pos h]
    rw [if_pos h] at hsn
    cases hx : freshB k x
    · rw [hx] at hsn
      unfold mergeR
      rw [hsn]; simp
    · rw [hx, if_pos rfl] at hsn
      unfold mergeR
      rw [hsn, if_neg (by omega)]
      have e : (l ++ [x]).getD ((l.length : Int)).toNat default = x := by simp [List.getD]
      have e2 : (l ++ [x]).drop ((l.length : Int)).toNat = [x] := by simp
      rw [e, e2]; simp
  · have hn : ¬ firstF k l = -1 := by omega
    rw [if_neg hn]
    rw [if_neg hn] at hsn
    unfold mergeR
    rw [hsn, if_neg hn, if_neg hn, h2]
    have e : (l ++ [x]).getD ((f : Int)).toNat default = l.getD ((f : Int)).toNat default := by simp [List.getD, List.getElem?_append_left h1]
    have e2 : (l ++ [x]).drop ((f : Int)).toNat = l.drop ((f : Int)).toNat ++ [x] := by
      rw [List.drop_append_of_le_length (by simp; omega)]
    rw [e, e2]; simp
theorem last_index {k : Kept} (h : onB k = true) : (lastP k).1 = k.snap.index + k.entries.length := by
  rw [lastP_eq, if_pos h]
  unfold lastR
  split
  · rename_i h0; simp [snapP, h0]
  · rename_i h0
    have := on_index (onB_iff.1 h) (i := k.entries.length - 1) (by omega)
    simp only [entP]; omega
theorem term_iff {k : Kept} (h : onB k = true) {i : Int} (hi : k.snap.index < i) : (termP k i).2 = 0 ↔ i ≤ (lastP k).1 := by
  rw [last_index h]
  have hp := onB_iff.1 h
  constructor
  · intro ht
    apply Classical.byContradiction
    intro hgt
    rw [termP_none h (by omega) (fun j hj => by rw [on_index hp hj]; omega)] at ht
    simp at ht
  · intro hle
    have hj : (i - k.snap.index - 1).toNat < k.entries.length := by omega
    have := termP_at h hj
    rw [on_index hp hj] at this
    have e : k.snap.index + 1 + ((i - k.snap.index - 1).toNat : Int) = i := by omega
    rw [e] at this; rw [this]
theorem freshB_no {k : Kept} {x : Entry} (h : x.index ≤ k.snap.index) : freshB k x = false := by
  unfold freshB
  have : decide (k.snap.index < x.index) = false := by simp; omega
  rw [this]; rfl
theorem freshB_gt {k : Kept} {x : Entry} (h : freshB k x = true) : k.snap.index < x.index := by
  unfold freshB at h
  simp only [Bool.and_eq_true, decide_eq_true_eq] at h
  exact h.1
theorem freshB_hi {k : Kept} {x : Entry} (h : k.snap.index < x.index) : freshB k x = !((termP k x.index).2 == 0 && (termP k x.index).1 == x.term) := by
  unfold freshB
  simp only [h, decide_true, Bool.true_and]
  cases ((termP k x.index).2 == 0) <;> cases ((termP k x.index).1 == x.term) <;> rfl
theorem firstF_fresh {k : Kept} : ∀ {l : List Entry} {f : Nat}, firstF k l = (f : Int) → freshB k (l.getD f default) = true
  | [], f, h => by simp only [firstF] at h; omega
  | x :: l, f, h => by
    rw [firstF] at h
    cases hx : freshB k x
    · rw [hx] at h
      simp only [Bool.false_eq_true, if_false] at h
      split at h
      · omega
      · rcases firstF_range k l with h1 | ⟨g, h1, h2⟩
        · contradiction
        · have : f = g + 1 := by omega
          subst this
          simpa using firstF_fresh h2
    · rw [hx, if_pos rfl] at h
      have : f = 0 := by omega
      subst this; simpa using hx
/-- one round -/
theorem round_low {k : Kept} {index : Int} {l : List Entry} (hi : I64 index) (hl : ∀ x, x ∈ l → x.Ok) (hs : l.length ≤ 1000000) (hn : numF index l = true) {j : Nat} (hj : j < l.length) (h : (l.getD j default).index ≤ k.snap.index) : mergeR k (l.take (j + 1)) = mergeR k (l.take j) := by
  rw [take_snoc (d := default) hj, mergeR_snoc, freshB_no h]
  have : firstF k (l.take j) = -1 := by
    rcases firstF_range k (l.take j) with h1 | ⟨f, h1, h2⟩
    · exact h1
    · have h3 := freshB_gt (firstF_fresh h2)
      have hf : f < j := by simp at h1; omega
      have e : (l.take j).getD f default = l.getD f default := by simp [List.getD, List.getElem?_take, hf]
      rw [e, numF_index hi hl hs hn (by omega)] at h3
      rw [numF_index hi hl hs hn hj] at h
      omega
  rw [if_pos this]
  simp only [Bool.false_eq_true, if_false]
  exact (mergeR_nil.2 this).symm
theorem round_same {k : Kept} {l : List Entry} {j : Nat} (hj : j < l.length) (h : k.snap.index < (l.getD j default).index) (h0 : mergeR k (l.take j) = []) (he : ((termP k (l.getD j default).index).2 == 0) = true) (ht : ((termP k (l.getD j default).index).1 == (l.getD j default).term) = true) : mergeR k (l.take (j + 1)) = [] := by
  rw [take_snoc (d := default) hj, mergeR_snoc, freshB_hi h, he, ht, if_pos (mergeR_nil.1 h0)]; rfl
theorem round_cut {k : Kept} {l : List Entry} {j : Nat} (hon : onB k = true) (hj : j < l.length) (h : k.snap.index < (l.getD j default).index) (h0 : mergeR k (l.take j) = []) (he : ((termP k (l.getD j default).index).2 == 0) = true) (ht : ((termP k (l.getD j default).index).1 == (l.getD j default).term) = false) : mergeR k (l.take (j + 1)) = [cutR (l.getD j default).index, entR (l.getD j default)] := by
  rw [take_snoc (d := default) hj, mergeR_snoc, freshB_hi h, he, ht, if_pos (mergeR_nil.1 h0)]
  simp only [Bool.and_false, Bool.not_false, if_true]
  rw [if_pos ((term_iff hon h).1 (by simpa using he))]; rfl
theorem round_new {k : Kept} {l : List Entry} {j : Nat} (hon : onB k = true) (hj : j < l.length) (h : k.snap.index < (l.getD j default).index) (h0 : mergeR k (l.take j) = []) (he : ((termP k (l.getD j default).index).2 == 0) = false) : mergeR k (l.take (j + 1)) = [entR (l.getD j default)] := by
  rw [take_snoc (d := default) hj, mergeR_snoc, freshB_hi h, he, if_pos (mergeR_nil.1 h0)]
  simp only [Bool.false_and, Bool.not_false, if_true]
  rw [if_neg (fun hle => by rw [← term_iff hon h] at hle; rw [hle] at he; exact absurd he (by decide))]; rfl
theorem round_more {k : Kept} {l : List Entry} {j : Nat} (hj : j < l.length) (h0 : mergeR k (l.take j) ≠ []) : mergeR k (l.take (j + 1)) = mergeR k (l.take j) ++ [entR (l.getD j default)] := by
  rw [take_snoc (d := default) hj, mergeR_snoc, if_neg (fun e => h0 (mergeR_nil.2 e))]
theorem end_index {index : Int} {l : List Entry} (hi : I64 index) (hl : ∀ x, x ∈ l → x.Ok) (hs : l.length ≤ 1000000) (hn : numF index l = true) :
    pickI (decide ((l.length : Int) > 0)) ((l.getD (IntKind.i64.wrap ((l.length : Int) - 1)).toNat default).index) index = IntKind.i64.wrap (index + l.length) := by
  have e : IntKind.i64.wrap ((l.length : Int) - 1) = (l.length : Int) - 1 := wrapI ⟨by omega, by omega⟩
  rw [e]
  by_cases h : l.length = 0
  · rw [h]; simp only [Int.natCast_zero, Int.add_zero]; rw [wrapI hi]; rfl
  · have h1 : ((l.length : Int) - 1).toNat < l.length := by omega
    have h2 := numF_index hi hl hs hn h1
    have h3 := (hl _ (getD_mem (d := default) h1)).index
    have hd : decide ((l.length : Int) > 0) = true := by simp; omega
    rw [hd]
    show (l.getD ((l.length : Int) - 1).toNat default).index = _
    have h4 : index + (l.length : Int) = (l.getD ((l.length : Int) - 1).toNat default).index := by rw [h2]; omega
    rw [h4, wrapI h3]
theorem mergeR_len (k : Kept) (l : List Entry) : (mergeR k l).length ≤ l.length + 1 := by
  unfold mergeR
  split
  · simp
  · split <;> simp <;> omega
end Go.Proofs.Yteiojclemodhaaa
