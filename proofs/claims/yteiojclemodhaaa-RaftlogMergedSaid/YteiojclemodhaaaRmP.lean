/- Plain facts of records that are folded, and merged once more. No condition. -/
import Derived.Test.YteiojclemodhaaaRmG
import Derived.Test.YteiojclemodhaaaRmB
namespace Go.Proofs.Yteiojclemodhaaa
open Go.RowKit Go.ChangeShapes Go.WideShapes Go.Deep
set_option linter.unusedVariables false
set_option linter.unusedSimpArgs false
/-- a merge that is one -/
structure MH (k : Kept) (index term : Int) (l : List Entry) : Prop where
  on : onB k = true
  num : numF index l = true
  bad : badB k index term = false
  hi : I64 index
  hl : ∀ x, x ∈ l → x.Ok
  hs : l.length ≤ 1000000
theorem MH.of {k : Kept} {index term : Int} {l : List Entry} (h : mergeE k index term l = 0) (hi : I64 index) (hl : ∀ x, x ∈ l → x.Ok) (hs : l.length ≤ 1000000) : MH k index term l := by
  unfold mergeE at h
  split at h
  · rename_i h1
    simp only [Bool.and_eq_true] at h1
    split at h
    · cases h
    · rename_i h2
      exact ⟨h1.1, h1.2, by simpa using h2, hi, hl, hs⟩
  · cases h
noncomputable def f0 (k : Kept) (l : List Entry) : Nat := (firstF k l).toNat
noncomputable def mK (k : Kept) (l : List Entry) : Nat := if firstF k l = -1 then k.entries.length else ((l.getD (f0 k l) default).index - k.snap.index - 1).toNat
noncomputable def nK (k : Kept) (l : List Entry) : List Entry := if firstF k l = -1 then [] else l.drop (f0 k l)
noncomputable def cN (k : Kept) (l : List Entry) : Nat := if firstF k l = -1 then 0 else if (l.getD (f0 k l) default).index ≤ (lastP k).1 then 1 else 0
/-- what is kept with some of them -/
noncomputable def xK (k : Kept) (l : List Entry) (j : Nat) : Kept := ⟨k.term, k.vote, k.snap, k.entries.take (mK k l) ++ (nK k l).take j⟩
noncomputable def stK (k : Kept) (l : List Entry) (i : Nat) : Kept := if i < cN k l then k else xK k l (i - cN k l)
theorem firstF_before {k : Kept} : ∀ {l : List Entry} {f i : Nat}, firstF k l = (f : Int) → i < f → freshB k (l.getD i default) = false
  | [], f, i, h, hi => by simp only [firstF] at h; omega
  | x :: l, f, i, h, hi => by
    rw [firstF] at h
    cases hx : freshB k x
    · cases i with
      | zero => simpa using hx
      | succ i =>
        rw [hx] at h
        simp only [Bool.false_eq_true, if_false] at h
        split at h
        · omega
        · have := firstF_before (k := k) (l := l) (f := f - 1) (i := i) (by omega) (by omega)
          simpa using this
    · rw [hx, if_pos rfl] at h; omega
theorem firstF_all {k : Kept} : ∀ {l : List Entry} {i : Nat}, firstF k l = -1 → i < l.length → freshB k (l.getD i default) = false
  | [], i, h, hi => by simp at hi
  | x :: l, i, h, hi => by
    rw [firstF] at h
    cases hx : freshB k x
    · cases i with
      | zero => simpa using hx
      | succ i =>
        rw [hx] at h
        simp only [Bool.false_eq_true, if_false] at h
        have h1 : firstF k l = -1 := by
          rcases firstF_range k l with h2 | ⟨f, h2, h3⟩
          · exact h2
          · rw [if_neg (by omega)] at h; omega
        have := firstF_all (k := k) (l := l) (i := i) h1 (by simpa using hi)
        simpa using this
    · rw [hx, if_pos rfl] at h; omega
section
variable {k : Kept} {index term : Int} {l : List Entry}
theorem MH.last (M : MH k index term l) : index ≤ k.snap.index + k.entries.length := by
  have h := M.bad
  unfold badB at h
  simp only [Bool.or_eq_false_iff, decide_eq_false_iff_not] at h
  have := h.1
  rw [last_index M.on] at this
  omega
theorem MH.idx (M : MH k index term l) {i : Nat} (h : i < l.length) : (l.getD i default).index = index + 1 + i := numF_index M.hi M.hl M.hs M.num h
theorem MH.old (M : MH k index term l) {i : Nat} (h : freshB k (l.getD i default) = false) (h2 : k.snap.index < (l.getD i default).index) : (termP k (l.getD i default).index) = ((l.getD i default).term, 0) := by
  rw [freshB_hi h2] at h
  simp only [Bool.not_eq_false', Bool.and_eq_true, beq_iff_eq] at h
  exact Prod.ext h.2 h.1
/-- the first that is new stands behind what is kept, or in it -/
theorem MH.first (M : MH k index term l) {f : Nat} (h : firstF k l = (f : Int)) (hf : f < l.length) : k.snap.index < (l.getD f default).index ∧ (l.getD f default).index ≤ k.snap.index + k.entries.length + 1 := by
  refine ⟨freshB_gt (firstF_fresh h), ?_⟩
  rw [M.idx hf]
  have hlast := M.last
  cases f with
  | zero => simp; omega
  | succ g =>
    have hg := firstF_before h (show g < g + 1 by omega)
    have hgi := M.idx (show g < l.length by omega)
    by_cases h2 : k.snap.index < (l.getD g default).index
    · have := M.old hg h2
      have h3 : (termP k (l.getD g default).index).2 = 0 := by rw [this]
      have h4 := (term_iff M.on h2).1 h3
      rw [last_index M.on, hgi] at h4
      push_cast; omega
    · rw [hgi] at h2; push_cast; omega
theorem MH.mK_eq (M : MH k index term l) {f : Nat} (h : firstF k l = (f : Int)) (hf : f < l.length) : (l.getD f default).index = k.snap.index + 1 + mK k l ∧ mK k l ≤ k.entries.length ∧ f0 k l = f ∧ nK k l = l.drop f := by
  have h1 := M.first h hf
  have e : f0 k l = f := by unfold f0; rw [h]; rfl
  have hn : ¬ firstF k l = -1 := by omega
  refine ⟨?_, ?_, e, ?_⟩
  · unfold mK; rw [if_neg hn, e]; omega
  · unfold mK; rw [if_neg hn, e]; omega
  · unfold nK; rw [if_neg hn, e]
theorem mK_none (h : firstF k l = -1) : mK k l = k.entries.length ∧ nK k l = [] ∧ cN k l = 0 := by
  unfold mK nK cN; simp [h]
theorem MH.mK_le (M : MH k index term l) : mK k l ≤ k.entries.length := by
  rcases firstF_range k l with h | ⟨f, hf, h⟩
  · rw [(mK_none h).1]; exact Nat.le_refl _
  · exact (M.mK_eq h hf).2.1
theorem MH.xK_snap (j : Nat) : (xK k l j).snap = k.snap := rfl
theorem MH.xK_old (M : MH k index term l) {j i : Nat} (h : i < mK k l) : (xK k l j).en i = k.en i := by
  have := M.mK_le
  show (k.entries.take (mK k l) ++ (nK k l).take j).getD i default = k.entries.getD i default
  rw [List.getD_eq_getElem?_getD, List.getD_eq_getElem?_getD, List.getElem?_append_left (by simp; omega), List.getElem?_take, if_pos h]
theorem MH.xK_new (M : MH k index term l) {j i : Nat} (h : i < j) (h2 : i < (nK k l).length) : (xK k l j).en (mK k l + i) = (nK k l).getD i default := by
  have := M.mK_le
  show (k.entries.take (mK k l) ++ (nK k l).take j).getD (mK k l + i) default = _
  rw [List.getD_eq_getElem?_getD, List.getD_eq_getElem?_getD, List.getElem?_append_right (by simp; omega), List.getElem?_take]
  simp only [List.length_take, Nat.min_eq_left this]
  rw [if_pos (by omega), show mK k l + i - mK k l = i by omega]
theorem MH.xK_len (M : MH k index term l) {j : Nat} (h : j ≤ (nK k l).length) : (xK k l j).entries.length = mK k l + j := by
  have := M.mK_le
  show (k.entries.take (mK k l) ++ (nK k l).take j).length = _
  simp; omega
theorem MH.nK_index (M : MH k index term l) {i : Nat} (h : i < (nK k l).length) : ((nK k l).getD i default).index = k.snap.index + 1 + mK k l + i := by
  rcases firstF_range k l with h1 | ⟨f, hf, h1⟩
  · rw [(mK_none h1).2.1] at h; simp at h
  · obtain ⟨e1, e2, e3, e4⟩ := M.mK_eq h1 hf
    rw [e4] at h ⊢
    have hd : (l.drop f).getD i default = l.getD (f + i) default := by rw [List.getD_eq_getElem?_getD, List.getD_eq_getElem?_getD, List.getElem?_drop]
    rw [hd, M.idx (by simp at h; omega)]
    rw [M.idx hf] at e1
    push_cast; omega
/-- numbers go on -/
theorem MH.xK_index (M : MH k index term l) {j i : Nat} (hj : j ≤ (nK k l).length) (h : i < mK k l + j) : ((xK k l j).en i).index = k.snap.index + 1 + i := by
  by_cases h1 : i < mK k l
  · rw [M.xK_old h1]
    exact on_index (onB_iff.1 M.on) (by have := M.mK_le; omega)
  · have e : i = mK k l + (i - mK k l) := by omega
    rw [e, M.xK_new (by omega) (by omega), M.nK_index (by omega)]
    push_cast; omega
theorem MH.xK_on (M : MH k index term l) {j : Nat} (hj : j ≤ (nK k l).length) (h : mK k l + j ≤ 10000) : onB (xK k l j) = true := by
  have hp := onB_iff.1 M.on
  refine onB_iff.2 ⟨hp.1, by rw [M.xK_len hj]; exact h, fun i hi => ?_⟩
  rw [M.xK_len hj] at hi
  have := M.xK_index hj hi
  have h0 := hp.1
  unfold okAt
  rw [this]
  show _ ∧ _ = k.snap.index
  omega
/-- what stood ahead of the first new one stands -/
theorem MH.ahead (M : MH k index term l) {i : Nat} (hi : i < k.entries.length) (h : (k.en i).index ≤ index) : i < mK k l := by
  rcases firstF_range k l with h1 | ⟨f, hf, h1⟩
  · rw [(mK_none h1).1]; exact hi
  · obtain ⟨e1, _⟩ := M.mK_eq h1 hf
    rw [M.idx hf] at e1
    rw [on_index (onB_iff.1 M.on) hi] at h
    omega
/-- all of them are there then -/
theorem MH.there (M : MH k index term l) (hn : mK k l + (nK k l).length ≤ 10000) {i : Nat} (hi : i < l.length) (h : k.snap.index < (l.getD i default).index) : termP (xK k l (nK k l).length) (l.getD i default).index = ((l.getD i default).term, 0) := by
  have hon := M.xK_on (Nat.le_refl _) hn
  have hlen := M.xK_len (Nat.le_refl (nK k l).length)
  -- one of k's
  have key : freshB k (l.getD i default) = false → (firstF k l = -1 ∨ ∃ f : Nat, firstF k l = (f : Int) ∧ f < l.length ∧ i < f) → termP (xK k l (nK k l).length) (l.getD i default).index = ((l.getD i default).term, 0) := by
    intro hf hc
    have ho := M.old hf h
    have h2 : (termP k (l.getD i default).index).2 = 0 := by rw [ho]
    have h3 := (term_iff M.on h).1 h2
    rw [last_index M.on] at h3
    have hj : ((l.getD i default).index - k.snap.index - 1).toNat < k.entries.length := by omega
    have hki := on_index (onB_iff.1 M.on) hj
    have e : k.snap.index + 1 + (((l.getD i default).index - k.snap.index - 1).toNat : Int) = (l.getD i default).index := by omega
    rw [e] at hki
    have hm : ((l.getD i default).index - k.snap.index - 1).toNat < mK k l := by
      rcases hc with hc | ⟨f, hc, hfl, hif⟩
      · rw [(mK_none hc).1]; exact hj
      · obtain ⟨e1, _⟩ := M.mK_eq hc hfl
        rw [M.idx hfl] at e1
        have hii := M.idx hi
        omega
    have hk := termP_at M.on hj
    rw [hki, ho] at hk
    have hx := termP_at hon (j := ((l.getD i default).index - k.snap.index - 1).toNat) (by omega)
    rw [M.xK_old hm, hki] at hx
    rw [hx, ← hk]
  rcases firstF_range k l with h1 | ⟨f, hf, h1⟩
  · exact key (firstF_all h1 hi) (.inl h1)
  · by_cases hif : i < f
    · exact key (firstF_before h1 hif) (.inr ⟨f, h1, hf, hif⟩)
    · obtain ⟨e1, e2, e3, e4⟩ := M.mK_eq h1 hf
      have hd : (nK k l).getD (i - f) default = l.getD i default := by
        rw [e4, List.getD_eq_getElem?_getD, List.getD_eq_getElem?_getD, List.getElem?_drop, show f + (i - f) = i by omega]
      have hil : i - f < (nK k l).length := by rw [e4]; simp; omega
      have hx := termP_at hon (j := mK k l + (i - f)) (by omega)
      rw [M.xK_new hil hil, hd] at hx
      exact hx
theorem MH.again (M : MH k index term l) (hn : mK k l + (nK k l).length ≤ 10000) : mergeE (xK k l (nK k l).length) index term l = 0 ∧ mergeL (xK k l (nK k l).length) index term l = [] := by
  have hon := M.xK_on (Nat.le_refl _) hn
  have hlen := M.xK_len (Nat.le_refl (nK k l).length)
  have hlast := M.last
  have hbad : badB (xK k l (nK k l).length) index term = false := by
    have hb := M.bad
    unfold badB at hb ⊢
    simp only [Bool.or_eq_false_iff, decide_eq_false_iff_not] at hb ⊢
    obtain ⟨hb1, hb2⟩ := hb
    have hge : index ≤ k.snap.index + (mK k l + (nK k l).length : Nat) := by
      rcases firstF_range k l with h1 | ⟨f, hf, h1⟩
      · rw [(mK_none h1).1]; push_cast; omega
      · obtain ⟨e1, _⟩ := M.mK_eq h1 hf
        rw [M.idx hf] at e1
        push_cast; omega
    refine ⟨?_, ?_⟩
    · rw [last_index hon, hlen]
      show ¬ k.snap.index + _ < index
      omega
    · show (decide (k.snap.index ≤ index) && _) = false
      by_cases hsi : k.snap.index ≤ index
      · simp only [hsi, decide_true, Bool.true_and] at hb2 ⊢
        have hkt : (termP k index).1 = term := by simpa using hb2
        have : termP (xK k l (nK k l).length) index = termP k index := by
          by_cases he : index = k.snap.index
          · rw [he, termP_snap M.on]
            exact termP_snap hon
          · have hj : (index - k.snap.index - 1).toNat < k.entries.length := by omega
            have hki := on_index (onB_iff.1 M.on) hj
            have e : k.snap.index + 1 + ((index - k.snap.index - 1).toNat : Int) = index := by omega
            rw [e] at hki
            have hm := M.ahead hj (by omega)
            have hk := termP_at M.on hj
            have hx := termP_at hon (j := (index - k.snap.index - 1).toNat) (by omega)
            rw [M.xK_old hm, hki] at hx
            rw [hki] at hk
            rw [hx, hk]
        rw [this, hkt]; simp
      · simp [hsi]
  have hE : mergeE (xK k l (nK k l).length) index term l = 0 := by
    unfold mergeE
    rw [hon, M.num, hbad]; rfl
  refine ⟨hE, ?_⟩
  unfold mergeL
  rw [if_pos hE]
  refine mergeR_nil.2 (firstF_miss fun i hi => ?_)
  by_cases h : k.snap.index < (l.getD i default).index
  · have := M.there hn hi h
    rw [freshB_hi (show (xK k l (nK k l).length).snap.index < _ from h), this]; simp
  · exact freshB_no (show _ ≤ (xK k l (nK k l).length).snap.index from by show _ ≤ k.snap.index; omega)
theorem MH.st0 (M : MH k index term l) : stK k l 0 = k := by
  unfold stK
  split
  · rfl
  · rename_i h
    have hc : cN k l = 0 := by omega
    have hm : k.entries.length ≤ mK k l := by
      rcases firstF_range k l with h1 | ⟨f, hf, h1⟩
      · rw [(mK_none h1).1]; exact Nat.le_refl _
      · obtain ⟨e1, e2, e3, e4⟩ := M.mK_eq h1 hf
        unfold cN at hc
        rw [if_neg (by omega), e3, last_index M.on] at hc
        split at hc
        · cases hc
        · omega
    unfold xK
    rw [hc, List.take_of_length_le hm]
    simp
theorem stK_snap (i : Nat) : (stK k l i).snap = k.snap ∧ (stK k l i).term = k.term ∧ (stK k l i).vote = k.vote := by
  unfold stK; split <;> exact ⟨rfl, rfl, rfl⟩
theorem recsL_of {x y : Kept} {r : Record} (hr : r ∈ recsL y) (h : y.snap = x.snap) (h2 : y.term = x.term) (h3 : y.vote = x.vote) : r ∈ recsL x ∨ ∃ e, e ∈ y.entries ∧ r = entR e := by
  unfold recsL at hr
  rcases List.mem_append.1 hr with hr | hr
  · refine .inl ?_
    unfold recsL
    refine List.mem_append_left _ ?_
    unfold voteR at hr ⊢
    rw [h, h2, h3] at hr; exact hr
  · obtain ⟨e, he, rfl⟩ := List.mem_map.1 hr
    exact .inr ⟨e, he, rfl⟩
theorem entR_mem {x : Kept} {e : Entry} (h : e ∈ x.entries) : entR e ∈ recsL x := by
  unfold recsL
  exact List.mem_append_right _ (List.mem_map.2 ⟨e, h, rfl⟩)
theorem idxOk_of {x : Kept} {i : Nat} (h : (x.entries.getD i default).index = x.snap.index + 1 + i) (hI : I64 (x.entries.getD i default).index) : idxOk x i = true := by
  unfold idxOk
  rw [beq_iff_eq, IntKind.wrap_i64, IntKind.wrap_i64]
  have := hI.1; have := hI.2
  omega
theorem getD_map {α β : Type} {f : α → β} {l : List α} {i : Nat} {d : α} {e : β} (h : i < l.length) : (l.map f).getD i e = f (l.getD i d) := by
  rw [getD_in (by simpa using h), getD_in h, List.getElem_map]
/-- the records, one by one -/
theorem MH.rec_at (M : MH k index term l) {i : Nat} (hi : i < (mergeR k l).length) : (i < cN k l ∧ (mergeR k l).getD i default = cutR (k.snap.index + 1 + mK k l) ∧ mK k l < k.entries.length) ∨ (cN k l ≤ i ∧ i - cN k l < (nK k l).length ∧ (mergeR k l).getD i default = entR ((nK k l).getD (i - cN k l) default)) := by
  rcases firstF_range k l with h1 | ⟨f, hf, h1⟩
  · unfold mergeR at hi; rw [if_pos h1] at hi; simp at hi
  · obtain ⟨e1, e2, e3, e4⟩ := M.mK_eq h1 hf
    have hn : ¬ firstF k l = -1 := by omega
    have ef : (firstF k l).toNat = f := e3
    unfold mergeR at hi ⊢
    unfold cN
    rw [if_neg hn, ef] at hi ⊢
    rw [if_neg hn, e3, e4]
    rw [last_index M.on] at hi ⊢
    by_cases hc : (l.getD f default).index ≤ k.snap.index + k.entries.length
    · rw [if_pos hc] at hi ⊢
      rw [if_pos hc]
      cases i with
      | zero => exact .inl ⟨by omega, by rw [← e1]; rfl, by omega⟩
      | succ i =>
        refine .inr ⟨by omega, by simp at hi ⊢; omega, ?_⟩
        have hlt : i < (l.drop f).length := by simp at hi ⊢; omega
        show ((l.drop f).map entR).getD i default = entR ((l.drop f).getD i default)
        exact getD_map hlt
    · rw [if_neg hc] at hi ⊢
      rw [if_neg hc]
      refine .inr ⟨by omega, by simpa using hi, ?_⟩
      have hlt : i < (l.drop f).length := by simpa using hi
      show ((l.drop f).map entR).getD i default = entR ((l.drop f).getD i default)
      exact getD_map hlt
theorem MH.recs_len (M : MH k index term l) : (mergeR k l).length = cN k l + (nK k l).length := by
  rcases firstF_range k l with h1 | ⟨f, hf, h1⟩
  · unfold mergeR; rw [if_pos h1, (mK_none h1).2.1, (mK_none h1).2.2]; rfl
  · obtain ⟨e1, e2, e3, e4⟩ := M.mK_eq h1 hf
    have hn : ¬ firstF k l = -1 := by omega
    unfold mergeR cN
    rw [if_neg hn, if_neg hn, e3, e4, show (firstF k l).toNat = f from e3]
    split <;> simp <;> omega
theorem mayB_put {r : Record} (h : mayB r = true) : putE r = 0 := by
  unfold mayB at h
  split at h
  · simp only [Bool.and_eq_true, beq_iff_eq] at h; exact h.1.1.1
  · split at h
    · simp only [Bool.and_eq_true, beq_iff_eq] at h; exact h.1.1.1
    · split at h
      · simp only [Bool.and_eq_true, beq_iff_eq] at h; exact h.1.1.1
      · split at h
        · simp only [Bool.and_eq_true, beq_iff_eq] at h; exact h.1.1.1
        · cases h
theorem nK_mem {x : Entry} (h : x ∈ nK k l) : x ∈ l := by
  unfold nK at h
  split at h
  · cases h
  · exact List.mem_of_mem_drop h
/-- one record, folded -/
theorem MH.step (M : MH k index term l) (hk : k.Ok) {i : Nat} (hi : i < (mergeR k l).length) (hr : rightP (stK k l i)) (hm : mayB ((mergeR k l).getD i default) = true) : (foldP (stK k l i) ((mergeR k l).getD i default)).2 = 2 ∨ (foldP (stK k l i) ((mergeR k l).getD i default) = (stK k l (i + 1), 0) ∧ rightP (stK k l (i + 1))) := by
  have hp := onB_iff.1 M.on
  have hml := M.mK_le
  have hs := hk.snap_index
  have hfp : foldP (stK k l i) ((mergeR k l).getD i default) = foldedP (stK k l i) ((mergeR k l).getD i default) := by
    unfold foldP; rw [if_pos (rightB_t hr), if_pos hm]
  rw [hfp]
  rcases M.rec_at hi with ⟨h1, h2, h3⟩ | ⟨h1, h2, h3⟩
  · -- the cut
    have hc1 : cN k l = 1 := by
      unfold cN at h1 ⊢
      split at h1
      · omega
      · split at h1
        · rename_i a b; rw [if_neg a, if_pos b]
        · omega
    have hi0 : i = 0 := by omega
    subst hi0
    have e0 : stK k l 0 = k := M.st0
    have e1 : stK k l (0 + 1) = xK k l 0 := by unfold stK; rw [if_neg (by omega), hc1]
    have ex : xK k l 0 = ⟨k.term, k.vote, k.snap, k.entries.take (mK k l)⟩ := by unfold xK; simp
    rw [e0] at hr ⊢
    rw [h2, e1]
    have h10 := hr.1
    have hkm : (k.en (mK k l)).index = k.snap.index + 1 + mK k l := on_index hp h3
    have hle : I64 (k.en (mK k l)).index := (hk.entries.2 _ (getD_mem h3)).index
    have hlk : lastK k = k.snap.index + k.entries.length := by
      unfold lastK
      rw [IntKind.wrap_i64]
      have h4 := on_index hp (show k.entries.length - 1 < k.entries.length by omega)
      have h5 : I64 (k.en (k.entries.length - 1)).index := (hk.entries.2 _ (getD_mem (by omega))).index
      have := h5.2; have := hs.1; have := hp.1
      omega
    refine .inr ⟨?_, ?_⟩
    · unfold foldedP cutR
      dsimp only
      rw [if_neg (by decide), if_neg (by rw [hlk]; omega), ex, show (k.snap.index + 1 + (mK k l : Int) - k.snap.index - 1).toNat = mK k l by omega]
    · rw [ex]
      refine ⟨by simp; omega, hr.2.1, fun j hj => ?_, fun r hrr => ?_⟩
      · have hj' : j < mK k l ∧ j < k.entries.length := by simp at hj; omega
        have := hr.2.2.1 j hj'.2
        unfold idxOk at this ⊢
        rw [show ((⟨k.term, k.vote, k.snap, k.entries.take (mK k l)⟩ : Kept).entries.getD j default) = k.entries.getD j default by
          show (k.entries.take (mK k l)).getD j default = _
          rw [List.getD_eq_getElem?_getD, List.getD_eq_getElem?_getD, List.getElem?_take, if_pos hj'.1]]
        exact this
      · rcases recsL_of (x := k) hrr rfl rfl rfl with h | ⟨e, he, rfl⟩
        · exact hr.2.2.2 _ h
        · exact hr.2.2.2 _ (entR_mem (List.mem_of_mem_take he))
  · -- an entry
    have e0 : stK k l i = xK k l (i - cN k l) := by unfold stK; rw [if_neg (by omega)]
    have e1 : stK k l (i + 1) = xK k l (i - cN k l + 1) := by unfold stK; rw [if_neg (by omega), show i + 1 - cN k l = i - cN k l + 1 by omega]
    rw [e0] at hr ⊢
    rw [h3] at hm ⊢
    rw [e1]
    have hlen := M.xK_len (j := i - cN k l) (by omega)
    have hni := M.nK_index h2
    have hnI : I64 ((nK k l).getD (i - cN k l) default).index := (M.hl _ (nK_mem (getD_mem h2))).index
    have h10 := hr.1
    rw [hlen] at h10
    have hwl : ((nK k l).getD (i - cN k l) default).index = IntKind.i64.wrap (lastK (xK k l (i - cN k l)) + 1) := by
      unfold lastK
      rw [hlen, hni]
      show _ = IntKind.i64.wrap (IntKind.i64.wrap (k.snap.index + _) + 1)
      rw [IntKind.wrap_i64, IntKind.wrap_i64]
      have := hnI.1; have := hnI.2; have := hs.1; have := hs.2; have := hp.1
      push_cast; omega
    have ex : xK k l (i - cN k l + 1) = ⟨k.term, k.vote, k.snap, (xK k l (i - cN k l)).entries ++ [(nK k l).getD (i - cN k l) default]⟩ := by
      unfold xK; rw [take_snoc (d := default) h2]; simp
    by_cases hmax : ((xK k l (i - cN k l)).entries.length : Int) ≥ 10000
    · left
      unfold foldedP entR
      dsimp only
      rw [if_pos rfl, if_pos hwl, if_pos hmax]
    · right
      refine ⟨?_, ?_⟩
      · unfold foldedP entR
        dsimp only
        rw [if_pos rfl, if_pos hwl, if_neg hmax, ex]; rfl
      · rw [ex]
        rw [hlen] at hmax
        refine ⟨by simp only [List.length_append, hlen, List.length_cons, List.length_nil]; omega, hr.2.1, fun j hj => ?_, fun r hrr => ?_⟩
        · by_cases hj2 : j < (xK k l (i - cN k l)).entries.length
          · have := hr.2.2.1 j hj2
            unfold idxOk at this ⊢
            rw [show ((⟨k.term, k.vote, k.snap, (xK k l (i - cN k l)).entries ++ [(nK k l).getD (i - cN k l) default]⟩ : Kept).entries.getD j default) = (xK k l (i - cN k l)).entries.getD j default by
              show ((xK k l (i - cN k l)).entries ++ [_]).getD j default = _
              rw [getD_in (by rw [List.length_append]; omega), getD_in hj2, List.getElem_append_left hj2]]
            exact this
          · have hj3 : j = mK k l + (i - cN k l) := by
              simp only [List.length_append, hlen, List.length_cons, List.length_nil] at hj
              omega
            have eg : ((⟨k.term, k.vote, k.snap, (xK k l (i - cN k l)).entries ++ [(nK k l).getD (i - cN k l) default]⟩ : Kept).entries.getD j default) = (nK k l).getD (i - cN k l) default := by
              show ((xK k l (i - cN k l)).entries ++ [_]).getD j default = _
              rw [List.getD_eq_getElem?_getD, List.getElem?_append_right (by omega), hlen, hj3]
              simp
            refine idxOk_of ?_ ?_
            · rw [eg, hni, hj3]; show _ = k.snap.index + 1 + _; push_cast; omega
            · rw [eg]; exact hnI
        · rcases recsL_of (x := xK k l (i - cN k l)) hrr rfl rfl rfl with h | ⟨e, he, rfl⟩
          · exact hr.2.2.2 _ h
          · rcases List.mem_append.1 he with he | he
            · exact hr.2.2.2 _ (entR_mem he)
            · simp at he
              rw [he]
              have := mayB_put hm
              rwa [List.getD_eq_getElem?_getD] at this
theorem stK_small (hk : SmallK k) (hl : SmallL l) (hkl : k.entries.length + l.length ≤ 1000000) (i : Nat) : SmallK (stK k l i) := by
  unfold stK
  split
  · exact hk
  · refine ⟨⟨?_, fun x hx => ?_⟩, hk.2⟩
    · have : (nK k l).length ≤ l.length := by unfold nK; split <;> simp
      show (k.entries.take (mK k l) ++ (nK k l).take (i - cN k l)).length ≤ _
      simp only [List.length_append, List.length_take]; omega
    · rcases List.mem_append.1 hx with hx | hx
      · exact hk.1.2 _ (List.mem_of_mem_take hx)
      · exact hl.2 _ (nK_mem (List.mem_of_mem_take hx))
theorem large_sum (h : largeB k l = false) : k.entries.length + l.length ≤ 3000 := by
  simp only [largeB, decide_eq_false_iff_not, totalK, baseK, sumTo, List.take_length] at h
  omega
end
end Go.Proofs.Yteiojclemodhaaa
