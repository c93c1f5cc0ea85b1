/- What a change makes of a configuration: plain facts. No condition. -/
import Derived.Test.YtejahcpnbkegfaaMxB
namespace Go.Proofs.Ytejahcpnbkegfaa
open Go.RowKit Go.ChangeShapes Go.WideShapes Go.Deep
set_option linter.unusedVariables false
set_option linter.unusedSimpArgs false
theorem apply_parts {c : Config} {k n : Int} (h : applyB c k n = true) : mayB c = true ∧ 1 ≤ n ∧ n ≤ 5 ∧ kindB c k n = true := by
  unfold applyB at h
  simp only [Bool.and_eq_true, decide_eq_true_eq] at h
  exact ⟨h.1.1.1, h.1.1.2, h.1.2, h.2⟩
theorem kind_is {c : Config} {k n : Int} (h : kindB c k n = true) : (k = 1 ∧ n ∉ c.voters ∧ n ∉ c.learners) ∨ (k = 2 ∧ n ∈ c.learners) ∨ (k = 3 ∧ (n ∈ c.learners ∨ (n ∈ c.voters ∧ 1 < c.voters.length))) := by
  unfold kindB at h
  by_cases h1 : k = 1
  · left
    rw [if_pos h1] at h
    simp only [Bool.and_eq_true, Bool.not_eq_true'] at h
    exact ⟨h1, hasB_not.1 h.1, hasB_not.1 h.2⟩
  · rw [if_neg h1] at h
    by_cases h2 : k = 2
    · rw [if_pos h2] at h; exact .inr (.inl ⟨h2, hasB_iff.1 h⟩)
    · rw [if_neg h2] at h
      by_cases h3 : k = 3
      · rw [if_pos h3] at h
        simp only [Bool.or_eq_true, Bool.and_eq_true, decide_eq_true_eq] at h
        refine .inr (.inr ⟨h3, h.imp hasB_iff.1 (fun h => ⟨hasB_iff.1 h.1, by omega⟩)⟩)
      · rw [if_neg h3] at h; cases h
theorem apply_mk {c : Config} {k n : Int} (hm : mayB c = true) (h1 : 1 ≤ n) (h5 : n ≤ 5) (hk : kindB c k n = true) : applyB c k n = true := by
  unfold applyB; rw [hm, hk]; simp [h1, h5]
theorem may_next {c : Config} {k n : Int} (h : applyB c k n = true) : mayB (applyC c k n) = true := by
  obtain ⟨hm, h1, h5, hk⟩ := apply_parts h
  obtain ⟨hi0, hi1⟩ := may_is hm
  obtain ⟨m1, m2, m3, m4⟩ := may_in hm
  have b0 := (isB_asc.1 hi0).1
  have b1 := (isB_asc.1 hi1).1
  have a0 := dropL_asc (n := n) b0
  have a1 := dropL_asc (n := n) b1
  have r0 : ∀ x ∈ dropL c.voters n, 1 ≤ x ∧ x ≤ 5 := fun x hx => m1 x (dropL_mem.1 hx).1
  have r1 : ∀ x ∈ dropL c.learners n, 1 ≤ x ∧ x ≤ 5 := fun x hx => m2 x (dropL_mem.1 hx).1
  have p0 := (put_in a0 r0 h1 h5).1
  have p1 := (put_in a1 r1 h1 h5).1
  unfold applyC
  rcases kind_is hk with ⟨rfl, n1, n2⟩ | ⟨rfl, n1⟩ | ⟨rfl, n1⟩
  · rw [if_neg (by decide), if_pos rfl]
    refine may_mk a0 (putL_asc a1) r0 p1 (by show dropL c.voters n ≠ []; rw [drop_out n1]; exact m3) (fun x hx hx2 => ?_)
    obtain ⟨g1, g2⟩ := dropL_mem.1 hx
    rcases putL_mem.1 hx2 with e | hx2
    · exact g2 e
    · exact m4 x g1 (dropL_mem.1 hx2).1
  · rw [if_pos rfl, if_neg (by decide)]
    refine may_mk (putL_asc a0) a1 p0 r1 (fun e => ?_) (fun x hx hx2 => ?_)
    · have : n ∈ putL (dropL c.voters n) n := putL_mem.2 (.inl rfl)
      have e : putL (dropL c.voters n) n = [] := e
      rw [e] at this; cases this
    · obtain ⟨g1, g2⟩ := dropL_mem.1 hx2
      rcases putL_mem.1 hx with e | hx
      · exact g2 e
      · exact m4 x (dropL_mem.1 hx).1 g1
  · rw [if_neg (by decide), if_neg (by decide)]
    refine may_mk a0 a1 r0 r1 ?_ (fun x hx hx2 => m4 x (dropL_mem.1 hx).1 (dropL_mem.1 hx2).1)
    show dropL c.voters n ≠ []
    by_cases hv : n ∈ c.voters
    · rcases n1 with n1 | ⟨_, n1⟩
      · exact absurd n1 (m4 n hv)
      · have := drop_one b0 hv
        intro e; rw [e] at this; simp at this; omega
    · rw [drop_out hv]; exact m3
theorem drop_put {xs : List Int} {n : Int} (a : Asc xs) (h : n ∉ xs) : dropL (putL xs n) n = xs :=
  asc_ext (dropL_asc (putL_asc a)) a fun x => by
    rw [dropL_mem, putL_mem]
    constructor
    · rintro ⟨h1 | h1, h2⟩
      · exact absurd h1 h2
      · exact h1
    · intro hx; exact ⟨.inr hx, fun e => h (e ▸ hx)⟩
theorem put_drop {xs : List Int} {n : Int} (a : Asc xs) (h : n ∈ xs) : putL (dropL xs n) n = xs :=
  asc_ext (putL_asc (dropL_asc a)) a fun x => by
    rw [putL_mem, dropL_mem]
    constructor
    · rintro (h1 | h1)
      · rw [h1]; exact h
      · exact h1.1
    · intro hx
      by_cases e : x = n
      · exact .inl e
      · exact .inr ⟨hx, e⟩
theorem back_one {c : Config} {n : Int} (h : applyB c 1 n = true) : applyB (applyC c 1 n) 3 n = true ∧ applyC (applyC c 1 n) 3 n = c ∧ applyB (applyC c 1 n) 2 n = true ∧ voterB (applyC (applyC c 1 n) 2 n) n = true := by
  have hm2 := may_next h
  obtain ⟨hm, h1, h5, hk⟩ := apply_parts h
  obtain ⟨hi0, hi1⟩ := may_is hm
  have b0 := (isB_asc.1 hi0).1
  have b1 := (isB_asc.1 hi1).1
  rcases kind_is hk with ⟨_, n1, n2⟩ | ⟨e, _⟩ | ⟨e, _⟩
  · have hx : applyC c 1 n = ⟨c.voters, putL c.learners n⟩ := by unfold applyC; rw [if_neg (by decide), if_pos rfl, drop_out n1, drop_out n2]
    rw [hx] at hm2 ⊢
    have hin : n ∈ putL c.learners n := putL_mem.2 (.inl rfl)
    have k3 : kindB ⟨c.voters, putL c.learners n⟩ 3 n = true := by unfold kindB; rw [if_neg (by decide), if_neg (by decide), if_pos rfl]; simp [hasB_iff.2 hin]
    have k2 : kindB ⟨c.voters, putL c.learners n⟩ 2 n = true := by unfold kindB; rw [if_neg (by decide), if_pos rfl]; exact hasB_iff.2 hin
    have q2 := apply_mk hm2 h1 h5 k2
    refine ⟨apply_mk hm2 h1 h5 k3, ?_, q2, ?_⟩
    · unfold applyC
      rw [if_neg (by decide), if_neg (by decide)]
      simp only [drop_out n1, drop_put b1 n2]
    · unfold voterB
      rw [may_next q2, Bool.and_true]
      unfold applyC
      rw [if_pos rfl]
      exact hasB_iff.2 (putL_mem.2 (.inl rfl))
  · cases e
  · cases e
theorem allL_may {c : Config} (h : mayB c = true) : allL c = mergeL (c.voters ++ c.learners) ∧ (allL c).length ≤ 5 := by
  obtain ⟨hi0, hi1⟩ := may_is h
  obtain ⟨m1, m2, _, _⟩ := may_in h
  have hl : ((mergeL (c.voters ++ c.learners)).length : Int) ≤ 5 - 1 + 1 := asc_len _ 1 5 (mergeL_asc _) (fun x hx => by
    rcases List.mem_append.1 (mergeL_mem.1 hx) with h | h
    · exact m1 x h
    · exact m2 x h) (by omega)
  have e : allL c = mergeL (c.voters ++ c.learners) := by
    unfold allL bothL bothR
    rw [if_pos h, if_pos ⟨hi0, hi1⟩]
    rcases cutR_or (mergeL (c.voters ++ c.learners)) with ⟨_, _, e⟩ | ⟨e, _, _⟩
    · exact e
    · omega
  exact ⟨e, by rw [e]; omega⟩
theorem allL_len {c : Config} : (allL c).length ≤ 17592186044416 := by
  by_cases h : mayB c = true
  · have := (allL_may h).2; omega
  · unfold allL; rw [if_neg h]; simp
theorem back_two {c : Config} {n : Int} (h : applyB c 3 n = true) : applyB (applyC c 3 n) 1 n = true ∧ voterB (applyC c 3 n) n = false ∧ voterB (applyC (applyC c 3 n) 1 n) n = false ∧ allL (applyC (applyC c 3 n) 1 n) = allL c := by
  have hm2 := may_next h
  obtain ⟨hm, h1, h5, hk⟩ := apply_parts h
  have hx : applyC c 3 n = ⟨dropL c.voters n, dropL c.learners n⟩ := by unfold applyC; rw [if_neg (by decide), if_neg (by decide)]
  have d0 : n ∉ dropL c.voters n := fun h => (dropL_mem.1 h).2 rfl
  have d1 : n ∉ dropL c.learners n := fun h => (dropL_mem.1 h).2 rfl
  have hin : n ∈ c.voters ∨ n ∈ c.learners := by
    rcases kind_is hk with ⟨e, _⟩ | ⟨e, _⟩ | ⟨_, e | e⟩
    · cases e
    · cases e
    · exact .inr e
    · exact .inl e.1
  rw [hx] at hm2 ⊢
  have k1 : kindB ⟨dropL c.voters n, dropL c.learners n⟩ 1 n = true := by unfold kindB; rw [if_pos rfl]; simp [hasB_not.2 d0, hasB_not.2 d1]
  have q1 := apply_mk hm2 h1 h5 k1
  have hy : applyC ⟨dropL c.voters n, dropL c.learners n⟩ 1 n = ⟨dropL c.voters n, putL (dropL c.learners n) n⟩ := by
    unfold applyC; rw [if_neg (by decide), if_pos rfl]; simp only [drop_out d0, drop_out d1]
  have hm3 := may_next q1
  rw [hy] at hm3 ⊢
  refine ⟨q1, by unfold voterB; rw [hasB_not.2 d0]; rfl, by unfold voterB; rw [hasB_not.2 d0]; rfl, ?_⟩
  rw [(allL_may hm3).1, (allL_may hm).1]
  refine asc_ext (mergeL_asc _) (mergeL_asc _) fun x => ?_
  rw [mergeL_mem, mergeL_mem, List.mem_append, List.mem_append, putL_mem, dropL_mem, dropL_mem]
  constructor
  · rintro (h | h | h)
    · exact .inl h.1
    · rw [h]; exact hin
    · exact .inr h.1
  · intro h
    by_cases e : x = n
    · exact .inr (.inl e)
    · exact h.imp (fun h => ⟨h, e⟩) (fun h => .inr ⟨h, e⟩)
theorem meets_c {c : Config} {k n : Int} {a b : List Int} (h : applyB c k n = true) (ha : mreachB c a = true) (hb : mreachB (applyC c k n) b = true) (hno : ∀ x ∈ a, hasB b x = false) : False := by
  obtain ⟨hm, h1, h5, hk⟩ := apply_parts h
  obtain ⟨hi0, hi1⟩ := may_is hm
  obtain ⟨m1, m2, m3, m4⟩ := may_in hm
  have b0 := (isB_asc.1 hi0).1
  simp only [mreachB, Bool.and_eq_true] at ha hb
  have ha := ha.2
  have hb := hb.2
  have hn : ∀ x, ¬ (hasB a x = true ∧ hasB b x = true) := fun x ⟨g1, g2⟩ => by rw [hno x (hasB_iff.1 g1)] at g2; cases g2
  unfold applyC at hb
  rcases kind_is hk with ⟨rfl, n1, n2⟩ | ⟨rfl, n1⟩ | ⟨rfl, n1⟩
  · simp only [if_neg (show ¬ (1 : Int) = 2 by decide), drop_out n1] at hb
    exact meets rfl ha hb (fun i _ => hn _)
  · have hv : n ∉ c.voters := fun hv => m4 n hv n1
    simp only [if_true, drop_out hv] at hb
    exact meets_next rfl ha hb (fun i _ => hn _)
  · simp only [if_neg (show ¬ (3 : Int) = 2 by decide)] at hb
    by_cases hv : n ∈ c.voters
    · exact meets_next (v := n) rfl hb (by rw [put_drop b0 hv]; exact ha) (fun i _ hx => hn _ ⟨hx.2, hx.1⟩)
    · rw [drop_out hv] at hb
      exact meets rfl ha hb (fun i _ => hn _)
end Go.Proofs.Ytejahcpnbkegfaa
