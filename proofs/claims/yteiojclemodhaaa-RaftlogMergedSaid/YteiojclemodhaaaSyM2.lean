/- The symbolic walk: what a call does to the caller's memory. No condition. -/
import Derived.Test.YteiojclemodhaaaSyL
namespace Go.Proofs.Yteiojclemodhaaa
open Go.RowKit Go.ChangeShapes Go.WideShapes Go.Deep
set_option linter.unusedVariables false
set_option linter.unusedSimpArgs false
set_option linter.unusedSectionVars false
theorem putF_asg {f : Nat → Nat → BE} {m : Nat → BE} {rest : List (Nat × BE)} : ∀ (L : List Nat) (k : Nat), nodupN L = true → (∀ i t, L[i]? = some t → putF (asg f k L ++ rest) m t = f (k + i) t) ∧ (∀ t, t ∉ L → putF (asg f k L ++ rest) m t = putF rest m t)
  | [], k, _ => ⟨fun i t h => by simp at h, fun t _ => rfl⟩
  | a :: r, k, hn => by
    simp only [nodupN, Bool.and_eq_true, Bool.not_eq_true'] at hn
    obtain ⟨h1, h2⟩ := putF_asg (f := f) (m := m) (rest := rest) r (k + 1) hn.2
    have har : a ∉ r := by have := hn.1; simpa using this
    have e : ∀ t, putF (asg f k (a :: r) ++ rest) m t = if t = a then f k a else putF (asg f (k + 1) r ++ rest) m t := fun t => rfl
    refine ⟨fun i t h => ?_, fun t h => ?_⟩
    · cases i with
      | zero =>
        simp only [List.getElem?_cons_zero, Option.some.injEq] at h
        subst h
        rw [e, if_pos rfl, Nat.add_zero]
      | succ i =>
        have h := h
        simp only [List.getElem?_cons_succ] at h
        have hne : t ≠ a := fun e2 => har (e2 ▸ List.mem_of_getElem? h)
        rw [e, if_neg hne, h1 i t h, show k + 1 + i = k + (i + 1) by omega]
    · simp only [List.mem_cons, not_or] at h
      rw [e, if_neg h.1, h2 t h.2]
theorem blkN_at : ∀ (n c j : Nat), j < n → (blkN c n)[j]? = some (c + j)
  | n + 1, c, 0, _ => rfl
  | n + 1, c, j + 1, h => by rw [blkN, List.getElem?_cons_succ, blkN_at n (c + 1) j (by omega), show c + 1 + j = c + (j + 1) by omega]
  | 0, _, _, h => by omega
theorem blkN_nodup : ∀ (n c : Nat), nodupN (blkN c n) = true
  | 0, _ => rfl
  | n + 1, c => by
    rw [blkN, nodupN, Bool.and_eq_true]
    refine ⟨?_, blkN_nodup n (c + 1)⟩
    cases h : (blkN (c + 1) n).contains c
    · rfl
    · have := (blkN_mem n (c + 1) c).1 (by simpa using h)
      omega
theorem putF_app (a b : List (Nat × BE)) (m : Nat → BE) : putF (a ++ b) m = putF a (putF b m) := by
  induction a with
  | nil => rfl
  | cons x a ih => obtain ⟨t, e⟩ := x; funext u; show (if u = t then e else putF (a ++ b) m u) = (if u = t then e else putF a (putF b m) u); rw [ih]
section
variable {P : Program} {base : Nat} {X : Cx} {w0 : World}
theorem Cl.mi_at (q : Cl) {k u : Nat} (h : q.V.T[k]? = some u) : mOf q.mi (k + 2) = (vwB q.V (q.gl.getD k 0) (q.V.m u)).1 := by
  rw [mOf_get]
  show ((q.bV.map (·.1))).getD k .empty = _
  have := zipL_mem (f := fun l t => vwB q.V l (q.V.m t)) (ls := q.gl) h
  have e : q.bV[k]? = some (vwB q.V (q.gl.getD k 0) (q.V.m u)) := this
  simp [List.getD, e]
theorem Cl.mi_out (q : Cl) {k : Nat} (h : q.V.T[k]? = none) : mOf q.mi (k + 2) = .empty := by
  rw [mOf_get]
  show ((q.bV.map (·.1))).getD k .empty = _
  have : q.V.T.length ≤ k := by simpa using h
  have hl : q.bV.length = q.V.T.length := zipL_len _ _
  simp [List.getD, List.getElem?_eq_none (show q.bV.length ≤ k by omega)]
theorem vwB_ne {V : Vw} {l : Nat} (e : BE) : (vwB V l e).1 ≠ .empty := by cases e <;> simp [vwB]
theorem Cl.mi_len (q : Cl) : q.mi.length = 2 + q.V.T.length := by
  have : q.bV.length = q.V.T.length := zipL_len _ _
  simp [Cl.mi, this]; omega
structure Cl.Good (q : Cl) : Prop where
  nd : nodupN q.V.T = true
  fl : ∀ i i' j, (i, j) ∈ q.LP → (i', j) ∈ q.LP → i = i'
  fo : ∀ i i' j, (i, j) ∈ q.OP → (i', j) ∈ q.OP → i = i'
  bl : ∀ i j, (i, j) ∈ q.LP → i < q.nl
  bo : ∀ i j, (i, j) ∈ q.OP → i < q.nl ∧ j ∉ q.V.T
  nl : q.nl ≤ 2 + q.V.T.length
  lv : ∀ u, u ∈ q.V.T → (q.V.m u).live = true
  ft : ∀ e, e ∈ q.bV → ∀ T vs, e.1 = .cells T vs → vs.all SV.flat = true
theorem fnP_ok {l : List (Nat × Nat)} (h : fnP l = true) {i i' j : Nat} (h1 : (i, j) ∈ l) (h2 : (i', j) ∈ l) : i = i' := by
  have := List.all_eq_true.1 (List.all_eq_true.1 h _ h1) _ h2
  simp only [Bool.or_eq_true, Bool.not_eq_true'] at this
  rcases this with h3 | h3
  · simp at h3
  · exact Nat.eq_of_beq_eq_true h3
theorem Cl.good {q : Cl} (h : q.ok = true) : q.Good := by
  simp only [Cl.ok, Bool.and_eq_true] at h
  obtain ⟨⟨⟨⟨⟨⟨⟨h1, h2⟩, h3⟩, h4⟩, h5⟩, h6⟩, h7⟩, h8⟩ := h
  refine ⟨h1, fun i i' j => fnP_ok h2, fun i i' j => fnP_ok h3, fun i j hp => ?_, fun i j hp => ?_, Nat.le_of_ble_eq_true h6, fun u hu => List.all_eq_true.1 h7 u hu, fun e he T vs e2 => ?_⟩
  · have := List.all_eq_true.1 h4 _ hp
    simp [Nat.blt] at this; omega
  · have := List.all_eq_true.1 h5 _ hp
    simp only [Bool.and_eq_true, Bool.not_eq_true'] at this
    exact ⟨by have := this.1; simp [Nat.blt] at this; omega, by simpa using this.2⟩
  · have := List.all_eq_true.1 h8 _ he
    rw [e2] at this; exact this
section one
variable {q : Cl} {E : Env} {w : World} (hm : MemOk base X w0 E q.V.m w)
include hm
theorem Cl.hasT (hg : q.Good) {t b : Nat} (h : Has (q.env E) (mOf q.mi) t b) : ∃ k u, t = k + 2 ∧ q.V.T[k]? = some u ∧ Has E q.V.m u b := by
  obtain ⟨hl, v, hv, hvb⟩ := h
  match t, hl, hv with
  | 0, hl, _ => cases hl
  | 1, hl, _ => cases hl
  | k + 2, hl, hv =>
    have hv : (match q.V.T[k]? with | some u => E.β u | none => none) = some v := hv
    cases hk : q.V.T[k]? with
    | none => rw [hk] at hv; cases hv
    | some u =>
      rw [hk] at hv
      exact ⟨k, u, rfl, hk, hg.lv u (List.mem_of_getElem? hk), v, hv, hvb⟩
theorem Cl.memIn (hg : q.Good) (hn : ∀ p ∈ q.needs, p) : MemOk w.heap.size (cxIn (q.env E) q.mi q.nl) w (q.env E) (mOf q.mi) w := by
  have hbV : ∀ k u, q.V.T[k]? = some u → vwB q.V (q.gl.getD k 0) (q.V.m u) ∈ q.bV := fun k u h => List.mem_of_getElem? (zipL_mem (f := fun l t => vwB q.V l (q.V.m t)) (ls := q.gl) h)
  have hbn : ∀ k u, q.V.T[k]? = some u → ∀ p ∈ (vwB q.V (q.gl.getD k 0) (q.V.m u)).2, p := fun k u h p hp => hn p (List.mem_append_right _ (List.mem_flatMap.2 ⟨_, hbV k u h, hp⟩))
  have hbl : ∀ k u, q.V.T[k]? = some u → ∀ p ∈ lpB q.V (q.gl.getD k 0) (q.V.m u), p ∈ q.LP := fun k u h p hp => List.mem_append_right _ (List.mem_flatMap.2 ⟨_, List.mem_of_getElem? (zipL_mem (f := fun l t => lpB q.V l (q.V.m t)) (ls := q.gl) h), hp⟩)
  have hbo : ∀ k u, q.V.T[k]? = some u → ∀ p ∈ opB q.V (q.gl.getD k 0) (q.V.m u), p ∈ q.OP := fun k u h p hp => List.mem_append_right _ (List.mem_flatMap.2 ⟨_, List.mem_of_getElem? (zipL_mem (f := fun l t => opB q.V l (q.V.m t)) (ls := q.gl) h), hp⟩)
  have hT : ∀ t e, mOf q.mi t = e → e ≠ .dead → e ≠ .empty → ∃ k u, t = k + 2 ∧ q.V.T[k]? = some u ∧ (vwB q.V (q.gl.getD k 0) (q.V.m u)).1 = e := by
    intro t e he h1 h2
    match t, he with
    | 0, he => exact absurd he.symm h1
    | 1, he => exact absurd he.symm h1
    | k + 2, he =>
      cases hk : q.V.T[k]? with
      | none => rw [q.mi_out hk] at he; exact absurd he.symm h2
      | some u => rw [q.mi_at hk] at he; exact ⟨k, u, rfl, hk, he⟩
  have hβ : ∀ k u, q.V.T[k]? = some u → (q.env E).β (k + 2) = E.β u := fun k u hk => by
    show (match q.V.T[k]? with | some u => E.β u | none => none) = _
    rw [hk]
  refine ⟨fun t ht => ?_, fun t T vs ht => ?_, fun t T ls r ht => ?_, fun i b hb => ?_, fun i j b h1 h2 => ?_, fun i hi he => ?_, fun t b hb => ?_, fun i b hi hb => hb, fun t u b h1 h2 => ?_, fun t v hv => ?_, BelowX.refl _ _ _, Nat.le_refl _⟩
  · match t, ht with
    | 0, ht => cases ht
    | 1, ht => cases ht
    | k + 2, ht =>
      cases hk : q.V.T[k]? with
      | some u => rw [q.mi_at hk] at ht; exact absurd ht (vwB_ne _)
      | none =>
        have hlen : q.V.T.length ≤ k := by simpa using hk
        refine ⟨?_, fun b hb => ?_⟩
        · show (match q.V.T[k]? with | some u => E.β u | none => none) = none
          rw [hk]
        · have := hg.nl
          rcases hb with ⟨j, hj, _⟩ | ⟨j, hj, _⟩
          · have := hg.bl _ _ hj; omega
          · have := (hg.bo _ _ hj).1; omega
  · obtain ⟨k, u, rfl, hk, he⟩ := hT t _ ht (by simp) (by simp)
    cases hmu : q.V.m u with
    | cells T' us =>
      rw [hmu] at he
      simp only [vwB, BE.cells.injEq] at he
      obtain ⟨rfl, rfl⟩ := he
      obtain ⟨b, xs, c1, c2, c3, c4⟩ := hm.cells u _ _ hmu
      have n1 := hbn k u hk; have n2 := hbl k u hk; have n3 := hbo k u hk
      rw [hmu] at n1 n2 n3
      refine ⟨b, xs, (hβ k u hk).trans c1, c2, vwL_ok us xs (fun s hs v hv hp => Cl.den0 hm (fun p hp => n2 p (List.mem_flatMap.2 ⟨s, hs, hp⟩)) (fun p hp => n3 p (List.mem_flatMap.2 ⟨s, hs, hp⟩)) hv hp) c3 n1, ?_⟩
      exact hg.ft _ (hbV k u hk) T' _ (by rw [hmu]; rfl)
    | row T' ls r => rw [hmu] at he; simp [vwB] at he
    | dead => rw [hmu] at he; simp [vwB] at he
    | empty => rw [hmu] at he; simp [vwB] at he
  · obtain ⟨k, u, rfl, hk, he⟩ := hT t _ ht (by simp) (by simp)
    cases hmu : q.V.m u with
    | row T' ls' r' =>
      rw [hmu] at he
      simp only [vwB, BE.row.injEq] at he
      obtain ⟨rfl, rfl, rfl⟩ := he
      obtain ⟨v, c1, c2⟩ := hm.row u _ _ _ hmu
      have n2 := hbl k u hk
      rw [hmu] at n2
      exact ⟨v, (hβ k u hk).trans c1, c2.mono (Nat.le_refl _) (fun b hb => Cl.set1 hm (fun i hi => n2 _ (List.mem_map.2 ⟨i, hi, rfl⟩)) hb)⟩
    | cells T' us => rw [hmu] at he; simp [vwB] at he
    | dead => rw [hmu] at he; simp [vwB] at he
    | empty => rw [hmu] at he; simp [vwB] at he
  · rcases hb with ⟨j, hj, hs⟩ | ⟨t, ht, hh⟩
    · refine ⟨(hm.lab j b hs).1, fun hi => ?_⟩
      have := hg.bl _ _ hj
      have hi : q.nl ≤ i := hi
      omega
    · refine ⟨hm.lt hh, fun hi => ?_⟩
      have := (hg.bo _ _ ht).1
      have hi : q.nl ≤ i := hi
      omega
  · rcases h1 with ⟨j1, hj1, hs1⟩ | ⟨t1, ht1, hh1⟩
    · rcases h2 with ⟨j2, hj2, hs2⟩ | ⟨t2, ht2, hh2⟩
      · have := hm.dis j1 j2 b hs1 hs2
        subst this
        exact hg.fl _ _ _ hj1 hj2
      · exact absurd ⟨j1, hs1⟩ (hm.sep t2 b hh2).1
    · rcases h2 with ⟨j2, hj2, hs2⟩ | ⟨t2, ht2, hh2⟩
      · exact absurd ⟨j2, hs2⟩ (hm.sep t1 b hh1).1
      · have := hm.inj t1 t2 b hh1 hh2
        subst this
        exact hg.fo _ _ _ ht1 ht2
  · have hi : i < q.nl := hi
    have := hg.nl
    match i, hi, he with
    | 0, _, he => cases he
    | 1, _, he => cases he
    | k + 2, hi, he =>
      cases hk : q.V.T[k]? with
      | none => have : q.V.T.length ≤ k := by simpa using hk
                omega
      | some u => rw [q.mi_at hk] at he; exact vwB_ne _ he
  · refine ⟨fun ⟨i, hi⟩ => ?_, .inr ⟨t, hb⟩⟩
    obtain ⟨k, u, rfl, hk, hh⟩ := Cl.hasT hm hg hb
    rcases hi with ⟨j, hj, hs⟩ | ⟨t2, ht2, hh2⟩
    · exact (hm.sep u b hh).1 ⟨j, hs⟩
    · have := hm.inj u t2 b hh hh2
      subst this
      exact (hg.bo _ _ ht2).2 (List.mem_of_getElem? hk)
  · obtain ⟨k1, u1, rfl, hk1, hh1⟩ := Cl.hasT hm hg h1
    obtain ⟨k2, u2, rfl, hk2, hh2⟩ := Cl.hasT hm hg h2
    have := hm.inj u1 u2 b hh1 hh2
    subst this
    rw [nodup_at hg.nd hk1 hk2]
  · have hv : (if t < q.mi.length then (q.env E).β t else none) = some v := hv
    split at hv
    · exact hv
    · cases hv
end one
end
end Go.Proofs.Yteiojclemodhaaa
