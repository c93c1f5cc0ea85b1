/- The plain law of the gauge: it says no just when a stretch in which n is up is not steady. No condition. -/
import Derived.Test.YtbckpiamabnkmaaGauge
namespace Go.Proofs.Ytbckpiamabnkmaa
open Go.RowKit
set_option linter.unusedVariables false
set_option linter.unusedSimpArgs false
def gaStep (s : Ga × Bool) (x : Int) : Ga × Bool := ((s.1.tell x).1, s.2 && (s.1.tell x).2)
def ga0 (n : Int) : Ga := { n := n, d := false, lo := 0, mo := 0, t := 0, w := 0 }
def gaRun (n : Int) (l : List Int) : Ga × Bool := l.foldl gaStep (ga0 n, true)
def steadyB (n : Int) (l : List Int) : Bool := (gaRun n l).2
theorem gaRun_snoc (n : Int) (l : List Int) (x : Int) : gaRun n (l ++ [x]) = gaStep (gaRun n l) x := by simp [gaRun]
theorem gaFold_true : ∀ (l : List Int) (s : Ga × Bool), (l.foldl gaStep s).2 = true → s.2 = true
  | [], _, h => h
  | x :: l, s, h => by
    have := gaFold_true l _ h
    simp [gaStep] at this
    exact this.1
theorem steadyB_no {n : Int} {l : List Int} {k : Nat} (h : (gaRun n (l.take k)).2 = false) : steadyB n l = false := by
  cases hs : steadyB n l with
  | false => rfl
  | true =>
    rw [← List.take_append_drop k l] at hs
    unfold steadyB gaRun at hs
    rw [List.foldl_append] at hs
    have := gaFold_true _ _ hs
    unfold gaRun at h
    rw [h] at this
    exact absurd this (by simp)
theorem gaFold_ok : ∀ (l : List Int) (s : Ga × Bool) (k : Nat), s.1.ok k → (l.foldl gaStep s).1.ok (k + l.length)
  | [], _, _, h => h
  | x :: l, s, k, h => by
    have := gaFold_ok l (gaStep s x) (k + 1) (Ga.ok_tell h x)
    rw [List.foldl_cons, List.length_cons, show k + (l.length + 1) = k + 1 + l.length by omega]
    exact this
theorem gaRun_ok {n : Int} (h1 : 1 ≤ n) (h2 : n ≤ 9223372036854775807) (l : List Int) : (gaRun n l).1.ok l.length := by
  have := gaFold_ok l (ga0 n, true) 0 ⟨h1, h2, by simp [ga0], by simp [ga0], by simp [ga0], by simp [ga0], by simp [ga0]⟩
  rw [Nat.zero_add] at this
  exact this
theorem take_el {xs : List Int} {i : Nat} (h : i < xs.length) : xs.take (i + 1) = xs.take i ++ [el xs i] := by
  rw [List.take_add_one, List.getElem?_eq_getElem h]
  simp [el, List.getD, List.getElem?_eq_getElem h]
def cntTo (l : List Int) (v : Int) (j : Nat) : Int := ((l.take j).count v : Nat)
def upAt (l : List Int) (n : Int) (j : Nat) : Bool := decide ((l.take j).count (-n) % 2 = 0)
theorem cntTo_succ {l : List Int} {j : Nat} (hj : j < l.length) (v : Int) : cntTo l v (j + 1) = cntTo l v j + (if el l j = v then 1 else 0) := by
  unfold cntTo
  rw [take_el hj, List.count_append, List.count_singleton]
  by_cases h : el l j = v <;> simp [h]
theorem upAt_succ {l : List Int} {j : Nat} (hj : j < l.length) (n : Int) : upAt l n (j + 1) = if el l j = -n then !upAt l n j else upAt l n j := by
  unfold upAt
  rw [take_el hj, List.count_append, List.count_singleton]
  by_cases h : el l j = -n
  · simp only [h, beq_self_eq_true, if_true]
    by_cases e : (l.take j).count (-n) % 2 = 0
    · have : ((l.take j).count (-n) + 1) % 2 ≠ 0 := by omega
      simp [e, this]
    · have : ((l.take j).count (-n) + 1) % 2 = 0 := by omega
      simp [e, this]
  · simp [h]
/-- a stretch from i to k is steady -/
def condS (l : List Int) (n : Int) (i k : Nat) : Prop :=
  cntTo l n (k + 1) - cntTo l n i ≤ 2 * (cntTo l 0 (k + 1) - cntTo l 0 i) + 2 ∧ cntTo l 0 (k + 1) - cntTo l 0 i ≤ 2 * (cntTo l n (k + 1) - cntTo l n i) + 2
/-- all stretches that end before j are -/
def okTo (l : List Int) (n : Int) (j : Nat) : Prop :=
  ∀ i k, i ≤ k → k < j → upAt l n i = true → (∀ p, i ≤ p → p ≤ k → el l p ≠ -n) → condS l n i k
structure GInv (l : List Int) (n : Int) (j : Nat) (g : Ga) (s : Nat) : Prop where
  hn : g.n = n
  hs : s ≤ j
  hp : ∀ p, s ≤ p → p < j → el l p ≠ -n
  st : s = 0 ∨ el l (s - 1) = -n
  hu : ∀ i, s ≤ i → i ≤ j → upAt l n i = !g.d
  ht : g.d = false → g.t = cntTo l n j - cntTo l n s ∧ g.w = cntTo l 0 j - cntTo l 0 s
  lo : g.d = false → ∀ i, s ≤ i → i ≤ j → g.lo ≤ (cntTo l n i - cntTo l n s) - 2 * (cntTo l 0 i - cntTo l 0 s)
  lx : g.d = false → ∃ i, s ≤ i ∧ i ≤ j ∧ g.lo = (cntTo l n i - cntTo l n s) - 2 * (cntTo l 0 i - cntTo l 0 s)
  mo : g.d = false → ∀ i, s ≤ i → i ≤ j → g.mo ≤ (cntTo l 0 i - cntTo l 0 s) - 2 * (cntTo l n i - cntTo l n s)
  mx : g.d = false → ∃ i, s ≤ i ∧ i ≤ j ∧ g.mo = (cntTo l 0 i - cntTo l 0 s) - 2 * (cntTo l n i - cntTo l n s)
theorem GInv.step {l : List Int} {n : Int} (hn1 : 1 ≤ n) {j : Nat} {g : Ga} {s : Nat} (h : GInv l n j g s) (hj : j < l.length) :
    (∃ s', GInv l n (j + 1) (g.tell (el l j)).1 s') ∧ (okTo l n j → ((g.tell (el l j)).2 = true ↔ okTo l n (j + 1))) := by
  have c1 := cntTo_succ hj n
  have c0 := cntTo_succ hj 0
  have cu := upAt_succ hj n
  obtain ⟨gn, gd, lo, mo, t, w⟩ := g
  obtain ⟨hn, hs, hp, st, hu, ht, hlo, hlx, hmo, hmx⟩ := h
  simp only at *
  subst hn
  by_cases q1 : el l j = -gn
  · have e : (Ga.tell { n := gn, d := gd, lo := lo, mo := mo, t := t, w := w } (el l j)) = ({ n := gn, d := !gd, lo := 0, mo := 0, t := 0, w := 0 }, true) := by unfold Ga.tell; simp [q1]
    rw [e]
    refine ⟨⟨j + 1, ⟨rfl, Nat.le_refl _, fun p h1 h2 => by omega, .inr (by simpa using q1), ?_, ?_, ?_, ?_, ?_, ?_⟩⟩, fun hok => ⟨fun _ => ?_, fun _ => rfl⟩⟩
    · intro i h1 h2
      have : i = j + 1 := by omega
      subst this
      rw [cu, if_pos q1, hu j hs (Nat.le_refl _)]
    · intro _; simp
    · intro _ i h1 h2; have : i = j + 1 := by omega
      subst this; simp
    · intro _; exact ⟨j + 1, by omega, by omega, by simp⟩
    · intro _ i h1 h2; have : i = j + 1 := by omega
      subst this; simp
    · intro _; exact ⟨j + 1, by omega, by omega, by simp⟩
    · intro i k h1 h2 h3 h4
      by_cases hk : k < j
      · exact hok i k h1 hk h3 h4
      · have : k = j := by omega
        subst this
        exact absurd q1 (h4 k h1 (Nat.le_refl _))
  · have cu' : upAt l gn (j + 1) = upAt l gn j := by rw [cu, if_neg q1]
    have hp' : ∀ p, s ≤ p → p < j + 1 → el l p ≠ -gn := fun p h1 h2 => by
      by_cases e : p = j
      · subst e; exact q1
      · exact hp p h1 (by omega)
    have hu' : ∀ i, s ≤ i → i ≤ j + 1 → upAt l gn i = !gd := fun i h1 h2 => by
      by_cases e : i = j + 1
      · subst e; rw [cu', hu j hs (Nat.le_refl _)]
      · exact hu i h1 (by omega)
    have far : ∀ i, i ≤ j → (∀ p, i ≤ p → p ≤ j → el l p ≠ -gn) → s ≤ i := fun i h1 h2 => by
      rcases st with st | st
      · omega
      · by_cases e : s ≤ i
        · exact e
        · exact absurd st (h2 (s - 1) (by omega) (by omega))
    by_cases q2 : gd = true ∨ (el l j ≠ 0 ∧ el l j ≠ gn)
    · have e : (Ga.tell { n := gn, d := gd, lo := lo, mo := mo, t := t, w := w } (el l j)) = ({ n := gn, d := gd, lo := lo, mo := mo, t := t, w := w }, true) := by unfold Ga.tell; rw [if_neg q1, if_pos q2]
      rw [e]
      by_cases hd : gd = true
      · subst hd
        refine ⟨⟨s, ⟨rfl, by omega, hp', st, hu', fun h => absurd h (by simp), fun h => absurd h (by simp), fun h => absurd h (by simp), fun h => absurd h (by simp), fun h => absurd h (by simp)⟩⟩, fun hok => ⟨fun _ => ?_, fun _ => rfl⟩⟩
        intro i k h1 h2 h3 h4
        by_cases hk : k < j
        · exact hok i k h1 hk h3 h4
        · have : k = j := by omega
          subst this
          have := hu' i (far i h1 h4) (by omega)
          rw [h3] at this
          exact absurd this (by simp)
      · have q3 := q2.resolve_left hd
        have hd' : gd = false := by simpa using hd
        subst hd'
        rw [if_neg q3.2] at c1
        rw [if_neg q3.1] at c0
        obtain ⟨t1, t2⟩ := ht rfl
        refine ⟨⟨s, ⟨rfl, by omega, hp', st, hu', fun _ => ⟨by simp only; omega, by simp only; omega⟩, fun _ i h1 h2 => ?_, fun _ => ?_, fun _ i h1 h2 => ?_, fun _ => ?_⟩⟩, fun hok => ⟨fun _ => ?_, fun _ => rfl⟩⟩
        · by_cases e : i = j + 1
          · subst e; have := hlo rfl j hs (Nat.le_refl _); simp only; omega
          · exact hlo rfl i h1 (by omega)
        · obtain ⟨i, h1, h2, h3⟩ := hlx rfl
          exact ⟨i, h1, by omega, h3⟩
        · by_cases e : i = j + 1
          · subst e; have := hmo rfl j hs (Nat.le_refl _); simp only; omega
          · exact hmo rfl i h1 (by omega)
        · obtain ⟨i, h1, h2, h3⟩ := hmx rfl
          exact ⟨i, h1, by omega, h3⟩
        · intro i k h1 h2 h3 h4
          by_cases hk : k < j
          · exact hok i k h1 hk h3 h4
          · have : k = j := by omega
            subst this
            unfold condS
            by_cases e : i = k
            · subst e; omega
            · obtain ⟨x, hx⟩ : ∃ x, k = x + 1 := ⟨k - 1, by omega⟩
              have := hok i x (by omega) (by omega) h3 (fun p a b => h4 p a (by omega))
              unfold condS at this
              rw [← hx] at this
              omega
    · have hd : gd = false := by
        cases gd with
        | false => rfl
        | true => exact absurd (.inl rfl) q2
      subst hd
      have e : (Ga.tell { n := gn, d := false, lo := lo, mo := mo, t := t, w := w } (el l j)) = ({ n := gn, d := false, lo := min lo (cntTo l gn (j+1) - cntTo l gn s - 2 * (cntTo l 0 (j+1) - cntTo l 0 s)), mo := min mo (cntTo l 0 (j+1) - cntTo l 0 s - 2 * (cntTo l gn (j+1) - cntTo l gn s)), t := cntTo l gn (j+1) - cntTo l gn s, w := cntTo l 0 (j+1) - cntTo l 0 s }, decide (cntTo l gn (j+1) - cntTo l gn s - 2 * (cntTo l 0 (j+1) - cntTo l 0 s) - lo ≤ 2) && decide (cntTo l 0 (j+1) - cntTo l 0 s - 2 * (cntTo l gn (j+1) - cntTo l gn s) - mo ≤ 2)) := by
        obtain ⟨t1, t2⟩ := ht rfl
        unfold Ga.tell
        rw [if_neg q1, if_neg q2]
        simp only
        by_cases z : el l j = 0
        · have zn : ¬ el l j = gn := by omega
          rw [if_neg zn] at c1
          rw [if_pos z] at c0
          have a1 : cntTo l gn (j+1) - cntTo l gn s = t := by omega
          have a2 : cntTo l 0 (j+1) - cntTo l 0 s = w + 1 := by omega
          rw [a1, a2, if_pos z, if_pos z]
        · have zn : el l j = gn := by
            by_cases c : el l j = gn
            · exact c
            · exact absurd (.inr ⟨z, c⟩) q2
          rw [if_pos zn] at c1
          rw [if_neg z] at c0
          have a1 : cntTo l gn (j+1) - cntTo l gn s = t + 1 := by omega
          have a2 : cntTo l 0 (j+1) - cntTo l 0 s = w := by omega
          rw [a1, a2, if_neg z, if_neg z]
      rw [e]
      refine ⟨⟨s, ⟨rfl, by omega, hp', st, hu', fun _ => ⟨rfl, rfl⟩, fun _ i h1 h2 => ?_, fun _ => ?_, fun _ i h1 h2 => ?_, fun _ => ?_⟩⟩, fun hok => ?_⟩
      · by_cases e : i = j + 1
        · subst e; exact Int.min_le_right _ _
        · exact Int.le_trans (Int.min_le_left _ _) (hlo rfl i h1 (by omega))
      · obtain ⟨i, h1, h2, h3⟩ := hlx rfl
        simp only
        by_cases q : lo ≤ cntTo l gn (j+1) - cntTo l gn s - 2 * (cntTo l 0 (j+1) - cntTo l 0 s)
        · exact ⟨i, h1, by omega, by rw [Int.min_eq_left q, h3]⟩
        · exact ⟨j + 1, by omega, by omega, by rw [Int.min_eq_right (by omega)]⟩
      · by_cases e : i = j + 1
        · subst e; exact Int.min_le_right _ _
        · exact Int.le_trans (Int.min_le_left _ _) (hmo rfl i h1 (by omega))
      · obtain ⟨i, h1, h2, h3⟩ := hmx rfl
        simp only
        by_cases q : mo ≤ cntTo l 0 (j+1) - cntTo l 0 s - 2 * (cntTo l gn (j+1) - cntTo l gn s)
        · exact ⟨i, h1, by omega, by rw [Int.min_eq_left q, h3]⟩
        · exact ⟨j + 1, by omega, by omega, by rw [Int.min_eq_right (by omega)]⟩
      · simp only [Bool.and_eq_true, decide_eq_true_eq]
        constructor
        · rintro ⟨b1, b2⟩ i k h1 h2 h3 h4
          by_cases hk : k < j
          · exact hok i k h1 hk h3 h4
          · have : k = j := by omega
            subst this
            have hsi := far i h1 h4
            have := hlo rfl i hsi h1
            have := hmo rfl i hsi h1
            unfold condS
            omega
        · intro hk
          obtain ⟨i, h1, h2, h3⟩ := hlx rfl
          obtain ⟨i2, h4, h5, h6⟩ := hmx rfl
          have k1 := hk i j h2 (by omega) (by rw [hu i h1 h2]; rfl) (fun p a b => hp' p (by omega) (by omega))
          have k2 := hk i2 j h5 (by omega) (by rw [hu i2 h4 h5]; rfl) (fun p a b => hp' p (by omega) (by omega))
          unfold condS at k1 k2
          omega
theorem gaRun_iff {l : List Int} {n : Int} (hn : 1 ≤ n) : ∀ j, j ≤ l.length → (∃ s, GInv l n j (gaRun n (l.take j)).1 s) ∧ ((gaRun n (l.take j)).2 = true ↔ okTo l n j)
  | 0, _ => ⟨⟨0, ⟨rfl, Nat.le_refl _, fun p h1 h2 => by omega, .inl rfl, fun i h1 h2 => by
      have : i = 0 := by omega
      subst this; simp [upAt, gaRun, ga0], fun _ => by simp [gaRun, ga0], fun _ i h1 h2 => by
      have : i = 0 := by omega
      subst this; simp [gaRun, ga0], fun _ => ⟨0, by omega, by omega, by simp [gaRun, ga0]⟩, fun _ i h1 h2 => by
      have : i = 0 := by omega
      subst this; simp [gaRun, ga0], fun _ => ⟨0, by omega, by omega, by simp [gaRun, ga0]⟩⟩⟩,
      ⟨fun _ i k h1 h2 => by omega, fun _ => rfl⟩⟩
  | j + 1, hj => by
    obtain ⟨⟨s, h1⟩, h2⟩ := gaRun_iff (l := l) hn j (by omega)
    obtain ⟨h3, h4⟩ := h1.step hn (by omega)
    rw [take_el (by omega), gaRun_snoc]
    refine ⟨h3, ?_⟩
    unfold gaStep
    simp only [Bool.and_eq_true]
    constructor
    · rintro ⟨a, b⟩
      exact (h4 (h2.1 a)).1 b
    · intro h
      have a : okTo l n j := fun i k e1 e2 => h i k e1 (by omega)
      exact ⟨h2.2 a, (h4 a).2 h⟩
theorem steadyB_iff {l : List Int} {n : Int} (hn : 1 ≤ n) : steadyB n l = true ↔ okTo l n l.length := by
  have := (gaRun_iff (l := l) hn l.length (Nat.le_refl _)).2
  rw [List.take_length] at this
  exact this
end Go.Proofs.Ytbckpiamabnkmaa
