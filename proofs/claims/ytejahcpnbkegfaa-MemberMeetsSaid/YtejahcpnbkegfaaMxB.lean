/- member.Apply and the reference's. Conditions: rows of at most 10^6 numbers. -/
import Derived.Test.YtejahcpnbkegfaaMxA
namespace Go.Proofs.Ytejahcpnbkegfaa
open Go.RowKit Go.ChangeShapes Go.WideShapes Go.Deep
set_option linter.unusedVariables false
set_option linter.unusedSimpArgs false
noncomputable def tab1 : List Ent := [eHas, eDrop, ePut, eRMay, eWithout, eWith, eMay, eMHas]
theorem tab1_ok : ∀ e ∈ tab1, EntOk Try.prog e := by
  intro e he
  simp only [tab1, List.mem_cons, List.not_mem_nil, or_false] at he
  rcases he with rfl | rfl | rfl | rfl | rfl | rfl | rfl | rfl
  · exact eHas_ok
  · exact eDrop_ok
  · exact ePut_ok
  · exact eRMay_ok
  · exact eWithout_ok
  · exact eWith_ok
  · exact eMay_ok
  · exact eMHas_ok
theorem fitsT {tab : List Ent} (h : ∀ e ∈ tab, EntOk Try.prog e) (kd : TypeId → Option RL) : World.Fits Try.prog ⟨kd, orcT tab⟩ (moreA Try.prog) := ⟨by kernel_rfl, orcT_ok h kd, orcT_loc tab kd, moreA_ok _, moreA_loc _⟩
theorem ask_fn (c : Config) : FnC Try.prog 25 [.agg (c.svs [0])] (.agg (c.svs [0])) D2 := by
  refine FnC.of_vc (fitsT tab1_ok fun _ => none) Try.func25 rfl (by decide) 300 (p := True ∧ True ∧ Config.voters c = Config.voters c ∧ Config.learners c = Config.learners c ∧ True) (by kernel_rfl) ?_
  exact ⟨trivial, trivial, rfl, rfl, trivial⟩
theorem cond_r (c : Config) (k n : Int) : pickB (k == 1) (mayB c && decide (n ≥ 1) && decide (n ≤ 5) && !hasB c.voters n && !hasB c.learners n)
    (pickB (k == 2) (mayB c && decide (n ≥ 1) && decide (n ≤ 5) && hasB c.learners n) (k == 3 && (mayB c && decide (n ≥ 1) && decide (n ≤ 5) && (hasB c.learners n || hasB c.voters n && decide (((RL.rInts c.voters).len : Int) > 1))))) = applyB c k n := by
  unfold applyB kindB pickB
  simp only [RL.len, ge_iff_le, gt_iff_lt]
  generalize (mayB c && decide (1 ≤ n) && decide (n ≤ 5)) = x
  by_cases h1 : k = 1
  · subst h1; simp [Bool.and_assoc]
  · by_cases h2 : k = 2
    · subst h2; simp
    · by_cases h3 : k = 3
      · subst h3; simp
      · simp [h1, h2, h3]
theorem apply_len {c : Config} {k n : Int} (h : applyB c k n = true) : (dropL c.voters n).length ≤ 1000 ∧ (dropL c.learners n).length ≤ 1000 ∧ (putL (dropL c.voters n) n).length ≤ 1000 ∧ (putL (dropL c.learners n) n).length ≤ 1000 := by
  unfold applyB at h
  simp only [Bool.and_eq_true, decide_eq_true_eq] at h
  obtain ⟨⟨⟨hm, h1⟩, h5⟩, _⟩ := h
  obtain ⟨hi0, hi1⟩ := may_is hm
  have hmi := may_in hm
  have a0 := dropL_asc (n := n) (isB_asc.1 hi0).1
  have a1 := dropL_asc (n := n) (isB_asc.1 hi1).1
  have p0 := put_in (n := n) a0 (fun x hx => hmi.1 x (dropL_mem.1 hx).1) (by omega) (by omega)
  have p1 := put_in (n := n) a1 (fun x hx => hmi.2.1 x (dropL_mem.1 hx).1) (by omega) (by omega)
  have q0 := asc_len _ 1 5 (putL_asc (v := n) a0) p0.1 (by omega)
  have q1 := asc_len _ 1 5 (putL_asc (v := n) a1) p1.1 (by omega)
  have r0 := asc_len _ 1 5 a0 (fun x hx => hmi.1 x (dropL_mem.1 hx).1) (by omega)
  have r1 := asc_len _ 1 5 a1 (fun x hx => hmi.2.1 x (dropL_mem.1 hx).1) (by omega)
  omega
theorem rapply_fn (c : Config) (k n : Int) (hs : SmallC c) : FnC Try.prog 21 [.agg (c.svs [0]), .agg [.int .i64 k, .int .i64 n]] (.tup [.agg ((applyH c k n).svs [1]), .int .i64 (applyE c k n)]) D2 := by
  refine FnC.of_vc (fitsT tab1_ok fun _ => none) Try.func21 rfl (by decide) 300 (p := True ∧ True ∧ True ∧ True ∧ ((mayB c = true → mayB c = true) ∧ (mayB c = true → mayB c = true) ∧ (pickB (mayB c) (decide (n ≥ (1 : Int))) false = true → pickB (mayB c) (decide (n ≥ (1 : Int))) false = true) ∧ (pickB (mayB c) (decide (n ≥ (1 : Int))) false = true → pickB (mayB c) (decide (n ≥ (1 : Int))) false = true) ∧ True) ∧ True ∧ True ∧ (((k == (1 : Int)) = true → pickB (pickB (mayB c) (decide (n ≥ (1 : Int))) false) (decide (n ≤ (5 : Int))) false = true → pickB (pickB (mayB c) (decide (n ≥ (1 : Int))) false) (decide (n ≤ (5 : Int))) false = true) ∧ ((k == (1 : Int)) = true → pickB (pickB (mayB c) (decide (n ≥ (1 : Int))) false) (decide (n ≤ (5 : Int))) false = true → pickB (pickB (mayB c) (decide (n ≥ (1 : Int))) false) (decide (n ≤ (5 : Int))) false = true) ∧ ((k == (1 : Int)) = true → pickB (pickB (pickB (mayB c) (decide (n ≥ (1 : Int))) false) (decide (n ≤ (5 : Int))) false) (!hasB (Config.voters c) n) false = true → pickB (pickB (pickB (mayB c) (decide (n ≥ (1 : Int))) false) (decide (n ≤ (5 : Int))) false) (!hasB (Config.voters c) n) false = true) ∧ ((k == (1 : Int)) = true → pickB (pickB (pickB (mayB c) (decide (n ≥ (1 : Int))) false) (decide (n ≤ (5 : Int))) false) (!hasB (Config.voters c) n) false = true → pickB (pickB (pickB (mayB c) (decide (n ≥ (1 : Int))) false) (decide (n ≤ (5 : Int))) false) (!hasB (Config.voters c) n) false = true) ∧ ((k == (1 : Int)) = false → (k == (2 : Int)) = true → pickB (pickB (mayB c) (decide (n ≥ (1 : Int))) false) (decide (n ≤ (5 : Int))) false = true → pickB (pickB (mayB c) (decide (n ≥ (1 : Int))) false) (decide (n ≤ (5 : Int))) false = true) ∧ ((k == (1 : Int)) = false → (k == (2 : Int)) = false → (k == (3 : Int)) = true → pickB (pickB (mayB c) (decide (n ≥ (1 : Int))) false) (decide (n ≤ (5 : Int))) false = true → pickB (pickB (mayB c) (decide (n ≥ (1 : Int))) false) (decide (n ≤ (5 : Int))) false = true) ∧ ((k == (1 : Int)) = false → (k == (2 : Int)) = false → (k == (3 : Int)) = true → (pickB (pickB (mayB c) (decide (n ≥ (1 : Int))) false) (decide (n ≤ (5 : Int))) false && !hasB (Config.learners c) n) = true → (pickB (pickB (mayB c) (decide (n ≥ (1 : Int))) false) (decide (n ≤ (5 : Int))) false && !hasB (Config.learners c) n) = true) ∧ ((k == (1 : Int)) = false → (k == (2 : Int)) = false → (k == (3 : Int)) = true → (pickB (pickB (mayB c) (decide (n ≥ (1 : Int))) false) (decide (n ≤ (5 : Int))) false && !hasB (Config.learners c) n && hasB (Config.voters c) n) = true → (pickB (pickB (mayB c) (decide (n ≥ (1 : Int))) false) (decide (n ≤ (5 : Int))) false && !hasB (Config.learners c) n && hasB (Config.voters c) n) = true) ∧ ((k == (1 : Int)) = false → (k == (2 : Int)) = false → (k == (3 : Int)) = true → (pickB (pickB (mayB c) (decide (n ≥ (1 : Int))) false) (decide (n ≤ (5 : Int))) false && !hasB (Config.learners c) n && hasB (Config.voters c) n) = true → (pickB (pickB (mayB c) (decide (n ≥ (1 : Int))) false) (decide (n ≤ (5 : Int))) false && !hasB (Config.learners c) n && hasB (Config.voters c) n) = true) ∧ ((k == (1 : Int)) = false → (k == (2 : Int)) = false → (k == (3 : Int)) = true → (pickB (pickB (mayB c) (decide (n ≥ (1 : Int))) false) (decide (n ≤ (5 : Int))) false && !hasB (Config.learners c) n && hasB (Config.voters c) n) = true → (pickB (pickB (mayB c) (decide (n ≥ (1 : Int))) false) (decide (n ≤ (5 : Int))) false && !hasB (Config.learners c) n && hasB (Config.voters c) n) = true) ∧ ((k == (1 : Int)) = false → (k == (2 : Int)) = false → (k == (3 : Int)) = true → (pickB (pickB (mayB c) (decide (n ≥ (1 : Int))) false) (decide (n ≤ (5 : Int))) false && !hasB (Config.learners c) n) = true → (pickB (pickB (mayB c) (decide (n ≥ (1 : Int))) false) (decide (n ≤ (5 : Int))) false && !hasB (Config.learners c) n) = true) ∧ ((k == (1 : Int)) = false → (k == (2 : Int)) = false → (k == (3 : Int)) = true → (pickB (pickB (mayB c) (decide (n ≥ (1 : Int))) false) (decide (n ≤ (5 : Int))) false && !hasB (Config.learners c) n) = true → hasB (Config.voters c) n = true → (pickB (pickB (mayB c) (decide (n ≥ (1 : Int))) false) (decide (n ≤ (5 : Int))) false && !hasB (Config.learners c) n && hasB (Config.voters c) n) = true) ∧ ((k == (1 : Int)) = false → (k == (2 : Int)) = false → (k == (3 : Int)) = true → pickB (pickB (mayB c) (decide (n ≥ (1 : Int))) false) (decide (n ≤ (5 : Int))) false = true → pickB (pickB (mayB c) (decide (n ≥ (1 : Int))) false) (decide (n ≤ (5 : Int))) false = true) ∧ ((k == (1 : Int)) = false → (k == (2 : Int)) = false → (k == (3 : Int)) = true → pickB (pickB (mayB c) (decide (n ≥ (1 : Int))) false) (decide (n ≤ (5 : Int))) false = true → hasB (Config.learners c) n = false → (pickB (pickB (mayB c) (decide (n ≥ (1 : Int))) false) (decide (n ≤ (5 : Int))) false && !hasB (Config.learners c) n) = true) ∧ ((k == (1 : Int)) = false → (k == (2 : Int)) = false → (k == (3 : Int)) = true → pickB (pickB (mayB c) (decide (n ≥ (1 : Int))) false) (decide (n ≤ (5 : Int))) false = true → pickB (pickB (mayB c) (decide (n ≥ (1 : Int))) false) (decide (n ≤ (5 : Int))) false = true) ∧ True) ∧ True ∧ True ∧ ((!pickB (k == (1 : Int)) (pickB (pickB (pickB (pickB (mayB c) (decide (n ≥ (1 : Int))) false) (decide (n ≤ (5 : Int))) false) (!hasB (Config.voters c) n) false) (!hasB (Config.learners c) n) false) (pickB (k == (2 : Int)) (pickB (pickB (pickB (mayB c) (decide (n ≥ (1 : Int))) false) (decide (n ≤ (5 : Int))) false) (hasB (Config.learners c) n) false) (pickB (k == (3 : Int)) (pickB (pickB (pickB (mayB c) (decide (n ≥ (1 : Int))) false) (decide (n ≤ (5 : Int))) false) (pickB (hasB (Config.learners c) n) true (pickB (hasB (Config.voters c) n) (decide ((↑(RL.len (RL.rInts (Config.voters c))) : Int) > (1 : Int))) false)) false) false))) = true → True ∧ RL.nilP (RL.rInts (Config.voters (applyH c k n))) ∧ RL.nilP (RL.rInts (Config.learners (applyH c k n))) ∧ (160 : Int) = applyE c k n ∧ True) ∧ ((!pickB (k == (1 : Int)) (pickB (pickB (pickB (pickB (mayB c) (decide (n ≥ (1 : Int))) false) (decide (n ≤ (5 : Int))) false) (!hasB (Config.voters c) n) false) (!hasB (Config.learners c) n) false) (pickB (k == (2 : Int)) (pickB (pickB (pickB (mayB c) (decide (n ≥ (1 : Int))) false) (decide (n ≤ (5 : Int))) false) (hasB (Config.learners c) n) false) (pickB (k == (3 : Int)) (pickB (pickB (pickB (mayB c) (decide (n ≥ (1 : Int))) false) (decide (n ≤ (5 : Int))) false) (pickB (hasB (Config.learners c) n) true (pickB (hasB (Config.voters c) n) (decide ((↑(RL.len (RL.rInts (Config.voters c))) : Int) > (1 : Int))) false)) false) false))) = false → (List.length (Config.voters c) ≤ (1000000 : Nat) ∧ List.length (Config.learners c) ≤ (1000000 : Nat) ∧ True) ∧ True ∧ True ∧ True ∧ ((k == (1 : Int)) = true → (RL.len (RL.rInts (dropL (Config.learners c) n)) ≤ (17592186044416 : Nat) ∧ List.length (dropL (Config.learners c) n) ≤ (1000000 : Nat) ∧ True) ∧ True ∧ dropL (Config.voters c) n = Config.voters (applyH c k n) ∧ RL.len (RL.rInts (dropL (Config.voters c) n)) ≤ (17592186044416 : Nat) ∧ putL (dropL (Config.learners c) n) n = Config.learners (applyH c k n) ∧ RL.len (RL.rInts (putL (dropL (Config.learners c) n) n)) ≤ (17592186044416 : Nat) ∧ (0 : Int) = applyE c k n ∧ True) ∧ ((k == (1 : Int)) = false → True ∧ True ∧ ((k == (2 : Int)) = true → (RL.len (RL.rInts (dropL (Config.voters c) n)) ≤ (17592186044416 : Nat) ∧ List.length (dropL (Config.voters c) n) ≤ (1000000 : Nat) ∧ True) ∧ True ∧ putL (dropL (Config.voters c) n) n = Config.voters (applyH c k n) ∧ RL.len (RL.rInts (putL (dropL (Config.voters c) n) n)) ≤ (17592186044416 : Nat) ∧ dropL (Config.learners c) n = Config.learners (applyH c k n) ∧ RL.len (RL.rInts (dropL (Config.learners c) n)) ≤ (17592186044416 : Nat) ∧ (0 : Int) = applyE c k n ∧ True) ∧ ((k == (2 : Int)) = false → True ∧ dropL (Config.voters c) n = Config.voters (applyH c k n) ∧ RL.len (RL.rInts (dropL (Config.voters c) n)) ≤ (17592186044416 : Nat) ∧ dropL (Config.learners c) n = Config.learners (applyH c k n) ∧ RL.len (RL.rInts (dropL (Config.learners c) n)) ≤ (17592186044416 : Nat) ∧ (0 : Int) = applyE c k n ∧ True)))) (by kernel_rfl) ?_
  simp only [imp_self, implies_true, true_and, and_true, pickB_f, pickB_t]
  rw [cond_r]
  refine ⟨⟨?_, ?_⟩, ?_, ?_⟩
  · intros; simp_all
  · intros; simp_all
  · intro h
    have h : applyB c k n = false := by simpa using h
    unfold applyH applyE
    simp [h, RL.nilP]
  · intro h
    have h : applyB c k n = true := by simpa using h
    have hl := apply_len h
    unfold applyH applyE applyC
    obtain ⟨hs1, hs2⟩ := hs
    simp only [RL.len, h, if_true, true_and, and_true]
    refine ⟨⟨hs1, hs2⟩, fun h1 => ?_, fun h1 => ⟨fun h2 => ?_, fun h2 => ?_⟩⟩
    · have e : k = 1 := by simpa using h1
      subst e
      simp; omega
    · have e : k = 2 := by simpa using h2
      subst e
      simp; omega
    · have e1 : ¬ k = 1 := by simpa using h1
      have e2 : ¬ k = 2 := by simpa using h2
      simp [e1, e2]; omega
end Go.Proofs.Ytejahcpnbkegfaa
