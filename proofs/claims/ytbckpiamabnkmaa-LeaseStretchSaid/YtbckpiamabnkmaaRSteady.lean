/- The contract of the reference's Steady. Condition: rows that read as lists, the ticks at most 1000. -/
import Derived.Test.YtbckpiamabnkmaaSteady
namespace Go.Proofs.Ytbckpiamabnkmaa
open Go.RowKit
set_option linter.unusedVariables false
set_option linter.unusedSimpArgs false
def okFrom (l : List Int) (n : Int) (q : Nat) : Prop :=
  ∀ i k, i < q → i ≤ k → k < l.length → upAt l n i = true → (∀ p, i ≤ p → p ≤ k → el l p ≠ -n) → condS l n i k
theorem okFrom_all {l : List Int} {n : Int} {m : Nat} (hm : l.length = m) (h : okFrom l n m) : okTo l n l.length := fun i k h1 h2 h3 h4 => h i k (by omega) h1 h2 h3 h4
theorem cntTo_mono (l : List Int) (v : Int) {i j : Nat} (h : i ≤ j) (hj : j ≤ l.length) : cntTo l v i ≤ cntTo l v j ∧ cntTo l v j ≤ cntTo l v i + (j - i) := by
  induction j with
  | zero => have : i = 0 := by omega
            subst this; simp
  | succ j ih =>
    by_cases e : i = j + 1
    · subst e; simp
    · have := ih (by omega) (by omega)
      have := cntTo_succ (l := l) (j := j) (by omega) v
      by_cases q : el l j = v
      · rw [if_pos q] at this; omega
      · rw [if_neg q] at this; omega
structure RIn (l : List Int) (v : Int) (k j : Nat) (t w : Int) : Prop where
  kj : k ≤ j
  ht : t = cntTo l v j - cntTo l v k
  hw : w = cntTo l 0 j - cntTo l 0 k
  np : ∀ p, k ≤ p → p < j → el l p ≠ -v
  ok : ∀ q, k ≤ q → q < j → condS l v k q
theorem RIn.bd {l : List Int} {v : Int} {k j : Nat} {t w : Int} (h : RIn l v k j t w) (hj : j ≤ l.length) : 0 ≤ t ∧ t ≤ j ∧ 0 ≤ w ∧ w ≤ j := by
  have := cntTo_mono l v h.kj hj
  have := cntTo_mono l 0 h.kj hj
  have := h.ht; have := h.hw
  omega
theorem RIn.next {l : List Int} {v : Int} {k j : Nat} {t w : Int} (h : RIn l v k j t w) (hj : j < l.length) (hs : el l j ≠ -v) {t' w' : Int} (ht : t' = t + (if el l j = v then 1 else 0)) (hw : w' = w + (if el l j = 0 then 1 else 0)) (c : t' ≤ 2 * w' + 2 ∧ w' ≤ 2 * t' + 2) : RIn l v k (j + 1) t' w' := by
  have c1 := cntTo_succ hj v
  have c0 := cntTo_succ hj 0
  obtain ⟨a1, a2, a3, a4, a5⟩ := h
  have e1 : t' = cntTo l v (j + 1) - cntTo l v k := by rw [c1, ht, a2]; omega
  have e2 : w' = cntTo l 0 (j + 1) - cntTo l 0 k := by rw [c0, hw, a3]; omega
  refine ⟨by omega, e1, e2, fun p h1 h2 => ?_, fun q h1 h2 => ?_⟩
  · by_cases e : p = j
    · subst e; exact hs
    · exact a4 p h1 (by omega)
  · by_cases e : q = j
    · subst e; unfold condS; rw [← e1, ← e2]; exact c
    · exact a5 q h1 (by omega)
theorem RIn.no {l : List Int} {v : Int} {k j : Nat} {t w : Int} (h : RIn l v k j t w) (hv : 1 ≤ v) (hu : upAt l v k = true) (hj : j < l.length) (hs : el l j ≠ -v) {t' w' : Int} (ht : t' = t + (if el l j = v then 1 else 0)) (hw : w' = w + (if el l j = 0 then 1 else 0)) (c : ¬ (t' ≤ 2 * w' + 2 ∧ w' ≤ 2 * t' + 2)) : steadyB v l = false := by
  cases hb : steadyB v l with
  | false => rfl
  | true =>
    have c1 := cntTo_succ hj v
    have c0 := cntTo_succ hj 0
    obtain ⟨a1, a2, a3, a4, a5⟩ := h
    have e1 : t' = cntTo l v (j + 1) - cntTo l v k := by rw [c1, ht, a2]; omega
    have e2 : w' = cntTo l 0 (j + 1) - cntTo l 0 k := by rw [c0, hw, a3]; omega
    have := (steadyB_iff hv).1 hb k j a1 hj hu (fun p h1 h2 => by
      by_cases e : p = j
      · subst e; exact hs
      · exact a4 p h1 (by omega))
    unfold condS at this
    rw [← e1, ← e2] at this
    exact absurd this c
theorem RIn.row {l : List Int} {v : Int} {k j : Nat} {t w : Int} (h : RIn l v k j t w) (hd : j = l.length ∨ el l j = -v) (ho : okFrom l v k) : okFrom l v (k + 1) := by
  intro i q h1 h2 h3 h4 h5
  by_cases e : i = k
  · subst e
    by_cases c : q < j
    · exact h.ok q h2 c
    · rcases hd with hd | hd
      · omega
      · exact absurd hd (h5 j h.kj (by omega))
  · exact ho i q (by omega) h2 h3 h4 h5
theorem okFrom_skip {l : List Int} {v : Int} {k : Nat} (h : okFrom l v k) (hs : upAt l v k = false ∨ el l k = -v) : okFrom l v (k + 1) := by
  intro i q h1 h2 h3 h4 h5
  by_cases e : i = k
  · subst e
    rcases hs with hs | hs
    · rw [hs] at h4; exact absurd h4 (by simp)
    · exact absurd hs (h5 i (Nat.le_refl _) h2)
  · exact h i q (by omega) h2 h3 h4 h5
set_option maxHeartbeats 2000000 in
theorem rsteady1_any (a : Option Addr) (n c : Nat) (xs : List Int) (v : Int) (w : World) (ha : IntSl w a n xs) (hn : n ≤ 1000) (hv : 1 ≤ v) (hv2 : v ≤ 9223372036854775807) :
    Calls Try.prog 127 #[.slice a n c, .int .i64 v] w fun e w' => e = .returned (.bool (steadyB v xs)) ∧ Dr w w' := by
  have hm := ha.mx
  have hlen := Lib.hid ha.len
  go_enter Try.func127, Try.ntmps127
  go_wp2_with fail
  go_loopw [5, 6] (fun u i wr => ∃ k : Nat, k ≤ n ∧ i = .int .i64 k ∧ u = .bool (upAt xs v k) ∧ okFrom xs v k ∧ Dr w wr) (fun _ i _ => n - (intOf i).toNat)
  case atStart => exact ⟨0, Nat.zero_le _, rfl, by simp [upAt], fun i k h => by omega, Dr.refl _⟩
  case round =>
    obtain ⟨k, hk, rfl, rfl, hq, q, rfl⟩ := hrel
    have HQ := Lib.hid hq
    clear hq
    by_cases hlt : k < n
    · obtain ⟨ba, oa, rfl, _, hca⟩ := ha.row (by omega)
      have ck := hca k (by omega)
      have k0 : (0 : Int) ≤ (k : Int) := by omega
      have k1 : (k : Int) < (n : Int) := by omega
      have HC := Lib.hid hca
      clear hca
      have HU := Lib.hid (upAt_succ (l := xs) (j := k) (by rw [hlen.out]; omega) v)
      by_cases hs : el xs k = -v
      · have e1 : (el xs k == -v) = true := by simp [hs]
        have HS := Lib.hid hs
        have HK := Lib.hid (okFrom_skip HQ.out (.inr hs))
        clear hs
        go_wp2_with fail
        go_roundw
        case rel => exact ⟨k + 1, by omega, by go_num, by rw [HU.out, if_pos HS.out], HK.out, by first | exact ⟨_, rfl⟩ | exact Dr.nn _ _ _⟩
        case measure => simp [intOf]; omega
      · have e1 : (el xs k == -v) = false := by simp [hs]
        have HS := Lib.hid hs
        clear hs
        cases hu : upAt xs v k with
        | false =>
          have HK := Lib.hid (okFrom_skip HQ.out (.inl hu))
          have HUU := Lib.hid hu
          clear hu
          go_wp2_with fail
          refine wp_loop_rounds 1 ?_
          rw [rounds_succ]
          go_wp2_with fail
          go_roundw
          case rel => exact ⟨k + 1, by omega, by go_num, by rw [HU.out, if_neg HS.out, HUU.out], HK.out, by first | exact ⟨_, rfl⟩ | exact Dr.nn _ _ _⟩
          case measure => simp [intOf]; omega
        | true =>
          have HUU := Lib.hid hu
          clear hu
          go_wp2_with fail
          obtain ⟨wo, hwo⟩ : ∃ wo : World, wo = w.drewN q := ⟨_, rfl⟩
          go_loopw [7, 8, 9] (fun t z i wr => ∃ (j : Nat) (tt ww : Int), j ≤ n ∧ i = .int .i64 j ∧ t = .int .i64 tt ∧ z = .int .i64 ww ∧ RIn xs v k j tt ww ∧ Dr w wr) (fun _ _ i _ => n - (intOf i).toNat)
          case atStart => exact ⟨k, 0, 0, by omega, rfl, rfl, rfl, ⟨Nat.le_refl _, by simp, by simp, fun p h1 h2 => by omega, fun p h1 h2 => by omega⟩, ⟨q, rfl⟩⟩
          case round =>
            obtain ⟨j, tt, ww, hj, rfl, rfl, rfl, hin, q2, rfl⟩ := hrel
            have HIN := Lib.hid hin
            clear hin
            have hbd := HIN.out.bd (by rw [hlen.out]; omega)
            obtain ⟨t1, t2, w1, w2⟩ := hbd
            have j0 : (0 : Int) ≤ (j : Int) := by omega
            by_cases hjl : j < n
            · have cj := HC.out j (by omega)
              have j1 : (j : Int) < (n : Int) := by omega
              by_cases hsj : el xs j = -v
              · have f1 : (el xs j != -v) = false := by simp [hsj]
                have HK := Lib.hid (HIN.out.row (.inr hsj) HQ.out)
                clear hsj
                go_wp2_with fail
                go_roundw
                case rel => exact ⟨k + 1, by omega, by go_num, by rw [HU.out, if_neg HS.out, HUU.out], HK.out, by first | exact ⟨_, rfl⟩ | exact Dr.nn _ _ _⟩
                case measure => simp [intOf]; omega
              · have f1 : (el xs j != -v) = true := by simp [hsj]
                have HSJ := Lib.hid hsj
                clear hsj
                by_cases x1 : el xs j = v
                · have HT := Lib.hid (show (if el xs j = v then (1 : Int) else 0) = 1 by rw [if_pos x1])
                  have x0 : ¬ el xs j = 0 := by omega
                  have HW := Lib.hid (show ww = ww + (if el xs j = 0 then (1 : Int) else 0) by rw [if_neg x0]; omega)
                  have g1 : (el xs j == v) = true := by simp [x1]
                  have g2 : (el xs j == 0) = false := by simp [x0]
                  clear x1 x0
                  by_cases c1 : 2 * (ww) + 2 < tt + 1
                  · have HNO := Lib.hid (HIN.out.no hv HUU.out (by rw [hlen.out]; omega) HSJ.out (t' := tt + 1) (w' := ww) (by first | exact HT.out | rw [HT.out]) (by first | exact HW.out | rw [HW.out]) (by omega))
                    go_wp2_with fail
                    go_ret
                    exact ⟨by rw [HNO.out]; rfl, by first | exact ⟨_, rfl⟩ | exact Dr.nn _ _ _⟩
                  · by_cases c2 : 2 * (tt + 1) + 2 < ww
                    · have HNO := Lib.hid (HIN.out.no hv HUU.out (by rw [hlen.out]; omega) HSJ.out (t' := tt + 1) (w' := ww) (by first | exact HT.out | rw [HT.out]) (by first | exact HW.out | rw [HW.out]) (by omega))
                      go_wp2_with fail
                      go_ret
                      exact ⟨by rw [HNO.out]; rfl, by first | exact ⟨_, rfl⟩ | exact Dr.nn _ _ _⟩
                    · go_wp2_with fail
                      go_roundw
                      case rel => exact ⟨j + 1, tt + 1, ww, by omega, by go_num, by go_num, by go_num, HIN.out.next (by rw [hlen.out]; omega) HSJ.out (by first | exact HT.out | rw [HT.out]) (by first | exact HW.out | rw [HW.out]) (by omega), by first | exact ⟨_, rfl⟩ | exact Dr.nn _ _ _⟩
                      case measure => simp [intOf]; omega
                · by_cases x0 : el xs j = 0
                  · have HT := Lib.hid (show tt = tt + (if el xs j = v then (1 : Int) else 0) by rw [if_neg x1]; omega)
                    have HW := Lib.hid (show (if el xs j = 0 then (1 : Int) else 0) = 1 by rw [if_pos x0])
                    have g1 : (el xs j == v) = false := by simp [x1]
                    have g2 : (el xs j == 0) = true := by simp [x0]
                    clear x1 x0
                    by_cases c1 : 2 * (ww + 1) + 2 < tt
                    · have HNO := Lib.hid (HIN.out.no hv HUU.out (by rw [hlen.out]; omega) HSJ.out (t' := tt) (w' := ww + 1) (by first | exact HT.out | rw [HT.out]) (by first | exact HW.out | rw [HW.out]) (by omega))
                      go_wp2_with fail
                      go_ret
                      exact ⟨by rw [HNO.out]; rfl, by first | exact ⟨_, rfl⟩ | exact Dr.nn _ _ _⟩
                    · by_cases c2 : 2 * (tt) + 2 < ww + 1
                      · have HNO := Lib.hid (HIN.out.no hv HUU.out (by rw [hlen.out]; omega) HSJ.out (t' := tt) (w' := ww + 1) (by first | exact HT.out | rw [HT.out]) (by first | exact HW.out | rw [HW.out]) (by omega))
                        go_wp2_with fail
                        go_ret
                        exact ⟨by rw [HNO.out]; rfl, by first | exact ⟨_, rfl⟩ | exact Dr.nn _ _ _⟩
                      · go_wp2_with fail
                        go_roundw
                        case rel => exact ⟨j + 1, tt, ww + 1, by omega, by go_num, by go_num, by go_num, HIN.out.next (by rw [hlen.out]; omega) HSJ.out (by first | exact HT.out | rw [HT.out]) (by first | exact HW.out | rw [HW.out]) (by omega), by first | exact ⟨_, rfl⟩ | exact Dr.nn _ _ _⟩
                        case measure => simp [intOf]; omega
                  · have HT := Lib.hid (show tt = tt + (if el xs j = v then (1 : Int) else 0) by rw [if_neg x1]; omega)
                    have HW := Lib.hid (show ww = ww + (if el xs j = 0 then (1 : Int) else 0) by rw [if_neg x0]; omega)
                    have g1 : (el xs j == v) = false := by simp [x1]
                    have g2 : (el xs j == 0) = false := by simp [x0]
                    clear x1 x0
                    by_cases c1 : 2 * (ww) + 2 < tt
                    · have HNO := Lib.hid (HIN.out.no hv HUU.out (by rw [hlen.out]; omega) HSJ.out (t' := tt) (w' := ww) (by first | exact HT.out | rw [HT.out]) (by first | exact HW.out | rw [HW.out]) (by omega))
                      go_wp2_with fail
                      go_ret
                      exact ⟨by rw [HNO.out]; rfl, by first | exact ⟨_, rfl⟩ | exact Dr.nn _ _ _⟩
                    · by_cases c2 : 2 * (tt) + 2 < ww
                      · have HNO := Lib.hid (HIN.out.no hv HUU.out (by rw [hlen.out]; omega) HSJ.out (t' := tt) (w' := ww) (by first | exact HT.out | rw [HT.out]) (by first | exact HW.out | rw [HW.out]) (by omega))
                        go_wp2_with fail
                        go_ret
                        exact ⟨by rw [HNO.out]; rfl, by first | exact ⟨_, rfl⟩ | exact Dr.nn _ _ _⟩
                      · go_wp2_with fail
                        go_roundw
                        case rel => exact ⟨j + 1, tt, ww, by omega, by go_num, by go_num, by go_num, HIN.out.next (by rw [hlen.out]; omega) HSJ.out (by first | exact HT.out | rw [HT.out]) (by first | exact HW.out | rw [HW.out]) (by omega), by first | exact ⟨_, rfl⟩ | exact Dr.nn _ _ _⟩
                        case measure => simp [intOf]; omega
            · have hjn : j = n := by omega
              have j1 : ¬ (j : Int) < (n : Int) := by omega
              have HK := Lib.hid (HIN.out.row (.inl (by rw [hlen.out]; exact hjn)) HQ.out)
              clear hjn
              go_wp2_with fail
              go_roundw
              case rel => exact ⟨k + 1, by omega, by go_num, by rw [HU.out, if_neg HS.out, HUU.out], HK.out, by first | exact ⟨_, rfl⟩ | exact Dr.nn _ _ _⟩
              case measure => simp [intOf]; omega
    · have hkn : k = n := by omega
      have k1 : ¬ (k : Int) < (n : Int) := by omega
      have HR := Lib.hid ((steadyB_iff (l := xs) hv).2 (okFrom_all (m := k) (by rw [hlen.out]; omega) HQ.out))
      clear hkn
      go_wp2_with fail
      go_ret
      exact ⟨by rw [HR.out]; rfl, by first | exact ⟨_, rfl⟩ | exact Dr.nn _ _ _⟩
end Go.Proofs.Ytbckpiamabnkmaa
