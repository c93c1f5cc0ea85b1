/- slices.BinarySearchFunc over a holder's signs, and the closure of lease.Take. Condition: a row that rises. -/
import Derived.Test.YtjfphnegcelbpaaHoF
namespace Go.Proofs.Ytjfphnegcelbpaa
open Go.RowKit
set_option linter.unusedVariables false
set_option linter.unusedSimpArgs false
def cmpI (a t : Int) : Int := if a < t then -1 else if t < a then 1 else 0
theorem cmpI_lt {a t : Int} (h : a < t) : cmpI a t = -1 := by simp [cmpI, h]
theorem cmpI_gt {a t : Int} (h : t < a) : cmpI a t = 1 := by unfold cmpI; rw [if_neg (by omega), if_pos h]
theorem cmpI_eq {a t : Int} (h : a = t) : cmpI a t = 0 := by unfold cmpI; rw [if_neg (by omega), if_neg (by omega)]
theorem take1_any (x : Sent) (t : Int) (w : World) : Calls Try.prog 32 #[.agg #[.int .i64 x.ask, .int .i64 x.at_], .int .i64 t] w (IPost w (cmpI x.ask t)) := by
  by_cases h1 : x.ask < t
  · have HE := Lib.hid (cmpI_lt h1)
    go_enter Try.func32, Try.ntmps32
    go_wp2_with fail
    go_ret
    exact ⟨by rw [HE.out]; rfl, (Below.refl _ _).alloc (Nat.le_refl _) _⟩
  · by_cases h2 : t < x.ask
    · have HE := Lib.hid (cmpI_gt h2)
      go_enter Try.func32, Try.ntmps32
      go_wp2_with fail
      go_ret
      exact ⟨by rw [HE.out]; rfl, (Below.refl _ _).alloc (Nat.le_refl _) _⟩
    · have HE := Lib.hid (cmpI_eq (show x.ask = t by omega))
      go_enter Try.func32, Try.ntmps32
      go_wp2_with fail
      go_ret
      exact ⟨by rw [HE.out]; rfl, (Below.refl _ _).alloc (Nat.le_refl _) _⟩
/-- a post: the place of the first one that is not below t, and is it t's -/
def SeekPost (w : World) (l : List Sent) (t : Int) (e : Ending) (w' : World) : Prop := ∃ (p : Nat) (b : Bool), e = .returned (.tuple #[.int .i64 p, .bool b]) ∧ p ≤ l.length ∧ (∀ k, k < p → (l.getD k default).ask < t) ∧ (∀ k, p ≤ k → k < l.length → t ≤ (l.getD k default).ask) ∧ (b = true ↔ (p < l.length ∧ (l.getD p default).ask = t)) ∧ Below w.heap.size w w'
set_option maxRecDepth 100000 in
set_option maxHeartbeats 4000000 in
theorem bseek_any (a : Option Addr) (n c : Nat) (l : List Sent) (t : Int) (w : World) (S : Nat → Prop) (h : Sl w S Sent.ty a n c (l.map Sent.enc)) (hsort : ∀ i j, i < j → j < l.length → (l.getD i default).ask < (l.getD j default).ask) :
    Calls Try.prog 31 #[.slice a n c, .int .i64 t, .func (.func 32) #[] #[]] w (SeekPost w l t) := by
  have hl := h.len
  rw [List.length_map] at hl
  subst hl
  have H7 := Lib.hid h
  have n7 := h.bd.2.2.1
  have HS := Lib.hid hsort
  clear h hsort
  go_enter Try.func31, Try.ntmps31
  go_wp2_with fail
  go_loopw [9, 10] (fun s9 s10 wr => ∃ i j : Nat, i ≤ j ∧ j ≤ l.length ∧ s9 = .int .i64 i ∧ s10 = .int .i64 j ∧ (∀ k, k < i → (l.getD k default).ask < t) ∧ (∀ k, j ≤ k → k < l.length → t ≤ (l.getD k default).ask) ∧ Below w.heap.size w wr) (fun s9 s10 _ => (intOf s10 - intOf s9).toNat)
  case atStart => exact ⟨0, l.length, Nat.zero_le _, Nat.le_refl _, rfl, rfl, fun k hk => by omega, fun k hk hk2 => by omega, Below.refl _ _⟩
  case round =>
    obtain ⟨i, j, hij, hj, rfl, rfl, hlo, hhi, hb⟩ := hrel
    have HLO := Lib.hid hlo
    have HHI := Lib.hid hhi
    have HB := Lib.hid hb
    clear hlo hhi hb
    by_cases hlt : i < j
    · obtain ⟨b, off, rfl⟩ := H7.out.addr (by omega)
      have hm : (i + j) / 2 < l.length := by omega
      obtain ⟨_, hb1, e0, e1, f0, f1⟩ := Sent.row (H7.out.same (Same.below HB.out)) hm
      have hm1 : i ≤ (i + j) / 2 := by omega
      have hm2 : (i + j) / 2 < j := by omega
      have k0 : (0 : Int) ≤ (((i + j) / 2 : Nat) : Int) := by omega
      have k1 : (((i + j) / 2 : Nat) : Int) < (l.length : Int) := by omega
      generalize hE : l.getD ((i + j) / 2) default = e at *
      have HE := Lib.hid hE
      clear hE
      by_cases hc : e.ask < t
      · have HC := Lib.hid (cmpI_lt hc)
        have HK := Lib.hid (fun k (hk : k < (i + j) / 2 + 1) => show (l.getD k default).ask < t by
          rcases Nat.lt_or_ge k ((i + j) / 2) with h1 | h1
          · have := HS.out k ((i + j) / 2) h1 hm; rw [HE.out] at this; omega
          · obtain rfl : k = (i + j) / 2 := by omega
            rw [HE.out]; exact hc)
        go_wp2_with fail
        refine (take1_any e t _).mono ?_
        rw [HC.out]
        rintro e2 w2 ⟨rfl, P2⟩
        have HB2 := Lib.hid (HB.out.trans (P2.mono HB.out.size))
        clear P2
        go_wp2_with fail
        go_roundw
        case rel => exact ⟨(i + j) / 2 + 1, j, by omega, hj, by go_num, rfl, HK.out, HHI.out, HB2.out⟩
        case measure => simp [intOf]; omega
      · have hcd : cmpI e.ask t = 0 ∨ cmpI e.ask t = 1 := by
          by_cases h2 : t < e.ask
          · exact .inr (cmpI_gt h2)
          · exact .inl (cmpI_eq (by omega))
        have HK := Lib.hid (fun k (hk : (i + j) / 2 ≤ k) (hk2 : k < l.length) => show t ≤ (l.getD k default).ask by
          rcases Nat.lt_or_ge ((i + j) / 2) k with h1 | h1
          · have := HS.out ((i + j) / 2) k h1 hk2; rw [HE.out] at this; omega
          · obtain rfl : k = (i + j) / 2 := by omega
            rw [HE.out]; omega)
        rcases hcd with hcd | hcd
        all_goals
          have HC := Lib.hid hcd
          clear hcd
          go_wp2_with fail
          refine (take1_any e t _).mono ?_
          rw [HC.out]
          rintro e2 w2 ⟨rfl, P2⟩
          have HB2 := Lib.hid (HB.out.trans (P2.mono HB.out.size))
          clear P2
          go_wp2_with fail
          go_roundw
          case rel => exact ⟨i, (i + j) / 2, by omega, by omega, rfl, by go_num, HLO.out, HK.out, HB2.out⟩
          case measure => simp [intOf]; omega
    · obtain rfl : i = j := by omega
      by_cases hin : i < l.length
      · obtain ⟨b, off, rfl⟩ := H7.out.addr (by omega)
        obtain ⟨_, hb1, e0, e1, f0, f1⟩ := Sent.row (H7.out.same (Same.below HB.out)) hin
        have k0 : (0 : Int) ≤ (i : Int) := by omega
        have k1 : (i : Int) < (l.length : Int) := by omega
        have hge := HHI.out i (Nat.le_refl _) hin
        generalize hE : l.getD i default = e at *
        have HE := Lib.hid hE
        clear hE
        by_cases hc : e.ask = t
        · have HC := Lib.hid (cmpI_eq hc)
          have HT := Lib.hid hc
          clear hc
          go_wp2_with fail
          refine (take1_any e t _).mono ?_
          rw [HC.out]
          rintro e2 w2 ⟨rfl, P2⟩
          have HB2 := Lib.hid (HB.out.trans (P2.mono HB.out.size))
          clear P2
          go_wp2_with fail
          go_ret2
          exact ⟨i, true, rfl, hj, HLO.out, HHI.out, ⟨fun _ => ⟨hin, by rw [HE.out]; exact HT.out⟩, fun _ => rfl⟩, HB2.out⟩
        · have HC := Lib.hid (cmpI_gt (show t < e.ask by omega))
          have HT := Lib.hid hc
          clear hc
          go_wp2_with fail
          refine (take1_any e t _).mono ?_
          rw [HC.out]
          rintro e2 w2 ⟨rfl, P2⟩
          have HB2 := Lib.hid (HB.out.trans (P2.mono HB.out.size))
          clear P2
          go_wp2_with fail
          go_ret2
          exact ⟨i, false, rfl, hj, HLO.out, HHI.out, ⟨fun h => (by cases h), fun h => absurd (by rw [← HE.out]; exact h.2) HT.out⟩, HB2.out⟩
      · have k1 : ¬ (i : Int) < (l.length : Int) := by omega
        go_wp2_with fail
        go_ret2
        exact ⟨i, false, rfl, hj, HLO.out, HHI.out, ⟨fun h => (by cases h), fun h => absurd h.1 hin⟩, HB.out⟩
end Go.Proofs.Ytjfphnegcelbpaa
