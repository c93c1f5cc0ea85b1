/- The contract of folkmootref04.Put. Condition: a row of at most 2^40 numbers. -/
import Derived.Test.YtejahcpnbkegfaaApp
namespace Go.Proofs.Ytejahcpnbkegfaa
open Go.RowKit
set_option linter.unusedVariables false
def putStep (v : Int) (s : List Int × Bool) (x : Int) : List Int × Bool := if s.2 = false ∧ v < x then (s.1 ++ [v] ++ [x], true) else (s.1 ++ [x], s.2)
def putSt (xs : List Int) (v : Int) : Nat → List Int × Bool
  | 0 => ([], hasB xs v)
  | k + 1 => putStep v (putSt xs v k) (el xs k)
def putL (xs : List Int) (v : Int) : List Int := if (putSt xs v xs.length).2 then (putSt xs v xs.length).1 else (putSt xs v xs.length).1 ++ [v]
theorem putSt_len (xs : List Int) (v : Int) (k : Nat) : (putSt xs v k).1.length ≤ 2 * k := by
  induction k with
  | zero => simp [putSt]
  | succ k ih =>
    unfold putSt putStep
    split <;> simp <;> omega
theorem putSt_bd {xs : List Int} {v : Int} (hx : ∀ i, -9223372036854775808 ≤ el xs i ∧ el xs i ≤ 9223372036854775807) (hv : -9223372036854775808 ≤ v ∧ v ≤ 9223372036854775807) (k : Nat) : ∀ x ∈ (putSt xs v k).1, -9223372036854775808 ≤ x ∧ x ≤ 9223372036854775807 := by
  induction k with
  | zero => simp [putSt]
  | succ k ih =>
    unfold putSt putStep
    split
    · intro x hm
      simp only [List.mem_append, List.mem_singleton] at hm
      rcases hm with (hm | rfl) | rfl
      · exact ih x hm
      · exact hv
      · exact hx k
    · intro x hm
      simp only [List.mem_append, List.mem_singleton] at hm
      rcases hm with hm | rfl
      · exact ih x hm
      · exact hx k
theorem putL_bd {xs : List Int} {v : Int} (hx : ∀ i, -9223372036854775808 ≤ el xs i ∧ el xs i ≤ 9223372036854775807) (hv : -9223372036854775808 ≤ v ∧ v ≤ 9223372036854775807) : ∀ x ∈ putL xs v, -9223372036854775808 ≤ x ∧ x ≤ 9223372036854775807 := by
  unfold putL
  split
  · exact putSt_bd hx hv _
  · intro x hm
    simp only [List.mem_append, List.mem_singleton] at hm
    rcases hm with hm | rfl
    · exact putSt_bd hx hv _ x hm
    · exact hv
def PutPost (w : World) (l : List Int) (e : Ending) (w' : World) : Prop := ∃ v, e = .returned v ∧ OwnI w.heap.size w' v l ∧ Below w.heap.size w w'
set_option maxRecDepth 100000 in
theorem put_any (a : Option Addr) (n c : Nat) (xs : List Int) (v : Int) (w : World) (ha : IntSl w a n xs) (hn : n ≤ 1099511627776) :
    Calls Try.prog 28 #[.slice a n c, .int .i64 v] w (PutPost w (putL xs v)) := by
  have hm := ha.mx
  go_enter Try.func28, Try.ntmps28
  go_wp2_with fail
  refine (rhas_any _ _ _ xs _ _ ha).mono ?_
  rintro e w' ⟨rfl, rfl⟩
  go_wp2_with fail
  go_loopw [5, 6, 7] (fun t b i wr => ∃ k : Nat, ∃ o : List Int, ∃ bb : Bool, k ≤ n ∧ i = .int .i64 k ∧ b = .bool bb ∧ putSt xs v k = (o, bb) ∧ OwnI w.heap.size wr t o ∧ Below w.heap.size w wr) (fun _ _ i _ => n - (intOf i).toNat)
  case atStart => exact ⟨0, [], _, Nat.zero_le _, rfl, rfl, rfl, OwnI.nil _ _, Below.refl _ _⟩
  case round =>
    obtain ⟨k, o, bb, hk, rfl, rfl, hst, hown, hbel⟩ := hrel
    have hlen := putSt_len xs v k
    rw [hst] at hlen
    simp only at hlen
    by_cases hlt : k < n
    · have k0 : (0 : Int) ≤ (k : Int) := by omega
      have k1 : (k : Int) < (n : Int) := by omega
      obtain ⟨ba, oa, rfl, hba, hca⟩ := ha.row (by omega)
      have ca : wr.cell? ⟨ba, oa + k, none⟩ = some (.int .i64 (el xs k)) := by rw [hbel.cell (p := ⟨ba, oa + k, none⟩) hba]; exact hca k hlt
      have CA := Lib.hid (hca k hlt)
      clear hca
      have hsz := hbel.size
      have H5 := Lib.hid hown
      have HB := Lib.hid hbel
      have HS := Lib.hid hst
      clear hown hbel hst
      by_cases hc : bb = false ∧ v < el xs k
      · obtain ⟨rfl, hvx⟩ := hc
        have hnx := Lib.hid (show putSt xs v (k + 1) = (o ++ [v] ++ [el xs k], true) by simp [putSt, HS.out, putStep, hvx])
        go_wp2_with (first | (at_builtin; refine wpList_app1 rfl (.tmp 27) (.tmp 29) 23 rfl Try.underlying23 w.heap.size _ o rfl H5.out v 3 _ rfl rfl (by omega) hsz ?_; intro v1 w1 ho1 hg1; have HO1 := Lib.hid ho1; have HB1 := Lib.hid (H5.out.bel HB.out hg1 hsz); clear ho1 hg1; have hsz1 := HB1.out.size; have ca1 := (HB1.out.cell (p := ⟨ba, oa + k, none⟩) hba).trans CA.out) | (at_builtin; refine wpList_app1 rfl (.tmp 31) (.tmp 36) 23 rfl Try.underlying23 w.heap.size _ (o ++ [v]) rfl HO1.out (el xs k) 3 _ rfl rfl ?len hsz1 ?_; rotate_right; intro v2 w2 ho2 hg2; have HO2 := Lib.hid ho2; have HB2 := Lib.hid (HO1.out.bel HB1.out hg2 hsz1); clear ho2 hg2))
        case len => simp; omega
        go_roundw
        case rel => exact ⟨k + 1, _, _, by omega, by go_num, rfl, hnx.out, HO2.out, HB2.out⟩
        case measure => simp [intOf]; omega
      · have hnx := Lib.hid (show putSt xs v (k + 1) = (o ++ [el xs k], bb) by simp [putSt, HS.out, putStep, hc])
        cases bb
        case true =>
          go_wp2_with (at_builtin; refine wpList_app1 rfl (.tmp 31) (.tmp 36) 23 rfl Try.underlying23 w.heap.size _ o rfl H5.out (el xs k) 3 _ rfl rfl (by omega) hsz ?_; intro v2 w2 ho2 hg2; have HO2 := Lib.hid ho2; have HB2 := Lib.hid (H5.out.bel HB.out hg2 hsz); clear ho2 hg2)
          go_roundw
          case rel => exact ⟨k + 1, _, _, by omega, by go_num, rfl, hnx.out, HO2.out, HB2.out⟩
          case measure => simp [intOf]; omega
        case false =>
          have hvx : ¬ v < el xs k := fun h => hc ⟨rfl, h⟩
          clear hc
          go_wp2_with (at_builtin; refine wpList_app1 rfl (.tmp 31) (.tmp 36) 23 rfl Try.underlying23 w.heap.size _ o rfl H5.out (el xs k) 3 _ rfl rfl (by omega) hsz ?_; intro v2 w2 ho2 hg2; have HO2 := Lib.hid ho2; have HB2 := Lib.hid (H5.out.bel HB.out hg2 hsz); clear ho2 hg2)
          go_roundw
          case rel => exact ⟨k + 1, _, _, by omega, by go_num, rfl, hnx.out, HO2.out, HB2.out⟩
          case measure => simp [intOf]; omega
    · have k1 : ¬ (k : Int) < (n : Int) := by omega
      obtain rfl : k = n := by omega
      have hlx := ha.len
      have hpl : putL xs v = if bb then o else o ++ [v] := by simp [putL, hlx, hst]
      have HPL := Lib.hid hpl
      have hsz := hbel.size
      have H5 := Lib.hid hown
      have HB := Lib.hid hbel
      clear hown hbel hst hlx hpl hlt hk
      cases bb
      case true =>
        go_wp2
        go_ret
        exact ⟨_, rfl, by rw [HPL.out]; exact H5.out, HB.out⟩
      case false =>
        go_wp2_with (at_builtin; refine wpList_app1 rfl (.tmp 40) (.tmp 42) 23 rfl Try.underlying23 w.heap.size _ o rfl H5.out v 3 _ rfl rfl (by omega) hsz ?_; intro v2 w2 ho2 hg2; have HO2 := Lib.hid ho2; have HB2 := Lib.hid (H5.out.bel HB.out hg2 hsz); clear ho2 hg2)
        go_ret
        exact ⟨_, rfl, by rw [HPL.out]; exact HO2.out, HB2.out⟩
end Go.Proofs.Ytejahcpnbkegfaa
