/- The walk of the law SetsBack: true for every row and number. No condition but that the row reads as a list (a nil row has no room). -/
import Derived.Test.YtfioogmjhfdjhaaWith
namespace Go.Proofs.Ytfioogmjhfdjhaa
open Go.RowKit
set_option linter.unusedVariables false
theorem IsRow.nilcap {k : IntKind} {w : World} {a : Option Addr} {n c : Nat} {zs : List Int} (h : IsRow k w a n c zs) : a = none → c = 0 := by
  rcases h with ⟨rfl, rfl, rfl, rfl⟩ | ⟨x, rfl, _⟩ <;> simp
set_option maxRecDepth 100000 in
theorem law_setsBack (a : Option Addr) (n ca : Nat) (xs : List Int) (v : Int) (w : World) (ha : IntSl w a n xs) (hv : -9223372036854775808 ≤ v ∧ v ≤ 9223372036854775807) (hna : a = none → ca = 0) :
    Calls Try.prog 15 #[.slice a n ca, .int .i64 v] w fun e w' => e = .returned (.bool true) ∧ Below w.heap.size w w' := by
  have hm := ha.mx
  by_cases h1 : 1000 < n
  · have t1 : (1000 : Int) < (n : Int) := by omega
    clear hv
    go_enter Try.func15, Try.ntmps15
    go_wp2
    go_ret
    exact ⟨rfl, Below.refl _ _⟩
  have t1 : ¬ (1000 : Int) < (n : Int) := by omega
  have hwb := Lib.hid (withR_bd ha.rg hv)
  have hcon := with_c a n ca xs v w ha hna (by omega) hv
  cases hi : isB xs
  case false =>
    have hr : withR xs v = (1, []) := by simp [withR, hi]
    rw [hr] at hcon
    have HI := Lib.hid hi
    clear hi hr hv
    go_enter Try.func15, Try.ntmps15
    go_wp2_with fail
    refine hcon.mono ?_
    rintro e w1 ⟨v1, rfl, ho1, B1⟩
    clear ho1
    go_wp2_with fail
    refine (shown_with _).mono ?_
    rintro e w2 ⟨rfl, B2'⟩
    have B2 := B1.trans (B2'.mono B1.size)
    go_wp2_with fail
    refine (is_any _ _ _ xs _ (ha.below B2)).mono ?_
    rw [HI.out]
    rintro e w3 ⟨rfl, q, rfl⟩
    go_wp2_with fail
    go_ret
    exact ⟨rfl, bdrewN B2 _⟩
  case true =>
  rcases cutR_or (putL xs v) with ⟨h16, e1, e2⟩ | ⟨h16, e1, e2⟩
  case inr =>
    have hr : withR xs v = (2, []) := by
      have : cutR (putL xs v) = (2, []) := by rw [← e1, ← e2]
      simp [withR, hi, this]
    rw [hr] at hcon
    have hasc := isB_asc.1 hi
    have hl := ha.len
    have hhas : hasB xs v = false := by
      cases hh : hasB xs v
      · rfl
      · rw [putL_in hh] at h16; omega
    rw [putL_out hhas, ins_len] at h16
    have hn16 : n = 16 := by omega
    subst hn16
    have HI := Lib.hid hi
    have HH := Lib.hid hhas
    clear hi hr hv h16 e1 e2 hhas hasc hl h1 t1
    have t1 : ¬ (1000 : Int) < ((16 : Nat) : Int) := by omega
    go_enter Try.func15, Try.ntmps15
    go_wp2_with fail
    refine hcon.mono ?_
    rintro e w1 ⟨v1, rfl, ho1, B1⟩
    clear ho1
    go_wp2_with fail
    refine (shown_with _).mono ?_
    rintro e w2 ⟨rfl, B2'⟩
    have B2 := B1.trans (B2'.mono B1.size)
    go_wp2_with fail
    refine (is_any _ _ _ xs _ (ha.below B2)).mono ?_
    rw [HI.out]
    rintro e w3 ⟨rfl, q, rfl⟩
    go_wp2_with fail
    refine (has_any _ _ _ xs _ _ ((ha.below B2).drewN _)).mono ?_
    rw [HH.out]
    rintro e w3 ⟨rfl, rfl⟩
    go_wp2_with fail
    go_ret
    exact ⟨rfl, bdrewN B2 _⟩
  case inl =>
    have hr : withR xs v = (0, putL xs v) := by
      have : cutR (putL xs v) = (0, putL xs v) := by
        refine Prod.ext e1 e2
      simp [withR, hi, this]
    rw [hr] at hcon hwb
    have hpa := putL_asc (v := v) (isB_asc.1 hi).1
    have hpi : isB (putL xs v) = true := isB_asc.2 ⟨hpa, h16⟩
    have hw1 : withoutR (putL xs v) v = (0, dropL (putL xs v) v) := by simp [withoutR, hpi]
    have hw2 : withoutR xs v = (0, dropL xs v) := by simp [withoutR, hi]
    have hd : dropL (putL xs v) v = dropL xs v := by
      refine asc_ext (List.Pairwise.filter _ hpa) (List.Pairwise.filter _ (isB_asc.1 hi).1) fun x => ?_
      simp only [dropL, List.mem_filter, putL_mem]
      constructor
      · rintro ⟨rfl | h, h2⟩
        · simp at h2
        · exact ⟨h, h2⟩
      · rintro ⟨h, h2⟩
        exact ⟨.inr h, h2⟩
    have hh1 : hasB (putL xs v) v = true := hasB_iff.2 (putL_mem.2 (.inl rfl))
    have hh2 : hasB (dropL xs v) v = false := hasB_not.2 (by simp [dropL])
    have hee := Lib.hid (show eqB (dropL xs v) (dropL xs v) = true by simp [eqB])
    rw [hd] at hw1
    have HI := Lib.hid hpi
    have HW1 := Lib.hid hw1
    have HW2 := Lib.hid hw2
    have HH1 := Lib.hid hh1
    have HH2 := Lib.hid hh2
    have hbd := Lib.hid (dropL_bd (v := v) ha.bd)
    clear hi hr hv e1 e2 hpa hpi hw1 hw2 hh1 hh2 hd
    go_enter Try.func15, Try.ntmps15
    go_wp2_with fail
    refine hcon.mono ?_
    rintro e w1 ⟨v1, rfl, ho1, B1⟩
    obtain ⟨a1, c1, rfl, hs1⟩ := ho1.sl hwb.out
    clear ho1
    have hpl : (putL xs v).length ≤ 1099511627776 := by omega
    generalize hml : (putL xs v).length = ml at *
    clear hml
    go_wp2_with fail
    refine (without_c _ _ _ (putL xs v) _ _ hs1 hpl).mono ?_
    rw [HW1.out]
    rintro e w2 ⟨v2, rfl, ho2, B2'⟩
    obtain ⟨a2, c2, rfl, hs2⟩ := ho2.sl hbd.out
    have B2 := B1.trans (B2'.mono B1.size)
    have hs1 := hs1.below B2'
    clear ho2
    go_wp2_with fail
    refine (without_c _ _ _ xs _ _ (ha.below B2) (by omega)).mono ?_
    rw [HW2.out]
    rintro e w3 ⟨v3, rfl, ho3, B3'⟩
    obtain ⟨a3, c3, rfl, hs3⟩ := ho3.sl hbd.out
    have B3 := B2.trans (B3'.mono B2.size)
    have hs1 := hs1.below B3'
    have hs2 := hs2.below B3'
    clear ho3
    generalize hdl : (dropL xs v).length = dl at *
    clear hdl
    go_wp2_with fail
    refine (shown_with _).mono ?_
    rintro e w4 ⟨rfl, B4'⟩
    have B4 := B3.trans (B4'.mono B3.size)
    have hs1 := hs1.below B4'
    have hs2 := hs2.below B4'
    have hs3 := hs3.below B4'
    go_wp2_with fail
    refine (shown_without _).mono ?_
    rintro e w5 ⟨rfl, B5'⟩
    have B5 := B4.trans (B5'.mono B4.size)
    have hs1 := hs1.below B5'
    have hs2 := hs2.below B5'
    have hs3 := hs3.below B5'
    go_wp2_with fail
    refine (is_any _ _ _ (putL xs v) _ hs1).mono ?_
    rw [HI.out]
    rintro e w6 ⟨rfl, q, rfl⟩
    go_wp2_with fail
    refine (has_any _ _ _ (putL xs v) _ _ (hs1.drewN _)).mono ?_
    rw [HH1.out]
    rintro e w6 ⟨rfl, rfl⟩
    go_wp2_with fail
    refine (has_any _ _ _ (dropL xs v) _ _ (hs2.drewN _)).mono ?_
    rw [HH2.out]
    rintro e w6 ⟨rfl, rfl⟩
    go_wp2_with fail
    refine (same_any _ _ _ _ _ _ (dropL xs v) (dropL xs v) _ (hs2.drewN _) (hs3.drewN _)).mono ?_
    rw [hee.out]
    rintro e w6 ⟨rfl, q2, rfl⟩
    go_wp2_with fail
    go_ret
    exact ⟨rfl, bdrewN B5 _⟩
end Go.Proofs.Ytfioogmjhfdjhaa
