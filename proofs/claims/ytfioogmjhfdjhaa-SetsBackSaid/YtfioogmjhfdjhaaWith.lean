/- The contracts of sets.With, Without, Both, Common and of the references'. Condition: rows of at most 2^40 numbers. -/
import Derived.Test.YtfioogmjhfdjhaaSetsLaw
namespace Go.Proofs.Ytfioogmjhfdjhaa
open Go.RowKit
set_option linter.unusedVariables false
noncomputable def withoutR (xs : List Int) (v : Int) : Int × List Int := if isB xs then (0, dropL xs v) else (1, [])
noncomputable def cutR (l : List Int) : Int × List Int := if l.length ≤ 16 then (0, l) else (2, [])
noncomputable def withR (xs : List Int) (v : Int) : Int × List Int := if isB xs then cutR (putL xs v) else (1, [])
noncomputable def bothR (xs ys : List Int) : Int × List Int := if isB xs = true ∧ isB ys = true then cutR (mergeL (xs ++ ys)) else (1, [])
noncomputable def commonR (xs ys : List Int) : Int × List Int := if isB xs = true ∧ isB ys = true then (0, xs.filter (hasB ys)) else (1, [])
theorem cutR_or (l : List Int) : (l.length ≤ 16 ∧ (cutR l).1 = 0 ∧ (cutR l).2 = l) ∨ (16 < l.length ∧ (cutR l).1 = 2 ∧ (cutR l).2 = []) := by
  unfold cutR
  by_cases h : l.length ≤ 16
  · left; simp [h]
  · right; simp [h]; omega
theorem without_c (a : Option Addr) (n c : Nat) (xs : List Int) (v : Int) (w : World) (ha : IntSl w a n xs) (hn : n ≤ 1099511627776) :
    Calls Try.prog 31 #[.slice a n c, .int .i64 v] w (SetPost w (withoutR xs v).1 (withoutR xs v).2) := by
  unfold withoutR
  cases hi : isB xs
  · exact without_no a n c xs v w ha hn hi
  · exact without_yes a n c xs v w ha hn hi
theorem rwithout_c (a : Option Addr) (n c : Nat) (xs : List Int) (v : Int) (w : World) (ha : IntSl w a n xs) (hn : n ≤ 1099511627776) :
    Calls Try.prog 32 #[.slice a n c, .int .i64 v] w (SetPost w (withoutR xs v).1 (withoutR xs v).2) := by
  unfold withoutR
  cases hi : isB xs
  · exact rwithout_no a n c xs v w ha hn hi
  · exact rwithout_yes a n c xs v w ha hn hi
theorem with_no (a : Option Addr) (n c : Nat) (xs : List Int) (v : Int) (w : World) (ha : IntSl w a n xs) (hi : isB xs = false) :
    Calls Try.prog 38 #[.slice a n c, .int .i64 v] w (SetPost w 1 []) := by
  have HI := Lib.hid hi
  clear hi
  go_enter Try.func38, Try.ntmps38
  go_wp2_with fail
  refine (is_any _ _ _ xs _ ha).mono ?_
  rw [HI.out]
  rintro e w1 ⟨rfl, q, rfl⟩
  go_wp2_with fail
  go_ret2
  exact ⟨_, rfl, OwnI.nil _ _, bdrewN (Below.refl _ _) _⟩
theorem with_yes (a : Option Addr) (n c : Nat) (xs : List Int) (v : Int) (w : World) (ha : IntSl w a n xs) (hna : a = none → c = 0) (hn : n ≤ 1099511627776) (hv : -9223372036854775808 ≤ v ∧ v ≤ 9223372036854775807) (hi : isB xs = true) (code : Int) (l : List Int)
    (hcl : ((mergeL (xs ++ [v])).length ≤ 16 ∧ code = 0 ∧ l = mergeL (xs ++ [v])) ∨ (16 < (mergeL (xs ++ [v])).length ∧ code = 2 ∧ l = [])) :
    Calls Try.prog 38 #[.slice a n c, .int .i64 v] w (SetPost w code l) := by
  have HI := Lib.hid hi
  have HC := Lib.hid hcl
  have HV := Lib.hid hv
  clear hi hcl hv
  go_enter Try.func38, Try.ntmps38
  go_wp2_with fail
  refine (is_any _ _ _ xs _ ha).mono ?_
  rw [HI.out]
  rintro e w1 ⟨rfl, q, rfl⟩
  go_wp2_with fail
  refine (merged_yes (w.heap.size + 1) a n c xs (some ⟨w.heap.size, 0, none⟩) 1 1 [v] _ ?_ ?_ ?_ ?_ ?_ hna ?_ hn ?_ code l HC.out).mono ?_
  · exact World.cell?_alloc_at _ _ _ _ (by simp)
  · exact World.cell?_alloc_at _ _ _ _ (by simp)
  · simp
  · repeat (first | assumption | apply IntSl.drewN | apply IntSl.alloc)
  · have h1 := IntSl.lit w [v] 3 (by simp) (by simpa using HV.out)
    exact (h1.alloc _).drewN _
  · simp
  · omega
  rintro e w2 ⟨v2, rfl, ho2, hb2⟩
  go_wp2_with fail
  go_ret2
  have hs := hb2.size
  simp at hs
  exact ⟨_, rfl, ho2.mono (by simp; omega), (by repeat (first | exact Below.refl _ _ | refine bdrewN ?_ _ | refine Below.alloc ?_ (by simp <;> omega) _) : Below w.heap.size w _).trans (hb2.mono (by simp; omega))⟩
theorem with_c (a : Option Addr) (n c : Nat) (xs : List Int) (v : Int) (w : World) (ha : IntSl w a n xs) (hna : a = none → c = 0) (hn : n ≤ 1099511627776) (hv : -9223372036854775808 ≤ v ∧ v ≤ 9223372036854775807) :
    Calls Try.prog 38 #[.slice a n c, .int .i64 v] w (SetPost w (withR xs v).1 (withR xs v).2) := by
  unfold withR
  cases hi : isB xs
  · exact with_no a n c xs v w ha hi
  · have e := mergeL_put (v := v) (isB_asc.1 hi).1
    rw [if_pos rfl]
    exact with_yes a n c xs v w ha hna hn hv hi _ _ (by rw [e]; exact cutR_or _)
theorem rwith_no (a : Option Addr) (n c : Nat) (xs : List Int) (v : Int) (w : World) (ha : IntSl w a n xs) (hi : isB xs = false) :
    Calls Try.prog 39 #[.slice a n c, .int .i64 v] w (SetPost w 1 []) := by
  have HI := Lib.hid hi
  clear hi
  go_enter Try.func39, Try.ntmps39
  go_wp2_with fail
  refine (ris_any _ _ _ xs _ ha).mono ?_
  rw [HI.out]
  rintro e w1 ⟨rfl, q, rfl⟩
  go_wp2_with fail
  go_ret2
  exact ⟨_, rfl, OwnI.nil _ _, bdrewN (Below.refl _ _) _⟩
theorem rwith_yes (a : Option Addr) (n c : Nat) (xs : List Int) (v : Int) (w : World) (ha : IntSl w a n xs) (hn : n ≤ 1099511627776) (hv : -9223372036854775808 ≤ v ∧ v ≤ 9223372036854775807) (hi : isB xs = true) (code : Int) (l : List Int)
    (hcl : ((putL xs v).length ≤ 16 ∧ code = 0 ∧ l = putL xs v) ∨ (16 < (putL xs v).length ∧ code = 2 ∧ l = [])) :
    Calls Try.prog 39 #[.slice a n c, .int .i64 v] w (SetPost w code l) := by
  have HI := Lib.hid hi
  have HC := Lib.hid hcl
  have hpb := Lib.hid (putL_bd (fun i => ⟨ha.lo i, ha.hi i⟩) hv)
  clear hi hcl hv
  go_enter Try.func39, Try.ntmps39
  go_wp2_with fail
  refine (ris_any _ _ _ xs _ ha).mono ?_
  rw [HI.out]
  rintro e w1 ⟨rfl, q, rfl⟩
  go_wp2_with fail
  refine (put_any _ _ _ xs _ _ (ha.drewN _) hn).mono ?_
  rintro e w2 ⟨v2, rfl, ho2, hb2⟩
  obtain ⟨a2, c2, rfl, hs2⟩ := ho2.sl hpb.out
  have hm2 := hs2.mx
  have HO := Lib.hid ho2
  have HB := Lib.hid ((bdrewN (Below.refl w.heap.size w) q).trans hb2)
  clear hs2 ho2 hb2
  rcases HC.out with ⟨h16, rfl, rfl⟩ | ⟨h16, rfl, rfl⟩
  · have t1 : ¬ (16 : Int) < ((putL xs v).length : Int) := by omega
    generalize hml : (putL xs v).length = ml at *
    clear hml
    go_wp2_with fail
    go_ret2
    exact ⟨_, rfl, HO.out, HB.out⟩
  · have t1 : (16 : Int) < ((putL xs v).length : Int) := by omega
    generalize hml : (putL xs v).length = ml at *
    clear hml
    go_wp2_with fail
    go_ret2
    exact ⟨_, rfl, OwnI.nil _ _, HB.out⟩
theorem rwith_c (a : Option Addr) (n c : Nat) (xs : List Int) (v : Int) (w : World) (ha : IntSl w a n xs) (hn : n ≤ 1099511627776) (hv : -9223372036854775808 ≤ v ∧ v ≤ 9223372036854775807) :
    Calls Try.prog 39 #[.slice a n c, .int .i64 v] w (SetPost w (withR xs v).1 (withR xs v).2) := by
  unfold withR
  cases hi : isB xs
  · exact rwith_no a n c xs v w ha hi
  · rw [if_pos rfl]
    exact rwith_yes a n c xs v w ha hn hv hi _ _ (cutR_or _)
theorem withR_bd {xs : List Int} {v : Int} (hx : ∀ i, -9223372036854775808 ≤ el xs i ∧ el xs i ≤ 9223372036854775807) (hv : -9223372036854775808 ≤ v ∧ v ≤ 9223372036854775807) : ∀ x ∈ (withR xs v).2, -9223372036854775808 ≤ x ∧ x ≤ 9223372036854775807 := by
  unfold withR
  split
  · rcases cutR_or (putL xs v) with ⟨_, _, e⟩ | ⟨_, _, e⟩
    · rw [e]; exact putL_bd hx hv
    · rw [e]; simp
  · simp
theorem IntSl.rg {w : World} {a : Option Addr} {n : Nat} {xs : List Int} (h : IntSl w a n xs) : ∀ i, -9223372036854775808 ≤ el xs i ∧ el xs i ≤ 9223372036854775807 := fun i => ⟨h.lo i, h.hi i⟩
theorem shown_with (w : World) : Calls Try.prog 40 #[] w fun e w' => e = .returned (.bool true) ∧ Below w.heap.size w w' := by
  have hi : isB [1, 5] = true := isB_iff.2 ⟨fun i hi => by have : i = 0 := by simp at hi; omega
                                                           subst this; decide, by decide⟩
  have hp : putL [1, 5] 3 = [1, 3, 5] := by decide
  have hr : withR [1, 5] 3 = (0, [1, 3, 5]) := by unfold withR; rw [if_pos hi, hp]; rfl
  have HR := Lib.hid hr
  clear hi hr hp
  go_enter Try.func40, Try.ntmps40
  go_wp2_with fail
  refine (with_c _ _ _ [1, 5] _ _ (by exact IntSl.lit w [1, 5] _ (by simp) (by simp)) (by simp) (by omega) (by omega)).mono ?_
  rw [HR.out]
  rintro e w1 ⟨v1, rfl, ho1, hb1⟩
  obtain ⟨a1, c1, rfl, hs1⟩ := ho1.sl (by simp)
  have B1 := ((Below.refl w.heap.size w).alloc (Nat.le_refl _) (.cells #[.int .i64 1, .int .i64 5] 3)).trans (hb1.mono (by simp))
  have z1 := B1.size
  go_wp2_with fail
  refine (ints_any _ _ _ _ _ _ [1, 3, 5] [1, 3, 5] _ (hs1.alloc _) (by exact IntSl.lit w1 [1, 3, 5] _ (by simp) (by simp))).mono ?_
  rw [show eqB [1, 3, 5] [1, 3, 5] = true by decide]
  rintro e w2 ⟨rfl, q, rfl⟩
  go_wp2_with fail
  go_ret
  exact ⟨rfl, bdrewN (B1.alloc z1 _) _⟩
end Go.Proofs.Ytfioogmjhfdjhaa
