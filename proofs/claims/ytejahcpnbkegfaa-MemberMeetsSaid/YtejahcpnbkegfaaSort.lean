/- The library's sort and Compact at a row of the call's own, out of the shelf's contracts. Condition: fewer than 2^43 numbers. -/
import Derived.Test.YtejahcpnbkegfaaConcat
import Derived.Test.YtejahcpnbkegfaaShelf
import Derived.Sort.OwnSortedInts
import Derived.Lib.OwnBridge
namespace Go.Proofs.Ytejahcpnbkegfaa
open Go.RowKit
set_option linter.unusedVariables false
def sortL (xs : List Int) : List Int := xs.mergeSort fun x y => decide (x ≤ y)
def SortPost (base : Nat) (w : World) (v : Value) (l : List Int) (e : Ending) (w' : World) : Prop := e = .returned (.tuple #[]) ∧ OwnI base w' v l ∧ w.grownBy w' v.ownBlock
theorem sort_own (base : Nat) (a : Option Addr) (n c : Nat) (xs : List Int) (w : World) (ho : OwnI base w (.slice a n c) xs) (hl : n < 4611686018427387904) :
    Calls Try.prog 53 #[.slice a n c] w (SortPost base w (.slice a n c) (sortL xs)) := by
  by_cases h0 : xs = []
  · subst h0
    have hn : n = 0 := by
      obtain ⟨h1, ⟨hh, h2⟩ | ⟨g, cap, cur, hv, hg, hh, r⟩⟩ := ho
      · simp at hh; omega
      · simp at hv; omega
    subst hn
    refine (Try.slices_Sort_int_none a c w).mono ?_
    rintro e w' ⟨rfl, rfl⟩
    exact ⟨rfl, by simpa [sortL] using ho, World.grownBy.refl _ _⟩
  · cases a with
    | none => exfalso
              obtain ⟨h1, ⟨hh, h2⟩ | ⟨g, cap, cur, hv, _⟩⟩ := ho
              · exact h0 (List.eq_nil_of_length_eq_zero h2)
              · simp at hv
    | some ad =>
      have ho' := ho
      obtain ⟨h1, ⟨hh, h2⟩ | ⟨g, cap, cur, hv, hg, hh, hle, hm, hs, ht⟩⟩ := ho
      · simp at hh
      · simp only [Value.slice.injEq, Option.some.injEq] at hv
        obtain ⟨rfl, rfl, rfl⟩ := hv
        rw [Nat.mul_one] at ht
        have hH := holds_of_blockI hh ht
        refine (Try.slices_Sort_int g 0 c xs w hH (Array.getElem?_eq_some_iff.1 hh).1 hl).mono ?_
        rintro e w' ⟨rfl, n, os, rfl⟩
        refine ⟨rfl, ?_, grownBy_sortedI _⟩
        have e1 : (sortL xs).length = xs.length := by simp [sortL]
        have := ownsRow_sortedI (n := n) (os := os) (ss := xs) (ts := sortL xs) e1 hg hh hle hm hs
        show World.ownsRow _ _ _ _ _ _ _
        rw [e1]; exact this
def CutPost (base : Nat) (w : World) (v : Value) (l : List Int) (e : Ending) (w' : World) : Prop := ∃ v', e = .returned v' ∧ OwnI base w' v' l ∧ w.grownBy w' v.ownBlock
theorem compact_own (base : Nat) (a : Option Addr) (n c : Nat) (xs : List Int) (w : World) (ho : OwnI base w (.slice a n c) xs) (hl : n ≤ 9223372036854775807) :
    Calls Try.prog 54 #[.slice a n c] w (CutPost base w (.slice a n c) (Lib.compact xs)) := by
  by_cases h0 : xs = []
  · subst h0
    have hn : n = 0 := by
      obtain ⟨h1, ⟨hh, h2⟩ | ⟨g, cap, cur, hv, hg, hh, r⟩⟩ := ho
      · simp at hh; omega
      · simp at hv; omega
    subst hn
    refine (Try.slices_Compact_int_empty a c w).mono ?_
    rintro e w' ⟨rfl, rfl⟩
    exact ⟨_, rfl, ho, World.grownBy.refl _ _⟩
  · cases a with
    | none => exfalso
              obtain ⟨h1, ⟨hh, h2⟩ | ⟨g, cap, cur, hv, _⟩⟩ := ho
              · exact h0 (List.eq_nil_of_length_eq_zero h2)
              · simp at hv
    | some ad =>
      have ho' := ho
      obtain ⟨h1, ⟨hh, h2⟩ | ⟨g, cap, cur, hv, hg, hh, hle, hm, hs, ht⟩⟩ := ho
      · simp at hh
      · simp only [Value.slice.injEq, Option.some.injEq] at hv
        obtain ⟨rfl, rfl, rfl⟩ := hv
        rw [Nat.mul_one] at ht
        have hH := holds_of_blockI hh ht
        refine (Try.slices_Compact_int g 0 c xs w hH hl hle).mono ?_
        rintro e w' ⟨rfl, q, rfl⟩
        have hcl := Lib.compact_length_le xs
        have hlen : (Lib.compact xs ++ List.replicate (xs.length - (Lib.compact xs).length) 0).length = xs.length := by simp; omega
        refine ⟨_, rfl, ?_, grownBy_sortedI (n := q) (os := #[]) _⟩
        have := Lib.ownsRow_putRow (q := q) ho' hlen hcl
        rw [List.take_left] at this
        exact this
/-- the numbers of a row, sorted, each once -/
def mergeL (xs : List Int) : List Int := Lib.compact (sortL xs)
theorem sortL_bd {xs : List Int} (h : ∀ x ∈ xs, -9223372036854775808 ≤ x ∧ x ≤ 9223372036854775807) : ∀ x ∈ sortL xs, -9223372036854775808 ≤ x ∧ x ≤ 9223372036854775807 :=
  fun x hx => h x ((List.mergeSort_perm xs _).mem_iff.1 hx)
theorem compact_mem {xs : List Int} {x : Int} (h : x ∈ Lib.compact xs) : x ∈ xs := by
  unfold Lib.compact Lib.compactUpTo at h
  obtain ⟨i, hi, e⟩ := List.mem_map.1 h
  have h2 := (List.mem_filter.1 hi).1
  rw [List.mem_range] at h2
  rw [← e, getElem!_pos _ _ (by simpa using h2)]
  simp
theorem merged_yes (gr : Nat) (a : Option Addr) (n ca : Nat) (xs : List Int) (b : Option Addr) (m cb : Nat) (ys : List Int) (w : World)
    (h0 : w.cell? ⟨gr, 0, none⟩ = some (.slice a n ca)) (h1 : w.cell? ⟨gr, 1, none⟩ = some (.slice b m cb)) (hgr : gr < w.heap.size) (ha : IntSl w a n xs) (hb : IntSl w b m ys) (hna : a = none → ca = 0) (hnb : b = none → cb = 0) (hn : n ≤ 1099511627776) (hm : m ≤ 1099511627776) (code : Int) (l : List Int)
    (hcl : ((mergeL (xs ++ ys)).length ≤ 16 ∧ code = 0 ∧ l = mergeL (xs ++ ys)) ∨ (16 < (mergeL (xs ++ ys)).length ∧ code = 2 ∧ l = [])) :
    Calls Try.prog 41 #[.slice (some ⟨gr, 0, none⟩) 2 2] w (SetPost w code l) := by
  have hbd : ∀ x ∈ xs ++ ys, -9223372036854775808 ≤ x ∧ x ≤ 9223372036854775807 := by
    intro x hx
    rcases List.mem_append.1 hx with h | h
    · exact ha.bd x h
    · exact hb.bd x h
  have hlx : (xs ++ ys).length = n + m := by simp [ha.len, hb.len]
  have hls : (sortL (xs ++ ys)).length = n + m := by simp [sortL, ha.len, hb.len]
  have HLX := Lib.hid hlx
  have HLS := Lib.hid hls
  have hbs := sortL_bd hbd
  have hcc := concat2_any gr a n ca xs b m cb ys w h0 h1 hgr ha hb hna hnb hn hm
  generalize hz : xs ++ ys = zs at *
  have hbc : (mergeL zs).length ≤ n + m := by have := Lib.compact_length_le (sortL zs); unfold mergeL; omega
  have hbm : ∀ x ∈ mergeL zs, -9223372036854775808 ≤ x ∧ x ≤ 9223372036854775807 := fun x hx => hbs x (compact_mem hx)
  have HCL := Lib.hid hcl
  clear hlx hls hz h0 h1 hcl
  go_enter Try.func41, Try.ntmps41
  go_wp2_with fail
  refine hcc.mono ?_
  rintro e w1 ⟨v1, rfl, ho1, hb1⟩
  obtain ⟨a1, c1, rfl, hs1⟩ := ho1.sl hbd
  have z1 := hb1.size
  have HO1 := Lib.hid ho1
  have HB1 := Lib.hid hb1
  have hz63 : zs.length < 4611686018427387904 := by have := HLX.out; omega
  clear hs1 ho1 hb1
  go_wp2_with fail
  refine (sort_own w.heap.size _ _ _ zs _ HO1.out hz63).mono ?_
  rintro e w2 ⟨rfl, ho2, hg2⟩
  have HB2 := Lib.hid (HO1.out.bel HB1.out hg2 z1)
  have z2 := HB2.out.size
  have HO2 := Lib.hid ho2
  clear ho2 hg2
  have hz64 : zs.length ≤ 9223372036854775807 := by omega
  go_wp2_with fail
  refine (compact_own w.heap.size _ _ _ (sortL zs) _ HO2.out hz64).mono ?_
  rintro e w3 ⟨v3, rfl, ho3, hg3⟩
  have HB3 := Lib.hid (HO2.out.bel HB2.out hg3 z2)
  obtain ⟨a3, c3, rfl, hs3⟩ := OwnI.sl (xs := mergeL zs) ho3 hbm
  have HO3 : Hid (OwnI w.heap.size w3 (.slice a3 (mergeL zs).length c3) (mergeL zs)) := ho3
  have hl3 : (Lib.compact (sortL zs)).length = (mergeL zs).length := rfl
  clear ho3 hg3 hs3 hl3
  rcases HCL.out with ⟨h16, rfl, rfl⟩ | ⟨h16, rfl, rfl⟩
  · have t1 : ¬ (16 : Int) < ((mergeL zs).length : Int) := by omega
    generalize hml : (mergeL zs).length = ml at *
    clear hml
    go_wp2_with fail
    go_ret2
    exact ⟨_, rfl, HO3.out, HB3.out⟩
  · have t1 : (16 : Int) < ((mergeL zs).length : Int) := by omega
    generalize hml : (mergeL zs).length = ml at *
    clear hml
    go_wp2_with fail
    go_ret2
    exact ⟨_, rfl, OwnI.nil _ _, HB3.out⟩
end Go.Proofs.Ytejahcpnbkegfaa
