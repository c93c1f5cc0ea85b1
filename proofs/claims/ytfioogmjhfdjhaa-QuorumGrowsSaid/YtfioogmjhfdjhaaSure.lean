/- The contract of quorum.Sure, out of the shelf's slices.SortFunc. Condition: a row of at most 2^40 numbers. -/
import Derived.Test.YtfioogmjhfdjhaaSort
import Derived.Test.YtfioogmjhfdjhaaQuorumLaw
import Derived.Laws.EntriesVeiled
namespace Go.Proofs.Ytfioogmjhfdjhaa
open Go.RowKit Go.Sort
set_option linter.unusedVariables false
def cmpD (x y : Int) : Int := if y < x then -1 else if x < y then 1 else 0
theorem ltD (x y : Int) : ltOf cmpD x y = decide (y < x) := by
  unfold ltOf cmpD
  by_cases h1 : y < x
  · simp [h1]
  · by_cases h2 : x < y <;> simp [h1, h2]
theorem swoD : SWO (ltOf cmpD) where
  irrefl x := by rw [ltD]; simp
  trans x y z h1 h2 := by rw [ltD] at *; simp at *; omega
  ntrans x y z h1 h2 := by rw [ltD] at *; simp at *; omega
theorem falls1_any (x y : Int) (w : World) :
    Calls Try.prog 62 #[.int .i64 x, .int .i64 y] w fun e w' => e = .returned (.int .i64 (cmpD x y)) ∧ w = w' := by
  unfold cmpD
  by_cases h1 : y < x
  · rw [if_pos h1]
    go_enter Try.func62, Try.ntmps62
    go_wp2
    go_ret
    exact ⟨rfl, rfl⟩
  · rw [if_neg h1]
    by_cases h2 : x < y
    · rw [if_pos h2]
      go_enter Try.func62, Try.ntmps62
      go_wp2
      go_ret
      exact ⟨rfl, rfl⟩
    · rw [if_neg h2]
      go_enter Try.func62, Try.ntmps62
      go_wp2
      go_ret
      exact ⟨rfl, rfl⟩
def descL (xs : List Int) : List Int := xs.mergeSort fun x y => !(ltOf cmpD) y x
theorem sortFunc_own (base : Nat) (a : Option Addr) (n c : Nat) (xs : List Int) (w : World) (ho : OwnI base w (.slice a n c) xs) (hl : n < 4611686018427387904) :
    Calls Try.prog 54 #[.slice a n c, .func (.func 62) #[] #[]] w (SortPost base w (.slice a n c) (descL xs)) := by
  have eg : ∀ args w, (callFunc 62 args).run Try.prog w = .ok (.enter 62 args) w := enters_of Try.func62 (by kernel_rfl) rfl
  by_cases h0 : xs = []
  · subst h0
    have hn : n = 0 := by
      obtain ⟨h1, ⟨hh, h2⟩ | ⟨g, cap, cur, hv, hg, hh, r⟩⟩ := ho
      · simp at hh; omega
      · simp at hv; omega
    subst hn
    have hcon := AnyF.slices_SortFunc_none { Try.laysSortF with } a c (.func (.func 62) #[] #[]) w
    change Calls Try.prog 54 _ _ _ at hcon
    refine hcon.mono ?_
    rintro e w' ⟨rfl, rfl⟩
    exact ⟨rfl, by simpa [descL] using ho, World.grownBy.refl _ _⟩
  · cases a with
    | none => exfalso
              obtain ⟨h1, ⟨hh, h2⟩ | ⟨g, cap, cur, hv, _⟩⟩ := ho
              · exact h0 (List.eq_nil_of_length_eq_zero h2)
              · simp at hv
    | some ad =>
      obtain ⟨h1, ⟨hh, h2⟩ | ⟨g, cap, cur, hv, hg, hh, hle, hm, hs, ht⟩⟩ := ho
      · simp at hh
      · simp only [Value.slice.injEq, Option.some.injEq] at hv
        obtain ⟨rfl, rfl, rfl⟩ := hv
        rw [Nat.mul_one] at ht
        have hH := holds_of_blockI hh ht
        have hcmp : CmpReads Try.prog 62 #[] (Value.int .i64) cmpD g 0 xs.toArray.size w := fun m os dk _ x y => (falls1_any x y _).mono fun e w' ⟨he, hw⟩ => ⟨he, 0, by rw [← hw]; rfl⟩
        have hcon := Any.slices_SortFunc_total Try.laysSortF (Value.int .i64) (fun _ => rfl) cmpD swoD 62 #[] g 0 c xs.toArray w eg hcmp.lays hH (Array.getElem?_eq_some_iff.1 hh).1 (by simpa using hl) (fun x y h1 h2 => by rw [ltD] at *; simp at *; omega)
        change Calls Try.prog 54 _ _ _ at hcon
        rw [List.size_toArray] at hcon
        refine hcon.mono ?_
        rintro e w' ⟨rfl, n, os, rfl⟩
        have e1 : (descL xs).length = xs.length := by simp [descL]
        have := ownsRow_sortedI (n := n) (os := os) (ss := xs) (ts := descL xs) e1 hg hh hle hm hs
        refine ⟨rfl, ?_, ?_⟩
        · show World.ownsRow _ _ _ _ _ _ _
          rw [e1]; exact this
        · exact grownBy_sortedI (n := n) (os := os) (descL xs).toArray
theorem falls_any (w : World) :
    Calls Try.prog 55 #[] w fun e w' => e = .returned (.agg #[.func (.func 62) #[] #[]]) ∧ Below w.heap.size w w' := by
  go_enter Try.func55, Try.ntmps55
  go_wp2
  refine bodyPost_ret (v := .agg #[.func (.func 62) #[] #[]]) (by simp [results, Try.results55, go_sem]) rfl ⟨rfl, ?_⟩
  exact (Below.refl _ _).alloc (Nat.le_refl _) _
/-- the number that a majority has at least -/
def sureL (xs : List Int) : Int := el (descL xs) (xs.length / 2)
theorem sure_nil (a : Option Addr) (c : Nat) (w : World) : Calls Try.prog 35 #[.slice a 0 c] w fun e w' => e = .returned (.tuple #[.int .i64 0, .int .i64 1]) ∧ w = w' := by
  go_enter Try.func35, Try.ntmps35
  go_wp2
  go_ret2
  exact ⟨rfl, rfl⟩
theorem descL_bd {xs : List Int} (h : ∀ x ∈ xs, -9223372036854775808 ≤ x ∧ x ≤ 9223372036854775807) : ∀ x ∈ descL xs, -9223372036854775808 ≤ x ∧ x ≤ 9223372036854775807 :=
  fun x hx => h x ((List.mergeSort_perm xs _).mem_iff.1 hx)
theorem sure_any (a : Option Addr) (n c : Nat) (xs : List Int) (w : World) (ha : IntSl w a n xs) (hn : n ≤ 1099511627776) (hp : 0 < n) :
    Calls Try.prog 35 #[.slice a n c] w fun e w' => e = .returned (.tuple #[.int .i64 (sureL xs), .int .i64 0]) ∧ Below w.heap.size w w' := by
  have hm := ha.mx
  have hbd := Lib.hid ha.bd
  have hlen := Lib.hid ha.len
  have hdl := Lib.hid (show (descL xs).length = n by simp [descL, ha.len])
  have t1 : ((n : Int) == 0) = false := by simp; omega
  have hsu := Lib.hid (show el (descL xs) (n / 2) = sureL xs by unfold sureL; rw [ha.len])
  go_enter Try.func35, Try.ntmps35
  go_wp2_with fail
  refine (clone2_any _ _ _ xs _ ha hn).mono ?_
  rintro e w1 ⟨v1, rfl, ho1, B1⟩
  obtain ⟨a1, c1, rfl, hs1⟩ := ho1.sl hbd.out
  rw [hlen.out] at ho1
  have HO1 := Lib.hid ho1
  have z1 := B1.size
  clear ho1 hs1
  have hl2 : xs.length = n := hlen.out
  clear hl2
  rw [hlen.out]
  go_wp2_with fail
  have hfld : ∀ w, (Instr.field 53 (.agg #[.func (.func 62) #[] #[]]) 0).run Try.prog w = .ok (.func (.func 62) #[] #[]) w := fun _ => by kernel_rfl
  refine (falls_any _).mono ?_
  rintro e w2 ⟨rfl, B2'⟩
  have B2 := B1.trans (B2'.mono B1.size)
  have HO2 := Lib.hid (HO1.out.below B2' (Nat.le_refl _))
  go_wp2_with fail
  refine (sortFunc_own w.heap.size _ _ _ xs _ HO2.out (by omega)).mono ?_
  rintro e w3 ⟨rfl, ho3, hg3⟩
  have B3 := HO2.out.bel B2 hg3 B2.size
  obtain ⟨a3, c3, ev, hs3⟩ := ho3.sl (descL_bd hbd.out)
  rw [hdl.out] at ev hs3
  obtain ⟨rfl, rfl⟩ : a1 = a3 ∧ c1 = c3 := by simpa using ev
  clear ev ho3 hg3
  obtain ⟨ba, oa, rfl, hba, hca⟩ := hs3.row hp
  have hcell : w3.cell? ⟨ba, oa + n / 2, none⟩ = some (.int .i64 (sureL xs)) := by rw [← hsu.out]; exact hca (n / 2) (by omega)
  clear hca
  go_wp2_with fail
  refine (maj_hi _ _ (by omega) (by omega)).mono ?_
  rintro e w4 ⟨rfl, rfl⟩
  have q1 : (0 : Int) ≤ (n : Int) / 2 := by omega
  have q2 : (n : Int) / 2 < (n : Int) := by omega
  go_wp2_with fail
  go_ret2
  exact ⟨rfl, B3⟩
def geCnt (xs : List Int) (x : Int) : Nat := xs.countP fun y => decide (x ≤ y)
theorem ge_at {x : Int} : ∀ {d : List Int}, d.Pairwise (fun a b => b ≤ a) → ∀ {j : Nat} (hj : j < d.length), x ≤ d[j] ↔ j < geCnt d x
  | y :: l, h, j, hj => by
    have h' := List.pairwise_cons.1 h
    have hz : ¬ x ≤ y → geCnt l x = 0 := by
      intro hxy
      unfold geCnt
      rw [List.countP_eq_zero]
      intro z hz
      have := h'.1 z hz
      simp; omega
    by_cases hxy : x ≤ y
    · have e : geCnt (y :: l) x = geCnt l x + 1 := by simp [geCnt, hxy]
      rw [e]
      cases j with
      | zero => simp [hxy]
      | succ j =>
        have := ge_at (x := x) h'.2 (j := j) (by simpa using hj)
        simp only [List.getElem_cons_succ]
        rw [this]; omega
    · have e : geCnt (y :: l) x = 0 := by
        have : geCnt (y :: l) x = geCnt l x := by simp [geCnt, hxy]
        rw [this, hz hxy]
      rw [e]
      cases j with
      | zero => simp [hxy]
      | succ j =>
        have hjl : j < l.length := by simpa using hj
        have := h'.1 l[j] (List.getElem_mem _)
        simp only [List.getElem_cons_succ]
        omega
theorem descL_sorted (xs : List Int) : (descL xs).Pairwise (fun a b => b ≤ a) := by
  have := List.pairwise_mergeSort (le := fun x y : Int => !(ltOf cmpD) y x) (fun a b c => by simp only [ltD]; simp; omega) (fun a b => by simp only [ltD]; simp; omega) xs
  exact this.imp (fun {a b} h => by simp only [ltD] at h; simpa using h)
theorem geCnt_desc (xs : List Int) (x : Int) : geCnt (descL xs) x = geCnt xs x := (List.mergeSort_perm xs _).countP_eq _
theorem le_sure {xs : List Int} {n : Nat} (hn : xs.length = n) (hp : 0 < n) (x : Int) : x ≤ sureL xs ↔ n < 2 * geCnt xs x := by
  have hl : (descL xs).length = n := by simp [descL, hn]
  have hj : n / 2 < (descL xs).length := by omega
  unfold sureL
  rw [hn, el_get hj, ge_at (descL_sorted xs) hj, geCnt_desc]
  omega
theorem sure_mem {xs : List Int} {n : Nat} (hn : xs.length = n) (hp : 0 < n) : ∃ i, i < n ∧ el xs i = sureL xs := by
  have hl : (descL xs).length = n := by simp [descL, hn]
  have hj : n / 2 < (descL xs).length := by omega
  have hm : sureL xs ∈ xs := by
    unfold sureL
    rw [hn, el_get hj]
    exact (List.mergeSort_perm xs _).mem_iff.1 (List.getElem_mem hj)
  obtain ⟨i, hi, e⟩ := List.mem_iff_getElem.1 hm
  exact ⟨i, by omega, by rw [el_get hi, e]⟩
theorem geTo_succ {xs : List Int} {x : Int} {j : Nat} (hj : j < xs.length) : geCnt (xs.take (j + 1)) x = geCnt (xs.take j) x + (decide (x ≤ el xs j)).toNat := by
  rw [take_succ_el hj]
  unfold geCnt
  rw [List.countP_append]
  by_cases h : x ≤ el xs j <;> simp [h]
theorem geTo_le (xs : List Int) (x : Int) (j : Nat) : geCnt (xs.take j) x ≤ j := by
  unfold geCnt
  have h1 := List.countP_le_length (p := fun y => decide (x ≤ y)) (l := xs.take j)
  have h2 : (xs.take j).length ≤ j := List.length_take_le _ _
  omega
/-- what the reference has found among the first i -/
structure BestTo (xs : List Int) (s : Int) (i : Nat) (best : Int) (found : Bool) : Prop where
  yes : found = true → best ≤ s ∧ ∀ j, j < i → el xs j ≤ s → el xs j ≤ best
  no : found = false → ∀ j, j < i → s < el xs j
theorem BestTo.pass {xs : List Int} {s : Int} {i : Nat} {best : Int} {found : Bool} (h : BestTo xs s i best found) (hs : s < el xs i) : BestTo xs s (i + 1) best found :=
  ⟨fun e => ⟨(h.yes e).1, fun j hj hle => by
    by_cases k : j = i
    · subst k; omega
    · exact (h.yes e).2 j (by omega) hle⟩, fun e j hj => by
    by_cases k : j = i
    · subst k; exact hs
    · exact h.no e j (by omega)⟩
theorem BestTo.low {xs : List Int} {s : Int} {i : Nat} {best : Int} (h : BestTo xs s i best true) (hs : el xs i ≤ best) : BestTo xs s (i + 1) best true :=
  ⟨fun e => ⟨(h.yes e).1, fun j hj hle => by
    by_cases k : j = i
    · subst k; exact hs
    · exact (h.yes e).2 j (by omega) hle⟩, fun e => by cases e⟩
theorem BestTo.new {xs : List Int} {s : Int} {i : Nat} {best : Int} {found : Bool} (h : BestTo xs s i best found) (hs : el xs i ≤ s) (hn : found = false ∨ best < el xs i) : BestTo xs s (i + 1) (el xs i) true :=
  ⟨fun e => ⟨hs, fun j hj hle => by
    by_cases k : j = i
    · subst k; exact Int.le_refl _
    · cases found with
      | false => have := h.no rfl j (by omega); omega
      | true => have := (h.yes rfl).2 j (by omega) hle; have := hn.resolve_left (by simp); omega⟩, fun e => by cases e⟩
theorem BestTo.last {xs : List Int} {n : Nat} {best : Int} {found : Bool} (hn : xs.length = n) (hp : 0 < n) (h : BestTo xs (sureL xs) n best found) : best = sureL xs := by
  obtain ⟨i, hi, e⟩ := sure_mem hn hp
  cases found with
  | false => have := h.no rfl i hi; omega
  | true => have h1 := h.yes rfl; have := h1.2 i hi (by omega); omega
set_option maxRecDepth 100000 in
set_option maxHeartbeats 1000000 in
theorem rsure_any (a : Option Addr) (n c : Nat) (xs : List Int) (w : World) (ha : IntSl w a n xs) (hn : n ≤ 1099511627776) (hp : 0 < n) :
    Calls Try.prog 36 #[.slice a n c] w fun e w' => e = .returned (.tuple #[.int .i64 (sureL xs), .int .i64 0]) ∧ Below w.heap.size w w' := by
  have hm := ha.mx
  have hlen := Lib.hid ha.len
  have t1 : ((n : Int) == 0) = false := by simp; omega
  have HLE := Lib.hid (le_sure ha.len hp)
  have HLast := Lib.hid (fun best found => BestTo.last (best := best) (found := found) ha.len hp)
  go_enter Try.func36, Try.ntmps36
  go_wp2_with fail
  go_loopw [4, 5, 6] (fun b f i wr => ∃ k : Nat, ∃ best : Int, ∃ fd : Bool, k ≤ n ∧ i = .int .i64 k ∧ b = .int .i64 best ∧ f = .bool fd ∧ -9223372036854775808 ≤ best ∧ best ≤ 9223372036854775807 ∧ BestTo xs (sureL xs) k best fd ∧ Dr w wr) (fun _ _ i _ => n - (intOf i).toNat)
  case atStart => exact ⟨0, 0, false, Nat.zero_le _, rfl, rfl, rfl, by omega, by omega, ⟨fun h => (by cases h), fun _ j h => absurd h (by omega)⟩, Dr.refl _⟩
  case round =>
    obtain ⟨k, best, fd, hk, rfl, rfl, rfl, hb1, hb2, hbt, q, rfl⟩ := hrel
    have HBT := Lib.hid hbt
    clear hbt
    by_cases hlt : k < n
    · have k0 : (0 : Int) ≤ (k : Int) := by omega
      have k1 : (k : Int) < (n : Int) := by omega
      obtain ⟨ba, oa, rfl, hba, hca⟩ := ha.row (by omega)
      have ck := hca k hlt
      have r1 := ha.lo k
      have r2 := ha.hi k
      have HCA := Lib.hid hca
      clear hca
      go_wp2_with fail
      go_loopw [7, 8] (fun t j wr => ∃ m : Nat, m ≤ n ∧ j = .int .i64 m ∧ t = .int .i64 (geCnt (xs.take m) (el xs k)) ∧ Dr w wr) (fun _ j _ => n - (intOf j).toNat)
      case atStart => exact ⟨0, Nat.zero_le _, rfl, by simp [geCnt], ⟨_, rfl⟩⟩
      case round =>
        obtain ⟨m, hmk, rfl, rfl, q2, rfl⟩ := hrel
        have hle := geTo_le xs (el xs k) m
        by_cases hlt2 : m < n
        · have m0 : (0 : Int) ≤ (m : Int) := by omega
          have m1 : (m : Int) < (n : Int) := by omega
          have cm := HCA.out m hlt2
          have hsc := geTo_succ (xs := xs) (x := el xs k) (j := m) (by rw [hlen.out]; exact hlt2)
          by_cases hv : el xs k ≤ el xs m
          · have hsc' : (geCnt (xs.take (m + 1)) (el xs k) : Int) = geCnt (xs.take m) (el xs k) + 1 := by rw [hsc]; simp [hv]
            have HSC := Lib.hid hsc'
            clear hsc hsc'
            go_wp2
            go_quiet (fail)
            go_wp2
            go_roundw
            case rel => exact ⟨m + 1, by omega, by go_num, by rw [HSC.out], by first | exact ⟨_, rfl⟩ | exact Dr.nn _ _ _⟩
            case measure => simp [intOf]; omega
          · have hsc' : (geCnt (xs.take (m + 1)) (el xs k) : Int) = geCnt (xs.take m) (el xs k) := by rw [hsc]; simp [hv]
            have HSC := Lib.hid hsc'
            have hv' : ¬ el xs k ≤ el xs m := hv
            clear hsc hsc'
            go_wp2
            go_quiet (fail)
            go_wp2
            go_roundw
            case rel => exact ⟨m + 1, by omega, by go_num, by rw [HSC.out], by first | exact ⟨_, rfl⟩ | exact Dr.nn _ _ _⟩
            case measure => simp [intOf]; omega
        · have m1 : ¬ (m : Int) < (n : Int) := by omega
          obtain rfl : m = n := by omega
          have htk : xs.take m = xs := List.take_of_length_le (by rw [hlen.out]; exact Nat.le_refl _)
          rw [htk] at hle ⊢
          have HL := HLE.out (el xs k)
          clear htk hlt2 hmk
          generalize hgc : geCnt xs (el xs k) = gc at *
          clear hgc
          by_cases hgt : m < 2 * gc
          · have hse := HL.2 hgt
            have hen : decide ((m : Int) - (gc : Int) < (gc : Int)) = true := by simp; omega
            have HEN := Lib.hid hen
            clear hen HL
            cases fd with
            | false =>
              have hnew := Lib.hid (HBT.out.new hse (.inl rfl))
              clear hse
              go_wp2_with fail
              refine (enough_any _ _ true _ (by omega) (by omega) (by omega) HEN.out).mono ?_
              rintro e w2 ⟨rfl, rfl⟩
              go_wp2_with fail
              go_roundw
              case rel => exact ⟨k + 1, _, true, by omega, by go_num, rfl, rfl, r1, r2, hnew.out, by first | exact ⟨_, rfl⟩ | exact Dr.nn _ _ _⟩
              case measure => simp [intOf]; omega
            | true =>
              by_cases hbe : best < el xs k
              · have hnew := Lib.hid (HBT.out.new hse (.inr hbe))
                clear hse
                go_wp2_with fail
                refine (enough_any _ _ true _ (by omega) (by omega) (by omega) HEN.out).mono ?_
                rintro e w2 ⟨rfl, rfl⟩
                go_wp2_with fail
                go_roundw
                case rel => exact ⟨k + 1, _, true, by omega, by go_num, rfl, rfl, r1, r2, hnew.out, by first | exact ⟨_, rfl⟩ | exact Dr.nn _ _ _⟩
                case measure => simp [intOf]; omega
              · have hnew := Lib.hid (HBT.out.low (by omega))
                clear hse
                go_wp2_with fail
                refine (enough_any _ _ true _ (by omega) (by omega) (by omega) HEN.out).mono ?_
                rintro e w2 ⟨rfl, rfl⟩
                go_wp2_with fail
                go_roundw
                case rel => exact ⟨k + 1, _, true, by omega, by go_num, rfl, rfl, hb1, hb2, hnew.out, by first | exact ⟨_, rfl⟩ | exact Dr.nn _ _ _⟩
                case measure => simp [intOf]; omega
          · have hse : sureL xs < el xs k := by have := mt HL.1 hgt; omega
            have hnew := Lib.hid (HBT.out.pass hse)
            have hen : decide ((m : Int) - (gc : Int) < (gc : Int)) = false := by simp; omega
            have HEN := Lib.hid hen
            clear hen HL hse
            go_wp2_with fail
            refine (enough_any _ _ false _ (by omega) (by omega) (by omega) HEN.out).mono ?_
            rintro e w2 ⟨rfl, rfl⟩
            go_wp2_with fail
            go_roundw
            case rel => exact ⟨k + 1, _, fd, by omega, by go_num, rfl, rfl, hb1, hb2, hnew.out, by first | exact ⟨_, rfl⟩ | exact Dr.nn _ _ _⟩
            case measure => simp [intOf]; omega
    · have k1 : ¬ (k : Int) < (n : Int) := by omega
      obtain rfl : k = n := by omega
      have hl := Lib.hid (HLast.out _ _ HBT.out)
      go_wp2
      go_ret2
      exact ⟨by rw [hl.out]; rfl, Dr.below ⟨_, rfl⟩ _⟩
theorem rsure_nil (a : Option Addr) (c : Nat) (w : World) : Calls Try.prog 36 #[.slice a 0 c] w fun e w' => e = .returned (.tuple #[.int .i64 0, .int .i64 1]) ∧ w = w' := by
  go_enter Try.func36, Try.ntmps36
  go_wp2
  go_ret2
  exact ⟨rfl, rfl⟩
theorem shown_sure (w : World) : Calls Try.prog 37 #[] w fun e w' => e = .returned (.bool true) ∧ Below w.heap.size w w' := by
  have hs : sureL [5, 1, 3] = 3 := by
    have h1 := (le_sure (xs := [5, 1, 3]) (n := 3) rfl (by omega) 3).2 (by decide)
    have h2 := mt (le_sure (xs := [5, 1, 3]) (n := 3) rfl (by omega) 4).1 (by decide)
    omega
  have HS := Lib.hid hs
  clear hs
  go_enter Try.func37, Try.ntmps37
  go_wp2_with fail
  refine (sure_any _ _ _ [5, 1, 3] _ (by exact IntSl.lit w [5, 1, 3] _ (by simp) (by simp)) (by omega) (by omega)).mono ?_
  rw [HS.out]
  rintro e w1 ⟨rfl, B1⟩
  go_wp2_with fail
  go_ret
  exact ⟨rfl, ((Below.refl w.heap.size w).alloc (Nat.le_refl _) _).trans (B1.mono (by simp))⟩
end Go.Proofs.Ytfioogmjhfdjhaa
