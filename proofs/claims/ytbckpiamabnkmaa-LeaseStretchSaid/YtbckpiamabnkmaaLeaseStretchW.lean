/- The walk of the law LeaseStretch: true for every two rows and two places. No condition but that the rows read as lists, and lie in their capacity. -/
import Derived.Test.YtbckpiamabnkmaaLeaseSteadyW
namespace Go.Proofs.Ytbckpiamabnkmaa
open Go.RowKit
set_option linter.unusedVariables false
set_option linter.unusedSimpArgs false
def CapOk (a : Option Addr) (n c : Nat) : Prop := (a = none → n = 0 ∧ c = 0) ∧ n ≤ c ∧ c ≤ 9223372036854775807
theorem IsRow.nilcap {k : IntKind} {w : World} {a : Option Addr} {n c : Nat} {zs : List Int} (h : IsRow k w a n c zs) : CapOk a n c := by
  rcases h with ⟨rfl, rfl, rfl, rfl⟩ | ⟨x, rfl, h1, h2, _⟩
  · exact ⟨fun _ => ⟨rfl, rfl⟩, by omega, by omega⟩
  · exact ⟨fun e => by simp at e, h1, by unfold maxLen at h2; omega⟩
def subL (ys : List Int) (f t : Nat) : List Int := (ys.take t).drop f
theorem subL_len {ys : List Int} {f t : Nat} (h2 : t ≤ ys.length) : (subL ys f t).length = t - f := by unfold subL; simp; omega
theorem subL_el {ys : List Int} {f t j : Nat} (h2 : t ≤ ys.length) (hj : f + j < t) : el (subL ys f t) j = el ys (f + j) := by
  unfold subL el
  simp [List.getD, hj]
theorem subL_cnt {ys : List Int} {f t : Nat} (h2 : t ≤ ys.length) (v : Int) : ∀ j, f + j ≤ t → cntTo (subL ys f t) v j = cntTo ys v (f + j) - cntTo ys v f
  | 0, _ => by simp [cntTo]
  | j + 1, h => by
    have ih := subL_cnt (f := f) h2 v j (by omega)
    rw [cntTo_succ (by rw [subL_len h2]; omega), ih, subL_el h2 (by omega), show f + (j + 1) = (f + j) + 1 by omega, cntTo_succ (by omega)]
    omega
theorem up_all {ys : List Int} {t : Nat} {n : Int} (hn : 1 ≤ n) (ht : t ≤ ys.length) (h : ∀ i, i < t → 0 ≤ el ys i) : ∀ j, j ≤ t → upAt ys n j = true
  | 0, _ => by simp [upAt]
  | j + 1, hj => by
    have ih := up_all hn ht h j (by omega)
    have := h j (by omega)
    rw [upAt_succ (by omega), if_neg (by omega), ih]
theorem stretch_one {ys : List Int} {f t : Nat} {n : Int} (hn : 1 ≤ n) (hf : f ≤ t) (ht : t ≤ ys.length) (h : ∀ i, i < t → 0 ≤ el ys i) (hs : steadyB n ys = true) : steadyB n (subL ys f t) = true := by
  rw [steadyB_iff hn] at hs ⊢
  intro i k h1 h2 h3 h4
  rw [subL_len ht] at h2
  have := hs (f + i) (f + k) (by omega) (by omega) (up_all hn ht h _ (by omega)) (fun p a b => by
    have := h p (by omega)
    omega)
  unfold condS at this ⊢
  rw [subL_cnt ht n i (by omega), subL_cnt ht 0 i (by omega), subL_cnt ht n (k + 1) (by omega), subL_cnt ht 0 (k + 1) (by omega)]
  rw [show f + (k + 1) = f + k + 1 by omega]
  omega
theorem stretch_all {xs ys : List Int} {f t : Nat} (hf : f ≤ t) (ht : t ≤ ys.length) (h : ∀ i, i < t → 0 ≤ el ys i) (hs : steadyA xs ys = true) : steadyA xs (subL ys f t) = true := by
  unfold steadyA at hs ⊢
  rw [Bool.and_eq_true, List.all_eq_true] at hs ⊢
  refine ⟨hs.1, fun x hx => ?_⟩
  have := hs.2 x hx
  simp only [Bool.and_eq_true, decide_eq_true_eq] at this ⊢
  exact ⟨this.1, stretch_one this.1 hf ht h this.2⟩
theorem IntSl.sub {w : World} {a a' : Option Addr} {n f t : Nat} {ys : List Int} (h : IntSl w a n ys) (ht : t ≤ n) (ha : ∀ b o, a = some ⟨b, o, none⟩ → f < t → a' = some ⟨b, o + f, none⟩) : IntSl w a' (t - f) (subL ys f t) := by
  have hl := h.len
  have hb : ∀ i, -9223372036854775808 ≤ el (subL ys f t) i ∧ el (subL ys f t) i ≤ 9223372036854775807 := by
    intro i
    by_cases hi : f + i < t
    · rw [subL_el (by omega) hi]; exact ⟨h.lo _, h.hi _⟩
    · have : el (subL ys f t) i = 0 := by
        have hl2 : (subL ys f t).length = t - f := subL_len (by omega)
        simp [el, List.getD, List.getElem?_eq_none (show (subL ys f t).length ≤ i by omega)]
      rw [this]; omega
  refine ⟨subL_len (by omega), by have := h.mx; omega, fun hp => ?_, fun i => (hb i).1, fun i => (hb i).2⟩
  obtain ⟨b, o, e, hlt, hc⟩ := h.row (by omega)
  refine ⟨b, o + f, ha b o e (by omega), hlt, fun i hi => ?_⟩
  rw [subL_el (by omega) (by omega), show o + f + i = o + (f + i) by omega]
  exact hc _ (by omega)
set_option maxHeartbeats 1000000 in
theorem law_leaseStretch (a : Option Addr) (n ca : Nat) (xs : List Int) (b : Option Addr) (m cb : Nat) (ys : List Int) (f t : Int) (w : World) (ha : IntSl w a n xs) (hb : IntSl w b m ys) (hf : -9223372036854775808 ≤ f ∧ f ≤ 9223372036854775807) (ht : -9223372036854775808 ≤ t ∧ t ≤ 9223372036854775807) (hna : CapOk a n ca) (hnb : CapOk b m cb) :
    Calls Try.prog 6 #[.slice a n ca, .slice b m cb, .int .i64 f, .int .i64 t] w fun e w' => e = .returned (.bool true) ∧ Below w.heap.size w w' := by
  have hm := ha.mx
  have hm' := hb.mx
  obtain ⟨f1, f2⟩ := hf
  obtain ⟨t1, t2⟩ := ht
  have HN := Lib.hid hnb
  clear hna hnb
  by_cases c1 : (100 : Int) < n
  · go_enter Try.func6, Try.ntmps6
    go_wp2_with fail
    refine (shown_steady _).mono ?_
    rintro e w1 ⟨rfl, B1⟩
    go_wp2_with fail
    go_ret
    exact ⟨rfl, B1⟩
  by_cases c2 : (400 : Int) < m
  · go_enter Try.func6, Try.ntmps6
    go_wp2_with fail
    refine (shown_steady _).mono ?_
    rintro e w1 ⟨rfl, B1⟩
    go_wp2_with fail
    go_ret
    exact ⟨rfl, B1⟩
  by_cases c3 : f < 0
  · go_enter Try.func6, Try.ntmps6
    go_wp2_with fail
    refine (shown_steady _).mono ?_
    rintro e w1 ⟨rfl, B1⟩
    go_wp2_with fail
    go_ret
    exact ⟨rfl, B1⟩
  by_cases c4 : (m : Int) < t
  · go_enter Try.func6, Try.ntmps6
    go_wp2_with fail
    refine (shown_steady _).mono ?_
    rintro e w1 ⟨rfl, B1⟩
    go_wp2_with fail
    go_ret
    exact ⟨rfl, B1⟩
  by_cases c5 : t < f
  · go_enter Try.func6, Try.ntmps6
    go_wp2_with fail
    refine (shown_steady _).mono ?_
    rintro e w1 ⟨rfl, B1⟩
    go_wp2_with fail
    go_ret
    exact ⟨rfl, B1⟩
  obtain ⟨fn, rfl⟩ : ∃ k : Nat, f = (k : Int) := ⟨f.toNat, by omega⟩
  obtain ⟨tn, rfl⟩ : ∃ k : Nat, t = (k : Int) := ⟨t.toNat, by omega⟩
  have hl := Lib.hid hb.len
  cases hr : steadyA xs ys with
  | false =>
    have HR := Lib.hid hr
    clear hr
    go_enter Try.func6, Try.ntmps6
    go_wp2_with fail
    refine (steady_any _ _ _ xs _ _ _ ys _ ha hb (by omega)).mono ?_
    rw [HR.out]
    rintro e w2 ⟨rfl, B2⟩
    have HB2 := Lib.hid B2
    clear B2
    go_wp2_with fail
    refine (shown_steady _).mono ?_
    rintro e w1 ⟨rfl, B1⟩
    go_wp2_with fail
    go_ret
    exact ⟨rfl, HB2.out.trans (B1.mono HB2.out.size)⟩
  | true =>
    have HR := Lib.hid hr
    clear hr
    go_enter Try.func6, Try.ntmps6
    go_wp2_with fail
    refine (steady_any _ _ _ xs _ _ _ ys _ ha hb (by omega)).mono ?_
    rw [HR.out]
    rintro e w2 ⟨rfl, B2⟩
    have HB2 := Lib.hid B2
    have HA2 := Lib.hid (ha.below B2)
    have HB3 := Lib.hid (hb.below B2)
    clear B2
    go_wp2_with fail
    go_loopw [9] (fun i wr => ∃ k : Nat, k ≤ tn ∧ i = .int .i64 k ∧ (∀ i, i < k → 0 ≤ el ys i) ∧ w2 = wr) (fun i _ => tn - (intOf i).toNat)
    case atStart => exact ⟨0, Nat.zero_le _, rfl, fun i h => absurd h (by omega), rfl⟩
    case round =>
      obtain ⟨k, hk, rfl, hq, rfl⟩ := hrel
      have HQ := Lib.hid hq
      clear hq
      have k0 : (0 : Int) ≤ (k : Int) := by omega
      by_cases hlt : k < tn
      · obtain ⟨bb, ob, rfl, _, hcb⟩ := HB3.out.row (by omega)
        have ck := hcb k (by omega)
        have k1 : (k : Int) < (tn : Int) := by omega
        have k2 : (k : Int) < (m : Int) := by omega
        clear hcb
        by_cases hv : el ys k < 0
        · go_wp2_with fail
          refine (shown_steady _).mono ?_
          rintro e w1 ⟨rfl, B1⟩
          go_wp2_with fail
          go_ret
          exact ⟨rfl, HB2.out.trans (B1.mono HB2.out.size)⟩
        · go_wp2_with fail
          go_roundw
          case rel =>
            refine ⟨k + 1, by omega, by go_num, fun i hi => ?_, ?_⟩
            · by_cases e : i = k
              · subst e; omega
              · exact HQ.out i (by omega)
            · first | trivial | rfl
          case measure => simp [intOf]; omega
      · have hkt : k = tn := by omega
        have k1 : ¬ (k : Int) < (tn : Int) := by omega
        have HS := Lib.hid (stretch_all (f := fn) (t := tn) (xs := xs) (ys := ys) (by omega) (by rw [hl.out]; omega) (fun i hi => HQ.out i (by omega)) HR.out)
        obtain ⟨n1, n2, n3⟩ := HN.out
        go_wp2_with fail
        refine (shown_steady _).mono ?_
        rintro e w1 ⟨rfl, B1⟩
        have HB4 := Lib.hid (HB2.out.trans (B1.mono HB2.out.size))
        have HA5 := Lib.hid (HA2.out.below B1)
        have HB5 := Lib.hid (HB3.out.below B1)
        clear B1
        cases b with
        | none =>
          obtain ⟨rfl, rfl⟩ := n1 rfl
          obtain rfl : tn = 0 := by omega
          obtain rfl : fn = 0 := by omega
          clear n1
          go_wp2_with fail
          refine (steady_any _ _ _ xs _ _ _ (subL ys 0 0) _ HA5.out (HB5.out.sub (by omega) (fun b o e h => by omega)) (by omega)).mono ?_
          rw [HS.out]
          rintro e w3 ⟨rfl, B3⟩
          have HB6 := Lib.hid (HB4.out.trans (B3.mono HB4.out.size))
          clear B3
          go_wp2_with fail
          go_ret
          exact ⟨rfl, HB6.out⟩
        | some ad =>
          clear n1
          go_wp2_with fail
          · refine (steady_any _ _ _ xs _ _ _ (subL ys fn tn) _ HA5.out (HB5.out.sub (by omega) (fun b o e h => by omega)) (by omega)).mono ?_
            rw [HS.out]
            rintro e w3 ⟨rfl, B3⟩
            have HB6 := Lib.hid (HB4.out.trans (B3.mono HB4.out.size))
            clear B3
            go_wp2_with fail
            go_ret
            exact ⟨rfl, HB6.out⟩
          · refine (steady_any _ _ _ xs _ _ _ (subL ys fn tn) _ HA5.out (HB5.out.sub (by omega) (fun b o e h => by
              simp only [Option.some.injEq] at e
              subst e
              rw [WideShapes.add_plain])) (by omega)).mono ?_
            rw [HS.out]
            rintro e w3 ⟨rfl, B3⟩
            have HB6 := Lib.hid (HB4.out.trans (B3.mono HB4.out.size))
            clear B3
            go_wp2_with fail
            go_ret
            exact ⟨rfl, HB6.out⟩
end Go.Proofs.Ytbckpiamabnkmaa
