/- member.ask, may and what it calls. Condition: a struct that reads as a configuration, of at most 10^6 numbers in each. -/
import Derived.Test.YtejahcpnbkegfaaMeB
namespace Go.Proofs.Ytejahcpnbkegfaa
open Go.RowKit
set_option linter.unusedVariables false
set_option linter.unusedSimpArgs false
def PredOn0 (g : Nat) (p : Int → Bool) (I : World → Prop) : Prop :=
  ∀ (x : Int) (w : World), I w → Calls Try.prog g #[.int .i64 x] w fun e w' => e = .returned (.bool (p x)) ∧ Below w.heap.size w w'
theorem indexFunc0_any (g : Nat) (p : Int → Bool) (I : World → Prop) (hp : PredOn0 g p I) (eg : ∀ args w, (callFunc g args).run Try.prog w = .ok (.enter g args) w)
    (a : Option Addr) (n c : Nat) (xs : List Int) (w : World) (hI : ∀ w', w.grownBy w' none → I w') (ha : IntSl w a n xs) :
    Calls Try.prog 51 #[.slice a n c, .func (.func g) #[] #[]] w fun e w' => e = .returned (.int .i64 (idxP p xs n)) ∧ Below w.heap.size w w' := by
  have hm := ha.mx
  have HI := Lib.hid hI
  clear hI
  go_enter Try.func51, Try.ntmps51
  go_wp2
  go_loopw [8] (fun i wr => ∃ k : Nat, k ≤ n ∧ i = .int .i64 k ∧ (∀ i, i < k → p (el xs i) = false) ∧ Below w.heap.size w wr) (fun i _ => n - (intOf i).toNat)
  case atStart => exact ⟨0, Nat.zero_le _, rfl, fun i h => absurd h (by omega), Below.refl _ _⟩
  case round =>
    obtain ⟨k, hk, rfl, hq, hbel⟩ := hrel
    have HQ := Lib.hid hq
    clear hq
    by_cases hlt : k < n
    · have k0 : (0 : Int) ≤ (k : Int) := by omega
      have k1 : (k : Int) < (n : Int) := by omega
      obtain ⟨ba, oa, rfl, hba, hca⟩ := (ha.below hbel).row (by omega)
      have ca := hca k hlt
      clear hca
      cases hv : p (el xs k)
      case true =>
        have hr := Lib.hid (idxP_at ha.len hlt hv HQ.out)
        have HV := Lib.hid hv
        clear hv
        go_wp2_with fail
        refine (hp _ _ (HI.out _ (gb_below hbel))).mono ?_
        rw [HV.out]
        rintro e w1 ⟨rfl, hb1⟩
        go_wp2_with fail
        go_ret
        exact ⟨by rw [hr.out]; rfl, hbel.trans (hb1.mono hbel.size)⟩
      case false =>
        have HV := Lib.hid hv
        clear hv
        go_wp2_with fail
        refine (hp _ _ (HI.out _ (gb_below hbel))).mono ?_
        rw [HV.out]
        rintro e w1 ⟨rfl, hb1⟩
        go_wp2_with fail
        go_roundw
        case rel => exact ⟨k + 1, by omega, by go_num, fun i hi => if e : i = k then by subst e; exact HV.out else HQ.out i (by omega), hbel.trans (hb1.mono hbel.size)⟩
        case measure => simp [intOf]; omega
    · have hr := Lib.hid (idxP_none ha.len (fun i hi => HQ.out i (by omega)))
      have k1 : ¬ (k : Int) < (n : Int) := by omega
      go_wp2
      go_ret
      exact ⟨by rw [hr.out]; rfl, hbel⟩
theorem may1_any (x : Int) (w : World) : Calls Try.prog 39 #[.int .i64 x] w fun e w' => e = .returned (.bool (outN x)) ∧ Below w.heap.size w w' := by
  unfold outN
  by_cases h1 : x < 1
  all_goals
    by_cases h2 : 5 < x
    all_goals
      go_enter Try.func39, Try.ntmps39
      go_wp2_with fail
      go_ret
      exact ⟨by simp [h1, h2], Below.refl _ _⟩
theorem idxP_any (p : Int → Bool) (xs : List Int) {n : Nat} (hn : xs.length = n) : decide (0 ≤ idxP p xs n) = xs.any p := by
  subst hn
  unfold idxP
  by_cases h : xs.findIdx p < xs.length
  · rw [if_pos h]
    have : xs.any p = true := by
      rw [List.any_eq_true]
      exact ⟨xs[xs.findIdx p], List.getElem_mem h, List.findIdx_getElem (w := h)⟩
    rw [this]; simp
  · rw [if_neg h]
    have : xs.any p = false := by
      rw [List.any_eq_false]
      intro x hx hp
      exact h (List.findIdx_lt_length_of_exists ⟨x, hx, hp⟩)
    rw [this]; simp
theorem containsFunc_any (a : Option Addr) (n c : Nat) (xs : List Int) (w : World) (ha : IntSl w a n xs) :
    Calls Try.prog 38 #[.slice a n c, .func (.func 39) #[] #[]] w (TPost w (xs.any outN)) := by
  have eg : ∀ args w, (callFunc 39 args).run Try.prog w = .ok (.enter 39 args) w := enters_of Try.func39 (by kernel_rfl) rfl
  have HX := Lib.hid (indexFunc0_any _ outN (fun _ => True) (fun x w _ => may1_any x w) eg a n c xs w (fun _ _ => trivial) ha)
  have HA := Lib.hid (idxP_any outN xs ha.len)
  clear eg
  generalize idxP outN xs n = m at *
  go_enter Try.func38, Try.ntmps38
  go_wp2_with fail
  refine HX.out.mono ?_
  rintro e w1 ⟨rfl, P1⟩
  go_wp2_with fail
  go_ret
  exact ⟨by rw [← HA.out]; rfl, P1⟩
set_option maxHeartbeats 1000000 in
theorem mask_any (a b : Option Addr) (n c m d : Nat) (w : World) : Calls Try.prog 25 #[.agg #[.slice a n c, .slice b m d]] w fun e w' => e = .returned (.agg #[.slice a n c, .slice b m d]) ∧ Below w.heap.size w w' := by
  go_enter Try.func25, Try.ntmps25
  go_wp2_with fail
  refine bodyPost_ret (v := .agg #[.slice a n c, .slice b m d]) (by simp [results, Try.results25, go_sem]) rfl ⟨rfl, ?_⟩
  exact ((Below.refl _ _).alloc (Nat.le_refl _) _).alloc (by simp) _
theorem bothL_bd {c : Config} (h1 : ∀ x ∈ c.voters, I64 x) (h2 : ∀ x ∈ c.learners, I64 x) : ∀ x ∈ bothL c, -9223372036854775808 ≤ x ∧ x ≤ 9223372036854775807 := bothR_bd h1 h2
def SmallC (c : Config) : Prop := c.voters.length ≤ 1000000 ∧ c.learners.length ≤ 1000000
set_option maxHeartbeats 4000000 in
theorem may_any (vs : List Value) (c : Config) (w : World) (S : Nat → Prop) (h : RdL w S Config.ty vs c.enc) (hs : SmallC c) :
    Calls Try.prog 26 #[.agg vs.toArray] w (TPost w (mayB c)) := by
  obtain ⟨a0, c0, a1, c1, rfl, s0, s1⟩ := Config.opens h
  obtain ⟨hs1, hs2⟩ := hs
  have B0 := (Below.refl w.heap.size w).alloc (Nat.le_refl _) (.cells #[.slice a0 (c.voters).length c0, .slice a1 (c.learners).length c1] 49)
  have HBO := Lib.hid (both_c a0 _ c0 c.voters a1 _ c1 c.learners _ (IntSl.ofSl (s0.same (Same.below B0))) (IntSl.ofSl (s1.same (Same.below B0))) (nil_cap s0) (nil_cap s1) (by omega) (by omega))
  have HBD := Lib.hid (bothL_bd (SlI.i64 s0) (SlI.i64 s1))
  have HMP := Lib.hid (may_prog c)
  have HL := Lib.hid (show (bothR c.voters c.learners).2 = bothL c from rfl)
  have nl := s0.bd.2.2.1
  have nl1 := s1.bd.2.2.1
  clear h s0 s1 B0
  rw [HL.out] at HBO
  generalize (bothR c.voters c.learners).1 = r1 at *
  go_enter Try.func26, Try.ntmps26
  go_wp2_with fail
  refine HBO.out.mono ?_
  rintro e w1 ⟨v, rfl, ho, P1⟩
  obtain ⟨ab, cb, rfl, hsl⟩ := ho.sl HBD.out
  obtain ⟨kb, BT, z⟩ := boxed_call P1
  have HCF := Lib.hid (fun W (hb : Below w1.heap.size w1 W) => containsFunc_any ab _ cb (bothL c) W (hsl.below hb))
  have hmx := hsl.mx
  generalize bothL c = bl at *
  have HB := Lib.hid BT
  have KB := Lib.hid kb
  clear ho P1 hsl BT kb
  cases hr : (r1 == 0)
  · have HR := Lib.hid (show mayB c = false by rw [HMP.out, hr]; simp)
    obtain ⟨q0, q1⟩ := box2 KB.out
    go_wp2_with fail
    go_ret
    exact ⟨by rw [HR.out]; rfl, HB.out⟩
  cases ha : bl.any outN
  all_goals
    rw [ha, hr] at HMP
    have HA := Lib.hid ha
    clear ha
    obtain ⟨q0, q1⟩ := box2 KB.out
    go_wp2_with fail
    refine (HCF.out _ (Below.refl _ _)).mono ?_
    rw [HA.out]
    rintro e w2 ⟨rfl, P2⟩
    have k2 := KB.out.below P2 z
    have HB2 := Lib.hid (HB.out.trans (P2.mono HB.out.size))
    clear P2 q0 q1
    obtain ⟨q0, q1⟩ := box2 k2
    clear k2
    go_wp2_with fail
    all_goals
      go_ret
      exact ⟨by rw [HMP.out]; simp [*], HB2.out⟩
end Go.Proofs.Ytejahcpnbkegfaa
