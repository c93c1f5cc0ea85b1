/- The reference's comparisons of sets, configurations, entries, snapshots, rows of entries, logs. No condition but that the structs read as such. -/
import Derived.Test.YteiojclemodhaaaHeld
import Derived.Test.YteiojclemodhaaaRdOwn
import Derived.Test.YteiojclemodhaaaLogD
import Derived.StillTailTactics
import Derived.Lib.IndexBytes
namespace Go.Proofs.Yteiojclemodhaaa
open Go.RowKit
set_option linter.unusedVariables false
set_option linter.unusedSimpArgs false
def eqI (xs ys : List Int) : Bool := decide (xs = ys)
theorem eqI_len {xs ys : List Int} (h : xs.length ≠ ys.length) : eqI xs ys = false := by
  unfold eqI; rw [decide_eq_false_iff_not]; intro e; exact h (by rw [e])
theorem nu_ext {xs ys : List Int} (hl : xs.length = ys.length) (h : ∀ i, i < xs.length → nu xs i = nu ys i) : xs = ys := by
  apply List.ext_getElem hl
  intro i h1 h2
  have := h i h1
  simpa [nu, List.getD, h1, h2] using this
theorem eqI_yes {xs ys : List Int} (hl : xs.length = ys.length) (h : ∀ i, i < xs.length → nu xs i = nu ys i) : eqI xs ys = true := by
  unfold eqI; rw [decide_eq_true_iff]; exact nu_ext hl h
theorem eqI_no {xs ys : List Int} {i : Nat} (h : nu xs i ≠ nu ys i) : eqI xs ys = false := by
  unfold eqI; rw [decide_eq_false_iff_not]; intro e; exact h (by rw [e])
set_option maxHeartbeats 1000000 in
theorem sets_any (a b : Option Addr) (n m c d : Nat) (xs ys : List Int) (w : World) (S T : Nat → Prop) (ha : SlI w S a n c xs) (hb : SlI w T b m d ys) :
    Calls Try.prog 57 #[.slice a n c, .slice b m d] w (TPost w (eqI xs ys)) := by
  have la := ha.len
  have lb := hb.len
  rw [ints_len] at la lb
  have ba := ha.bd.2.2.1
  have bb := hb.bd.2.2.1
  have LA := Lib.hid la
  have LB := Lib.hid lb
  have HA := Lib.hid ha
  have HB := Lib.hid hb
  clear ha hb
  by_cases hn : n = m
  · subst hn
    clear la lb
    go_enter Try.func57, Try.ntmps57
    go_wp2_with fail
    go_loopw [5] (fun i wr => ∃ k : Nat, k ≤ n ∧ i = .int .i64 k ∧ (∀ i, i < k → nu xs i = nu ys i) ∧ Below w.heap.size w wr) (fun i _ => n - (intOf i).toNat)
    case atStart => exact ⟨0, Nat.zero_le _, rfl, fun i h => absurd h (by omega), Below.refl _ _⟩
    case round =>
      obtain ⟨k, hk, rfl, hq, B1⟩ := hrel
      have HQ := Lib.hid hq
      have BB1 := Lib.hid B1
      clear hq B1
      by_cases hlt : k < n
      · obtain ⟨b1, o1, rfl⟩ := HA.out.addr (by omega)
        obtain ⟨b2, o2, rfl⟩ := HB.out.addr (by omega)
        obtain ⟨_, c1, i1⟩ := SlI.cell (HA.out.next BB1.out) hlt
        obtain ⟨_, c2, i2⟩ := SlI.cell (HB.out.next BB1.out) hlt
        have k0 : (0 : Int) ≤ (k : Int) := by omega
        have k1 : (k : Int) < (n : Int) := by omega
        by_cases he : nu xs k = nu ys k
        · have q : (nu xs k != nu ys k) = false := by simp [he]
          have HE := Lib.hid he
          clear he
          go_wp2_with fail
          go_quiet (fail)
          go_wp2_with fail
          go_roundw
          case rel =>
            refine ⟨k + 1, by omega, by go_num, fun i hi => ?_, bdrewN BB1.out _⟩
            by_cases e : i = k
            · subst e; exact HE.out
            · exact HQ.out i (by omega)
          case measure => simp [intOf]; omega
        · have q : (nu xs k != nu ys k) = true := by simp [he]
          have HR := Lib.hid (eqI_no he)
          clear he
          go_wp2_with fail
          go_quiet (fail)
          go_wp2_with fail
          go_ret
          exact ⟨by rw [HR.out]; rfl, bdrewN BB1.out _⟩
      · have hkn : k = n := by omega
        have HR := Lib.hid (eqI_yes (xs := xs) (ys := ys) (by rw [LA.out, LB.out]) (fun i hi => HQ.out i (by have := LA.out; omega)))
        have k1 : ¬ (k : Int) < (n : Int) := by omega
        clear hkn
        go_wp2_with fail
        go_ret
        exact ⟨by rw [HR.out]; rfl, BB1.out⟩
  · have q : ((n : Int) != (m : Int)) = true := by rw [bne_iff_ne]; omega
    have HR := Lib.hid (eqI_len (xs := xs) (ys := ys) (by omega))
    clear hn la lb
    go_enter Try.func57, Try.ntmps57
    go_wp2_with fail
    go_ret
    exact ⟨by rw [HR.out]; rfl, Below.refl _ _⟩
def eqC (a b : Config) : Bool := decide (a = b)
theorem eqC_and (a b : Config) : eqC a b = (eqI a.voters b.voters && eqI a.learners b.learners) := by
  unfold eqC eqI
  rw [Bool.eq_iff_iff, Bool.and_eq_true]
  simp only [decide_eq_true_eq]
  cases a; cases b; simp
set_option maxHeartbeats 1000000 in
theorem configs_any (vs us : List Value) (x y : Config) (w : World) (S T : Nat → Prop) (h : RdL w S Config.ty vs x.enc) (h' : RdL w T Config.ty us y.enc) :
    Calls Try.prog 49 #[.agg vs.toArray, .agg us.toArray] w (TPost w (eqC x y)) := by
  obtain ⟨a0, c0, a1, c1, rfl, s0, s1⟩ := Config.opens h
  obtain ⟨a0', c0', a1', c1', rfl, s0', s1'⟩ := Config.opens h'
  have B0 : Below w.heap.size w ((w.alloc (.cells #[.slice a0 x.voters.length c0, .slice a1 x.learners.length c1] 25)).alloc (.cells #[.slice a0' y.voters.length c0', .slice a1' y.learners.length c1'] 25)) := ((Below.refl _ w).alloc (Nat.le_refl _) _).alloc (by simp) _
  have HB0 := Lib.hid B0
  have H1 := Lib.hid (sets_any _ _ _ _ _ _ x.voters y.voters _ S T (s0.same (Same.below B0)) (s0'.same (Same.below B0)))
  have H2 := Lib.hid (fun W (hb : Below w.heap.size w W) => sets_any _ _ _ _ _ _ x.learners y.learners W S T (s1.same (Same.below hb)) (s1'.same (Same.below hb)))
  have HE := Lib.hid (eqC_and x y)
  clear h h' s0 s1 s0' s1' B0
  cases e1 : eqI x.voters y.voters
  all_goals cases e2 : eqI x.learners y.learners
  all_goals
    have E1 := Lib.hid e1
    have E2 := Lib.hid e2
    clear e1 e2
    have HR := Lib.hid (show eqC x y = _ by rw [HE.out, E1.out, E2.out])
    go_enter Try.func49, Try.ntmps49
    go_wp2_with fail
    refine H1.out.mono ?_
    rw [E1.out]
    rintro e w1 ⟨rfl, P1⟩
    have ka0 := ((Blk.newAt _ (w.heap.size) 25 #[.slice a0 x.voters.length c0, .slice a1 x.learners.length c1] (by simp)).alloc _).below P1 (by simp <;> omega); obtain ⟨qa0_0, qa0_1⟩ := box2 ka0; obtain ⟨fa0_0, fa0_1⟩ := thaw2 ka0; have ka1 := (Blk.newAt _ (w.heap.size + 1) 25 #[.slice a0' y.voters.length c0', .slice a1' y.learners.length c1'] (by simp)).below P1 (by simp <;> omega); obtain ⟨qa1_0, qa1_1⟩ := box2 ka1; obtain ⟨fa1_0, fa1_1⟩ := thaw2 ka1
    have BT := tr_below P1 HB0.out
    clear P1
    go_wp2_with fail
    first
      | (go_ret; exact ⟨by rw [HR.out]; rfl, BT⟩)
      | (refine (H2.out _ BT).mono ?_
         rw [E2.out]
         rintro e w2 ⟨rfl, P2⟩
         have BT2 := tr_below P2 BT
         clear P2
         go_wp2_with fail
         go_ret
         exact ⟨by rw [HR.out]; rfl, BT2⟩)
def eqE (a b : Entry) : Bool := decide (a = b)
theorem eqE_no {a b : Entry} (h : a.index ≠ b.index ∨ a.term ≠ b.term ∨ a.kind ≠ b.kind ∨ a.data ≠ b.data ∨ a.config ≠ b.config) : eqE a b = false := by
  unfold eqE; rw [decide_eq_false_iff_not]; intro e; subst e; simp at h
theorem eqE_yes {a b : Entry} (e0 : a.index = b.index) (e1 : a.term = b.term) (e2 : a.kind = b.kind) (hd : a.data = b.data) (hc : a.config = b.config) : eqE a b = true := by
  unfold eqE; rw [decide_eq_true_iff]; cases a; cases b; simp_all
theorem str_ne {a b : ByteArray} (h : ¬ a.toList = b.toList) : a ≠ b := fun e => h (by rw [e])
theorem str_eq {a b : ByteArray} (h : a.toList = b.toList) : a = b := by
  rw [Lib.toList_data, Lib.toList_data] at h
  have h2 : a.data = b.data := Array.toList_inj.1 h
  cases a; cases b; simp at h2; rw [h2]
set_option maxHeartbeats 1000000 in
theorem entries_any (vs us : List Value) (x y : Entry) (w : World) (S T : Nat → Prop) (h : RdL w S Entry.ty vs x.enc) (h' : RdL w T Entry.ty us y.enc) :
    Calls Try.prog 35 #[.agg vs.toArray, .agg us.toArray] w (TPost w (eqE x y)) := by
  obtain ⟨a3, c3, a4, c4, rfl, b0, b1, b2, s3, s4, b5⟩ := Entry.opens h
  obtain ⟨a3', c3', a4', c4', rfl, b0', b1', b2', s3', s4', b5'⟩ := Entry.opens h'
  have B0 : Below w.heap.size w ((w.alloc (.cells #[.int .i64 x.index, .int .i64 x.term, .int .i64 x.kind, .slice a3 (x.config.voters).length c3, .slice a4 (x.config.learners).length c4, .string x.data] 54)).alloc (.cells #[.int .i64 y.index, .int .i64 y.term, .int .i64 y.kind, .slice a3' y.config.voters.length c3', .slice a4' y.config.learners.length c4', .string y.data] 54)) := ((Below.refl _ w).alloc (Nat.le_refl _) _).alloc (by simp) _
  have HB0 := Lib.hid B0
  have H1 := Lib.hid (configs_any _ _ x.config y.config _ S T (Config.shuts x.config (s3.same (Same.below B0)) (s4.same (Same.below B0))) (Config.shuts y.config (s3'.same (Same.below B0)) (s4'.same (Same.below B0))))
  clear h h' s3 s4 s3' s4' B0
  cases q0 : (x.index == y.index)
  · have Q0 := Lib.hid q0
    have HR := Lib.hid (show eqE x y = false from eqE_no (by left; simpa using Q0.out))
    go_enter Try.func35, Try.ntmps35
    go_wp2_with fail
    go_ret
    exact ⟨by rw [HR.out]; rfl, HB0.out⟩
  cases q1 : (x.term == y.term)
  · have Q1 := Lib.hid q1
    have HR := Lib.hid (show eqE x y = false from eqE_no (by right; left; simpa using Q1.out))
    go_enter Try.func35, Try.ntmps35
    go_wp2_with fail
    go_ret
    exact ⟨by rw [HR.out]; rfl, HB0.out⟩
  cases q2 : (x.kind == y.kind)
  · have Q2 := Lib.hid q2
    have HR := Lib.hid (show eqE x y = false from eqE_no (by right; right; left; simpa using Q2.out))
    go_enter Try.func35, Try.ntmps35
    go_wp2_with fail
    go_ret
    exact ⟨by rw [HR.out]; rfl, HB0.out⟩
  have HQ := Lib.hid (show x.index = y.index ∧ x.term = y.term ∧ x.kind = y.kind from ⟨by simpa using q0, by simpa using q1, by simpa using q2⟩)
  cases hc : eqC x.config y.config
  · have HC := Lib.hid hc
    clear hc
    go_enter Try.func35, Try.ntmps35
    go_wp2_with fail
    · have hd : x.data.toList = y.data.toList := by assumption
      have HR := Lib.hid (show eqE x y = false from eqE_no (by right; right; right; right; exact of_decide_eq_false HC.out))
      refine H1.out.mono ?_
      rw [HC.out]
      rintro e w1 ⟨rfl, P1⟩
      have BT := tr_below P1 HB0.out
      clear P1
      go_wp2_with fail
      go_ret
      exact ⟨by rw [HR.out]; rfl, BT⟩
    · have hd : ¬ x.data.toList = y.data.toList := by assumption
      have HR := Lib.hid (show eqE x y = false from eqE_no (by right; right; right; left; exact str_ne hd))
      go_ret
      exact ⟨by rw [HR.out]; rfl, HB0.out⟩
  · have HC := Lib.hid hc
    clear hc
    go_enter Try.func35, Try.ntmps35
    go_wp2_with fail
    · have hd : x.data.toList = y.data.toList := by assumption
      obtain ⟨k0, k1, k2⟩ := HQ.out
      have HR := Lib.hid (show eqE x y = true from eqE_yes k0 k1 k2 (str_eq hd) (of_decide_eq_true HC.out))
      clear k0 k1 k2
      refine H1.out.mono ?_
      rw [HC.out]
      rintro e w1 ⟨rfl, P1⟩
      have BT := tr_below P1 HB0.out
      clear P1
      go_wp2_with fail
      go_ret
      exact ⟨by rw [HR.out]; rfl, BT⟩
    · have hd : ¬ x.data.toList = y.data.toList := by assumption
      have HR := Lib.hid (show eqE x y = false from eqE_no (by right; right; right; left; exact str_ne hd))
      go_ret
      exact ⟨by rw [HR.out]; rfl, HB0.out⟩
def eqS (a b : Snap) : Bool := decide (a = b)
theorem eqS_no {a b : Snap} (h : a.index ≠ b.index ∨ a.term ≠ b.term ∨ a.data ≠ b.data ∨ a.config ≠ b.config) : eqS a b = false := by
  unfold eqS; rw [decide_eq_false_iff_not]; intro e; subst e; simp at h
theorem eqS_yes {a b : Snap} (e0 : a.index = b.index) (e1 : a.term = b.term) (hd : a.data = b.data) (hc : a.config = b.config) : eqS a b = true := by
  unfold eqS; rw [decide_eq_true_iff]; cases a; cases b; simp_all
set_option maxHeartbeats 1000000 in
theorem snaps_any (vs us : List Value) (x y : Snap) (w : World) (S T : Nat → Prop) (h : RdL w S Snap.ty vs x.enc) (h' : RdL w T Snap.ty us y.enc) :
    Calls Try.prog 41 #[.agg vs.toArray, .agg us.toArray] w (TPost w (eqS x y)) := by
  obtain ⟨a2, c2, a3, c3, rfl, b0, b1, s2, s3, b4⟩ := Snap.opens h
  obtain ⟨a2', c2', a3', c3', rfl, b0', b1', s2', s3', b4'⟩ := Snap.opens h'
  have B0 : Below w.heap.size w ((w.alloc (.cells #[.int .i64 x.index, .int .i64 x.term, .slice a2 (x.config.voters).length c2, .slice a3 (x.config.learners).length c3, .string x.data] 27)).alloc (.cells #[.int .i64 y.index, .int .i64 y.term, .slice a2' y.config.voters.length c2', .slice a3' y.config.learners.length c3', .string y.data] 27)) := ((Below.refl _ w).alloc (Nat.le_refl _) _).alloc (by simp) _
  have HB0 := Lib.hid B0
  have H1 := Lib.hid (configs_any _ _ x.config y.config _ S T (Config.shuts x.config (s2.same (Same.below B0)) (s3.same (Same.below B0))) (Config.shuts y.config (s2'.same (Same.below B0)) (s3'.same (Same.below B0))))
  clear h h' s2 s3 s2' s3' B0
  cases q0 : (x.index == y.index)
  · have Q0 := Lib.hid q0
    have HR := Lib.hid (show eqS x y = false from eqS_no (by left; simpa using Q0.out))
    go_enter Try.func41, Try.ntmps41
    go_wp2_with fail
    go_ret
    exact ⟨by rw [HR.out]; rfl, HB0.out⟩
  cases q1 : (x.term == y.term)
  · have Q1 := Lib.hid q1
    have HR := Lib.hid (show eqS x y = false from eqS_no (by right; left; simpa using Q1.out))
    go_enter Try.func41, Try.ntmps41
    go_wp2_with fail
    go_ret
    exact ⟨by rw [HR.out]; rfl, HB0.out⟩
  have HQ := Lib.hid (show x.index = y.index ∧ x.term = y.term from ⟨by simpa using q0, by simpa using q1⟩)
  cases hc : eqC x.config y.config
  · have HC := Lib.hid hc
    clear hc
    go_enter Try.func41, Try.ntmps41
    go_wp2_with fail
    · have hd : x.data.toList = y.data.toList := by assumption
      have HR := Lib.hid (show eqS x y = false from eqS_no (by right; right; right; exact of_decide_eq_false HC.out))
      refine H1.out.mono ?_
      rw [HC.out]
      rintro e w1 ⟨rfl, P1⟩
      have BT := tr_below P1 HB0.out
      clear P1
      go_wp2_with fail
      go_ret
      exact ⟨by rw [HR.out]; rfl, BT⟩
    · have hd : ¬ x.data.toList = y.data.toList := by assumption
      have HR := Lib.hid (show eqS x y = false from eqS_no (by right; right; left; exact str_ne hd))
      go_ret
      exact ⟨by rw [HR.out]; rfl, HB0.out⟩
  · have HC := Lib.hid hc
    clear hc
    go_enter Try.func41, Try.ntmps41
    go_wp2_with fail
    · have hd : x.data.toList = y.data.toList := by assumption
      obtain ⟨k0, k1⟩ := HQ.out
      have HR := Lib.hid (show eqS x y = true from eqS_yes k0 k1 (str_eq hd) (of_decide_eq_true HC.out))
      clear k0 k1
      refine H1.out.mono ?_
      rw [HC.out]
      rintro e w1 ⟨rfl, P1⟩
      have BT := tr_below P1 HB0.out
      clear P1
      go_wp2_with fail
      go_ret
      exact ⟨by rw [HR.out]; rfl, BT⟩
    · have hd : ¬ x.data.toList = y.data.toList := by assumption
      have HR := Lib.hid (show eqS x y = false from eqS_no (by right; right; left; exact str_ne hd))
      go_ret
      exact ⟨by rw [HR.out]; rfl, HB0.out⟩
end Go.Proofs.Yteiojclemodhaaa
