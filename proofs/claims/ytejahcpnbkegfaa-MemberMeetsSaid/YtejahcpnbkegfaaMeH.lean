/- The reference's copies of a configuration and a snapshot, its comparison of configurations. Condition: structs that read as such, at most 10^6 numbers in each. -/
import Derived.Test.YtejahcpnbkegfaaMeG
import Derived.StillTailTactics
namespace Go.Proofs.Ytejahcpnbkegfaa
open Go.RowKit
set_option linter.unusedVariables false
set_option linter.unusedSimpArgs false
def eqI (xs ys : List Int) : Bool := decide (xs = ys)
theorem eqI_len {xs ys : List Int} (h : xs.length ≠ ys.length) : eqI xs ys = false := by
  unfold eqI; rw [decide_eq_false_iff_not]; intro e; exact h (by rw [e])
theorem nu_ext {xs ys : List Int} (hl : xs.length = ys.length) (h : ∀ i, i < xs.length → nu xs i = nu ys i) : xs = ys := by
  apply List.ext_getElem hl
  intro i h1 h2
  have := h i h1
  simpa [nu, List.getD, h1, h2] using this
theorem eqI_yes {xs ys : List Int} (hl : xs.length = ys.length) (h : ∀ i, i < xs.length → nu xs i = nu ys i) : eqI xs ys = true := by
  unfold eqI; rw [decide_eq_true_iff]; exact nu_ext hl h
theorem eqI_no {xs ys : List Int} {i : Nat} (h : nu xs i ≠ nu ys i) : eqI xs ys = false := by
  unfold eqI; rw [decide_eq_false_iff_not]; intro e; exact h (by rw [e])
set_option maxHeartbeats 1000000 in
theorem sets_any (a b : Option Addr) (n m c d : Nat) (xs ys : List Int) (w : World) (S T : Nat → Prop) (ha : SlI w S a n c xs) (hb : SlI w T b m d ys) :
    Calls Try.prog 34 #[.slice a n c, .slice b m d] w (TPost w (eqI xs ys)) := by
  have la := ha.len
  have lb := hb.len
  rw [ints_len] at la lb
  have ba := ha.bd.2.2.1
  have bb := hb.bd.2.2.1
  have LA := Lib.hid la
  have LB := Lib.hid lb
  have HA := Lib.hid ha
  have HB := Lib.hid hb
  clear ha hb
  by_cases hn : n = m
  · subst hn
    clear la lb
    go_enter Try.func34, Try.ntmps34
    go_wp2_with fail
    go_loopw [5] (fun i wr => ∃ k : Nat, k ≤ n ∧ i = .int .i64 k ∧ (∀ i, i < k → nu xs i = nu ys i) ∧ Below w.heap.size w wr) (fun i _ => n - (intOf i).toNat)
    case atStart => exact ⟨0, Nat.zero_le _, rfl, fun i h => absurd h (by omega), Below.refl _ _⟩
    case round =>
      obtain ⟨k, hk, rfl, hq, B1⟩ := hrel
      have HQ := Lib.hid hq
      have BB1 := Lib.hid B1
      clear hq B1
      by_cases hlt : k < n
      · obtain ⟨b1, o1, rfl⟩ := HA.out.addr (by omega)
        obtain ⟨b2, o2, rfl⟩ := HB.out.addr (by omega)
        obtain ⟨_, c1, i1⟩ := SlI.cell (HA.out.next BB1.out) hlt
        obtain ⟨_, c2, i2⟩ := SlI.cell (HB.out.next BB1.out) hlt
        have k0 : (0 : Int) ≤ (k : Int) := by omega
        have k1 : (k : Int) < (n : Int) := by omega
        by_cases he : nu xs k = nu ys k
        · have q : (nu xs k != nu ys k) = false := by simp [he]
          have HE := Lib.hid he
          clear he
          go_wp2_with fail
          go_quiet (fail)
          go_wp2_with fail
          go_roundw
          case rel =>
            refine ⟨k + 1, by omega, by go_num, fun i hi => ?_, bdrewN BB1.out _⟩
            by_cases e : i = k
            · subst e; exact HE.out
            · exact HQ.out i (by omega)
          case measure => simp [intOf]; omega
        · have q : (nu xs k != nu ys k) = true := by simp [he]
          have HR := Lib.hid (eqI_no he)
          clear he
          go_wp2_with fail
          go_quiet (fail)
          go_wp2_with fail
          go_ret
          exact ⟨by rw [HR.out]; rfl, bdrewN BB1.out _⟩
      · have hkn : k = n := by omega
        have HR := Lib.hid (eqI_yes (xs := xs) (ys := ys) (by rw [LA.out, LB.out]) (fun i hi => HQ.out i (by have := LA.out; omega)))
        have k1 : ¬ (k : Int) < (n : Int) := by omega
        clear hkn
        go_wp2_with fail
        go_ret
        exact ⟨by rw [HR.out]; rfl, BB1.out⟩
  · have q : ((n : Int) != (m : Int)) = true := by rw [bne_iff_ne]; omega
    have HR := Lib.hid (eqI_len (xs := xs) (ys := ys) (by omega))
    clear hn la lb
    go_enter Try.func34, Try.ntmps34
    go_wp2_with fail
    go_ret
    exact ⟨by rw [HR.out]; rfl, Below.refl _ _⟩
def eqC (a b : Config) : Bool := decide (a = b)
theorem eqC_and (a b : Config) : eqC a b = (eqI a.voters b.voters && eqI a.learners b.learners) := by
  unfold eqC eqI
  rw [Bool.eq_iff_iff, Bool.and_eq_true]
  simp only [decide_eq_true_eq]
  cases a; cases b; simp
set_option maxHeartbeats 1000000 in
theorem configs_any (vs us : List Value) (x y : Config) (w : World) (S T : Nat → Prop) (h : RdL w S Config.ty vs x.enc) (h' : RdL w T Config.ty us y.enc) :
    Calls Try.prog 19 #[.agg vs.toArray, .agg us.toArray] w (TPost w (eqC x y)) := by
  obtain ⟨a0, c0, a1, c1, rfl, s0, s1⟩ := Config.opens h
  obtain ⟨a0', c0', a1', c1', rfl, s0', s1'⟩ := Config.opens h'
  have B0 : Below w.heap.size w ((w.alloc (.cells #[.slice a0 x.voters.length c0, .slice a1 x.learners.length c1] 25)).alloc (.cells #[.slice a0' y.voters.length c0', .slice a1' y.learners.length c1'] 25)) := ((Below.refl _ w).alloc (Nat.le_refl _) _).alloc (by simp) _
  have HB0 := Lib.hid B0
  have H1 := Lib.hid (sets_any _ _ _ _ _ _ x.voters y.voters _ S T (s0.same (Same.below B0)) (s0'.same (Same.below B0)))
  have H2 := Lib.hid (fun W (hb : Below w.heap.size w W) => sets_any _ _ _ _ _ _ x.learners y.learners W S T (s1.same (Same.below hb)) (s1'.same (Same.below hb)))
  have HE := Lib.hid (eqC_and x y)
  clear h h' s0 s1 s0' s1' B0
  cases e1 : eqI x.voters y.voters
  all_goals cases e2 : eqI x.learners y.learners
  all_goals
    have E1 := Lib.hid e1
    have E2 := Lib.hid e2
    clear e1 e2
    have HR := Lib.hid (show eqC x y = _ by rw [HE.out, E1.out, E2.out])
    go_enter Try.func19, Try.ntmps19
    go_wp2_with fail
    refine H1.out.mono ?_
    rw [E1.out]
    rintro e w1 ⟨rfl, P1⟩
    have ka0 := ((Blk.newAt _ (w.heap.size) 25 #[.slice a0 x.voters.length c0, .slice a1 x.learners.length c1] (by simp)).alloc _).below P1 (by simp <;> omega); obtain ⟨qa0_0, qa0_1⟩ := box2 ka0; obtain ⟨fa0_0, fa0_1⟩ := thaw2 ka0; have ka1 := (Blk.newAt _ (w.heap.size + 1) 25 #[.slice a0' y.voters.length c0', .slice a1' y.learners.length c1'] (by simp)).below P1 (by simp <;> omega); obtain ⟨qa1_0, qa1_1⟩ := box2 ka1; obtain ⟨fa1_0, fa1_1⟩ := thaw2 ka1
    have BT := tr_below P1 HB0.out
    clear P1
    go_wp2_with fail
    first
      | (go_ret; exact ⟨by rw [HR.out]; rfl, BT⟩)
      | (refine (H2.out _ BT).mono ?_
         rw [E2.out]
         rintro e w2 ⟨rfl, P2⟩
         have BT2 := tr_below P2 BT
         clear P2
         go_wp2_with fail
         go_ret
         exact ⟨by rw [HR.out]; rfl, BT2⟩)
set_option maxHeartbeats 1000000 in
theorem config_any (vs : List Value) (c : Config) (w : World) (S : Nat → Prop) (h : RdL w S Config.ty vs c.enc) (h1 : c.voters.length ≤ 1000000) (h2 : c.learners.length ≤ 1000000) :
    Calls Try.prog 24 #[.agg vs.toArray] w (APost w Config.ty c.enc) := by
  obtain ⟨a0, c0, a1, c1, rfl, s0, s1⟩ := Config.opens h
  have S0 := Lib.hid (Rd.mono (T := fun b => b < w.heap.size) s0 fun b hb _ => hb)
  have S1 := Lib.hid (Rd.mono (T := fun b => b < w.heap.size) s1 fun b hb _ => hb)
  clear h s0 s1
  go_enter Try.func24, Try.ntmps24
  go_wp2_with (first | (at_builtin; refine wpList_apps rfl (.tmp 6) (.tmp 8) 23 rfl (base := w.heap.size + 3) (E := 3) (S := fun b => w.heap.size + 3 ≤ b) (fs := [.int .i64]) (k := 1) (bytes := 8) rfl (by decide) (by decide) (by decide) Try.underlying23 infoI (.slice none 0 0) [] rfl (OwnR.nil _ _ _ _ _) a0 _ c0 (ints c.voters) (T := fun b => b < w.heap.size) rfl ?c1 ?c2 ?c3 ?c4 ?_; rotate_right; intro v1 w1 ho1 hgc _; have BL1 := grown_none hgc rfl; have ka0 := (((Blk.newAt _ (w.heap.size) 25 #[.slice a0 (c.voters).length c0, .slice a1 (c.learners).length c1] (by simp)).alloc _).alloc _).below BL1 (by simp <;> omega); obtain ⟨qa0_0, qa0_1⟩ := box2 ka0; obtain ⟨fa0_0, fa0_1⟩ := thaw2 ka0; have ka1 := ((Blk.newAt _ (w.heap.size + 1) 25 #[.slice none 0 0, .slice none 0 0] (by simp)).alloc _).below BL1 (by simp <;> omega); obtain ⟨qa1_0, qa1_1⟩ := box2 ka1; obtain ⟨fa1_0, fa1_1⟩ := thaw2 ka1; have ka2 := (Blk.newAt _ (w.heap.size + 1 + 1) 25 #[.slice none 0 0, .slice none 0 0] (by simp)).below BL1 (by simp <;> omega); obtain ⟨qa2_0, qa2_1⟩ := box2 ka2; obtain ⟨fa2_0, fa2_1⟩ := thaw2 ka2; obtain ⟨x1, y1, rfl, hv1⟩ := OwnR.slI (xs := c.voters) ho1 (fun b => w.heap.size + 3 ≤ b) (fun _ h => h) (fun _ h => h) (by omega); clear hgc) | (at_builtin; refine wpList_apps rfl (.tmp 12) (.tmp 14) 23 rfl (base := w.heap.size + 3) (E := 3) (S := fun b => w.heap.size + 3 ≤ b) (fs := [.int .i64]) (k := 1) (bytes := 8) rfl (by decide) (by decide) (by decide) Try.underlying23 infoI (.slice none 0 0) [] rfl (OwnR.nil _ _ _ _ _) a1 _ c1 (ints c.learners) (T := fun b => b < w.heap.size) rfl ?d1 ?d2 ?d3 ?d4 ?_; rotate_right; intro v2 w2 ho2 hgd _; have BL2 := grown_none hgd rfl; have kb0 := (ka0.far (p := ⟨w.heap.size + 1 + 1, 0, none⟩) (by simp <;> omega) _).next BL2; have kb1 := (ka1.far (p := ⟨w.heap.size + 1 + 1, 0, none⟩) (by simp <;> omega) _).next BL2; have kb2 := (ka2.set 0 _).next BL2; clear qa0_0 qa0_1 qa1_0 qa1_1 qa2_0 qa2_1 fa0_0 fa0_1 fa1_0 fa1_1 fa2_0 fa2_1; obtain ⟨qb1_0, qb1_1⟩ := box2 kb1; obtain ⟨fb1_0, fb1_1⟩ := thaw2 kb1; obtain ⟨qb2_0, qb2_1⟩ := box2 kb2; obtain ⟨fb2_0, fb2_1⟩ := thaw2 kb2; obtain ⟨x2, y2, rfl, hv2⟩ := OwnR.slI (xs := c.learners) ho2 (fun b => w.heap.size + 3 ≤ b) (fun _ h => h) (fun _ h => h) (by omega); have hv3 := Lib.hid ((hv1.set (p := ⟨w.heap.size + 1 + 1, 0, none⟩) (by simp <;> omega) _).next BL2); have hv4 := Lib.hid hv2; clear hv1 hv2 hgd))
  · have kf := ((kb1.far (p := ⟨w.heap.size + 1 + 1, 1, none⟩) (by simp <;> omega) (.slice x2 c.learners.length y2)).set 0 (.slice x1 c.voters.length y1)).set 1 (.slice x2 c.learners.length y2)
    have g0 := kf.cell 0
    have g1 := kf.cell 1
    have B2 : Below w.heap.size w w2 := (((((Below.refl w.heap.size w).alloc (Nat.le_refl _) _).alloc (by simp) _).alloc (by simp <;> omega) _).trans (BL1.mono (by simp <;> omega))).setCell (p := ⟨w.heap.size + 1 + 1, 0, none⟩) (by simp <;> omega) _ |>.trans (BL2.mono (by simp [World.setCell]; have := BL1.size; simp at this; omega))
    refine bodyPost_ret (v := .agg #[.slice x1 c.voters.length y1, .slice x2 c.learners.length y2]) (by simp [results, Try.results24, go_sem, g0, g1]) rfl ⟨[_, _], rfl, ?_, ?_⟩
    · exact RdL.mono (fun b _ hb => by show w.heap.size ≤ b; omega) (Config.shuts (S := fun b => w.heap.size + 3 ≤ b) c (((hv3.out.set (by show ¬ _; simp <;> omega) _).set (by show ¬ _; simp <;> omega) _).set (by show ¬ _; simp <;> omega) _) (((hv4.out.set (by show ¬ _; simp <;> omega) _).set (by show ¬ _; simp <;> omega) _).set (by show ¬ _; simp <;> omega) _))
    · exact ((B2.setCell (by simp <;> omega) _).setCell (by simp <;> omega) _).setCell (by simp <;> omega) _
  case c1 => exact (S0.out.same (Same.below ((((Below.refl _ _).alloc (Nat.le_refl _) _).alloc (by simp) _).alloc (by simp <;> omega) _)))
  case c2 => exact flat_in (by decide)
  case c3 => simp [ints]; omega
  case c4 => simp
  case d1 => exact ((S1.out.same (Same.below ((((Below.refl _ _).alloc (Nat.le_refl _) _).alloc (by simp) _).alloc (by simp <;> omega) _))).next BL1).set (by show ¬ _; simp <;> omega) _
  case d2 => exact flat_in (by decide)
  case d3 => simp [ints]; omega
  case d4 =>
    have := BL1.size
    simp at this
    simp [World.setCell]; omega
set_option maxHeartbeats 1000000 in
theorem snap_any (vs : List Value) (x : Snap) (w : World) (S : Nat → Prop) (h : RdL w S Snap.ty vs x.enc) (h1 : x.config.voters.length ≤ 1000000) (h2 : x.config.learners.length ≤ 1000000) :
    Calls Try.prog 8 #[.agg vs.toArray] w (APost w Snap.ty x.enc) := by
  obtain ⟨a2, c2, a3, c3, rfl, b0, b1, s2, s3, b4⟩ := Snap.opens h
  have B0 : Below w.heap.size w ((w.alloc (.cells #[.int .i64 x.index, .int .i64 x.term, .slice a2 (x.config.voters).length c2, .slice a3 (x.config.learners).length c3, .string x.data] 28)).alloc (.cells #[.int .i64 0, .int .i64 0, .slice none 0 0, .slice none 0 0, .string ⟨#[]⟩] 28)) := ((Below.refl _ w).alloc (Nat.le_refl _) _).alloc (by simp) _
  have hcall := config_any _ x.config _ _ (Config.shuts x.config (s2.same (Same.below B0)) (s3.same (Same.below B0))) h1 h2
  have HC := Lib.hid hcall
  have HB0 := Lib.hid B0
  clear h s2 s3 hcall B0
  go_enter Try.func8, Try.ntmps8
  go_wp2_with fail
  refine HC.out.mono ?_
  rintro e w1 ⟨vs1, rfl, hr1, P1⟩
  obtain ⟨y0, z0, y1, z1, rfl, u0, u1⟩ := Config.opens hr1
  have ka0 := ((Blk.newAt _ (w.heap.size) 28 #[.int .i64 x.index, .int .i64 x.term, .slice a2 (x.config.voters).length c2, .slice a3 (x.config.learners).length c3, .string x.data] (by simp)).alloc _).below P1 (by simp <;> omega); obtain ⟨qa0_0, qa0_1, qa0_2, qa0_3, qa0_4⟩ := box5 ka0; obtain ⟨fa0_0, fa0_1, fa0_2, fa0_3, fa0_4⟩ := thaw5 ka0; have ka1 := (Blk.newAt _ (w.heap.size + 1) 28 #[.int .i64 0, .int .i64 0, .slice none 0 0, .slice none 0 0, .string ⟨#[]⟩] (by simp)).below P1 (by simp <;> omega); obtain ⟨qa1_0, qa1_1, qa1_2, qa1_3, qa1_4⟩ := box5 ka1; obtain ⟨fa1_0, fa1_1, fa1_2, fa1_3, fa1_4⟩ := thaw5 ka1
  have hz := P1.size
  simp at hz
  have U0 := Lib.hid u0
  have U1 := Lib.hid u1
  have BB := Lib.hid (HB0.out.trans (P1.mono (by simp <;> omega)))
  clear hr1 u0 u1 P1
  go_wp2_with fail
  have kb := (ka0.set 2 (.slice y0 x.config.voters.length z0)).set 3 (.slice y1 x.config.learners.length z1)
  have kc0 := (ka1.far (p := ⟨w.heap.size, 2, none⟩) (by simp <;> omega) (.slice y0 x.config.voters.length z0)).far (p := ⟨w.heap.size, 3, none⟩) (by simp <;> omega) (.slice y1 x.config.learners.length z1)
  have kd0 := kc0.set 0 (.int .i64 x.index)
  have kd1 := kd0.set 1 (.int .i64 x.term)
  have kd2 := kd1.set 2 (.slice y0 x.config.voters.length z0)
  have kd3 := kd2.set 3 (.slice y1 x.config.learners.length z1)
  have kd4 := kd3.set 4 (.string x.data)
  have g0 := kd4.cell 0
  have g1 := kd4.cell 1
  have g2 := kd4.cell 2
  have g3 := kd4.cell 3
  have g4 := kd4.cell 4
  refine bodyPost_ret (v := .agg #[.int .i64 x.index, .int .i64 x.term, .slice y0 x.config.voters.length z0, .slice y1 x.config.learners.length z1, .string x.data]) (by simp [results, Try.results8, go_sem, g0, g1, g2, g3, g4]) rfl ⟨[_, _, _, _, _], rfl, ?_, ?_⟩
  · have n0 : ¬ (fun b => ((w.alloc (.cells #[.int .i64 x.index, .int .i64 x.term, .slice a2 (x.config.voters).length c2, .slice a3 (x.config.learners).length c3, .string x.data] 28)).alloc (.cells #[.int .i64 0, .int .i64 0, .slice none 0 0, .slice none 0 0, .string ⟨#[]⟩] 28)).heap.size ≤ b) w.heap.size := by simp <;> omega
    have n1 : ¬ (fun b => ((w.alloc (.cells #[.int .i64 x.index, .int .i64 x.term, .slice a2 (x.config.voters).length c2, .slice a3 (x.config.learners).length c3, .string x.data] 28)).alloc (.cells #[.int .i64 0, .int .i64 0, .slice none 0 0, .slice none 0 0, .string ⟨#[]⟩] 28)).heap.size ≤ b) (w.heap.size + 1) := by simp
    refine RdL.mono (fun b _ hb => ?_) (Snap.shuts (S := fun b => ((w.alloc (.cells #[.int .i64 x.index, .int .i64 x.term, .slice a2 (x.config.voters).length c2, .slice a3 (x.config.learners).length c3, .string x.data] 28)).alloc (.cells #[.int .i64 0, .int .i64 0, .slice none 0 0, .slice none 0 0, .string ⟨#[]⟩] 28)).heap.size ≤ b) x b0 b1 ((((((((U0.out).set n0 _).set n0 _).set n1 _).set n1 _).set n1 _).set n1 _).set n1 _) ((((((((U1.out).set n0 _).set n0 _).set n1 _).set n1 _).set n1 _).set n1 _).set n1 _) b4)
    simp at hb
    show w.heap.size ≤ b
    omega
  · exact (((((((BB.out).setCell (by simp <;> omega) _).setCell (by simp <;> omega) _).setCell (by simp <;> omega) _).setCell (by simp <;> omega) _).setCell (by simp <;> omega) _).setCell (by simp <;> omega) _).setCell (by simp <;> omega) _
end Go.Proofs.Ytejahcpnbkegfaa
