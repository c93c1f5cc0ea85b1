/- The reference's copies of a configuration, an entry, a snapshot. Condition: at most 10^6 numbers in each. -/
import Derived.Test.YteiojclemodhaaaRdOwn
import Derived.Test.YteiojclemodhaaaTyA
namespace Go.Proofs.Yteiojclemodhaaa
open Go.RowKit
set_option linter.unusedVariables false
set_option linter.unusedSimpArgs false
/-- a post: a struct in memory of its own -/
def APost (w : World) (ty : List Ty) (d : List D) (e : Ending) (w' : World) : Prop := ∃ vs : List Value, e = .returned (.agg vs.toArray) ∧ RdL w' (fun b => w.heap.size ≤ b) ty vs d ∧ Below w.heap.size w w'
theorem infoI0 : (Try.prog.info? 3).map (fun i => (i.zero, i.size, i.bytes)) = some (some (.int .i64 0), 1, 8) := by kernel_rfl
theorem infoI : Info Try.prog 3 1 8 := by
  obtain ⟨i0, h1, h2, h3, h4⟩ := info_parts infoI0
  exact ⟨i0, _, h1, h2, h3, h4, rfl⟩
theorem grown_none {w w' : World} {r : Option Nat} (h : w.grownBy w' r) (hr : r = none) : Below w.heap.size w w' := (Below.refl _ _).grown h (Nat.le_refl _) (fun k e => by rw [hr] at e; cases e)
theorem Sl.up {w : World} {S T : Nat → Prop} {fs : List Ty} {a : Option Addr} {n c : Nat} {rows : List (List D)} (h : Sl w S fs a n c rows) (hs : ∀ b, S b → T b) : Sl w T fs a n c rows := h.mono (fun b _ => hs b)
set_option maxHeartbeats 1000000 in
theorem config_any (vs : List Value) (c : Config) (w : World) (S : Nat → Prop) (h : RdL w S Config.ty vs c.enc) (h1 : c.voters.length ≤ 1000000) (h2 : c.learners.length ≤ 1000000) :
    Calls Try.prog 52 #[.agg vs.toArray] w (APost w Config.ty c.enc) := by
  obtain ⟨a0, c0, a1, c1, rfl, s0, s1⟩ := Config.opens h
  have S0 := Lib.hid (Rd.mono (T := fun b => b < w.heap.size) s0 fun b hb _ => hb)
  have S1 := Lib.hid (Rd.mono (T := fun b => b < w.heap.size) s1 fun b hb _ => hb)
  clear h s0 s1
  go_enter Try.func52, Try.ntmps52
  go_wp2_with (first | (at_builtin; refine wpList_apps rfl (.tmp 6) (.tmp 8) 23 rfl (base := w.heap.size + 3) (E := 3) (S := fun b => w.heap.size + 3 ≤ b) (fs := [.int .i64]) (k := 1) (bytes := 8) rfl (by decide) (by decide) (by decide) Try.underlying23 infoI (.slice none 0 0) [] rfl (OwnR.nil _ _ _ _ _) a0 _ c0 (ints c.voters) (T := fun b => b < w.heap.size) rfl ?c1 ?c2 ?c3 ?c4 ?_; rotate_right; intro v1 w1 ho1 hgc _; have BL1 := grown_none hgc rfl; have ka0 := (((Blk.newAt _ (w.heap.size) 25 #[.slice a0 (c.voters).length c0, .slice a1 (c.learners).length c1] (by simp)).alloc _).alloc _).below BL1 (by simp <;> omega); obtain ⟨qa0_0, qa0_1⟩ := box2 ka0; obtain ⟨fa0_0, fa0_1⟩ := thaw2 ka0; have ka1 := ((Blk.newAt _ (w.heap.size + 1) 25 #[.slice none 0 0, .slice none 0 0] (by simp)).alloc _).below BL1 (by simp <;> omega); obtain ⟨qa1_0, qa1_1⟩ := box2 ka1; obtain ⟨fa1_0, fa1_1⟩ := thaw2 ka1; have ka2 := (Blk.newAt _ (w.heap.size + 1 + 1) 25 #[.slice none 0 0, .slice none 0 0] (by simp)).below BL1 (by simp <;> omega); obtain ⟨qa2_0, qa2_1⟩ := box2 ka2; obtain ⟨fa2_0, fa2_1⟩ := thaw2 ka2; obtain ⟨x1, y1, rfl, hv1⟩ := OwnR.slI (xs := c.voters) ho1 (fun b => w.heap.size + 3 ≤ b) (fun _ h => h) (fun _ h => h) (by omega); clear hgc) | (at_builtin; refine wpList_apps rfl (.tmp 12) (.tmp 14) 23 rfl (base := w.heap.size + 3) (E := 3) (S := fun b => w.heap.size + 3 ≤ b) (fs := [.int .i64]) (k := 1) (bytes := 8) rfl (by decide) (by decide) (by decide) Try.underlying23 infoI (.slice none 0 0) [] rfl (OwnR.nil _ _ _ _ _) a1 _ c1 (ints c.learners) (T := fun b => b < w.heap.size) rfl ?d1 ?d2 ?d3 ?d4 ?_; rotate_right; intro v2 w2 ho2 hgd _; have BL2 := grown_none hgd rfl; have kb0 := (ka0.far (p := ⟨w.heap.size + 1 + 1, 0, none⟩) (by simp <;> omega) _).next BL2; have kb1 := (ka1.far (p := ⟨w.heap.size + 1 + 1, 0, none⟩) (by simp <;> omega) _).next BL2; have kb2 := (ka2.set 0 _).next BL2; clear qa0_0 qa0_1 qa1_0 qa1_1 qa2_0 qa2_1 fa0_0 fa0_1 fa1_0 fa1_1 fa2_0 fa2_1; obtain ⟨qb1_0, qb1_1⟩ := box2 kb1; obtain ⟨fb1_0, fb1_1⟩ := thaw2 kb1; obtain ⟨qb2_0, qb2_1⟩ := box2 kb2; obtain ⟨fb2_0, fb2_1⟩ := thaw2 kb2; obtain ⟨x2, y2, rfl, hv2⟩ := OwnR.slI (xs := c.learners) ho2 (fun b => w.heap.size + 3 ≤ b) (fun _ h => h) (fun _ h => h) (by omega); have hv3 := Lib.hid ((hv1.set (p := ⟨w.heap.size + 1 + 1, 0, none⟩) (by simp <;> omega) _).next BL2); have hv4 := Lib.hid hv2; clear hv1 hv2 hgd))
  · have kf := ((kb1.far (p := ⟨w.heap.size + 1 + 1, 1, none⟩) (by simp <;> omega) (.slice x2 c.learners.length y2)).set 0 (.slice x1 c.voters.length y1)).set 1 (.slice x2 c.learners.length y2)
    have g0 := kf.cell 0
    have g1 := kf.cell 1
    have B2 : Below w.heap.size w w2 := (((((Below.refl w.heap.size w).alloc (Nat.le_refl _) _).alloc (by simp) _).alloc (by simp <;> omega) _).trans (BL1.mono (by simp <;> omega))).setCell (p := ⟨w.heap.size + 1 + 1, 0, none⟩) (by simp <;> omega) _ |>.trans (BL2.mono (by simp [World.setCell]; have := BL1.size; simp at this; omega))
    refine bodyPost_ret (v := .agg #[.slice x1 c.voters.length y1, .slice x2 c.learners.length y2]) (by simp [results, Try.results52, go_sem, g0, g1]) rfl ⟨[_, _], rfl, ?_, ?_⟩
    · exact RdL.mono (fun b _ hb => by show w.heap.size ≤ b; omega) (Config.shuts (S := fun b => w.heap.size + 3 ≤ b) c (((hv3.out.set (by show ¬ _; simp <;> omega) _).set (by show ¬ _; simp <;> omega) _).set (by show ¬ _; simp <;> omega) _) (((hv4.out.set (by show ¬ _; simp <;> omega) _).set (by show ¬ _; simp <;> omega) _).set (by show ¬ _; simp <;> omega) _))
    · exact ((B2.setCell (by simp <;> omega) _).setCell (by simp <;> omega) _).setCell (by simp <;> omega) _
  case c1 => exact (S0.out.same (Same.below ((((Below.refl _ _).alloc (Nat.le_refl _) _).alloc (by simp) _).alloc (by simp <;> omega) _)))
  case c2 => exact flat_in (by decide)
  case c3 => simp [ints]; omega
  case c4 => simp
  case d1 => exact ((S1.out.same (Same.below ((((Below.refl _ _).alloc (Nat.le_refl _) _).alloc (by simp) _).alloc (by simp <;> omega) _))).next BL1).set (by show ¬ _; simp <;> omega) _
  case d2 => exact flat_in (by decide)
  case d3 => simp [ints]; omega
  case d4 =>
    have := BL1.size
    simp at this
    simp [World.setCell]; omega
set_option maxHeartbeats 1000000 in
theorem entry_any (vs : List Value) (x : Entry) (w : World) (S : Nat → Prop) (h : RdL w S Entry.ty vs x.enc) (h1 : x.config.voters.length ≤ 1000000) (h2 : x.config.learners.length ≤ 1000000) :
    Calls Try.prog 39 #[.agg vs.toArray] w (APost w Entry.ty x.enc) := by
  obtain ⟨a3, c3, a4, c4, rfl, b0, b1, b2, s3, s4, b5⟩ := Entry.opens h
  have B0 : Below w.heap.size w ((w.alloc (.cells #[.int .i64 x.index, .int .i64 x.term, .int .i64 x.kind, .slice a3 (x.config.voters).length c3, .slice a4 (x.config.learners).length c4, .string x.data] 54)).alloc (.cells #[.int .i64 0, .int .i64 0, .int .i64 0, .slice none 0 0, .slice none 0 0, .string ⟨#[]⟩] 54)) := ((Below.refl _ w).alloc (Nat.le_refl _) _).alloc (by simp) _
  have hcall := config_any _ x.config _ _ (Config.shuts x.config (s3.same (Same.below B0)) (s4.same (Same.below B0))) h1 h2
  have HC := Lib.hid hcall
  have HB0 := Lib.hid B0
  clear h s3 s4 hcall B0
  go_enter Try.func39, Try.ntmps39
  go_wp2_with fail
  refine HC.out.mono ?_
  rintro e w1 ⟨vs1, rfl, hr1, P1⟩
  obtain ⟨y0, z0, y1, z1, rfl, u0, u1⟩ := Config.opens hr1
  have ka0 := ((Blk.newAt _ (w.heap.size) 54 #[.int .i64 x.index, .int .i64 x.term, .int .i64 x.kind, .slice a3 (x.config.voters).length c3, .slice a4 (x.config.learners).length c4, .string x.data] (by simp)).alloc _).below P1 (by simp <;> omega); obtain ⟨qa0_0, qa0_1, qa0_2, qa0_3, qa0_4, qa0_5⟩ := box6 ka0; obtain ⟨fa0_0, fa0_1, fa0_2, fa0_3, fa0_4, fa0_5⟩ := thaw6 ka0; have ka1 := (Blk.newAt _ (w.heap.size + 1) 54 #[.int .i64 0, .int .i64 0, .int .i64 0, .slice none 0 0, .slice none 0 0, .string ⟨#[]⟩] (by simp)).below P1 (by simp <;> omega); obtain ⟨qa1_0, qa1_1, qa1_2, qa1_3, qa1_4, qa1_5⟩ := box6 ka1; obtain ⟨fa1_0, fa1_1, fa1_2, fa1_3, fa1_4, fa1_5⟩ := thaw6 ka1
  have hz := P1.size
  simp at hz
  have U0 := Lib.hid u0
  have U1 := Lib.hid u1
  have BB := Lib.hid (HB0.out.trans (P1.mono (by simp <;> omega)))
  clear hr1 u0 u1 P1
  go_wp2_with fail
  have kb := (ka0.set 3 (.slice y0 x.config.voters.length z0)).set 4 (.slice y1 x.config.learners.length z1)
  have kc0 := (ka1.far (p := ⟨w.heap.size, 3, none⟩) (by simp <;> omega) (.slice y0 x.config.voters.length z0)).far (p := ⟨w.heap.size, 4, none⟩) (by simp <;> omega) (.slice y1 x.config.learners.length z1)
  have kd0 := kc0.set 0 (.int .i64 x.index)
  have kd1 := kd0.set 1 (.int .i64 x.term)
  have kd2 := kd1.set 2 (.int .i64 x.kind)
  have kd3 := kd2.set 3 (.slice y0 x.config.voters.length z0)
  have kd4 := kd3.set 4 (.slice y1 x.config.learners.length z1)
  have kd5 := kd4.set 5 (.string x.data)
  have g0 := kd5.cell 0
  have g1 := kd5.cell 1
  have g2 := kd5.cell 2
  have g3 := kd5.cell 3
  have g4 := kd5.cell 4
  have g5 := kd5.cell 5
  refine bodyPost_ret (v := .agg #[.int .i64 x.index, .int .i64 x.term, .int .i64 x.kind, .slice y0 x.config.voters.length z0, .slice y1 x.config.learners.length z1, .string x.data]) (by simp [results, Try.results39, go_sem, g0, g1, g2, g3, g4, g5]) rfl ⟨[_, _, _, _, _, _], rfl, ?_, ?_⟩
  · have n0 : ¬ (fun b => ((w.alloc (.cells #[.int .i64 x.index, .int .i64 x.term, .int .i64 x.kind, .slice a3 (x.config.voters).length c3, .slice a4 (x.config.learners).length c4, .string x.data] 54)).alloc (.cells #[.int .i64 0, .int .i64 0, .int .i64 0, .slice none 0 0, .slice none 0 0, .string ⟨#[]⟩] 54)).heap.size ≤ b) w.heap.size := by simp <;> omega
    have n1 : ¬ (fun b => ((w.alloc (.cells #[.int .i64 x.index, .int .i64 x.term, .int .i64 x.kind, .slice a3 (x.config.voters).length c3, .slice a4 (x.config.learners).length c4, .string x.data] 54)).alloc (.cells #[.int .i64 0, .int .i64 0, .int .i64 0, .slice none 0 0, .slice none 0 0, .string ⟨#[]⟩] 54)).heap.size ≤ b) (w.heap.size + 1) := by simp
    refine RdL.mono (fun b _ hb => ?_) (Entry.shuts (S := fun b => ((w.alloc (.cells #[.int .i64 x.index, .int .i64 x.term, .int .i64 x.kind, .slice a3 (x.config.voters).length c3, .slice a4 (x.config.learners).length c4, .string x.data] 54)).alloc (.cells #[.int .i64 0, .int .i64 0, .int .i64 0, .slice none 0 0, .slice none 0 0, .string ⟨#[]⟩] 54)).heap.size ≤ b) x b0 b1 b2 (((((((((U0.out).set n0 _).set n0 _).set n1 _).set n1 _).set n1 _).set n1 _).set n1 _).set n1 _) (((((((((U1.out).set n0 _).set n0 _).set n1 _).set n1 _).set n1 _).set n1 _).set n1 _).set n1 _) b5)
    simp at hb
    show w.heap.size ≤ b
    omega
  · exact ((((((((BB.out).setCell (by simp <;> omega) _).setCell (by simp <;> omega) _).setCell (by simp <;> omega) _).setCell (by simp <;> omega) _).setCell (by simp <;> omega) _).setCell (by simp <;> omega) _).setCell (by simp <;> omega) _).setCell (by simp <;> omega) _
set_option maxHeartbeats 1000000 in
theorem snap_any (vs : List Value) (x : Snap) (w : World) (S : Nat → Prop) (h : RdL w S Snap.ty vs x.enc) (h1 : x.config.voters.length ≤ 1000000) (h2 : x.config.learners.length ≤ 1000000) :
    Calls Try.prog 38 #[.agg vs.toArray] w (APost w Snap.ty x.enc) := by
  obtain ⟨a2, c2, a3, c3, rfl, b0, b1, s2, s3, b4⟩ := Snap.opens h
  have B0 : Below w.heap.size w ((w.alloc (.cells #[.int .i64 x.index, .int .i64 x.term, .slice a2 (x.config.voters).length c2, .slice a3 (x.config.learners).length c3, .string x.data] 27)).alloc (.cells #[.int .i64 0, .int .i64 0, .slice none 0 0, .slice none 0 0, .string ⟨#[]⟩] 27)) := ((Below.refl _ w).alloc (Nat.le_refl _) _).alloc (by simp) _
  have hcall := config_any _ x.config _ _ (Config.shuts x.config (s2.same (Same.below B0)) (s3.same (Same.below B0))) h1 h2
  have HC := Lib.hid hcall
  have HB0 := Lib.hid B0
  clear h s2 s3 hcall B0
  go_enter Try.func38, Try.ntmps38
  go_wp2_with fail
  refine HC.out.mono ?_
  rintro e w1 ⟨vs1, rfl, hr1, P1⟩
  obtain ⟨y0, z0, y1, z1, rfl, u0, u1⟩ := Config.opens hr1
  have ka0 := ((Blk.newAt _ (w.heap.size) 27 #[.int .i64 x.index, .int .i64 x.term, .slice a2 (x.config.voters).length c2, .slice a3 (x.config.learners).length c3, .string x.data] (by simp)).alloc _).below P1 (by simp <;> omega); obtain ⟨qa0_0, qa0_1, qa0_2, qa0_3, qa0_4⟩ := box5 ka0; obtain ⟨fa0_0, fa0_1, fa0_2, fa0_3, fa0_4⟩ := thaw5 ka0; have ka1 := (Blk.newAt _ (w.heap.size + 1) 27 #[.int .i64 0, .int .i64 0, .slice none 0 0, .slice none 0 0, .string ⟨#[]⟩] (by simp)).below P1 (by simp <;> omega); obtain ⟨qa1_0, qa1_1, qa1_2, qa1_3, qa1_4⟩ := box5 ka1; obtain ⟨fa1_0, fa1_1, fa1_2, fa1_3, fa1_4⟩ := thaw5 ka1
  have hz := P1.size
  simp at hz
  have U0 := Lib.hid u0
  have U1 := Lib.hid u1
  have BB := Lib.hid (HB0.out.trans (P1.mono (by simp <;> omega)))
  clear hr1 u0 u1 P1
  go_wp2_with fail
  have kb := (ka0.set 2 (.slice y0 x.config.voters.length z0)).set 3 (.slice y1 x.config.learners.length z1)
  have kc0 := (ka1.far (p := ⟨w.heap.size, 2, none⟩) (by simp <;> omega) (.slice y0 x.config.voters.length z0)).far (p := ⟨w.heap.size, 3, none⟩) (by simp <;> omega) (.slice y1 x.config.learners.length z1)
  have kd0 := kc0.set 0 (.int .i64 x.index)
  have kd1 := kd0.set 1 (.int .i64 x.term)
  have kd2 := kd1.set 2 (.slice y0 x.config.voters.length z0)
  have kd3 := kd2.set 3 (.slice y1 x.config.learners.length z1)
  have kd4 := kd3.set 4 (.string x.data)
  have g0 := kd4.cell 0
  have g1 := kd4.cell 1
  have g2 := kd4.cell 2
  have g3 := kd4.cell 3
  have g4 := kd4.cell 4
  refine bodyPost_ret (v := .agg #[.int .i64 x.index, .int .i64 x.term, .slice y0 x.config.voters.length z0, .slice y1 x.config.learners.length z1, .string x.data]) (by simp [results, Try.results38, go_sem, g0, g1, g2, g3, g4]) rfl ⟨[_, _, _, _, _], rfl, ?_, ?_⟩
  · have n0 : ¬ (fun b => ((w.alloc (.cells #[.int .i64 x.index, .int .i64 x.term, .slice a2 (x.config.voters).length c2, .slice a3 (x.config.learners).length c3, .string x.data] 27)).alloc (.cells #[.int .i64 0, .int .i64 0, .slice none 0 0, .slice none 0 0, .string ⟨#[]⟩] 27)).heap.size ≤ b) w.heap.size := by simp <;> omega
    have n1 : ¬ (fun b => ((w.alloc (.cells #[.int .i64 x.index, .int .i64 x.term, .slice a2 (x.config.voters).length c2, .slice a3 (x.config.learners).length c3, .string x.data] 27)).alloc (.cells #[.int .i64 0, .int .i64 0, .slice none 0 0, .slice none 0 0, .string ⟨#[]⟩] 27)).heap.size ≤ b) (w.heap.size + 1) := by simp
    refine RdL.mono (fun b _ hb => ?_) (Snap.shuts (S := fun b => ((w.alloc (.cells #[.int .i64 x.index, .int .i64 x.term, .slice a2 (x.config.voters).length c2, .slice a3 (x.config.learners).length c3, .string x.data] 27)).alloc (.cells #[.int .i64 0, .int .i64 0, .slice none 0 0, .slice none 0 0, .string ⟨#[]⟩] 27)).heap.size ≤ b) x b0 b1 ((((((((U0.out).set n0 _).set n0 _).set n1 _).set n1 _).set n1 _).set n1 _).set n1 _) ((((((((U1.out).set n0 _).set n0 _).set n1 _).set n1 _).set n1 _).set n1 _).set n1 _) b4)
    simp at hb
    show w.heap.size ≤ b
    omega
  · exact (((((((BB.out).setCell (by simp <;> omega) _).setCell (by simp <;> omega) _).setCell (by simp <;> omega) _).setCell (by simp <;> omega) _).setCell (by simp <;> omega) _).setCell (by simp <;> omega) _).setCell (by simp <;> omega) _
end Go.Proofs.Yteiojclemodhaaa
