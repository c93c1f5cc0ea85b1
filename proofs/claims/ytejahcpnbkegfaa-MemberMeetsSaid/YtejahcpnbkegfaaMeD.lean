/- member.Check, All, has, Voter, Reached. Condition: a struct that reads as a configuration, of at most 10^6 numbers in each. -/
import Derived.Test.YtejahcpnbkegfaaMeC
namespace Go.Proofs.Ytejahcpnbkegfaa
open Go.RowKit
set_option linter.unusedVariables false
set_option linter.unusedSimpArgs false
theorem run_two (a : Option Addr) (n c : Nat) (b : Option Addr) (m d : Nat) (W : World) : (Instr.field 51 (.agg #[.slice a n c, .slice b m d]) 0).run Try.prog W = .ok (.agg #[.slice a n c, .slice b m d]) W := by rfl
def errM (b : Bool) : Int := if b then 0 else 160
theorem errM_t : errM true = 0 := rfl
theorem errM_f : errM false = 160 := rfl
set_option maxRecDepth 100000 in
set_option maxHeartbeats 2000000 in
theorem mcheck_any (vs : List Value) (c : Config) (w : World) (S : Nat → Prop) (h : RdL w S Config.ty vs c.enc) (hs : SmallC c) :
    Calls Try.prog 9 #[.agg vs.toArray] w (IPost w (errM (mayB c))) := by
  have HM := Lib.hid (fun W (hb : Below w.heap.size w W) => may_any vs c W S (RdL.same (Same.below hb) h) hs)
  obtain ⟨a0, c0, a1, c1, rfl, s0, s1⟩ := Config.opens h
  have HB0 := Lib.hid ((Below.refl w.heap.size w).alloc (Nat.le_refl _) (.cells #[.slice a0 (c.voters).length c0, .slice a1 (c.learners).length c1] 25))
  have hfl := fun W : World => run_two a0 c.voters.length c0 a1 c.learners.length c1 W
  clear h s0 s1
  cases hm : mayB c
  all_goals
    have HR := Lib.hid hm
    clear hm
    go_enter Try.func9, Try.ntmps9
    go_wp2_with fail
    refine (mask_any _ _ _ _ _ _ _).mono ?_
    rintro e w1 ⟨rfl, P1⟩
    have HB1 := Lib.hid (tr_below P1 HB0.out)
    clear P1
    go_wp2_with fail
    refine (HM.out _ HB1.out).mono ?_
    rw [HR.out]
    rintro e w2 ⟨rfl, P2⟩
    have HB2 := Lib.hid (tr_below P2 HB1.out)
    clear P2
    go_wp2_with fail
    go_ret
    exact ⟨rfl, HB2.out⟩
noncomputable def allL (c : Config) : List Int := if mayB c = true then bothL c else []
theorem OwnI.next {base : Nat} {w w' : World} {v : Value} {xs : List Int} (h : OwnI base w v xs) (hb : Below w.heap.size w w') : OwnI base w' v xs := h.below hb (Nat.le_refl _)
set_option maxRecDepth 100000 in
set_option maxHeartbeats 2000000 in
theorem mall_any (vs : List Value) (c : Config) (w : World) (S : Nat → Prop) (h : RdL w S Config.ty vs c.enc) (hs : SmallC c) :
    Calls Try.prog 10 #[.agg vs.toArray] w (OwnPost w (allL c)) := by
  have HM := Lib.hid (fun W (hb : Below w.heap.size w W) => may_any vs c W S (RdL.same (Same.below hb) h) hs)
  obtain ⟨a0, c0, a1, c1, rfl, s0, s1⟩ := Config.opens h
  have HB0 := Lib.hid ((Below.refl w.heap.size w).alloc (Nat.le_refl _) (.cells #[.slice a0 (c.voters).length c0, .slice a1 (c.learners).length c1] 25))
  have KB := Lib.hid (Blk.new w 25 #[.slice a0 (c.voters).length c0, .slice a1 (c.learners).length c1])
  have HBO := Lib.hid (fun W (hb : Below w.heap.size w W) => both_c a0 _ c0 c.voters a1 _ c1 c.learners W (IntSl.ofSl (s0.same (Same.below hb))) (IntSl.ofSl (s1.same (Same.below hb))) (nil_cap s0) (nil_cap s1) (by have := hs.1; omega) (by have := hs.2; omega))
  have hfl := fun W : World => run_two a0 c.voters.length c0 a1 c.learners.length c1 W
  clear h s0 s1
  cases hm : mayB c
  · have HR := Lib.hid hm
    have HL := Lib.hid (show allL c = [] by simp [allL, hm])
    clear hm
    go_enter Try.func10, Try.ntmps10
    go_wp2_with fail
    refine (mask_any _ _ _ _ _ _ _).mono ?_
    rintro e w1 ⟨rfl, P1⟩
    have HB1 := Lib.hid (tr_below P1 HB0.out)
    clear P1
    go_wp2_with fail
    refine (HM.out _ HB1.out).mono ?_
    rw [HR.out]
    rintro e w2 ⟨rfl, P2⟩
    have HB2 := Lib.hid (tr_below P2 HB1.out)
    clear P2
    go_wp2_with fail
    go_ret
    rw [HL.out]
    exact ⟨_, rfl, OwnI.nil _ _, HB2.out⟩
  · have HR := Lib.hid hm
    have HL := Lib.hid (show allL c = bothL c by simp [allL, hm])
    clear hm
    go_enter Try.func10, Try.ntmps10
    go_wp2_with fail
    refine (mask_any _ _ _ _ _ _ _).mono ?_
    rintro e w1 ⟨rfl, P1⟩
    have HB1 := Lib.hid (tr_below P1 HB0.out)
    have k1 := Lib.hid (KB.out.next P1)
    clear P1
    go_wp2_with fail
    refine (HM.out _ HB1.out).mono ?_
    rw [HR.out]
    rintro e w2 ⟨rfl, P2⟩
    have HB2 := Lib.hid (tr_below P2 HB1.out)
    have k2 := k1.out.next P2
    clear P2
    obtain ⟨q0, q1⟩ := box2 k2
    go_wp2_with fail
    refine (HBO.out _ HB2.out).mono ?_
    rintro e w3 ⟨v, rfl, ho, P3⟩
    have HB3 := Lib.hid (tr_below P3 HB2.out)
    have HO := Lib.hid (ho.mono HB2.out.size)
    clear P3 ho k2 q0 q1
    go_wp2_with fail
    go_ret
    rw [HL.out]
    exact ⟨_, rfl, HO.out, HB3.out⟩
def THas (w : World) (b1 b2 : Bool) (e : Ending) (w' : World) : Prop := e = .returned (.tuple #[.bool b1, .bool b2]) ∧ Below w.heap.size w w'
end Go.Proofs.Ytejahcpnbkegfaa
