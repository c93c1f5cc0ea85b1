/- Contract of the reference's Ask. Condition: a struct that reads as a holder, of at most 10^6 signs. -/
import Derived.Test.YtjfphnegcelbpaaHoF
namespace Go.Proofs.Ytjfphnegcelbpaa
open Go.RowKit
set_option linter.unusedVariables false
set_option linter.unusedSimpArgs false
theorem RdL.any {w : World} {S T : Nat → Prop} : ∀ {fs : List Ty} {vs : List Value} {ds : List D}, fs.all Ty.flat = true → RdL w S fs vs ds → RdL w T fs vs ds
  | [], [], [], _, _ => trivial
  | t :: ts, v :: vs, d :: ds, hf, h => by
    simp only [List.all_cons, Bool.and_eq_true] at hf
    exact ⟨h.1.any hf.1, RdL.any hf.2 h.2⟩
  | _ :: _, [], _, _, h => h.elim
  | _ :: _, _ :: _, [], _, h => h.elim
  | [], _ :: _, _, _, h => h.elim
  | [], [], _ :: _, _, h => h.elim
theorem OwnR.any {base : Nat} {w : World} {E : TypeId} {S T : Nat → Prop} {fs : List Ty} {v : Value} {rows : List (List D)} (hf : fs.all Ty.flat = true) (h : OwnR base w E S fs v rows) : OwnR base w E T fs v rows := by
  obtain ⟨cells, ho, hr⟩ := h
  exact ⟨cells, ho, fun i hi => RdL.any hf (hr i hi)⟩
theorem own_away {v v' : Value} {B W Y : Nat} (hat : v'.ownBlock = v.ownBlock ∨ ∃ g, v'.ownBlock = some g ∧ Y ≤ g) (hv : ∀ b, v.ownBlock = some b → B ≤ b ∧ b < W) (hY : W + 1 ≤ Y) : ∀ b, B ≤ b → v'.ownBlock = some b → B ≤ b ∧ b ≠ W := by
  intro b hb e
  rcases hat with h | ⟨g, h, hg⟩
  · rw [h] at e
    have := hv b e
    omega
  · rw [h] at e
    cases e
    omega
set_option maxHeartbeats 4000000 in
theorem rask_any (vs : List Value) (h : Holder) (w : World) (S : Nat → Prop) (hr : RdL w S Holder.ty vs h.enc) (hn : h.sent.length ≤ 1000000) :
    Calls Try.prog 17 #[.agg vs.toArray] w (H3Post w (askH h) (askN h) (askE h)) := by
  have hc1 := fun w' (hb : Below w.heap.size w w') => right_any vs h w' S (RdL.same (Same.below hb) hr)
  have hc2 := fun w' (hb : Below w.heap.size w w') => rhown_any vs h w' S (RdL.same (Same.below hb) hr) hn
  have HC1 := Lib.hid hc1
  have HC2 := Lib.hid hc2
  obtain ⟨a3, c3, rfl, b0, b1, b2, s3, b4, b5⟩ := Holder.opens hr
  have B0 : Below w.heap.size w ((w.alloc (.cells #[.int .i64 h.node, .int .i64 h.now, .int .i64 h.ask, .slice a3 (h.sent).length c3, .int .i64 h.seq, .int .i64 h.at_] 24)).alloc (.cells #[.int .i64 0, .int .i64 0, .int .i64 0, .slice none 0 0, .int .i64 0, .int .i64 0] 24)) := ((Below.refl _ w).alloc (Nat.le_refl _) _).alloc (by simp) _
  have HB0 := Lib.hid B0
  clear hr s3 B0 hc1 hc2
  cases hri : riB h
  · have HR := Lib.hid hri
    have HE := Lib.hid (show askE h = 1 by simp [askE, hri])
    have HH := Lib.hid (show askH h = h0 by rw [askH, HE.out]; rfl)
    have HN := Lib.hid (show askN h = 0 by rw [askN, HE.out]; rfl)
    clear hri
    go_enter Try.func17, Try.ntmps17
    go_wp2_with fail
    refine (HC1.out _ HB0.out).mono ?_
    rw [HR.out]
    rintro e w1 ⟨rfl, P1⟩
    have ka0 := ((Blk.newAt _ (w.heap.size) 24 #[.int .i64 h.node, .int .i64 h.now, .int .i64 h.ask, .slice a3 (h.sent).length c3, .int .i64 h.seq, .int .i64 h.at_] (by simp)).alloc _).below P1 (by simp <;> omega); obtain ⟨qa0_0, qa0_1, qa0_2, qa0_3, qa0_4, qa0_5⟩ := box6 ka0; obtain ⟨fa0_0, fa0_1, fa0_2, fa0_3, fa0_4, fa0_5⟩ := thaw6 ka0; have ka1 := (Blk.newAt _ (w.heap.size + 1) 24 #[.int .i64 0, .int .i64 0, .int .i64 0, .slice none 0 0, .int .i64 0, .int .i64 0] (by simp)).below P1 (by simp <;> omega); obtain ⟨qa1_0, qa1_1, qa1_2, qa1_3, qa1_4, qa1_5⟩ := box6 ka1; obtain ⟨fa1_0, fa1_1, fa1_2, fa1_3, fa1_4, fa1_5⟩ := thaw6 ka1
    have hz := P1.size
    simp at hz
    have BB := Lib.hid (HB0.out.trans (P1.mono (by simp <;> omega)))
    clear P1
    go_wp2_with fail
    obtain ⟨Z, hZ⟩ : ∃ W : World, ((((((w1.setCell ⟨w.heap.size + 1, 0, none⟩ (.int .i64 0)).setCell ⟨w.heap.size + 1, 1, none⟩ (.int .i64 0)).setCell ⟨w.heap.size + 1, 2, none⟩ (.int .i64 0)).setCell ⟨w.heap.size + 1, 3, none⟩ (.slice none 0 0)).setCell ⟨w.heap.size + 1, 4, none⟩ (.int .i64 0)).setCell ⟨w.heap.size + 1, 5, none⟩ (.int .i64 0)) = W := ⟨_, rfl⟩; rw [hZ]; have ka1Z := put6_self ka1 (.int .i64 0) (.int .i64 0) (.int .i64 0) (.slice none 0 0) (.int .i64 0) (.int .i64 0); rw [hZ] at ka1Z; have BBZ := Lib.hid (put6_below BB.out (by omega) (b := w.heap.size + 1) (.int .i64 0) (.int .i64 0) (.int .i64 0) (.slice none 0 0) (.int .i64 0) (.int .i64 0)); rw [hZ] at BBZ; have zZ : w1.heap.size ≤ Z.heap.size := (by rw [← hZ] <;> simp [World.setCell]); clear hZ
    obtain ⟨q0, q1, q2, q3, q4, q5⟩ := box6 ka1Z
    rw [HE.out, HH.out, HN.out]
    refine bodyPost_ret (v := .tuple #[.agg #[.int .i64 0, .int .i64 0, .int .i64 0, .slice none 0 0, .int .i64 0, .int .i64 0], .int .i64 0, .int .i64 1]) (by simp [results, Try.results17, go_sem, q0, q1, q2, q3, q4, q5]) rfl ?_
    exact ⟨[.int .i64 0, .int .i64 0, .int .i64 0, .slice none 0 0, .int .i64 0, .int .i64 0], rfl, h0_rd _ _, BBZ.out⟩
  by_cases hw : 1000000000 ≤ h.ask
  · have HR := Lib.hid hri
    have HE := Lib.hid (show askE h = 2 by simp [askE, hri, hw])
    have HH := Lib.hid (show askH h = h0 by rw [askH, HE.out]; rfl)
    have HN := Lib.hid (show askN h = 0 by rw [askN, HE.out]; rfl)
    clear hri
    go_enter Try.func17, Try.ntmps17
    go_wp2_with fail
    refine (HC1.out _ HB0.out).mono ?_
    rw [HR.out]
    rintro e w1 ⟨rfl, P1⟩
    have ka0 := ((Blk.newAt _ (w.heap.size) 24 #[.int .i64 h.node, .int .i64 h.now, .int .i64 h.ask, .slice a3 (h.sent).length c3, .int .i64 h.seq, .int .i64 h.at_] (by simp)).alloc _).below P1 (by simp <;> omega); obtain ⟨qa0_0, qa0_1, qa0_2, qa0_3, qa0_4, qa0_5⟩ := box6 ka0; obtain ⟨fa0_0, fa0_1, fa0_2, fa0_3, fa0_4, fa0_5⟩ := thaw6 ka0; have ka1 := (Blk.newAt _ (w.heap.size + 1) 24 #[.int .i64 0, .int .i64 0, .int .i64 0, .slice none 0 0, .int .i64 0, .int .i64 0] (by simp)).below P1 (by simp <;> omega); obtain ⟨qa1_0, qa1_1, qa1_2, qa1_3, qa1_4, qa1_5⟩ := box6 ka1; obtain ⟨fa1_0, fa1_1, fa1_2, fa1_3, fa1_4, fa1_5⟩ := thaw6 ka1
    have hz := P1.size
    simp at hz
    have BB := Lib.hid (HB0.out.trans (P1.mono (by simp <;> omega)))
    clear P1
    go_wp2_with fail
    obtain ⟨Z, hZ⟩ : ∃ W : World, ((((((w1.setCell ⟨w.heap.size + 1, 0, none⟩ (.int .i64 0)).setCell ⟨w.heap.size + 1, 1, none⟩ (.int .i64 0)).setCell ⟨w.heap.size + 1, 2, none⟩ (.int .i64 0)).setCell ⟨w.heap.size + 1, 3, none⟩ (.slice none 0 0)).setCell ⟨w.heap.size + 1, 4, none⟩ (.int .i64 0)).setCell ⟨w.heap.size + 1, 5, none⟩ (.int .i64 0)) = W := ⟨_, rfl⟩; rw [hZ]; have ka1Z := put6_self ka1 (.int .i64 0) (.int .i64 0) (.int .i64 0) (.slice none 0 0) (.int .i64 0) (.int .i64 0); rw [hZ] at ka1Z; have BBZ := Lib.hid (put6_below BB.out (by omega) (b := w.heap.size + 1) (.int .i64 0) (.int .i64 0) (.int .i64 0) (.slice none 0 0) (.int .i64 0) (.int .i64 0)); rw [hZ] at BBZ; have zZ : w1.heap.size ≤ Z.heap.size := (by rw [← hZ] <;> simp [World.setCell]); clear hZ
    obtain ⟨q0, q1, q2, q3, q4, q5⟩ := box6 ka1Z
    rw [HE.out, HH.out, HN.out]
    refine bodyPost_ret (v := .tuple #[.agg #[.int .i64 0, .int .i64 0, .int .i64 0, .slice none 0 0, .int .i64 0, .int .i64 0], .int .i64 0, .int .i64 2]) (by simp [results, Try.results17, go_sem, q0, q1, q2, q3, q4, q5]) rfl ?_
    exact ⟨[.int .i64 0, .int .i64 0, .int .i64 0, .slice none 0 0, .int .i64 0, .int .i64 0], rfl, h0_rd _ _, BBZ.out⟩
  · have HR := Lib.hid hri
    have HE := Lib.hid (show askE h = 0 by simp [askE, hri, hw])
    have HH := Lib.hid (show askH h = h.asked by rw [askH, HE.out]; rfl)
    have HN := Lib.hid (show askN h = h.ask + 1 by rw [askN, HE.out]; rfl)
    obtain ⟨m1, m2, m3, m4, m5, m6, m7, m8⟩ := ri_now2 hri
    clear hri
    go_enter Try.func17, Try.ntmps17
    go_wp2_with fail
    refine (HC1.out _ HB0.out).mono ?_
    rw [HR.out]
    rintro e w1 ⟨rfl, P1⟩
    have ka0 := ((Blk.newAt _ (w.heap.size) 24 #[.int .i64 h.node, .int .i64 h.now, .int .i64 h.ask, .slice a3 (h.sent).length c3, .int .i64 h.seq, .int .i64 h.at_] (by simp)).alloc _).below P1 (by simp <;> omega); obtain ⟨qa0_0, qa0_1, qa0_2, qa0_3, qa0_4, qa0_5⟩ := box6 ka0; obtain ⟨fa0_0, fa0_1, fa0_2, fa0_3, fa0_4, fa0_5⟩ := thaw6 ka0; have ka1 := (Blk.newAt _ (w.heap.size + 1) 24 #[.int .i64 0, .int .i64 0, .int .i64 0, .slice none 0 0, .int .i64 0, .int .i64 0] (by simp)).below P1 (by simp <;> omega); obtain ⟨qa1_0, qa1_1, qa1_2, qa1_3, qa1_4, qa1_5⟩ := box6 ka1; obtain ⟨fa1_0, fa1_1, fa1_2, fa1_3, fa1_4, fa1_5⟩ := thaw6 ka1
    have hz := P1.size
    simp at hz
    have BB := Lib.hid (HB0.out.trans (P1.mono (by simp <;> omega)))
    clear P1
    go_wp2_with fail
    refine (HC2.out _ BB.out).mono ?_
    rintro e w2 ⟨v, rfl, ho, P2⟩
    obtain ⟨av, cv, rfl⟩ := ho.form
    have HO := Lib.hid ho
    rw [List.length_map] at HO
    have kb0 := ka0.below P2 (by omega)
    have kb1 := ka1.below P2 (by omega)
    have hz2 := P2.size
    have BB2 := Lib.hid (BB.out.trans (P2.mono (by omega)))
    clear P2 ho qa0_0 qa0_1 qa0_2 qa0_3 qa0_4 qa0_5 qa1_0 qa1_1 qa1_2 qa1_3 qa1_4 qa1_5 fa0_0 fa0_1 fa0_2 fa0_3 fa0_4 fa0_5 fa1_0 fa1_1 fa1_2 fa1_3 fa1_4 fa1_5
    obtain ⟨q0, q1, q2, q3, q4, q5⟩ := box6 kb0
    obtain ⟨f0, f1, f2, f3, f4, f5⟩ := thaw6 kb0
    rw [List.length_map]
    go_upto_region 7 with fail
    clear q0 q1 q2 q3 q4 q5 f0 f1 f2 f3 f4 f5
    obtain ⟨Y, hY⟩ : ∃ W : World, w2.alloc (.cells #[.int .i64 h.node, .int .i64 h.now, .int .i64 (h.ask + 1), .slice av h.sent.length cv, .int .i64 h.seq, .int .i64 h.at_] 24) = W := ⟨_, rfl⟩; rw [hY]; have kcY := Blk.new w2 24 #[.int .i64 h.node, .int .i64 h.now, .int .i64 (h.ask + 1), .slice av h.sent.length cv, .int .i64 h.seq, .int .i64 h.at_]; rw [hY] at kcY; have kb0Y := kb0.alloc (.cells #[.int .i64 h.node, .int .i64 h.now, .int .i64 (h.ask + 1), .slice av h.sent.length cv, .int .i64 h.seq, .int .i64 h.at_] 24); rw [hY] at kb0Y; have kb1Y := kb1.alloc (.cells #[.int .i64 h.node, .int .i64 h.now, .int .i64 (h.ask + 1), .slice av h.sent.length cv, .int .i64 h.seq, .int .i64 h.at_] 24); rw [hY] at kb1Y; have HOY := Lib.hid (HO.out.alloc (.cells #[.int .i64 h.node, .int .i64 h.now, .int .i64 (h.ask + 1), .slice av h.sent.length cv, .int .i64 h.seq, .int .i64 h.at_] 24)); rw [hY] at HOY; have BB2Y := Lib.hid (BB2.out.alloc BB2.out.size (.cells #[.int .i64 h.node, .int .i64 h.now, .int .i64 (h.ask + 1), .slice av h.sent.length cv, .int .i64 h.seq, .int .i64 h.at_] 24)); rw [hY] at BB2Y; have zY : w2.heap.size + 1 ≤ Y.heap.size := (by rw [← hY] <;> simp); clear hY
    obtain ⟨q0, q1, q2, q3, q4, q5⟩ := box6 kcY
    obtain ⟨f0, f1, f2, f3, f4, f5⟩ := thaw6 kcY
    obtain ⟨r0, r1, r2, r3, r4, r5⟩ := box6 kb0Y
    have HLN := Lib.hid (show (h.sent.map Sent.enc).length = h.sent.length from List.length_map ..)
    have HVL := Lib.hid HO.out.lt
    have HD := Lib.hid (show RdL Y (fun b => w1.heap.size ≤ b ∧ (Value.slice av h.sent.length cv).ownBlock ≠ some b) Sent.ty [.int .i64 (h.ask + 1), .int .i64 h.now] (Sent.enc ⟨h.ask + 1, h.now⟩) from Sent.shuts ⟨h.ask + 1, h.now⟩ ⟨by show -9223372036854775808 ≤ h.ask + 1; omega, by show h.ask + 1 ≤ _; omega⟩ b1)
    have hzY : w1.heap.size ≤ Y.heap.size := by omega
    obtain ⟨N, hN⟩ : ∃ N, h.sent.length + 1 = N := ⟨_, rfl⟩
    have HL4 := Lib.hid (show (h.asks.map Sent.enc).length = N by rw [List.length_map, Holder.asks, List.length_append]; exact hN)
    have HE4 := Lib.hid (show h.sent.map Sent.enc ++ [Sent.enc ⟨h.ask + 1, h.now⟩] = h.asks.map Sent.enc by simp [Holder.asks])
    have HNN := Lib.hid hN
    have hN1 : 1 ≤ N := by omega
    have hN2 : N ≤ 17 := by omega
    clear hN
    have hx : N ≤ 17592186044416 := by omega
    have HOF := Lib.hid (HOY.out.any (T := fun _ => False) (by decide))
    have HDF := Lib.hid (RdL.any (T := fun b => False ∧ (Value.slice av h.sent.length cv).ownBlock ≠ some b) (by decide) HD.out)
    have HVY := Lib.hid (fun b (e : (Value.slice av h.sent.length cv).ownBlock = some b) => HVL.out b e)
    go_upto_region 8 with (at_builtin; refine wpList_app rfl (.tmp 21) (.tmp 27) 22 rfl (base := w1.heap.size) (E := 51) (S := fun _ => False) (fs := Sent.ty) (k := 2) (bytes := 16) rfl (by decide) (by decide) (by decide) Try.underlying22 infoSe _ (h.sent.map Sent.enc) rfl HOF.out _ (Sent.enc ⟨h.ask + 1, h.now⟩) HDF.out 51 _ rfl rfl (by rw [HLN.out]; omega) hzY ?_; intro v' w4 ho4 hg4 hat4; rw [HE4.out] at ho4; have hl4 := HL4.out; obtain ⟨a4, c4, e4, hs4⟩ := ho4.slO (fun b => w1.heap.size ≤ b ∧ b ≠ w2.heap.size) (fun b hb => hb.elim) (own_away hat4 HVY.out zY) (by rw [hl4]; omega); rw [hl4] at e4 hs4; subst e4; have HS4 := Lib.hid hs4; have kc4 := kcY.grown hg4 (fun e => by have := (HVY.out _ e.symm).2; omega); have k04 := kb0Y.grown hg4 (fun e => by have := (HVY.out _ e.symm).1; omega); have k14 := kb1Y.grown hg4 (fun e => by have := (HVY.out _ e.symm).1; omega); have BB4 := Lib.hid (BB2Y.out.grown hg4 (by omega) (fun g e => by have := (HVY.out _ e).1; omega)); have hz4 := hg4.size; clear ho4 hg4 hat4 hl4 hs4 q0 q1 q2 q3 q4 q5 f0 f1 f2 f3 f4 f5; obtain ⟨q0, q1, q2, q3, q4, q5⟩ := box6 kc4; obtain ⟨f0, f1, f2, f3, f4, f5⟩ := thaw6 kc4)
    clear q0 q1 q2 q3 q4 q5 f0 f1 f2 f3 f4 f5 r0 r1 r2 r3 r4 r5
    obtain ⟨V, hV⟩ : ∃ W : World, (w4.setCell ⟨w2.heap.size, 3, none⟩ (.slice a4 N c4)) = W := ⟨_, rfl⟩; rw [hV]; have kc4V := Blk.put1 kc4 3 (.slice a4 N c4) #[.int .i64 h.node, .int .i64 h.now, .int .i64 (h.ask + 1), .slice a4 N c4, .int .i64 h.seq, .int .i64 h.at_] rfl; rw [hV] at kc4V; have k04V := put1_far k04 (by omega) (b := w2.heap.size) (3) (.slice a4 N c4); rw [hV] at k04V; have k14V := put1_far k14 (by omega) (b := w2.heap.size) (3) (.slice a4 N c4); rw [hV] at k14V; have BB4V := Lib.hid (put1_below BB4.out (by omega) (b := w2.heap.size) (3) (.slice a4 N c4)); rw [hV] at BB4V; have HS4V := Lib.hid (put1_sl HS4.out (by show ¬ _; omega) (b := w2.heap.size) (3) (.slice a4 N c4)); rw [hV] at HS4V; have zV : w4.heap.size ≤ V.heap.size := (by rw [← hV] <;> simp [World.setCell]); clear hV
    obtain ⟨q0, q1, q2, q3, q4, q5⟩ := box6 kc4V
    obtain ⟨f0, f1, f2, f3, f4, f5⟩ := thaw6 kc4V
    have hdr : h.asked.sent = h.asks.drop (N - 16) := by have := HNN.out; rw [← this]; rfl
    have HDR := Lib.hid hdr
    clear hdr
    by_cases hle : N ≤ 16
    · have hs5 : Sl V (fun b => w1.heap.size ≤ b ∧ b ≠ w2.heap.size) Sent.ty a4 N c4 (h.asked.sent.map Sent.enc) := by
        rw [HDR.out, show N - 16 = 0 by omega]; exact HS4V.out
      have HS5 := Lib.hid hs5
      clear hs5
      go_upto_region 10 with fail
      clear q0 q1 q2 q3 q4 q5 f0 f1 f2 f3 f4 f5
      obtain ⟨q0, q1, q2, q3, q4, q5⟩ := box6 kc4V
      obtain ⟨p0, p1, p2, p3, p4, p5⟩ := thaw6 k14V
      obtain ⟨o0, o1, o2, o3, o4, o5⟩ := box6 k14V
      go_region
      go_wp2_with fail
      clear q0 q1 q2 q3 q4 q5 o0 o1 o2 o3 o4 o5 p0 p1 p2 p3 p4 p5
      obtain ⟨Z, hZ⟩ : ∃ W : World, ((((((V.setCell ⟨w.heap.size + 1, 0, none⟩ (.int .i64 h.node)).setCell ⟨w.heap.size + 1, 1, none⟩ (.int .i64 h.now)).setCell ⟨w.heap.size + 1, 2, none⟩ (.int .i64 (h.ask + 1))).setCell ⟨w.heap.size + 1, 3, none⟩ (.slice a4 N c4)).setCell ⟨w.heap.size + 1, 4, none⟩ (.int .i64 h.seq)).setCell ⟨w.heap.size + 1, 5, none⟩ (.int .i64 h.at_)) = W := ⟨_, rfl⟩; rw [hZ]; have k14VZ := put6_self k14V (.int .i64 h.node) (.int .i64 h.now) (.int .i64 (h.ask + 1)) (.slice a4 N c4) (.int .i64 h.seq) (.int .i64 h.at_); rw [hZ] at k14VZ; have BB4VZ := Lib.hid (put6_below BB4V.out (by omega) (b := w.heap.size + 1) (.int .i64 h.node) (.int .i64 h.now) (.int .i64 (h.ask + 1)) (.slice a4 N c4) (.int .i64 h.seq) (.int .i64 h.at_)); rw [hZ] at BB4VZ; have HS5Z := Lib.hid (put6_sl HS5.out (by show ¬ _; omega) (b := w.heap.size + 1) (.int .i64 h.node) (.int .i64 h.now) (.int .i64 (h.ask + 1)) (.slice a4 N c4) (.int .i64 h.seq) (.int .i64 h.at_)); rw [hZ] at HS5Z; have zZ : V.heap.size ≤ Z.heap.size := (by rw [← hZ] <;> simp [World.setCell]); clear hZ
      obtain ⟨q0, q1, q2, q3, q4, q5⟩ := box6 k14VZ
      rw [HE.out, HH.out, HN.out]
      refine bodyPost_ret (v := .tuple #[.agg #[.int .i64 h.node, .int .i64 h.now, .int .i64 (h.ask + 1), .slice a4 N c4, .int .i64 h.seq, .int .i64 h.at_], .int .i64 (h.ask + 1), .int .i64 0]) (by simp [results, Try.results17, go_sem, q0, q1, q2, q3, q4, q5]) rfl ?_
      refine ⟨[.int .i64 h.node, .int .i64 h.now, .int .i64 (h.ask + 1), .slice a4 N c4, .int .i64 h.seq, .int .i64 h.at_], rfl, ?_, BB4VZ.out.drew⟩
      exact asked_rd (base := w1.heap.size) (Sl.up HS5Z.out fun b hb => hb.1) (by omega) b0 b1 (by show I64 (h.ask + 1); unfold I64; omega) b4 b5
    · obtain rfl : N = 17 := by omega
      obtain ⟨b, off, rfl⟩ := Sl.addr HS4V.out (by omega)
      have hc4 := (Sl.bd HS4V.out).1
      have hs5 : Sl V (fun b => w1.heap.size ≤ b ∧ b ≠ w2.heap.size) Sent.ty (some ⟨b, off + 2, none⟩) 16 (c4 - 1) (h.asked.sent.map Sent.enc) := by
        rw [HDR.out, show 17 - 16 = 1 from rfl, List.map_drop]; exact Sl.cut (d := 1) HS4V.out (by omega)
      have HS5 := Lib.hid hs5
      clear hs5
      go_upto_region 10 with fail
      clear q0 q1 q2 q3 q4 q5 f0 f1 f2 f3 f4 f5
      obtain ⟨U, hU⟩ : ∃ W : World, (V.setCell ⟨w2.heap.size, 3, none⟩ (.slice (some ⟨b, off + 2, none⟩) 16 (c4 - 1))) = W := ⟨_, rfl⟩; rw [hU]; have kc4VU := Blk.put1 kc4V 3 (.slice (some ⟨b, off + 2, none⟩) 16 (c4 - 1)) #[.int .i64 h.node, .int .i64 h.now, .int .i64 (h.ask + 1), .slice (some ⟨b, off + 2, none⟩) 16 (c4 - 1), .int .i64 h.seq, .int .i64 h.at_] rfl; rw [hU] at kc4VU; have k14VU := put1_far k14V (by omega) (b := w2.heap.size) (3) (.slice (some ⟨b, off + 2, none⟩) 16 (c4 - 1)); rw [hU] at k14VU; have BB4VU := Lib.hid (put1_below BB4V.out (by omega) (b := w2.heap.size) (3) (.slice (some ⟨b, off + 2, none⟩) 16 (c4 - 1))); rw [hU] at BB4VU; have HS5U := Lib.hid (put1_sl HS5.out (by show ¬ _; omega) (b := w2.heap.size) (3) (.slice (some ⟨b, off + 2, none⟩) 16 (c4 - 1))); rw [hU] at HS5U; have zU : V.heap.size ≤ U.heap.size := (by rw [← hU] <;> simp [World.setCell]); clear hU
      obtain ⟨q0, q1, q2, q3, q4, q5⟩ := box6 kc4VU
      obtain ⟨p0, p1, p2, p3, p4, p5⟩ := thaw6 k14VU
      obtain ⟨o0, o1, o2, o3, o4, o5⟩ := box6 k14VU
      go_region
      go_wp2_with fail
      clear q0 q1 q2 q3 q4 q5 o0 o1 o2 o3 o4 o5 p0 p1 p2 p3 p4 p5
      obtain ⟨Z, hZ⟩ : ∃ W : World, ((((((U.setCell ⟨w.heap.size + 1, 0, none⟩ (.int .i64 h.node)).setCell ⟨w.heap.size + 1, 1, none⟩ (.int .i64 h.now)).setCell ⟨w.heap.size + 1, 2, none⟩ (.int .i64 (h.ask + 1))).setCell ⟨w.heap.size + 1, 3, none⟩ (.slice (some ⟨b, off + 2, none⟩) 16 (c4 - 1))).setCell ⟨w.heap.size + 1, 4, none⟩ (.int .i64 h.seq)).setCell ⟨w.heap.size + 1, 5, none⟩ (.int .i64 h.at_)) = W := ⟨_, rfl⟩; rw [hZ]; have k14VUZ := put6_self k14VU (.int .i64 h.node) (.int .i64 h.now) (.int .i64 (h.ask + 1)) (.slice (some ⟨b, off + 2, none⟩) 16 (c4 - 1)) (.int .i64 h.seq) (.int .i64 h.at_); rw [hZ] at k14VUZ; have BB4VUZ := Lib.hid (put6_below BB4VU.out (by omega) (b := w.heap.size + 1) (.int .i64 h.node) (.int .i64 h.now) (.int .i64 (h.ask + 1)) (.slice (some ⟨b, off + 2, none⟩) 16 (c4 - 1)) (.int .i64 h.seq) (.int .i64 h.at_)); rw [hZ] at BB4VUZ; have HS5UZ := Lib.hid (put6_sl HS5U.out (by show ¬ _; omega) (b := w.heap.size + 1) (.int .i64 h.node) (.int .i64 h.now) (.int .i64 (h.ask + 1)) (.slice (some ⟨b, off + 2, none⟩) 16 (c4 - 1)) (.int .i64 h.seq) (.int .i64 h.at_)); rw [hZ] at HS5UZ; have zZ : U.heap.size ≤ Z.heap.size := (by rw [← hZ] <;> simp [World.setCell]); clear hZ
      obtain ⟨q0, q1, q2, q3, q4, q5⟩ := box6 k14VUZ
      rw [HE.out, HH.out, HN.out]
      refine bodyPost_ret (v := .tuple #[.agg #[.int .i64 h.node, .int .i64 h.now, .int .i64 (h.ask + 1), .slice (some ⟨b, off + 2, none⟩) 16 (c4 - 1), .int .i64 h.seq, .int .i64 h.at_], .int .i64 (h.ask + 1), .int .i64 0]) (by simp [results, Try.results17, go_sem, q0, q1, q2, q3, q4, q5]) rfl ?_
      refine ⟨[.int .i64 h.node, .int .i64 h.now, .int .i64 (h.ask + 1), .slice (some ⟨b, off + 2, none⟩) 16 (c4 - 1), .int .i64 h.seq, .int .i64 h.at_], rfl, ?_, BB4VUZ.out.drew⟩
      exact asked_rd (base := w1.heap.size) (Sl.up HS5UZ.out fun b hb => hb.1) (by omega) b0 b1 (by show I64 (h.ask + 1); unfold I64; omega) b4 b5
end Go.Proofs.Ytjfphnegcelbpaa
