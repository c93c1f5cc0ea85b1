/- Contracts of lease.Ask and of the reference's Ask. Condition: a struct that reads as a holder, of at most 10^6 signs. -/
import Derived.Test.YtjfphnegcelbpaaHoE
namespace Go.Proofs.Ytjfphnegcelbpaa
open Go.RowKit
set_option linter.unusedVariables false
set_option linter.unusedSimpArgs false
/-- a post: a holder in memory of its own, a number, and an error's number -/
def H3Post (w : World) (h : Holder) (n er : Int) (e : Ending) (w' : World) : Prop := ∃ vs : List Value, e = .returned (.tuple #[.agg vs.toArray, .int .i64 n, .int .i64 er]) ∧ RdL w' (fun b => w.heap.size ≤ b) Holder.ty vs h.enc ∧ Below w.heap.size w w'
def Holder.asks (h : Holder) : List Sent := h.sent ++ [⟨h.ask + 1, h.now⟩]
def Holder.asked (h : Holder) : Holder := { h with ask := h.ask + 1, sent := h.asks.drop (h.sent.length + 1 - 16) }
noncomputable def askE (h : Holder) : Int := if riB h = true then (if 1000000000 ≤ h.ask then 2 else 0) else 1
noncomputable def askH (h : Holder) : Holder := if askE h = 0 then h.asked else h0
noncomputable def askN (h : Holder) : Int := if askE h = 0 then h.ask + 1 else 0
/-- a holder whose row lies so reads as such -/
theorem asked_rd {base B : Nat} {w : World} {h : Holder} {a : Option Addr} {n c : Nat} (hs : Sl w (fun b => base ≤ b) Sent.ty a n c (h.sent.map Sent.enc)) (hB : B ≤ base)
    (k0 : I64 h.node) (k1 : I64 h.now) (k2 : I64 h.ask) (k4 : I64 h.seq) (k5 : I64 h.at_) : RdL w.drew (fun b => B ≤ b) Holder.ty [.int .i64 h.node, .int .i64 h.now, .int .i64 h.ask, .slice a n c, .int .i64 h.seq, .int .i64 h.at_] h.enc := by
  have hl := hs.len
  rw [List.length_map] at hl
  subst hl
  exact (Holder.shuts h k0 k1 k2 (hs.up fun b hb => by omega) k4 k5).drew
set_option maxHeartbeats 4000000 in
theorem ask_any (vs : List Value) (h : Holder) (w : World) (S : Nat → Prop) (hr : RdL w S Holder.ty vs h.enc) (hn : h.sent.length ≤ 1000000) :
    Calls Try.prog 16 #[.agg vs.toArray] w (H3Post w (askH h) (askN h) (askE h)) := by
  have hc1 := fun w' (hb : Below w.heap.size w w') => hcheck_any vs h w' S (RdL.same (Same.below hb) hr)
  have hc2 := fun w' (hb : Below w.heap.size w w') => hown_any vs h w' S (RdL.same (Same.below hb) hr) hn
  have HC1 := Lib.hid hc1
  have HC2 := Lib.hid hc2
  obtain ⟨a3, c3, rfl, b0, b1, b2, s3, b4, b5⟩ := Holder.opens hr
  have B0 : Below w.heap.size w ((w.alloc (.cells #[.int .i64 h.node, .int .i64 h.now, .int .i64 h.ask, .slice a3 (h.sent).length c3, .int .i64 h.seq, .int .i64 h.at_] 24)).alloc (.cells #[.int .i64 0, .int .i64 0, .int .i64 0, .slice none 0 0, .int .i64 0, .int .i64 0] 24)) := ((Below.refl _ w).alloc (Nat.le_refl _) _).alloc (by simp) _
  have HB0 := Lib.hid B0
  clear hr s3 B0 hc1 hc2
  cases hri : riB h
  · have HR := Lib.hid hri
    have HE := Lib.hid (show askE h = 1 by simp [askE, hri])
    have HH := Lib.hid (show askH h = h0 by rw [askH, HE.out]; rfl)
    have HN := Lib.hid (show askN h = 0 by rw [askN, HE.out]; rfl)
    clear hri
    go_enter Try.func16, Try.ntmps16
    go_wp2_with fail
    refine (HC1.out _ HB0.out).mono ?_
    rw [HR.out, err_f]
    rintro e w1 ⟨rfl, P1⟩
    have ka0 := ((Blk.newAt _ (w.heap.size) 24 #[.int .i64 h.node, .int .i64 h.now, .int .i64 h.ask, .slice a3 (h.sent).length c3, .int .i64 h.seq, .int .i64 h.at_] (by simp)).alloc _).below P1 (by simp <;> omega); obtain ⟨qa0_0, qa0_1, qa0_2, qa0_3, qa0_4, qa0_5⟩ := box6 ka0; obtain ⟨fa0_0, fa0_1, fa0_2, fa0_3, fa0_4, fa0_5⟩ := thaw6 ka0; have ka1 := (Blk.newAt _ (w.heap.size + 1) 24 #[.int .i64 0, .int .i64 0, .int .i64 0, .slice none 0 0, .int .i64 0, .int .i64 0] (by simp)).below P1 (by simp <;> omega); obtain ⟨qa1_0, qa1_1, qa1_2, qa1_3, qa1_4, qa1_5⟩ := box6 ka1; obtain ⟨fa1_0, fa1_1, fa1_2, fa1_3, fa1_4, fa1_5⟩ := thaw6 ka1
    have hz := P1.size
    simp at hz
    have BB := Lib.hid (HB0.out.trans (P1.mono (by simp <;> omega)))
    clear P1
    go_wp2_with fail
    obtain ⟨Z, hZ⟩ : ∃ W : World, ((((((w1.setCell ⟨w.heap.size + 1, 0, none⟩ (.int .i64 0)).setCell ⟨w.heap.size + 1, 1, none⟩ (.int .i64 0)).setCell ⟨w.heap.size + 1, 2, none⟩ (.int .i64 0)).setCell ⟨w.heap.size + 1, 3, none⟩ (.slice none 0 0)).setCell ⟨w.heap.size + 1, 4, none⟩ (.int .i64 0)).setCell ⟨w.heap.size + 1, 5, none⟩ (.int .i64 0)) = W := ⟨_, rfl⟩; rw [hZ]; have ka1Z := put6_self ka1 (.int .i64 0) (.int .i64 0) (.int .i64 0) (.slice none 0 0) (.int .i64 0) (.int .i64 0); rw [hZ] at ka1Z; have BBZ := Lib.hid (put6_below BB.out (by omega) (b := w.heap.size + 1) (.int .i64 0) (.int .i64 0) (.int .i64 0) (.slice none 0 0) (.int .i64 0) (.int .i64 0)); rw [hZ] at BBZ; have zZ : w1.heap.size ≤ Z.heap.size := (by rw [← hZ] <;> simp [World.setCell]); clear hZ
    obtain ⟨q0, q1, q2, q3, q4, q5⟩ := box6 ka1Z
    rw [HE.out, HH.out, HN.out]
    refine bodyPost_ret (v := .tuple #[.agg #[.int .i64 0, .int .i64 0, .int .i64 0, .slice none 0 0, .int .i64 0, .int .i64 0], .int .i64 0, .int .i64 1]) (by simp [results, Try.results16, go_sem, q0, q1, q2, q3, q4, q5]) rfl ?_
    exact ⟨[.int .i64 0, .int .i64 0, .int .i64 0, .slice none 0 0, .int .i64 0, .int .i64 0], rfl, h0_rd _ _, BBZ.out⟩
  by_cases hw : 1000000000 ≤ h.ask
  · have HR := Lib.hid hri
    have HE := Lib.hid (show askE h = 2 by simp [askE, hri, hw])
    have HH := Lib.hid (show askH h = h0 by rw [askH, HE.out]; rfl)
    have HN := Lib.hid (show askN h = 0 by rw [askN, HE.out]; rfl)
    clear hri
    go_enter Try.func16, Try.ntmps16
    go_wp2_with fail
    refine (HC1.out _ HB0.out).mono ?_
    rw [HR.out, err_t]
    rintro e w1 ⟨rfl, P1⟩
    have ka0 := ((Blk.newAt _ (w.heap.size) 24 #[.int .i64 h.node, .int .i64 h.now, .int .i64 h.ask, .slice a3 (h.sent).length c3, .int .i64 h.seq, .int .i64 h.at_] (by simp)).alloc _).below P1 (by simp <;> omega); obtain ⟨qa0_0, qa0_1, qa0_2, qa0_3, qa0_4, qa0_5⟩ := box6 ka0; obtain ⟨fa0_0, fa0_1, fa0_2, fa0_3, fa0_4, fa0_5⟩ := thaw6 ka0; have ka1 := (Blk.newAt _ (w.heap.size + 1) 24 #[.int .i64 0, .int .i64 0, .int .i64 0, .slice none 0 0, .int .i64 0, .int .i64 0] (by simp)).below P1 (by simp <;> omega); obtain ⟨qa1_0, qa1_1, qa1_2, qa1_3, qa1_4, qa1_5⟩ := box6 ka1; obtain ⟨fa1_0, fa1_1, fa1_2, fa1_3, fa1_4, fa1_5⟩ := thaw6 ka1
    have hz := P1.size
    simp at hz
    have BB := Lib.hid (HB0.out.trans (P1.mono (by simp <;> omega)))
    clear P1
    go_wp2_with fail
    obtain ⟨Z, hZ⟩ : ∃ W : World, ((((((w1.setCell ⟨w.heap.size + 1, 0, none⟩ (.int .i64 0)).setCell ⟨w.heap.size + 1, 1, none⟩ (.int .i64 0)).setCell ⟨w.heap.size + 1, 2, none⟩ (.int .i64 0)).setCell ⟨w.heap.size + 1, 3, none⟩ (.slice none 0 0)).setCell ⟨w.heap.size + 1, 4, none⟩ (.int .i64 0)).setCell ⟨w.heap.size + 1, 5, none⟩ (.int .i64 0)) = W := ⟨_, rfl⟩; rw [hZ]; have ka1Z := put6_self ka1 (.int .i64 0) (.int .i64 0) (.int .i64 0) (.slice none 0 0) (.int .i64 0) (.int .i64 0); rw [hZ] at ka1Z; have BBZ := Lib.hid (put6_below BB.out (by omega) (b := w.heap.size + 1) (.int .i64 0) (.int .i64 0) (.int .i64 0) (.slice none 0 0) (.int .i64 0) (.int .i64 0)); rw [hZ] at BBZ; have zZ : w1.heap.size ≤ Z.heap.size := (by rw [← hZ] <;> simp [World.setCell]); clear hZ
    obtain ⟨q0, q1, q2, q3, q4, q5⟩ := box6 ka1Z
    rw [HE.out, HH.out, HN.out]
    refine bodyPost_ret (v := .tuple #[.agg #[.int .i64 0, .int .i64 0, .int .i64 0, .slice none 0 0, .int .i64 0, .int .i64 0], .int .i64 0, .int .i64 2]) (by simp [results, Try.results16, go_sem, q0, q1, q2, q3, q4, q5]) rfl ?_
    exact ⟨[.int .i64 0, .int .i64 0, .int .i64 0, .slice none 0 0, .int .i64 0, .int .i64 0], rfl, h0_rd _ _, BBZ.out⟩
  · have HR := Lib.hid hri
    have HE := Lib.hid (show askE h = 0 by simp [askE, hri, hw])
    have HH := Lib.hid (show askH h = h.asked by rw [askH, HE.out]; rfl)
    have HN := Lib.hid (show askN h = h.ask + 1 by rw [askN, HE.out]; rfl)
    obtain ⟨m1, m2, m3, m4, m5, m6, m7, m8⟩ := ri_now2 hri
    clear hri
    go_enter Try.func16, Try.ntmps16
    go_wp2_with fail
    refine (HC1.out _ HB0.out).mono ?_
    rw [HR.out, err_t]
    rintro e w1 ⟨rfl, P1⟩
    have ka0 := ((Blk.newAt _ (w.heap.size) 24 #[.int .i64 h.node, .int .i64 h.now, .int .i64 h.ask, .slice a3 (h.sent).length c3, .int .i64 h.seq, .int .i64 h.at_] (by simp)).alloc _).below P1 (by simp <;> omega); obtain ⟨qa0_0, qa0_1, qa0_2, qa0_3, qa0_4, qa0_5⟩ := box6 ka0; obtain ⟨fa0_0, fa0_1, fa0_2, fa0_3, fa0_4, fa0_5⟩ := thaw6 ka0; have ka1 := (Blk.newAt _ (w.heap.size + 1) 24 #[.int .i64 0, .int .i64 0, .int .i64 0, .slice none 0 0, .int .i64 0, .int .i64 0] (by simp)).below P1 (by simp <;> omega); obtain ⟨qa1_0, qa1_1, qa1_2, qa1_3, qa1_4, qa1_5⟩ := box6 ka1; obtain ⟨fa1_0, fa1_1, fa1_2, fa1_3, fa1_4, fa1_5⟩ := thaw6 ka1
    have hz := P1.size
    simp at hz
    have BB := Lib.hid (HB0.out.trans (P1.mono (by simp <;> omega)))
    clear P1
    go_wp2_with fail
    refine (HC2.out _ BB.out).mono ?_
    rintro e w2 ⟨v, rfl, ho, P2⟩
    obtain ⟨av, cv, rfl⟩ := ho.form
    have HO := Lib.hid ho
    rw [List.length_map] at HO
    have kb0 := ka0.below P2 (by omega)
    have kb1 := ka1.below P2 (by omega)
    have hz2 := P2.size
    have BB2 := Lib.hid (BB.out.trans (P2.mono (by omega)))
    clear P2 ho qa0_0 qa0_1 qa0_2 qa0_3 qa0_4 qa0_5 qa1_0 qa1_1 qa1_2 qa1_3 qa1_4 qa1_5 fa0_0 fa0_1 fa0_2 fa0_3 fa0_4 fa0_5 fa1_0 fa1_1 fa1_2 fa1_3 fa1_4 fa1_5
    obtain ⟨q0, q1, q2, q3, q4, q5⟩ := box6 kb0
    obtain ⟨f0, f1, f2, f3, f4, f5⟩ := thaw6 kb0
    rw [List.length_map]
    go_upto_region 6 with fail
    clear q0 q1 q2 q3 q4 q5 f0 f1 f2 f3 f4 f5
    obtain ⟨X, hX⟩ : ∃ W : World, ((((((w2.setCell ⟨w.heap.size, 0, none⟩ (.int .i64 h.node)).setCell ⟨w.heap.size, 1, none⟩ (.int .i64 h.now)).setCell ⟨w.heap.size, 2, none⟩ (.int .i64 h.ask)).setCell ⟨w.heap.size, 3, none⟩ (.slice av h.sent.length cv)).setCell ⟨w.heap.size, 4, none⟩ (.int .i64 h.seq)).setCell ⟨w.heap.size, 5, none⟩ (.int .i64 h.at_)) = W := ⟨_, rfl⟩; rw [hX]; have kb0X := put6_self kb0 (.int .i64 h.node) (.int .i64 h.now) (.int .i64 h.ask) (.slice av h.sent.length cv) (.int .i64 h.seq) (.int .i64 h.at_); rw [hX] at kb0X; have kb1X := put6_far kb1 (by omega) (b := w.heap.size) (.int .i64 h.node) (.int .i64 h.now) (.int .i64 h.ask) (.slice av h.sent.length cv) (.int .i64 h.seq) (.int .i64 h.at_); rw [hX] at kb1X; have HOX := Lib.hid (put6_own HO.out (by omega) (b := w.heap.size) (.int .i64 h.node) (.int .i64 h.now) (.int .i64 h.ask) (.slice av h.sent.length cv) (.int .i64 h.seq) (.int .i64 h.at_)); rw [hX] at HOX; have BB2X := Lib.hid (put6_below BB2.out (by omega) (b := w.heap.size) (.int .i64 h.node) (.int .i64 h.now) (.int .i64 h.ask) (.slice av h.sent.length cv) (.int .i64 h.seq) (.int .i64 h.at_)); rw [hX] at BB2X; have zX : w2.heap.size ≤ X.heap.size := (by rw [← hX] <;> simp [World.setCell]); clear hX
    obtain ⟨q0, q1, q2, q3, q4, q5⟩ := box6 kb0X
    obtain ⟨f0, f1, f2, f3, f4, f5⟩ := thaw6 kb0X
    go_upto_region 7 with fail
    clear q0 q1 q2 q3 q4 q5 f0 f1 f2 f3 f4 f5
    obtain ⟨Y, hY⟩ : ∃ W : World, (X.setCell ⟨w.heap.size, 2, none⟩ (.int .i64 (h.ask + 1))) = W := ⟨_, rfl⟩; rw [hY]; have kb0XY := Blk.put1 kb0X 2 (.int .i64 (h.ask + 1)) #[.int .i64 h.node, .int .i64 h.now, .int .i64 (h.ask + 1), .slice av h.sent.length cv, .int .i64 h.seq, .int .i64 h.at_] rfl; rw [hY] at kb0XY; have kb1XY := put1_far kb1X (by omega) (b := w.heap.size) (2) (.int .i64 (h.ask + 1)); rw [hY] at kb1XY; have HOXY := Lib.hid (put1_own HOX.out (by omega) (b := w.heap.size) (2) (.int .i64 (h.ask + 1))); rw [hY] at HOXY; have BB2XY := Lib.hid (put1_below BB2X.out (by omega) (b := w.heap.size) (2) (.int .i64 (h.ask + 1))); rw [hY] at BB2XY; have zY : X.heap.size ≤ Y.heap.size := (by rw [← hY] <;> simp [World.setCell]); clear hY
    obtain ⟨q0, q1, q2, q3, q4, q5⟩ := box6 kb0XY
    obtain ⟨f0, f1, f2, f3, f4, f5⟩ := thaw6 kb0XY
    have HLN := Lib.hid (show (h.sent.map Sent.enc).length = h.sent.length from List.length_map ..)
    have HD := Lib.hid (show RdL Y (fun b => w1.heap.size ≤ b ∧ (Value.slice av h.sent.length cv).ownBlock ≠ some b) Sent.ty [.int .i64 (h.ask + 1), .int .i64 h.now] (Sent.enc ⟨h.ask + 1, h.now⟩) from Sent.shuts ⟨h.ask + 1, h.now⟩ ⟨by show -9223372036854775808 ≤ h.ask + 1; omega, by show h.ask + 1 ≤ _; omega⟩ b1)
    have hzY : w1.heap.size ≤ Y.heap.size := by omega
    obtain ⟨N, hN⟩ : ∃ N, h.sent.length + 1 = N := ⟨_, rfl⟩
    have HL4 := Lib.hid (show (h.asks.map Sent.enc).length = N by rw [List.length_map, Holder.asks, List.length_append]; exact hN)
    have HE4 := Lib.hid (show h.sent.map Sent.enc ++ [Sent.enc ⟨h.ask + 1, h.now⟩] = h.asks.map Sent.enc by simp [Holder.asks])
    have HNN := Lib.hid hN
    have hN1 : 1 ≤ N := by omega
    have hN2 : N ≤ 17 := by omega
    clear hN
    go_upto_region 8 with (at_builtin; refine wpList_app rfl (.tmp 22) (.tmp 28) 22 rfl (base := w1.heap.size) (E := 51) (S := fun b => w1.heap.size ≤ b) (fs := Sent.ty) (k := 2) (bytes := 16) rfl (by decide) (by decide) (by decide) Try.underlying22 infoSe _ (h.sent.map Sent.enc) rfl HOXY.out _ (Sent.enc ⟨h.ask + 1, h.now⟩) HD.out 51 _ rfl rfl (by rw [HLN.out]; omega) hzY ?_; intro v' w4 ho4 hg4 hat4; rw [HE4.out] at ho4; have hl4 := HL4.out; obtain ⟨a4, c4, rfl⟩ := ho4.form; rw [hl4] at ho4 ⊢; have HO4 := Lib.hid ho4; have k04 := kb0XY.grown hg4 (fun e => by have := (HOXY.out.lt _ e.symm).1; omega); have k14 := kb1XY.grown hg4 (fun e => by have := (HOXY.out.lt _ e.symm).1; omega); have BB4 := Lib.hid (BB2XY.out.grown hg4 (by omega) (fun g e => by have := (HOXY.out.lt _ e).1; omega)); have hz4 := hg4.size; clear ho4 hg4 hat4 hl4 q0 q1 q2 q3 q4 q5 f0 f1 f2 f3 f4 f5; obtain ⟨q0, q1, q2, q3, q4, q5⟩ := box6 k04; obtain ⟨f0, f1, f2, f3, f4, f5⟩ := thaw6 k04)
    clear q0 q1 q2 q3 q4 q5 f0 f1 f2 f3 f4 f5
    obtain ⟨V, hV⟩ : ∃ W : World, (w4.setCell ⟨w.heap.size, 3, none⟩ (.slice a4 N c4)) = W := ⟨_, rfl⟩; rw [hV]; have k04V := Blk.put1 k04 3 (.slice a4 N c4) #[.int .i64 h.node, .int .i64 h.now, .int .i64 (h.ask + 1), .slice a4 N c4, .int .i64 h.seq, .int .i64 h.at_] rfl; rw [hV] at k04V; have k14V := put1_far k14 (by omega) (b := w.heap.size) (3) (.slice a4 N c4); rw [hV] at k14V; have HO4V := Lib.hid (put1_own HO4.out (by omega) (b := w.heap.size) (3) (.slice a4 N c4)); rw [hV] at HO4V; have BB4V := Lib.hid (put1_below BB4.out (by omega) (b := w.heap.size) (3) (.slice a4 N c4)); rw [hV] at BB4V; have zV : w4.heap.size ≤ V.heap.size := (by rw [← hV] <;> simp [World.setCell]); clear hV
    obtain ⟨q0, q1, q2, q3, q4, q5⟩ := box6 k04V
    obtain ⟨f0, f1, f2, f3, f4, f5⟩ := thaw6 k04V
    have HSL := Lib.hid (show Sl V (fun b => w1.heap.size ≤ b) Sent.ty a4 N c4 (h.asks.map Sent.enc) by
      obtain ⟨a, c, e, hs⟩ := HO4V.out.sl (fun b => w1.heap.size ≤ b) (fun _ h => h) (fun _ h => h) (by rw [HL4.out]; omega)
      rw [HL4.out] at e hs
      cases e; exact hs)
    have hdr : h.asked.sent = h.asks.drop (N - 16) := by have := HNN.out; rw [← this]; rfl
    have HDR := Lib.hid hdr
    clear hdr
    by_cases hle : N ≤ 16
    · have hs5 : Sl V (fun b => w1.heap.size ≤ b) Sent.ty a4 N c4 (h.asked.sent.map Sent.enc) := by
        rw [HDR.out, show N - 16 = 0 by omega]; exact HSL.out
      have HS5 := Lib.hid hs5
      clear hs5
      go_upto_region 9 with fail
      clear q0 q1 q2 q3 q4 q5 f0 f1 f2 f3 f4 f5
      obtain ⟨U, hU⟩ : ∃ W : World, (V.setCell ⟨w.heap.size, 3, none⟩ (.slice a4 N c4)) = W := ⟨_, rfl⟩; rw [hU]; have k04VU := Blk.put1 k04V 3 (.slice a4 N c4) #[.int .i64 h.node, .int .i64 h.now, .int .i64 (h.ask + 1), .slice a4 N c4, .int .i64 h.seq, .int .i64 h.at_] rfl; rw [hU] at k04VU; have k14VU := put1_far k14V (by omega) (b := w.heap.size) (3) (.slice a4 N c4); rw [hU] at k14VU; have BB4VU := Lib.hid (put1_below BB4V.out (by omega) (b := w.heap.size) (3) (.slice a4 N c4)); rw [hU] at BB4VU; have HS5U := Lib.hid (put1_sl HS5.out (by show ¬ _; omega) (b := w.heap.size) (3) (.slice a4 N c4)); rw [hU] at HS5U; have zU : V.heap.size ≤ U.heap.size := (by rw [← hU] <;> simp [World.setCell]); clear hU
      obtain ⟨q0, q1, q2, q3, q4, q5⟩ := box6 k04VU
      obtain ⟨p0, p1, p2, p3, p4, p5⟩ := thaw6 k14VU
      obtain ⟨o0, o1, o2, o3, o4, o5⟩ := box6 k14VU
      go_region
      go_wp2_with fail
      clear q0 q1 q2 q3 q4 q5 o0 o1 o2 o3 o4 o5 p0 p1 p2 p3 p4 p5
      obtain ⟨Z, hZ⟩ : ∃ W : World, ((((((U.setCell ⟨w.heap.size + 1, 0, none⟩ (.int .i64 h.node)).setCell ⟨w.heap.size + 1, 1, none⟩ (.int .i64 h.now)).setCell ⟨w.heap.size + 1, 2, none⟩ (.int .i64 (h.ask + 1))).setCell ⟨w.heap.size + 1, 3, none⟩ (.slice a4 N c4)).setCell ⟨w.heap.size + 1, 4, none⟩ (.int .i64 h.seq)).setCell ⟨w.heap.size + 1, 5, none⟩ (.int .i64 h.at_)) = W := ⟨_, rfl⟩; rw [hZ]; have k14VUZ := put6_self k14VU (.int .i64 h.node) (.int .i64 h.now) (.int .i64 (h.ask + 1)) (.slice a4 N c4) (.int .i64 h.seq) (.int .i64 h.at_); rw [hZ] at k14VUZ; have BB4VUZ := Lib.hid (put6_below BB4VU.out (by omega) (b := w.heap.size + 1) (.int .i64 h.node) (.int .i64 h.now) (.int .i64 (h.ask + 1)) (.slice a4 N c4) (.int .i64 h.seq) (.int .i64 h.at_)); rw [hZ] at BB4VUZ; have HS5UZ := Lib.hid (put6_sl HS5U.out (by show ¬ _; omega) (b := w.heap.size + 1) (.int .i64 h.node) (.int .i64 h.now) (.int .i64 (h.ask + 1)) (.slice a4 N c4) (.int .i64 h.seq) (.int .i64 h.at_)); rw [hZ] at HS5UZ; have zZ : U.heap.size ≤ Z.heap.size := (by rw [← hZ] <;> simp [World.setCell]); clear hZ
      obtain ⟨q0, q1, q2, q3, q4, q5⟩ := box6 k14VUZ
      rw [HE.out, HH.out, HN.out]
      refine bodyPost_ret (v := .tuple #[.agg #[.int .i64 h.node, .int .i64 h.now, .int .i64 (h.ask + 1), .slice a4 N c4, .int .i64 h.seq, .int .i64 h.at_], .int .i64 (h.ask + 1), .int .i64 0]) (by simp [results, Try.results16, go_sem, q0, q1, q2, q3, q4, q5]) rfl ?_
      refine ⟨[.int .i64 h.node, .int .i64 h.now, .int .i64 (h.ask + 1), .slice a4 N c4, .int .i64 h.seq, .int .i64 h.at_], rfl, ?_, BB4VUZ.out.drew⟩
      exact asked_rd HS5UZ.out (by omega) b0 b1 (by show I64 (h.ask + 1); unfold I64; omega) b4 b5
    · obtain rfl : N = 17 := by omega
      obtain ⟨b, off, rfl⟩ := HSL.out.addr (by omega)
      have hc4 := HSL.out.bd.1
      have hs5 : Sl V (fun b => w1.heap.size ≤ b) Sent.ty (some ⟨b, off + 2, none⟩) 16 (c4 - 1) (h.asked.sent.map Sent.enc) := by
        rw [HDR.out, show 17 - 16 = 1 from rfl, List.map_drop]; exact HSL.out.cut (d := 1) (by omega)
      have HS5 := Lib.hid hs5
      clear hs5
      go_upto_region 9 with fail
      clear q0 q1 q2 q3 q4 q5 f0 f1 f2 f3 f4 f5
      obtain ⟨U, hU⟩ : ∃ W : World, (V.setCell ⟨w.heap.size, 3, none⟩ (.slice (some ⟨b, off + 2, none⟩) 16 (c4 - 1))) = W := ⟨_, rfl⟩; rw [hU]; have k04VU := Blk.put1 k04V 3 (.slice (some ⟨b, off + 2, none⟩) 16 (c4 - 1)) #[.int .i64 h.node, .int .i64 h.now, .int .i64 (h.ask + 1), .slice (some ⟨b, off + 2, none⟩) 16 (c4 - 1), .int .i64 h.seq, .int .i64 h.at_] rfl; rw [hU] at k04VU; have k14VU := put1_far k14V (by omega) (b := w.heap.size) (3) (.slice (some ⟨b, off + 2, none⟩) 16 (c4 - 1)); rw [hU] at k14VU; have BB4VU := Lib.hid (put1_below BB4V.out (by omega) (b := w.heap.size) (3) (.slice (some ⟨b, off + 2, none⟩) 16 (c4 - 1))); rw [hU] at BB4VU; have HS5U := Lib.hid (put1_sl HS5.out (by show ¬ _; omega) (b := w.heap.size) (3) (.slice (some ⟨b, off + 2, none⟩) 16 (c4 - 1))); rw [hU] at HS5U; have zU : V.heap.size ≤ U.heap.size := (by rw [← hU] <;> simp [World.setCell]); clear hU
      obtain ⟨q0, q1, q2, q3, q4, q5⟩ := box6 k04VU
      obtain ⟨p0, p1, p2, p3, p4, p5⟩ := thaw6 k14VU
      obtain ⟨o0, o1, o2, o3, o4, o5⟩ := box6 k14VU
      go_region
      go_wp2_with fail
      clear q0 q1 q2 q3 q4 q5 o0 o1 o2 o3 o4 o5 p0 p1 p2 p3 p4 p5
      obtain ⟨Z, hZ⟩ : ∃ W : World, ((((((U.setCell ⟨w.heap.size + 1, 0, none⟩ (.int .i64 h.node)).setCell ⟨w.heap.size + 1, 1, none⟩ (.int .i64 h.now)).setCell ⟨w.heap.size + 1, 2, none⟩ (.int .i64 (h.ask + 1))).setCell ⟨w.heap.size + 1, 3, none⟩ (.slice (some ⟨b, off + 2, none⟩) 16 (c4 - 1))).setCell ⟨w.heap.size + 1, 4, none⟩ (.int .i64 h.seq)).setCell ⟨w.heap.size + 1, 5, none⟩ (.int .i64 h.at_)) = W := ⟨_, rfl⟩; rw [hZ]; have k14VUZ := put6_self k14VU (.int .i64 h.node) (.int .i64 h.now) (.int .i64 (h.ask + 1)) (.slice (some ⟨b, off + 2, none⟩) 16 (c4 - 1)) (.int .i64 h.seq) (.int .i64 h.at_); rw [hZ] at k14VUZ; have BB4VUZ := Lib.hid (put6_below BB4VU.out (by omega) (b := w.heap.size + 1) (.int .i64 h.node) (.int .i64 h.now) (.int .i64 (h.ask + 1)) (.slice (some ⟨b, off + 2, none⟩) 16 (c4 - 1)) (.int .i64 h.seq) (.int .i64 h.at_)); rw [hZ] at BB4VUZ; have HS5UZ := Lib.hid (put6_sl HS5U.out (by show ¬ _; omega) (b := w.heap.size + 1) (.int .i64 h.node) (.int .i64 h.now) (.int .i64 (h.ask + 1)) (.slice (some ⟨b, off + 2, none⟩) 16 (c4 - 1)) (.int .i64 h.seq) (.int .i64 h.at_)); rw [hZ] at HS5UZ; have zZ : U.heap.size ≤ Z.heap.size := (by rw [← hZ] <;> simp [World.setCell]); clear hZ
      obtain ⟨q0, q1, q2, q3, q4, q5⟩ := box6 k14VUZ
      rw [HE.out, HH.out, HN.out]
      refine bodyPost_ret (v := .tuple #[.agg #[.int .i64 h.node, .int .i64 h.now, .int .i64 (h.ask + 1), .slice (some ⟨b, off + 2, none⟩) 16 (c4 - 1), .int .i64 h.seq, .int .i64 h.at_], .int .i64 (h.ask + 1), .int .i64 0]) (by simp [results, Try.results16, go_sem, q0, q1, q2, q3, q4, q5]) rfl ?_
      refine ⟨[.int .i64 h.node, .int .i64 h.now, .int .i64 (h.ask + 1), .slice (some ⟨b, off + 2, none⟩) 16 (c4 - 1), .int .i64 h.seq, .int .i64 h.at_], rfl, ?_, BB4VUZ.out.drew⟩
      exact asked_rd HS5UZ.out (by omega) b0 b1 (by show I64 (h.ask + 1); unfold I64; omega) b4 b5
end Go.Proofs.Ytjfphnegcelbpaa
