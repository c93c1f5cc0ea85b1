/- Contract of lease.Take. Condition: a struct that reads as a holder, of at most 10^6 signs. -/
import Derived.Test.YtjfphnegcelbpaaHoI
namespace Go.Proofs.Ytjfphnegcelbpaa
open Go.RowKit
set_option linter.unusedVariables false
set_option linter.unusedSimpArgs false
/-- a post: a holder in memory of its own, a truth, and an error's number -/
def H4Post (w : World) (h : Holder) (b : Bool) (er : Int) (e : Ending) (w' : World) : Prop := ∃ vs : List Value, e = .returned (.tuple #[.agg vs.toArray, .bool b, .int .i64 er]) ∧ RdL w' (fun b => w.heap.size ≤ b) Holder.ty vs h.enc ∧ Below w.heap.size w w'
def seekN : List Sent → Int → Nat
  | [], _ => 0
  | x :: l, t => if x.ask < t then seekN l t + 1 else 0
theorem seekN_uniq (t : Int) : ∀ (l : List Sent) (p : Nat), p ≤ l.length → (∀ k, k < p → (l.getD k default).ask < t) → (∀ k, p ≤ k → k < l.length → t ≤ (l.getD k default).ask) → seekN l t = p
  | [], p, hp, _, _ => by simp at hp; simp [seekN, hp]
  | x :: l, 0, _, _, h => by
    have := h 0 (Nat.le_refl _) (by simp)
    simp at this
    rw [seekN, if_neg (by omega)]
  | x :: l, p + 1, hp, h1, h2 => by
    have h0 := h1 0 (by omega)
    simp at h0
    rw [seekN, if_pos h0, seekN_uniq t l p (by simpa using hp) (fun k hk => by simpa using h1 (k + 1) (by omega)) (fun k hk hk2 => by simpa using h2 (k + 1) (by omega) (by simpa using hk2))]
noncomputable def hasB (h : Holder) (ask : Int) : Bool := decide (seekN h.sent ask < h.sent.length) && decide ((h.sent.getD (seekN h.sent ask) default).ask = ask)
noncomputable def takeB (h : Holder) (ask seq : Int) : Bool := riB h && hasB h ask && decide (h.seq < seq) && decide (seq ≤ 1000000000)
def Holder.taken (h : Holder) (ask seq : Int) : Holder := { h with seq := seq, at_ := (h.sent.getD (seekN h.sent ask) default).at_, sent := h.sent.drop (seekN h.sent ask + 1) }
noncomputable def takeH (h : Holder) (ask seq : Int) : Holder := if takeB h ask seq = true then h.taken ask seq else if riB h = true then h else h0
noncomputable def takeE (h : Holder) : Int := if riB h = true then 0 else 1
theorem row_rd {base B : Nat} {w : World} {h : Holder} {a : Option Addr} {n c : Nat} (hs : Sl w (fun b => base ≤ b) Sent.ty a n c (h.sent.map Sent.enc)) (hB : B ≤ base)
    (k0 : I64 h.node) (k1 : I64 h.now) (k2 : I64 h.ask) (k4 : I64 h.seq) (k5 : I64 h.at_) : RdL w (fun b => B ≤ b) Holder.ty [.int .i64 h.node, .int .i64 h.now, .int .i64 h.ask, .slice a n c, .int .i64 h.seq, .int .i64 h.at_] h.enc := by
  have hl := hs.len
  rw [List.length_map] at hl
  subst hl
  exact Holder.shuts h k0 k1 k2 (hs.up fun b hb => by omega) k4 k5
theorem ri_sort {h : Holder} (hr : riB h = true) : ∀ i j, i < j → j < h.sent.length → (h.sent.getD i default).ask < (h.sent.getD j default).ask := by
  have hq := (ckB_iff.1 hr).2
  intro i j hij hj
  obtain ⟨d, rfl⟩ : ∃ d, j = i + 1 + d := ⟨j - i - 1, by omega⟩
  induction d with
  | zero => exact (hq (i + 1) hj).1
  | succ d ih =>
    have h1 := ih (by omega) (by omega)
    have h2 := (hq (i + 1 + d + 1) hj).1
    exact Int.lt_trans h1 h2
set_option maxHeartbeats 4000000 in
theorem take_any (vs : List Value) (h : Holder) (w : World) (S : Nat → Prop) (hr : RdL w S Holder.ty vs h.enc) (hn : h.sent.length ≤ 1000000) (ask seq : Int) (ha : I64 ask) (hs : I64 seq) :
    Calls Try.prog 18 #[.agg vs.toArray, .int .i64 ask, .int .i64 seq] w (H4Post w (takeH h ask seq) (takeB h ask seq) (takeE h)) := by
  have hc1 := fun w' (hb : Below w.heap.size w w') => hcheck_any vs h w' S (RdL.same (Same.below hb) hr)
  have hc2 := fun w' (hb : Below w.heap.size w w') => hown_any vs h w' S (RdL.same (Same.below hb) hr) hn
  have HC1 := Lib.hid hc1
  have HC2 := Lib.hid hc2
  obtain ⟨a3, c3, rfl, b0, b1, b2, s3, b4, b5⟩ := Holder.opens hr
  have B0 : Below w.heap.size w ((w.alloc (.cells #[.int .i64 h.node, .int .i64 h.now, .int .i64 h.ask, .slice a3 (h.sent).length c3, .int .i64 h.seq, .int .i64 h.at_] 24)).alloc (.cells #[.int .i64 0, .int .i64 0, .int .i64 0, .slice none 0 0, .int .i64 0, .int .i64 0] 24)) := ((Below.refl _ w).alloc (Nat.le_refl _) _).alloc (by simp) _
  have HB0 := Lib.hid B0
  clear hr s3 B0 hc1 hc2
  cases hri : riB h
  · have HR := Lib.hid hri
    have HE := Lib.hid (show takeE h = 1 by simp [takeE, hri])
    have HH := Lib.hid (show takeH h ask seq = h0 by simp [takeH, takeB, hri])
    have HN := Lib.hid (show takeB h ask seq = false by simp [takeB, hri])
    clear hri
    go_enter Try.func18, Try.ntmps18
    go_wp2_with fail
    refine (HC1.out _ HB0.out).mono ?_
    rw [HR.out, err_f]
    rintro e w1 ⟨rfl, P1⟩
    have ka0 := ((Blk.newAt _ (w.heap.size) 24 #[.int .i64 h.node, .int .i64 h.now, .int .i64 h.ask, .slice a3 (h.sent).length c3, .int .i64 h.seq, .int .i64 h.at_] (by simp)).alloc _).below P1 (by simp <;> omega); obtain ⟨qa0_0, qa0_1, qa0_2, qa0_3, qa0_4, qa0_5⟩ := box6 ka0; obtain ⟨fa0_0, fa0_1, fa0_2, fa0_3, fa0_4, fa0_5⟩ := thaw6 ka0; have ka1 := (Blk.newAt _ (w.heap.size + 1) 24 #[.int .i64 0, .int .i64 0, .int .i64 0, .slice none 0 0, .int .i64 0, .int .i64 0] (by simp)).below P1 (by simp <;> omega); obtain ⟨qa1_0, qa1_1, qa1_2, qa1_3, qa1_4, qa1_5⟩ := box6 ka1; obtain ⟨fa1_0, fa1_1, fa1_2, fa1_3, fa1_4, fa1_5⟩ := thaw6 ka1
    have hz := P1.size
    simp at hz
    have BB := Lib.hid (HB0.out.trans (P1.mono (by simp <;> omega)))
    clear P1
    go_wp2_with fail
    obtain ⟨Z, hZ⟩ : ∃ W : World, ((((((w1.setCell ⟨w.heap.size + 1, 0, none⟩ (.int .i64 0)).setCell ⟨w.heap.size + 1, 1, none⟩ (.int .i64 0)).setCell ⟨w.heap.size + 1, 2, none⟩ (.int .i64 0)).setCell ⟨w.heap.size + 1, 3, none⟩ (.slice none 0 0)).setCell ⟨w.heap.size + 1, 4, none⟩ (.int .i64 0)).setCell ⟨w.heap.size + 1, 5, none⟩ (.int .i64 0)) = W := ⟨_, rfl⟩; rw [hZ]; have ka1Z := put6_self ka1 (.int .i64 0) (.int .i64 0) (.int .i64 0) (.slice none 0 0) (.int .i64 0) (.int .i64 0); rw [hZ] at ka1Z; have BBZ := Lib.hid (put6_below BB.out (by omega) (b := w.heap.size + 1) (.int .i64 0) (.int .i64 0) (.int .i64 0) (.slice none 0 0) (.int .i64 0) (.int .i64 0)); rw [hZ] at BBZ; have zZ : w1.heap.size ≤ Z.heap.size := (by rw [← hZ] <;> simp [World.setCell]); clear hZ
    obtain ⟨q0, q1, q2, q3, q4, q5⟩ := box6 ka1Z
    rw [HE.out, HH.out, HN.out]
    refine bodyPost_ret (v := .tuple #[.agg #[.int .i64 0, .int .i64 0, .int .i64 0, .slice none 0 0, .int .i64 0, .int .i64 0], .bool false, .int .i64 1]) (by simp [results, Try.results18, go_sem, q0, q1, q2, q3, q4, q5]) rfl ?_
    exact ⟨[.int .i64 0, .int .i64 0, .int .i64 0, .slice none 0 0, .int .i64 0, .int .i64 0], rfl, h0_rd _ _, BBZ.out⟩
  · have HR := Lib.hid hri
    have HE := Lib.hid (show takeE h = 0 by simp [takeE, hri])
    have HSO := Lib.hid (ri_sort hri)
    have HHI := Lib.hid (show takeH h ask seq = (if takeB h ask seq = true then h.taken ask seq else h) by rw [takeH, hri]; simp)
    have HTB := Lib.hid (show takeB h ask seq = (hasB h ask && decide (h.seq < seq) && decide (seq ≤ 1000000000)) by rw [takeB, hri]; simp)
    clear hri
    go_enter Try.func18, Try.ntmps18
    go_wp2_with fail
    refine (HC1.out _ HB0.out).mono ?_
    rw [HR.out, err_t]
    rintro e w1 ⟨rfl, P1⟩
    have ka0 := ((Blk.newAt _ (w.heap.size) 24 #[.int .i64 h.node, .int .i64 h.now, .int .i64 h.ask, .slice a3 (h.sent).length c3, .int .i64 h.seq, .int .i64 h.at_] (by simp)).alloc _).below P1 (by simp <;> omega); obtain ⟨qa0_0, qa0_1, qa0_2, qa0_3, qa0_4, qa0_5⟩ := box6 ka0; obtain ⟨fa0_0, fa0_1, fa0_2, fa0_3, fa0_4, fa0_5⟩ := thaw6 ka0; have ka1 := (Blk.newAt _ (w.heap.size + 1) 24 #[.int .i64 0, .int .i64 0, .int .i64 0, .slice none 0 0, .int .i64 0, .int .i64 0] (by simp)).below P1 (by simp <;> omega); obtain ⟨qa1_0, qa1_1, qa1_2, qa1_3, qa1_4, qa1_5⟩ := box6 ka1; obtain ⟨fa1_0, fa1_1, fa1_2, fa1_3, fa1_4, fa1_5⟩ := thaw6 ka1
    have hz := P1.size
    simp at hz
    have BB := Lib.hid (HB0.out.trans (P1.mono (by simp <;> omega)))
    clear P1
    go_wp2_with fail
    refine (HC2.out _ BB.out).mono ?_
    rintro e w2 ⟨v, rfl, ho, P2⟩
    obtain ⟨av, cv, rfl⟩ := ho.form
    have HO := Lib.hid ho
    rw [List.length_map] at HO
    have kb0 := ka0.below P2 (by omega)
    have kb1 := ka1.below P2 (by omega)
    have hz2 := P2.size
    have BB2 := Lib.hid (BB.out.trans (P2.mono (by omega)))
    clear P2 ho qa0_0 qa0_1 qa0_2 qa0_3 qa0_4 qa0_5 qa1_0 qa1_1 qa1_2 qa1_3 qa1_4 qa1_5 fa0_0 fa0_1 fa0_2 fa0_3 fa0_4 fa0_5 fa1_0 fa1_1 fa1_2 fa1_3 fa1_4 fa1_5
    obtain ⟨q0, q1, q2, q3, q4, q5⟩ := box6 kb0
    obtain ⟨f0, f1, f2, f3, f4, f5⟩ := thaw6 kb0
    rw [List.length_map]
    go_upto_region 4 with fail
    clear q0 q1 q2 q3 q4 q5 f0 f1 f2 f3 f4 f5
    obtain ⟨X, hX⟩ : ∃ W : World, ((((((w2.setCell ⟨w.heap.size, 0, none⟩ (.int .i64 h.node)).setCell ⟨w.heap.size, 1, none⟩ (.int .i64 h.now)).setCell ⟨w.heap.size, 2, none⟩ (.int .i64 h.ask)).setCell ⟨w.heap.size, 3, none⟩ (.slice av h.sent.length cv)).setCell ⟨w.heap.size, 4, none⟩ (.int .i64 h.seq)).setCell ⟨w.heap.size, 5, none⟩ (.int .i64 h.at_)) = W := ⟨_, rfl⟩; rw [hX]; have kb0X := put6_self kb0 (.int .i64 h.node) (.int .i64 h.now) (.int .i64 h.ask) (.slice av h.sent.length cv) (.int .i64 h.seq) (.int .i64 h.at_); rw [hX] at kb0X; have kb1X := put6_far kb1 (by omega) (b := w.heap.size) (.int .i64 h.node) (.int .i64 h.now) (.int .i64 h.ask) (.slice av h.sent.length cv) (.int .i64 h.seq) (.int .i64 h.at_); rw [hX] at kb1X; have HOX := Lib.hid (put6_own HO.out (by omega) (b := w.heap.size) (.int .i64 h.node) (.int .i64 h.now) (.int .i64 h.ask) (.slice av h.sent.length cv) (.int .i64 h.seq) (.int .i64 h.at_)); rw [hX] at HOX; have BB2X := Lib.hid (put6_below BB2.out (by omega) (b := w.heap.size) (.int .i64 h.node) (.int .i64 h.now) (.int .i64 h.ask) (.slice av h.sent.length cv) (.int .i64 h.seq) (.int .i64 h.at_)); rw [hX] at BB2X; have zX : w2.heap.size ≤ X.heap.size := (by rw [← hX] <;> simp [World.setCell]); clear hX
    have HLN := Lib.hid (show (h.sent.map Sent.enc).length = h.sent.length from List.length_map ..)
    have HSX : Hid (Sl X (fun b => w1.heap.size ≤ b) Sent.ty av h.sent.length cv (h.sent.map Sent.enc)) := by
      obtain ⟨a, c, e, hs⟩ := HOX.out.sl (fun b => w1.heap.size ≤ b) (fun _ h => h) (fun _ h => h) (by rw [HLN.out]; omega)
      rw [HLN.out] at e hs
      cases e; exact Lib.hid hs
    obtain ⟨q0, q1, q2, q3, q4, q5⟩ := box6 kb0X
    go_wp2_with fail
    refine (bseek_any _ _ _ h.sent ask _ _ HSX.out HSO.out).mono ?_
    rintro e w3 ⟨p, b, rfl, hp, hlo, hhi, hbt, P3⟩
    have HP := Lib.hid (seekN_uniq ask h.sent p hp hlo hhi)
    have k03 := kb0X.below P3 (by omega)
    have k13 := kb1X.below P3 (by omega)
    have hz3 := P3.size
    have HS3 := Lib.hid (HSX.out.next P3)
    have BB3 := Lib.hid (BB2X.out.trans (P3.mono (by omega)))
    have HBT := Lib.hid hbt
    clear q0 q1 q2 q3 q4 q5 P3 hlo hhi hbt
    have HHB : Hid (hasB h ask = b) := by
      unfold hasB; rw [HP.out]
      have := HBT.out
      cases b
      · have h1 : ¬ (p < h.sent.length ∧ (h.sent.getD p default).ask = ask) := fun hh => by have := this.2 hh; cases this
        refine Lib.hid ?_
        rw [Bool.and_eq_false_iff, decide_eq_false_iff_not, decide_eq_false_iff_not]
        by_cases h2 : p < h.sent.length
        · exact .inr fun h3 => h1 ⟨h2, h3⟩
        · exact .inl h2
      · have h1 := this.1 rfl
        refine Lib.hid ?_
        rw [Bool.and_eq_true, decide_eq_true_eq, decide_eq_true_eq]; exact h1
    obtain ⟨q0, q1, q2, q3, q4, q5⟩ := box6 k03
    obtain ⟨f0, f1, f2, f3, f4, f5⟩ := thaw6 k03
    obtain ⟨o0, o1, o2, o3, o4, o5⟩ := box6 k13
    obtain ⟨p0, p1, p2, p3, p4, p5⟩ := thaw6 k13
    obtain ⟨hs1, hs2⟩ := hs
    by_cases hno : b = false ∨ seq ≤ h.seq ∨ 1000000000 < seq
    · have HF := Lib.hid (show takeB h ask seq = false by
        rw [HTB.out, HHB.out]
        rcases hno with h1 | h1 | h1
        · simp [h1]
        · have : ¬ h.seq < seq := by omega
          simp [this]
        · have : ¬ seq ≤ 1000000000 := by omega
          simp [this])
      have HH := Lib.hid (show takeH h ask seq = h by rw [HHI.out, HF.out]; rfl)
      have hno2 : b = false ∨ (b = true ∧ seq ≤ h.seq) ∨ (b = true ∧ ¬ seq ≤ h.seq ∧ 1000000000 < seq) := by
        cases b
        · exact .inl rfl
        · simp at hno ⊢; omega
      clear hno
      rcases hno2 with rfl | ⟨rfl, h1⟩ | ⟨rfl, h1, h2⟩
      all_goals
        go_wp2_with fail
        obtain ⟨Z, hZ⟩ : ∃ W : World, ((((((w3.setCell ⟨w.heap.size + 1, 0, none⟩ (.int .i64 h.node)).setCell ⟨w.heap.size + 1, 1, none⟩ (.int .i64 h.now)).setCell ⟨w.heap.size + 1, 2, none⟩ (.int .i64 h.ask)).setCell ⟨w.heap.size + 1, 3, none⟩ (.slice av h.sent.length cv)).setCell ⟨w.heap.size + 1, 4, none⟩ (.int .i64 h.seq)).setCell ⟨w.heap.size + 1, 5, none⟩ (.int .i64 h.at_)) = W := ⟨_, rfl⟩; rw [hZ]; have k13Z := put6_self k13 (.int .i64 h.node) (.int .i64 h.now) (.int .i64 h.ask) (.slice av h.sent.length cv) (.int .i64 h.seq) (.int .i64 h.at_); rw [hZ] at k13Z; have BB3Z := Lib.hid (put6_below BB3.out (by omega) (b := w.heap.size + 1) (.int .i64 h.node) (.int .i64 h.now) (.int .i64 h.ask) (.slice av h.sent.length cv) (.int .i64 h.seq) (.int .i64 h.at_)); rw [hZ] at BB3Z; have HS3Z := Lib.hid (put6_sl HS3.out (by show ¬ _; omega) (b := w.heap.size + 1) (.int .i64 h.node) (.int .i64 h.now) (.int .i64 h.ask) (.slice av h.sent.length cv) (.int .i64 h.seq) (.int .i64 h.at_)); rw [hZ] at HS3Z; have zZ : w3.heap.size ≤ Z.heap.size := (by rw [← hZ] <;> simp [World.setCell]); clear hZ
        clear q0 q1 q2 q3 q4 q5
        obtain ⟨q0, q1, q2, q3, q4, q5⟩ := box6 k13Z
        rw [HE.out, HH.out, HF.out]
        refine bodyPost_ret (v := .tuple #[.agg #[.int .i64 h.node, .int .i64 h.now, .int .i64 h.ask, .slice av h.sent.length cv, .int .i64 h.seq, .int .i64 h.at_], .bool false, .int .i64 0]) (by simp [results, Try.results18, go_sem, q0, q1, q2, q3, q4, q5]) rfl ?_
        exact ⟨[.int .i64 h.node, .int .i64 h.now, .int .i64 h.ask, .slice av h.sent.length cv, .int .i64 h.seq, .int .i64 h.at_], rfl, Holder.shuts h b0 b1 b2 (Sl.up HS3Z.out fun b hb => by omega) b4 b5, BB3Z.out⟩
    · have hb : b = true := by cases b <;> simp at hno ⊢
      subst hb
      simp only [Bool.true_eq_false, false_or, not_or, Int.not_le, Int.not_lt] at hno
      obtain ⟨hno1, hno2⟩ := hno
      have HF := Lib.hid (show takeB h ask seq = true by rw [HTB.out, HHB.out]; simp [hno1, hno2])
      have HH := Lib.hid (show takeH h ask seq = h.taken ask seq by rw [HHI.out, HF.out]; rfl)
      obtain ⟨hpl, hpa⟩ := HBT.out.1 rfl
      obtain ⟨bb, off, rfl⟩ := Sl.addr HS3.out (by omega)
      obtain ⟨hS, hb1, e0, e1, g0, g1⟩ := Sent.row HS3.out hpl
      have hcv := (Sl.bd HS3.out).1
      have HTK := Lib.hid (show (h.taken ask seq).at_ = (h.sent.getD p default).at_ by show (h.sent.getD (seekN h.sent ask) default).at_ = _; rw [HP.out])
      have HTS := Lib.hid (show (h.taken ask seq).sent = h.sent.drop (p + 1) by show h.sent.drop (seekN h.sent ask + 1) = _; rw [HP.out])
      clear hpa
      generalize h.sent.getD p default = e at *
      have kp0 : (0 : Int) ≤ (p : Int) := by omega
      have kp1 : (p : Int) < (h.sent.length : Int) := by omega
      by_cases hcp : cv = p + 1
      · have hn0 : h.sent.length = p + 1 := by omega
        have HS5 : Hid (Rd w3 (fun b => w1.heap.size ≤ b) (.sl Sent.ty) (.slice (some ⟨bb, off, none⟩) 0 0) (.sl ((h.taken ask seq).sent.map Sent.enc))) := by
          refine Lib.hid ?_
          rw [HTS.out, List.drop_eq_nil_of_le (by omega)]
          exact .emp (fun hh => by cases hh) (by simp [maxLen])
        subst hcp
        have hn1 : h.sent.length = p + 1 := hn0
        clear hn0
        have hx0 : h.sent.length - (p + 1) = 0 := by omega
        have HX1 := Lib.hid hn1
        clear hn1
        go_upto_region 7 with fail
        go_region
        go_upto_region 8 with fail
        clear q0 q1 q2 q3 q4 q5 f0 f1 f2 f3 f4 f5 o0 o1 o2 o3 o4 o5 p0 p1 p2 p3 p4 p5
        obtain ⟨A, hA⟩ : ∃ W : World, (w3.setCell ⟨w.heap.size, 4, none⟩ (.int .i64 seq)) = W := ⟨_, rfl⟩; rw [hA]; have k03A := Blk.put1 k03 4 (.int .i64 seq) #[.int .i64 h.node, .int .i64 h.now, .int .i64 h.ask, .slice (some ⟨bb, off, none⟩) h.sent.length (p + 1), .int .i64 seq, .int .i64 h.at_] rfl; rw [hA] at k03A; have k13A := put1_far k13 (by omega) (b := w.heap.size) (4) (.int .i64 seq); rw [hA] at k13A; have BB3A := Lib.hid (put1_below BB3.out (by omega) (b := w.heap.size) (4) (.int .i64 seq)); rw [hA] at BB3A; have HS5A := Lib.hid (put1_sl HS5.out (by show ¬ _; omega) (b := w.heap.size) (4) (.int .i64 seq)); rw [hA] at HS5A; have zA : w3.heap.size ≤ A.heap.size := (by rw [← hA] <;> simp [World.setCell]); clear hA
        obtain ⟨D, hD⟩ : ∃ W : World, (A.setCell ⟨w.heap.size, 5, none⟩ (.int .i64 e.at_)) = W := ⟨_, rfl⟩; rw [hD]; have k03AD := Blk.put1 k03A 5 (.int .i64 e.at_) #[.int .i64 h.node, .int .i64 h.now, .int .i64 h.ask, .slice (some ⟨bb, off, none⟩) h.sent.length (p + 1), .int .i64 seq, .int .i64 e.at_] rfl; rw [hD] at k03AD; have k13AD := put1_far k13A (by omega) (b := w.heap.size) (5) (.int .i64 e.at_); rw [hD] at k13AD; have BB3AD := Lib.hid (put1_below BB3A.out (by omega) (b := w.heap.size) (5) (.int .i64 e.at_)); rw [hD] at BB3AD; have HS5AD := Lib.hid (put1_sl HS5A.out (by show ¬ _; omega) (b := w.heap.size) (5) (.int .i64 e.at_)); rw [hD] at HS5AD; have zD : A.heap.size ≤ D.heap.size := (by rw [← hD] <;> simp [World.setCell]); clear hD
        obtain ⟨F, hF⟩ : ∃ W : World, (D.setCell ⟨w.heap.size, 3, none⟩ (.slice (some ⟨bb, off, none⟩) 0 0)) = W := ⟨_, rfl⟩; rw [hF]; have k03ADF := Blk.put1 k03AD 3 (.slice (some ⟨bb, off, none⟩) 0 0) #[.int .i64 h.node, .int .i64 h.now, .int .i64 h.ask, .slice (some ⟨bb, off, none⟩) 0 0, .int .i64 seq, .int .i64 e.at_] rfl; rw [hF] at k03ADF; have k13ADF := put1_far k13AD (by omega) (b := w.heap.size) (3) (.slice (some ⟨bb, off, none⟩) 0 0); rw [hF] at k13ADF; have BB3ADF := Lib.hid (put1_below BB3AD.out (by omega) (b := w.heap.size) (3) (.slice (some ⟨bb, off, none⟩) 0 0)); rw [hF] at BB3ADF; have HS5ADF := Lib.hid (put1_sl HS5AD.out (by show ¬ _; omega) (b := w.heap.size) (3) (.slice (some ⟨bb, off, none⟩) 0 0)); rw [hF] at HS5ADF; have zF : D.heap.size ≤ F.heap.size := (by rw [← hF] <;> simp [World.setCell]); clear hF
        obtain ⟨G, hG⟩ : ∃ W : World, F.drew = W := ⟨_, rfl⟩; rw [hG]; have k03ADFG := k03ADF.drew; rw [hG] at k03ADFG; have k13ADFG := k13ADF.drew; rw [hG] at k13ADFG; have BB3ADFG := Lib.hid (BB3ADF.out.drew); rw [hG] at BB3ADFG; have HS5ADFG := Lib.hid (Rd.drew HS5ADF.out); rw [hG] at HS5ADFG; have zG : F.heap.size ≤ G.heap.size := (by rw [← hG] <;> exact Nat.le_refl _); clear hG
        obtain ⟨q0, q1, q2, q3, q4, q5⟩ := box6 k03ADFG
        obtain ⟨p0, p1, p2, p3, p4, p5⟩ := thaw6 k13ADFG
        obtain ⟨o0, o1, o2, o3, o4, o5⟩ := box6 k13ADFG
        go_wp2_with fail
        clear q0 q1 q2 q3 q4 q5 o0 o1 o2 o3 o4 o5 p0 p1 p2 p3 p4 p5
        obtain ⟨Z, hZ⟩ : ∃ W : World, ((((((G.setCell ⟨w.heap.size + 1, 0, none⟩ (.int .i64 h.node)).setCell ⟨w.heap.size + 1, 1, none⟩ (.int .i64 h.now)).setCell ⟨w.heap.size + 1, 2, none⟩ (.int .i64 h.ask)).setCell ⟨w.heap.size + 1, 3, none⟩ (.slice (some ⟨bb, off, none⟩) 0 0)).setCell ⟨w.heap.size + 1, 4, none⟩ (.int .i64 seq)).setCell ⟨w.heap.size + 1, 5, none⟩ (.int .i64 e.at_)) = W := ⟨_, rfl⟩; rw [hZ]; have k13ADFGZ := put6_self k13ADFG (.int .i64 h.node) (.int .i64 h.now) (.int .i64 h.ask) (.slice (some ⟨bb, off, none⟩) 0 0) (.int .i64 seq) (.int .i64 e.at_); rw [hZ] at k13ADFGZ; have BB3ADFGZ := Lib.hid (put6_below BB3ADFG.out (by omega) (b := w.heap.size + 1) (.int .i64 h.node) (.int .i64 h.now) (.int .i64 h.ask) (.slice (some ⟨bb, off, none⟩) 0 0) (.int .i64 seq) (.int .i64 e.at_)); rw [hZ] at BB3ADFGZ; have HS5ADFGZ := Lib.hid (put6_sl HS5ADFG.out (by show ¬ _; omega) (b := w.heap.size + 1) (.int .i64 h.node) (.int .i64 h.now) (.int .i64 h.ask) (.slice (some ⟨bb, off, none⟩) 0 0) (.int .i64 seq) (.int .i64 e.at_)); rw [hZ] at HS5ADFGZ; have zZ : G.heap.size ≤ Z.heap.size := (by rw [← hZ] <;> simp [World.setCell]); clear hZ
        obtain ⟨q0, q1, q2, q3, q4, q5⟩ := box6 k13ADFGZ
        rw [HE.out, HH.out, HF.out]
        refine bodyPost_ret (v := .tuple #[.agg #[.int .i64 h.node, .int .i64 h.now, .int .i64 h.ask, .slice (some ⟨bb, off, none⟩) 0 0, .int .i64 seq, .int .i64 e.at_], .bool true, .int .i64 0]) (by simp [results, Try.results18, go_sem, q0, q1, q2, q3, q4, q5]) rfl ?_
        refine ⟨[.int .i64 h.node, .int .i64 h.now, .int .i64 h.ask, .slice (some ⟨bb, off, none⟩) 0 0, .int .i64 seq, .int .i64 e.at_], rfl, ?_, BB3ADFGZ.out⟩
        have hf := row_rd (h := h.taken ask seq) (B := w.heap.size) HS5ADFGZ.out (by omega) b0 b1 b2 (by show I64 seq; exact ⟨hs1, hs2⟩) (by rw [HTK.out]; exact g1)
        rw [HTK.out] at hf
        exact hf
      · have hcp2 : ¬ p + 1 = cv := by omega
        have hcp3 : p + 1 < cv := by omega
        have hcp4 : ((cv : Int) == ((p : Int) + 1)) = false := by rw [beq_eq_false_iff_ne]; omega
        have hs5 := Sl.cutM HS3.out (show p + 1 ≤ h.sent.length by omega) hcp3
        rw [← List.map_drop, ← HTS.out] at hs5
        have HS5 : Hid (Rd w3 (fun b => w1.heap.size ≤ b) (.sl Sent.ty) (.slice (some ⟨bb, off + (p + 1) * 2, none⟩) (h.sent.length - (p + 1)) (cv - (p + 1))) (.sl ((h.taken ask seq).sent.map Sent.enc))) := Lib.hid hs5
        clear hs5
        go_upto_region 7 with fail
        go_region
        go_upto_region 8 with fail
        clear q0 q1 q2 q3 q4 q5 f0 f1 f2 f3 f4 f5 o0 o1 o2 o3 o4 o5 p0 p1 p2 p3 p4 p5
        obtain ⟨A, hA⟩ : ∃ W : World, (w3.setCell ⟨w.heap.size, 4, none⟩ (.int .i64 seq)) = W := ⟨_, rfl⟩; rw [hA]; have k03A := Blk.put1 k03 4 (.int .i64 seq) #[.int .i64 h.node, .int .i64 h.now, .int .i64 h.ask, .slice (some ⟨bb, off, none⟩) h.sent.length cv, .int .i64 seq, .int .i64 h.at_] rfl; rw [hA] at k03A; have k13A := put1_far k13 (by omega) (b := w.heap.size) (4) (.int .i64 seq); rw [hA] at k13A; have BB3A := Lib.hid (put1_below BB3.out (by omega) (b := w.heap.size) (4) (.int .i64 seq)); rw [hA] at BB3A; have HS5A := Lib.hid (put1_sl HS5.out (by show ¬ _; omega) (b := w.heap.size) (4) (.int .i64 seq)); rw [hA] at HS5A; have zA : w3.heap.size ≤ A.heap.size := (by rw [← hA] <;> simp [World.setCell]); clear hA
        obtain ⟨D, hD⟩ : ∃ W : World, (A.setCell ⟨w.heap.size, 5, none⟩ (.int .i64 e.at_)) = W := ⟨_, rfl⟩; rw [hD]; have k03AD := Blk.put1 k03A 5 (.int .i64 e.at_) #[.int .i64 h.node, .int .i64 h.now, .int .i64 h.ask, .slice (some ⟨bb, off, none⟩) h.sent.length cv, .int .i64 seq, .int .i64 e.at_] rfl; rw [hD] at k03AD; have k13AD := put1_far k13A (by omega) (b := w.heap.size) (5) (.int .i64 e.at_); rw [hD] at k13AD; have BB3AD := Lib.hid (put1_below BB3A.out (by omega) (b := w.heap.size) (5) (.int .i64 e.at_)); rw [hD] at BB3AD; have HS5AD := Lib.hid (put1_sl HS5A.out (by show ¬ _; omega) (b := w.heap.size) (5) (.int .i64 e.at_)); rw [hD] at HS5AD; have zD : A.heap.size ≤ D.heap.size := (by rw [← hD] <;> simp [World.setCell]); clear hD
        obtain ⟨F, hF⟩ : ∃ W : World, (D.setCell ⟨w.heap.size, 3, none⟩ (.slice (some ⟨bb, off + (p + 1) * 2, none⟩) (h.sent.length - (p + 1)) (cv - (p + 1)))) = W := ⟨_, rfl⟩; rw [hF]; have k03ADF := Blk.put1 k03AD 3 (.slice (some ⟨bb, off + (p + 1) * 2, none⟩) (h.sent.length - (p + 1)) (cv - (p + 1))) #[.int .i64 h.node, .int .i64 h.now, .int .i64 h.ask, .slice (some ⟨bb, off + (p + 1) * 2, none⟩) (h.sent.length - (p + 1)) (cv - (p + 1)), .int .i64 seq, .int .i64 e.at_] rfl; rw [hF] at k03ADF; have k13ADF := put1_far k13AD (by omega) (b := w.heap.size) (3) (.slice (some ⟨bb, off + (p + 1) * 2, none⟩) (h.sent.length - (p + 1)) (cv - (p + 1))); rw [hF] at k13ADF; have BB3ADF := Lib.hid (put1_below BB3AD.out (by omega) (b := w.heap.size) (3) (.slice (some ⟨bb, off + (p + 1) * 2, none⟩) (h.sent.length - (p + 1)) (cv - (p + 1)))); rw [hF] at BB3ADF; have HS5ADF := Lib.hid (put1_sl HS5AD.out (by show ¬ _; omega) (b := w.heap.size) (3) (.slice (some ⟨bb, off + (p + 1) * 2, none⟩) (h.sent.length - (p + 1)) (cv - (p + 1)))); rw [hF] at HS5ADF; have zF : D.heap.size ≤ F.heap.size := (by rw [← hF] <;> simp [World.setCell]); clear hF
        obtain ⟨G, hG⟩ : ∃ W : World, F.drew = W := ⟨_, rfl⟩; rw [hG]; have k03ADFG := k03ADF.drew; rw [hG] at k03ADFG; have k13ADFG := k13ADF.drew; rw [hG] at k13ADFG; have BB3ADFG := Lib.hid (BB3ADF.out.drew); rw [hG] at BB3ADFG; have HS5ADFG := Lib.hid (Rd.drew HS5ADF.out); rw [hG] at HS5ADFG; have zG : F.heap.size ≤ G.heap.size := (by rw [← hG] <;> exact Nat.le_refl _); clear hG
        obtain ⟨q0, q1, q2, q3, q4, q5⟩ := box6 k03ADFG
        obtain ⟨p0, p1, p2, p3, p4, p5⟩ := thaw6 k13ADFG
        obtain ⟨o0, o1, o2, o3, o4, o5⟩ := box6 k13ADFG
        go_wp2_with fail
        clear q0 q1 q2 q3 q4 q5 o0 o1 o2 o3 o4 o5 p0 p1 p2 p3 p4 p5
        obtain ⟨Z, hZ⟩ : ∃ W : World, ((((((G.setCell ⟨w.heap.size + 1, 0, none⟩ (.int .i64 h.node)).setCell ⟨w.heap.size + 1, 1, none⟩ (.int .i64 h.now)).setCell ⟨w.heap.size + 1, 2, none⟩ (.int .i64 h.ask)).setCell ⟨w.heap.size + 1, 3, none⟩ (.slice (some ⟨bb, off + (p + 1) * 2, none⟩) (h.sent.length - (p + 1)) (cv - (p + 1)))).setCell ⟨w.heap.size + 1, 4, none⟩ (.int .i64 seq)).setCell ⟨w.heap.size + 1, 5, none⟩ (.int .i64 e.at_)) = W := ⟨_, rfl⟩; rw [hZ]; have k13ADFGZ := put6_self k13ADFG (.int .i64 h.node) (.int .i64 h.now) (.int .i64 h.ask) (.slice (some ⟨bb, off + (p + 1) * 2, none⟩) (h.sent.length - (p + 1)) (cv - (p + 1))) (.int .i64 seq) (.int .i64 e.at_); rw [hZ] at k13ADFGZ; have BB3ADFGZ := Lib.hid (put6_below BB3ADFG.out (by omega) (b := w.heap.size + 1) (.int .i64 h.node) (.int .i64 h.now) (.int .i64 h.ask) (.slice (some ⟨bb, off + (p + 1) * 2, none⟩) (h.sent.length - (p + 1)) (cv - (p + 1))) (.int .i64 seq) (.int .i64 e.at_)); rw [hZ] at BB3ADFGZ; have HS5ADFGZ := Lib.hid (put6_sl HS5ADFG.out (by show ¬ _; omega) (b := w.heap.size + 1) (.int .i64 h.node) (.int .i64 h.now) (.int .i64 h.ask) (.slice (some ⟨bb, off + (p + 1) * 2, none⟩) (h.sent.length - (p + 1)) (cv - (p + 1))) (.int .i64 seq) (.int .i64 e.at_)); rw [hZ] at HS5ADFGZ; have zZ : G.heap.size ≤ Z.heap.size := (by rw [← hZ] <;> simp [World.setCell]); clear hZ
        obtain ⟨q0, q1, q2, q3, q4, q5⟩ := box6 k13ADFGZ
        rw [HE.out, HH.out, HF.out]
        refine bodyPost_ret (v := .tuple #[.agg #[.int .i64 h.node, .int .i64 h.now, .int .i64 h.ask, .slice (some ⟨bb, off + (p + 1) * 2, none⟩) (h.sent.length - (p + 1)) (cv - (p + 1)), .int .i64 seq, .int .i64 e.at_], .bool true, .int .i64 0]) (by simp [results, Try.results18, go_sem, q0, q1, q2, q3, q4, q5]) rfl ?_
        refine ⟨[.int .i64 h.node, .int .i64 h.now, .int .i64 h.ask, .slice (some ⟨bb, off + (p + 1) * 2, none⟩) (h.sent.length - (p + 1)) (cv - (p + 1)), .int .i64 seq, .int .i64 e.at_], rfl, ?_, BB3ADFGZ.out⟩
        have hf := row_rd (h := h.taken ask seq) (B := w.heap.size) HS5ADFGZ.out (by omega) b0 b1 b2 (by show I64 seq; exact ⟨hs1, hs2⟩) (by rw [HTK.out]; exact g1)
        rw [HTK.out] at hf
        exact hf
end Go.Proofs.Ytjfphnegcelbpaa
