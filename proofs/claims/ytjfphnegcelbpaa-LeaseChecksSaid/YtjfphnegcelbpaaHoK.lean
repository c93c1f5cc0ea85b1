/- Contract of the reference's Take. Condition: a struct that reads as a holder, of at most 10^6 signs. -/
import Derived.Test.YtjfphnegcelbpaaHoG
import Derived.Test.YtjfphnegcelbpaaHoJ
namespace Go.Proofs.Ytjfphnegcelbpaa
open Go.RowKit
set_option linter.unusedVariables false
set_option linter.unusedSimpArgs false
def foB (l : List Sent) (t : Int) : Bool := l.any fun s => s.ask == t
def foA (l : List Sent) (t a : Int) : Int := l.foldl (fun a s => if s.ask == t then s.at_ else a) a
def foR (l : List Sent) (t : Int) : List Sent := l.filter fun s => decide (t < s.ask)
theorem take_snocS {l : List Sent} {j : Nat} (h : j < l.length) : l.take (j + 1) = l.take j ++ [l.getD j default] := by
  rw [List.take_succ_eq_append_getElem h]; simp [List.getD, h]
theorem foB_succ {l : List Sent} {t : Int} {j : Nat} (h : j < l.length) : foB (l.take (j + 1)) t = (foB (l.take j) t || (l.getD j default).ask == t) := by
  rw [take_snocS h, foB, List.any_append]; simp [foB]
theorem foA_succ {l : List Sent} {t a : Int} {j : Nat} (h : j < l.length) : foA (l.take (j + 1)) t a = if (l.getD j default).ask == t then (l.getD j default).at_ else foA (l.take j) t a := by
  rw [take_snocS h, foA, List.foldl_append]; rfl
theorem foR_succ {l : List Sent} {t : Int} {j : Nat} (h : j < l.length) : foR (l.take (j + 1)) t = foR (l.take j) t ++ (if t < (l.getD j default).ask then [l.getD j default] else []) := by
  rw [take_snocS h, foR, List.filter_append]
  by_cases c : t < (l.getD j default).ask
  · rw [if_pos c, List.filter_cons, if_pos (decide_eq_true c)]; rfl
  · rw [if_neg c, List.filter_cons, if_neg (by simpa using c)]; rfl
theorem fo_none : ∀ (l : List Sent) (t a : Int), (∀ s ∈ l, t < s.ask) → foB l t = false ∧ foA l t a = a ∧ foR l t = l
  | [], _, _, _ => ⟨rfl, rfl, rfl⟩
  | x :: l, t, a, h => by
    have hx := h x (List.mem_cons_self ..)
    obtain ⟨h1, h2, h3⟩ := fo_none l t a (fun s hs => h s (List.mem_cons_of_mem _ hs))
    have c : (x.ask == t) = false := by rw [beq_eq_false_iff_ne]; omega
    refine ⟨?_, ?_, ?_⟩
    · rw [foB, List.any_cons, c]; exact h1
    · show foA l t (if x.ask == t then x.at_ else a) = a
      rw [c]; exact h2
    · rw [foR, List.filter_cons, if_pos (by simpa using hx)]; exact congrArg _ h3
theorem fo_all : ∀ (l : List Sent) (t a : Int), l.Pairwise (fun x y => x.ask < y.ask) → foB l t = (decide (seekN l t < l.length) && decide ((l.getD (seekN l t) default).ask = t)) ∧
    ((decide (seekN l t < l.length) && decide ((l.getD (seekN l t) default).ask = t)) = true → foA l t a = (l.getD (seekN l t) default).at_ ∧ foR l t = l.drop (seekN l t + 1))
  | [], _, _, _ => ⟨rfl, fun h => by simp at h⟩
  | x :: l, t, a, h => by
    obtain ⟨hx, hl⟩ := List.pairwise_cons.1 h
    by_cases c : x.ask < t
    · obtain ⟨h1, h2⟩ := fo_all l t a hl
      have e : (x.ask == t) = false := by rw [beq_eq_false_iff_ne]; omega
      have e2 : seekN (x :: l) t = seekN l t + 1 := by rw [seekN, if_pos c]
      rw [e2]
      have e3 : (x :: l).getD (seekN l t + 1) default = l.getD (seekN l t) default := by simp
      have e4 : (decide (seekN l t + 1 < (x :: l).length)) = decide (seekN l t < l.length) := by simp
      rw [e3, e4]
      refine ⟨?_, fun hh => ?_⟩
      · rw [foB, List.any_cons, e]; exact h1
      · obtain ⟨k1, k2⟩ := h2 hh
        refine ⟨?_, ?_⟩
        · show foA l t (if x.ask == t then x.at_ else a) = _
          rw [e]; exact k1
        · rw [foR, List.filter_cons, if_neg (by simp; omega)]; simpa [foR] using k2
    · have e2 : seekN (x :: l) t = 0 := by rw [seekN, if_neg c]
      rw [e2]
      by_cases c2 : x.ask = t
      · obtain ⟨h1, h2, h3⟩ := fo_none l t x.at_ (fun s hs => by have := hx s hs; omega)
        have e : (x.ask == t) = true := by simp [c2]
        refine ⟨?_, fun _ => ⟨?_, ?_⟩⟩
        · rw [foB, List.any_cons, e]; simp [c2]
        · show foA l t (if x.ask == t then x.at_ else a) = _
          rw [e]; simpa using h2
        · rw [foR, List.filter_cons, if_neg (by simp; omega)]; simpa [foR] using h3
      · obtain ⟨h1, h2, h3⟩ := fo_none l t a (fun s hs => by have := hx s hs; omega)
        have e : (x.ask == t) = false := by rw [beq_eq_false_iff_ne]; exact c2
        refine ⟨?_, fun hh => ?_⟩
        · rw [foB, List.any_cons, e]
          show foB l t = _
          rw [h1]; simp [c2]
        · simp [c2] at hh
theorem ri_pair {h : Holder} (hr : riB h = true) : h.sent.Pairwise (fun x y => x.ask < y.ask) := by
  rw [List.pairwise_iff_getElem]
  intro i j hi hj hij
  have := ri_sort hr i j hij hj
  simpa [List.getD, hi, hj] using this
set_option maxHeartbeats 4000000 in
theorem rtake_any (vs : List Value) (h : Holder) (w : World) (S : Nat → Prop) (hr : RdL w S Holder.ty vs h.enc) (hn : h.sent.length ≤ 1000000) (ask seq : Int) (ha : I64 ask) (hs : I64 seq) :
    Calls Try.prog 19 #[.agg vs.toArray, .int .i64 ask, .int .i64 seq] w (H4Post w (takeH h ask seq) (takeB h ask seq) (takeE h)) := by
  have hc1 := fun w' (hb : Below w.heap.size w w') => right_any vs h w' S (RdL.same (Same.below hb) hr)
  have hc2 := fun w' (hb : Below w.heap.size w w') => rhown_any vs h w' S (RdL.same (Same.below hb) hr) hn
  have HC1 := Lib.hid hc1
  have HC2 := Lib.hid hc2
  obtain ⟨a3, c3, rfl, b0, b1, b2, s3, b4, b5⟩ := Holder.opens hr
  have B0 : Below w.heap.size w ((w.alloc (.cells #[.int .i64 h.node, .int .i64 h.now, .int .i64 h.ask, .slice a3 (h.sent).length c3, .int .i64 h.seq, .int .i64 h.at_] 24)).alloc (.cells #[.int .i64 0, .int .i64 0, .int .i64 0, .slice none 0 0, .int .i64 0, .int .i64 0] 24)) := ((Below.refl _ w).alloc (Nat.le_refl _) _).alloc (by simp) _
  have HB0 := Lib.hid B0
  have HS3 := Lib.hid s3
  have ns3 := s3.bd.2.2.1
  clear hr s3 B0 hc1 hc2
  cases hri : riB h
  · have HR := Lib.hid hri
    have HE := Lib.hid (show takeE h = 1 by simp [takeE, hri])
    have HH := Lib.hid (show takeH h ask seq = h0 by simp [takeH, takeB, hri])
    have HN := Lib.hid (show takeB h ask seq = false by simp [takeB, hri])
    clear hri
    go_enter Try.func19, Try.ntmps19
    go_wp2_with fail
    refine (HC1.out _ HB0.out).mono ?_
    rw [HR.out]
    rintro e w1 ⟨rfl, P1⟩
    have ka0 := ((Blk.newAt _ (w.heap.size) 24 #[.int .i64 h.node, .int .i64 h.now, .int .i64 h.ask, .slice a3 (h.sent).length c3, .int .i64 h.seq, .int .i64 h.at_] (by simp)).alloc _).below P1 (by simp <;> omega); obtain ⟨qa0_0, qa0_1, qa0_2, qa0_3, qa0_4, qa0_5⟩ := box6 ka0; obtain ⟨fa0_0, fa0_1, fa0_2, fa0_3, fa0_4, fa0_5⟩ := thaw6 ka0; have ka1 := (Blk.newAt _ (w.heap.size + 1) 24 #[.int .i64 0, .int .i64 0, .int .i64 0, .slice none 0 0, .int .i64 0, .int .i64 0] (by simp)).below P1 (by simp <;> omega); obtain ⟨qa1_0, qa1_1, qa1_2, qa1_3, qa1_4, qa1_5⟩ := box6 ka1; obtain ⟨fa1_0, fa1_1, fa1_2, fa1_3, fa1_4, fa1_5⟩ := thaw6 ka1
    have hz := P1.size
    simp at hz
    have BB := Lib.hid (HB0.out.trans (P1.mono (by simp <;> omega)))
    clear P1
    go_wp2_with fail
    obtain ⟨Z, hZ⟩ : ∃ W : World, ((((((w1.setCell ⟨w.heap.size + 1, 0, none⟩ (.int .i64 0)).setCell ⟨w.heap.size + 1, 1, none⟩ (.int .i64 0)).setCell ⟨w.heap.size + 1, 2, none⟩ (.int .i64 0)).setCell ⟨w.heap.size + 1, 3, none⟩ (.slice none 0 0)).setCell ⟨w.heap.size + 1, 4, none⟩ (.int .i64 0)).setCell ⟨w.heap.size + 1, 5, none⟩ (.int .i64 0)) = W := ⟨_, rfl⟩; rw [hZ]; have ka1Z := put6_self ka1 (.int .i64 0) (.int .i64 0) (.int .i64 0) (.slice none 0 0) (.int .i64 0) (.int .i64 0); rw [hZ] at ka1Z; have BBZ := Lib.hid (put6_below BB.out (by omega) (b := w.heap.size + 1) (.int .i64 0) (.int .i64 0) (.int .i64 0) (.slice none 0 0) (.int .i64 0) (.int .i64 0)); rw [hZ] at BBZ; have zZ : w1.heap.size ≤ Z.heap.size := (by rw [← hZ] <;> simp [World.setCell]); clear hZ
    obtain ⟨q0, q1, q2, q3, q4, q5⟩ := box6 ka1Z
    rw [HE.out, HH.out, HN.out]
    refine bodyPost_ret (v := .tuple #[.agg #[.int .i64 0, .int .i64 0, .int .i64 0, .slice none 0 0, .int .i64 0, .int .i64 0], .bool false, .int .i64 1]) (by simp [results, Try.results19, go_sem, q0, q1, q2, q3, q4, q5]) rfl ?_
    exact ⟨[.int .i64 0, .int .i64 0, .int .i64 0, .slice none 0 0, .int .i64 0, .int .i64 0], rfl, h0_rd _ _, BBZ.out⟩
  · have HR := Lib.hid hri
    have HE := Lib.hid (show takeE h = 0 by simp [takeE, hri])
    have HFA := Lib.hid (fo_all h.sent ask h.at_ (ri_pair hri))
    have HHI := Lib.hid (show takeH h ask seq = (if takeB h ask seq = true then h.taken ask seq else h) by rw [takeH, hri]; simp)
    have HTB := Lib.hid (show takeB h ask seq = (hasB h ask && decide (h.seq < seq) && decide (seq ≤ 1000000000)) by rw [takeB, hri]; simp)
    clear hri
    go_enter Try.func19, Try.ntmps19
    go_wp2_with fail
    refine (HC1.out _ HB0.out).mono ?_
    rw [HR.out]
    rintro e w1 ⟨rfl, P1⟩
    have ka0 := ((Blk.newAt _ (w.heap.size) 24 #[.int .i64 h.node, .int .i64 h.now, .int .i64 h.ask, .slice a3 (h.sent).length c3, .int .i64 h.seq, .int .i64 h.at_] (by simp)).alloc _).below P1 (by simp <;> omega); obtain ⟨qa0_0, qa0_1, qa0_2, qa0_3, qa0_4, qa0_5⟩ := box6 ka0; obtain ⟨fa0_0, fa0_1, fa0_2, fa0_3, fa0_4, fa0_5⟩ := thaw6 ka0; have ka1 := (Blk.newAt _ (w.heap.size + 1) 24 #[.int .i64 0, .int .i64 0, .int .i64 0, .slice none 0 0, .int .i64 0, .int .i64 0] (by simp)).below P1 (by simp <;> omega); obtain ⟨qa1_0, qa1_1, qa1_2, qa1_3, qa1_4, qa1_5⟩ := box6 ka1; obtain ⟨fa1_0, fa1_1, fa1_2, fa1_3, fa1_4, fa1_5⟩ := thaw6 ka1
    have hz := P1.size
    simp at hz
    have BB := Lib.hid (HB0.out.trans (P1.mono (by simp <;> omega)))
    clear P1
    go_wp2_with fail
    refine (HC2.out _ BB.out).mono ?_
    rintro e w2 ⟨v, rfl, ho, P2⟩
    obtain ⟨av, cv, rfl⟩ := ho.form
    have HO := Lib.hid ho
    rw [List.length_map] at HO
    have kb0 := ka0.below P2 (by omega)
    have kb1 := ka1.below P2 (by omega)
    have hz2 := P2.size
    have BB2 := Lib.hid (BB.out.trans (P2.mono (by omega)))
    clear P2 ho qa0_0 qa0_1 qa0_2 qa0_3 qa0_4 qa0_5 qa1_0 qa1_1 qa1_2 qa1_3 qa1_4 qa1_5 fa0_0 fa0_1 fa0_2 fa0_3 fa0_4 fa0_5 fa1_0 fa1_1 fa1_2 fa1_3 fa1_4 fa1_5
    obtain ⟨q0, q1, q2, q3, q4, q5⟩ := box6 kb0
    obtain ⟨f0, f1, f2, f3, f4, f5⟩ := thaw6 kb0
    rw [List.length_map]
    go_upto_region 4 with fail
    clear q0 q1 q2 q3 q4 q5 f0 f1 f2 f3 f4 f5
    obtain ⟨X, hX⟩ : ∃ W : World, w2.alloc (.cells #[.int .i64 h.node, .int .i64 h.now, .int .i64 h.ask, .slice av h.sent.length cv, .int .i64 h.seq, .int .i64 h.at_] 24) = W := ⟨_, rfl⟩; rw [hX]; have kcX := Blk.new w2 24 #[.int .i64 h.node, .int .i64 h.now, .int .i64 h.ask, .slice av h.sent.length cv, .int .i64 h.seq, .int .i64 h.at_]; rw [hX] at kcX; have kb0X := kb0.alloc (.cells #[.int .i64 h.node, .int .i64 h.now, .int .i64 h.ask, .slice av h.sent.length cv, .int .i64 h.seq, .int .i64 h.at_] 24); rw [hX] at kb0X; have kb1X := kb1.alloc (.cells #[.int .i64 h.node, .int .i64 h.now, .int .i64 h.ask, .slice av h.sent.length cv, .int .i64 h.seq, .int .i64 h.at_] 24); rw [hX] at kb1X; have BB2X := Lib.hid (BB2.out.alloc BB2.out.size (.cells #[.int .i64 h.node, .int .i64 h.now, .int .i64 h.ask, .slice av h.sent.length cv, .int .i64 h.seq, .int .i64 h.at_] 24)); rw [hX] at BB2X; have zX : w2.heap.size + 1 ≤ X.heap.size := (by rw [← hX] <;> simp); clear hX
    go_wp2_with fail
    have zB := zX
    go_loopw [10, 11, 12] (fun f v i wr => ∃ j : Nat, j ≤ h.sent.length ∧ i = .int .i64 j ∧ f = .bool (foB (h.sent.take j) ask) ∧ OwnR X.heap.size wr 51 (fun _ => False) Sent.ty v ((foR (h.sent.take j) ask).map Sent.enc) ∧
      Blk wr w.heap.size 24 #[.int .i64 h.node, .int .i64 h.now, .int .i64 h.ask, .slice a3 (h.sent).length c3, .int .i64 h.seq, .int .i64 h.at_] ∧ Blk wr (w.heap.size + 1) 24 #[.int .i64 0, .int .i64 0, .int .i64 0, .slice none 0 0, .int .i64 0, .int .i64 0] ∧ Blk wr w2.heap.size 24 #[.int .i64 h.node, .int .i64 h.now, .int .i64 h.ask, .slice av h.sent.length cv, .int .i64 h.seq, .int .i64 (foA (h.sent.take j) ask h.at_)] ∧ Below w.heap.size w wr ∧ X.heap.size ≤ wr.heap.size ∧ I64 (foA (h.sent.take j) ask h.at_)) (fun _ _ i _ => h.sent.length - (intOf i).toNat)
    case atStart => exact ⟨0, Nat.zero_le _, rfl, rfl, OwnR.nil _ _ _ _ _, kb0X, kb1X, kcX, BB2X.out, Nat.le_refl _, b5⟩
    case round =>
      obtain ⟨j, hj, rfl, rfl, ho, k0, k1, k2, hb, hz, hA⟩ := hrel
      have HO := Lib.hid ho
      have HB := Lib.hid hb
      have HAA := Lib.hid hA
      clear ho hb hA
      obtain ⟨q0, q1, q2, q3, q4, q5⟩ := box6 k0
      have K0 := Lib.hid k0
      have K1 := Lib.hid k1
      have K2 := Lib.hid k2
      clear k0 k1 k2
      by_cases hlt : j < h.sent.length
      · obtain ⟨b, off, rfl⟩ := HS3.out.addr (by omega)
        obtain ⟨hS, hb1, e0, e1, g0, g1⟩ := Sent.row (HS3.out.same (Same.below HB.out)) hlt
        have HFB := Lib.hid (foB_succ (t := ask) hlt)
        have HFAA := Lib.hid (foA_succ (t := ask) (a := h.at_) hlt)
        have HFR := Lib.hid (foR_succ (t := ask) hlt)
        have HRL := Lib.hid (show (foR (h.sent.take j) ask).length ≤ j from Nat.le_trans (List.length_filter_le _ _) (List.length_take_le _ _))
        generalize h.sent.getD j default = e at *
        have kj0 : (0 : Int) ≤ (j : Int) := by omega
        have kj1 : (j : Int) < (h.sent.length : Int) := by omega
        generalize foB (h.sent.take j) ask = B0 at *
        generalize foA (h.sent.take j) ask h.at_ = A0 at *
        generalize foR (h.sent.take j) ask = R0 at *
        have zr : w2.heap.size < wr.heap.size := by omega
        have HBX := Lib.hid (HB.out.alloc HB.out.size (.cells #[.int .i64 e.ask, .int .i64 e.at_] 51))
        have r5 := K2.out.cell 5
        have t5 := K2.out.frozen 5
        simp only [List.getElem?_toArray, List.getElem?_cons_succ, List.getElem?_cons_zero] at r5
        have c2 : (e.ask == ask) = false ∨ (e.ask == ask) = true := by cases (e.ask == ask) <;> simp
        rcases c2 with c2 | c2
        · by_cases c3 : ask < e.ask
          · have HRR := Lib.hid (show (R0.map Sent.enc) ++ [Sent.enc e] = (foR (h.sent.take (j + 1)) ask).map Sent.enc by rw [HFR.out, if_pos c3]; simp)
            have hv := HO.out.lt
            obtain ⟨ar, cr, rfl⟩ := HO.out.form
            have HLR := Lib.hid (show (R0.map Sent.enc).length = R0.length from List.length_map ..)
            rw [HLR.out] at HO hv ⊢
            have hrl := HRL.out
            have HOX := Lib.hid (HO.out.alloc (.cells #[.int .i64 e.ask, .int .i64 e.at_] 51))
            have HD := Lib.hid (show RdL (wr.alloc (.cells #[.int .i64 e.ask, .int .i64 e.at_] 51)) (fun b => False ∧ (Value.slice ar R0.length cr).ownBlock ≠ some b) Sent.ty [.int .i64 e.ask, .int .i64 e.at_] (Sent.enc e) from Sent.shuts e g0 g1)
            have hzz : X.heap.size ≤ (wr.alloc (.cells #[.int .i64 e.ask, .int .i64 e.at_] 51)).heap.size := by simp; omega
            go_wp2_with (at_builtin; refine wpList_app rfl (.tmp 43) (.tmp 45) 22 rfl (base := X.heap.size) (E := 51) (S := fun _ => False) (fs := Sent.ty) (k := 2) (bytes := 16) rfl (by decide) (by decide) (by decide) Try.underlying22 infoSe _ (R0.map Sent.enc) rfl HOX.out _ (Sent.enc e) HD.out 51 ⟨wr.heap.size + 1, 0, none⟩ (by simp) rfl (by rw [HLR.out]; omega) hzz ?_; intro v' w4 ho4 hg4 hat4; rw [HRR.out] at ho4; have HO4 := Lib.hid ho4; have HG4 := Lib.hid hg4; clear ho4 hg4 hat4)
            go_roundw
            case rel =>
              have hgs := HG4.out.size
              simp at hgs
              refine ⟨j + 1, by omega, by go_num, by rw [HFB.out, c2]; simp, HO4.out, ?_, ?_, ?_, HBX.out.grown HG4.out (by omega) (fun g e => by have := (hv g e).1; omega), by omega, by rw [HFAA.out, c2]; exact HAA.out⟩
              · exact (K0.out.alloc _).grown HG4.out (fun e => by have := (hv _ e.symm).1; omega)
              · exact (K1.out.alloc _).grown HG4.out (fun e => by have := (hv _ e.symm).1; omega)
              · rw [HFAA.out, c2]; exact (K2.out.alloc _).grown HG4.out (fun e => by have := (hv _ e.symm).1; omega)
            case measure => simp [intOf]; omega
          · go_wp2_with fail
            go_roundw
            case rel => exact ⟨j + 1, by omega, by go_num, by rw [HFB.out, c2]; simp, by rw [HFR.out, if_neg c3, List.append_nil]; exact HO.out.alloc _, K0.out.alloc _, K1.out.alloc _, by rw [HFAA.out, c2]; exact K2.out.alloc _, HBX.out, by simp; omega, by rw [HFAA.out, c2]; exact HAA.out⟩
            case measure => simp [intOf]; omega
        · have c3 : ¬ ask < e.ask := by simp at c2; omega
          have hv := HO.out.lt
          go_wp2_with fail
          go_roundw
          case rel =>
            refine ⟨j + 1, by omega, by go_num, by rw [HFB.out, c2]; simp, ?_, ?_, ?_, ?_, (HB.out.setCell (p := ⟨w2.heap.size, 5, none⟩) (by show w.heap.size ≤ w2.heap.size; omega) _).alloc (by simp [World.setCell]; omega) _, by simp [World.setCell]; omega, by rw [HFAA.out, c2]; exact g1⟩
            · rw [HFR.out, if_neg c3, List.append_nil]
              exact (HO.out.same (T := fun b => b ≠ w2.heap.size) (Same.setCell (p := ⟨w2.heap.size, 5, none⟩) (by simp) _) (fun b h => h.elim) (fun b e => by have := (hv b e).1; show b ≠ w2.heap.size; omega)).alloc _
            · exact (K0.out.far (p := ⟨w2.heap.size, 5, none⟩) (by show w.heap.size ≠ w2.heap.size; omega) _).alloc _
            · exact (K1.out.far (p := ⟨w2.heap.size, 5, none⟩) (by show w.heap.size + 1 ≠ w2.heap.size; omega) _).alloc _
            · rw [HFAA.out, c2]; exact (K2.out.put1 5 (.int .i64 e.at_) #[.int .i64 h.node, .int .i64 h.now, .int .i64 h.ask, .slice av h.sent.length cv, .int .i64 h.seq, .int .i64 e.at_] rfl).alloc _
          case measure => simp [intOf]; omega
      · have hjn : j = h.sent.length := by omega
        have hfull : h.sent.take j = h.sent := by rw [hjn]; exact List.take_length
        rw [hfull] at HO K2 HAA ⊢
        have k1' : ¬ (j : Int) < (h.sent.length : Int) := by omega
        clear hfull hjn
        have HHB := Lib.hid (show foB h.sent ask = hasB h ask from HFA.out.1)
        rw [HHB.out]
        obtain ⟨o0, o1, o2, o3, o4, o5⟩ := box6 K1.out
        obtain ⟨p0, p1, p2, p3, p4, p5⟩ := thaw6 K1.out
        have zr : w2.heap.size < wr.heap.size := by omega
        obtain ⟨hs1, hs2⟩ := hs
        by_cases hno : hasB h ask = false ∨ seq ≤ h.seq ∨ 1000000000 < seq
        · have HF := Lib.hid (show takeB h ask seq = false by
            rw [HTB.out]
            rcases hno with h1 | h1 | h1
            · simp [h1]
            · have : ¬ h.seq < seq := by omega
              simp [this]
            · have : ¬ seq ≤ 1000000000 := by omega
              simp [this])
          have HH := Lib.hid (show takeH h ask seq = h by rw [HHI.out, HF.out]; rfl)
          have hno2 : hasB h ask = false ∨ (hasB h ask = true ∧ seq ≤ h.seq) ∨ (hasB h ask = true ∧ ¬ seq ≤ h.seq ∧ 1000000000 < seq) := by
            cases hb : hasB h ask
            · exact .inl rfl
            · simp [hb] at hno ⊢; omega
          clear hno
          generalize hasB h ask = b at *
          rcases hno2 with rfl | ⟨rfl, h1⟩ | ⟨rfl, h1, h2⟩
          all_goals
            go_wp2_with fail
            refine (HC2.out _ HB.out).mono ?_
            rintro e w5 ⟨v5, rfl, ho5, P5⟩
            obtain ⟨ao, co, rfl⟩ := ho5.form
            have HO5 := Lib.hid ho5
            rw [List.length_map] at HO5 ⊢
            have k15 := K1.out.below P5 (by omega)
            have BB5 := Lib.hid (HB.out.trans (P5.mono HB.out.size))
            have hz5 := P5.size
            clear ho5 P5 o0 o1 o2 o3 o4 o5 p0 p1 p2 p3 p4 p5 q0 q1 q2 q3 q4 q5
            obtain ⟨o0, o1, o2, o3, o4, o5⟩ := box6 k15
            obtain ⟨p0, p1, p2, p3, p4, p5⟩ := thaw6 k15
            go_wp2_with fail
            clear o0 o1 o2 o3 o4 o5 p0 p1 p2 p3 p4 p5
            obtain ⟨Z, hZ⟩ : ∃ W : World, ((((((w5.setCell ⟨w.heap.size + 1, 0, none⟩ (.int .i64 h.node)).setCell ⟨w.heap.size + 1, 1, none⟩ (.int .i64 h.now)).setCell ⟨w.heap.size + 1, 2, none⟩ (.int .i64 h.ask)).setCell ⟨w.heap.size + 1, 3, none⟩ (.slice ao h.sent.length co)).setCell ⟨w.heap.size + 1, 4, none⟩ (.int .i64 h.seq)).setCell ⟨w.heap.size + 1, 5, none⟩ (.int .i64 h.at_)) = W := ⟨_, rfl⟩; rw [hZ]; have k15Z := put6_self k15 (.int .i64 h.node) (.int .i64 h.now) (.int .i64 h.ask) (.slice ao h.sent.length co) (.int .i64 h.seq) (.int .i64 h.at_); rw [hZ] at k15Z; have HO5Z := Lib.hid (put6_own HO5.out (by omega) (b := w.heap.size + 1) (.int .i64 h.node) (.int .i64 h.now) (.int .i64 h.ask) (.slice ao h.sent.length co) (.int .i64 h.seq) (.int .i64 h.at_)); rw [hZ] at HO5Z; have BB5Z := Lib.hid (put6_below BB5.out (by omega) (b := w.heap.size + 1) (.int .i64 h.node) (.int .i64 h.now) (.int .i64 h.ask) (.slice ao h.sent.length co) (.int .i64 h.seq) (.int .i64 h.at_)); rw [hZ] at BB5Z; have zZ : w5.heap.size ≤ Z.heap.size := (by rw [← hZ] <;> simp [World.setCell]); clear hZ
            obtain ⟨q0, q1, q2, q3, q4, q5⟩ := box6 k15Z
            rw [HE.out, HH.out, HF.out]
            refine bodyPost_ret (v := .tuple #[.agg #[.int .i64 h.node, .int .i64 h.now, .int .i64 h.ask, .slice ao h.sent.length co, .int .i64 h.seq, .int .i64 h.at_], .bool false, .int .i64 0]) (by simp [results, Try.results19, go_sem, q0, q1, q2, q3, q4, q5]) rfl ?_
            exact ⟨[.int .i64 h.node, .int .i64 h.now, .int .i64 h.ask, .slice ao h.sent.length co, .int .i64 h.seq, .int .i64 h.at_], rfl, hold_rd (base := wr.heap.size) HO5Z.out hn (by omega) b0 b1 b2 b4 b5, BB5Z.out⟩
        · have hb : hasB h ask = true := by cases hb : hasB h ask <;> simp [hb] at hno ⊢
          simp only [hb, Bool.true_eq_false, false_or, not_or, Int.not_le, Int.not_lt] at hno
          obtain ⟨hno1, hno2⟩ := hno
          have HF := Lib.hid (show takeB h ask seq = true by rw [HTB.out, hb]; simp [hno1, hno2])
          have HH := Lib.hid (show takeH h ask seq = h.taken ask seq by rw [HHI.out, HF.out]; rfl)
          obtain ⟨hfa, hfr⟩ := HFA.out.2 hb
          have HAT := Lib.hid (show foA h.sent ask h.at_ = (h.taken ask seq).at_ from hfa)
          have HRS := Lib.hid (show foR h.sent ask = (h.taken ask seq).sent from hfr)
          rw [HRS.out] at HO
          obtain ⟨ar, cr, er, hsr⟩ := HO.out.slO (fun b => X.heap.size ≤ b) (fun b h => h.elim) (fun b h _ => h) (by rw [List.length_map]; show (h.sent.drop (seekN h.sent ask + 1)).length ≤ _; rw [List.length_drop]; omega)
          subst er
          rw [List.length_map] at hsr ⊢
          have HSR := Lib.hid hsr
          rw [HAT.out] at K2 HAA
          have g1 := HAA.out
          have HTAK := Lib.hid (fun (Z : World) (a : Option Addr) (n c : Nat) (hs : Sl Z (fun b => X.heap.size ≤ b) Sent.ty a n c ((h.taken ask seq).sent.map Sent.enc)) (hB : w.heap.size ≤ X.heap.size) => row_rd (h := h.taken ask seq) (B := w.heap.size) hs hB b0 b1 b2 (show I64 seq from ⟨hs1, hs2⟩) g1)
          generalize (h.taken ask seq).at_ = at2 at *
          have HLS := Lib.hid (show (h.taken ask seq).sent.length = (h.taken ask seq).sent.length from rfl)
          generalize hN : (h.taken ask seq).sent.length = N at *
          have HNN := Lib.hid hN
          have k2 := K2.out
          have k1 := K1.out
          obtain ⟨r0, r1, r2, r3, r4, r5⟩ := box6 k2
          obtain ⟨t0, t1, t2, t3, t4, t5⟩ := thaw6 k2
          rw [hb]
          clear hb hfa hfr hsr hN o0 o1 o2 o3 o4 o5 p0 p1 p2 p3 p4 p5
          go_upto_region 18 with fail
          clear q0 q1 q2 q3 q4 q5 r0 r1 r2 r3 r4 r5 t0 t1 t2 t3 t4 t5
          obtain ⟨U, hU⟩ : ∃ W : World, (wr.setCell ⟨w2.heap.size, 4, none⟩ (.int .i64 seq)) = W := ⟨_, rfl⟩; rw [hU]; have k2U := Blk.put1 k2 4 (.int .i64 seq) #[.int .i64 h.node, .int .i64 h.now, .int .i64 h.ask, .slice av h.sent.length cv, .int .i64 seq, .int .i64 at2] rfl; rw [hU] at k2U; have k1U := put1_far k1 (by omega) (b := w2.heap.size) (4) (.int .i64 seq); rw [hU] at k1U; have HBU := Lib.hid (put1_below HB.out (by omega) (b := w2.heap.size) (4) (.int .i64 seq)); rw [hU] at HBU; have HSRU := Lib.hid (put1_sl HSR.out (by show ¬ _; omega) (b := w2.heap.size) (4) (.int .i64 seq)); rw [hU] at HSRU; have zU : wr.heap.size ≤ U.heap.size := (by rw [← hU] <;> simp [World.setCell]); clear hU
          obtain ⟨r0, r1, r2, r3, r4, r5⟩ := box6 k2U
          obtain ⟨t0, t1, t2, t3, t4, t5⟩ := thaw6 k2U
          go_upto_region 19 with fail
          clear r0 r1 r2 r3 r4 r5 t0 t1 t2 t3 t4 t5
          obtain ⟨V, hV⟩ : ∃ W : World, (U.setCell ⟨w2.heap.size, 3, none⟩ (.slice ar N cr)) = W := ⟨_, rfl⟩; rw [hV]; have k2UV := Blk.put1 k2U 3 (.slice ar N cr) #[.int .i64 h.node, .int .i64 h.now, .int .i64 h.ask, .slice ar N cr, .int .i64 seq, .int .i64 at2] rfl; rw [hV] at k2UV; have k1UV := put1_far k1U (by omega) (b := w2.heap.size) (3) (.slice ar N cr); rw [hV] at k1UV; have HBUV := Lib.hid (put1_below HBU.out (by omega) (b := w2.heap.size) (3) (.slice ar N cr)); rw [hV] at HBUV; have HSRUV := Lib.hid (put1_sl HSRU.out (by show ¬ _; omega) (b := w2.heap.size) (3) (.slice ar N cr)); rw [hV] at HSRUV; have zV : U.heap.size ≤ V.heap.size := (by rw [← hV] <;> simp [World.setCell]); clear hV
          obtain ⟨r0, r1, r2, r3, r4, r5⟩ := box6 k2UV
          obtain ⟨o0, o1, o2, o3, o4, o5⟩ := box6 k1UV
          obtain ⟨p0, p1, p2, p3, p4, p5⟩ := thaw6 k1UV
          go_wp2_with fail
          clear r0 r1 r2 r3 r4 r5 o0 o1 o2 o3 o4 o5 p0 p1 p2 p3 p4 p5
          obtain ⟨Z, hZ⟩ : ∃ W : World, ((((((V.setCell ⟨w.heap.size + 1, 0, none⟩ (.int .i64 h.node)).setCell ⟨w.heap.size + 1, 1, none⟩ (.int .i64 h.now)).setCell ⟨w.heap.size + 1, 2, none⟩ (.int .i64 h.ask)).setCell ⟨w.heap.size + 1, 3, none⟩ (.slice ar N cr)).setCell ⟨w.heap.size + 1, 4, none⟩ (.int .i64 seq)).setCell ⟨w.heap.size + 1, 5, none⟩ (.int .i64 at2)) = W := ⟨_, rfl⟩; rw [hZ]; have k1UVZ := put6_self k1UV (.int .i64 h.node) (.int .i64 h.now) (.int .i64 h.ask) (.slice ar N cr) (.int .i64 seq) (.int .i64 at2); rw [hZ] at k1UVZ; have HBUVZ := Lib.hid (put6_below HBUV.out (by omega) (b := w.heap.size + 1) (.int .i64 h.node) (.int .i64 h.now) (.int .i64 h.ask) (.slice ar N cr) (.int .i64 seq) (.int .i64 at2)); rw [hZ] at HBUVZ; have HSRUVZ := Lib.hid (put6_sl HSRUV.out (by show ¬ _; omega) (b := w.heap.size + 1) (.int .i64 h.node) (.int .i64 h.now) (.int .i64 h.ask) (.slice ar N cr) (.int .i64 seq) (.int .i64 at2)); rw [hZ] at HSRUVZ; have zZ : V.heap.size ≤ Z.heap.size := (by rw [← hZ] <;> simp [World.setCell]); clear hZ
          obtain ⟨q0, q1, q2, q3, q4, q5⟩ := box6 k1UVZ
          rw [HE.out, HH.out, HF.out]
          refine bodyPost_ret (v := .tuple #[.agg #[.int .i64 h.node, .int .i64 h.now, .int .i64 h.ask, .slice ar N cr, .int .i64 seq, .int .i64 at2], .bool true, .int .i64 0]) (by simp [results, Try.results19, go_sem, q0, q1, q2, q3, q4, q5]) rfl ?_
          exact ⟨[.int .i64 h.node, .int .i64 h.now, .int .i64 h.ask, .slice ar N cr, .int .i64 seq, .int .i64 at2], rfl, HTAK.out _ _ _ _ HSRUVZ.out (by omega), HBUVZ.out⟩
end Go.Proofs.Ytjfphnegcelbpaa
