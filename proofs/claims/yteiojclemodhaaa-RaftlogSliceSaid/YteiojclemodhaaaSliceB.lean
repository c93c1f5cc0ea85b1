/- The reference's Slice. Condition: a log that is not large. -/
import Derived.Test.YteiojclemodhaaaSliceA
namespace Go.Proofs.Yteiojclemodhaaa
open Go.RowKit
set_option linter.unusedVariables false
set_option linter.unusedSimpArgs false
theorem cut_succ {l : List Entry} {d j : Nat} (hj : j < l.length) (hd : d ≤ j) : (l.take (j + 1)).drop d = (l.take j).drop d ++ [l.getD j default] := by
  rw [List.take_succ_eq_append_getElem hj, List.drop_append_of_le_length (by rw [List.length_take]; omega)]
  simp [List.getD, hj]
theorem cut_len {l : List Entry} {d j : Nat} (hj : j < l.length) : ((l.take j).drop d).length = j - d := by
  rw [List.length_drop, List.length_take]; omega
theorem cut_more {l : List Entry} {d j m : Nat} (hj : j < l.length) (hd : d ≤ j) (hm : j - d < m) : ((l.take (j + 1)).drop d).take m = ((l.take j).drop d).take m ++ [l.getD j default] := by
  have := cut_len (d := d) hj
  rw [cut_succ hj hd]
  generalize (l.take j).drop d = A at *
  rw [List.take_of_length_le (l := A) (by omega), List.take_of_length_le (by rw [List.length_append, this]; simp; omega)]
theorem cut_full {l : List Entry} {d j m : Nat} (hj : j < l.length) (hd : d ≤ j) (hm : m ≤ j - d) : ((l.take (j + 1)).drop d).take m = ((l.take j).drop d).take m := by
  have := cut_len (d := d) hj
  rw [cut_succ hj hd, List.take_append_of_le_length (by omega)]
theorem cut_none {l : List Entry} {d j m : Nat} (hd : j < d) : ((l.take (j + 1)).drop d).take m = ((l.take j).drop d).take m := by
  rw [List.drop_eq_nil_of_le (by rw [List.length_take]; omega), List.drop_eq_nil_of_le (by rw [List.length_take]; omega)]
set_option maxRecDepth 100000 in
set_option maxHeartbeats 4000000 in
theorem rslice_any (vs : List Value) (k : Kept) (from' most : Int) (w : World) (S : Nat → Prop) (h : RdL w S Kept.ty vs k.enc) (hk : SmallK k) (hf : I64 from') (hm : I64 most) :
    Calls Try.prog 23 #[.agg vs.toArray, .int .i64 from', .int .i64 most] w (RPost w (sliceL k from' most) (sliceE k from')) := by
  have hc1 := on_any vs k _ S (RdL.same (Same.alloc S w (.cells vs.toArray 30)) h)
  have hc2 := fun w' (hb : Below w.heap.size w w') => rlast_any vs k w' S (RdL.same (Same.below hb) h)
  have HC1 := Lib.hid hc1
  have HC2 := Lib.hid hc2
  obtain ⟨a4, c4, a5, c5, a7, c7, rfl, b0, b1, b2, b3, s4, s5, b6, s7⟩ := Kept.opens h
  have n7 := s7.bd
  have H7 := Lib.hid s7
  clear h s4 s5 s7 hc1 hc2
  obtain ⟨f1, f2⟩ := hf
  obtain ⟨m1, m2⟩ := hm
  obtain ⟨d1, d2⟩ := b2
  cases ho : onB k with
  | false =>
    have HO := Lib.hid ho
    have HE := Lib.hid (show sliceE k from' = 1 by simp [sliceE, ho])
    have HL := Lib.hid (show sliceL k from' most = [] by simp [sliceL, sliceE, ho])
    clear ho
    go_enter Try.func23, Try.ntmps23
    go_wp2_with fail
    refine HC1.out.mono ?_
    rw [HO.out]
    rintro e w1 ⟨rfl, P1⟩
    obtain ⟨kb, BT, z⟩ := boxed_call P1
    go_wp2_with fail
    go_ret2
    rw [HE.out, HL.out]
    exact RPost.nil BT
  | true =>
    have HO := Lib.hid ho
    have hp := onB_iff.1 ho
    have hsi := hp.1
    have hse : sliceE k from' = (if from' ≤ k.snap.index ∨ (lastP k).1 < from' - 1 then 150 else 0) := by simp [sliceE, ho]
    have hlast : (lastP k).1 = k.snap.index + k.entries.length := by
      rw [lastP_eq, ho]
      simp only [if_true]
      unfold lastR
      by_cases h0 : k.entries.length = 0
      · rw [if_pos h0, h0]; simp [snapP]
      · rw [if_neg h0]
        show (k.en (k.entries.length - 1)).index = _
        rw [on_index hp (by omega)]; omega
    have HIX := Lib.hid (show ∀ j, j < k.entries.length → (k.entries.getD j default).index = k.snap.index + 1 + j from fun j hj => on_index hp hj)
    clear ho hp
    by_cases hr : from' ≤ k.snap.index ∨ k.snap.index + k.entries.length < from' - 1
    · have HE := Lib.hid (show sliceE k from' = 150 by rw [hse, hlast, if_pos hr])
      have HL := Lib.hid (show sliceL k from' most = [] by rw [sliceL, HE.out]; simp)
      have HLA := Lib.hid hlast
      clear hse hlast
      rcases (show from' ≤ k.snap.index ∨ (k.snap.index < from' ∧ k.snap.index + k.entries.length < from' - 1) by omega) with hr1 | ⟨hr1, hr2⟩
      all_goals
        clear hr
        go_enter Try.func23, Try.ntmps23
        go_wp2_with fail
        refine HC1.out.mono ?_
        rw [HO.out]
        rintro e w1 ⟨rfl, P1⟩
        obtain ⟨kb, BT, z⟩ := boxed_call P1
        obtain ⟨q0, q1, q2, q3, q4, q5, q6, q7⟩ := box8 kb
        go_wp2_with fail
        refine (HC2.out _ BT).mono ?_
        generalize (lastP k).2 = lt
        rw [HLA.out]
        rintro e w2 ⟨rfl, P2⟩
        have kb2 := kb.next P2
        have BT2 := tr_below P2 BT
        clear q0 q1 q2 q3 q4 q5 q6 q7 P1 P2 BT kb
        obtain ⟨q0, q1, q2, q3, q4, q5, q6, q7⟩ := box8 kb2
        go_wp2_with fail
        go_ret2
        rw [HE.out, HL.out]
        exact RPost.nil BT2
    · obtain ⟨d, hd⟩ : ∃ d : Nat, from' - 1 - k.snap.index = (d : Int) := ⟨(from' - 1 - k.snap.index).toNat, by omega⟩
      have hdn : d ≤ k.entries.length := by omega
      have HE := Lib.hid (show sliceE k from' = 0 by rw [hse, hlast, if_neg hr])
      have HL := Lib.hid (show sliceL k from' most = (k.entries.drop d).take most.toNat by rw [sliceL, HE.out, sliceP, hd]; simp)
      have HLA := Lib.hid hlast
      have hr1 : k.snap.index < from' := by omega
      have hr2 : from' - 1 ≤ k.snap.index + k.entries.length := by omega
      have HKK := Lib.hid hk
      have hkl := hk.1
      clear hr hse hlast hk
      go_enter Try.func23, Try.ntmps23
      go_wp2_with fail
      refine HC1.out.mono ?_
      rw [HO.out]
      rintro e w1 ⟨rfl, P1⟩
      obtain ⟨kb, BT, z⟩ := boxed_call P1
      obtain ⟨q0, q1, q2, q3, q4, q5, q6, q7⟩ := box8 kb
      go_wp2_with fail
      refine (HC2.out _ BT).mono ?_
      generalize (lastP k).2 = lt
      rw [HLA.out]
      rintro e w2 ⟨rfl, P2⟩
      have kb2 := kb.next P2
      have BT2 := tr_below P2 BT
      clear q0 q1 q2 q3 q4 q5 q6 q7 P1 P2 BT kb
      obtain ⟨q0, q1, q2, q3, q4, q5, q6, q7⟩ := box8 kb2
      go_wp2_with fail
      have KB2 := Lib.hid kb2
      have BB2 := Lib.hid BT2
      have z2 := BT2.size
      clear q0 q1 q2 q3 q4 q5 q6 q7 kb2 BT2
      go_loopw [10, 11] (fun l i wr => ∃ j : Nat, j ≤ k.entries.length ∧ i = .int .i64 j ∧ OwnR w2.heap.size wr 54 (fun b => w2.heap.size ≤ b) Entry.ty l ((((k.entries.take j).drop d).take most.toNat).map Entry.enc) ∧ Below w2.heap.size w2 wr) (fun l i _ => k.entries.length - (intOf i).toNat)
      case atStart => exact ⟨0, Nat.zero_le _, rfl, by simpa using OwnR.nil _ _ _ _ _, Below.refl _ _⟩
      case round =>
        obtain ⟨j, hj, rfl, ho, hb⟩ := hrel
        have KBR := KB2.out.next hb
        have q7 := KBR.cell 7
        obtain ⟨al, cl, rfl⟩ := ho.form
        have hjl : ((((k.entries.take j).drop d).take most.toNat).map Entry.enc).length = min most.toNat (j - d) := by
          rw [List.length_map, List.length_take, List.length_drop, List.length_take, Nat.min_eq_left hj]
        rw [hjl] at ho ⊢
        have HJL := Lib.hid hjl
        have HO := Lib.hid ho
        have HB := Lib.hid hb
        clear hjl ho hb KBR
        by_cases hlt : j < k.entries.length
        · obtain ⟨b, off, rfl⟩ := H7.out.addr (by omega)
          have BW := Lib.hid (tr_below HB.out BB2.out)
          obtain ⟨hS, hb1, a3e, c3e, a4e, c4e, e0, e1, e2, e3, e4, e5, f0, f1, f2, f3, f4, f5⟩ := Entry.row (H7.out.same (Same.below BW.out)) hlt
          have hsmall : SmallE (k.entries.getD j default) := HKK.out.2.2.2 j
          have hix : (k.entries.getD j default).index = k.snap.index + 1 + j := HIX.out j hlt
          generalize hE : k.entries.getD j default = e at *
          have HEN := Lib.hid hE
          have F3 := Lib.hid f3
          have F4 := Lib.hid f4
          have k0 : (0 : Int) ≤ (j : Int) := by omega
          have k1 : (j : Int) < (k.entries.length : Int) := by omega
          obtain ⟨sm1, sm2⟩ := hsmall
          have hixd : from' ≤ e.index ↔ d ≤ j := by omega
          have HIXD := Lib.hid hixd
          clear hE f3 f4 hix hixd
          by_cases hfr : from' ≤ e.index
          · have hdj := HIXD.out.1 hfr
            have HDJ := Lib.hid hdj
            clear hdj
            by_cases hmo : ((min most.toNat (j - d) : Nat) : Int) < most
            · go_wp2_with fail
              refine (entry_any _ e _ S (Entry.shuts e f0 f1 f2 F3.out F4.out f5) sm1 sm2).mono ?_
              rintro e1 w3 ⟨vs1, rfl, hr1, P1⟩
              obtain ⟨x3, y3, x4, y4, rfl, _, _, _, u3, u4, _⟩ := Entry.opens hr1
              have HO3 := Lib.hid (HO.out.below P1)
              have hvl := HO.out.lt
              have HD1 := Lib.hid (RdL.mono (T := fun b => w2.heap.size ≤ b ∧ (Value.slice al (min most.toNat (j - d)) cl).ownBlock ≠ some b) (fun b _ h => by
                have := HB.out.size
                exact ⟨by omega, fun e => by have := (hvl b e).2; omega⟩) hr1)
              have HB3 := Lib.hid (HB.out.trans (P1.mono HB.out.size))
              have HMO := Lib.hid hmo
              clear hr1 P1 u3 u4 hvl hmo
              go_wp2_with (refine wpList_app rfl (.tmp 52) (.tmp 59) 28 rfl (base := w2.heap.size) (E := 54) (S := fun b => w2.heap.size ≤ b) (fs := Entry.ty) (k := 6) (bytes := 88) rfl (by decide) (by decide) (by decide) Try.underlying28 infoE _ ((((k.entries.take j).drop d).take most.toNat).map Entry.enc) rfl HO3.out _ e.enc HD1.out 54 _ rfl rfl (by rw [HJL.out]; omega) HB3.out.size ?_; intro v' w4 ho4 hg4 hat4; have HO4 := Lib.hid ho4; have HG4 := Lib.hid hg4; clear ho4 hg4 hat4)
              go_roundw
              case rel =>
                refine ⟨j + 1, by omega, by go_num, ?_, HB3.out.grown HG4.out HB3.out.size (fun b e => (HO3.out.lt b e).1)⟩
                rw [cut_more hlt HDJ.out (by have := HMO.out; omega), HEN.out, List.map_append]
                exact HO4.out
              case measure => simp [intOf]; omega
            · have HMO := Lib.hid hmo
              have hmo1 : most ≤ ((min most.toNat (j - d) : Nat) : Int) := by omega
              clear hmo
              go_wp2_with fail
              go_roundw
              case rel =>
                refine ⟨j + 1, by omega, by go_num, ?_, HB.out⟩
                rw [cut_full hlt HDJ.out (by have := HMO.out; omega)]
                exact HO.out
              case measure => simp [intOf]; omega
          · have hdj : ¬ d ≤ j := fun h => hfr (HIXD.out.2 h)
            have HDJ := Lib.hid hdj
            clear hdj
            go_wp2_with fail
            go_roundw
            case rel =>
              refine ⟨j + 1, by omega, by go_num, ?_, HB.out⟩
              rw [cut_none (by have := HDJ.out; omega)]
              exact HO.out
            case measure => simp [intOf]; omega
        · have hjn : j = k.entries.length := by omega
          have HJN := Lib.hid hjn
          have k1 : ¬ (j : Int) < (k.entries.length : Int) := by omega
          clear hjn
          go_wp2_with fail
          go_ret2
          rw [HE.out, HL.out]
          have e := HO.out
          rw [HJN.out, List.take_length] at e
          rw [HJN.out]
          refine RPost.own (OwnR.mono e z2 (fun b h => by omega)) (by rw [List.length_take, List.length_drop]; omega) (tr_below HB.out BB2.out)
end Go.Proofs.Yteiojclemodhaaa
