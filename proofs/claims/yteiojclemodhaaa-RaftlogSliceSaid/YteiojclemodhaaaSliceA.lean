/- raftlog.Slice: its contract. Condition: a log that is not large. -/
import Derived.Test.YteiojclemodhaaaOwnC
import Derived.Test.YteiojclemodhaaaOwnB
import Derived.Test.YteiojclemodhaaaLogE
namespace Go.Proofs.Yteiojclemodhaaa
open Go.RowKit
set_option linter.unusedVariables false
set_option linter.unusedSimpArgs false
def RPost (w : World) (es : List Entry) (er : Int) (e : Ending) (w' : World) : Prop :=
  ∃ a c, e = .returned (.tuple #[.slice a es.length c, .int .i64 er]) ∧ Sl w' (fun b => w.heap.size ≤ b) Entry.ty a es.length c (es.map Entry.enc) ∧ Below w.heap.size w w'
theorem RPost.nil {w w' : World} {er : Int} (h : Below w.heap.size w w') : RPost w [] er (.returned (.tuple #[.slice none 0 0, .int .i64 er])) w' :=
  ⟨none, 0, rfl, .emp (fun _ => rfl) (by simp [maxLen]), h⟩
theorem RPost.own {w w' : World} {E : TypeId} {v : Value} {es : List Entry} {er : Int} (h : OwnR w.heap.size w' E (fun b => w.heap.size ≤ b) Entry.ty v (es.map Entry.enc)) (hn : es.length ≤ 1000000) (hb : Below w.heap.size w w') : RPost w es er (.returned (.tuple #[v, .int .i64 er])) w' := by
  have hl : (es.map Entry.enc).length = es.length := List.length_map ..
  obtain ⟨a, c, rfl, hs⟩ := h.sl (fun b => w.heap.size ≤ b) (fun _ h => h) (fun _ h => h) (by omega)
  rw [hl] at hs ⊢
  exact ⟨a, c, rfl, hs, hb⟩
def sliceP (k : Kept) (from' most : Int) : List Entry := (k.entries.drop (from' - 1 - k.snap.index).toNat).take most.toNat
noncomputable def sliceE (k : Kept) (from' : Int) : Int := if onB k then (if from' ≤ k.snap.index ∨ (lastP k).1 < from' - 1 then 150 else 0) else 1
noncomputable def sliceL (k : Kept) (from' most : Int) : List Entry := if sliceE k from' = 0 then sliceP k from' most else []
/-- a slice cut at d -/
theorem Sl.cut {w : World} {S : Nat → Prop} {fs : List Ty} {b off n c d : Nat} {rows : List (List D)} (h : Sl w S fs (some ⟨b, off, none⟩) n c rows) (hd : d < n) : Sl w S fs (some ⟨b, off + d * fs.length, none⟩) (n - d) (c - d) (rows.drop d) := by
  cases h with
  | emp _ _ => omega
  | row vals h1 h2 h3 h4 h5 h6 h7 h8 h9 h10 h11 =>
    have e : ∀ i, (rows.drop d).getD i [] = rows.getD (d + i) [] := fun i => by simp [List.getD]
    refine .row (fun i j => vals (d + i) j) (by omega) (by simp; omega) (by omega) (by unfold maxLen at *; omega) (by omega) h6 h7 (fun i j hi hj => ?_) (fun i hi => ?_) (fun i j hi hj => ?_) (fun i j hi hj => ?_)
    · have := h8 (d + i) j (by omega) hj
      rw [Nat.add_mul] at this
      rw [← this]; congr 2; omega
    · rw [e]; exact h9 _ (by omega)
    · rw [e]; exact h10 _ _ (by omega) hj
    · have := h11 (d + i) j (by omega) hj
      rw [Nat.add_mul] at this
      rw [← this]; congr 2; omega
theorem Sl.cutM {w : World} {S : Nat → Prop} {fs : List Ty} {a : Option Addr} {n c d : Nat} {rows : List (List D)} (h : Sl w S fs a n c rows) (hd : d ≤ n) (hc : d < c) : Sl w S fs (a.map fun x => x.add (d * fs.length)) (n - d) (c - d) (rows.drop d) := by
  have hb := h.bd
  have hl := h.len
  rcases Nat.lt_or_ge d n with h1 | h1
  · obtain ⟨b, off, rfl⟩ := h.addr (by omega)
    have := h.cut h1
    simpa [Go.WideShapes.add_plain] using this
  · have e : n - d = 0 := by omega
    have e2 : rows.drop d = [] := List.drop_eq_nil_of_le (by omega)
    rw [e, e2]
    refine .emp (fun h0 => ?_) (by obtain ⟨g1, g2, g3, g4⟩ := hb; unfold maxLen at *; omega)
    rcases a with _ | a
    · have := hb.2.2.2 rfl; omega
    · simp at h0
set_option maxRecDepth 100000 in
set_option maxHeartbeats 4000000 in
theorem slice_any (vs : List Value) (k : Kept) (from' most : Int) (w : World) (S : Nat → Prop) (h : RdL w S Kept.ty vs k.enc) (hk : SmallK k) (hf : I64 from') (hm : I64 most) :
    Calls Try.prog 22 #[.agg vs.toArray, .int .i64 from', .int .i64 most] w (RPost w (sliceL k from' most) (sliceE k from')) := by
  have hc1 := check_any vs k _ S (RdL.same (Same.alloc S w (.cells vs.toArray 30)) h)
  have hc2 := fun w' (hb : Below w.heap.size w w') => last_any vs k w' S (RdL.same (Same.below hb) h)
  have HC1 := Lib.hid hc1
  have HC2 := Lib.hid hc2
  obtain ⟨a4, c4, a5, c5, a7, c7, rfl, b0, b1, b2, b3, s4, s5, b6, s7⟩ := Kept.opens h
  have n7 := s7.bd
  have H7 := Lib.hid s7
  clear h s4 s5 s7 hc1 hc2
  obtain ⟨f1, f2⟩ := hf
  obtain ⟨m1, m2⟩ := hm
  obtain ⟨d1, d2⟩ := b2
  cases ho : onB k with
  | false =>
    have HO := Lib.hid ho
    have HE := Lib.hid (show sliceE k from' = 1 by simp [sliceE, ho])
    have HL := Lib.hid (show sliceL k from' most = [] by simp [sliceL, sliceE, ho])
    clear ho
    go_enter Try.func22, Try.ntmps22
    go_wp2_with fail
    refine HC1.out.mono ?_
    rw [HO.out, err_f]
    rintro e w1 ⟨rfl, P1⟩
    obtain ⟨kb, BT, z⟩ := boxed_call P1
    go_wp2_with fail
    go_ret2
    rw [HE.out, HL.out]
    exact RPost.nil BT
  | true =>
    have HO := Lib.hid ho
    have hp := onB_iff.1 ho
    have hsi := hp.1
    have hse : sliceE k from' = (if from' ≤ k.snap.index ∨ (lastP k).1 < from' - 1 then 150 else 0) := by simp [sliceE, ho]
    have hlast : (lastP k).1 = k.snap.index + k.entries.length := by
      rw [lastP_eq, ho]
      simp only [if_true]
      unfold lastR
      by_cases h0 : k.entries.length = 0
      · rw [if_pos h0, h0]; simp [snapP]
      · rw [if_neg h0]
        show (k.en (k.entries.length - 1)).index = _
        rw [on_index hp (by omega)]; omega
    clear ho hp
    by_cases hr : from' ≤ k.snap.index ∨ k.snap.index + k.entries.length < from' - 1
    · have HE := Lib.hid (show sliceE k from' = 150 by rw [hse, hlast, if_pos hr])
      have HL := Lib.hid (show sliceL k from' most = [] by rw [sliceL, HE.out]; simp)
      have HLA := Lib.hid hlast
      clear hse hlast
      rcases (show from' ≤ k.snap.index ∨ (k.snap.index < from' ∧ k.snap.index + k.entries.length < from' - 1) by omega) with hr1 | ⟨hr1, hr2⟩
      all_goals
        clear hr
        go_enter Try.func22, Try.ntmps22
        go_wp2_with fail
        refine HC1.out.mono ?_
        rw [HO.out, err_t]
        rintro e w1 ⟨rfl, P1⟩
        obtain ⟨kb, BT, z⟩ := boxed_call P1
        obtain ⟨q0, q1, q2, q3, q4, q5, q6, q7⟩ := box8 kb
        go_wp2_with fail
        refine (HC2.out _ BT).mono ?_
        generalize (lastP k).2 = lt
        rw [HLA.out]
        rintro e w2 ⟨rfl, P2⟩
        have kb2 := kb.next P2
        have BT2 := tr_below P2 BT
        clear q0 q1 q2 q3 q4 q5 q6 q7 P1 P2 BT kb
        obtain ⟨q0, q1, q2, q3, q4, q5, q6, q7⟩ := box8 kb2
        go_wp2_with fail
        go_ret2
        rw [HE.out, HL.out]
        exact RPost.nil BT2
    · obtain ⟨d, hd⟩ : ∃ d : Nat, from' - 1 - k.snap.index = (d : Int) := ⟨(from' - 1 - k.snap.index).toNat, by omega⟩
      have hdn : d ≤ k.entries.length := by omega
      have HE := Lib.hid (show sliceE k from' = 0 by rw [hse, hlast, if_neg hr])
      have HL := Lib.hid (show sliceL k from' most = (k.entries.drop d).take most.toNat by rw [sliceL, HE.out, sliceP, hd]; simp)
      have HLA := Lib.hid hlast
      have hr1 : k.snap.index < from' := by omega
      have hr2 : from' - 1 ≤ k.snap.index + k.entries.length := by omega
      have HKK := Lib.hid hk
      have hkl := hk.1
      clear hr hse hlast hk
      by_cases hc : c7 = d
      · obtain ⟨n7a, n7b, n7c, n7d⟩ := n7
        obtain rfl : k.entries.length = d := by omega
        subst hc
        have hdz : List.drop k.entries.length k.entries = [] := List.drop_eq_nil_of_le (by omega)
        rw [hdz] at HL
        clear n7a n7b n7c n7d hdz
        go_enter Try.func22, Try.ntmps22
        go_wp2_with fail
        refine HC1.out.mono ?_
        rw [HO.out, err_t]
        rintro e w1 ⟨rfl, P1⟩
        obtain ⟨kb, BT, z⟩ := boxed_call P1
        obtain ⟨q0, q1, q2, q3, q4, q5, q6, q7⟩ := box8 kb
        go_wp2_with fail
        refine (HC2.out _ BT).mono ?_
        generalize (lastP k).2 = lt
        rw [HLA.out]
        rintro e w2 ⟨rfl, P2⟩
        have kb2 := kb.next P2
        have BT2 := tr_below P2 BT
        clear q0 q1 q2 q3 q4 q5 q6 q7 P1 P2 BT kb
        obtain ⟨q0, q1, q2, q3, q4, q5, q6, q7⟩ := box8 kb2
        go_wp2_with fail
        have BB2 := Lib.hid BT2
        clear q0 q1 q2 q3 q4 q5 q6 q7 kb2 BT2
        go_loopw [11, 45] (fun l i wr => i = .int .i64 0 ∧ l = .slice none 0 0 ∧ w2 = wr) (fun l i _ => 0)
        case atStart => exact ⟨rfl, rfl, rfl⟩
        case round =>
          obtain ⟨rfl, rfl, rfl⟩ := hrel
          go_wp2_with fail
          go_ret2
          rw [HE.out, HL.out, List.take_nil]
          exact RPost.nil BB2.out
      · obtain ⟨n7a, n7b, n7c, n7d⟩ := n7
        have hc2 : ((c7 : Int) == (d : Int)) = false := by rw [beq_eq_false_iff_ne]; omega
        have hc3 : d < c7 := by omega
        have hc4 : ¬ d = c7 := by omega
        clear n7d
        go_enter Try.func22, Try.ntmps22
        go_wp2_with fail
        refine HC1.out.mono ?_
        rw [HO.out, err_t]
        rintro e w1 ⟨rfl, P1⟩
        obtain ⟨kb, BT, z⟩ := boxed_call P1
        obtain ⟨q0, q1, q2, q3, q4, q5, q6, q7⟩ := box8 kb
        go_wp2_with fail
        refine (HC2.out _ BT).mono ?_
        generalize (lastP k).2 = lt
        rw [HLA.out]
        rintro e w2 ⟨rfl, P2⟩
        have kb2 := kb.next P2
        have BT2 := tr_below P2 BT
        clear q0 q1 q2 q3 q4 q5 q6 q7 P1 P2 BT kb
        obtain ⟨q0, q1, q2, q3, q4, q5, q6, q7⟩ := box8 kb2
        go_wp2_with fail
        have hsub := Sl.cutM H7.out hdn hc3
        have hsl : (k.entries.drop d).length = k.entries.length - d := List.length_drop ..
        have hsm : ∀ i, SmallE ((k.entries.drop d).getD i default) := fun i => by
          have := HKK.out.2.2.2 (d + i)
          unfold Kept.en at this
          simpa [List.getD] using this
        rw [← hsl] at hsub
        rw [← List.map_drop] at hsub
        rw [← hsl]
        obtain ⟨ax, hax⟩ : ∃ ax, Option.map (fun x => x.add (d * 6)) a7 = ax := ⟨_, rfl⟩
        rw [show Entry.ty.length = 6 from rfl, hax] at hsub
        rw [hax]
        have hlm : (k.entries.drop d).length ≤ 1000000 := by omega
        generalize k.entries.drop d = sub at *
        have HSUB := Lib.hid hsub
        have HSM := Lib.hid hsm
        have BB2 := Lib.hid BT2
        have z2 := BT2.size
        clear hsub hsm hsl hax q0 q1 q2 q3 q4 q5 q6 q7 kb2 BT2
        go_loopw [11, 45] (fun l i wr => ∃ j : Nat, j ≤ sub.length ∧ i = .int .i64 j ∧ j ≤ most.toNat ∧ OwnR w.heap.size wr 54 (fun b => w.heap.size ≤ b) Entry.ty l ((sub.take j).map Entry.enc) ∧ Below w.heap.size w wr) (fun l i _ => sub.length - (intOf i).toNat)
        case atStart => exact ⟨0, Nat.zero_le _, rfl, Nat.zero_le _, OwnR.nil _ _ _ _ _, BB2.out⟩
        case round =>
          obtain ⟨j, hj, rfl, hjm, ho, hb⟩ := hrel
          by_cases hlt : j < sub.length
          · obtain ⟨b, off, rfl⟩ := HSUB.out.addr (by omega)
            obtain ⟨hS, hb1, a3e, c3e, a4e, c4e, e0, e1, e2, e3, e4, e5, f0, f1, f2, f3, f4, f5⟩ := Entry.row (HSUB.out.same (Same.below hb)) hlt
            have hsmall := HSM.out j
            generalize hE : sub.getD j default = e at *
            have HEN := Lib.hid hE
            have F3 := Lib.hid f3
            have F4 := Lib.hid f4
            have HB := Lib.hid hb
            have HO := Lib.hid ho
            obtain ⟨al, cl, rfl⟩ := ho.form
            have hjl : ((sub.take j).map Entry.enc).length = j := by rw [List.length_map, List.length_take]; omega
            rw [hjl] at HO ⊢
            have k0 : (0 : Int) ≤ (j : Int) := by omega
            have k1 : (j : Int) < (sub.length : Int) := by omega
            have k2 : off + j * 6 + 6 ≤ off + sub.length * 6 := by omega
            clear hE f3 f4 hb ho hjl
            by_cases hmo : (j : Int) < most
            · have hmo1 : ¬ most ≤ (j : Int) := by omega
              obtain ⟨sm1, sm2⟩ := hsmall
              go_wp2_with fail
              refine (lown_any _ e _ S (Entry.shuts e f0 f1 f2 (F3.out.same (Same.alloc _ _ _)) (F4.out.same (Same.alloc _ _ _)) f5) sm1 sm2).mono ?_
              rintro e1 w3 ⟨vs1, rfl, hr1, P1⟩
              obtain ⟨x3, y3, x4, y4, rfl, _, _, _, u3, u4, _⟩ := Entry.opens hr1
              obtain ⟨kb3, BT3, z3⟩ := boxed_call P1
              have HO3 := Lib.hid (HO.out.below BT3)
              have hvl := HO.out.lt
              have HD1 := Lib.hid (RdL.mono (T := fun b => w.heap.size ≤ b ∧ (Value.slice al j cl).ownBlock ≠ some b) (fun b _ h => by
                simp at h
                have := HB.out.size
                exact ⟨by omega, fun e => by have := (hvl b e).2; omega⟩) hr1)
              have HB3 := Lib.hid (HB.out.trans (BT3.mono HB.out.size))
              have HLN := Lib.hid (show ((sub.take j).map Entry.enc).length = j by rw [List.length_map, List.length_take]; omega)
              have BT3H := Lib.hid BT3
              clear hr1 P1 u3 u4 hvl kb3 BT3
              go_wp2_with (refine wpList_app rfl (.tmp 53) (.tmp 56) 28 rfl (base := w.heap.size) (E := 54) (S := fun b => w.heap.size ≤ b) (fs := Entry.ty) (k := 6) (bytes := 88) rfl (by decide) (by decide) (by decide) Try.underlying28 infoE _ ((sub.take j).map Entry.enc) rfl HO3.out _ e.enc HD1.out 54 _ rfl rfl (by rw [HLN.out]; omega) HB3.out.size ?_; intro v' w4 ho4 hg4 hat4; have HO4 := Lib.hid ho4; have HG4 := Lib.hid hg4; clear ho4 hg4 hat4)
              go_roundw
              case rel =>
                refine ⟨j + 1, by omega, by go_num, by omega, ?_, HB3.out.grown HG4.out HB3.out.size (fun b e => (HO3.out.lt b e).1)⟩
                have e : (sub.take (j + 1)).map Entry.enc = (sub.take j).map Entry.enc ++ [(sub.getD j default).enc] := by
                  rw [List.take_succ_eq_append_getElem hlt, List.map_append]
                  simp [List.getD, hlt]
                rw [e, HEN.out]
                exact HO4.out
              case measure => simp [intOf]; omega
            · have hmo1 : most ≤ (j : Int) := by omega
              have hjm2 : most.toNat = j := by omega
              go_wp2_with fail
              go_ret2
              rw [HE.out, HL.out, hjm2]
              exact RPost.own (HO.out.alloc _) (by rw [List.length_take]; omega) (HB.out.alloc HB.out.size _)
          · have k1 : ¬ (j : Int) < (sub.length : Int) := by omega
            have hjs : sub.take most.toNat = sub.take j := by rw [List.take_of_length_le (by omega), List.take_of_length_le (by omega)]
            have HO := Lib.hid ho
            have HB := Lib.hid hb
            clear ho hb
            go_wp2_with fail
            go_ret2
            rw [HE.out, HL.out, hjs]
            exact RPost.own HO.out (by rw [List.length_take]; omega) HB.out
end Go.Proofs.Yteiojclemodhaaa
