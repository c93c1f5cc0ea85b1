/- Contracts of raftlog.Last and Term, by the iterator. Condition: a struct that reads as a log. -/
import Derived.Test.YteiojclemodhaaaLogB
namespace Go.Proofs.Yteiojclemodhaaa
open Go.RowKit Go.Shelf
set_option linter.unusedVariables false
set_option linter.unusedSimpArgs false
attribute [local go_sem] Oper.semAt_some
theorem bw_in (n : Nat) (vs : List Value) (w : World) (hl : vs.length = 8) :
    CallsIn Fence.wide n Try.prog 36 #[.agg vs.toArray] w fun e w' => e = .returned (.func (.func 50) #[] #[.pointer (some ⟨w.heap.size, 0, none⟩)]) ∧ w.alloc (.cells vs.toArray 30) = w' := by
  match vs, hl with
  | [v0, v1, v2, v3, v4, v5, v6, v7], _ =>
    refine callsIn_wide.2 ?_
    go_enter Try.func36, Try.ntmps36
    go_wp2_with fail
    go_ret
    exact ⟨rfl, rfl⟩
noncomputable def lastP (k : Kept) : Int × Int := if onB k then (bwL k).headD (0, 0) else (0, 0)
theorem bwL_ne (k : Kept) : bwL k ≠ [] := by unfold bwL; simp
set_option maxRecDepth 100000 in
set_option maxHeartbeats 2000000 in
theorem last_any (vs : List Value) (k : Kept) (w : World) (S : Nat → Prop) (h : RdL w S Kept.ty vs k.enc) :
    Calls Try.prog 10 #[.agg vs.toArray] w (I2Post w (lastP k).1 (lastP k).2) := by
  have hcall := fun w' (hb : Below w.heap.size w w') => check_any vs k w' S (RdL.same (Same.below hb) h)
  obtain ⟨a4, c4, a5, c5, a7, c7, rfl, b0, b1, b2, b3, s4, s5, b6, s7⟩ := Kept.opens h
  have HC := Lib.hid hcall
  have H7 := Lib.hid s7
  clear h s4 s5 s7 hcall
  cases ho : onB k with
  | false =>
    have HL := Lib.hid (show lastP k = (0, 0) by simp [lastP, ho])
    have HO := Lib.hid ho
    clear ho
    go_enter Try.func10, Try.ntmps10
    go_wp2_with fail
    refine (HC.out _ ((((Below.refl _ _).alloc (Nat.le_refl _) _).alloc (by simp) _).alloc (by simp <;> omega) _)).mono ?_
    rw [HO.out, err_f]
    rintro e w1 ⟨rfl, B1⟩
    have k2 := (((Blk.newAt (w.alloc (.cells #[.int .i64 k.term, .int .i64 k.vote, .int .i64 k.snap.index, .int .i64 k.snap.term, .slice a4 (k.snap.config.voters).length c4, .slice a5 (k.snap.config.learners).length c5, .string k.snap.data, .slice a7 (k.entries).length c7] 30)) (w.heap.size + 1) 3 #[.int .i64 0] (by simp)).alloc (.cells #[.int .i64 0] 3)).below B1 (by simp))
    have k3 := ((Blk.newAt ((w.alloc (.cells #[.int .i64 k.term, .int .i64 k.vote, .int .i64 k.snap.index, .int .i64 k.snap.term, .slice a4 (k.snap.config.voters).length c4, .slice a5 (k.snap.config.learners).length c5, .string k.snap.data, .slice a7 (k.entries).length c7] 30)).alloc (.cells #[.int .i64 0] 3)) (w.heap.size + 1 + 1) 3 #[.int .i64 0] (by simp)).below B1 (by simp))
    have B2 := Lib.hid (((((Below.refl _ _).alloc (Nat.le_refl _) _).alloc (by simp) _).alloc (by simp <;> omega) _).trans (B1.mono (B' := w.heap.size) (by simp <;> omega)))
    have f2 := k2.frozen 0
    have f3 := k3.frozen 0
    have d2 : w1.cell? ⟨w.heap.size + 1, 0, none⟩ = some (.int .i64 0) := k2.cell 0
    have d3 : w1.cell? ⟨w.heap.size + 1 + 1, 0, none⟩ = some (.int .i64 0) := k3.cell 0
    clear B1 k2 k3
    go_wp2_with fail
    refine bodyPost_ret (v := .tuple #[.int .i64 0, .int .i64 0]) (by simp [results, Try.results10, go_sem, d2, d3]) rfl ⟨by rw [HL.out], ?_⟩
    exact (B2.out.setCell (by simp) _).setCell (by simp <;> omega) _
  | true =>
    have HL := Lib.hid (show lastP k = (bwL k).headD (0, 0) by simp [lastP, ho])
    have HO := Lib.hid ho
    clear ho
    refine callsIn_wide.1 (callsIn_of_wp_marks (n := 20) Try.func10 rfl trivial ?_ rfl)
    simp only [Try.ntmps10, List.size_toArray, List.length_cons, List.length_nil, Nat.reduceAdd, Nat.reduceSub, Array.replicate_succ, Array.replicate_zero, List.push_toArray, List.append_toArray, List.nil_append, List.cons_append]
    gi_wp2_with fail
    refine ⟨trivial, ?_⟩
    refine (callsIn_wide.2 (HC.out _ ((((Below.refl _ _).alloc (Nat.le_refl _) _).alloc (by simp) _).alloc (by simp <;> omega) _))).mono ?_
    rw [HO.out, err_t]
    rintro e w1 ⟨rfl, B1⟩
    have kb := (((Blk.newAt w w.heap.size 30 #[.int .i64 k.term, .int .i64 k.vote, .int .i64 k.snap.index, .int .i64 k.snap.term, .slice a4 (k.snap.config.voters).length c4, .slice a5 (k.snap.config.learners).length c5, .string k.snap.data, .slice a7 (k.entries).length c7] rfl).alloc (.cells #[.int .i64 0] 3)).alloc (.cells #[.int .i64 0] 3)).below B1 (by simp <;> omega)
    have k2 := (((Blk.newAt (w.alloc (.cells #[.int .i64 k.term, .int .i64 k.vote, .int .i64 k.snap.index, .int .i64 k.snap.term, .slice a4 (k.snap.config.voters).length c4, .slice a5 (k.snap.config.learners).length c5, .string k.snap.data, .slice a7 (k.entries).length c7] 30)) (w.heap.size + 1) 3 #[.int .i64 0] (by simp)).alloc (.cells #[.int .i64 0] 3)).below B1 (by simp))
    have k3 := ((Blk.newAt ((w.alloc (.cells #[.int .i64 k.term, .int .i64 k.vote, .int .i64 k.snap.index, .int .i64 k.snap.term, .slice a4 (k.snap.config.voters).length c4, .slice a5 (k.snap.config.learners).length c5, .string k.snap.data, .slice a7 (k.entries).length c7] 30)).alloc (.cells #[.int .i64 0] 3)) (w.heap.size + 1 + 1) 3 #[.int .i64 0] (by simp)).below B1 (by simp))
    have B2 := Lib.hid (((((Below.refl _ _).alloc (Nat.le_refl _) _).alloc (by simp) _).alloc (by simp <;> omega) _).trans (B1.mono (B' := w.heap.size) (by simp <;> omega)))
    have hz := B1.size
    simp at hz
    clear B1
    obtain ⟨q0, q1, q2, q3, q4, q5, q6, q7⟩ := box8 kb
    gi_wp2_with fail
    refine ⟨trivial, ?_⟩
    refine (bw_in 19 _ _ rfl).mono ?_
    rintro e w2 ⟨rfl, hw2⟩
    have hb2 : Blk w2 w1.heap.size 30 #[.int .i64 k.term, .int .i64 k.vote, .int .i64 k.snap.index, .int .i64 k.snap.term, .slice a4 (k.snap.config.voters).length c4, .slice a5 (k.snap.config.learners).length c5, .string k.snap.data, .slice a7 (k.entries).length c7] := by rw [← hw2]; exact Blk.new _ _ _
    have B3 : Below w1.heap.size w1 w2 := by rw [← hw2]; exact (Below.refl _ _).alloc (Nat.le_refl _) _
    have k2' := k2.below B3 k2.lt
    have k3' := k3.below B3 k3.lt
    have z2 : w2.heap.size = w1.heap.size + 1 := by rw [← hw2]; simp
    have s7 : Sl w2 S Entry.ty a7 k.entries.length c7 (k.entries.map Entry.enc) := (H7.out.same (Same.below B2.out)).same (Same.below B3)
    have B4 : Below w.heap.size w w2 := B2.out.trans (B3.mono (by omega))
    clear hw2 q0 q1 q2 q3 q4 q5 q6 q7 kb k2 k3 B3
    gi_wp2_with fail
    refine range_J rfl (by omega) (gf := 50) (lb := #[.pointer (some ⟨w1.heap.size, 0, none⟩)]) rfl trivial (enters_of Try.func50 (by kernel_rfl) rfl)
      (bw_stops 19 w1.heap.size k w2 S a4 a5 a7 c4 c5 c7 hb2 s7 (by omega)) (Nat.le_refl _) (fun _ => rfl)
      (fun pre W => pre = [] ∧ Blk W (w.heap.size + 1) 3 #[.int .i64 0] ∧ Blk W (w.heap.size + 1 + 1) 3 #[.int .i64 0] ∧ Below w.heap.size w W)
      (fun c pre W => c = .ret ∧ ∃ x, pre = [x] ∧ Blk W (w.heap.size + 1) 3 #[.int .i64 x.1] ∧ Blk W (w.heap.size + 1 + 1) 3 #[.int .i64 x.2] ∧ Below w.heap.size w W)
      ?own ?ownx ⟨rfl, k2', k3', B4⟩
      (fun x => { tmps := #[.agg #[.int .i64 k.term, .int .i64 k.vote, .int .i64 k.snap.index, .int .i64 k.snap.term, .slice a4 (k.snap.config.voters).length c4, .slice a5 (k.snap.config.learners).length c5, .string k.snap.data, .slice a7 (k.entries).length c7], .pointer (some ⟨w.heap.size, 0, none⟩), .pointer (some ⟨w.heap.size + 1, 0, none⟩), .pointer (some ⟨w.heap.size + 1 + 1, 0, none⟩), .int .i64 x.1, .int .i64 x.2, .agg #[.int .i64 k.term, .int .i64 k.vote, .int .i64 k.snap.index, .int .i64 k.snap.term, .slice a4 (k.snap.config.voters).length c4, .slice a5 (k.snap.config.learners).length c5, .string k.snap.data, .slice a7 (k.entries).length c7], .int .i64 0, .bool true, .agg #[.int .i64 k.term, .int .i64 k.vote, .int .i64 k.snap.index, .int .i64 k.snap.term, .slice a4 (k.snap.config.voters).length c4, .slice a5 (k.snap.config.learners).length c5, .string k.snap.data, .slice a7 (k.entries).length c7], .func (.func 50) #[] #[.pointer (some ⟨w1.heap.size, 0, none⟩)], .int .i64 x.1, .int .i64 x.2, undef, undef], defers := [] })
      ?assign ?body ?done ?stop
    case own => exact OwnFrom.and (ownFrom_pure _ _) (OwnFrom.and ownFrom_blk (OwnFrom.and ownFrom_blk (ownFrom_below (Nat.le_refl _) (by omega))))
    case ownx =>
      rintro c pre A C row ⟨rfl, x, rfl, h1, h2, h3⟩ hg hr
      exact ⟨rfl, x, rfl, ownFrom_blk () A C row h1 hg hr, ownFrom_blk () A C row h2 hg hr, ownFrom_below (β := Unit) (Nat.le_refl _) (by omega) () A C row h3 hg hr⟩
    case assign =>
      intro l x W K hK
      unfold pairArg
      gi_wp2
      exact hK
    case body =>
      rintro l pre x W ⟨rfl, h1, h2, h3⟩ _
      have c1 : W.cell? ⟨w.heap.size + 1, 0, none⟩ = some (.int .i64 0) := h1.cell 0
      have c2 : W.cell? ⟨w.heap.size + 1 + 1, 0, none⟩ = some (.int .i64 0) := h2.cell 0
      have f1 := h1.frozen 0
      have f2 := h2.frozen 0
      gi_wp2
      refine ⟨(Same.setCell (by simp <;> omega) _).trans (Same.setCell (by simp <;> omega) _), rfl, x, rfl, (h1.set 0 _).far (by simp) _, (h2.far (by simp) _).set 0 _, (h3.setCell (by simp) _).setCell (by simp <;> omega) _⟩
    case done =>
      rintro D ys W hD rfl ⟨h0, _⟩ hK
      exact absurd h0 (bwL_ne k)
    case stop =>
      rintro D c pre W hD ⟨j, hj, hp⟩ ⟨rfl, x, rfl, h1, h2, h3⟩ hK
      have hx : (lastP k) = x := by
        rw [HL.out]
        cases h : bwL k with
        | nil => exact absurd h (bwL_ne k)
        | cons y ys =>
          rw [h] at hp
          cases j with
          | zero => simp at hp
          | succ j => simp at hp; simp [hp.1]
      have HX := Lib.hid hx
      have c1 := (h1.grown (grownBy_putObj' W D (.deferred none)) (by simp <;> omega)).cell 0
      have c2 := (h2.grown (grownBy_putObj' W D (.deferred none)) (by simp <;> omega)).cell 0
      have c1' : (W.putObj D (.deferred none)).cell? ⟨w.heap.size + 1, 0, none⟩ = some (.int .i64 x.1) := c1
      have c2' : (W.putObj D (.deferred none)).cell? ⟨w.heap.size + 1 + 1, 0, none⟩ = some (.int .i64 x.2) := c2
      gi_wp2
      refine ⟨by simp, .inl ⟨_, _, rfl, run_takeDeferred hK, ?_⟩⟩
      refine ⟨.tuple #[.int .i64 x.1, .int .i64 x.2], by simp [results, Try.results10, go_sem, c1', c2'], by rw [HX.out], ?_⟩
      exact h3.grown (grownBy_putObj' W D (.deferred none)) h3.size (fun e he => by cases he; omega)
noncomputable def termP (k : Kept) (i : Int) : Int × Int := if onB k then (match (bwL k).find? (fun p => decide (p.1 = i)) with | some p => (p.2, 0) | none => (0, 150)) else (0, 1)
theorem find_pre {l ini : List (Int × Int)} {j : Nat} {x : Int × Int} {i : Int} (h : ini ++ [x] = l.take j) (h1 : ∀ p ∈ ini, p.1 ≠ i) (h2 : x.1 = i) : l.find? (fun p => decide (p.1 = i)) = some x := by
  rw [← List.take_append_drop j l, ← h, List.find?_append, List.find?_append]
  have : ini.find? (fun p => decide (p.1 = i)) = none := by
    rw [List.find?_eq_none]; intro p hp; simpa using h1 p hp
  simp [this, h2]
theorem find_none {l : List (Int × Int)} {i : Int} (h1 : ∀ p ∈ l, p.1 ≠ i) : l.find? (fun p => decide (p.1 = i)) = none := by
  rw [List.find?_eq_none]; intro p hp; simpa using h1 p hp
set_option maxRecDepth 100000 in
set_option maxHeartbeats 2000000 in
theorem term_any (vs : List Value) (k : Kept) (index : Int) (w : World) (S : Nat → Prop) (h : RdL w S Kept.ty vs k.enc) :
    Calls Try.prog 15 #[.agg vs.toArray, .int .i64 index] w (I2Post w (termP k index).1 (termP k index).2) := by
  have hcall := fun w' (hb : Below w.heap.size w w') => check_any vs k w' S (RdL.same (Same.below hb) h)
  obtain ⟨a4, c4, a5, c5, a7, c7, rfl, b0, b1, b2, b3, s4, s5, b6, s7⟩ := Kept.opens h
  have HC := Lib.hid hcall
  have H7 := Lib.hid s7
  clear h s4 s5 s7 hcall
  cases ho : onB k with
  | false =>
    have HL := Lib.hid (show termP k index = (0, 1) by simp [termP, ho])
    have HO := Lib.hid ho
    clear ho
    go_enter Try.func15, Try.ntmps15
    go_wp2_with fail
    refine (HC.out _ (((((Below.refl _ _).alloc (Nat.le_refl _) _).alloc (by simp) _).alloc (by simp <;> omega) _).alloc (by simp <;> omega) _)).mono ?_
    rw [HO.out, err_f]
    rintro e w1 ⟨rfl, B1⟩
    have kb := ((((Blk.newAt w w.heap.size 30 #[.int .i64 k.term, .int .i64 k.vote, .int .i64 k.snap.index, .int .i64 k.snap.term, .slice a4 (k.snap.config.voters).length c4, .slice a5 (k.snap.config.learners).length c5, .string k.snap.data, .slice a7 (k.entries).length c7] rfl).alloc (.cells #[.int .i64 index] 3)).alloc (.cells #[.int .i64 0] 3)).alloc (.cells #[.int .i64 0] 34)).below B1 (by simp <;> omega)
    have k1 := (((Blk.newAt (w.alloc (.cells #[.int .i64 k.term, .int .i64 k.vote, .int .i64 k.snap.index, .int .i64 k.snap.term, .slice a4 (k.snap.config.voters).length c4, .slice a5 (k.snap.config.learners).length c5, .string k.snap.data, .slice a7 (k.entries).length c7] 30)) (w.heap.size + 1) 3 #[.int .i64 index] (by simp)).alloc (.cells #[.int .i64 0] 3)).alloc (.cells #[.int .i64 0] 34)).below B1 (by simp <;> omega)
    have k2 := ((Blk.newAt ((w.alloc (.cells #[.int .i64 k.term, .int .i64 k.vote, .int .i64 k.snap.index, .int .i64 k.snap.term, .slice a4 (k.snap.config.voters).length c4, .slice a5 (k.snap.config.learners).length c5, .string k.snap.data, .slice a7 (k.entries).length c7] 30)).alloc (.cells #[.int .i64 index] 3)) (w.heap.size + 1 + 1) 3 #[.int .i64 0] (by simp)).alloc (.cells #[.int .i64 0] 34)).below B1 (by simp)
    have k3 := (Blk.newAt (((w.alloc (.cells #[.int .i64 k.term, .int .i64 k.vote, .int .i64 k.snap.index, .int .i64 k.snap.term, .slice a4 (k.snap.config.voters).length c4, .slice a5 (k.snap.config.learners).length c5, .string k.snap.data, .slice a7 (k.entries).length c7] 30)).alloc (.cells #[.int .i64 index] 3)).alloc (.cells #[.int .i64 0] 3)) (w.heap.size + 1 + 1 + 1) 34 #[.int .i64 0] (by simp)).below B1 (by simp)
    have B2 := Lib.hid ((((((Below.refl _ _).alloc (Nat.le_refl _) (.cells #[.int .i64 k.term, .int .i64 k.vote, .int .i64 k.snap.index, .int .i64 k.snap.term, .slice a4 (k.snap.config.voters).length c4, .slice a5 (k.snap.config.learners).length c5, .string k.snap.data, .slice a7 (k.entries).length c7] 30)).alloc (by simp) (.cells #[.int .i64 index] 3)).alloc (by simp <;> omega) (.cells #[.int .i64 0] 3)).alloc (by simp <;> omega) (.cells #[.int .i64 0] 34)).trans (B1.mono (B' := w.heap.size) (by simp <;> omega)))
    have hz := B1.size
    simp at hz
    clear B1
    have f2 := k2.frozen 0
    have f3 := k3.frozen 0
    have d2 : w1.cell? ⟨w.heap.size + 1 + 1, 0, none⟩ = some (.int .i64 0) := k2.cell 0
    have d3 : w1.cell? ⟨w.heap.size + 1 + 1 + 1, 0, none⟩ = some (.int .i64 0) := k3.cell 0
    clear k1 k2 k3 kb
    go_wp2_with fail
    refine bodyPost_ret (v := .tuple #[.int .i64 0, .int .i64 1]) (by simp [results, Try.results15, go_sem, d2, d3]) rfl ⟨by rw [HL.out], ?_⟩
    exact (B2.out.setCell (by simp <;> omega) _).setCell (by simp <;> omega) _
  | true =>
    have HO := Lib.hid ho
    have HT := Lib.hid (show termP k index = (match (bwL k).find? (fun p => decide (p.1 = index)) with | some p => (p.2, 0) | none => (0, 150)) by simp [termP, ho])
    clear ho
    refine callsIn_wide.1 (callsIn_of_wp_marks (n := 20) Try.func15 rfl trivial ?_ rfl)
    simp only [Try.ntmps15, List.size_toArray, List.length_cons, List.length_nil, Nat.reduceAdd, Nat.reduceSub, Array.replicate_succ, Array.replicate_zero, List.push_toArray, List.append_toArray, List.nil_append, List.cons_append]
    gi_wp2_with fail
    refine ⟨trivial, ?_⟩
    refine (callsIn_wide.2 (HC.out _ (((((Below.refl _ _).alloc (Nat.le_refl _) _).alloc (by simp) _).alloc (by simp <;> omega) _).alloc (by simp <;> omega) _))).mono ?_
    rw [HO.out, err_t]
    rintro e w1 ⟨rfl, B1⟩
    have kb := ((((Blk.newAt w w.heap.size 30 #[.int .i64 k.term, .int .i64 k.vote, .int .i64 k.snap.index, .int .i64 k.snap.term, .slice a4 (k.snap.config.voters).length c4, .slice a5 (k.snap.config.learners).length c5, .string k.snap.data, .slice a7 (k.entries).length c7] rfl).alloc (.cells #[.int .i64 index] 3)).alloc (.cells #[.int .i64 0] 3)).alloc (.cells #[.int .i64 0] 34)).below B1 (by simp <;> omega)
    have k1 := (((Blk.newAt (w.alloc (.cells #[.int .i64 k.term, .int .i64 k.vote, .int .i64 k.snap.index, .int .i64 k.snap.term, .slice a4 (k.snap.config.voters).length c4, .slice a5 (k.snap.config.learners).length c5, .string k.snap.data, .slice a7 (k.entries).length c7] 30)) (w.heap.size + 1) 3 #[.int .i64 index] (by simp)).alloc (.cells #[.int .i64 0] 3)).alloc (.cells #[.int .i64 0] 34)).below B1 (by simp <;> omega)
    have k2 := ((Blk.newAt ((w.alloc (.cells #[.int .i64 k.term, .int .i64 k.vote, .int .i64 k.snap.index, .int .i64 k.snap.term, .slice a4 (k.snap.config.voters).length c4, .slice a5 (k.snap.config.learners).length c5, .string k.snap.data, .slice a7 (k.entries).length c7] 30)).alloc (.cells #[.int .i64 index] 3)) (w.heap.size + 1 + 1) 3 #[.int .i64 0] (by simp)).alloc (.cells #[.int .i64 0] 34)).below B1 (by simp)
    have k3 := (Blk.newAt (((w.alloc (.cells #[.int .i64 k.term, .int .i64 k.vote, .int .i64 k.snap.index, .int .i64 k.snap.term, .slice a4 (k.snap.config.voters).length c4, .slice a5 (k.snap.config.learners).length c5, .string k.snap.data, .slice a7 (k.entries).length c7] 30)).alloc (.cells #[.int .i64 index] 3)).alloc (.cells #[.int .i64 0] 3)) (w.heap.size + 1 + 1 + 1) 34 #[.int .i64 0] (by simp)).below B1 (by simp)
    have B2 := Lib.hid ((((((Below.refl _ _).alloc (Nat.le_refl _) (.cells #[.int .i64 k.term, .int .i64 k.vote, .int .i64 k.snap.index, .int .i64 k.snap.term, .slice a4 (k.snap.config.voters).length c4, .slice a5 (k.snap.config.learners).length c5, .string k.snap.data, .slice a7 (k.entries).length c7] 30)).alloc (by simp) (.cells #[.int .i64 index] 3)).alloc (by simp <;> omega) (.cells #[.int .i64 0] 3)).alloc (by simp <;> omega) (.cells #[.int .i64 0] 34)).trans (B1.mono (B' := w.heap.size) (by simp <;> omega)))
    have hz := B1.size
    simp at hz
    clear B1
    obtain ⟨q0, q1, q2, q3, q4, q5, q6, q7⟩ := box8 kb
    gi_wp2_with fail
    refine ⟨trivial, ?_⟩
    refine (bw_in 19 _ _ rfl).mono ?_
    rintro e w2 ⟨rfl, hw2⟩
    have hb2 : Blk w2 w1.heap.size 30 #[.int .i64 k.term, .int .i64 k.vote, .int .i64 k.snap.index, .int .i64 k.snap.term, .slice a4 (k.snap.config.voters).length c4, .slice a5 (k.snap.config.learners).length c5, .string k.snap.data, .slice a7 (k.entries).length c7] := by rw [← hw2]; exact Blk.new _ _ _
    have B3 : Below w1.heap.size w1 w2 := by rw [← hw2]; exact (Below.refl _ _).alloc (Nat.le_refl _) _
    have k1' := k1.below B3 k1.lt
    have k2' := k2.below B3 k2.lt
    have k3' := k3.below B3 k3.lt
    have z2 : w2.heap.size = w1.heap.size + 1 := by rw [← hw2]; simp
    have s7 : Sl w2 S Entry.ty a7 k.entries.length c7 (k.entries.map Entry.enc) := (H7.out.same (Same.below B2.out)).same (Same.below B3)
    have B4 : Below w.heap.size w w2 := B2.out.trans (B3.mono (by omega))
    clear hw2 q0 q1 q2 q3 q4 q5 q6 q7 kb k1 k2 k3 B3
    gi_wp2_with fail
    refine range_J rfl (by omega) (gf := 50) (lb := #[.pointer (some ⟨w1.heap.size, 0, none⟩)]) rfl trivial (enters_of Try.func50 (by kernel_rfl) rfl)
      (bw_stops 19 w1.heap.size k w2 S a4 a5 a7 c4 c5 c7 hb2 s7 (by omega)) (Nat.le_refl _) (fun _ => rfl)
      (fun pre W => (∀ p ∈ pre, p.1 ≠ index) ∧ Blk W (w.heap.size + 1) 3 #[.int .i64 index] ∧ Blk W (w.heap.size + 1 + 1) 3 #[.int .i64 0] ∧ Blk W (w.heap.size + 1 + 1 + 1) 34 #[.int .i64 0] ∧ Below w.heap.size w W)
      (fun c pre W => c = .ret ∧ ∃ ini x, pre = ini ++ [x] ∧ (∀ p ∈ ini, p.1 ≠ index) ∧ x.1 = index ∧ Blk W (w.heap.size + 1 + 1) 3 #[.int .i64 x.2] ∧ Blk W (w.heap.size + 1 + 1 + 1) 34 #[.int .i64 0] ∧ Below w.heap.size w W)
      ?own ?ownx ⟨fun p hp => absurd hp (by simp), k1', k2', k3', B4⟩
      (fun x => { tmps := #[.agg #[.int .i64 k.term, .int .i64 k.vote, .int .i64 k.snap.index, .int .i64 k.snap.term, .slice a4 (k.snap.config.voters).length c4, .slice a5 (k.snap.config.learners).length c5, .string k.snap.data, .slice a7 (k.entries).length c7], .int .i64 index, .pointer (some ⟨w.heap.size, 0, none⟩), .pointer (some ⟨w.heap.size + 1, 0, none⟩), .pointer (some ⟨w.heap.size + 1 + 1, 0, none⟩), .pointer (some ⟨w.heap.size + 1 + 1 + 1, 0, none⟩), .int .i64 0, .int .i64 x.1, .int .i64 x.2, .agg #[.int .i64 k.term, .int .i64 k.vote, .int .i64 k.snap.index, .int .i64 k.snap.term, .slice a4 (k.snap.config.voters).length c4, .slice a5 (k.snap.config.learners).length c5, .string k.snap.data, .slice a7 (k.entries).length c7], .int .i64 0, .int .i64 0, .bool false, undef, .agg #[.int .i64 k.term, .int .i64 k.vote, .int .i64 k.snap.index, .int .i64 k.snap.term, .slice a4 (k.snap.config.voters).length c4, .slice a5 (k.snap.config.learners).length c5, .string k.snap.data, .slice a7 (k.entries).length c7], .func (.func 50) #[] #[.pointer (some ⟨w1.heap.size, 0, none⟩)], .int .i64 x.1, .int .i64 x.2, undef, undef, undef, undef], defers := [] })
      ?assign ?body ?done ?stop
    case own => exact OwnFrom.and (ownFrom_pure _ _) (OwnFrom.and ownFrom_blk (OwnFrom.and ownFrom_blk (OwnFrom.and ownFrom_blk (ownFrom_below (Nat.le_refl _) (by omega)))))
    case ownx =>
      rintro c pre A C row ⟨rfl, ini, x, rfl, h0, hx, h1, h2, h3⟩ hg hr
      exact ⟨rfl, ini, x, rfl, h0, hx, ownFrom_blk () A C row h1 hg hr, ownFrom_blk () A C row h2 hg hr, ownFrom_below (β := Unit) (Nat.le_refl _) (by omega) () A C row h3 hg hr⟩
    case assign =>
      intro l x W K hK
      unfold pairArg
      gi_wp2
      exact hK
    case body =>
      rintro l pre x W ⟨h0, h1, h2, h3, h4⟩ _
      have c1 : W.cell? ⟨w.heap.size + 1, 0, none⟩ = some (.int .i64 index) := h1.cell 0
      have c2 : W.cell? ⟨w.heap.size + 1 + 1, 0, none⟩ = some (.int .i64 0) := h2.cell 0
      have c3 : W.cell? ⟨w.heap.size + 1 + 1 + 1, 0, none⟩ = some (.int .i64 0) := h3.cell 0
      have f2 := h2.frozen 0
      have f3 := h3.frozen 0
      have H0 := Lib.hid h0
      clear h0
      by_cases hx : x.1 = index
      · have q : (x.1 == index) = true := by simp [hx]
        have HX := Lib.hid hx
        clear hx
        gi_wp2
        exact ⟨(Same.setCell (by simp <;> omega) _).trans (Same.setCell (by simp <;> omega) _), rfl, pre, x, rfl, H0.out, HX.out, (h2.set 0 _).far (by simp) _, (h3.far (by simp) _).set 0 _, (h4.setCell (by simp <;> omega) _).setCell (by simp <;> omega) _⟩
      · have q : (x.1 == index) = false := by simp [hx]
        have HX := Lib.hid hx
        clear hx
        gi_wp2
        refine ⟨Same.refl _ _, Below.refl _ _, ?_, h1, h2, h3, h4⟩
        intro p hp
        rcases List.mem_append.1 hp with h | h
        · exact H0.out p h
        · simp at h; subst h; exact HX.out
    case done =>
      rintro D ys W hD rfl ⟨h0, h1, h2, h3, h4⟩ hK
      have HX := Lib.hid (show termP k index = (0, 150) by rw [HT.out, find_none h0])
      have c2 : W.cell? ⟨w.heap.size + 1 + 1, 0, none⟩ = some (.int .i64 0) := h2.cell 0
      have c3 : W.cell? ⟨w.heap.size + 1 + 1 + 1, 0, none⟩ = some (.int .i64 0) := h3.cell 0
      have f2 := h2.frozen 0
      have f3 := h3.frozen 0
      clear h0
      gi_wp2
      have hK' := (KeepsOthers.setCell (W.setCell ⟨w.heap.size + 1 + 1, 0, none⟩ (.int .i64 0)) ⟨w.heap.size + 1 + 1 + 1, 0, none⟩ (.int .i64 150)).same D _ ((KeepsOthers.setCell W ⟨w.heap.size + 1 + 1, 0, none⟩ (.int .i64 0)).same D _ hK rfl) rfl
      have g2 := (((h2.set 0 (.int .i64 0)).far (p := ⟨w.heap.size + 1 + 1 + 1, 0, none⟩) (by simp) (.int .i64 150)).grown (grownBy_putObj' _ D (.deferred none)) (by simp <;> omega)).cell 0
      have g3 := (((h3.far (p := ⟨w.heap.size + 1 + 1, 0, none⟩) (by simp) (.int .i64 0)).set 0 (.int .i64 150)).grown (grownBy_putObj' _ D (.deferred none)) (by simp <;> omega)).cell 0
      refine ⟨by simp, .inl ⟨_, _, rfl, run_takeDeferred hK', ?_⟩⟩
      refine ⟨.tuple #[.int .i64 0, .int .i64 150], by simp [results, Try.results15, go_sem, g2, g3], by rw [HX.out], ?_⟩
      have h5 := (h4.setCell (p := ⟨w.heap.size + 1 + 1, 0, none⟩) (by simp <;> omega) (.int .i64 0)).setCell (p := ⟨w.heap.size + 1 + 1 + 1, 0, none⟩) (by simp <;> omega) (.int .i64 150)
      exact h5.grown (grownBy_putObj' _ D (.deferred none)) h5.size (fun e he => by cases he; omega)
    case stop =>
      rintro D c pre W hD ⟨j, hj, hp⟩ ⟨rfl, ini, x, hpp, h0, hx, h1, h2, h3⟩ hK
      have HX := Lib.hid (show termP k index = (x.2, 0) by rw [HT.out, find_pre (hpp ▸ hp) h0 hx])
      have c1' : (W.putObj D (.deferred none)).cell? ⟨w.heap.size + 1 + 1, 0, none⟩ = some (.int .i64 x.2) := (h1.grown (grownBy_putObj' W D (.deferred none)) (by simp <;> omega)).cell 0
      have c2' : (W.putObj D (.deferred none)).cell? ⟨w.heap.size + 1 + 1 + 1, 0, none⟩ = some (.int .i64 0) := (h2.grown (grownBy_putObj' W D (.deferred none)) (by simp <;> omega)).cell 0
      clear h0 hx hpp
      gi_wp2
      refine ⟨by simp, .inl ⟨_, _, rfl, run_takeDeferred hK, ?_⟩⟩
      refine ⟨.tuple #[.int .i64 x.2, .int .i64 0], by simp [results, Try.results15, go_sem, c1', c2'], by rw [HX.out], ?_⟩
      exact h3.grown (grownBy_putObj' W D (.deferred none)) h3.size (fun e he => by cases he; omega)
end Go.Proofs.Yteiojclemodhaaa
