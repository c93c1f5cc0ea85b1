/- raftlog.ownConfig, raftlog.own: copies by make and copy. Condition: at most 10^6 numbers in each. -/
import Derived.Test.YteiojclemodhaaaOwnA
import Derived.Test.YteiojclemodhaaaHeld
import Derived.Deep.OwnRows
namespace Go.Proofs.Yteiojclemodhaaa
open Go.RowKit
set_option linter.unusedVariables false
set_option linter.unusedSimpArgs false
/-- a new row of n zeros -/
def madeI (n : Nat) : Array Value := madeCells #[.int .i64 0] n
theorem madeI_size (n : Nat) : (madeI n).size = n := by
  have := toList_madeCells_one (.int .i64 0) n
  have h : (madeI n).toList = List.replicate n (.int .i64 0) := this
  rw [← Array.length_toList, h, List.length_replicate]
theorem run_makeI (n : Nat) (h : n ≤ 1000000) (w : World) : (Instr.makeSlice 23 (.int .i64 (n : Int)) (.int .i64 (n : Int))).run Try.prog w = .ok (.slice (some ⟨w.heap.size, 0, none⟩) n n) (w.alloc (.cells (madeI n) 3)) :=
  run_make_row' (P := Try.prog) 23 3 (.int .i64 0) 8 Try.underlying23 infoI0 rfl .i64 .i64 n (by omega) (by omega) w
/-- copy(d, s), d a row of the call's own, just as long -/
theorem wpList_copyI {ops : Array Oper} {rest : List Oper} {o : Oper} {a : Act} {Q : Exit → Act → World → Prop} {w : World} (hgd : o.guard = none) (d s : Operand)
    (ho : o.op = .call { callee := .builtin .copy, args := #[d, s], argTypes := #[23, 23] }) (g n dc sc : Nat) (ax : Option Addr) (xs : List Int) (cur : Array Value) (S : Nat → Prop)
    (hd : a.eval d = .slice (some ⟨g, 0, none⟩) n dc) (hs : a.eval s = .slice ax n sc) (hg : Blk w g 3 cur) (hcur : cur.size = n) (hx : SlI w S ax n sc xs)
    (h : ∀ w', Blk w' g 3 (xs.map (Value.int .i64)).toArray → w.grownBy w' (some g) → wpList Try.prog ops Q rest (a.put o.dst (goInt n)) w') : wpList Try.prog ops Q (o :: rest) a w := by
  have hi1 : (Try.prog.info? 3).map (·.size) = some 1 := by
    obtain ⟨i0, h1, h2, h3, h4⟩ := info_parts infoI0
    rw [h1]; simp [h3]
  have hl := hx.len
  rw [ints_len] at hl
  by_cases hp : 0 < n
  · obtain ⟨b, off, rfl⟩ := hx.addr hp
    have hcell : ∀ i, i < n → w.cell? ⟨b, off + i, none⟩ = some (.int .i64 (xs.getD i 0)) := by
      intro i hi
      obtain ⟨b2, off2, e, hS, hb, vals, hc, hr⟩ := hx.rowAt hp
      simp only [Option.some.injEq, Addr.mk.injEq, and_true] at e
      obtain ⟨rfl, rfl⟩ := e
      have h1 := (hr i hi).2 0 (by decide)
      have he : ((ints xs).getD i []).getD 0 default = .int (xs.getD i 0) := by simp [ints, List.getD, show i < xs.length by omega]
      rw [he] at h1
      have h2 := hc i 0 hi (by decide)
      simp only [List.length_cons, List.length_nil, Nat.zero_add, Nat.mul_one, Nat.add_zero] at h2
      rw [h2, (Rd.i64 h1).1]
    refine wpList_copy_own hgd d s _ _ ho 3 Try.underlying23 hi1 g 0 n dc ⟨b, off, none⟩ n sc hd hs cur 3 hg (xs.map (Value.int .i64)) (by simp [hl]) (fun j v hj => ?_) (by simp [hl, hcur]) (fun v hv => by obtain ⟨x, _, rfl⟩ := List.mem_map.1 hv; rfl) ?_
    · rw [List.getElem?_map] at hj
      by_cases h2 : j < xs.length
      · rw [List.getElem?_eq_getElem h2] at hj
        simp only [Option.map_some, Option.some.injEq] at hj
        rw [WideShapes.add_plain, hcell j (by omega), ← hj]
        simp [List.getD, h2]
      · rw [List.getElem?_eq_none (by omega)] at hj; simp at hj
    · have e1 : cur.toList.take 0 ++ (xs.map (Value.int .i64) ++ cur.toList.drop (0 + (xs.map (Value.int .i64)).length)) = xs.map (Value.int .i64) := by
        rw [List.take_zero, List.nil_append, List.drop_eq_nil_of_le (by simp; omega), List.append_nil]
      rw [e1]
      have := h (w.setRow g (xs.map (Value.int .i64)).toArray) (setRow_heap w g cur _ 3 (0, 0) hg) ⟨rfl, rfl, rfl, by simp [World.setRow], fun k hk hne => setRow_other w g k _ (fun e => hne (by rw [e]))⟩
      simpa [hl] using this
  · have h0 : n = 0 := by omega
    subst h0
    refine wpList_copy_nothing hgd d s _ _ ho 3 Try.underlying23 hi1 _ _ 0 dc 0 sc hd hs (by simp) ?_
    have hxs : xs = [] := List.eq_nil_of_length_eq_zero hl
    subst hxs
    have hc0 : cur = #[] := Array.eq_empty_of_size_eq_zero hcur
    subst hc0
    exact h w hg (World.grownBy.refl w (some g))
/-- the copy under way: two rows made, none copied yet -/
def CInv (w : World) (c : Config) (W0 : World) (gA gB gC : Nat) (a0 : Option Addr) (c0 : Nat) (a1 : Option Addr) (c1 : Nat) (W : World) : Prop :=
  Blk W gA 3 (madeI c.voters.length) ∧ Blk W gB 3 (madeI c.learners.length) ∧ Blk W gC 25 #[.slice (some ⟨gA, 0, none⟩) c.voters.length c.voters.length, .slice (some ⟨gB, 0, none⟩) c.learners.length c.learners.length] ∧
  Blk W w.heap.size 25 #[.slice a0 c.voters.length c0, .slice a1 c.learners.length c1] ∧ Blk W (w.heap.size + 1) 25 #[.slice none 0 0, .slice none 0 0] ∧
  w.heap.size + 2 ≤ gA ∧ w.heap.size + 2 ≤ gB ∧ w.heap.size + 2 ≤ gC ∧ gA ≠ gB ∧ gA ≠ gC ∧ gB ≠ gC ∧ Below (w.heap.size + 2) W0 W
set_option maxHeartbeats 4000000 in
theorem ownConfig_any (vs : List Value) (c : Config) (w : World) (S : Nat → Prop) (h : RdL w S Config.ty vs c.enc) (h1 : c.voters.length ≤ 1000000) (h2 : c.learners.length ≤ 1000000) :
    Calls Try.prog 53 #[.agg vs.toArray] w (APost w Config.ty c.enc) := by
  obtain ⟨a0, c0, a1, c1, rfl, s0, s1⟩ := Config.opens h
  have S0 := Lib.hid (Rd.mono (T := fun b => b < w.heap.size) s0 fun b hb _ => hb)
  have S1 := Lib.hid (Rd.mono (T := fun b => b < w.heap.size) s1 fun b hb _ => hb)
  have M0 := run_makeI c.voters.length h1
  have M1 := run_makeI c.learners.length h2
  clear h s0 s1
  obtain ⟨W0, hW0⟩ : ∃ W0 : World, W0 = (w.alloc (.cells #[.slice a0 (c.voters).length c0, .slice a1 (c.learners).length c1] 25)).alloc (.cells #[.slice none 0 0, .slice none 0 0] 25) := ⟨_, rfl⟩
  have hb0 : Blk W0 w.heap.size 25 #[.slice a0 (c.voters).length c0, .slice a1 (c.learners).length c1] := by rw [hW0]; exact (Blk.new _ _ _).alloc _
  have hb1 : Blk W0 (w.heap.size + 1) 25 #[.slice none 0 0, .slice none 0 0] := by rw [hW0]; exact Blk.newAt _ _ _ _ (by simp)
  have hz : W0.heap.size = w.heap.size + 2 := by rw [hW0]; simp
  have hbw : Below w.heap.size w W0 := by rw [hW0]; exact ((Below.refl _ w).alloc (Nat.le_refl _) _).alloc (by simp) _
  have hmk : ∀ W, Below (w.heap.size + 2) W0 W → W.cell? ⟨w.heap.size, 0, none⟩ = some (.slice a0 c.voters.length c0) ∧ W.cell? ⟨w.heap.size, 1, none⟩ = some (.slice a1 c.learners.length c1) ∧ Below (w.heap.size + 2) W0 W := fun W h =>
    ⟨(h.cell (p := ⟨w.heap.size, 0, none⟩) (by show w.heap.size < _; omega)).trans (hb0.cell 0), (h.cell (p := ⟨w.heap.size, 1, none⟩) (by show w.heap.size < _; omega)).trans (hb0.cell 1), h⟩
  have HMK := Lib.hid hmk
  have HB0 := Lib.hid hb0
  have HB1 := Lib.hid hb1
  have HZ := Lib.hid hz
  have HBW := Lib.hid hbw
  have zz : w.heap.size + 2 ≤ W0.heap.size := by omega
  have HW0 := Lib.hid hW0
  clear hmk hb0 hb1 hz hbw hW0
  go_enter Try.func53, Try.ntmps53
  go_wp2_with fail
  rw [← HW0.out]
  obtain ⟨q0, q1, _⟩ := HMK.out W0 (Below.refl _ _)
  go_region_held3 (fun W => W.cell? ⟨w.heap.size, 0, none⟩ = some (.slice a0 c.voters.length c0) ∧ W.cell? ⟨w.heap.size, 1, none⟩ = some (.slice a1 c.learners.length c1) ∧ Below (w.heap.size + 2) W0 W) ((refine HMK.out _ ?_; repeat (first | (with_reducible exact Below.refl _ _) | (with_reducible refine Below.drew ?_) | ((with_reducible refine Below.alloc ?_ ?_ _); rotate_left; (first | omega | (simp; omega)))))) (fail)
  · have hinv : CInv w c W0 (W0.heap.size) (W0.heap.size + 1) (W0.heap.size + 1 + 1) a0 c0 a1 c1 ((((W0.alloc (.cells (madeI c.voters.length) 3)).alloc (.cells (madeI c.learners.length) 3)).alloc (.cells #[.slice (some ⟨W0.heap.size, 0, none⟩) c.voters.length c.voters.length, .slice (some ⟨W0.heap.size + 1, 0, none⟩) c.learners.length c.learners.length] 25)).drew) := by
      have z0 := HZ.out
      exact ⟨(((Blk.newAt _ (W0.heap.size) _ _ (by simp)).alloc _).alloc _).drew, ((Blk.newAt _ (W0.heap.size + 1) _ _ (by simp)).alloc _).drew, (Blk.newAt _ (W0.heap.size + 1 + 1) _ _ (by simp)).drew, (((HB0.out.alloc _).alloc _).alloc _).drew, (((HB1.out.alloc _).alloc _).alloc _).drew, by omega, by omega, by omega, by omega, by omega, by omega, ((((Below.refl _ W0).alloc zz _).alloc (by simp; omega) _).alloc (by simp; omega) _).drew⟩
    have HINV := Lib.hid hinv
    clear hinv
    generalize (((W0.alloc (.cells (madeI c.voters.length) 3)).alloc (.cells (madeI c.learners.length) 3)).alloc (.cells #[.slice (some ⟨W0.heap.size, 0, none⟩) c.voters.length c.voters.length, .slice (some ⟨W0.heap.size + 1, 0, none⟩) c.learners.length c.learners.length] 25)).drew = W at *
    generalize hgC : W0.heap.size + 1 + 1 = gC at *
    generalize hgB : W0.heap.size + 1 = gB at *
    generalize hgA : W0.heap.size = gA at *
    clear hgA hgB hgC
    obtain ⟨i1, i2, i3, i4, i5, i6, i7, i8, n1, n2, n3, hbl⟩ := HINV.out
    have BT := HBW.out.trans (hbl.mono (by omega))
    obtain ⟨qa0, qa1⟩ := box2 i4
    obtain ⟨qc0, qc1⟩ := box2 i3
    have I1 := Lib.hid i1
    have I2 := Lib.hid i2
    have I3 := Lib.hid i3
    have I4 := Lib.hid i4
    have I5 := Lib.hid i5
    have N1 := Lib.hid n1
    have N2 := Lib.hid n2
    have N3 := Lib.hid n3
    have BTH := Lib.hid BT
    clear i1 i2 i3 i4 i5 n1 n2 n3 hbl BT HINV M0 M1
    go_wp2_with (first | (refine wpList_copyI rfl (.tmp 14) (.tmp 16) rfl gA c.voters.length c.voters.length c0 a0 c.voters (madeI c.voters.length) (fun b => b < w.heap.size) rfl rfl I1.out (madeI_size _) (S0.out.same (Same.below BTH.out)) ?_; intro w1 hb1 hg1; have J2 := Lib.hid (I2.out.grown hg1 (fun e => N1.out (by cases e; rfl))); have J3 := I3.out.grown hg1 (fun e => N2.out (by cases e; rfl)); have J4 := I4.out.grown hg1 (fun e => by cases e; omega); have J5 := Lib.hid (I5.out.grown hg1 (fun e => by cases e; omega)); have J1 := Lib.hid hb1; have BT1 := Lib.hid (BTH.out.grown hg1 BTH.out.size (fun k e => by cases e; omega)); clear qa0 qa1 qc0 qc1; obtain ⟨qa0, qa1⟩ := box2 J4; obtain ⟨qc0, qc1⟩ := box2 J3; have J3' := Lib.hid J3; have J4' := Lib.hid J4; clear hb1 hg1 J3 J4) | (refine wpList_copyI rfl (.tmp 19) (.tmp 21) rfl gB c.learners.length c.learners.length c1 a1 c.learners (madeI c.learners.length) (fun b => b < w.heap.size) rfl rfl J2.out (madeI_size _) (S1.out.same (Same.below BT1.out)) ?_; intro w2 hb2 hg2; have L1 := Lib.hid (J1.out.grown hg2 (fun e => N1.out (by cases e; rfl))); have L3 := J3'.out.grown hg2 (fun e => N3.out (by cases e; rfl)); have L5 := J5.out.grown hg2 (fun e => by cases e; omega); have L2 := Lib.hid hb2; have BT2 := Lib.hid (BT1.out.grown hg2 BT1.out.size (fun k e => by cases e; omega)); clear qa0 qa1 qc0 qc1; obtain ⟨qc0, qc1⟩ := box2 L3; obtain ⟨qr0, qr1⟩ := box2 L5; obtain ⟨fr0, fr1⟩ := thaw2 L5; have L5' := Lib.hid L5; clear hb2 hg2 L3 L5))
    have kf := (L5'.out.set 0 (.slice (some ⟨gA, 0, none⟩) c.voters.length c.voters.length)).set 1 (.slice (some ⟨gB, 0, none⟩) c.learners.length c.learners.length)
    have g0 := kf.cell 0
    have g1 := kf.cell 1
    have r0 := (Blk.slI ((L1.out.far (p := ⟨w.heap.size + 1, 0, none⟩) (by simp <;> omega) (.slice (some ⟨gA, 0, none⟩) c.voters.length c.voters.length)).far (p := ⟨w.heap.size + 1, 1, none⟩) (by simp <;> omega) (.slice (some ⟨gB, 0, none⟩) c.learners.length c.learners.length)) (SlI.i64 S0.out) (S := fun b => w.heap.size ≤ b) (by show _ ≤ _; omega) (by omega))
    have r1 := (Blk.slI ((L2.out.far (p := ⟨w.heap.size + 1, 0, none⟩) (by simp <;> omega) (.slice (some ⟨gA, 0, none⟩) c.voters.length c.voters.length)).far (p := ⟨w.heap.size + 1, 1, none⟩) (by simp <;> omega) (.slice (some ⟨gB, 0, none⟩) c.learners.length c.learners.length)) (SlI.i64 S1.out) (S := fun b => w.heap.size ≤ b) (by show _ ≤ _; omega) (by omega))
    refine bodyPost_ret (v := .agg #[.slice (some ⟨gA, 0, none⟩) c.voters.length c.voters.length, .slice (some ⟨gB, 0, none⟩) c.learners.length c.learners.length]) (by simp [results, Try.results53, go_sem, g0, g1]) rfl ⟨[_, _], rfl, Config.shuts c r0 r1, (BT2.out.setCell (by simp) _).setCell (by simp) _⟩
  · have hinv : CInv w c W0 (W0.heap.size) (W0.heap.size + 1 + 1) (W0.heap.size + 1) a0 c0 a1 c1 ((((W0.alloc (.cells (madeI c.voters.length) 3)).alloc (.cells #[.slice (some ⟨W0.heap.size, 0, none⟩) c.voters.length c.voters.length, .slice (some ⟨W0.heap.size + 1 + 1, 0, none⟩) c.learners.length c.learners.length] 25)).alloc (.cells (madeI c.learners.length) 3)).drew) := by
      have z0 := HZ.out
      exact ⟨(((Blk.newAt _ (W0.heap.size) _ _ (by simp)).alloc _).alloc _).drew, (Blk.newAt _ (W0.heap.size + 1 + 1) _ _ (by simp)).drew, ((Blk.newAt _ (W0.heap.size + 1) _ _ (by simp)).alloc _).drew, (((HB0.out.alloc _).alloc _).alloc _).drew, (((HB1.out.alloc _).alloc _).alloc _).drew, by omega, by omega, by omega, by omega, by omega, by omega, ((((Below.refl _ W0).alloc zz _).alloc (by simp; omega) _).alloc (by simp; omega) _).drew⟩
    have HINV := Lib.hid hinv
    clear hinv
    generalize (((W0.alloc (.cells (madeI c.voters.length) 3)).alloc (.cells #[.slice (some ⟨W0.heap.size, 0, none⟩) c.voters.length c.voters.length, .slice (some ⟨W0.heap.size + 1 + 1, 0, none⟩) c.learners.length c.learners.length] 25)).alloc (.cells (madeI c.learners.length) 3)).drew = W at *
    generalize hgB : W0.heap.size + 1 + 1 = gB at *
    generalize hgC : W0.heap.size + 1 = gC at *
    generalize hgA : W0.heap.size = gA at *
    clear hgA hgB hgC
    obtain ⟨i1, i2, i3, i4, i5, i6, i7, i8, n1, n2, n3, hbl⟩ := HINV.out
    have BT := HBW.out.trans (hbl.mono (by omega))
    obtain ⟨qa0, qa1⟩ := box2 i4
    obtain ⟨qc0, qc1⟩ := box2 i3
    have I1 := Lib.hid i1
    have I2 := Lib.hid i2
    have I3 := Lib.hid i3
    have I4 := Lib.hid i4
    have I5 := Lib.hid i5
    have N1 := Lib.hid n1
    have N2 := Lib.hid n2
    have N3 := Lib.hid n3
    have BTH := Lib.hid BT
    clear i1 i2 i3 i4 i5 n1 n2 n3 hbl BT HINV M0 M1
    go_wp2_with (first | (refine wpList_copyI rfl (.tmp 14) (.tmp 16) rfl gA c.voters.length c.voters.length c0 a0 c.voters (madeI c.voters.length) (fun b => b < w.heap.size) rfl rfl I1.out (madeI_size _) (S0.out.same (Same.below BTH.out)) ?_; intro w1 hb1 hg1; have J2 := Lib.hid (I2.out.grown hg1 (fun e => N1.out (by cases e; rfl))); have J3 := I3.out.grown hg1 (fun e => N2.out (by cases e; rfl)); have J4 := I4.out.grown hg1 (fun e => by cases e; omega); have J5 := Lib.hid (I5.out.grown hg1 (fun e => by cases e; omega)); have J1 := Lib.hid hb1; have BT1 := Lib.hid (BTH.out.grown hg1 BTH.out.size (fun k e => by cases e; omega)); clear qa0 qa1 qc0 qc1; obtain ⟨qa0, qa1⟩ := box2 J4; obtain ⟨qc0, qc1⟩ := box2 J3; have J3' := Lib.hid J3; have J4' := Lib.hid J4; clear hb1 hg1 J3 J4) | (refine wpList_copyI rfl (.tmp 19) (.tmp 21) rfl gB c.learners.length c.learners.length c1 a1 c.learners (madeI c.learners.length) (fun b => b < w.heap.size) rfl rfl J2.out (madeI_size _) (S1.out.same (Same.below BT1.out)) ?_; intro w2 hb2 hg2; have L1 := Lib.hid (J1.out.grown hg2 (fun e => N1.out (by cases e; rfl))); have L3 := J3'.out.grown hg2 (fun e => N3.out (by cases e; rfl)); have L5 := J5.out.grown hg2 (fun e => by cases e; omega); have L2 := Lib.hid hb2; have BT2 := Lib.hid (BT1.out.grown hg2 BT1.out.size (fun k e => by cases e; omega)); clear qa0 qa1 qc0 qc1; obtain ⟨qc0, qc1⟩ := box2 L3; obtain ⟨qr0, qr1⟩ := box2 L5; obtain ⟨fr0, fr1⟩ := thaw2 L5; have L5' := Lib.hid L5; clear hb2 hg2 L3 L5))
    have kf := (L5'.out.set 0 (.slice (some ⟨gA, 0, none⟩) c.voters.length c.voters.length)).set 1 (.slice (some ⟨gB, 0, none⟩) c.learners.length c.learners.length)
    have g0 := kf.cell 0
    have g1 := kf.cell 1
    have r0 := (Blk.slI ((L1.out.far (p := ⟨w.heap.size + 1, 0, none⟩) (by simp <;> omega) (.slice (some ⟨gA, 0, none⟩) c.voters.length c.voters.length)).far (p := ⟨w.heap.size + 1, 1, none⟩) (by simp <;> omega) (.slice (some ⟨gB, 0, none⟩) c.learners.length c.learners.length)) (SlI.i64 S0.out) (S := fun b => w.heap.size ≤ b) (by show _ ≤ _; omega) (by omega))
    have r1 := (Blk.slI ((L2.out.far (p := ⟨w.heap.size + 1, 0, none⟩) (by simp <;> omega) (.slice (some ⟨gA, 0, none⟩) c.voters.length c.voters.length)).far (p := ⟨w.heap.size + 1, 1, none⟩) (by simp <;> omega) (.slice (some ⟨gB, 0, none⟩) c.learners.length c.learners.length)) (SlI.i64 S1.out) (S := fun b => w.heap.size ≤ b) (by show _ ≤ _; omega) (by omega))
    refine bodyPost_ret (v := .agg #[.slice (some ⟨gA, 0, none⟩) c.voters.length c.voters.length, .slice (some ⟨gB, 0, none⟩) c.learners.length c.learners.length]) (by simp [results, Try.results53, go_sem, g0, g1]) rfl ⟨[_, _], rfl, Config.shuts c r0 r1, (BT2.out.setCell (by simp) _).setCell (by simp) _⟩
  · have hinv : CInv w c W0 (W0.heap.size + 1) (W0.heap.size) (W0.heap.size + 1 + 1) a0 c0 a1 c1 ((((W0.alloc (.cells (madeI c.learners.length) 3)).alloc (.cells (madeI c.voters.length) 3)).alloc (.cells #[.slice (some ⟨W0.heap.size + 1, 0, none⟩) c.voters.length c.voters.length, .slice (some ⟨W0.heap.size, 0, none⟩) c.learners.length c.learners.length] 25)).drew) := by
      have z0 := HZ.out
      exact ⟨((Blk.newAt _ (W0.heap.size + 1) _ _ (by simp)).alloc _).drew, (((Blk.newAt _ (W0.heap.size) _ _ (by simp)).alloc _).alloc _).drew, (Blk.newAt _ (W0.heap.size + 1 + 1) _ _ (by simp)).drew, (((HB0.out.alloc _).alloc _).alloc _).drew, (((HB1.out.alloc _).alloc _).alloc _).drew, by omega, by omega, by omega, by omega, by omega, by omega, ((((Below.refl _ W0).alloc zz _).alloc (by simp; omega) _).alloc (by simp; omega) _).drew⟩
    have HINV := Lib.hid hinv
    clear hinv
    generalize (((W0.alloc (.cells (madeI c.learners.length) 3)).alloc (.cells (madeI c.voters.length) 3)).alloc (.cells #[.slice (some ⟨W0.heap.size + 1, 0, none⟩) c.voters.length c.voters.length, .slice (some ⟨W0.heap.size, 0, none⟩) c.learners.length c.learners.length] 25)).drew = W at *
    generalize hgC : W0.heap.size + 1 + 1 = gC at *
    generalize hgA : W0.heap.size + 1 = gA at *
    generalize hgB : W0.heap.size = gB at *
    clear hgA hgB hgC
    obtain ⟨i1, i2, i3, i4, i5, i6, i7, i8, n1, n2, n3, hbl⟩ := HINV.out
    have BT := HBW.out.trans (hbl.mono (by omega))
    obtain ⟨qa0, qa1⟩ := box2 i4
    obtain ⟨qc0, qc1⟩ := box2 i3
    have I1 := Lib.hid i1
    have I2 := Lib.hid i2
    have I3 := Lib.hid i3
    have I4 := Lib.hid i4
    have I5 := Lib.hid i5
    have N1 := Lib.hid n1
    have N2 := Lib.hid n2
    have N3 := Lib.hid n3
    have BTH := Lib.hid BT
    clear i1 i2 i3 i4 i5 n1 n2 n3 hbl BT HINV M0 M1
    go_wp2_with (first | (refine wpList_copyI rfl (.tmp 14) (.tmp 16) rfl gA c.voters.length c.voters.length c0 a0 c.voters (madeI c.voters.length) (fun b => b < w.heap.size) rfl rfl I1.out (madeI_size _) (S0.out.same (Same.below BTH.out)) ?_; intro w1 hb1 hg1; have J2 := Lib.hid (I2.out.grown hg1 (fun e => N1.out (by cases e; rfl))); have J3 := I3.out.grown hg1 (fun e => N2.out (by cases e; rfl)); have J4 := I4.out.grown hg1 (fun e => by cases e; omega); have J5 := Lib.hid (I5.out.grown hg1 (fun e => by cases e; omega)); have J1 := Lib.hid hb1; have BT1 := Lib.hid (BTH.out.grown hg1 BTH.out.size (fun k e => by cases e; omega)); clear qa0 qa1 qc0 qc1; obtain ⟨qa0, qa1⟩ := box2 J4; obtain ⟨qc0, qc1⟩ := box2 J3; have J3' := Lib.hid J3; have J4' := Lib.hid J4; clear hb1 hg1 J3 J4) | (refine wpList_copyI rfl (.tmp 19) (.tmp 21) rfl gB c.learners.length c.learners.length c1 a1 c.learners (madeI c.learners.length) (fun b => b < w.heap.size) rfl rfl J2.out (madeI_size _) (S1.out.same (Same.below BT1.out)) ?_; intro w2 hb2 hg2; have L1 := Lib.hid (J1.out.grown hg2 (fun e => N1.out (by cases e; rfl))); have L3 := J3'.out.grown hg2 (fun e => N3.out (by cases e; rfl)); have L5 := J5.out.grown hg2 (fun e => by cases e; omega); have L2 := Lib.hid hb2; have BT2 := Lib.hid (BT1.out.grown hg2 BT1.out.size (fun k e => by cases e; omega)); clear qa0 qa1 qc0 qc1; obtain ⟨qc0, qc1⟩ := box2 L3; obtain ⟨qr0, qr1⟩ := box2 L5; obtain ⟨fr0, fr1⟩ := thaw2 L5; have L5' := Lib.hid L5; clear hb2 hg2 L3 L5))
    have kf := (L5'.out.set 0 (.slice (some ⟨gA, 0, none⟩) c.voters.length c.voters.length)).set 1 (.slice (some ⟨gB, 0, none⟩) c.learners.length c.learners.length)
    have g0 := kf.cell 0
    have g1 := kf.cell 1
    have r0 := (Blk.slI ((L1.out.far (p := ⟨w.heap.size + 1, 0, none⟩) (by simp <;> omega) (.slice (some ⟨gA, 0, none⟩) c.voters.length c.voters.length)).far (p := ⟨w.heap.size + 1, 1, none⟩) (by simp <;> omega) (.slice (some ⟨gB, 0, none⟩) c.learners.length c.learners.length)) (SlI.i64 S0.out) (S := fun b => w.heap.size ≤ b) (by show _ ≤ _; omega) (by omega))
    have r1 := (Blk.slI ((L2.out.far (p := ⟨w.heap.size + 1, 0, none⟩) (by simp <;> omega) (.slice (some ⟨gA, 0, none⟩) c.voters.length c.voters.length)).far (p := ⟨w.heap.size + 1, 1, none⟩) (by simp <;> omega) (.slice (some ⟨gB, 0, none⟩) c.learners.length c.learners.length)) (SlI.i64 S1.out) (S := fun b => w.heap.size ≤ b) (by show _ ≤ _; omega) (by omega))
    refine bodyPost_ret (v := .agg #[.slice (some ⟨gA, 0, none⟩) c.voters.length c.voters.length, .slice (some ⟨gB, 0, none⟩) c.learners.length c.learners.length]) (by simp [results, Try.results53, go_sem, g0, g1]) rfl ⟨[_, _], rfl, Config.shuts c r0 r1, (BT2.out.setCell (by simp) _).setCell (by simp) _⟩
  · have hinv : CInv w c W0 (W0.heap.size + 1 + 1) (W0.heap.size) (W0.heap.size + 1) a0 c0 a1 c1 ((((W0.alloc (.cells (madeI c.learners.length) 3)).alloc (.cells #[.slice (some ⟨W0.heap.size + 1 + 1, 0, none⟩) c.voters.length c.voters.length, .slice (some ⟨W0.heap.size, 0, none⟩) c.learners.length c.learners.length] 25)).alloc (.cells (madeI c.voters.length) 3)).drew) := by
      have z0 := HZ.out
      exact ⟨(Blk.newAt _ (W0.heap.size + 1 + 1) _ _ (by simp)).drew, (((Blk.newAt _ (W0.heap.size) _ _ (by simp)).alloc _).alloc _).drew, ((Blk.newAt _ (W0.heap.size + 1) _ _ (by simp)).alloc _).drew, (((HB0.out.alloc _).alloc _).alloc _).drew, (((HB1.out.alloc _).alloc _).alloc _).drew, by omega, by omega, by omega, by omega, by omega, by omega, ((((Below.refl _ W0).alloc zz _).alloc (by simp; omega) _).alloc (by simp; omega) _).drew⟩
    have HINV := Lib.hid hinv
    clear hinv
    generalize (((W0.alloc (.cells (madeI c.learners.length) 3)).alloc (.cells #[.slice (some ⟨W0.heap.size + 1 + 1, 0, none⟩) c.voters.length c.voters.length, .slice (some ⟨W0.heap.size, 0, none⟩) c.learners.length c.learners.length] 25)).alloc (.cells (madeI c.voters.length) 3)).drew = W at *
    generalize hgA : W0.heap.size + 1 + 1 = gA at *
    generalize hgC : W0.heap.size + 1 = gC at *
    generalize hgB : W0.heap.size = gB at *
    clear hgA hgB hgC
    obtain ⟨i1, i2, i3, i4, i5, i6, i7, i8, n1, n2, n3, hbl⟩ := HINV.out
    have BT := HBW.out.trans (hbl.mono (by omega))
    obtain ⟨qa0, qa1⟩ := box2 i4
    obtain ⟨qc0, qc1⟩ := box2 i3
    have I1 := Lib.hid i1
    have I2 := Lib.hid i2
    have I3 := Lib.hid i3
    have I4 := Lib.hid i4
    have I5 := Lib.hid i5
    have N1 := Lib.hid n1
    have N2 := Lib.hid n2
    have N3 := Lib.hid n3
    have BTH := Lib.hid BT
    clear i1 i2 i3 i4 i5 n1 n2 n3 hbl BT HINV M0 M1
    go_wp2_with (first | (refine wpList_copyI rfl (.tmp 14) (.tmp 16) rfl gA c.voters.length c.voters.length c0 a0 c.voters (madeI c.voters.length) (fun b => b < w.heap.size) rfl rfl I1.out (madeI_size _) (S0.out.same (Same.below BTH.out)) ?_; intro w1 hb1 hg1; have J2 := Lib.hid (I2.out.grown hg1 (fun e => N1.out (by cases e; rfl))); have J3 := I3.out.grown hg1 (fun e => N2.out (by cases e; rfl)); have J4 := I4.out.grown hg1 (fun e => by cases e; omega); have J5 := Lib.hid (I5.out.grown hg1 (fun e => by cases e; omega)); have J1 := Lib.hid hb1; have BT1 := Lib.hid (BTH.out.grown hg1 BTH.out.size (fun k e => by cases e; omega)); clear qa0 qa1 qc0 qc1; obtain ⟨qa0, qa1⟩ := box2 J4; obtain ⟨qc0, qc1⟩ := box2 J3; have J3' := Lib.hid J3; have J4' := Lib.hid J4; clear hb1 hg1 J3 J4) | (refine wpList_copyI rfl (.tmp 19) (.tmp 21) rfl gB c.learners.length c.learners.length c1 a1 c.learners (madeI c.learners.length) (fun b => b < w.heap.size) rfl rfl J2.out (madeI_size _) (S1.out.same (Same.below BT1.out)) ?_; intro w2 hb2 hg2; have L1 := Lib.hid (J1.out.grown hg2 (fun e => N1.out (by cases e; rfl))); have L3 := J3'.out.grown hg2 (fun e => N3.out (by cases e; rfl)); have L5 := J5.out.grown hg2 (fun e => by cases e; omega); have L2 := Lib.hid hb2; have BT2 := Lib.hid (BT1.out.grown hg2 BT1.out.size (fun k e => by cases e; omega)); clear qa0 qa1 qc0 qc1; obtain ⟨qc0, qc1⟩ := box2 L3; obtain ⟨qr0, qr1⟩ := box2 L5; obtain ⟨fr0, fr1⟩ := thaw2 L5; have L5' := Lib.hid L5; clear hb2 hg2 L3 L5))
    have kf := (L5'.out.set 0 (.slice (some ⟨gA, 0, none⟩) c.voters.length c.voters.length)).set 1 (.slice (some ⟨gB, 0, none⟩) c.learners.length c.learners.length)
    have g0 := kf.cell 0
    have g1 := kf.cell 1
    have r0 := (Blk.slI ((L1.out.far (p := ⟨w.heap.size + 1, 0, none⟩) (by simp <;> omega) (.slice (some ⟨gA, 0, none⟩) c.voters.length c.voters.length)).far (p := ⟨w.heap.size + 1, 1, none⟩) (by simp <;> omega) (.slice (some ⟨gB, 0, none⟩) c.learners.length c.learners.length)) (SlI.i64 S0.out) (S := fun b => w.heap.size ≤ b) (by show _ ≤ _; omega) (by omega))
    have r1 := (Blk.slI ((L2.out.far (p := ⟨w.heap.size + 1, 0, none⟩) (by simp <;> omega) (.slice (some ⟨gA, 0, none⟩) c.voters.length c.voters.length)).far (p := ⟨w.heap.size + 1, 1, none⟩) (by simp <;> omega) (.slice (some ⟨gB, 0, none⟩) c.learners.length c.learners.length)) (SlI.i64 S1.out) (S := fun b => w.heap.size ≤ b) (by show _ ≤ _; omega) (by omega))
    refine bodyPost_ret (v := .agg #[.slice (some ⟨gA, 0, none⟩) c.voters.length c.voters.length, .slice (some ⟨gB, 0, none⟩) c.learners.length c.learners.length]) (by simp [results, Try.results53, go_sem, g0, g1]) rfl ⟨[_, _], rfl, Config.shuts c r0 r1, (BT2.out.setCell (by simp) _).setCell (by simp) _⟩
  · have hinv : CInv w c W0 (W0.heap.size + 1) (W0.heap.size + 1 + 1) (W0.heap.size) a0 c0 a1 c1 ((((W0.alloc (.cells #[.slice (some ⟨W0.heap.size + 1, 0, none⟩) c.voters.length c.voters.length, .slice (some ⟨W0.heap.size + 1 + 1, 0, none⟩) c.learners.length c.learners.length] 25)).alloc (.cells (madeI c.voters.length) 3)).alloc (.cells (madeI c.learners.length) 3)).drew) := by
      have z0 := HZ.out
      exact ⟨((Blk.newAt _ (W0.heap.size + 1) _ _ (by simp)).alloc _).drew, (Blk.newAt _ (W0.heap.size + 1 + 1) _ _ (by simp)).drew, (((Blk.newAt _ (W0.heap.size) _ _ (by simp)).alloc _).alloc _).drew, (((HB0.out.alloc _).alloc _).alloc _).drew, (((HB1.out.alloc _).alloc _).alloc _).drew, by omega, by omega, by omega, by omega, by omega, by omega, ((((Below.refl _ W0).alloc zz _).alloc (by simp; omega) _).alloc (by simp; omega) _).drew⟩
    have HINV := Lib.hid hinv
    clear hinv
    generalize (((W0.alloc (.cells #[.slice (some ⟨W0.heap.size + 1, 0, none⟩) c.voters.length c.voters.length, .slice (some ⟨W0.heap.size + 1 + 1, 0, none⟩) c.learners.length c.learners.length] 25)).alloc (.cells (madeI c.voters.length) 3)).alloc (.cells (madeI c.learners.length) 3)).drew = W at *
    generalize hgB : W0.heap.size + 1 + 1 = gB at *
    generalize hgA : W0.heap.size + 1 = gA at *
    generalize hgC : W0.heap.size = gC at *
    clear hgA hgB hgC
    obtain ⟨i1, i2, i3, i4, i5, i6, i7, i8, n1, n2, n3, hbl⟩ := HINV.out
    have BT := HBW.out.trans (hbl.mono (by omega))
    obtain ⟨qa0, qa1⟩ := box2 i4
    obtain ⟨qc0, qc1⟩ := box2 i3
    have I1 := Lib.hid i1
    have I2 := Lib.hid i2
    have I3 := Lib.hid i3
    have I4 := Lib.hid i4
    have I5 := Lib.hid i5
    have N1 := Lib.hid n1
    have N2 := Lib.hid n2
    have N3 := Lib.hid n3
    have BTH := Lib.hid BT
    clear i1 i2 i3 i4 i5 n1 n2 n3 hbl BT HINV M0 M1
    go_wp2_with (first | (refine wpList_copyI rfl (.tmp 14) (.tmp 16) rfl gA c.voters.length c.voters.length c0 a0 c.voters (madeI c.voters.length) (fun b => b < w.heap.size) rfl rfl I1.out (madeI_size _) (S0.out.same (Same.below BTH.out)) ?_; intro w1 hb1 hg1; have J2 := Lib.hid (I2.out.grown hg1 (fun e => N1.out (by cases e; rfl))); have J3 := I3.out.grown hg1 (fun e => N2.out (by cases e; rfl)); have J4 := I4.out.grown hg1 (fun e => by cases e; omega); have J5 := Lib.hid (I5.out.grown hg1 (fun e => by cases e; omega)); have J1 := Lib.hid hb1; have BT1 := Lib.hid (BTH.out.grown hg1 BTH.out.size (fun k e => by cases e; omega)); clear qa0 qa1 qc0 qc1; obtain ⟨qa0, qa1⟩ := box2 J4; obtain ⟨qc0, qc1⟩ := box2 J3; have J3' := Lib.hid J3; have J4' := Lib.hid J4; clear hb1 hg1 J3 J4) | (refine wpList_copyI rfl (.tmp 19) (.tmp 21) rfl gB c.learners.length c.learners.length c1 a1 c.learners (madeI c.learners.length) (fun b => b < w.heap.size) rfl rfl J2.out (madeI_size _) (S1.out.same (Same.below BT1.out)) ?_; intro w2 hb2 hg2; have L1 := Lib.hid (J1.out.grown hg2 (fun e => N1.out (by cases e; rfl))); have L3 := J3'.out.grown hg2 (fun e => N3.out (by cases e; rfl)); have L5 := J5.out.grown hg2 (fun e => by cases e; omega); have L2 := Lib.hid hb2; have BT2 := Lib.hid (BT1.out.grown hg2 BT1.out.size (fun k e => by cases e; omega)); clear qa0 qa1 qc0 qc1; obtain ⟨qc0, qc1⟩ := box2 L3; obtain ⟨qr0, qr1⟩ := box2 L5; obtain ⟨fr0, fr1⟩ := thaw2 L5; have L5' := Lib.hid L5; clear hb2 hg2 L3 L5))
    have kf := (L5'.out.set 0 (.slice (some ⟨gA, 0, none⟩) c.voters.length c.voters.length)).set 1 (.slice (some ⟨gB, 0, none⟩) c.learners.length c.learners.length)
    have g0 := kf.cell 0
    have g1 := kf.cell 1
    have r0 := (Blk.slI ((L1.out.far (p := ⟨w.heap.size + 1, 0, none⟩) (by simp <;> omega) (.slice (some ⟨gA, 0, none⟩) c.voters.length c.voters.length)).far (p := ⟨w.heap.size + 1, 1, none⟩) (by simp <;> omega) (.slice (some ⟨gB, 0, none⟩) c.learners.length c.learners.length)) (SlI.i64 S0.out) (S := fun b => w.heap.size ≤ b) (by show _ ≤ _; omega) (by omega))
    have r1 := (Blk.slI ((L2.out.far (p := ⟨w.heap.size + 1, 0, none⟩) (by simp <;> omega) (.slice (some ⟨gA, 0, none⟩) c.voters.length c.voters.length)).far (p := ⟨w.heap.size + 1, 1, none⟩) (by simp <;> omega) (.slice (some ⟨gB, 0, none⟩) c.learners.length c.learners.length)) (SlI.i64 S1.out) (S := fun b => w.heap.size ≤ b) (by show _ ≤ _; omega) (by omega))
    refine bodyPost_ret (v := .agg #[.slice (some ⟨gA, 0, none⟩) c.voters.length c.voters.length, .slice (some ⟨gB, 0, none⟩) c.learners.length c.learners.length]) (by simp [results, Try.results53, go_sem, g0, g1]) rfl ⟨[_, _], rfl, Config.shuts c r0 r1, (BT2.out.setCell (by simp) _).setCell (by simp) _⟩
  · have hinv : CInv w c W0 (W0.heap.size + 1 + 1) (W0.heap.size + 1) (W0.heap.size) a0 c0 a1 c1 ((((W0.alloc (.cells #[.slice (some ⟨W0.heap.size + 1 + 1, 0, none⟩) c.voters.length c.voters.length, .slice (some ⟨W0.heap.size + 1, 0, none⟩) c.learners.length c.learners.length] 25)).alloc (.cells (madeI c.learners.length) 3)).alloc (.cells (madeI c.voters.length) 3)).drew) := by
      have z0 := HZ.out
      exact ⟨(Blk.newAt _ (W0.heap.size + 1 + 1) _ _ (by simp)).drew, ((Blk.newAt _ (W0.heap.size + 1) _ _ (by simp)).alloc _).drew, (((Blk.newAt _ (W0.heap.size) _ _ (by simp)).alloc _).alloc _).drew, (((HB0.out.alloc _).alloc _).alloc _).drew, (((HB1.out.alloc _).alloc _).alloc _).drew, by omega, by omega, by omega, by omega, by omega, by omega, ((((Below.refl _ W0).alloc zz _).alloc (by simp; omega) _).alloc (by simp; omega) _).drew⟩
    have HINV := Lib.hid hinv
    clear hinv
    generalize (((W0.alloc (.cells #[.slice (some ⟨W0.heap.size + 1 + 1, 0, none⟩) c.voters.length c.voters.length, .slice (some ⟨W0.heap.size + 1, 0, none⟩) c.learners.length c.learners.length] 25)).alloc (.cells (madeI c.learners.length) 3)).alloc (.cells (madeI c.voters.length) 3)).drew = W at *
    generalize hgA : W0.heap.size + 1 + 1 = gA at *
    generalize hgB : W0.heap.size + 1 = gB at *
    generalize hgC : W0.heap.size = gC at *
    clear hgA hgB hgC
    obtain ⟨i1, i2, i3, i4, i5, i6, i7, i8, n1, n2, n3, hbl⟩ := HINV.out
    have BT := HBW.out.trans (hbl.mono (by omega))
    obtain ⟨qa0, qa1⟩ := box2 i4
    obtain ⟨qc0, qc1⟩ := box2 i3
    have I1 := Lib.hid i1
    have I2 := Lib.hid i2
    have I3 := Lib.hid i3
    have I4 := Lib.hid i4
    have I5 := Lib.hid i5
    have N1 := Lib.hid n1
    have N2 := Lib.hid n2
    have N3 := Lib.hid n3
    have BTH := Lib.hid BT
    clear i1 i2 i3 i4 i5 n1 n2 n3 hbl BT HINV M0 M1
    go_wp2_with (first | (refine wpList_copyI rfl (.tmp 14) (.tmp 16) rfl gA c.voters.length c.voters.length c0 a0 c.voters (madeI c.voters.length) (fun b => b < w.heap.size) rfl rfl I1.out (madeI_size _) (S0.out.same (Same.below BTH.out)) ?_; intro w1 hb1 hg1; have J2 := Lib.hid (I2.out.grown hg1 (fun e => N1.out (by cases e; rfl))); have J3 := I3.out.grown hg1 (fun e => N2.out (by cases e; rfl)); have J4 := I4.out.grown hg1 (fun e => by cases e; omega); have J5 := Lib.hid (I5.out.grown hg1 (fun e => by cases e; omega)); have J1 := Lib.hid hb1; have BT1 := Lib.hid (BTH.out.grown hg1 BTH.out.size (fun k e => by cases e; omega)); clear qa0 qa1 qc0 qc1; obtain ⟨qa0, qa1⟩ := box2 J4; obtain ⟨qc0, qc1⟩ := box2 J3; have J3' := Lib.hid J3; have J4' := Lib.hid J4; clear hb1 hg1 J3 J4) | (refine wpList_copyI rfl (.tmp 19) (.tmp 21) rfl gB c.learners.length c.learners.length c1 a1 c.learners (madeI c.learners.length) (fun b => b < w.heap.size) rfl rfl J2.out (madeI_size _) (S1.out.same (Same.below BT1.out)) ?_; intro w2 hb2 hg2; have L1 := Lib.hid (J1.out.grown hg2 (fun e => N1.out (by cases e; rfl))); have L3 := J3'.out.grown hg2 (fun e => N3.out (by cases e; rfl)); have L5 := J5.out.grown hg2 (fun e => by cases e; omega); have L2 := Lib.hid hb2; have BT2 := Lib.hid (BT1.out.grown hg2 BT1.out.size (fun k e => by cases e; omega)); clear qa0 qa1 qc0 qc1; obtain ⟨qc0, qc1⟩ := box2 L3; obtain ⟨qr0, qr1⟩ := box2 L5; obtain ⟨fr0, fr1⟩ := thaw2 L5; have L5' := Lib.hid L5; clear hb2 hg2 L3 L5))
    have kf := (L5'.out.set 0 (.slice (some ⟨gA, 0, none⟩) c.voters.length c.voters.length)).set 1 (.slice (some ⟨gB, 0, none⟩) c.learners.length c.learners.length)
    have g0 := kf.cell 0
    have g1 := kf.cell 1
    have r0 := (Blk.slI ((L1.out.far (p := ⟨w.heap.size + 1, 0, none⟩) (by simp <;> omega) (.slice (some ⟨gA, 0, none⟩) c.voters.length c.voters.length)).far (p := ⟨w.heap.size + 1, 1, none⟩) (by simp <;> omega) (.slice (some ⟨gB, 0, none⟩) c.learners.length c.learners.length)) (SlI.i64 S0.out) (S := fun b => w.heap.size ≤ b) (by show _ ≤ _; omega) (by omega))
    have r1 := (Blk.slI ((L2.out.far (p := ⟨w.heap.size + 1, 0, none⟩) (by simp <;> omega) (.slice (some ⟨gA, 0, none⟩) c.voters.length c.voters.length)).far (p := ⟨w.heap.size + 1, 1, none⟩) (by simp <;> omega) (.slice (some ⟨gB, 0, none⟩) c.learners.length c.learners.length)) (SlI.i64 S1.out) (S := fun b => w.heap.size ≤ b) (by show _ ≤ _; omega) (by omega))
    refine bodyPost_ret (v := .agg #[.slice (some ⟨gA, 0, none⟩) c.voters.length c.voters.length, .slice (some ⟨gB, 0, none⟩) c.learners.length c.learners.length]) (by simp [results, Try.results53, go_sem, g0, g1]) rfl ⟨[_, _], rfl, Config.shuts c r0 r1, (BT2.out.setCell (by simp) _).setCell (by simp) _⟩
set_option maxHeartbeats 1000000 in
theorem lown_any (vs : List Value) (x : Entry) (w : World) (S : Nat → Prop) (h : RdL w S Entry.ty vs x.enc) (h1 : x.config.voters.length ≤ 1000000) (h2 : x.config.learners.length ≤ 1000000) :
    Calls Try.prog 40 #[.agg vs.toArray] w (APost w Entry.ty x.enc) := by
  obtain ⟨a3, c3, a4, c4, rfl, b0, b1, b2, s3, s4, b5⟩ := Entry.opens h
  have B0 : Below w.heap.size w ((w.alloc (.cells #[.int .i64 x.index, .int .i64 x.term, .int .i64 x.kind, .slice a3 (x.config.voters).length c3, .slice a4 (x.config.learners).length c4, .string x.data] 54)).alloc (.cells #[.int .i64 0, .int .i64 0, .int .i64 0, .slice none 0 0, .slice none 0 0, .string ⟨#[]⟩] 54)) := ((Below.refl _ w).alloc (Nat.le_refl _) _).alloc (by simp) _
  have hcall := ownConfig_any _ x.config _ _ (Config.shuts x.config (s3.same (Same.below B0)) (s4.same (Same.below B0))) h1 h2
  have HC := Lib.hid hcall
  have HB0 := Lib.hid B0
  clear h s3 s4 hcall B0
  go_enter Try.func40, Try.ntmps40
  go_wp2_with fail
  refine HC.out.mono ?_
  rintro e w1 ⟨vs1, rfl, hr1, P1⟩
  obtain ⟨y0, z0, y1, z1, rfl, u0, u1⟩ := Config.opens hr1
  have ka0 := ((Blk.newAt _ (w.heap.size) 54 #[.int .i64 x.index, .int .i64 x.term, .int .i64 x.kind, .slice a3 (x.config.voters).length c3, .slice a4 (x.config.learners).length c4, .string x.data] (by simp)).alloc _).below P1 (by simp <;> omega); obtain ⟨qa0_0, qa0_1, qa0_2, qa0_3, qa0_4, qa0_5⟩ := box6 ka0; obtain ⟨fa0_0, fa0_1, fa0_2, fa0_3, fa0_4, fa0_5⟩ := thaw6 ka0; have ka1 := (Blk.newAt _ (w.heap.size + 1) 54 #[.int .i64 0, .int .i64 0, .int .i64 0, .slice none 0 0, .slice none 0 0, .string ⟨#[]⟩] (by simp)).below P1 (by simp <;> omega); obtain ⟨qa1_0, qa1_1, qa1_2, qa1_3, qa1_4, qa1_5⟩ := box6 ka1; obtain ⟨fa1_0, fa1_1, fa1_2, fa1_3, fa1_4, fa1_5⟩ := thaw6 ka1
  have hz := P1.size
  simp at hz
  have U0 := Lib.hid u0
  have U1 := Lib.hid u1
  have BB := Lib.hid (HB0.out.trans (P1.mono (by simp <;> omega)))
  clear hr1 u0 u1 P1
  go_wp2_with fail
  have kb := (ka0.set 3 (.slice y0 x.config.voters.length z0)).set 4 (.slice y1 x.config.learners.length z1)
  have kc0 := (ka1.far (p := ⟨w.heap.size, 3, none⟩) (by simp <;> omega) (.slice y0 x.config.voters.length z0)).far (p := ⟨w.heap.size, 4, none⟩) (by simp <;> omega) (.slice y1 x.config.learners.length z1)
  have kd0 := kc0.set 0 (.int .i64 x.index)
  have kd1 := kd0.set 1 (.int .i64 x.term)
  have kd2 := kd1.set 2 (.int .i64 x.kind)
  have kd3 := kd2.set 3 (.slice y0 x.config.voters.length z0)
  have kd4 := kd3.set 4 (.slice y1 x.config.learners.length z1)
  have kd5 := kd4.set 5 (.string x.data)
  have g0 := kd5.cell 0
  have g1 := kd5.cell 1
  have g2 := kd5.cell 2
  have g3 := kd5.cell 3
  have g4 := kd5.cell 4
  have g5 := kd5.cell 5
  refine bodyPost_ret (v := .agg #[.int .i64 x.index, .int .i64 x.term, .int .i64 x.kind, .slice y0 x.config.voters.length z0, .slice y1 x.config.learners.length z1, .string x.data]) (by simp [results, Try.results40, go_sem, g0, g1, g2, g3, g4, g5]) rfl ⟨[_, _, _, _, _, _], rfl, ?_, ?_⟩
  · have n0 : ¬ (fun b => ((w.alloc (.cells #[.int .i64 x.index, .int .i64 x.term, .int .i64 x.kind, .slice a3 (x.config.voters).length c3, .slice a4 (x.config.learners).length c4, .string x.data] 54)).alloc (.cells #[.int .i64 0, .int .i64 0, .int .i64 0, .slice none 0 0, .slice none 0 0, .string ⟨#[]⟩] 54)).heap.size ≤ b) w.heap.size := by simp <;> omega
    have n1 : ¬ (fun b => ((w.alloc (.cells #[.int .i64 x.index, .int .i64 x.term, .int .i64 x.kind, .slice a3 (x.config.voters).length c3, .slice a4 (x.config.learners).length c4, .string x.data] 54)).alloc (.cells #[.int .i64 0, .int .i64 0, .int .i64 0, .slice none 0 0, .slice none 0 0, .string ⟨#[]⟩] 54)).heap.size ≤ b) (w.heap.size + 1) := by simp
    refine RdL.mono (fun b _ hb => ?_) (Entry.shuts (S := fun b => ((w.alloc (.cells #[.int .i64 x.index, .int .i64 x.term, .int .i64 x.kind, .slice a3 (x.config.voters).length c3, .slice a4 (x.config.learners).length c4, .string x.data] 54)).alloc (.cells #[.int .i64 0, .int .i64 0, .int .i64 0, .slice none 0 0, .slice none 0 0, .string ⟨#[]⟩] 54)).heap.size ≤ b) x b0 b1 b2 (((((((((U0.out).set n0 _).set n0 _).set n1 _).set n1 _).set n1 _).set n1 _).set n1 _).set n1 _) (((((((((U1.out).set n0 _).set n0 _).set n1 _).set n1 _).set n1 _).set n1 _).set n1 _).set n1 _) b5)
    simp at hb
    show w.heap.size ≤ b
    omega
  · exact ((((((((BB.out).setCell (by simp <;> omega) _).setCell (by simp <;> omega) _).setCell (by simp <;> omega) _).setCell (by simp <;> omega) _).setCell (by simp <;> omega) _).setCell (by simp <;> omega) _).setCell (by simp <;> omega) _).setCell (by simp <;> omega) _
end Go.Proofs.Yteiojclemodhaaa
