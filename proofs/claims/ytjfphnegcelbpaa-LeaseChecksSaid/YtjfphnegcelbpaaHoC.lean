/- Copies of a holder: slices.Clone at []api.Sent, lease.own, the reference's Own. Condition: a struct that reads as a holder, of at most 10^6 signs. -/
import Derived.Test.YtjfphnegcelbpaaHoA
namespace Go.Proofs.Ytjfphnegcelbpaa
open Go.RowKit
set_option linter.unusedVariables false
set_option linter.unusedSimpArgs false
theorem infoSe0 : (Try.prog.info? 51).map (fun i => (i.zero, i.size, i.bytes)) = some (some (.agg #[.int .i64 0, .int .i64 0]), 2, 16) := by kernel_rfl
theorem infoSe : Info Try.prog 51 2 16 := by
  obtain ⟨i0, h1, h2, h3, h4⟩ := info_parts infoSe0
  exact ⟨i0, _, h1, h2, h3, h4, rfl⟩
theorem OwnR.empty (w : World) (E T : TypeId) (hT : T = E) (S : Nat → Prop) (fs : List Ty) : OwnR w.heap.size (w.alloc (.cells #[] T)) E S fs (.slice (some ⟨w.heap.size, 0, none⟩) 0 0) [] := by
  subst hT
  exact ⟨[], World.ownsRow_made w #[] 0 (Nat.le_refl _) (by unfold maxLen; omega) (by simp), fun i h => absurd h (by simp)⟩
/-- a post: a slice in memory of its own -/
def OPost (w : World) (E : TypeId) (fs : List Ty) (rows : List (List D)) (e : Ending) (w' : World) : Prop := ∃ v, e = .returned v ∧ OwnR w.heap.size w' E (fun b => w.heap.size ≤ b) fs v rows ∧ Below w.heap.size w w'
theorem cloneSe_any (a : Option Addr) (n c : Nat) (rows : List (List D)) (w : World) (S : Nat → Prop) (h : Sl w S Sent.ty a n c rows) (hn : n ≤ 1000000) :
    Calls Try.prog 42 #[.slice a n c] w (OPost w 51 Sent.ty rows) := by
  have hl := h.len
  cases a with
  | none =>
    obtain ⟨rfl, rfl⟩ := h.bd.2.2.2 rfl
    obtain rfl : rows = [] := List.eq_nil_of_length_eq_zero hl
    have k1 := fun (w : World) (n c : Nat) => Lib.run_eql_slice_nil (P := Try.prog) w 22 51 none n c 0 0 Try.underlying22
    clear h hl
    go_enter Try.func42, Try.ntmps42
    go_wp2
    go_ret
    exact ⟨_, rfl, OwnR.nil _ _ _ _ _, Below.refl _ _⟩
  | some ad =>
    have k1 := fun (w : World) (n c : Nat) => Lib.run_eql_slice_nil (P := Try.prog) w 22 51 (some ad) n c 0 0 Try.underlying22
    have H := Lib.hid (h.same (Same.alloc _ _ (.cells #[] 51)))
    clear h hl
    go_enter Try.func42, Try.ntmps42
    go_wp2_with (at_builtin; refine wpList_apps rfl (.tmp 5) (.tmp 6) 22 rfl (base := w.heap.size) (E := 51) (S := fun b => w.heap.size ≤ b) (fs := Sent.ty) (k := 2) (bytes := 16) rfl (by decide) (by decide) (by decide) Try.underlying22 infoSe _ [] rfl (OwnR.empty w _ _ rfl _ _) (some ad) n c rows (T := S) rfl ?c1 ?c2 ?c3 ?c4 ?_; rotate_right; intro v1 w1 ho1 hg1 _; have HO1 := Lib.hid ho1; have HB1 := Lib.hid ((((Below.refl w.heap.size w).alloc (Nat.le_refl _) (.cells #[] 51))).grown hg1 (by simp) (fun k e => by cases e; exact Nat.le_refl _)); clear ho1 hg1)
    · go_ret
      exact ⟨_, rfl, HO1.out, HB1.out⟩
    case c1 => exact H.out
    case c2 => exact flat_in (by decide)
    case c3 => simp; omega
    case c4 => simp
/-- a post: a holder in memory of its own -/
def HPost (w : World) (h : Holder) (e : Ending) (w' : World) : Prop := ∃ v, e = .returned (.agg #[.int .i64 h.node, .int .i64 h.now, .int .i64 h.ask, v, .int .i64 h.seq, .int .i64 h.at_]) ∧ OwnR w.heap.size w' 51 (fun b => w.heap.size ≤ b) Sent.ty v (h.sent.map Sent.enc) ∧ Below w.heap.size w w'
set_option maxHeartbeats 1000000 in
theorem hown_any (vs : List Value) (h : Holder) (w : World) (S : Nat → Prop) (hr : RdL w S Holder.ty vs h.enc) (hn : h.sent.length ≤ 1000000) :
    Calls Try.prog 28 #[.agg vs.toArray] w (HPost w h) := by
  obtain ⟨a3, c3, rfl, b0, b1, b2, s3, b4, b5⟩ := Holder.opens hr
  have B0 : Below w.heap.size w ((w.alloc (.cells #[.int .i64 h.node, .int .i64 h.now, .int .i64 h.ask, .slice a3 (h.sent).length c3, .int .i64 h.seq, .int .i64 h.at_] 24)).alloc (.cells #[.int .i64 0, .int .i64 0, .int .i64 0, .slice none 0 0, .int .i64 0, .int .i64 0] 24)) := ((Below.refl _ w).alloc (Nat.le_refl _) _).alloc (by simp) _
  have HC := Lib.hid (cloneSe_any a3 _ c3 _ _ _ (s3.same (Same.below B0)) hn)
  have HB0 := Lib.hid B0
  clear hr s3 B0
  go_enter Try.func28, Try.ntmps28
  go_wp2_with fail
  refine HC.out.mono ?_
  rintro e w1 ⟨v, rfl, ho, P1⟩
  have ka0 := ((Blk.newAt _ (w.heap.size) 24 #[.int .i64 h.node, .int .i64 h.now, .int .i64 h.ask, .slice a3 (h.sent).length c3, .int .i64 h.seq, .int .i64 h.at_] (by simp)).alloc _).below P1 (by simp <;> omega); obtain ⟨qa0_0, qa0_1, qa0_2, qa0_3, qa0_4, qa0_5⟩ := box6 ka0; obtain ⟨fa0_0, fa0_1, fa0_2, fa0_3, fa0_4, fa0_5⟩ := thaw6 ka0; have ka1 := (Blk.newAt _ (w.heap.size + 1) 24 #[.int .i64 0, .int .i64 0, .int .i64 0, .slice none 0 0, .int .i64 0, .int .i64 0] (by simp)).below P1 (by simp <;> omega); obtain ⟨qa1_0, qa1_1, qa1_2, qa1_3, qa1_4, qa1_5⟩ := box6 ka1; obtain ⟨fa1_0, fa1_1, fa1_2, fa1_3, fa1_4, fa1_5⟩ := thaw6 ka1
  have hz := P1.size
  simp at hz
  have HO := Lib.hid ho
  have hvl := ho.lt
  have HVL := Lib.hid hvl
  have BB := Lib.hid (HB0.out.trans (P1.mono (by simp <;> omega)))
  obtain ⟨av, cv, rfl⟩ := ho.form
  rw [List.length_map] at HO HVL
  clear ho P1 hvl
  go_wp2_with fail
  have kb := ka1.far (p := ⟨w.heap.size, 3, none⟩) (by simp) (.slice av h.sent.length cv)
  have kb0 := kb.set 0 (.int .i64 h.node)
  have kb1 := kb0.set 1 (.int .i64 h.now)
  have kb2 := kb1.set 2 (.int .i64 h.ask)
  have kb3 := kb2.set 3 (.slice av h.sent.length cv)
  have kb4 := kb3.set 4 (.int .i64 h.seq)
  have kb5 := kb4.set 5 (.int .i64 h.at_)
  have g0 := kb5.cell 0
  have g1 := kb5.cell 1
  have g2 := kb5.cell 2
  have g3 := kb5.cell 3
  have g4 := kb5.cell 4
  have g5 := kb5.cell 5
  refine bodyPost_ret (v := .agg #[.int .i64 h.node, .int .i64 h.now, .int .i64 h.ask, .slice av h.sent.length cv, .int .i64 h.seq, .int .i64 h.at_]) (by simp [results, Try.results28, go_sem, g0, g1, g2, g3, g4, g5]) rfl ⟨_, rfl, ?_, ?_⟩
  · exact (((((((HO.out.set (by simp <;> omega) _).set (by simp <;> omega) _).set (by simp <;> omega) _).set (by simp <;> omega) _).set (by simp <;> omega) _).set (by simp <;> omega) _).set (by simp <;> omega) _).low (by simp <;> omega)
  · exact (((((((BB.out).setCell (by simp <;> omega) _).setCell (by simp <;> omega) _).setCell (by simp <;> omega) _).setCell (by simp <;> omega) _).setCell (by simp <;> omega) _).setCell (by simp <;> omega) _).setCell (by simp <;> omega) _
set_option maxHeartbeats 1000000 in
theorem rhown_any (vs : List Value) (h : Holder) (w : World) (S : Nat → Prop) (hr : RdL w S Holder.ty vs h.enc) (hn : h.sent.length ≤ 1000000) :
    Calls Try.prog 7 #[.agg vs.toArray] w (HPost w h) := by
  obtain ⟨a3, c3, rfl, b0, b1, b2, s3, b4, b5⟩ := Holder.opens hr
  have B0 : Below w.heap.size w ((w.alloc (.cells #[.int .i64 h.node, .int .i64 h.now, .int .i64 h.ask, .slice a3 (h.sent).length c3, .int .i64 h.seq, .int .i64 h.at_] 24)).alloc (.cells #[.int .i64 0, .int .i64 0, .int .i64 0, .slice none 0 0, .int .i64 0, .int .i64 0] 24)) := ((Below.refl _ w).alloc (Nat.le_refl _) _).alloc (by simp) _
  have HC := Lib.hid (s3.same (Same.below B0))
  have HB0 := Lib.hid B0
  clear hr s3 B0
  go_enter Try.func7, Try.ntmps7
  go_wp2_with (at_builtin; refine wpList_apps rfl (.tmp 4) (.tmp 6) 22 rfl (base := w.heap.size + 2) (E := 51) (S := fun b => w.heap.size + 2 ≤ b) (fs := Sent.ty) (k := 2) (bytes := 16) rfl (by decide) (by decide) (by decide) Try.underlying22 infoSe (.slice none 0 0) [] rfl (OwnR.nil _ _ _ _ _) a3 _ c3 (h.sent.map Sent.enc) (T := S) rfl ?c1 ?c2 ?c3 ?c4 ?_; rotate_right; intro v w1 ho hg1 _; have P1 := grown_none hg1 rfl; rw [List.nil_append] at ho; have ka0 := ((Blk.newAt _ (w.heap.size) 24 #[.int .i64 h.node, .int .i64 h.now, .int .i64 h.ask, .slice a3 (h.sent).length c3, .int .i64 h.seq, .int .i64 h.at_] (by simp)).alloc _).below P1 (by simp <;> omega); obtain ⟨qa0_0, qa0_1, qa0_2, qa0_3, qa0_4, qa0_5⟩ := box6 ka0; obtain ⟨fa0_0, fa0_1, fa0_2, fa0_3, fa0_4, fa0_5⟩ := thaw6 ka0; have ka1 := (Blk.newAt _ (w.heap.size + 1) 24 #[.int .i64 0, .int .i64 0, .int .i64 0, .slice none 0 0, .int .i64 0, .int .i64 0] (by simp)).below P1 (by simp <;> omega); obtain ⟨qa1_0, qa1_1, qa1_2, qa1_3, qa1_4, qa1_5⟩ := box6 ka1; obtain ⟨fa1_0, fa1_1, fa1_2, fa1_3, fa1_4, fa1_5⟩ := thaw6 ka1; have HO := Lib.hid ho; have hz := P1.size; simp at hz; have BB := Lib.hid (HB0.out.trans (P1.mono (by simp <;> omega))); obtain ⟨av, cv, rfl⟩ := ho.form; rw [List.length_map] at HO; clear ho hg1 P1)
  · have kb := ka1.far (p := ⟨w.heap.size, 3, none⟩) (by simp) (.slice av h.sent.length cv)
    have kb0 := kb.set 0 (.int .i64 h.node)
    have kb1 := kb0.set 1 (.int .i64 h.now)
    have kb2 := kb1.set 2 (.int .i64 h.ask)
    have kb3 := kb2.set 3 (.slice av h.sent.length cv)
    have kb4 := kb3.set 4 (.int .i64 h.seq)
    have kb5 := kb4.set 5 (.int .i64 h.at_)
    have g0 := kb5.cell 0
    have g1 := kb5.cell 1
    have g2 := kb5.cell 2
    have g3 := kb5.cell 3
    have g4 := kb5.cell 4
    have g5 := kb5.cell 5
    refine bodyPost_ret (v := .agg #[.int .i64 h.node, .int .i64 h.now, .int .i64 h.ask, .slice av h.sent.length cv, .int .i64 h.seq, .int .i64 h.at_]) (by simp [results, Try.results7, go_sem, g0, g1, g2, g3, g4, g5]) rfl ⟨_, rfl, ?_, ?_⟩
    · exact (((((((HO.out.set (by simp <;> omega) _).set (by simp <;> omega) _).set (by simp <;> omega) _).set (by simp <;> omega) _).set (by simp <;> omega) _).set (by simp <;> omega) _).set (by simp <;> omega) _).low (by simp <;> omega)
    · exact (((((((BB.out).setCell (by simp <;> omega) _).setCell (by simp <;> omega) _).setCell (by simp <;> omega) _).setCell (by simp <;> omega) _).setCell (by simp <;> omega) _).setCell (by simp <;> omega) _).setCell (by simp <;> omega) _
  case c1 => exact HC.out
  case c2 => exact flat_in (by decide)
  case c3 => simp; omega
  case c4 => simp
end Go.Proofs.Ytjfphnegcelbpaa
