/- Contracts of raftlog's Check, Last, Term and of the reference's, as the symbolic walk has them. No condition. -/
import Derived.Test.YteiojclemodhaaaSyU
import Derived.Test.YteiojclemodhaaaLogE
namespace Go.Proofs.Yteiojclemodhaaa
open Go.RowKit Go.ChangeShapes Go.WideShapes Go.Deep
set_option linter.unusedVariables false
set_option linter.unusedSimpArgs false
theorem Kept.i64 {w : World} {S : Nat → Prop} {vs : List Value} {k : Kept} (h : RdL w S Kept.ty vs k.enc) : (I64 k.snap.index ∧ I64 k.snap.term) ∧ ∀ x, x ∈ k.entries → I64 x.index ∧ I64 x.term := by
  obtain ⟨a4, c4, a5, c5, a7, c7, rfl, b0, b1, b2, b3, s4, s5, b6, s7⟩ := Kept.opens h
  refine ⟨⟨b2, b3⟩, fun x hx => ?_⟩
  obtain ⟨us, hu⟩ := rows_rd s7 x hx
  obtain ⟨_, _, _, _, _, g0, g1, _⟩ := Entry.opens hu
  exact ⟨g0, g1⟩
theorem bwL_mem {k : Kept} {p : Int × Int} (h : p ∈ bwL k) : p = snapP k ∨ ∃ x, x ∈ k.entries ∧ p = (x.index, x.term) := by
  unfold bwL at h
  rcases List.mem_append.1 h with h | h
  · obtain ⟨i, hi, rfl⟩ := List.mem_map.1 h
    have hi2 : i < k.entries.length := by
      unfold dn at hi
      obtain ⟨j, hj, rfl⟩ := List.mem_map.1 hi
      have := List.mem_range.1 hj
      omega
    right
    refine ⟨k.entries[i], List.getElem_mem hi2, ?_⟩
    simp [entP, Kept.en, List.getD, hi2]
  · left; simpa using h
theorem bwL_i64 {w : World} {S : Nat → Prop} {vs : List Value} {k : Kept} (h : RdL w S Kept.ty vs k.enc) {p : Int × Int} (hp : p ∈ bwL k) : I64 p.1 ∧ I64 p.2 := by
  obtain ⟨h1, h2⟩ := Kept.i64 h
  rcases bwL_mem hp with rfl | ⟨x, hx, rfl⟩
  · exact h1
  · exact h2 x hx
theorem i0 : I64 0 := by unfold I64; decide
theorem last_i64 {w : World} {S : Nat → Prop} {vs : List Value} {k : Kept} (h : RdL w S Kept.ty vs k.enc) : I64 (lastP k).1 ∧ I64 (lastP k).2 := by
  unfold lastP
  split
  · cases hb : bwL k with
    | nil => exact ⟨i0, i0⟩
    | cons p r => exact bwL_i64 h (by rw [hb]; exact List.mem_cons_self ..)
  · exact ⟨i0, i0⟩
theorem term_i64 {w : World} {S : Nat → Prop} {vs : List Value} {k : Kept} (h : RdL w S Kept.ty vs k.enc) (i : Int) : I64 (termP k i).1 ∧ I64 (termP k i).2 := by
  unfold termP
  split
  · split
    · rename_i p hp
      exact ⟨(bwL_i64 h (List.mem_of_find?_eq_some hp)).2, i0⟩
    · exact ⟨i0, by unfold I64; decide⟩
  · exact ⟨i0, by unfold I64; decide⟩
theorem err_i64 (b : Bool) : I64 (err b) := by cases b <;> (unfold I64; decide)
theorem check_fn (k : Kept) : FnC Try.prog 12 [.agg (k.svs [0])] (.int .i64 (err (onB k))) D2 :=
  FnC.of_int (fnB Try.func12 (by decide) rfl) fun w E vals hd => by
    obtain ⟨v, rfl, xs, rfl, hl⟩ := one_arg hd
    exact ⟨err_i64 _, check_any xs k w _ (Kept.svs_rd hl)⟩
theorem on_fn (k : Kept) : FnC Try.prog 14 [.agg (k.svs [0])] (.bool (onB k)) D2 :=
  FnC.of_bool (fnB Try.func14 (by decide) rfl) fun w E vals hd => by
    obtain ⟨v, rfl, xs, rfl, hl⟩ := one_arg hd
    exact on_any xs k w _ (Kept.svs_rd hl)
theorem last_fn (k : Kept) : FnC Try.prog 10 [.agg (k.svs [0])] (.tup [.int .i64 (lastP k).1, .int .i64 (lastP k).2]) D2 :=
  FnC.of_i2 (fnB Try.func10 (by decide) rfl) fun w E vals hd => by
    obtain ⟨v, rfl, xs, rfl, hl⟩ := one_arg hd
    exact ⟨last_i64 (Kept.svs_rd hl), last_any xs k w _ (Kept.svs_rd hl)⟩
theorem rlast_fn (k : Kept) : FnC Try.prog 11 [.agg (k.svs [0])] (.tup [.int .i64 (lastP k).1, .int .i64 (lastP k).2]) D2 :=
  FnC.of_i2 (fnB Try.func11 (by decide) rfl) fun w E vals hd => by
    obtain ⟨v, rfl, xs, rfl, hl⟩ := one_arg hd
    exact ⟨last_i64 (Kept.svs_rd hl), rlast_any xs k w _ (Kept.svs_rd hl)⟩
theorem term_fn (k : Kept) (i : Int) : FnC Try.prog 15 [.agg (k.svs [0]), .int .i64 i] (.tup [.int .i64 (termP k i).1, .int .i64 (termP k i).2]) D2 :=
  FnC.of_i2 (fnB Try.func15 (by decide) rfl) fun w E vals hd => by
    obtain ⟨v, u, rfl, ⟨xs, rfl, hl⟩, ⟨rfl, _⟩⟩ := two_arg hd
    exact ⟨term_i64 (Kept.svs_rd hl) i, term_any xs k i w _ (Kept.svs_rd hl)⟩
theorem rterm_fn (k : Kept) (i : Int) : FnC Try.prog 16 [.agg (k.svs [0]), .int .i64 i] (.tup [.int .i64 (termP k i).1, .int .i64 (termP k i).2]) D2 :=
  FnC.of_i2 (fnB Try.func16 (by decide) rfl) fun w E vals hd => by
    obtain ⟨v, u, rfl, ⟨xs, rfl, hl⟩, ⟨rfl, _⟩⟩ := two_arg hd
    exact ⟨term_i64 (Kept.svs_rd hl) i, rterm_any xs k i w _ (Kept.svs_rd hl)⟩
noncomputable def eCheck : Ent := ent1 12 dKept fun k => ([], .int .i64 (err (onB k)), D2)
noncomputable def eOn : Ent := ent1 14 dKept fun k => ([], .bool (onB k), D2)
noncomputable def eLast : Ent := ent1 10 dKept fun k => ([], .tup [.int .i64 (lastP k).1, .int .i64 (lastP k).2], D2)
noncomputable def eRLast : Ent := ent1 11 dKept fun k => ([], .tup [.int .i64 (lastP k).1, .int .i64 (lastP k).2], D2)
noncomputable def eTerm : Ent := ent2 15 dKept dInt fun k i => ([], .tup [.int .i64 (termP k i).1, .int .i64 (termP k i).2], D2)
noncomputable def eRTerm : Ent := ent2 16 dKept dInt fun k i => ([], .tup [.int .i64 (termP k i).1, .int .i64 (termP k i).2], D2)
theorem eCheck_ok : EntOk Try.prog eCheck := ent1_ok (check_fn default).1 fun k _ => check_fn k
theorem eOn_ok : EntOk Try.prog eOn := ent1_ok (on_fn default).1 fun k _ => on_fn k
theorem eLast_ok : EntOk Try.prog eLast := ent1_ok (last_fn default).1 fun k _ => last_fn k
theorem eRLast_ok : EntOk Try.prog eRLast := ent1_ok (rlast_fn default).1 fun k _ => rlast_fn k
theorem eTerm_ok : EntOk Try.prog eTerm := ent2_ok (term_fn default 0).1 fun k i _ => term_fn k i
theorem eRTerm_ok : EntOk Try.prog eRTerm := ent2_ok (rterm_fn default 0).1 fun k i _ => rterm_fn k i
noncomputable def tabA : List Ent := [eCheck, eOn, eLast, eRLast, eTerm, eRTerm]
theorem tabA_ok : ∀ e ∈ tabA, EntOk Try.prog e := tab_cons eCheck_ok (tab_cons eOn_ok (tab_cons eLast_ok (tab_cons eRLast_ok (tab_cons eTerm_ok (tab_cons eRTerm_ok tab_nil)))))
end Go.Proofs.Yteiojclemodhaaa
