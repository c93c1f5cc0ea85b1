/- raftlog.backwards: it tells a log's numbers and terms from the last one on. Condition: a struct that reads as a log. -/
import Derived.Test.YteiojclemodhaaaBackA
import Derived.Test.YteiojclemodhaaaLogA
namespace Go.Proofs.Yteiojclemodhaaa
open Go.RowKit Go.Shelf
set_option linter.unusedVariables false
set_option linter.unusedSimpArgs false
attribute [local go_sem] Oper.semAt_some
def pairArg (p : Int × Int) : Array Value := #[.int .i64 p.1, .int .i64 p.2]
def entP (k : Kept) (i : Nat) : Int × Int := ((k.en i).index, (k.en i).term)
def snapP (k : Kept) : Int × Int := (k.snap.index, k.snap.term)
def bwL (k : Kept) : List (Int × Int) := (dn k.entries.length k.entries.length).map (entP k) ++ [snapP k]
theorem ownFrom_up {β : Type} {B B' : Nat} {I : β → World → Prop} (h : OwnFrom B I) (hB : B ≤ B') : OwnFrom B' I := fun s A C row hs hg hr => h s A C row hs hg fun r e => ⟨Nat.le_trans hB (hr r e).1, (hr r e).2⟩
theorem ownFrom_map {β γ : Type} {B : Nat} {I : γ → World → Prop} (h : OwnFrom B I) (f : β → γ) : OwnFrom B (fun s W => I (f s) W) := fun s A C row hs hg hr => h (f s) A C row hs hg hr
theorem ownFrom_blk {β : Type} {B g : Nat} {t : TypeId} {cs : Array Value} : OwnFrom B (fun (_ : β) W => Blk W g t cs) := fun s A C row hs hg hr => by
  refine (hg.block g hs.lt fun e => ?_).trans hs
  obtain ⟨_, o, ho, hc⟩ := hr g e.symm
  have : A.heap[g]? = some (.cells cs t (0, 0)) := hs
  rw [this] at ho
  cases ho
  simp [Obj.isCells] at hc
def EvOk (e : Entry) (f : Nat → Value) : Prop := ∃ a3 c3 a4 c4, f 0 = .int .i64 e.index ∧ f 1 = .int .i64 e.term ∧ f 2 = .int .i64 e.kind ∧ f 3 = .slice a3 e.config.voters.length c3 ∧ f 4 = .slice a4 e.config.learners.length c4 ∧ f 5 = .string e.data
theorem ent_vals {w : World} {S : Nat → Prop} {a : Option Addr} {c : Nat} {k : Kept} (h : Sl w S Entry.ty a k.entries.length c (k.entries.map Entry.enc)) :
    ∃ ev : Nat → Nat → Value, (∀ x, EvOk (k.en x) (ev x)) ∧
      (0 < k.entries.length → ∃ b off, a = some ⟨b, off, none⟩ ∧ b < w.heap.size ∧ ∀ i j, i < k.entries.length → j < 6 → w.cell? ⟨b, off + i * 6 + j, none⟩ = some (ev i j)) := by
  have el : ∀ x, ∃ f : Nat → Value, EvOk (k.en x) f := fun x =>
    ⟨fun j => match j with | 0 => .int .i64 (k.en x).index | 1 => .int .i64 (k.en x).term | 2 => .int .i64 (k.en x).kind | 3 => .slice none (k.en x).config.voters.length 0 | 4 => .slice none (k.en x).config.learners.length 0 | _ => .string (k.en x).data,
      none, 0, none, 0, rfl, rfl, rfl, rfl, rfl, rfl⟩
  by_cases hp : 0 < k.entries.length
  · obtain ⟨b, off, e, _, hb, vals, hc, hr⟩ := h.rowAt hp
    refine ⟨fun i => if i < k.entries.length then vals i else Classical.choose (el i), fun x => ?_, fun _ => ⟨b, off, e, hb, fun i j hi hj => ?_⟩⟩
    · by_cases hx : x < k.entries.length
      · obtain ⟨h1, h2⟩ := hr x hx
        have he : (k.entries.map Entry.enc).getD x [] = (k.en x).enc := by simp [Kept.en, List.getD, hx]
        rw [he] at h2
        simp only [if_pos hx]
        obtain ⟨a3, c3, q3, _⟩ := Rd.sl' (h2 3 (by decide))
        obtain ⟨a4, c4, q4, _⟩ := Rd.sl' (h2 4 (by decide))
        rw [ints_len] at q3 q4
        exact ⟨a3, c3, a4, c4, (Rd.i64 (h2 0 (by decide))).1, (Rd.i64 (h2 1 (by decide))).1, (Rd.i64 (h2 2 (by decide))).1, q3, q4, (Rd.str' (h2 5 (by decide))).1⟩
      · simp only [if_neg hx]
        exact Classical.choose_spec (el x)
    · show _ = some ((if i < k.entries.length then vals i else _) j)
      rw [if_pos hi]
      exact hc i j hi hj
  · exact ⟨fun i => Classical.choose (el i), fun x => Classical.choose_spec (el x), fun h => absurd h hp⟩
set_option maxRecDepth 100000 in
set_option maxHeartbeats 4000000 in
theorem bw_stops (n Bk : Nat) (k : Kept) (w : World) (S : Nat → Prop) (a4 a5 a7 : Option Addr) (c4 c5 c7 : Nat) (hbk : Blk w Bk 30 #[.int .i64 k.term, .int .i64 k.vote, .int .i64 k.snap.index, .int .i64 k.snap.term, .slice a4 (k.snap.config.voters).length c4, .slice a5 (k.snap.config.learners).length c5, .string k.snap.data, .slice a7 (k.entries).length c7]) (hs : Sl w S Entry.ty a7 k.entries.length c7 (k.entries.map Entry.enc)) (hn : 9 ≤ n) :
    SeqJ Fence.wide n Try.prog 50 #[.pointer (some ⟨Bk, 0, none⟩)] pairArg w.heap.size (fun ys => ys = bwL k) (fun pre => ∃ j, j ≤ (bwL k).length ∧ pre = (bwL k).take j) (k.entries.length + 1) w := by
  intro l J Jx W hW hJ hJx hY h0
  have hbk1 := hbk.below hW hbk.lt
  have zb : Bk < W.heap.size := hbk1.lt
  have zw : Bk < w.heap.size := hbk.lt
  have ck : W.cell? ⟨Bk, 7, none⟩ = some (.slice a7 k.entries.length c7) := hbk1.cell 7
  have cs1 : W.cell? ⟨Bk, 2, none⟩ = some (.int .i64 k.snap.index) := hbk1.cell 2
  have cs2 : W.cell? ⟨Bk, 3, none⟩ = some (.int .i64 k.snap.term) := hbk1.cell 3
  have HS := Lib.hid (hs.same (Same.below hW))
  have HBK := Lib.hid hbk1
  have hlen := hs.bd.2.2.1
  have HW := Lib.hid hs
  clear hbk hs hbk1
  refine callsIn_of_wp_marks Try.func50 rfl trivial ?_ rfl
  simp only [Try.ntmps50, List.size_toArray, List.length_cons, List.length_nil, Nat.reduceAdd, Nat.reduceSub, Array.replicate_succ, Array.replicate_zero, List.push_toArray, List.append_toArray, List.nil_append, List.cons_append]
  gi_wp2_with fail
  refine ⟨trivial, fun _ => by omega, ?_⟩
  refine (back_in _ _ _ _ _).mono ?_
  rintro e w' ⟨rfl, rfl⟩
  gi_wp2_with fail
  obtain ⟨ev, hev, hcells⟩ := ent_vals HS.out
  obtain ⟨W0, hW0⟩ : ∃ W0, (W.alloc (.cells #[.func (.yield l) #[] #[]] 79)).alloc (.cells #[.slice a7 k.entries.length c7] 28) = W0 := ⟨_, rfl⟩
  have hsz : W0.heap.size = W.heap.size + 2 := by rw [← hW0]; simp
  have hB0 : Below W.heap.size W W0 := by rw [← hW0]; exact ((Below.refl _ W).alloc (Nat.le_refl _) _).alloc (by simp) _
  have hyb : Blk W0 W.heap.size 79 #[.func (.yield l) #[] #[]] := by rw [← hW0]; exact (Blk.new W _ _).below (B := (W.alloc (.cells #[.func (.yield l) #[] #[]] 79)).heap.size) ((Below.refl _ _).alloc (Nat.le_refl _) _) (by simp)
  have hsb : W0.cell? ⟨W.heap.size + 1, 0, none⟩ = some (.slice a7 k.entries.length c7) := by
    rw [← hW0, World.cell?_alloc_at _ _ _ _ (by simp)]; rfl
  have hJ0 : J [] W0 := by rw [← hW0]; exact hJ.alloc _ (hJ.alloc _ h0)
  rw [hW0]
  clear hW0
  refine wpIn_rangeFunc_ownH rfl (by omega) (gf := 58) (lb := #[.pointer (some ⟨W.heap.size + 1, 0, none⟩)]) rfl trivial (enters_of Try.func58 (by kernel_rfl) rfl)
    (back_stops (n - 1) (W.heap.size + 1) w.heap.size a7 k.entries.length c7 ev hlen W0 (by omega) (by have := hW.size; omega) (by omega) hsb ?hcc) KpB.t (KpB.b (by have := hW.size; omega)) (Below.refl _ _) (fun _ => rfl)
    (fun pre Wi => J (pre.map (entP k)) Wi ∧ Blk Wi W.heap.size 79 #[.func (.yield l) #[] #[]] ∧ Below w.heap.size W Wi)
    (fun c pre Wi => c = .ret ∧ Jx (pre.map (entP k)) Wi)
    (OwnFrom.and (ownFrom_map (ownFrom_up hJ (by omega)) _) (OwnFrom.and ownFrom_blk (ownFrom_below hW.size (by have := hW.size; omega))))
    (fun c => OwnFrom.and (ownFrom_pure _ _) (ownFrom_map (ownFrom_up hJx (by omega)) _))
    ⟨hJ0, hyb, hB0.mono hW.size⟩
    (fun x a' Wi => ∃ Bx, Blk Wi Bx 54 #[ev x 0, ev x 1, ev x 2, ev x 3, ev x 4, ev x 5] ∧ a' = { tmps := #[.func (.yield l) #[] #[], .pointer (some ⟨Bk, 0, none⟩), .pointer (some ⟨W.heap.size, 0, none⟩), undef, .pointer (some ⟨Bx, 0, none⟩), .pointer (some ⟨Bk, 7, none⟩), .slice a7 k.entries.length c7, .func (.func 58) #[] #[.pointer (some ⟨W.heap.size + 1, 0, none⟩)], .int .i64 (x : Int), .agg #[ev x 0, ev x 1, ev x 2, ev x 3, ev x 4, ev x 5], undef, undef, undef, undef, undef, undef, undef, undef, undef, undef, undef, undef, undef, undef, undef], defers := [] })
    (fun x a' s A C row hs hg hr => by obtain ⟨Bx, h2, h3⟩ := hs; exact ⟨Bx, ownFrom_blk (β := Unit) () A C row h2 hg hr, h3⟩)
    ?assign ?body ?done ?stop
  case hcc =>
    intro hp
    obtain ⟨b, off, e, hb, hc⟩ := hcells hp
    have hb' : b < w.heap.size := by
      obtain ⟨b', off', e', _, h', _⟩ := HW.out.rowAt hp
      rw [e] at e'; cases e'; exact h'
    exact ⟨b, off, e, hb', fun i j hi hj => (hB0.cell (p := ⟨b, off + i * 6 + j, none⟩) hb).trans (hc i j hi hj)⟩
  case assign =>
    rintro l2 pre x Wi K ⟨hj, hy, hB⟩ hK
    obtain ⟨a3, c3, a4, c4, e0, e1, e2, e3, e4, e5⟩ := hev x
    unfold entArg
    rw [e0, e1, e2, e3, e4, e5] at hK ⊢
    gi_wp2
    exact hK _ _ ((KeepsOthers.alloc _ _).from _) ⟨(Below.refl _ Wi).alloc (Nat.le_trans hW.size hB.size) _, fun hc => (World.cell?_alloc_lt Wi _ _ (World.block_lt_of_cell? _ _ hc)).trans hc⟩ ⟨hJ.alloc _ hj, hy.below ((Below.refl _ Wi).alloc (Nat.le_refl _) _) hy.lt, hB.alloc (Nat.le_trans hW.size hB.size) _⟩ ⟨Wi.heap.size, Blk.new Wi _ _, rfl⟩
  case body =>
    rintro l2 pre x a' Wi hl2 ⟨r, hr⟩ ⟨hj, hy, hB⟩ ⟨Bx, hbx, rfl⟩ hlt
    obtain ⟨a3, c3, a4, c4, e0, e1, e2, e3, e4, e5⟩ := hev x
    have cy : Wi.cell? ⟨W.heap.size, 0, none⟩ = some (.func (.yield l) #[] #[]) := hy.cell 0
    rw [e0, e1, e2, e3, e4, e5] at hbx ⊢
    have c0 : Wi.cell? ⟨Bx, 0, none⟩ = some (.int .i64 (entP k x).1) := hbx.cell 0
    have c1 : Wi.cell? ⟨Bx, 1, none⟩ = some (.int .i64 (entP k x).2) := hbx.cell 1
    obtain ⟨fn, tmps, assign, body, hyl, hR⟩ := hY _ (entP k x) Wi hj (by rw [List.length_map]; omega)
    unfold pairArg at hyl
    gi_wp2
    refine ⟨fun h => by simp [Fence.wide] at h, ?_⟩
    refine RoundIn.mono (round_any rfl hR) ?_
    rintro e W' ⟨hs, (⟨rfl, hJ3, hk3⟩ | ⟨rfl, hJx3⟩)⟩
    · gi_wp2
      exact ⟨(same_up hs (by omega)).keeps, ⟨hk3, fun hc => (hs.cell (p := ⟨W.heap.size + 1, 0, none⟩) (by show W.heap.size ≤ W.heap.size + 1; omega) (World.block_lt_of_cell? _ _ hc)).trans hc⟩, by rw [List.map_append]; exact hJ3, hy.same hs (Nat.le_refl _), hB.trans hk3⟩
    · gi_wp2
      exact ⟨(same_up hs (by omega)).keeps, rfl, by rw [List.map_append]; exact hJx3⟩
  case done =>
    rintro D ys Wi hD rfl ⟨hj, hy, hB⟩ hK
    have cy : Wi.cell? ⟨W.heap.size, 0, none⟩ = some (.func (.yield l) #[] #[]) := hy.cell 0
    have d1 : Wi.cell? ⟨Bk, 2, none⟩ = some (.int .i64 k.snap.index) := (hB.cell (p := ⟨Bk, 2, none⟩) zw).trans cs1
    have d2 : Wi.cell? ⟨Bk, 3, none⟩ = some (.int .i64 k.snap.term) := (hB.cell (p := ⟨Bk, 3, none⟩) zw).trans cs2
    obtain ⟨fn, tmps, assign, body, hyl, hR⟩ := hY _ (snapP k) Wi hj (by rw [List.length_map, dn_len]; omega)
    unfold pairArg snapP at hyl
    gi_wp2
    refine ⟨fun h => by simp [Fence.wide] at h, ?_⟩
    refine RoundIn.mono (round_any rfl hR) ?_
    rintro e W' ⟨hs, (⟨rfl, hJ3, hk3⟩ | ⟨rfl, hJx3⟩)⟩
    · have hK' := (hs.block D (by show W.heap.size ≤ D; omega) (Array.getElem?_eq_some_iff.1 hK).1).trans hK
      gi_wp2
      refine ⟨by simp, .inl ⟨_, _, rfl, run_takeDeferred hK', ?_⟩⟩
      exact ⟨_, results_none rfl _ _ _, ⟨_, rfl⟩, .inl ⟨_, rfl, hJ.putObj _ hJ3 (by omega) hK' rfl⟩⟩
    · have hK' := (hs.block D (by show W.heap.size ≤ D; omega) (Array.getElem?_eq_some_iff.1 hK).1).trans hK
      gi_wp2
      refine ⟨by simp, .inl ⟨_, _, rfl, run_takeDeferred hK', ?_⟩⟩
      exact ⟨_, results_none rfl _ _ _, ⟨_, rfl⟩, .inr ⟨bwL k, ⟨_, Nat.le_refl _, by rw [List.take_of_length_le (Nat.le_refl _)]⟩, hJx.putObj _ hJx3 (by omega) hK' rfl⟩⟩
  case stop =>
    rintro D c pre Wi hD ⟨j, hj, rfl⟩ ⟨rfl, hjx⟩ hK
    gi_wp2
    refine ⟨by simp, .inl ⟨_, _, rfl, run_takeDeferred hK, ?_⟩⟩
    refine ⟨_, results_none rfl _ _ _, ⟨_, rfl⟩, .inr ⟨_, ⟨j, ?_, ?_⟩, hJx.putObj _ hjx (by omega) hK rfl⟩⟩
    · unfold bwL; rw [List.length_append, List.length_map, dn_len]; omega
    · unfold bwL; rw [List.take_append_of_le_length (by rw [List.length_map, dn_len]; exact hj), ← List.map_take]
      congr 1
      unfold dn; rw [← List.map_take, List.take_range, Nat.min_eq_left hj]
end Go.Proofs.Yteiojclemodhaaa
