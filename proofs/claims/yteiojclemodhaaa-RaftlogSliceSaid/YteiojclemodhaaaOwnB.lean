/- The reference's copy of what is kept. Condition: a log that is not large. -/
import Derived.Test.YteiojclemodhaaaOwnA
import Derived.Test.YteiojclemodhaaaLogD
import Derived.Test.YteiojclemodhaaaHeld
import Derived.Deep.RegionLaw
namespace Go.Proofs.Yteiojclemodhaaa
open Go.RowKit
set_option linter.unusedVariables false
set_option linter.unusedSimpArgs false
def SmallE (e : Entry) : Prop := e.config.voters.length ≤ 1000000 ∧ e.config.learners.length ≤ 1000000
def SmallK (k : Kept) : Prop := k.entries.length ≤ 1000000 ∧ k.snap.config.voters.length ≤ 1000000 ∧ k.snap.config.learners.length ≤ 1000000 ∧ ∀ i, SmallE (k.en i)
theorem infoE0 : (Try.prog.info? 54).map (fun i => (i.zero, i.size, i.bytes)) = some (some (.agg #[.int .i64 0, .int .i64 0, .int .i64 0, .slice none 0 0, .slice none 0 0, .string ⟨#[]⟩]), 6, 88) := by kernel_rfl
theorem infoE : Info Try.prog 54 6 88 := by
  obtain ⟨i0, h1, h2, h3, h4⟩ := info_parts infoE0
  exact ⟨i0, _, h1, h2, h3, h4, rfl⟩
/-- what the copy under way holds behind j entries -/
def OInv (w : World) (k : Kept) (vs : List Value) (g : Nat) (y2 : Option Addr) (z2 : Nat) (y3 : Option Addr) (z3 : Nat) (v : Value) (j : Nat) (W : World) : Prop :=
  Blk W w.heap.size 30 vs.toArray ∧ Blk W (w.heap.size + 1) 30 #[.int .i64 0, .int .i64 0, .int .i64 0, .int .i64 0, .slice none 0 0, .slice none 0 0, .string ⟨#[]⟩, .slice none 0 0] ∧
  Blk W g 30 #[.int .i64 k.term, .int .i64 k.vote, .int .i64 k.snap.index, .int .i64 k.snap.term, .slice y2 k.snap.config.voters.length z2, .slice y3 k.snap.config.learners.length z3, .string k.snap.data, v] ∧ w.heap.size + 2 ≤ g ∧
  SlI W (fun b => w.heap.size + 2 ≤ b ∧ b ≠ g ∧ v.ownBlock ≠ some b) y2 k.snap.config.voters.length z2 k.snap.config.voters ∧ SlI W (fun b => w.heap.size + 2 ≤ b ∧ b ≠ g ∧ v.ownBlock ≠ some b) y3 k.snap.config.learners.length z3 k.snap.config.learners ∧
  OwnR (w.heap.size + 2) W 54 (fun b => w.heap.size + 2 ≤ b ∧ b ≠ g) Entry.ty v ((k.entries.take j).map Entry.enc) ∧ v.ownBlock ≠ some g ∧ Below w.heap.size w W
theorem OInv.lts {w W : World} {k : Kept} {vs : List Value} {g : Nat} {y2 y3 : Option Addr} {z2 z3 : Nat} {v : Value} {j : Nat} (h : OInv w k vs g y2 z2 y3 z3 v j W) : w.heap.size + 2 ≤ W.heap.size ∧ g < W.heap.size := by
  have h1 := h.2.2.1.lt
  have h2 := h.2.2.2.1
  exact ⟨by omega, h1⟩
theorem OInv.next {w W W1 w2 : World} {k : Kept} {vs : List Value} {g : Nat} {y2 y3 : Option Addr} {z2 z3 : Nat} {v v' : Value} {j : Nat} (h : OInv w k vs g y2 z2 y3 z3 v j W) (hj : j < k.entries.length) (hb : Below W.heap.size W W1)
    (ho : OwnR (w.heap.size + 2) w2 54 (fun b => w.heap.size + 2 ≤ b ∧ b ≠ g) Entry.ty v' ((k.entries.take j).map Entry.enc ++ [(k.entries.getD j default).enc])) (hg : W1.grownBy w2 v.ownBlock) (hat : v'.ownBlock = v.ownBlock ∨ ∃ b, v'.ownBlock = some b ∧ W1.heap.size ≤ b) :
    OInv w k vs g y2 z2 y3 z3 v' (j + 1) (w2.setCell ⟨g, 7, none⟩ v') := by
  obtain ⟨l1, l2⟩ := h.lts
  obtain ⟨h1, h2, h3, h4, h5, h6, h7, h8, h9⟩ := h
  have hlt := h7.lt
  have z := hb.size
  have row : ∀ b, b < W.heap.size → v.ownBlock ≠ some b → v'.ownBlock ≠ some b := by
    intro b hb1 hb2
    rcases hat with e | ⟨b', e, e2⟩
    · rw [e]; exact hb2
    · rw [e]; intro e3; cases e3; omega
  have out : ∀ b, b < w.heap.size + 2 → some b ≠ v.ownBlock := by
    intro b hb1 e
    have := (hlt b e.symm).1; omega
  have gg : some g ≠ v.ownBlock := fun e => h8 e.symm
  have step : ∀ {xs : List Int} {y : Option Addr} {n z : Nat}, SlI W (fun b => w.heap.size + 2 ≤ b ∧ b ≠ g ∧ v.ownBlock ≠ some b) y n z xs → SlI (w2.setCell ⟨g, 7, none⟩ v') (fun b => w.heap.size + 2 ≤ b ∧ b ≠ g ∧ v'.ownBlock ≠ some b) y n z xs := by
    intro xs y n z hs
    have a1 : SlI W (fun b => (w.heap.size + 2 ≤ b ∧ b ≠ g ∧ v'.ownBlock ≠ some b) ∧ v.ownBlock ≠ some b) y n z xs := Rd.mono hs fun b hb hs => ⟨⟨hs.1, hs.2.1, row b hb hs.2.2⟩, hs.2.2⟩
    have a2 := ((Rd.next a1 hb).same (w' := w2) (Same.of_grown hg fun b hb e => hb.2 e.symm)).set (p := ⟨g, 7, none⟩) (fun e => e.1.2.1 rfl) v'
    exact Rd.mono a2 fun b _ hb => hb.1
  have gv : v'.ownBlock ≠ some g := row g l2 h8
  refine ⟨((h1.next hb).grown hg (out _ (by omega))).far (by show w.heap.size ≠ g; omega) _, ((h2.next hb).grown hg (out _ (by omega))).far (by show w.heap.size + 1 ≠ g; omega) _, ((h3.next hb).grown hg gg).set 7 _, h4, step h5, step h6, ?_, gv, ?_⟩
  · have e : (k.entries.take (j + 1)).map Entry.enc = (k.entries.take j).map Entry.enc ++ [(k.entries.getD j default).enc] := by
      rw [List.take_succ_eq_append_getElem hj, List.map_append]
      simp [List.getD, hj]
    rw [e]
    refine ho.same (Same.setCell (S := fun b => b ≠ g) (fun h => h rfl) _) (fun b hb => hb.2) (fun b hb e => by subst e; exact gv hb)
  · exact ((h9.trans (hb.mono (by omega))).grown hg (by omega) (fun b e => by have := (hlt b e).1; omega)).setCell (by show w.heap.size ≤ g; omega) _
/-- the end -/
theorem OInv.done {w W : World} {k : Kept} {vs : List Value} {g : Nat} {y2 y3 : Option Addr} {z2 z3 : Nat} {v : Value} (h : OInv w k vs g y2 z2 y3 z3 v k.entries.length W) (hn : k.entries.length ≤ 1000000) :
    ∃ x c, v = .slice x k.entries.length c ∧ Sl W (fun b => w.heap.size + 2 ≤ b ∧ b ≠ g) Entry.ty x k.entries.length c (k.entries.map Entry.enc) := by
  obtain ⟨h1, h2, h3, h4, h5, h6, h7, h8, h9⟩ := h
  rw [List.take_length] at h7
  have hl : (k.entries.map Entry.enc).length = k.entries.length := List.length_map ..
  obtain ⟨x, c, e, hs⟩ := h7.slO (fun b => w.heap.size + 2 ≤ b ∧ b ≠ g) (fun b h => h) (fun b hb e => ⟨hb, fun e2 => by subst e2; exact h8 e⟩) (by omega)
  rw [hl] at e hs
  exact ⟨x, c, e, hs⟩
theorem OInv.ends {w W : World} {k : Kept} {vs : List Value} {g : Nat} {y2 y3 : Option Addr} {z2 z3 : Nat} {v : Value} {j : Nat} (h : OInv w k vs g y2 z2 y3 z3 v j W) (hj : j = k.entries.length) (hn : k.entries.length ≤ 1000000) :
    ∃ x c, v = .slice x k.entries.length c ∧ Sl W (fun b => w.heap.size + 2 ≤ b ∧ b ≠ g) Entry.ty x k.entries.length c (k.entries.map Entry.enc) := by
  subst hj; exact h.done hn
set_option maxHeartbeats 4000000 in
theorem own_any (vs : List Value) (k : Kept) (w : World) (S : Nat → Prop) (h : RdL w S Kept.ty vs k.enc) (hk : SmallK k) :
    Calls Try.prog 21 #[.agg vs.toArray] w (APost w Kept.ty k.enc) := by
  obtain ⟨a4, c4, a5, c5, a7, c7, rfl, b0, b1, b2, b3, s4, s5, b6, s7⟩ := Kept.opens h
  have hsn : ∀ W, Below w.heap.size w W → Calls Try.prog 38 #[.agg #[.int .i64 k.snap.index, .int .i64 k.snap.term, .slice a4 k.snap.config.voters.length c4, .slice a5 k.snap.config.learners.length c5, .string k.snap.data]] W (APost W Snap.ty k.snap.enc) :=
    fun W hW => snap_any _ k.snap W S (Snap.shuts k.snap b2 b3 (s4.same (Same.below hW)) (s5.same (Same.below hW)) b6) hk.2.1 hk.2.2.1
  have HS := Lib.hid hsn
  have H7 := Lib.hid s7
  have HK := Lib.hid hk
  have n7 := hk.1
  clear h s4 s5 s7 hsn hk
  go_enter Try.func21, Try.ntmps21
  go_wp2_with fail
  have hs0 : Blk ((w.alloc (.cells #[.int .i64 k.term, .int .i64 k.vote, .int .i64 k.snap.index, .int .i64 k.snap.term, .slice a4 (k.snap.config.voters).length c4, .slice a5 (k.snap.config.learners).length c5, .string k.snap.data, .slice a7 (k.entries).length c7] 30)).alloc (.cells #[.int .i64 0, .int .i64 0, .int .i64 0, .int .i64 0, .slice none 0 0, .slice none 0 0, .string ⟨#[]⟩, .slice none 0 0] 30)) w.heap.size 30 #[.int .i64 k.term, .int .i64 k.vote, .int .i64 k.snap.index, .int .i64 k.snap.term, .slice a4 (k.snap.config.voters).length c4, .slice a5 (k.snap.config.learners).length c5, .string k.snap.data, .slice a7 (k.entries).length c7] := (Blk.new w _ _).alloc _
  have hs1 := held80 hs0 (((Below.refl _ w).alloc (Nat.le_refl _) _).alloc (by simp) _)
  have HS1 := Lib.hid hs1
  clear hs0 hs1
  go_region_held3 (fun W => W.cell? ⟨w.heap.size, 0, none⟩ = some (.int .i64 k.term) ∧ W.cell? ⟨w.heap.size, 1, none⟩ = some (.int .i64 k.vote) ∧ W.cell? ⟨w.heap.size, 2, none⟩ = some (.int .i64 k.snap.index) ∧ W.cell? ⟨w.heap.size, 3, none⟩ = some (.int .i64 k.snap.term) ∧ W.cell? ⟨w.heap.size, 4, none⟩ = some (.slice a4 k.snap.config.voters.length c4) ∧ W.cell? ⟨w.heap.size, 5, none⟩ = some (.slice a5 k.snap.config.learners.length c5) ∧ W.cell? ⟨w.heap.size, 6, none⟩ = some (.string k.snap.data) ∧ W.cell? ⟨w.heap.size, 7, none⟩ = some (.slice a7 k.entries.length c7) ∧ Below w.heap.size w W) (first | (with_reducible exact held8D HS1.out) | (with_reducible exact held8D (held8A _ HS1.out)) | (with_reducible exact held8D (by with_reducible assumption)) | ((with_reducible refine held80 (T := 30) ?_ ?_); with_reducible assumption; with_reducible assumption) | (with_reducible exact held8S (by with_reducible assumption) (by with_reducible assumption)) | (with_reducible exact held8A _ (by with_reducible assumption)) | ((with_reducible refine held8A _ (held80 (T := 30) ?_ ?_)); with_reducible assumption; with_reducible assumption) | ((with_reducible refine held8X ?_ ?_ (held8X ?_ ?_ (held8X ?_ ?_ (held8X ?_ ?_ (held8X ?_ ?_ (held8X ?_ ?_ (held8X ?_ ?_ (held8X ?_ ?_ ?_)))))))); (all_goals first | (with_reducible assumption) | (simp; done) | (simp; omega))) | (trace "keep"; trace_state; fail)) (first | (go_at_call 38; refine Calls.mono (HS.out _ ?_) ?_; exact held8B (by assumption); rintro e w1 ⟨vs1, rfl, hr1, P1⟩; obtain ⟨y2, z2, y3, z3, rfl, _, _, u2, u3, _⟩ := Snap.opens hr1; clear hr1; first | (have kz := ((Blk.newAt _ (w.heap.size + 1 + 1) 30 #[.int .i64 0, .int .i64 0, .int .i64 0, .int .i64 0, .slice none 0 0, .slice none 0 0, .string ⟨#[]⟩, .slice none 0 0] (by simp)).drew).next P1; have kr := (((Blk.newAt _ (w.heap.size + 1) 30 #[.int .i64 0, .int .i64 0, .int .i64 0, .int .i64 0, .slice none 0 0, .slice none 0 0, .string ⟨#[]⟩, .slice none 0 0] (by simp)).alloc _).drew).next P1; have kb := ((((Blk.newAt _ w.heap.size 30 #[.int .i64 k.term, .int .i64 k.vote, .int .i64 k.snap.index, .int .i64 k.snap.term, .slice a4 (k.snap.config.voters).length c4, .slice a5 (k.snap.config.learners).length c5, .string k.snap.data, .slice a7 (k.entries).length c7] rfl).alloc _).alloc _).drew).next P1; have BT := tr_below P1 ((((Below.refl w.heap.size w).alloc (Nat.le_refl _) _).alloc (by simp) _).alloc (by simp <;> omega) _).drew; obtain ⟨z0, z1, z2', z3', z4, z5, z6, z7⟩ := box8 kz; obtain ⟨t0, t1, t2, t3, t4, t5, t6, t7⟩ := thaw8 kz) | (have kr := ((Blk.newAt _ (w.heap.size + 1) 30 #[.int .i64 0, .int .i64 0, .int .i64 0, .int .i64 0, .slice none 0 0, .slice none 0 0, .string ⟨#[]⟩, .slice none 0 0] (by simp)).drew).next P1; have kb := (((Blk.newAt _ w.heap.size 30 #[.int .i64 k.term, .int .i64 k.vote, .int .i64 k.snap.index, .int .i64 k.snap.term, .slice a4 (k.snap.config.voters).length c4, .slice a5 (k.snap.config.learners).length c5, .string k.snap.data, .slice a7 (k.entries).length c7] rfl).alloc _).drew).next P1; have BT := tr_below P1 (((Below.refl w.heap.size w).alloc (Nat.le_refl _) _).alloc (by simp) _).drew)))
  · have hz : w.heap.size + 2 ≤ w1.heap.size := by have := P1.size; simp at this; omega
    have hinv : OInv w k [.int .i64 k.term, .int .i64 k.vote, .int .i64 k.snap.index, .int .i64 k.snap.term, .slice a4 (k.snap.config.voters).length c4, .slice a5 (k.snap.config.learners).length c5, .string k.snap.data, .slice a7 (k.entries).length c7] w1.heap.size y2 z2 y3 z3 (.slice none 0 0) 0 (w1.alloc (.cells #[.int .i64 k.term, .int .i64 k.vote, .int .i64 k.snap.index, .int .i64 k.snap.term, .slice y2 k.snap.config.voters.length z2, .slice y3 k.snap.config.learners.length z3, .string k.snap.data, .slice none 0 0] 30)) := by
      have up : ∀ b, b < w1.heap.size → (((w.alloc (.cells #[.int .i64 k.term, .int .i64 k.vote, .int .i64 k.snap.index, .int .i64 k.snap.term, .slice a4 (k.snap.config.voters).length c4, .slice a5 (k.snap.config.learners).length c5, .string k.snap.data, .slice a7 (k.entries).length c7] 30)).alloc (.cells #[.int .i64 0, .int .i64 0, .int .i64 0, .int .i64 0, .slice none 0 0, .slice none 0 0, .string ⟨#[]⟩, .slice none 0 0] 30)).drew).heap.size ≤ b → w.heap.size + 2 ≤ b ∧ b ≠ w1.heap.size ∧ (Value.slice none 0 0).ownBlock ≠ some b := fun b h1 h2 => by
        simp at h2
        exact ⟨by omega, by omega, by simp [Value.ownBlock]⟩
      exact ⟨kb.alloc _, kr.alloc _, Blk.new _ _ _, hz, (Rd.mono u2 up).next ((Below.refl _ _).alloc (Nat.le_refl _) _), (Rd.mono u3 up).next ((Below.refl _ _).alloc (Nat.le_refl _) _), OwnR.nil _ _ _ _ _, by simp [Value.ownBlock], BT.alloc BT.size _⟩
    have HINV := Lib.hid hinv
    clear hinv kb kr BT P1 u2 u3 hz
    generalize w1.alloc (.cells #[.int .i64 k.term, .int .i64 k.vote, .int .i64 k.snap.index, .int .i64 k.snap.term, .slice y2 k.snap.config.voters.length z2, .slice y3 k.snap.config.learners.length z3, .string k.snap.data, .slice none 0 0] 30) = W at *
    generalize w1.heap.size = g at *
    go_wp2_with fail
    go_loopw [4] (fun i wr => ∃ (j : Nat) (v : Value), j ≤ k.entries.length ∧ i = .int .i64 j ∧ OInv w k [.int .i64 k.term, .int .i64 k.vote, .int .i64 k.snap.index, .int .i64 k.snap.term, .slice a4 (k.snap.config.voters).length c4, .slice a5 (k.snap.config.learners).length c5, .string k.snap.data, .slice a7 (k.entries).length c7] g y2 z2 y3 z3 v j wr) (fun i _ => k.entries.length - (intOf i).toNat)
    case atStart => exact ⟨0, _, Nat.zero_le _, rfl, HINV.out⟩
    case round =>
      obtain ⟨j, v, hj, rfl, hin⟩ := hrel
      have HIN := Lib.hid hin
      obtain ⟨l1, l2⟩ := hin.lts
      have qb : wr.cell? ⟨w.heap.size, 7, none⟩ = some (.slice a7 k.entries.length c7) := hin.1.cell 7
      have zb : w.heap.size < wr.heap.size := by omega
      have k3 := hin.2.2.1
      have hown := hin.2.2.2.2.2.2.1
      have hvg := hin.2.2.2.2.2.2.2.1
      have hbw := hin.2.2.2.2.2.2.2.2
      have hg2 := hin.2.2.2.1
      clear hin
      by_cases hlt : j < k.entries.length
      · obtain ⟨b, off, rfl⟩ := H7.out.addr (by omega)
        obtain ⟨hS, hb, a3e, c3e, a4e, c4e, e0, e1, e2, e3, e4, e5, f0, f1, f2, f3, f4, f5⟩ := Entry.row H7.out hlt
        have hsmall : SmallE (k.entries.getD j default) := HK.out.2.2.2 j
        generalize hE : k.entries.getD j default = e at *
        have HE := Lib.hid hE
        have hmk : ∀ W, Below (w.heap.size + 1) wr W → W.cell? ⟨w.heap.size, 7, none⟩ = some (.slice (some ⟨b, off, none⟩) k.entries.length c7) ∧ W.cell? ⟨b, off + j * 6, none⟩ = some (.int .i64 e.index) ∧ W.cell? ⟨b, off + j * 6 + 1, none⟩ = some (.int .i64 e.term) ∧ W.cell? ⟨b, off + j * 6 + 2, none⟩ = some (.int .i64 e.kind) ∧ W.cell? ⟨b, off + j * 6 + 3, none⟩ = some (.slice a3e e.config.voters.length c3e) ∧ W.cell? ⟨b, off + j * 6 + 4, none⟩ = some (.slice a4e e.config.learners.length c4e) ∧ W.cell? ⟨b, off + j * 6 + 5, none⟩ = some (.string e.data) ∧ Below (w.heap.size + 1) wr W := by
          intro W h
          have up : ∀ (o : Nat) (u : Value), w.cell? ⟨b, o, none⟩ = some u → W.cell? ⟨b, o, none⟩ = some u := fun o u hu =>
            (h.cell (p := ⟨b, o, none⟩) (by show b < _; omega)).trans ((hbw.cell (p := ⟨b, o, none⟩) hb).trans hu)
          exact ⟨(h.cell (p := ⟨w.heap.size, 7, none⟩) (by show w.heap.size < _; omega)).trans qb, up _ _ e0, up _ _ e1, up _ _ e2, up _ _ e3, up _ _ e4, up _ _ e5, h⟩
        have hrd : ∀ W, Below (w.heap.size + 1) wr W → RdL W S Entry.ty [.int .i64 e.index, .int .i64 e.term, .int .i64 e.kind, .slice a3e (e.config.voters).length c3e, .slice a4e (e.config.learners).length c4e, .string e.data] e.enc := by
          intro W h
          have up : Below w.heap.size w W := hbw.trans (h.mono (by omega))
          exact Entry.shuts e f0 f1 f2 (f3.same (Same.below up)) (f4.same (Same.below up)) f5
        have HMK := Lib.hid hmk
        have HRD := Lib.hid hrd
        have HZ := Lib.hid (show w.heap.size + 1 ≤ wr.heap.size by omega)
        have HG := Lib.hid (show w.heap.size + 1 ≤ g by omega)
        have HOWN := Lib.hid hown
        have K3 := Lib.hid k3
        have q7 : wr.cell? ⟨g, 7, none⟩ = some v := k3.cell 7
        obtain ⟨sm1, sm2⟩ := hsmall
        have j0 : (0 : Int) ≤ (j : Int) := by omega
        have j1 : (j : Int) < (k.entries.length : Int) := by omega
        have hlen : (k.entries.take j).length = j := by rw [List.length_take]; omega
        have HLEN := Lib.hid hlen
        have HVG := Lib.hid hvg
        have hvl := hown.lt
        have HA1 := Lib.hid (show ∀ b, wr.drew.heap.size ≤ b → (w.heap.size + 2 ≤ b ∧ b ≠ g) ∧ v.ownBlock ≠ some b from fun b h => by
          have h' : wr.heap.size ≤ b := h
          exact ⟨⟨by omega, by omega⟩, fun e => by have := (hvl b e).2; omega⟩)
        have HA2 := Lib.hid (show (((k.entries.take j).map Entry.enc).length + 1) * 1024 ≤ 140737488355328 by rw [List.length_map, hlen]; omega)
        have HLN := Lib.hid (show ((k.entries.take j).map Entry.enc ++ [e.enc]).length = j + 1 by rw [List.length_append, List.length_map, hlen]; rfl)
        have HW2 := Lib.hid (show w.heap.size + 2 ≤ wr.drew.heap.size from l1)
        clear hvl
        clear hE hmk hrd hown k3 e0 e1 e2 e3 e4 e5 f3 f4 hbw hS hvg hlen
        go_wp2_with fail
        obtain ⟨_, qe0, qe1, qe2, qe3, qe4, qe5, _⟩ := HMK.out _ (Below.refl _ _)
        go_region_law (first | (refine step_app rfl (.tmp 21) (.tmp 28) 28 rfl (base := w.heap.size + 2) (E := 54) (S := fun b => w.heap.size + 2 ≤ b ∧ b ≠ g) (fs := Entry.ty) (k := 6) (bytes := 88) rfl (by decide) (by decide) (by decide) Try.underlying28 infoE v ((k.entries.take j).map Entry.enc) rfl HO1.out _ e.enc (RdL.mono (fun b _ h => HA1.out b h) hd1.out) 54 _ rfl rfl HA2.out HB1.out ?_; intro v' w2 ho2 hg2 hat2; have K32 := K31.out.grown hg2 (fun h => HVG.out h.symm); have q72 : w2.cell? ⟨g, 7, none⟩ = some v := K32.cell 7; have f72 := K32.frozen 7; have HN := Lib.hid (HIN.out.next hlt (show Below wr.heap.size wr w1 from BP.out) (by rw [HE.out]; exact ho2) hg2 hat2); obtain ⟨xa, xc, ev⟩ := ho2.form; rw [HLN.out] at ev; subst ev; clear K32 ho2 hg2 hat2) | (go_simp; go_at_call 39; refine Calls.mono (entry_any _ e _ S (HRD.out _ (Below.refl _ _).drew) sm1 sm2) ?_; rintro e1 w1 ⟨vs1, rfl, hr1, P1⟩; have hd1 := Lib.hid hr1; obtain ⟨x3, y3', x4, y4', rfl, _, _, _, u3, u4, _⟩ := Entry.opens hr1; have BW1 := below_call HZ.out (Below.refl _ _).drew P1; have K31 := Lib.hid (K3.out.drew.next P1); have q71 : w1.cell? ⟨g, 7, none⟩ = some v := K31.out.cell 7; have HO1 := Lib.hid (HOWN.out.drew.below P1); have z1 := P1.size; have zg : g < w1.heap.size := Nat.lt_of_lt_of_le l2 z1; have HB1 := Lib.hid (Nat.le_trans HW2.out z1); have BP := Lib.hid (show Below wr.heap.size wr w1 from (Below.refl _ _).drew.trans P1); clear hr1 u3 u4))
        all_goals
          go_wp2_with fail
          go_roundw
          case rel => exact ⟨j + 1, _, by omega, by go_num, HN.out⟩
          case measure => simp [intOf]; omega
      · have hjn : j = k.entries.length := by omega
        have j1 : ¬ (j : Int) < (k.entries.length : Int) := by omega
        obtain ⟨xf, cf, ef, hsf⟩ := HIN.out.ends hjn HK.out.1
        subst ef
        obtain ⟨i1, i2, i3, i4, i5, i6, i7, i8, i9⟩ := HIN.out
        clear hjn
        have HSF := Lib.hid hsf
        have HI5 := Lib.hid i5
        have HI6 := Lib.hid i6
        obtain ⟨o0, o1, o2, o3, o4, o5, o6, o7⟩ := box8 i3
        obtain ⟨p0, p1, p2, p3, p4, p5, p6, p7⟩ := box8 i2
        obtain ⟨t0, t1, t2, t3, t4, t5, t6, t7⟩ := thaw8 i2
        have KR := Lib.hid i2
        have HI9 := Lib.hid i9
        have HI4 := Lib.hid i4
        clear hsf i1 i2 i3 i5 i6 i7 i8 i9
        go_wp2_with fail
        have kf := ((((((((KR.out.set 0 (.int .i64 k.term)).set 1 (.int .i64 k.vote)).set 2 (.int .i64 k.snap.index)).set 3 (.int .i64 k.snap.term)).set 4 (.slice y2 k.snap.config.voters.length z2)).set 5 (.slice y3 k.snap.config.learners.length z3)).set 6 (.string k.snap.data)).set 7 (.slice xf k.entries.length cf))
        have g0 := kf.cell 0
        have g1 := kf.cell 1
        have g2 := kf.cell 2
        have g3 := kf.cell 3
        have g4 := kf.cell 4
        have g5 := kf.cell 5
        have g6 := kf.cell 6
        have g7 := kf.cell 7
        refine bodyPost_ret (v := .agg #[.int .i64 k.term, .int .i64 k.vote, .int .i64 k.snap.index, .int .i64 k.snap.term, .slice y2 k.snap.config.voters.length z2, .slice y3 k.snap.config.learners.length z3, .string k.snap.data, .slice xf k.entries.length cf]) (by simp [results, Try.results21, go_sem, g0, g1, g2, g3, g4, g5, g6, g7]) rfl ⟨[_, _, _, _, _, _, _, _], rfl, ?_, ?_⟩
        · refine RdL.mono (S := fun b => w.heap.size + 2 ≤ b) (fun b _ hb => by show w.heap.size ≤ b; omega) ?_
          have n0 : ¬ (fun b => w.heap.size + 2 ≤ b) (w.heap.size + 1) := by simp
          exact Kept.shuts k b0 b1 b2 b3 (((((((((Rd.mono (T := fun b => w.heap.size + 2 ≤ b) HI5.out (fun b _ h => h.1)).set n0 _).set n0 _).set n0 _).set n0 _).set n0 _).set n0 _).set n0 _).set n0 _) (((((((((Rd.mono (T := fun b => w.heap.size + 2 ≤ b) HI6.out (fun b _ h => h.1)).set n0 _).set n0 _).set n0 _).set n0 _).set n0 _).set n0 _).set n0 _).set n0 _) b6 (((((((((Rd.mono (T := fun b => w.heap.size + 2 ≤ b) HSF.out (fun b _ h => h.1)).set n0 _).set n0 _).set n0 _).set n0 _).set n0 _).set n0 _).set n0 _).set n0 _)
        · exact ((((((((HI9.out.setCell (by simp) _).setCell (by simp) _).setCell (by simp) _).setCell (by simp) _).setCell (by simp) _).setCell (by simp) _).setCell (by simp) _).setCell (by simp) _)

  · have hinv : OInv w k [.int .i64 k.term, .int .i64 k.vote, .int .i64 k.snap.index, .int .i64 k.snap.term, .slice a4 (k.snap.config.voters).length c4, .slice a5 (k.snap.config.learners).length c5, .string k.snap.data, .slice a7 (k.entries).length c7] (w.heap.size + 1 + 1) y2 z2 y3 z3 (.slice none 0 0) 0 ((((((((w1.setCell ⟨w.heap.size + 1 + 1, 0, none⟩ (.int .i64 k.term)).setCell ⟨w.heap.size + 1 + 1, 1, none⟩ (.int .i64 k.vote)).setCell ⟨w.heap.size + 1 + 1, 2, none⟩ (.int .i64 k.snap.index)).setCell ⟨w.heap.size + 1 + 1, 3, none⟩ (.int .i64 k.snap.term)).setCell ⟨w.heap.size + 1 + 1, 4, none⟩ (.slice y2 k.snap.config.voters.length z2)).setCell ⟨w.heap.size + 1 + 1, 5, none⟩ (.slice y3 k.snap.config.learners.length z3)).setCell ⟨w.heap.size + 1 + 1, 6, none⟩ (.string k.snap.data)).setCell ⟨w.heap.size + 1 + 1, 7, none⟩ (.slice none 0 0)) := by
      have up : ∀ b, b < w1.heap.size → ((((w.alloc (.cells #[.int .i64 k.term, .int .i64 k.vote, .int .i64 k.snap.index, .int .i64 k.snap.term, .slice a4 (k.snap.config.voters).length c4, .slice a5 (k.snap.config.learners).length c5, .string k.snap.data, .slice a7 (k.entries).length c7] 30)).alloc (.cells #[.int .i64 0, .int .i64 0, .int .i64 0, .int .i64 0, .slice none 0 0, .slice none 0 0, .string ⟨#[]⟩, .slice none 0 0] 30)).alloc (.cells #[.int .i64 0, .int .i64 0, .int .i64 0, .int .i64 0, .slice none 0 0, .slice none 0 0, .string ⟨#[]⟩, .slice none 0 0] 30)).drew).heap.size ≤ b → w.heap.size + 2 ≤ b ∧ b ≠ w.heap.size + 1 + 1 ∧ (Value.slice none 0 0).ownBlock ≠ some b := fun b h1 h2 => by
        simp at h2
        exact ⟨by omega, by omega, by simp [Value.ownBlock]⟩
      refine ⟨?_, ?_, (((((((kz.set 0 _).set 1 _).set 2 _).set 3 _).set 4 _).set 5 _).set 6 _).set 7 _, by omega, ?_, ?_, OwnR.nil _ _ _ _ _, by simp [Value.ownBlock], ?_⟩
      · exact (((((((kb.far (by simp <;> omega) _).far (by simp <;> omega) _).far (by simp <;> omega) _).far (by simp <;> omega) _).far (by simp <;> omega) _).far (by simp <;> omega) _).far (by simp <;> omega) _).far (by simp <;> omega) _
      · exact (((((((kr.far (by simp <;> omega) _).far (by simp <;> omega) _).far (by simp <;> omega) _).far (by simp <;> omega) _).far (by simp <;> omega) _).far (by simp <;> omega) _).far (by simp <;> omega) _).far (by simp <;> omega) _
      · exact ((((((((Rd.mono u2 up).set (fun h => h.2.1 rfl) _).set (fun h => h.2.1 rfl) _).set (fun h => h.2.1 rfl) _).set (fun h => h.2.1 rfl) _).set (fun h => h.2.1 rfl) _).set (fun h => h.2.1 rfl) _).set (fun h => h.2.1 rfl) _).set (fun h => h.2.1 rfl) _
      · exact ((((((((Rd.mono u3 up).set (fun h => h.2.1 rfl) _).set (fun h => h.2.1 rfl) _).set (fun h => h.2.1 rfl) _).set (fun h => h.2.1 rfl) _).set (fun h => h.2.1 rfl) _).set (fun h => h.2.1 rfl) _).set (fun h => h.2.1 rfl) _).set (fun h => h.2.1 rfl) _
      · exact (((((((BT.setCell (by simp <;> omega) _).setCell (by simp <;> omega) _).setCell (by simp <;> omega) _).setCell (by simp <;> omega) _).setCell (by simp <;> omega) _).setCell (by simp <;> omega) _).setCell (by simp <;> omega) _).setCell (by simp <;> omega) _
    have HINV := Lib.hid hinv
    clear hinv kb kr kz BT P1 u2 u3 z0 z1 z2' z3' z4 z5 z6 z7 t0 t1 t2 t3 t4 t5 t6 t7
    generalize ((((((((w1.setCell ⟨w.heap.size + 1 + 1, 0, none⟩ (.int .i64 k.term)).setCell ⟨w.heap.size + 1 + 1, 1, none⟩ (.int .i64 k.vote)).setCell ⟨w.heap.size + 1 + 1, 2, none⟩ (.int .i64 k.snap.index)).setCell ⟨w.heap.size + 1 + 1, 3, none⟩ (.int .i64 k.snap.term)).setCell ⟨w.heap.size + 1 + 1, 4, none⟩ (.slice y2 k.snap.config.voters.length z2)).setCell ⟨w.heap.size + 1 + 1, 5, none⟩ (.slice y3 k.snap.config.learners.length z3)).setCell ⟨w.heap.size + 1 + 1, 6, none⟩ (.string k.snap.data)).setCell ⟨w.heap.size + 1 + 1, 7, none⟩ (.slice none 0 0)) = W at *
    generalize w.heap.size + 1 + 1 = g at *
    go_wp2_with fail
    go_loopw [4] (fun i wr => ∃ (j : Nat) (v : Value), j ≤ k.entries.length ∧ i = .int .i64 j ∧ OInv w k [.int .i64 k.term, .int .i64 k.vote, .int .i64 k.snap.index, .int .i64 k.snap.term, .slice a4 (k.snap.config.voters).length c4, .slice a5 (k.snap.config.learners).length c5, .string k.snap.data, .slice a7 (k.entries).length c7] g y2 z2 y3 z3 v j wr) (fun i _ => k.entries.length - (intOf i).toNat)
    case atStart => exact ⟨0, _, Nat.zero_le _, rfl, HINV.out⟩
    case round =>
      obtain ⟨j, v, hj, rfl, hin⟩ := hrel
      have HIN := Lib.hid hin
      obtain ⟨l1, l2⟩ := hin.lts
      have qb : wr.cell? ⟨w.heap.size, 7, none⟩ = some (.slice a7 k.entries.length c7) := hin.1.cell 7
      have zb : w.heap.size < wr.heap.size := by omega
      have k3 := hin.2.2.1
      have hown := hin.2.2.2.2.2.2.1
      have hvg := hin.2.2.2.2.2.2.2.1
      have hbw := hin.2.2.2.2.2.2.2.2
      have hg2 := hin.2.2.2.1
      clear hin
      by_cases hlt : j < k.entries.length
      · obtain ⟨b, off, rfl⟩ := H7.out.addr (by omega)
        obtain ⟨hS, hb, a3e, c3e, a4e, c4e, e0, e1, e2, e3, e4, e5, f0, f1, f2, f3, f4, f5⟩ := Entry.row H7.out hlt
        have hsmall : SmallE (k.entries.getD j default) := HK.out.2.2.2 j
        generalize hE : k.entries.getD j default = e at *
        have HE := Lib.hid hE
        have hmk : ∀ W, Below (w.heap.size + 1) wr W → W.cell? ⟨w.heap.size, 7, none⟩ = some (.slice (some ⟨b, off, none⟩) k.entries.length c7) ∧ W.cell? ⟨b, off + j * 6, none⟩ = some (.int .i64 e.index) ∧ W.cell? ⟨b, off + j * 6 + 1, none⟩ = some (.int .i64 e.term) ∧ W.cell? ⟨b, off + j * 6 + 2, none⟩ = some (.int .i64 e.kind) ∧ W.cell? ⟨b, off + j * 6 + 3, none⟩ = some (.slice a3e e.config.voters.length c3e) ∧ W.cell? ⟨b, off + j * 6 + 4, none⟩ = some (.slice a4e e.config.learners.length c4e) ∧ W.cell? ⟨b, off + j * 6 + 5, none⟩ = some (.string e.data) ∧ Below (w.heap.size + 1) wr W := by
          intro W h
          have up : ∀ (o : Nat) (u : Value), w.cell? ⟨b, o, none⟩ = some u → W.cell? ⟨b, o, none⟩ = some u := fun o u hu =>
            (h.cell (p := ⟨b, o, none⟩) (by show b < _; omega)).trans ((hbw.cell (p := ⟨b, o, none⟩) hb).trans hu)
          exact ⟨(h.cell (p := ⟨w.heap.size, 7, none⟩) (by show w.heap.size < _; omega)).trans qb, up _ _ e0, up _ _ e1, up _ _ e2, up _ _ e3, up _ _ e4, up _ _ e5, h⟩
        have hrd : ∀ W, Below (w.heap.size + 1) wr W → RdL W S Entry.ty [.int .i64 e.index, .int .i64 e.term, .int .i64 e.kind, .slice a3e (e.config.voters).length c3e, .slice a4e (e.config.learners).length c4e, .string e.data] e.enc := by
          intro W h
          have up : Below w.heap.size w W := hbw.trans (h.mono (by omega))
          exact Entry.shuts e f0 f1 f2 (f3.same (Same.below up)) (f4.same (Same.below up)) f5
        have HMK := Lib.hid hmk
        have HRD := Lib.hid hrd
        have HZ := Lib.hid (show w.heap.size + 1 ≤ wr.heap.size by omega)
        have HG := Lib.hid (show w.heap.size + 1 ≤ g by omega)
        have HOWN := Lib.hid hown
        have K3 := Lib.hid k3
        have q7 : wr.cell? ⟨g, 7, none⟩ = some v := k3.cell 7
        obtain ⟨sm1, sm2⟩ := hsmall
        have j0 : (0 : Int) ≤ (j : Int) := by omega
        have j1 : (j : Int) < (k.entries.length : Int) := by omega
        have hlen : (k.entries.take j).length = j := by rw [List.length_take]; omega
        have HLEN := Lib.hid hlen
        have HVG := Lib.hid hvg
        have hvl := hown.lt
        have HA1 := Lib.hid (show ∀ b, wr.drew.heap.size ≤ b → (w.heap.size + 2 ≤ b ∧ b ≠ g) ∧ v.ownBlock ≠ some b from fun b h => by
          have h' : wr.heap.size ≤ b := h
          exact ⟨⟨by omega, by omega⟩, fun e => by have := (hvl b e).2; omega⟩)
        have HA2 := Lib.hid (show (((k.entries.take j).map Entry.enc).length + 1) * 1024 ≤ 140737488355328 by rw [List.length_map, hlen]; omega)
        have HLN := Lib.hid (show ((k.entries.take j).map Entry.enc ++ [e.enc]).length = j + 1 by rw [List.length_append, List.length_map, hlen]; rfl)
        have HW2 := Lib.hid (show w.heap.size + 2 ≤ wr.drew.heap.size from l1)
        clear hvl
        clear hE hmk hrd hown k3 e0 e1 e2 e3 e4 e5 f3 f4 hbw hS hvg hlen
        go_wp2_with fail
        obtain ⟨_, qe0, qe1, qe2, qe3, qe4, qe5, _⟩ := HMK.out _ (Below.refl _ _)
        go_region_law (first | (refine step_app rfl (.tmp 21) (.tmp 28) 28 rfl (base := w.heap.size + 2) (E := 54) (S := fun b => w.heap.size + 2 ≤ b ∧ b ≠ g) (fs := Entry.ty) (k := 6) (bytes := 88) rfl (by decide) (by decide) (by decide) Try.underlying28 infoE v ((k.entries.take j).map Entry.enc) rfl HO1.out _ e.enc (RdL.mono (fun b _ h => HA1.out b h) hd1.out) 54 _ rfl rfl HA2.out HB1.out ?_; intro v' w2 ho2 hg2 hat2; have K32 := K31.out.grown hg2 (fun h => HVG.out h.symm); have q72 : w2.cell? ⟨g, 7, none⟩ = some v := K32.cell 7; have f72 := K32.frozen 7; have HN := Lib.hid (HIN.out.next hlt (show Below wr.heap.size wr w1 from BP.out) (by rw [HE.out]; exact ho2) hg2 hat2); obtain ⟨xa, xc, ev⟩ := ho2.form; rw [HLN.out] at ev; subst ev; clear K32 ho2 hg2 hat2) | (go_simp; go_at_call 39; refine Calls.mono (entry_any _ e _ S (HRD.out _ (Below.refl _ _).drew) sm1 sm2) ?_; rintro e1 w1 ⟨vs1, rfl, hr1, P1⟩; have hd1 := Lib.hid hr1; obtain ⟨x3, y3', x4, y4', rfl, _, _, _, u3, u4, _⟩ := Entry.opens hr1; have BW1 := below_call HZ.out (Below.refl _ _).drew P1; have K31 := Lib.hid (K3.out.drew.next P1); have q71 : w1.cell? ⟨g, 7, none⟩ = some v := K31.out.cell 7; have HO1 := Lib.hid (HOWN.out.drew.below P1); have z1 := P1.size; have zg : g < w1.heap.size := Nat.lt_of_lt_of_le l2 z1; have HB1 := Lib.hid (Nat.le_trans HW2.out z1); have BP := Lib.hid (show Below wr.heap.size wr w1 from (Below.refl _ _).drew.trans P1); clear hr1 u3 u4))
        all_goals
          go_wp2_with fail
          go_roundw
          case rel => exact ⟨j + 1, _, by omega, by go_num, HN.out⟩
          case measure => simp [intOf]; omega
      · have hjn : j = k.entries.length := by omega
        have j1 : ¬ (j : Int) < (k.entries.length : Int) := by omega
        obtain ⟨xf, cf, ef, hsf⟩ := HIN.out.ends hjn HK.out.1
        subst ef
        obtain ⟨i1, i2, i3, i4, i5, i6, i7, i8, i9⟩ := HIN.out
        clear hjn
        have HSF := Lib.hid hsf
        have HI5 := Lib.hid i5
        have HI6 := Lib.hid i6
        obtain ⟨o0, o1, o2, o3, o4, o5, o6, o7⟩ := box8 i3
        obtain ⟨p0, p1, p2, p3, p4, p5, p6, p7⟩ := box8 i2
        obtain ⟨t0, t1, t2, t3, t4, t5, t6, t7⟩ := thaw8 i2
        have KR := Lib.hid i2
        have HI9 := Lib.hid i9
        have HI4 := Lib.hid i4
        clear hsf i1 i2 i3 i5 i6 i7 i8 i9
        go_wp2_with fail
        have kf := ((((((((KR.out.set 0 (.int .i64 k.term)).set 1 (.int .i64 k.vote)).set 2 (.int .i64 k.snap.index)).set 3 (.int .i64 k.snap.term)).set 4 (.slice y2 k.snap.config.voters.length z2)).set 5 (.slice y3 k.snap.config.learners.length z3)).set 6 (.string k.snap.data)).set 7 (.slice xf k.entries.length cf))
        have g0 := kf.cell 0
        have g1 := kf.cell 1
        have g2 := kf.cell 2
        have g3 := kf.cell 3
        have g4 := kf.cell 4
        have g5 := kf.cell 5
        have g6 := kf.cell 6
        have g7 := kf.cell 7
        refine bodyPost_ret (v := .agg #[.int .i64 k.term, .int .i64 k.vote, .int .i64 k.snap.index, .int .i64 k.snap.term, .slice y2 k.snap.config.voters.length z2, .slice y3 k.snap.config.learners.length z3, .string k.snap.data, .slice xf k.entries.length cf]) (by simp [results, Try.results21, go_sem, g0, g1, g2, g3, g4, g5, g6, g7]) rfl ⟨[_, _, _, _, _, _, _, _], rfl, ?_, ?_⟩
        · refine RdL.mono (S := fun b => w.heap.size + 2 ≤ b) (fun b _ hb => by show w.heap.size ≤ b; omega) ?_
          have n0 : ¬ (fun b => w.heap.size + 2 ≤ b) (w.heap.size + 1) := by simp
          exact Kept.shuts k b0 b1 b2 b3 (((((((((Rd.mono (T := fun b => w.heap.size + 2 ≤ b) HI5.out (fun b _ h => h.1)).set n0 _).set n0 _).set n0 _).set n0 _).set n0 _).set n0 _).set n0 _).set n0 _) (((((((((Rd.mono (T := fun b => w.heap.size + 2 ≤ b) HI6.out (fun b _ h => h.1)).set n0 _).set n0 _).set n0 _).set n0 _).set n0 _).set n0 _).set n0 _).set n0 _) b6 (((((((((Rd.mono (T := fun b => w.heap.size + 2 ≤ b) HSF.out (fun b _ h => h.1)).set n0 _).set n0 _).set n0 _).set n0 _).set n0 _).set n0 _).set n0 _).set n0 _)
        · exact ((((((((HI9.out.setCell (by simp) _).setCell (by simp) _).setCell (by simp) _).setCell (by simp) _).setCell (by simp) _).setCell (by simp) _).setCell (by simp) _).setCell (by simp) _)

end Go.Proofs.Yteiojclemodhaaa
