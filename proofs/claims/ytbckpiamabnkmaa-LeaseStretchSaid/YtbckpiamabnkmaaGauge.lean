/- The contract of the gauge's tell. Condition: the gauge lies in a block known whole, its numbers are small. -/
import Derived.Test.YtbckpiamabnkmaaSetsB
import Derived.BigRegion
namespace Go.Proofs.Ytbckpiamabnkmaa
open Go.RowKit
set_option linter.unusedVariables false
set_option linter.unusedSimpArgs false
structure Ga where
  n : Int
  d : Bool
  lo : Int
  mo : Int
  t : Int
  w : Int
def Ga.cells (g : Ga) : Array Value := #[.int .i64 g.n, .bool g.d, .int .i64 g.lo, .int .i64 g.mo, .int .i64 g.t, .int .i64 g.w]
def GaAt (W : World) (b : Nat) (g : Ga) : Prop := W.heap[b]? = some (.cells g.cells 160 (0, 0))
theorem GaAt.cell {W : World} {b : Nat} {g : Ga} (h : GaAt W b g) (i : Nat) : W.cell? ⟨b, i, none⟩ = g.cells[i]? := by
  unfold GaAt at h; simp [World.cell?, h]
theorem GaAt.frozen {W : World} {b : Nat} {g : Ga} (h : GaAt W b g) (i : Nat) : W.frozen? ⟨b, i, none⟩ = false := by
  unfold GaAt at h; simp [World.frozen?, h]
/-- one tick heard -/
def Ga.tell (g : Ga) (x : Int) : Ga × Bool :=
  if x = -g.n then ({ n := g.n, d := !g.d, lo := 0, mo := 0, t := 0, w := 0 }, true)
  else if g.d = true ∨ (x ≠ 0 ∧ x ≠ g.n) then (g, true)
  else
    let t := if x = 0 then g.t else g.t + 1
    let w := if x = 0 then g.w + 1 else g.w
    ({ g with lo := min g.lo (t - 2 * w), mo := min g.mo (w - 2 * t), t := t, w := w }, decide (t - 2 * w - g.lo ≤ 2) && decide (w - 2 * t - g.mo ≤ 2))
def TellPost (W : World) (b : Nat) (r : Ga × Bool) (e : Ending) (W' : World) : Prop := e = .returned (.bool r.2) ∧ GaAt W' b r.1 ∧ W.grownBy W' (some b)
theorem ga_set {W : World} {b : Nat} {c : Array Value} {T : TypeId} (h : W.heap[b]? = some (.cells c T (0, 0))) (i : Nat) (v : Value) : (W.setCell ⟨b, i, none⟩ v).heap[b]? = some (.cells (c.setIfInBounds i v) T (0, 0)) := by
  simp [World.setCell, Array.getElem?_modify, h]
theorem gaG_drew {w w' : World} {r : Option Nat} (h : w.grownBy w' r) : w.grownBy w'.drew r := ⟨h.os, h.tape, h.output, h.size, h.block⟩
theorem gaG_set {w w' : World} {g : Nat} (h : w.grownBy w' (some g)) (i : Nat) (v : Value) : w.grownBy (w'.setCell ⟨g, i, none⟩ v) (some g) :=
  ⟨h.os, h.tape, h.output, by have := h.size; simpa [World.setCell] using this, fun k hk hne => by
    rw [Below.heap_setCell _ _ _ _ (fun e => hne (by rw [e]))]; exact h.block k hk hne⟩
theorem gaG_drewN {w w' : World} {r : Option Nat} (h : w.grownBy w' r) (k : Nat) : w.grownBy (w'.drewN k) r := ⟨h.os, h.tape, h.output, h.size, h.block⟩
theorem GaAt.drew {W : World} {b : Nat} {g : Ga} (h : GaAt W b g) : GaAt W.drew b g := h
theorem GaAt.drewN {W : World} {b : Nat} {g : Ga} (h : GaAt W b g) (k : Nat) : GaAt (W.drewN k) b g := h
theorem ga_fin {W : World} {b : Nat} {c : Array Value} {g : Ga} (h : W.heap[b]? = some (.cells c 160 (0, 0))) (e : c = g.cells) : GaAt W b g := by rw [e] at h; exact h
theorem ga_set6 {W : World} {b : Nat} {g : Ga} (h : GaAt W b g) (g' : Ga) : GaAt ((((((W.setCell ⟨b, 0, none⟩ (.int .i64 g'.n)).setCell ⟨b, 1, none⟩ (.bool g'.d)).setCell ⟨b, 2, none⟩ (.int .i64 g'.lo)).setCell ⟨b, 3, none⟩ (.int .i64 g'.mo)).setCell ⟨b, 4, none⟩ (.int .i64 g'.t)).setCell ⟨b, 5, none⟩ (.int .i64 g'.w)) b g' :=
  ga_fin (ga_set (ga_set (ga_set (ga_set (ga_set (ga_set h 0 _) 1 _) 2 _) 3 _) 4 _) 5 _) (by simp [Ga.cells])
theorem ga_set3 {W : World} {b : Nat} {g : Ga} (h : GaAt W b g) (i : Nat) (v : Value) (lo mo : Int) (g' : Ga) (e : ((g.cells.setIfInBounds i v).setIfInBounds 2 (.int .i64 lo)).setIfInBounds 3 (.int .i64 mo) = g'.cells) :
    GaAt (((W.setCell ⟨b, i, none⟩ v).setCell ⟨b, 2, none⟩ (.int .i64 lo)).setCell ⟨b, 3, none⟩ (.int .i64 mo)) b g' :=
  ga_fin (ga_set (ga_set (ga_set h i _) 2 _) 3 _) e
theorem tell_pass (b : Nat) (g : Ga) (x : Int) (W : World) (h : GaAt W b g) (hn : 1 ≤ g.n) (hn2 : g.n ≤ 9223372036854775807) (h1 : x ≠ -g.n) (h2 : g.d = true ∨ (x ≠ 0 ∧ x ≠ g.n)) :
    Calls Try.prog 125 #[.pointer (some ⟨b, 0, none⟩), .int .i64 x] W (TellPost W b (g, true)) := by
  have HG := Lib.hid h
  have c0 := h.cell 0
  have c1 := h.cell 1
  obtain ⟨n, d, lo, mo, t, wd⟩ := g
  simp only [Ga.cells] at c0 c1
  simp at c0 c1
  clear h
  simp only at hn hn2 h1 h2
  have e1 : (x == -n) = false := by simp [h1]
  cases d with
  | true =>
    go_enter Try.func125, Try.ntmps125
    go_wp2_with fail
    go_ret
    exact ⟨rfl, HG.out, World.grownBy.refl _ _⟩
  | false =>
    obtain ⟨h3, h4⟩ := h2.resolve_left (by simp)
    have e2 : (x != 0) = true := by simp [h3]
    have e3 : (x != n) = true := by simp [h4]
    have e4 : (x == 0) = false := by simp [h3]
    have e5 : (x == n) = false := by simp [h4]
    clear h2 h3 h4 h1
    go_enter Try.func125, Try.ntmps125
    go_wp2_with fail
    go_ret
    exact ⟨rfl, HG.out, World.grownBy.refl _ _⟩
set_option maxHeartbeats 1000000 in
theorem tell_turn (b : Nat) (g : Ga) (x : Int) (W : World) (h : GaAt W b g) (hn : 1 ≤ g.n) (hn2 : g.n ≤ 9223372036854775807) (h1 : x = -g.n) :
    Calls Try.prog 125 #[.pointer (some ⟨b, 0, none⟩), .int .i64 x] W (TellPost W b ({ n := g.n, d := !g.d, lo := 0, mo := 0, t := 0, w := 0 }, true)) := by
  have HG := Lib.hid h
  have c0 := h.cell 0
  have c1 := h.cell 1
  have c2 := h.cell 2
  have c3 := h.cell 3
  have c4 := h.cell 4
  have c5 := h.cell 5
  have f0 := h.frozen 0
  have f1 := h.frozen 1
  have f2 := h.frozen 2
  have f3 := h.frozen 3
  have f4 := h.frozen 4
  have f5 := h.frozen 5
  obtain ⟨n, d, lo, mo, t, wd⟩ := g
  simp only [Ga.cells] at c0 c1 c2 c3 c4 c5
  simp at c0 c1 c2 c3 c4 c5
  clear h
  simp only at hn hn2 h1
  subst h1
  have e1 : ((-n : Int) == -n) = true := by simp
  go_enter Try.func125, Try.ntmps125
  go_wp2_with fail
  go_region
  go_wp2
  go_ret
  refine ⟨rfl, ?_, ?_⟩
  · have h0 := HG.out
    have h1 := ga_set h0 0 (.int .i64 n)
    have h2 := ga_set h1 1 (.bool !d)
    have h3 := ga_set h2 2 (.int .i64 0)
    have h4 := ga_set h3 3 (.int .i64 0)
    have h5 := ga_set h4 4 (.int .i64 0)
    have h6 := ga_set h5 5 (.int .i64 0)
    exact GaAt.drew (ga_fin h6 (by simp [Ga.cells]))
  · exact gaG_drew (gaG_set (gaG_set (gaG_set (gaG_set (gaG_set (gaG_set (World.grownBy.refl _ _) _ _) _ _) _ _) _ _) _ _) _ _)
set_option maxHeartbeats 2000000 in
theorem tell_tick (b : Nat) (g : Ga) (x : Int) (W : World) (h : GaAt W b g) (hn : 1 ≤ g.n) (hn2 : g.n ≤ 9223372036854775807) (hd : g.d = false) (h0 : x = 0 ∨ x = g.n)
    (ht : 0 ≤ g.t ∧ g.t ≤ 1000) (hw : 0 ≤ g.w ∧ g.w ≤ 1000) (hl : -3000 ≤ g.lo ∧ g.lo ≤ 0) (hm : -3000 ≤ g.mo ∧ g.mo ≤ 0) :
    Calls Try.prog 125 #[.pointer (some ⟨b, 0, none⟩), .int .i64 x] W (TellPost W b (g.tell x)) := by
  have HG := Lib.hid h
  have c0 := h.cell 0
  have c1 := h.cell 1
  have c2 := h.cell 2
  have c3 := h.cell 3
  have c4 := h.cell 4
  have c5 := h.cell 5
  have f0 := h.frozen 0
  have f1 := h.frozen 1
  have f2 := h.frozen 2
  have f3 := h.frozen 3
  have f4 := h.frozen 4
  have f5 := h.frozen 5
  obtain ⟨n, d, lo, mo, t, wd⟩ := g
  simp only [Ga.cells] at c0 c1 c2 c3 c4 c5
  simp at c0 c1 c2 c3 c4 c5
  clear h
  simp only at hn hn2 h0 ht hw hl hm hd
  subst hd
  obtain ⟨ht1, ht2⟩ := ht
  obtain ⟨hw1, hw2⟩ := hw
  obtain ⟨hl1, hl2⟩ := hl
  obtain ⟨hm1, hm2⟩ := hm
  rcases h0 with h0 | h0
  · replace h0 := h0.symm
    subst h0
    have hr : (Ga.tell { n := n, d := false, lo := lo, mo := mo, t := t, w := wd } 0) = ({ n := n, d := false, lo := min lo (t - 2 * (wd + 1)), mo := min mo (wd + 1 - 2 * t), t := t, w := wd + 1 }, decide (t - 2 * (wd + 1) - lo ≤ 2) && decide (wd + 1 - 2 * t - mo ≤ 2)) := by
      have hne : ¬ (0 : Int) = -n := by omega
      have hn0 : ¬ (n : Int) = 0 := by omega
      unfold Ga.tell
      simp [hne]
    have e1 : ((0 : Int) == -n) = false := by simp; omega
    rw [hr]
    clear hr
    have key : ∀ lo' mo' k ok, lo' = min lo (t - 2 * (wd + 1)) → mo' = min mo (wd + 1 - 2 * t) → ok = (decide (t - 2 * (wd + 1) - lo ≤ 2) && decide (wd + 1 - 2 * t - mo ≤ 2)) → TellPost W b ({ n := n, d := false, lo := min lo (t - 2 * (wd + 1)), mo := min mo (wd + 1 - 2 * t), t := t, w := wd + 1 }, decide (t - 2 * (wd + 1) - lo ≤ 2) && decide (wd + 1 - 2 * t - mo ≤ 2)) (.returned (.bool ok)) ((((W.setCell ⟨b, 5, none⟩ (.int .i64 (wd + 1))).drewN k).setCell ⟨b, 2, none⟩ (.int .i64 lo')).setCell ⟨b, 3, none⟩ (.int .i64 mo')) := by
      intro lo' mo' k ok el em eo
      subst el em eo
      have h1 := ga_set HG.out 5 (.int .i64 (wd + 1))
      have h2 := ga_set (W := (W.setCell ⟨b, 5, none⟩ (.int .i64 (wd + 1))).drewN k) h1 2 (.int .i64 (min lo (t - 2 * (wd + 1))))
      have h3 := ga_set h2 3 (.int .i64 (min mo (wd + 1 - 2 * t)))
      exact ⟨rfl, ga_fin h3 (by simp [Ga.cells]), gaG_set (gaG_set (gaG_drewN (gaG_set (World.grownBy.refl _ _) _ _) _) _ _) _ _⟩
    have KEY := Lib.hid key
    clear key
    generalize hP : TellPost W b ({ n := n, d := false, lo := min lo (t - 2 * (wd + 1)), mo := min mo (wd + 1 - 2 * t), t := t, w := wd + 1 }, decide (t - 2 * (wd + 1) - lo ≤ 2) && decide (wd + 1 - 2 * t - mo ≤ 2)) = P at KEY ⊢
    clear hP
    by_cases q1 : t - 2 * (wd + 1) - lo ≤ 2
    · by_cases q2 : t - 2 * (wd + 1) < lo
      · go_enter Try.func125, Try.ntmps125
        go_wp2_with fail
        go_quiet (fail)
        go_wp2_with fail
        go_region
        all_goals go_wp2_with fail
        all_goals
          refine KEY.out _ _ _ _ ?_ ?_ ?_
          · omega
          · omega
          · first | (simp [q1]; done) | (simp; intro; omega)
      · go_enter Try.func125, Try.ntmps125
        go_wp2_with fail
        go_quiet (fail)
        go_wp2_with fail
        go_region
        all_goals go_wp2_with fail
        all_goals
          refine KEY.out _ _ _ _ ?_ ?_ ?_
          · omega
          · omega
          · first | (simp [q1]; done) | (simp; intro; omega)
    · by_cases q2 : t - 2 * (wd + 1) < lo
      · exact absurd q2 (by omega)
      · go_enter Try.func125, Try.ntmps125
        go_wp2_with fail
        go_quiet (fail)
        go_wp2_with fail
        go_region
        all_goals go_wp2_with fail
        all_goals
          refine KEY.out _ _ _ _ ?_ ?_ ?_
          · omega
          · omega
          · first | (simp [q1]; done) | (simp; intro; omega)
  · replace h0 := h0.symm
    subst h0
    have hr : (Ga.tell { n := n, d := false, lo := lo, mo := mo, t := t, w := wd } n) = ({ n := n, d := false, lo := min lo (t + 1 - 2 * wd), mo := min mo (wd - 2 * (t + 1)), t := t + 1, w := wd }, decide (t + 1 - 2 * wd - lo ≤ 2) && decide (wd - 2 * (t + 1) - mo ≤ 2)) := by
      have hne : ¬ (n : Int) = -n := by omega
      have hn0 : ¬ (n : Int) = 0 := by omega
      unfold Ga.tell
      simp [hne, hn0]
    have e1 : ((n : Int) == -n) = false := by simp; omega
    have e2 : ((n : Int) != 0) = true := by simp; omega
    have e3 : ((n : Int) == 0) = false := by simp; omega
    have e4 : ((n : Int) != n) = false := by simp
    have e5 : ((n : Int) == n) = true := by simp
    rw [hr]
    clear hr
    have key : ∀ lo' mo' k ok, lo' = min lo (t + 1 - 2 * wd) → mo' = min mo (wd - 2 * (t + 1)) → ok = (decide (t + 1 - 2 * wd - lo ≤ 2) && decide (wd - 2 * (t + 1) - mo ≤ 2)) → TellPost W b ({ n := n, d := false, lo := min lo (t + 1 - 2 * wd), mo := min mo (wd - 2 * (t + 1)), t := t + 1, w := wd }, decide (t + 1 - 2 * wd - lo ≤ 2) && decide (wd - 2 * (t + 1) - mo ≤ 2)) (.returned (.bool ok)) ((((W.setCell ⟨b, 4, none⟩ (.int .i64 (t + 1))).drewN k).setCell ⟨b, 2, none⟩ (.int .i64 lo')).setCell ⟨b, 3, none⟩ (.int .i64 mo')) := by
      intro lo' mo' k ok el em eo
      subst el em eo
      have h1 := ga_set HG.out 4 (.int .i64 (t + 1))
      have h2 := ga_set (W := (W.setCell ⟨b, 4, none⟩ (.int .i64 (t + 1))).drewN k) h1 2 (.int .i64 (min lo (t + 1 - 2 * wd)))
      have h3 := ga_set h2 3 (.int .i64 (min mo (wd - 2 * (t + 1))))
      exact ⟨rfl, ga_fin h3 (by simp [Ga.cells]), gaG_set (gaG_set (gaG_drewN (gaG_set (World.grownBy.refl _ _) _ _) _) _ _) _ _⟩
    have KEY := Lib.hid key
    clear key
    generalize hP : TellPost W b ({ n := n, d := false, lo := min lo (t + 1 - 2 * wd), mo := min mo (wd - 2 * (t + 1)), t := t + 1, w := wd }, decide (t + 1 - 2 * wd - lo ≤ 2) && decide (wd - 2 * (t + 1) - mo ≤ 2)) = P at KEY ⊢
    clear hP
    by_cases q1 : t + 1 - 2 * wd - lo ≤ 2
    · by_cases q2 : t + 1 - 2 * wd < lo
      · go_enter Try.func125, Try.ntmps125
        go_wp2_with fail
        go_quiet (fail)
        go_wp2_with fail
        go_region
        all_goals go_wp2_with fail
        all_goals
          refine KEY.out _ _ _ _ ?_ ?_ ?_
          · omega
          · omega
          · first | (simp [q1]; done) | (simp; intro; omega)
      · go_enter Try.func125, Try.ntmps125
        go_wp2_with fail
        go_quiet (fail)
        go_wp2_with fail
        go_region
        all_goals go_wp2_with fail
        all_goals
          refine KEY.out _ _ _ _ ?_ ?_ ?_
          · omega
          · omega
          · first | (simp [q1]; done) | (simp; intro; omega)
    · by_cases q2 : t + 1 - 2 * wd < lo
      · exact absurd q2 (by omega)
      · go_enter Try.func125, Try.ntmps125
        go_wp2_with fail
        go_quiet (fail)
        go_wp2_with fail
        go_region
        all_goals go_wp2_with fail
        all_goals
          refine KEY.out _ _ _ _ ?_ ?_ ?_
          · omega
          · omega
          · first | (simp [q1]; done) | (simp; intro; omega)
/-- the gauge's numbers after k ticks -/
def Ga.ok (g : Ga) (k : Nat) : Prop := 1 ≤ g.n ∧ g.n ≤ 9223372036854775807 ∧ 0 ≤ g.t ∧ 0 ≤ g.w ∧ g.t + g.w ≤ k ∧ (-2 * (k : Int) ≤ g.lo ∧ g.lo ≤ 0) ∧ (-2 * (k : Int) ≤ g.mo ∧ g.mo ≤ 0)
theorem Ga.ok_tell {g : Ga} {k : Nat} (h : g.ok k) (x : Int) : (g.tell x).1.ok (k + 1) := by
  obtain ⟨h1, h2, h3, h4, h5, ⟨h6, h7⟩, h8, h9⟩ := h
  obtain ⟨n, d, lo, mo, t, w⟩ := g
  simp only at *
  unfold Ga.tell
  simp only
  split
  · refine ⟨h1, h2, by simp, by simp, by simp; omega, ⟨by simp; omega, by simp⟩, by simp; omega, by simp⟩
  split
  · refine ⟨h1, h2, h3, h4, by simp; omega, ⟨by simp; omega, h7⟩, by simp; omega, h9⟩
  · unfold Ga.ok
    simp only
    split <;> refine ⟨h1, h2, by omega, by omega, by simp; omega, ⟨by simp; omega, by omega⟩, by simp; omega, by omega⟩
theorem tell_spec (b : Nat) (g : Ga) (x : Int) (W : World) (h : GaAt W b g) (k : Nat) (hk : k ≤ 1000) (ho : g.ok k) :
    Calls Try.prog 125 #[.pointer (some ⟨b, 0, none⟩), .int .i64 x] W (TellPost W b (g.tell x)) := by
  obtain ⟨h1, h2, h3, h4, h5, ⟨h6, h7⟩, h8, h9⟩ := ho
  by_cases q1 : x = -g.n
  · have := tell_turn b g x W h h1 h2 q1
    have e : g.tell x = ({ n := g.n, d := !g.d, lo := 0, mo := 0, t := 0, w := 0 }, true) := by unfold Ga.tell; simp [q1]
    rw [e]; exact this
  by_cases q2 : g.d = true ∨ (x ≠ 0 ∧ x ≠ g.n)
  · have := tell_pass b g x W h h1 h2 q1 q2
    have e : g.tell x = (g, true) := by unfold Ga.tell; rw [if_neg q1, if_pos q2]
    rw [e]; exact this
  · have hd : g.d = false := by cases hg : g.d <;> simp_all
    have h0 : x = 0 ∨ x = g.n := by
      by_cases a : x = 0
      · exact .inl a
      · by_cases c : x = g.n
        · exact .inr c
        · exact absurd (.inr ⟨a, c⟩) q2
    exact tell_tick b g x W h h1 h2 hd h0 (by omega) (by omega) (by omega) (by omega)
end Go.Proofs.Ytbckpiamabnkmaa
