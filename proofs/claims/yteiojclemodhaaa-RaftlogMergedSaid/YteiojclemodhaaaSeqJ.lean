/- A range over a function whose iterator itself ranges over a function: what the rounds keep, said from the iterator's start on. No condition. -/
import Derived.Test.YteiojclemodhaaaRd
import Derived.RangeFuncNested
import Derived.RangeFuncBound
import Derived.RangeFuncCalls
import Derived.RangeFuncLeaves
import Derived.Shelf.Abstract
import Derived.Shelf.RegionOpen
import Derived.OwnWalkIn
import Derived.TacticsInMore
import Derived.LoopNIn
import Derived.LoopIn
namespace Go.Proofs.Yteiojclemodhaaa
open Go.RowKit Go.Shelf
set_option linter.unusedVariables false
/-- an iterator's contract, over rounds that keep what is no cells from its own start on -/
def SeqJ {α : Type} (F : Fence) (n : Nat) (P : Program) (g : Nat) (lb : Array Value) (encs : α → Array Value) (n₀ : Nat) (S Sp : List α → Prop) (N : Nat) (w : World) : Prop :=
  ∀ (l : Nat) (J Jx : List α → World → Prop) (W : World), Below w.heap.size w W → OwnFrom W.heap.size J → OwnFrom W.heap.size Jx →
    (∀ pre x W1, J pre W1 → pre.length < N → YieldAt F (n - 1) P l (encs x) W1 fun e W' =>
      Same (fun b => W.heap.size ≤ b) W1 W' ∧ ((e = .returned (.bool true) ∧ J (pre ++ [x]) W' ∧ Below n₀ W1 W') ∨ (e = .returned (.bool false) ∧ Jx (pre ++ [x]) W'))) →
    J [] W →
    CallsIn F n P g (#[.func (.yield l) #[] #[]] ++ lb) W fun e W' => (∃ v, e = .returned v) ∧ ((∃ xs, S xs ∧ J xs W') ∨ (∃ pre, Sp pre ∧ Jx pre W'))
/-- how a round's body may be left -/
def JPost {α : Type} (B n₀ : Nat) (I : List α → World → Prop) (Ix : Code → List α → World → Prop) (xs : List α) (W : World) : Exit → Act → World → Prop
  | .normal, _, W' => Same (fun b => B ≤ b) W W' ∧ Below n₀ W W' ∧ I xs W'
  | .ret, _, W' => Same (fun b => B ≤ b) W W' ∧ Ix .ret xs W'
  | .exit id, _, W' => Same (fun b => B ≤ b) W W' ∧ Ix (.exit id) xs W'
  | .goto t, _, W' => Same (fun b => B ≤ b) W W' ∧ Ix (.goto t) xs W'
  | .panic _, _, _ => False
  | .outgrown, _, _ => False
theorem same_put {B l : Nat} (W : World) (o : Obj) (h : l < B) : Same (fun b => B ≤ b) W (W.putObj l o) :=
  Same.of_grown (grownBy_putObj' W l o) (fun b hb e => by cases e; omega)
theorem same_up {B B' : Nat} {W W' : World} (h : Same (fun b => B ≤ b) W W') (hB : B ≤ B') : Same (fun b => B' ≤ b) W W' := h.mono (fun b hb => Nat.le_trans hB hb)
theorem Same.keeps {B : Nat} {W W' : World} (h : Same (fun b => B ≤ b) W W') : KeepsFrom B W W' := ⟨h.size, fun k o hk hl _ => (h.block k hk (Array.getElem?_eq_some_iff.1 hl).1).trans hl⟩
theorem below_put {n₀ l : Nat} (W : World) (o o' : Obj) (h : n₀ ≤ l) (hl : W.heap[l]? = some o) : Below n₀ W (W.putObj l o') :=
  (Below.refl n₀ W).grown (grownBy_putObj' W l o') (by have := (Array.getElem?_eq_some_iff.1 hl).1; omega) (fun k e => by cases e; exact h)
/-- the caller's law -/
theorem range_J {F : Fence} {n : Nat} {P : Program} {α : Type} {g : Operand} {ps : Array Tmp} {assign body : Code} {Q : Exit → Act → World → Prop} {a : Act} {w : World}
    (hro : F.round = none) (h1 : 1 ≤ n) {gf : Nat} {lb : Array Value} (hg : a.eval g = .func (.func gf) #[] lb) (hFg : F.fn gf) (eg : ∀ args w, (callFunc gf args).run P w = .ok (.enter gf args) w)
    {encs : α → Array Value} {n₀ : Nat} {S Sp : List α → Prop} {N : Nat} (hseq : SeqJ F (n - 1) P gf lb encs n₀ S Sp N w) (hn₀ : n₀ ≤ w.heap.size) (hps : ∀ x, (encs x).size = ps.size)
    (I : List α → World → Prop) (Ix : Code → List α → World → Prop) (hI : OwnFrom w.heap.size I) (hIx : ∀ c, OwnFrom w.heap.size (Ix c)) (h0 : I [] w) (a₁ : α → Act)
    (hassign : ∀ (l : Nat) (x : α) (W : World) (K : Act → World → Prop), K (a₁ x) W →
      assign.wpIn (F.inRound l) (n - 1 - 1) P (Exit.then K (fun _ _ _ => False)) { tmps := (ps.zip (encs x)).foldl (fun t (p, v) => t.setIfInBounds p v) a.tmps, defers := [] } W)
    (hbody : ∀ (l : Nat) (pre : List α) (x : α) (W : World), I pre W → pre.length < N → body.wpIn (F.inRound l) (n - 1 - 1) P (JPost w.heap.size n₀ I Ix (pre ++ [x]) W) (a₁ x) W)
    (hdone : ∀ (D : Nat) (xs : List α) (W : World), w.heap.size ≤ D → S xs → I xs W → W.heap[D]? = some (.deferred (some [])) → Q .normal { a with defers := { target := .collected D, args := #[] } :: a.defers } W)
    (hstop : ∀ (D : Nat) (c : Code) (pre : List α) (W : World), w.heap.size ≤ D → Sp pre → Ix c pre W → W.heap[D]? = some (.deferred (some [])) → c.wpIn F n P Q { a with defers := { target := .collected D, args := #[] } :: a.defers } W) :
    (Code.rangeFunc g ps assign body).wpIn F n P Q a w := by
  refine wpIn_rangeFunc fun fn hfn => ?_
  rw [hro]
  -- the loop's record, in each of its states
  let rec' : LoopState → Option Code → Loop := fun st pe => { state := st, pending := pe, fn, tmps := a.tmps, params := ps, assign, body, defers := w.heap.size }
  let L := w.heap.size + 1
  let W1 := (w.alloc (.deferred (some []))).alloc (.loop (rec' .ready none))
  have hL1 : W1.heap[L]? = some (.loop (rec' .ready none)) := by
    have := World.alloc_heap_new (w.alloc (.deferred (some []))) (.loop (rec' .ready none)); rwa [World.size_alloc] at this
  have hK1 : W1.heap[w.heap.size]? = some (.deferred (some [])) := (Below.heap_alloc _ _ _ (by simp)).trans (World.alloc_heap_new w _)
  have hI1 : I [] W1 := hI.alloc _ (hI.alloc _ h0)
  have hsz : W1.heap.size = w.heap.size + 2 := by simp [W1]
  have hb1 : Below w.heap.size w W1 := ((Below.refl _ w).alloc (Nat.le_refl _) _).alloc (by simp) _
  refine ⟨L, [{ target := .collected w.heap.size, args := #[] }], W1, { target := .fn (.func gf) lb, args := #[.func (.yield L) #[] #[]] }, W1, gf, #[.func (.yield L) #[] #[]] ++ lb, W1, run_enterLoop_outer _ _ _ _ _, ?_, ?_, ?_, fun _ => h1, ?_⟩
  · simp only [resolve, hg]
    simp [go_sem]
  · intro f' hf'; simp [Target.leads] at hf'; subst hf'; exact hFg
  · simp [invoke, go_sem, eg]
  have carry : ∀ {β : Type} {K : β → World → Prop} (o : Obj), OwnFrom w.heap.size K → o.isCells = false → ∀ (l : Nat), l < w.heap.size + 2 → OwnFrom W1.heap.size (fun s W => K s W ∧ W.heap[l]? = some o) := by
    intro β K o hK ho l hl s A B row hs hgr hr
    refine ⟨hK s A B row hs.1 hgr fun r e => ⟨by have := (hr r e).1; omega, (hr r e).2⟩, (hgr.block l (Array.getElem?_eq_some_iff.1 hs.2).1 fun e => ?_).trans hs.2⟩
    have := (hr l e.symm).1; omega
  have carry2 : ∀ {β : Type} {K : β → World → Prop} (o o' : Obj), OwnFrom w.heap.size K → o.isCells = false → o'.isCells = false → OwnFrom W1.heap.size (fun s W => K s W ∧ W.heap[L]? = some o ∧ W.heap[w.heap.size]? = some o') := by
    intro β K o o' hK ho ho' s A B row hs hgr hr
    obtain ⟨k1, k2⟩ := carry o hK ho L (by omega) s A B row ⟨hs.1, hs.2.1⟩ hgr hr
    exact ⟨k1, k2, (carry o' hK ho' w.heap.size (by omega) s A B row ⟨hs.1, hs.2.2⟩ hgr hr).2⟩
  refine (hseq L (fun pre W => I pre W ∧ W.heap[L]? = some (.loop (rec' .ready none)) ∧ W.heap[w.heap.size]? = some (.deferred (some [])))
    (fun pre W => ∃ c, Ix c pre W ∧ W.heap[L]? = some (.loop (rec' .done (some c))) ∧ W.heap[w.heap.size]? = some (.deferred (some []))) W1 hb1 (carry2 _ _ hI rfl rfl)
    (fun s A B row hs hgr hr => let ⟨c, hc⟩ := hs; ⟨c, carry2 _ _ (hIx c) rfl rfl s A B row hc hgr hr⟩) ?_ ⟨hI1, hL1, hK1⟩).mono ?_
  · -- one round
    rintro pre x W ⟨hi, hl, hk⟩ hlen
    have hlt : L < W.heap.size := (Array.getElem?_eq_some_iff.1 hl).1
    refine ⟨fn, _, assign, body, run_yield (P := P) (args := encs x) hl (hps x), roundIn_of_wpIn hfn (hassign _ x W _ ⟨_, run_beginRound hl rfl, ?_⟩)⟩
    have hl2 : (W.putObj L (.loop (rec' .busy none))).heap[L]? = some (.loop (rec' .busy none)) := World.putObj_heap_same hlt
    have hk2 : (W.putObj L (.loop (rec' .busy none))).heap[w.heap.size]? = some (.deferred (some [])) := (World.putObj_heap_other (by omega)).trans hk
    refine wpIn_mono (hbody _ pre x _ (hI.putObj _ hi (by omega) hl rfl) hlen) ?_
    have fin : ∀ (jump : Option Code) (W3 : World), Same (fun b => w.heap.size ≤ b) (W.putObj L (.loop (rec' .busy none))) W3 →
        (Instr.endRound L jump).run P W3 = .ok (.bool jump.isNone) (W3.putObj L (.loop (rec' (if jump.isNone then .ready else .done) jump))) ∧ W3.heap[L]? = some (.loop (rec' .busy none)) ∧
        (W3.putObj L (.loop (rec' (if jump.isNone then .ready else .done) jump))).heap[L]? = some (.loop (rec' (if jump.isNone then .ready else .done) jump)) ∧
        (W3.putObj L (.loop (rec' (if jump.isNone then .ready else .done) jump))).heap[w.heap.size]? = some (.deferred (some [])) ∧
        Same (fun b => W1.heap.size ≤ b) W (W3.putObj L (.loop (rec' (if jump.isNone then .ready else .done) jump))) := fun jump W3 hk3 => by
      have hl3 := hk3.keeps.same _ _ (by omega) hl2 rfl
      refine ⟨run_endRound (P := P) jump hl3, hl3, World.putObj_heap_same (Array.getElem?_eq_some_iff.1 hl3).1, (World.putObj_heap_other (by omega)).trans (hk3.keeps.same _ _ (Nat.le_refl _) hk2 rfl), ?_⟩
      exact ((same_put (l := L) (B := W1.heap.size) W _ (by omega)).trans (same_up hk3 (by omega))).trans (same_put W3 _ (by omega))
    rintro e a3 W3 hp
    cases e with
    | normal =>
      obtain ⟨hk3, hkp3, hi3⟩ := hp
      obtain ⟨hr, hl3, hl4, hk4, hkk⟩ := fin none W3 hk3
      exact ⟨_, _, hr, hkk, .inl ⟨rfl, ⟨hI.putObj _ hi3 (by omega) hl3 rfl, hl4, hk4⟩, ((below_put W _ _ (by omega) hl).trans hkp3).trans (below_put W3 _ _ (by omega) hl3)⟩⟩
    | ret =>
      obtain ⟨hk3, hi3⟩ := hp
      obtain ⟨hr, hl3, hl4, hk4, hkk⟩ := fin (some .ret) W3 hk3
      exact ⟨_, _, hr, hkk, .inr ⟨rfl, .ret, (hIx _).putObj _ hi3 (by omega) hl3 rfl, hl4, hk4⟩⟩
    | exit id =>
      obtain ⟨hk3, hi3⟩ := hp
      obtain ⟨hr, hl3, hl4, hk4, hkk⟩ := fin (some (.exit id)) W3 hk3
      exact ⟨_, _, hr, hkk, .inr ⟨rfl, .exit id, (hIx _).putObj _ hi3 (by omega) hl3 rfl, hl4, hk4⟩⟩
    | goto t =>
      obtain ⟨hk3, hi3⟩ := hp
      obtain ⟨hr, hl3, hl4, hk4, hkk⟩ := fin (some (.goto t)) W3 hk3
      exact ⟨_, _, hr, hkk, .inr ⟨rfl, .goto t, (hIx _).putObj _ hi3 (by omega) hl3 rfl, hl4, hk4⟩⟩
    | panic ch => exact hp.elim
    | outgrown => exact hp.elim
  · -- behind the iterator
    rintro e W2 ⟨⟨v, rfl⟩, (⟨xs, hS, hi, hl, hk⟩ | ⟨pre, hSp, c, hi, hl, hk⟩)⟩
    · exact ⟨none, _, run_endLoop (P := P) hl (by simp [rec']), hdone _ xs _ (Nat.le_refl _) hS (hI.putObj _ hi (by omega) hl rfl) ((World.putObj_heap_other (by omega)).trans hk)⟩
    · exact ⟨some c, _, run_endLoop (P := P) hl (by simp [rec']), hstop _ c pre _ (Nat.le_refl _) hSp ((hIx c).putObj _ hi (by omega) hl rfl) ((World.putObj_heap_other (by omega)).trans hk)⟩
end Go.Proofs.Yteiojclemodhaaa
