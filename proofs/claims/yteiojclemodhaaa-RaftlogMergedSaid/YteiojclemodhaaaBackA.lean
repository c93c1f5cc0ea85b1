/- The library's slices.Backward over a slice of entries: which rounds it makes. Condition: a slice that reads as entries. -/
import Derived.Test.YteiojclemodhaaaSeqJ
import Derived.Test.YteiojclemodhaaaTyA
namespace Go.Proofs.Yteiojclemodhaaa
open Go.RowKit Go.Shelf
set_option linter.unusedVariables false
set_option linter.unusedSimpArgs false
attribute [local go_sem] Oper.semAt_some
/-- the first k of len - 1, len - 2, .. -/
def dn (len k : Nat) : List Nat := (List.range k).map (fun j => len - 1 - j)
theorem dn_succ (len k : Nat) : dn len (k + 1) = dn len k ++ [len - 1 - k] := by simp [dn, List.range_succ]
theorem dn_len (len k : Nat) : (dn len k).length = k := by simp [dn]
theorem room_none {F : Fence} (hd : F.depth = none) (k : Nat) : F.room k := fun d h => by rw [hd] at h; cases h
theorem round_any {F : Fence} (hd : F.depth = none) {m m' : Nat} {P : Program} {l : Nat} {f : FuncId} {tmps : Array Value} {assign body : Code} {w : World} {R : Ending → World → Prop}
    (h : RoundIn F m P l f tmps assign body w R) : RoundIn F m' P l f tmps assign body w R := ⟨h.1, fun c cs _ => h.2 c cs (room_none hd _)⟩
theorem yield_any {F : Fence} (hd : F.depth = none) {m : Nat} (m' : Nat) {P : Program} {l : Nat} {args : Array Value} {W : World} {R : Ending → World → Prop} (h : YieldAt F m P l args W R) : YieldAt F m' P l args W R := by
  obtain ⟨fn, tmps, assign, body, hy, hR⟩ := h
  exact ⟨fn, tmps, assign, body, hy, round_any hd hR⟩
def entArg (ev : Nat → Nat → Value) (i : Nat) : Array Value := #[.int .i64 (i : Int), .agg #[ev i 0, ev i 1, ev i 2, ev i 3, ev i 4, ev i 5]]
theorem back_in (a : Option Addr) (len cap : Nat) (w : World) (n : Nat) :
    CallsIn Fence.wide n Try.prog 51 #[.slice a len cap] w fun e w' => e = .returned (.func (.func 58) #[] #[.pointer (some ⟨w.heap.size, 0, none⟩)]) ∧ w.alloc (.cells #[.slice a len cap] 28) = w' := by
  refine callsIn_wide.2 ?_
  go_enter Try.func51, Try.ntmps51
  go_wp2_with fail
  go_ret
  exact ⟨rfl, rfl⟩
set_option maxRecDepth 100000 in
set_option maxHeartbeats 2000000 in
theorem back1_in (n : Nat) (l Bs n₀ : Nat) (b off len cap : Nat) (ev : Nat → Nat → Value) (hlen : len ≤ 17592186044416) (hb : b < n₀) (J Jx : List Nat → World → Prop)
    (hY : ∀ pre x W, J pre W → pre.length < len → YieldAt Fence.wide (n - 1) Try.prog l (entArg ev x) W fun e W' =>
      (e = .returned (.bool true) ∧ J (pre ++ [x]) W' ∧ Below n₀ W W') ∨ (e = .returned (.bool false) ∧ Jx (pre ++ [x]) W'))
    (W : World) (hBs : ∀ wr pre, J pre wr → wr.cell? ⟨Bs, 0, none⟩ = some (.slice (some ⟨b, off, none⟩) len cap)) (hc : ∀ i j, i < len → j < 6 → W.cell? ⟨b, off + i * 6 + j, none⟩ = some (ev i j)) (h0 : J [] W) (hn : 1 ≤ n) :
    CallsIn Fence.wide n Try.prog 58 #[.func (.yield l) #[] #[], .pointer (some ⟨Bs, 0, none⟩)] W fun e W' => (∃ v, e = .returned v) ∧
      ((∃ ys, ys = dn len len ∧ J ys W') ∨ (∃ pre, (∃ k, k ≤ len ∧ pre = dn len k) ∧ Jx pre W')) := by
  refine callsIn_of_wp Try.func58 rfl trivial ?_ rfl
  simp only [Try.ntmps58, List.size_toArray, List.length_cons, List.length_nil, Nat.reduceAdd, Nat.reduceSub, Array.replicate_succ, Array.replicate_zero, List.push_toArray, List.append_toArray, List.nil_append, List.cons_append]
  have hBs0 := hBs W [] h0
  gi_wp2
  gi_loopw [3] (fun i wr => ∃ k m : Nat, k + m = len ∧ i = .int .i64 ((m : Int) - 1) ∧ J (dn len k) wr ∧ Below n₀ W wr) (fun i _ => (intOf i + 1).toNat)
  case atStart => exact ⟨0, len, by omega, by simp, h0, Below.refl _ _⟩
  case round =>
    obtain ⟨k, m, hkm, e, hJs, hnx⟩ := hrel
    have HKM := Lib.hid hkm
    cases m with
    | zero =>
      obtain rfl : k = len := by omega
      obtain rfl := e
      clear hkm
      gi_wp2
      go_end0
      exact ⟨⟨_, rfl⟩, .inl ⟨_, rfl, hJs⟩⟩
    | succ m =>
      have e2 : (((m + 1 : Nat) : Int) - 1) = (m : Int) := by omega
      rw [e2] at e
      obtain rfl := e
      clear hkm e2
      have hm : m < len := by have := HKM.out; omega
      have m1 : (m : Int) < len := by omega
      have hbs := hBs wr _ hJs
      have hcc : ∀ j, j < 6 → wr.cell? ⟨b, off + m * 6 + j, none⟩ = some (ev m j) := fun j hj => (hnx.cell (p := ⟨b, off + m * 6 + j, none⟩) hb).trans (hc m j hm hj)
      have k0 : wr.cell? ⟨b, off + m * 6, none⟩ = some (ev m 0) := hcc 0 (by omega)
      have k1 := hcc 1 (by omega)
      have k2 := hcc 2 (by omega)
      have k3 := hcc 3 (by omega)
      have k4 := hcc 4 (by omega)
      have k5 := hcc 5 (by omega)
      clear hcc
      obtain ⟨fn, tmps, assign, body, hy, hR⟩ := hY _ m wr hJs (by rw [dn_len]; have := HKM.out; omega)
      unfold entArg at hy
      gi_wp2
      refine hR.mono ?_
      rintro e W3 (⟨rfl, hJ3, hk3⟩ | ⟨rfl, hJx3⟩)
      · gi_wp2
        go_roundw
        case rel => exact ⟨k + 1, m, by have := HKM.out; omega, by simp, by rw [dn_succ, show len - 1 - k = m by have := HKM.out; omega]; exact hJ3, hnx.trans hk3⟩
        case measure => simp [intOf]
      · gi_wp2
        refine bodyPost_ret (results_none rfl _ _ _) rfl ?_
        exact ⟨⟨_, rfl⟩, .inr ⟨_, ⟨k + 1, by have := HKM.out; omega, by rw [dn_succ, show len - 1 - k = m by have := HKM.out; omega]⟩, hJx3⟩⟩
set_option maxRecDepth 100000 in
set_option maxHeartbeats 1000000 in
theorem back1_nil_in (n : Nat) (l Bs : Nat) (a : Option Addr) (cap : Nat) (J : List Nat → World → Prop) (W : World) (hBs : W.cell? ⟨Bs, 0, none⟩ = some (.slice a 0 cap)) (h0 : J [] W) :
    CallsIn Fence.wide n Try.prog 58 #[.func (.yield l) #[] #[], .pointer (some ⟨Bs, 0, none⟩)] W fun e W' => (∃ v, e = .returned v) ∧ J [] W' := by
  refine callsIn_of_wp Try.func58 rfl trivial ?_ rfl
  simp only [Try.ntmps58, List.size_toArray, List.length_cons, List.length_nil, Nat.reduceAdd, Nat.reduceSub, Array.replicate_succ, Array.replicate_zero, List.push_toArray, List.append_toArray, List.nil_append, List.cons_append]
  gi_wp2
  gi_loopw [3] (fun i wr => i = .int .i64 (-1) ∧ J [] wr) (fun _ _ => 0)
  case atStart => exact ⟨rfl, h0⟩
  case round =>
    obtain ⟨rfl, hJs⟩ := hrel
    gi_wp2
    go_end0
    exact ⟨⟨_, rfl⟩, hJs⟩
/-- what a round must keep for slices.Backward -/
def KpB (n₀ Bs : Nat) (v : Value) (W W' : World) : Prop := Below n₀ W W' ∧ (W.cell? ⟨Bs, 0, none⟩ = some v → W'.cell? ⟨Bs, 0, none⟩ = some v)
theorem KpB.t {n₀ Bs : Nat} {v : Value} {A B C : World} (h : KpB n₀ Bs v A B) (k : KpB n₀ Bs v B C) : KpB n₀ Bs v A C := ⟨h.1.trans k.1, fun x => k.2 (h.2 x)⟩
theorem KpB.b {n₀ Bs : Nat} {v : Value} {w : World} (hn : n₀ ≤ w.heap.size) (W : World) (l : Nat) (o o' : Obj) (hl : w.heap.size ≤ l) (h : W.heap[l]? = some o) (ho : o.isCells = false) (hw : o.isWalk = false) : KpB n₀ Bs v W (W.putObj l o') := by
  refine ⟨belowK_b hn W l o o' hl h ho hw, fun hc => ?_⟩
  exact cell_kept hc (grownBy_putObj' W l o') (fun r e => by cases e; exact ⟨o, h, ho⟩)
theorem back_stops (n Bs n₀ : Nat) (a : Option Addr) (len cap : Nat) (ev : Nat → Nat → Value) (hlen : len ≤ 17592186044416) (w : World) (hB : Bs < w.heap.size) (hn₀ : n₀ ≤ w.heap.size) (hn : 1 ≤ n)
    (hBs : w.cell? ⟨Bs, 0, none⟩ = some (.slice a len cap)) (hc : 0 < len → ∃ b off, a = some ⟨b, off, none⟩ ∧ b < n₀ ∧ ∀ i j, i < len → j < 6 → w.cell? ⟨b, off + i * 6 + j, none⟩ = some (ev i j)) :
    SeqStopsK Fence.wide n Try.prog 58 #[.pointer (some ⟨Bs, 0, none⟩)] (entArg ev) (KpB n₀ Bs (.slice a len cap)) (fun ys => ys = dn len len) (fun pre => ∃ k, k ≤ len ∧ pre = dn len k) len w := fun l J Jx W hW _ _ hY h0 => by
  have hc' := (hW.cell (p := ⟨Bs, 0, none⟩) hB).trans hBs
  by_cases h : 0 < len
  · obtain ⟨b, off, rfl, hb, hcs⟩ := hc h
    refine (back1_in n l Bs n₀ b off len cap ev hlen hb (fun pre W => J pre W ∧ W.cell? ⟨Bs, 0, none⟩ = some (.slice (some ⟨b, off, none⟩) len cap)) Jx ?_ W (fun _ _ h => h.2) (fun i j hi hj => (hW.cell (p := ⟨b, off + i * 6 + j, none⟩) (by show b < _; omega)).trans (hcs i j hi hj)) ⟨h0, hc'⟩ hn).mono ?_
    · rintro pre x W1 ⟨hj, hx⟩ hl
      refine YieldAt.mono (hY pre x W1 hj hl) ?_
      rintro e W' (⟨rfl, h1, h2⟩ | ⟨rfl, h1⟩)
      · exact .inl ⟨rfl, ⟨h1, h2.2 hx⟩, h2.1⟩
      · exact .inr ⟨rfl, h1⟩
    · rintro e W' ⟨he, ⟨ys, rfl, hj⟩ | ⟨pre, hp, hj⟩⟩
      · exact ⟨he, .inl ⟨_, rfl, hj.1⟩⟩
      · exact ⟨he, .inr ⟨_, hp, hj⟩⟩
  · obtain rfl : len = 0 := by omega
    exact (back1_nil_in n l Bs a cap J W hc' h0).mono fun e W' ⟨he, hj⟩ => ⟨he, .inl ⟨_, rfl, hj⟩⟩
end Go.Proofs.Yteiojclemodhaaa
