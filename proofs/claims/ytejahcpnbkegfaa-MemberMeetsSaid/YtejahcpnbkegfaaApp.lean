/- A row of numbers that the call itself makes, appended to one number at a time. Condition: fewer than 2^43 numbers. -/
import Derived.Test.YtejahcpnbkegfaaLend
namespace Go.Proofs.Ytejahcpnbkegfaa
open Go.RowKit
set_option linter.unusedVariables false
/-- v is a slice of the call's own (nil, or a row from block base on), and holds just xs -/
def OwnI (base : Nat) (w : World) (v : Value) (xs : List Int) : Prop := w.ownsRow base 3 1 v xs.length (xs.map (Value.int .i64))
theorem OwnI.nil (base : Nat) (w : World) : OwnI base w (.slice none 0 0) [] := World.ownsRow_nil w base _ _
theorem OwnI.kept {base : Nat} {w w' : World} {v : Value} {xs : List Int} {row : Option Nat} (h : OwnI base w v xs) (hg : w.grownBy w' row) (hne : v.ownBlock = none ∨ v.ownBlock ≠ row) : OwnI base w' v xs := World.ownsRow.kept h hg hne
theorem OwnI.drewN {base : Nat} {w : World} {v : Value} {xs : List Int} (h : OwnI base w v xs) (n : Nat) : OwnI base (w.drewN n) v xs := h
theorem OwnI.alloc {base : Nat} {w : World} {v : Value} {xs : List Int} (h : OwnI base w v xs) (o : Obj) : OwnI base (w.alloc o) v xs := World.ownsRow.alloc h o
theorem OwnI.below {base B : Nat} {w w' : World} {v : Value} {xs : List Int} (h : OwnI base w v xs) (hb : Below B w w') (hB : w.heap.size ≤ B) : OwnI base w' v xs := by
  refine ⟨h.1, ?_⟩
  rcases h.2 with h2 | ⟨g, cap, cur, hv, hg, hh, r⟩
  · exact Or.inl h2
  · exact Or.inr ⟨g, cap, cur, hv, hg, by rw [hb.block g (by have := (Array.getElem?_eq_some_iff.1 hh).1; omega)]; exact hh, r⟩
theorem OwnI.mono {base B : Nat} {w : World} {v : Value} {xs : List Int} (h : OwnI base w v xs) (hB : B ≤ base) : OwnI B w v xs := by
  refine ⟨h.1, ?_⟩
  rcases h.2 with h2 | ⟨g, cap, cur, hv, hg, hh, r⟩
  · exact Or.inl h2
  · exact Or.inr ⟨g, cap, cur, hv, by omega, hh, r⟩
/-- what such a slice is, and that it reads so -/
theorem OwnI.sl {base : Nat} {w : World} {v : Value} {xs : List Int} (h : OwnI base w v xs) (hb : ∀ x ∈ xs, -9223372036854775808 ≤ x ∧ x ≤ 9223372036854775807) :
    ∃ a c, v = .slice a xs.length c ∧ IntSl w a xs.length xs := by
  obtain ⟨h1, ⟨rfl, hn⟩ | ⟨g, cap, cur, rfl, hg, hh, hl, hm, hs, ht⟩⟩ := h
  · have hx : xs = [] := List.eq_nil_of_length_eq_zero hn
    subst hx
    exact ⟨none, 0, rfl, IntSl.nil w⟩
  · have hr : ∀ i, -9223372036854775808 ≤ el xs i ∧ el xs i ≤ 9223372036854775807 := by
      intro i
      rcases el_mem_or xs i with hm | h0
      · exact hb _ hm
      · rw [h0]; omega
    refine ⟨some ⟨g, 0, none⟩, cap, rfl, rfl, by unfold maxLen at hm; omega, fun hp => ⟨g, 0, rfl, (Array.getElem?_eq_some_iff.1 hh).1, fun i hi => ?_⟩, fun i => (hr i).1, fun i => (hr i).2⟩
    rw [Nat.zero_add]
    have e : (cur.toList.take (xs.length * 1))[i]? = (xs.map (Value.int .i64))[i]? := by rw [ht]
    rw [List.getElem?_take, if_pos (by omega)] at e
    simp only [World.cell?, hh]
    rw [← Array.getElem?_toList, e]
    simp [el, hi]
theorem one_new (w : World) (x : Value) (t : TypeId) : ∀ j u, [x][j]? = some u → (w.alloc (.cells #[x] t)).cell? ((⟨w.heap.size, 0, none⟩ : Addr).add j) = some u := by
  intro j u hj
  match j, hj with
  | 0, hj =>
    simp only [List.getElem?_cons_zero, Option.some.injEq] at hj
    subst hj
    rw [WideShapes.add_plain, World.cell?_alloc_at _ _ _ _ rfl]; rfl
theorem wpList_app1 {ops : Array Oper} {rest : List Oper} {o : Oper} {a : Act} {Q : Exit → Act → World → Prop} {wr : World} (hgd : o.guard = none) (s x : Operand) (t : TypeId)
    (ho : o.op = .call { callee := .builtin .append, args := #[s, x], argTypes := #[t, t] }) (ht : Try.prog.underlying t = some (.slice 3))
    (base : Nat) (v : Value) (xs : List Int) (hs : a.eval s = v) (hown : OwnI base wr v xs) (y : Int) (T : TypeId) (ad : Addr) (had : ad = ⟨wr.heap.size, 0, none⟩) (hx : a.eval x = .slice (some ad) 1 1)
    (hn : xs.length < 8796093022208) (hbase : base ≤ wr.heap.size)
    (h : ∀ v' w', OwnI base w' v' (xs ++ [y]) → wr.grownBy w' v.ownBlock → wpList Try.prog ops Q rest (a.put o.dst v') w') : wpList Try.prog ops Q (o :: rest) a (wr.alloc (.cells #[.int .i64 y] T)) := by
  obtain ⟨i0, hi, hz0, hz1, hz2⟩ := info_parts infoInt
  subst had
  refine wpList_append_own _ hgd s x t ho base 3 i0 (.int .i64 0) 1 8 ht hi hz0 hz1 hz2 rfl (by decide) v xs.length (xs.map (Value.int .i64)) hs (World.ownsRow.alloc hown _) ⟨wr.heap.size, 0, none⟩ 1 1 [.int .i64 y] hx rfl (one_new _ _ _) (by simp [Value.oneCell']) (by unfold maxLen; omega) (by omega) (by simp; omega) ?_
  intro v' w' ho' hg' _
  refine h v' w' ?_ ?_
  · show World.ownsRow _ _ _ _ _ _ _
    have e1 : (xs ++ [y]).length = xs.length + 1 := by simp
    have e2 : (xs ++ [y]).map (Value.int .i64) = xs.map (Value.int .i64) ++ [.int .i64 y] := by simp
    rw [e1, e2]; exact ho'
  · exact ⟨hg'.os, hg'.tape, hg'.output, by have := hg'.size; simp at this; omega, fun k hk hne => by rw [hg'.block k (by simp; omega) hne, Below.heap_alloc _ _ _ hk]⟩
/-- behind an append that may write the call's own row: below base all is as it was -/
theorem OwnI.bel {base : Nat} {w0 wr w' : World} {v : Value} {xs : List Int} (h : OwnI base wr v xs) (hb : Below base w0 wr) (hg : wr.grownBy w' v.ownBlock) (hbase : base ≤ wr.heap.size) : Below base w0 w' :=
  hb.grown hg hbase (fun k hk => (World.ownsRow.lt h k hk).1)
end Go.Proofs.Ytejahcpnbkegfaa
