/- The contracts of slices.Clone at api.Set and at []int. Condition: a row of at most 2^40 numbers. -/
import Derived.Test.YtejahcpnbkegfaaApp
import Derived.WalkSpells
namespace Go.Proofs.Ytejahcpnbkegfaa
open Go.RowKit
set_option linter.unusedVariables false
theorem wpList_appN {ops : Array Oper} {rest : List Oper} {o : Oper} {a : Act} {Q : Exit → Act → World → Prop} {wr : World} (hgd : o.guard = none) (s x : Operand) (t : TypeId)
    (ho : o.op = .call { callee := .builtin .append, args := #[s, x], argTypes := #[t, t] }) (ht : Try.prog.underlying t = some (.slice 3))
    (base : Nat) (v : Value) (xs : List Int) (hs : a.eval s = v) (hown : OwnI base wr v xs) (ad : Addr) (m c : Nat) (ys : List Int) (hsl : IntSl wr (some ad) m ys) (hx : a.eval x = .slice (some ad) m c)
    (hn : xs.length + m < 8796093022208) (hbase : base ≤ wr.heap.size)
    (h : ∀ v' w', OwnI base w' v' (xs ++ ys) → wr.grownBy w' v.ownBlock → wpList Try.prog ops Q rest (a.put o.dst v') w') : wpList Try.prog ops Q (o :: rest) a wr := by
  obtain ⟨i0, hi, hz0, hz1, hz2⟩ := info_parts infoInt
  refine wpList_append_own _ hgd s x t ho base 3 i0 (.int .i64 0) 1 8 ht hi hz0 hz1 hz2 rfl (by decide) v xs.length (xs.map (Value.int .i64)) hs hown ad m c (ys.map (Value.int .i64)) hx (by simp [hsl.len]) ?_ (oneInts ys) (by unfold maxLen; omega) (by omega) hbase ?_
  · by_cases hp : 0 < m
    · obtain ⟨b, off, e, hlt, hc⟩ := hsl.row hp
      obtain rfl : ad = ⟨b, off, none⟩ := by simpa using e
      exact src_ints hsl.len hc
    · intro j u hj
      have : ys = [] := List.eq_nil_of_length_eq_zero (by rw [hsl.len]; omega)
      subst this; simp at hj
  intro v' w' ho' hg' _
  refine h v' w' ?_ hg'
  show World.ownsRow _ _ _ _ _ _ _
  have e1 : (xs ++ ys).length = xs.length + m := by simp [hsl.len]
  have e2 : (xs ++ ys).map (Value.int .i64) = xs.map (Value.int .i64) ++ ys.map (Value.int .i64) := by simp
  rw [e1, e2]; exact ho'
def OwnPost (w : World) (l : List Int) (e : Ending) (w' : World) : Prop := ∃ v, e = .returned v ∧ OwnI w.heap.size w' v l ∧ Below w.heap.size w w'
theorem IntSl.none {w : World} {n : Nat} {xs : List Int} (h : IntSl w none n xs) : n = 0 ∧ xs = [] := by
  by_cases hp : 0 < n
  · obtain ⟨b, off, e, _⟩ := h.row hp; cases e
  · have : n = 0 := by omega
    subst this
    exact ⟨rfl, List.eq_nil_of_length_eq_zero h.len⟩
theorem OwnI.empty (w : World) (t : TypeId) (ht : t = 3) : OwnI w.heap.size (w.alloc (.cells #[] t)) (.slice (some ⟨w.heap.size, 0, Option.none⟩) 0 0) [] := by
  subst ht; exact World.ownsRow_made w #[] 0 (Nat.le_refl _) (by unfold maxLen; omega) rfl
theorem clone_any (a : Option Addr) (n c : Nat) (xs : List Int) (w : World) (ha : IntSl w a n xs) (hn : n ≤ 1099511627776) :
    Calls Try.prog 49 #[.slice a n c] w (OwnPost w xs) := by
  cases a with
  | none =>
    obtain ⟨rfl, rfl⟩ := ha.none
    have k1 := fun (w : World) (n c : Nat) => Lib.run_eql_slice_nil (P := Try.prog) w 23 3 none n c 0 0 Try.underlying23
    go_enter Try.func49, Try.ntmps49
    go_wp2
    go_ret
    exact ⟨_, rfl, OwnI.nil _ _, Below.refl _ _⟩
  | some ad =>
    have k1 := fun (w : World) (n c : Nat) => Lib.run_eql_slice_nil (P := Try.prog) w 23 3 (some ad) n c 0 0 Try.underlying23
    go_enter Try.func49, Try.ntmps49
    go_wp2_with (at_builtin; refine wpList_appN rfl (.tmp 5) (.tmp 6) 23 rfl Try.underlying23 w.heap.size _ [] rfl (OwnI.empty w _ rfl) ad n c xs (ha.alloc _) rfl (by simp; omega) (by simp) ?_; intro v1 w1 ho1 hg1; have HO1 := Lib.hid ho1; have HB1 := Lib.hid ((OwnI.empty w _ rfl).bel ((Below.refl _ _).alloc (Nat.le_refl _) _) hg1 (by simp)); clear ho1 hg1)
    go_ret
    exact ⟨_, rfl, HO1.out, HB1.out⟩
end Go.Proofs.Ytejahcpnbkegfaa
