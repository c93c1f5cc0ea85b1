/- The contracts of slices.Grow at a nil row, and of slices.Concat at two rows. Condition: rows of at most 2^40 numbers. -/
import Derived.Test.YtejahcpnbkegfaaWithout
import Derived.Lib.AppendZeros
namespace Go.Proofs.Ytejahcpnbkegfaa
open Go.RowKit
set_option linter.unusedVariables false
/-- append of a row that came in, nil or not -/
theorem wpList_appAny {ops : Array Oper} {rest : List Oper} {o : Oper} {a : Act} {Q : Exit → Act → World → Prop} {wr : World} (hgd : o.guard = none) (s x : Operand) (t : TypeId)
    (ho : o.op = .call { callee := .builtin .append, args := #[s, x], argTypes := #[t, t] }) (ht : Try.prog.underlying t = some (.slice 3))
    (base : Nat) (v : Value) (xs : List Int) (hs : a.eval s = v) (hown : OwnI base wr v xs) (ao : Option Addr) (m c : Nat) (ys : List Int) (hsl : IntSl wr ao m ys) (hnil : ao = none → c = 0) (hx : a.eval x = .slice ao m c)
    (hn : xs.length + m < 8796093022208) (hbase : base ≤ wr.heap.size)
    (h : ∀ v' w', OwnI base w' v' (xs ++ ys) → wr.grownBy w' v.ownBlock → wpList Try.prog ops Q rest (a.put o.dst v') w') : wpList Try.prog ops Q (o :: rest) a wr := by
  cases ao with
  | some ad => exact wpList_appN hgd s x t ho ht base v xs hs hown ad m c ys hsl hx hn hbase h
  | none =>
    obtain ⟨rfl, rfl⟩ := hsl.none
    obtain rfl : c = 0 := hnil rfl
    obtain ⟨i0, hi, hz0, hz1, hz2⟩ := info_parts infoInt
    refine Lib.wpList_append_run _ hgd s x t t ho v _ hs hx v wr (run_append_owned_none wr base t o.type 3 i0 1 ht hi v xs.length _ hown) ?_
    exact h v wr (by rw [List.append_nil]; exact hown) (World.grownBy.refl _ _)
theorem zeroCells_size (n : Nat) : (Builtin.zeroCells #[Value.int .i64 0] n).size = n := by simp [Builtin.zeroCells]
set_option maxRecDepth 100000 in
theorem grow_nil (n : Nat) (N : Int) (w : World) (hN : N = n) (hn : n ≤ 2199023255552) :
    Calls Try.prog 56 #[.slice none 0 0, .int .i64 N] w (OwnPost w []) := by
  subst hN
  obtain ⟨i0, hi, hz0, hz1, hz2⟩ := info_parts infoInt
  by_cases h0 : n = 0
  · subst h0
    go_enter Try.func56, Try.ntmps56
    go_wp2
    go_ret
    exact ⟨_, rfl, OwnI.nil _ _, Below.refl _ _⟩
  · have t1 : ¬ (n : Int) < 0 := by omega
    have t2 : (0 : Int) < (n : Int) := by omega
    have hr := fun ty => Lib.run_append_nil_zeros (P := Try.prog) w 22 3 ty 3 i0 (.int .i64 0) .i64 .i64 Try.underlying22 Try.underlying3 hi hz0 n (by omega) (by omega) (by omega) (by rw [hz2]; omega)
    have HR := Lib.hid hr
    have hcap := grownCap_ge w n 0 3
    have hcap2 := grownCap_le_maxLen w n 0 3 (by unfold maxLen; omega)
    clear hr
    go_enter Try.func56, Try.ntmps56
    go_wp2_with (at_builtin; refine Lib.wpList_append_run _ rfl (.tmp 20) (.tmp 21) 22 3 rfl _ _ rfl rfl _ _ (HR.out _) ?_)
    go_ret
    refine ⟨_, rfl, ?_, ((Below.refl _ _).alloc (Nat.le_refl _) _).drew⟩
    refine World.ownsRow_made w _ _ (Nat.le_refl _) hcap2 ?_
    simp only [Array.size_append, zeroCells_size]; omega
theorem concat2_any (gr : Nat) (a : Option Addr) (n ca : Nat) (xs : List Int) (b : Option Addr) (m cb : Nat) (ys : List Int) (w : World)
    (h0 : w.cell? ⟨gr, 0, none⟩ = some (.slice a n ca)) (h1 : w.cell? ⟨gr, 1, none⟩ = some (.slice b m cb)) (hgr : gr < w.heap.size) (ha : IntSl w a n xs) (hb : IntSl w b m ys) (hna : a = none → ca = 0) (hnb : b = none → cb = 0) (hn : n ≤ 1099511627776) (hm : m ≤ 1099511627776) :
    Calls Try.prog 52 #[.slice (some ⟨gr, 0, none⟩) 2 2] w (OwnPost w (xs ++ ys)) := by
  have q1 : (0 : Int) ≤ (n : Int) := by omega
  have q2 : (0 : Int) ≤ (n : Int) + (m : Int) := by omega
  have H0 := Lib.hid h0
  have H1 := Lib.hid h1
  have hla := ha.len
  have hlx := Lib.hid (show ([] ++ xs).length + m < 8796093022208 by simp; omega)
  clear hla
  go_enter Try.func52, Try.ntmps52
  go_wp2
  refine wp_loop_rounds 3 ?_
  rw [rounds_succ]
  go_wp2
  rw [rounds_succ]
  go_wp2
  rw [rounds_succ]
  go_wp2_with fail
  refine (grow_nil (n + m) _ _ (by omega) (by omega)).mono ?_
  rintro e w1 ⟨v1, rfl, ho1, hb1⟩
  have g0 : w1.cell? ⟨gr, 0, none⟩ = some (.slice a n ca) := by rw [hb1.cell (p := ⟨gr, 0, none⟩) hgr]; exact H0.out
  have z1 := hb1.size
  clear h0 h1
  have HO1 := Lib.hid ho1
  have HB1 := Lib.hid hb1
  have ha1 := Lib.hid (ha.below hb1)
  clear ho1 hb1
  go_wp2_with fail
  refine wp_loop_rounds 3 ?_
  rw [rounds_succ]
  go_wp2_with (at_builtin; refine wpList_appAny rfl (.tmp 31) (.tmp 32) 22 rfl Try.underlying22 w.heap.size _ [] rfl HO1.out a n ca xs ha1.out hna rfl (by simp; omega) z1 ?_; intro v2 w2 ho2 hg2; have HO2 := Lib.hid ho2; have HB2 := Lib.hid (HO1.out.bel HB1.out hg2 z1); clear ho2 hg2; have g1 : w2.cell? ⟨gr, 1, none⟩ = some (.slice b m cb) := (HB2.out.cell (p := ⟨gr, 1, none⟩) hgr).trans H1.out; have hb2 := Lib.hid (hb.below HB2.out); have z2 := HB2.out.size)
  rw [rounds_succ]
  go_wp2_with (at_builtin; refine wpList_appAny rfl (.tmp 31) (.tmp 32) 22 rfl Try.underlying22 w.heap.size _ ([] ++ xs) rfl HO2.out b m cb ys hb2.out hnb rfl hlx.out z2 ?_; intro v3 w3 ho3 hg3; have HO3 := Lib.hid ho3; have HB3 := Lib.hid (HO2.out.bel HB2.out hg3 z2); clear ho3 hg3)
  rw [rounds_succ]
  go_wp2
  go_ret
  exact ⟨_, rfl, by have := HO3.out; rwa [List.nil_append] at this, HB3.out⟩
end Go.Proofs.Ytejahcpnbkegfaa
