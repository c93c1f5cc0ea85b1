/- The symbolic walk: all operations together; contracts that were proved otherwise, of numbers, truths and rows. No condition. -/
import Derived.Test.YtejahcpnbkegfaaSxV
import Derived.Test.YtejahcpnbkegfaaClone
import Derived.Test.YtejahcpnbkegfaaBase
namespace Go.Proofs.Ytejahcpnbkegfaa
open Go.RowKit Go.ChangeShapes Go.WideShapes Go.Deep
set_option linter.unusedVariables false
set_option linter.unusedSimpArgs false
def moreA (P : Program) (c : Nat) (st : St) (ty : TypeId) : Op → Option Upd
  | .store T x y => cPut P st T x y
  | .call ⟨.builtin .min, ⟨[x, y]⟩, _⟩ => cMin st x y
  | .call ⟨.builtin .max, ⟨[x, y]⟩, _⟩ => cMax st x y
  | _ => none
theorem moreA_ok (P : Program) : MoreOk P (moreA P) := by
  intro c st o u base X w0 h
  generalize ho : o.op = op at h
  unfold moreA at h
  split at h
  · exact cPut_ok o _ _ _ ho h
  · exact cMin_ok o _ _ _ ho h
  · exact cMax_ok o _ _ _ ho h
  · simp at h
theorem moreA_loc (P : Program) : MoreLoc (moreA P) := by
  intro c a b ty op h
  unfold moreA
  split
  · rename_i T x y
    have hx := h.ev x (by simp [Op.operands])
    have ht := fun t => h.tag (x := x) (by simp [Op.operands]) (t := t)
    simp only [cPut, h.ev y (by simp [Op.operands])]
    rw [← hx]
    rcases hs : strip (a.ev x) with ⟨s, n⟩
    rw [hs] at ht
    cases s
    case oel t sz i off =>
      have e2 := ht t (by simp [leafTags])
      rcases strip (b.ev y) with ⟨s2, n2⟩
      cases sizeT P T with
      | none => rfl
      | some k => simp only [e2]
    all_goals rfl
  · rename_i x y ts; simp only [cMin, h.ev x (by simp [Op.operands, Call.operands]), h.ev y (by simp [Op.operands, Call.operands])]
  · rename_i x y ts; simp only [cMax, h.ev x (by simp [Op.operands, Call.operands]), h.ev y (by simp [Op.operands, Call.operands])]
  · rfl
abbrev D2 : List BE := [.dead, .dead]
abbrev D3 (l : List Int) : List BE := [.dead, .dead, .row 3 [] (.rInts l)]
theorem FnC.of_bool {P : Program} {f : FuncId} {ins : List SV} {b : Bool} (hB : FnB P f) (h : ∀ (w : World) (S : Nat → Prop) (vals : List Value), DenL (E0 S) w ins vals → Calls P f vals.toArray w (TPost w b)) : FnC P f ins (.bool b) D2 :=
  FnC.of_below hB fun w S vals hd => (h w S vals hd).mono (by rintro e w' ⟨rfl, hb⟩; exact ⟨_, rfl, hb, rfl⟩)
theorem FnC.of_int {P : Program} {f : FuncId} {ins : List SV} {n : Int} (hB : FnB P f) (hn : (Lit.int .i64 n).wf = true) (h : ∀ (w : World) (S : Nat → Prop) (vals : List Value), DenL (E0 S) w ins vals → Calls P f vals.toArray w (IPost w n)) : FnC P f ins (.int .i64 n) D2 :=
  FnC.of_below hB fun w S vals hd => (h w S vals hd).mono (by rintro e w' ⟨rfl, hb⟩; exact ⟨_, rfl, hb, rfl, hn⟩)
theorem OwnI.toR {base : Nat} {w : World} {v : Value} {xs : List Int} (h : OwnI base w v xs) (hx : ∀ x ∈ xs, I64 x) (S : Nat → Prop) : OwnR base w 3 S [.int .i64] v (ints xs) := by
  refine ⟨xs.map (Value.int .i64), by rw [ints_len]; exact h, fun i hi => ?_⟩
  rw [ints_len] at hi
  have e1 : (((xs.map (Value.int .i64)).drop (i * 1)).take 1) = [.int .i64 (xs[i])] := by
    rw [Nat.mul_one, List.drop_eq_getElem_cons (by simpa using hi)]; simp
  have e2 : (ints xs).getD i [] = [.int xs[i]] := by simp [ints, List.getD, hi]
  show RdL _ _ [.int .i64] (((xs.map (Value.int .i64)).drop (i * 1)).take 1) _
  rw [e1, e2]
  exact ⟨.ofI64 (hx _ (List.getElem_mem hi)), trivial⟩
/-- a row of the callee's own -/
theorem memRow {S : Nat → Prop} {w w' : World} (hS : ∀ b, S b → b < w.heap.size) (hb : Below w.heap.size w w') {T : TypeId} {r : RL} {v : Value} (ho : OwnR w.heap.size w' T (fun _ => False) r.tys v r.rows) :
    MemOk w.heap.size ⟨fun _ => False, S⟩ w ⟨fun t => if t = 2 then some v else none, fun i b => i = 0 ∧ S b⟩ (St.mk [] [.dead, .dead, .row T [] r]).m w' := by
  have hm : ∀ t, (St.mk [] [.dead, .dead, .row T [] r]).m t = if t < 2 then .dead else if t = 2 then .row T [] r else .empty := by
    intro t
    match t with
    | 0 => rfl
    | 1 => rfl
    | 2 => rfl
    | t + 3 => simp [St.m, List.getD]
  obtain ⟨a, c, ef⟩ := ho.form
  have hhas : ∀ t b, Has ⟨fun t => if t = 2 then some v else none, fun i b => i = 0 ∧ S b⟩ (St.mk [] [.dead, .dead, .row T [] r]).m t b → t = 2 ∧ w.heap.size ≤ b := by
    rintro t b ⟨hl, x, hx, hxb⟩
    rw [hm] at hl
    by_cases h2 : t = 2
    · subst h2
      simp only [if_true, Option.some.injEq] at hx
      subst hx
      exact ⟨rfl, (ho.lt b (by rw [vblock_own ⟨a, _, c, ef⟩]; exact hxb)).1⟩
    · rw [if_neg h2] at hl
      split at hl <;> cases hl
  refine ⟨fun t ht => ?_, fun t T' vs ht => ?_, fun t T' ls r' ht => ?_, fun i b hb' => ⟨Nat.lt_of_lt_of_le (hS b hb'.2) hb.size, fun h => absurd hb'.1 h⟩, fun t b hh => ?_, fun b hb' => hb'.2, fun t u b h1 h2 => ?_, ⟨hb.os, hb.tape, hb.output, hb.size, fun b h1 _ => hb.block b h1⟩, hb.size⟩
  · rw [hm] at ht
    by_cases h1 : t < 2
    · rw [if_pos h1] at ht; cases ht
    · by_cases h2 : t = 2
      · rw [if_neg h1, if_pos h2] at ht; cases ht
      · exact ⟨if_neg h2, fun b hb' => by have := hb'.1; omega⟩
  · rw [hm] at ht
    split at ht
    · cases ht
    · split at ht <;> cases ht
  · rw [hm] at ht
    by_cases h1 : t < 2
    · rw [if_pos h1] at ht; cases ht
    · by_cases h2 : t = 2
      · rw [if_neg h1, if_pos h2] at ht
        cases ht
        exact ⟨v, if_pos h2, ho.mono (Nat.zero_le _) (fun b hb' => hb'.elim)⟩
      · rw [if_neg h1, if_neg h2] at ht; cases ht
  · obtain ⟨rfl, hge⟩ := hhas t b hh
    exact ⟨fun ⟨i, hs⟩ => by have := hS b hs.2; omega, .inl hge⟩
  · rw [(hhas t b h1).1, (hhas u b h2).1]
theorem FnC.of_own {P : Program} {f : FuncId} {ins : List SV} {l : List Int} (hB : FnB P f) (h : ∀ (w : World) (S : Nat → Prop) (vals : List Value), DenL (E0 S) w ins vals → (∀ x ∈ l, I64 x) ∧ Calls P f vals.toArray w (OwnPost w l)) : FnC P f ins (.own 2) (D3 l) := by
  refine ⟨hB, fun w S vals hS hd => ?_⟩
  obtain ⟨hx, hc⟩ := h w S vals hd
  refine hc.mono ?_
  rintro e w' ⟨v, rfl, ho, hb⟩
  have ho2 := ho.toR hx (fun _ => False)
  obtain ⟨a, c, ef⟩ := ho2.form
  exact ⟨v, _, rfl, ⟨(by show (if 2 = 2 then some v else none) = some v; rw [if_pos rfl]), by rw [ef]; rfl⟩, memRow hS hb (r := .rInts l) ho2⟩
theorem FnC.of_set {P : Program} {f : FuncId} {ins : List SV} {l : List Int} {n : Int} (hB : FnB P f) (hn : (Lit.int .i64 n).wf = true) (h : ∀ (w : World) (S : Nat → Prop) (vals : List Value), DenL (E0 S) w ins vals → (∀ x ∈ l, I64 x) ∧ Calls P f vals.toArray w (fun e w' => ∃ v, e = .returned (.tuple #[v, .int .i64 n]) ∧ OwnI w.heap.size w' v l ∧ Below w.heap.size w w')) : FnC P f ins (.tup [.own 2, .int .i64 n]) (D3 l) := by
  refine ⟨hB, fun w S vals hS hd => ?_⟩
  obtain ⟨hx, hc⟩ := h w S vals hd
  refine hc.mono ?_
  rintro e w' ⟨v, rfl, ho, hb⟩
  have ho2 := ho.toR hx (fun _ => False)
  obtain ⟨a, c, ef⟩ := ho2.form
  exact ⟨_, _, rfl, ⟨[v, .int .i64 n], rfl, ⟨(by show (if 2 = 2 then some v else none) = some v; rw [if_pos rfl]), by rw [ef]; rfl⟩, ⟨rfl, hn⟩, trivial⟩, memRow hS hb (r := .rInts l) ho2⟩
theorem arg_int {E : Env} {w : World} {n : Int} {v : Value} (h : DenV E w (.int .i64 n) v) : v = .int .i64 n ∧ I64 n := ⟨h.1, lit_bd h.2⟩
/-- a struct of new memory -/
theorem FnC.of_agg {P : Program} {f : FuncId} {ins : List SV} {cs : List SV} {ty : List Ty} {d : List D} (hB : FnB P f) (hcs : ∀ (E : Env) (w : World) (vs : List Value), RdL w (E.set [1]) ty vs d → DenL E w cs vs) (h : ∀ (w : World) (S : Nat → Prop) (vals : List Value), DenL (E0 S) w ins vals → Calls P f vals.toArray w (APost w ty d)) : FnC P f ins (.agg cs) D2 :=
  FnC.of_below hB fun w S vals hd => (h w S vals hd).mono (by
    rintro e w' ⟨vs, rfl, hr, hb⟩
    refine ⟨_, rfl, hb, vs, rfl, hcs _ _ _ (hr.mono fun b hlt hge => ⟨1, by simp, .inr ⟨rfl, hge, hlt⟩⟩)⟩)
end Go.Proofs.Ytejahcpnbkegfaa
