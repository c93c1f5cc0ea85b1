/- The symbolic walk: a slice literal. No condition. -/
import Derived.Test.YteiojclemodhaaaSyQ
namespace Go.Proofs.Yteiojclemodhaaa
open Go.RowKit Go.ChangeShapes Go.WideShapes Go.Deep
set_option linter.unusedVariables false
set_option linter.unusedSimpArgs false
section ops
variable {P : Program} {base : Nat} {X : Cx} {w0 : World} {st : St}
/-- cells as a row -/
def rowsOf (k : Nat) : Nat → List SV → RL → List Nat → Option (RL × List Nat)
  | 0, _, r, ms => some (r, ms)
  | n + 1, out, r, ms => match r.snoc (out.take k) with
    | some (r2, m) => rowsOf k n (out.drop k) r2 (ms ++ m)
    | none => none
theorem rowsOf_ok {E : Env} {w : World} {k : Nat} : ∀ (n : Nat) (out : List SV) (zs : List Value) (r : RL) (ms : List Nat) (r2 : RL) (ls : List Nat), rowsOf k n out r ms = some (r2, ls) → DenL E w out zs →
    r2.tys = r.tys ∧ (∀ i, i ∈ ms → i ∈ ls) ∧ ∃ ds, ds.length = n ∧ r2.rows = r.rows ++ ds ∧ ∀ i, i < n → RdL w (E.set ls) r.tys ((zs.drop (i * k)).take k) (ds.getD i [])
  | 0, out, zs, r, ms, r2, ls, h, hd => by
    simp only [rowsOf, Option.some.injEq, Prod.mk.injEq] at h
    obtain ⟨rfl, rfl⟩ := h
    exact ⟨rfl, fun i hi => hi, [], rfl, by simp, fun i hi => absurd hi (by omega)⟩
  | n + 1, out, zs, r, ms, r2, ls, h, hd => by
    simp only [rowsOf] at h
    split at h
    case h_2 => simp at h
    rename_i r1 m e
    obtain ⟨g1, g2, d, g3, g4⟩ := RL.snoc_ok e
    obtain ⟨q1, q2, ds, q3, q4, q5⟩ := rowsOf_ok n _ (zs.drop k) r1 _ r2 ls h (hd.drop k)
    refine ⟨q1.trans g1, fun i hi => q2 i (List.mem_append_left _ hi), d :: ds, by simp [q3], by rw [q4, g3]; simp, fun i hi => ?_⟩
    cases i with
    | zero =>
      have := g4 E w _ (hd.take k)
      simp only [Nat.zero_mul, List.drop_zero, List.getD_cons_zero]
      exact this.mono fun b _ hb => Env.set_mono (fun i hi => q2 i (List.mem_append_right _ hi)) b hb
    | succ i =>
      have := q5 i (by omega)
      rw [List.drop_drop, g1] at this
      rw [List.getD_cons_succ, show (i + 1) * k = k + i * k by rw [Nat.add_mul]; omega]
      exact this
theorem take_row {E : Env} {w : World} (h : MemOk base X w0 E st.m w) {c : Nat} (hc : st.m c = .empty) (T : TypeId) {xs : List Value} {ls : List Nat} {r : RL} {n : Nat}
    (hO : OwnR 0 (w.alloc (.cells xs.toArray T)) T (E.set ls) r.tys (.slice (some ⟨w.heap.size, 0, none⟩) n n) r.rows) :
    MemOk base X w0 (E.setβ c (.slice (some ⟨w.heap.size, 0, none⟩) n n)) (putF [(c, .row T ls r)] st.m) (w.alloc (.cells xs.toArray T)) ∧ E.Le (E.setβ c (.slice (some ⟨w.heap.size, 0, none⟩) n n)) ∧ Same E.lab w (w.alloc (.cells xs.toArray T)) := by
  have hE := Env.setβ_le (h.empty c hc).1 (.slice (some ⟨w.heap.size, 0, none⟩) n n)
  have hS : Same E.lab w (w.alloc (.cells xs.toArray T)) := Same.alloc _ _ _
  refine ⟨?_, hE, hS⟩
  rw [putF_one]
  refine h.take hc _ _ (by simp) (by simp) (fun b hb => ?_) ⟨rfl, rfl, rfl, by simp, fun b hb _ => Below.heap_alloc _ _ _ (Nat.lt_of_lt_of_le hb h.base)⟩ (fun b hb => ?_) hO
  · have : b < w.heap.size := by
      rcases hb with ⟨i, hi⟩ | ⟨t, ht⟩
      · exact (h.lab i b hi).1
      · exact h.lt ht
    exact Below.heap_alloc _ _ _ this
  · simp [vblock] at hb
    subst hb
    exact ⟨fun ⟨i, hi⟩ => Nat.lt_irrefl _ (h.lab i _ hi).1, fun t ht => Nat.lt_irrefl _ (h.lt ht), .inl h.base⟩
def zeroS (z : Value) (n : Nat) : List SV := (List.range n).map fun j => ofC (z.cells[j % z.cells.size]!)
def cLit (P : Program) (st : St) (c : Nat) (T : TypeId) (len : Nat) (parts : Array (Nat × Operand)) : Option Upd :=
  match sliceE P T with
  | some e => match (P.info? e).bind (·.zero), sizeT P e, RL.ofT e with
    | some z, some k, some r0 => if 0 < len * k ∧ len * k ≤ 16777216 ∧ len ≤ 1000000 then (match fillS (fun i => some (i * k, k)) (zeroS z (len * k)) (partsS st parts.toList).1 with
      | some out => match rowsOf k len out r0 [] with
        | some (r, ls) => if k = r0.tys.length ∧ st.free c = true ∧ out.length = len * k then some ⟨(partsS st parts.toList).2, .own c, [(c, .row e ls r)]⟩ else none
        | none => none
      | none => none) else none
    | _, _, _ => none
  | none => none
theorem cLit_ok (o : Oper) (c : Nat) (T : TypeId) (len : Nat) (parts : Array (Nat × Operand)) (ho : o.op = .buildSlice T len parts) {u : Upd} (hu : cLit P st c T len parts = some u) : Does P base X w0 st o u := by
  unfold cLit at hu
  split at hu
  case h_2 => simp at hu
  rename_i e he
  split at hu
  case h_2 => simp at hu
  rename_i z k r0 hz hk hr0
  split at hu
  case isFalse => simp at hu
  rename_i hb
  obtain ⟨hb0, hb1, hb2⟩ := hb
  split at hu
  case h_2 => simp at hu
  rename_i out hout
  split at hu
  case h_2 => simp at hu
  rename_i r ls hrow
  split at hu
  case isFalse => simp at hu
  rename_i hc
  obtain ⟨hkr, hfree, hol⟩ := hc
  simp only [Option.some.injEq] at hu
  subst hu
  have hcE := St.of_free hfree
  intro E a w K Q h hn hK
  have hp := partsS_ok h parts.toList hn
  obtain ⟨zr, hr, hd⟩ := fillS_ok (E := E) (w := w) (zs := (Array.range (len * k)).map (fun j => z.cells[j % z.cells.size]!)) (vals := valsP a parts.toList) hout (by
    have := ofCs_ok E w ((List.range (len * k)).map fun j => z.cells[j % z.cells.size]!)
    simpa [zeroS, Function.comp_def] using this) (by rw [hp.1]; simp [valsP]) (fun i hi => hp.2 i (by rw [hp.1] at hi; exact hi))
  obtain ⟨q1, _, ds, q3, q4, q5⟩ := rowsOf_ok (E := E) (w := w) len out zr.toList r0 [] r ls hrow hd
  rw [RL.ofT_ok hr0, List.nil_append] at q4
  have hzl : zr.toList.length = len * k := by rw [hd.len, hol]
  have hO : OwnR 0 (w.alloc (.cells zr.toList.toArray e)) e (E.set ls) r.tys (.slice (some ⟨w.heap.size, 0, none⟩) len len) r.rows := by
    refine ⟨zr.toList, ⟨by rw [q4, q3, q1, ← hkr]; exact hzl, .inr ⟨w.heap.size, len, zr.toList.toArray, by rw [q4, q3], Nat.zero_le _, heap_alloc_new _ _, by rw [q4, q3]; exact Nat.le_refl _, by unfold maxLen; omega, by rw [q1, ← hkr]; simpa using hzl, ?_⟩⟩, fun i hi => ?_⟩
    · rw [q4, q3, q1, ← hkr]; rw [List.take_of_length_le]; rw [← hzl]; exact Nat.le_refl _
    · rw [q4, q3] at hi
      rw [q4, q1, ← hkr]
      have := q5 i hi
      have h2 : RdL w (fun b => (E.set ls b ∧ Value.ownBlock (.slice (some ⟨w.heap.size, 0, none⟩) len len) ≠ some b)) r0.tys ((zr.toList.drop (i * k)).take k) (ds.getD i []) := this.mono fun b hb hs => ⟨hs, fun e2 => by
        simp only [Value.ownBlock, Option.some.injEq] at e2; omega⟩
      exact h2.same (Same.alloc _ _ _)
  obtain ⟨m1, m2, m3⟩ := take_row (st := st) h.mem hcE e hO
  refine wp_value (v := .slice (some ⟨w.heap.size, 0, none⟩) len len) (w' := w.alloc (.cells zr.toList.toArray e)) ?_ (hK _ _ _ m2 m3 ⟨if_pos rfl, rfl⟩ m1)
  cases hi : P.info? e with
  | none => simp [hi] at hz
  | some inf =>
    simp [hi] at hz
    have hrr : Instr.fill (fun i => some (i * k, k)) ((Array.range (len * k)).map (fun j => z.cells[j % z.cells.size]!)) (parts.map fun (i, x) => (i, a.eval x)).toList = some zr := by
      have e2 : (parts.map fun (i, x) => (i, a.eval x)).toList = valsP a parts.toList := by simp [valsP]
      rw [e2]; exact hr
    have hnz : ¬ (len * k = 0) := by omega
    have hng : ¬ (len * k > 2 ^ 24) := by omega
    simp only [execOp, ho, Instr.buildSlice, zeroValue, typeInfo, Sem.run_bind, run_program, hi, hz, Result.andThen, Sem.run_pure, run_underlying (sliceE_ok he), run_sizeOf' hk, hng, hnz, if_false, hrr, newRow]
    rfl
end ops
end Go.Proofs.Yteiojclemodhaaa
