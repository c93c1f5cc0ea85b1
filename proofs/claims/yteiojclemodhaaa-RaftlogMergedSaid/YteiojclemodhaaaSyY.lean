/- The symbolic walk: closures, make, copy, parts of rows, a row beside nil, an empty row literal. No condition. -/
import Derived.Test.YteiojclemodhaaaSyW
import Derived.Lib.SliceRun
import Derived.Laws.OwnMore
import Derived.Laws.CopyOwn
namespace Go.Proofs.Yteiojclemodhaaa
open Go.RowKit Go.ChangeShapes Go.WideShapes Go.Deep
set_option linter.unusedVariables false
set_option linter.unusedSimpArgs false
section ops
variable {P : Program} {base : Nat} {X : Cx} {w0 : World} {st : St}
/-- a closure -/
def cMkFn (st : St) (f : FuncId) (xs : List Operand) : Upd :=
  match xs with
  | [] => ⟨[], .fn f, []⟩
  | x :: r => ⟨(evL st (x :: r)).2, .clo f (evL st (x :: r)).1, []⟩
theorem cMkFn_ok (o : Oper) (f : FuncId) (xs : Array Operand) (ho : o.op = .makeFunc (.func f) #[] xs) : Does P base X w0 st o (cMkFn st f xs.toList) := by
  obtain ⟨xs⟩ := xs
  cases xs with
  | nil => exact Does.pure fun E a w h hn => ⟨_, by simp [execOp, ho, Instr.makeFunc], rfl⟩
  | cons x r =>
    refine Does.pure fun E a w h hn => ?_
    have := evL_ok h (x :: r) hn
    exact ⟨.func (.func f) #[] ((x :: r).map a.eval).toArray, by simp [execOp, ho, Instr.makeFunc], _, rfl, this⟩
/-- make of numbers -/
def cMake (P : Program) (st : St) (c : Nat) (T : TypeId) (x y : Operand) : Option Upd :=
  match sliceE P T, strip (st.ev x), strip (st.ev y) with
  | some e, (.int k n, n1), (.int k' m, n2) => match RL.ofT e, (P.info? e).bind (·.zero) with
    | some (.rInts _), some (.int .i64 (.ofNat 0)) => if infoB P e 1 = true ∧ st.free c = true then some ⟨n1 ++ n2 ++ [n = m, 0 ≤ n, n ≤ 274877906944], .own c, [(c, .row e [] (.rInts (List.replicate n.toNat 0)))]⟩ else none
    | _, _ => none
  | _, _, _ => none
theorem cMake_ok (o : Oper) (c : Nat) (T : TypeId) (x y : Operand) (ho : o.op = .makeSlice T x y) {u : Upd} (hu : cMake P st c T x y = some u) : Does P base X w0 st o u := by
  unfold cMake at hu
  split at hu
  case h_2 => simp at hu
  rename_i e k n n1 k' m n2 e0 e1 e2
  split at hu
  case h_2 => simp at hu
  rename_i l0 hr0 hz
  split at hu
  case isFalse => simp at hu
  rename_i hc
  obtain ⟨hinfo, hfree⟩ := hc
  simp only [Option.some.injEq] at hu
  subst hu
  have hcE := St.of_free hfree
  intro E a w K Q h hn hK
  have hx := strip_ok (h.ev x) (fun p hp => hn p (by rw [e1] at hp; simp [hp]))
  have hy := strip_ok (h.ev y) (fun p hp => hn p (by rw [e2] at hp; simp [hp]))
  rw [e1] at hx
  rw [e2] at hy
  obtain ⟨hx, _⟩ := hx
  obtain ⟨hy, _⟩ := hy
  have h1 : n = m := hn _ (by simp)
  have h2 : 0 ≤ n := hn _ (by simp)
  have h3 : n ≤ 274877906944 := hn _ (by simp)
  subst h1
  obtain ⟨N, rfl⟩ : ∃ N : Nat, n = (N : Int) := ⟨n.toNat, by omega⟩
  obtain ⟨bytes, hb, i, z, i1, i2, i3, i4, i5⟩ := infoB_ok hinfo
  have hz' : z = .int .i64 0 := by
    rw [i1] at hz
    simp only [Option.bind_some, i2, Option.some.injEq] at hz
    exact hz
  subst hz'
  have hNN : N ≤ 274877906944 := by omega
  have hbb : (i.bytes : Int) * (N : Int) ≤ 281474976710656 := by
    have : i.bytes * N ≤ 1024 * 274877906944 := Nat.mul_le_mul (by omega) hNN
    have h' : ((i.bytes * N : Nat) : Int) ≤ 281474976710656 := by omega
    rwa [Int.natCast_mul] at h'
  have hrun := run_make (P := P) w T e i (.int .i64 0) (sliceE_ok e0) i1 i2 k k' N N (by omega) (Int.le_refl _) hbb (by omega)
  have hcells : madeCells (Value.int .i64 0).cells ((N : Int).toNat * i.size) = ((List.replicate N (0 : Int)).map (Value.int .i64)).toArray := by
    rw [i3]
    apply Array.ext
    · simp [madeCells, Value.cells]
    · intro j hj1 hj2
      simp [madeCells, Value.cells, Nat.mod_one]
  rw [hcells] at hrun
  simp only [Int.toNat_natCast] at hrun
  have hO : OwnR 0 (w.alloc (.cells ((List.replicate N (0 : Int)).map (Value.int .i64)).toArray e)) e (E.set []) (RL.rInts (List.replicate N (0 : Int))).tys (.slice (some ⟨w.heap.size, 0, none⟩) N N) (RL.rInts (List.replicate N (0 : Int))).rows := by
    refine ⟨(List.replicate N (0 : Int)).map (Value.int .i64), ⟨by simp [RL.rows, RL.tys, ints], .inr ⟨w.heap.size, N, ((List.replicate N (0 : Int)).map (Value.int .i64)).toArray, by simp [RL.rows, ints], Nat.zero_le _, heap_alloc_new _ _, by simp [RL.rows, ints], by unfold maxLen; omega, by simp [RL.tys], by simp [RL.rows, RL.tys, ints]⟩⟩, fun j hj => ?_⟩
    have hj : j < N := by simpa [RL.rows, ints] using hj
    have e3 : (((List.replicate N (0 : Int)).map (Value.int .i64)).drop (j * 1)).take 1 = [.int .i64 0] := by
      rw [Nat.mul_one, List.drop_eq_getElem_cons (by simpa using hj)]; simp
    have e4 : (RL.rInts (List.replicate N (0 : Int))).rows.getD j [] = [.int 0] := by simp [RL.rows, ints, List.getD, hj]
    rw [e4]
    show RdL _ _ [.int .i64] ((((List.replicate N (0 : Int)).map (Value.int .i64)).drop (j * 1)).take 1) _
    rw [e3]
    exact ⟨.int (by decide), trivial⟩
  obtain ⟨m1, m2, m3⟩ := take_row (st := st) h.mem hcE e hO
  refine wp_value (v := .slice (some ⟨w.heap.size, 0, none⟩) N N) (w' := w.alloc (.cells ((List.replicate N (0 : Int)).map (Value.int .i64)).toArray e)) ?_ (hK _ _ _ m2 m3 ⟨if_pos rfl, rfl⟩ m1)
  simp only [execOp, ho, hx, hy, Sem.run_bind, hrun, Result.andThen, Sem.run_pure]
/-- a row beside nil -/
def nilU (st : St) : SV → Option SV
  | .nil => some (.bool true)
  | .sl _ r => some (.ub r.nilP True)
  | .own t => match st.m t with
    | .row _ _ r => some (.ub r.nilP True)
    | _ => none
  | _ => none
def notU : SV → SV
  | .bool b => .bool !b
  | .ub p q => .ub q p
  | _ => .any
def cEqN (P : Program) (st : St) (op : BinOp) (T : TypeId) (x y : Operand) : Option Upd :=
  match sliceE P T, strip (st.ev y), op with
  | some _, (.nil, n2), .eql => match nilU st (strip (st.ev x)).1 with
    | some s => some ⟨(strip (st.ev x)).2 ++ n2, s, []⟩
    | none => none
  | some _, (.nil, n2), .neq => match nilU st (strip (st.ev x)).1 with
    | some s => some ⟨(strip (st.ev x)).2 ++ n2, notU s, []⟩
    | none => none
  | _, _, _ => none
theorem RL.nilP_of {r : RL} (h : r.rows = []) : r.nilP := by
  cases r <;> simpa [RL.rows, RL.nilP, ints] using h
theorem nilU_ok {E : Env} {a : Act} {w : World} (h : st.Ok base X w0 E a w) {s t : SV} (hs : nilU st s = some t) {v : Value} (hv : DenV E w s v) : ∃ ad n c, v = .slice ad n c ∧ DenV E w t (.bool ad.isNone) ∧ DenV E w (notU t) (.bool (!ad.isNone)) := by
  cases s
  case nil =>
    simp only [nilU, Option.some.injEq] at hs
    subst hs
    have : v = .slice none 0 0 := hv
    exact ⟨none, 0, 0, this, rfl, rfl⟩
  case sl ls r =>
    simp only [nilU, Option.some.injEq] at hs
    subst hs
    have hv : Rd w (E.set ls) (.sl r.tys) v (.sl r.rows) := hv
    obtain ⟨ad, c, rfl, hsl⟩ := hv.sl'
    have hk : ad.isNone = true → r.nilP := fun e => RL.nilP_of (by
      have : ad = none := by simpa using e
      exact List.eq_nil_of_length_eq_zero (hsl.bd.2.2.2 this).1)
    exact ⟨ad, _, c, rfl, ⟨_, rfl, hk, fun _ => trivial⟩, _, rfl, fun _ => trivial, fun e => hk (by simpa using e)⟩
  case own t2 =>
    simp only [nilU] at hs
    split at hs
    case h_2 => simp at hs
    rename_i Tb ls r hm
    simp only [Option.some.injEq] at hs
    subst hs
    obtain ⟨v', h1, ho⟩ := h.mem.row t2 _ _ _ hm
    have h2 := hv.1
    rw [h1] at h2
    simp only [Option.some.injEq] at h2
    subst h2
    obtain ⟨cells, hoR, _⟩ := ho
    rcases hoR.2 with ⟨rfl, hn⟩ | ⟨g, cap, cur, rfl, _⟩
    · have hk : r.nilP := RL.nilP_of (List.eq_nil_of_length_eq_zero hn)
      exact ⟨none, 0, 0, rfl, ⟨_, rfl, fun _ => hk, fun _ => trivial⟩, _, rfl, fun _ => trivial, fun _ => hk⟩
    · exact ⟨_, _, _, rfl, ⟨_, rfl, fun e => (by simp at e), fun _ => trivial⟩, _, rfl, fun _ => trivial, fun e => (by simp at e)⟩
  all_goals simp [nilU] at hs
theorem cEqN_ok (o : Oper) (op : BinOp) (T T2 : TypeId) (x y : Operand) (ho : o.op = .binOp op T x y T2) {u : Upd} (hu : cEqN P st op T x y = some u) : Does P base X w0 st o u := by
  unfold cEqN at hu
  split at hu
  · rename_i e n2 he e2
    split at hu
    case h_2 => simp at hu
    rename_i s hs
    simp only [Option.some.injEq] at hu
    subst hu
    refine Does.pure fun E a w h hn => ?_
    have hx := strip_ok (h.ev x) (fun p hp => hn p (by simp [hp]))
    have hy := strip_ok (h.ev y) (fun p hp => hn p (by rw [e2] at hp; simp [hp]))
    rw [e2] at hy
    have hy : a.eval y = .slice none 0 0 := hy
    obtain ⟨ad, n, c, hv, h1, h2⟩ := nilU_ok h hs hx
    refine ⟨_, ?_, h1⟩
    have hr := Lib.run_eql_slice_nil (P := P) w T e ad n c 0 0 (sliceE_ok he)
    simp only [execOp, ho, hv, hy, eqGuard, Sem.run_bind, Sem.run_pure, Result.andThen]
    simp [Sem.run_bind, Result.andThen]
    rw [hr]
  · rename_i e n2 he e2
    split at hu
    case h_2 => simp at hu
    rename_i s hs
    simp only [Option.some.injEq] at hu
    subst hu
    refine Does.pure fun E a w h hn => ?_
    have hx := strip_ok (h.ev x) (fun p hp => hn p (by simp [hp]))
    have hy := strip_ok (h.ev y) (fun p hp => hn p (by rw [e2] at hp; simp [hp]))
    rw [e2] at hy
    have hy : a.eval y = .slice none 0 0 := hy
    obtain ⟨ad, n, c, hv, h1, h2⟩ := nilU_ok h hs hx
    refine ⟨_, ?_, h2⟩
    have hr : (Op.equalIn 10000 T (.slice ad n c) (.slice none 0 0)).run P w = .ok ad.isNone w := Lib.run_equalIn_slice_nil (P := P) w 9999 T e ad n c 0 0 (sliceE_ok he)
    simp only [execOp, ho, hv, hy, eqGuard, Sem.run_bind, Sem.run_pure, Result.andThen, binOp, Op.equal, Op.maxDepth]
    simp [Sem.run_bind, Result.andThen]
    rw [hr]
    cases ad <;> rfl
  · simp at hu
/-- an empty slice literal -/
def cLit0 (P : Program) (st : St) (c : Nat) (T : TypeId) (len : Nat) (parts : Array (Nat × Operand)) : Option Upd :=
  match sliceE P T with
  | some e => match RL.ofT e, sizeT P e with
    | some r0, some _ => if len = 0 ∧ parts.size = 0 ∧ st.free c = true then some ⟨[], .own c, [(c, .row e [] r0)]⟩ else none
    | _, _ => none
  | none => none
theorem cLit0_ok (o : Oper) (c : Nat) (T : TypeId) (len : Nat) (parts : Array (Nat × Operand)) (ho : o.op = .buildSlice T len parts) {u : Upd} (hu : cLit0 P st c T len parts = some u) : Does P base X w0 st o u := by
  unfold cLit0 at hu
  split at hu
  case h_2 => simp at hu
  rename_i e he
  split at hu
  case h_2 => simp at hu
  rename_i r0 k hr0 hk
  split at hu
  case isFalse => simp at hu
  rename_i hc
  obtain ⟨rfl, hps, hfree⟩ := hc
  have hps : parts = #[] := by simpa using hps
  subst hps
  simp only [Option.some.injEq] at hu
  subst hu
  have hcE := St.of_free hfree
  intro E a w K Q h hn hK
  have hrows := RL.ofT_ok hr0
  have hO : OwnR 0 (w.alloc (.cells ([] : List Value).toArray e)) e (E.set []) r0.tys (.slice (some ⟨w.heap.size, 0, none⟩) 0 0) r0.rows := by
    rw [hrows]
    refine ⟨[], ⟨by simp, .inr ⟨w.heap.size, 0, ([] : List Value).toArray, rfl, Nat.zero_le _, heap_alloc_new _ _, Nat.le_refl _, by unfold maxLen; omega, by simp, by simp⟩⟩, fun i hi => absurd hi (by simp)⟩
  obtain ⟨m1, m2, m3⟩ := take_row (st := st) h.mem hcE e hO
  refine wp_value (v := .slice (some ⟨w.heap.size, 0, none⟩) 0 0) (w' := w.alloc (.cells ([] : List Value).toArray e)) ?_ (hK _ _ _ m2 m3 ⟨if_pos rfl, rfl⟩ m1)
  simp [execOp, ho, Instr.buildSlice, Sem.run_bind, Result.andThen, Sem.run_pure, run_underlying (sliceE_ok he), run_sizeOf' hk, newRow, Instr.fill, Array.range_zero']
end ops
end Go.Proofs.Yteiojclemodhaaa
