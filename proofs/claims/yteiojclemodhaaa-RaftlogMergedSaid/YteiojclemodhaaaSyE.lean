/- The operations of the symbolic walk: elements, numbers, lengths, parts of tuples. No condition. -/
import Derived.Test.YteiojclemodhaaaSyD
namespace Go.Proofs.Yteiojclemodhaaa
open Go.RowKit Go.ChangeShapes Go.WideShapes Go.Deep
set_option linter.unusedVariables false
set_option linter.unusedSimpArgs false
section ops
variable {P : Program} {base : Nat} {X : Cx} {w0 : World} {st : St}
theorem OwnR.bd {b : Nat} {w : World} {T : TypeId} {S : Nat → Prop} {fs : List Ty} {v : Value} {rows : List (List D)} (h : OwnR b w T S fs v rows) : rows.length ≤ 9223372036854775807 := by
  obtain ⟨cells, ⟨_, ⟨rfl, hn⟩ | ⟨g, cap, cur, rfl, _, _, h1, h2, _⟩⟩, _⟩ := h
  · omega
  · unfold maxLen at h2; omega
def sliceE (P : Program) (T : TypeId) : Option TypeId :=
  match P.underlying T with
  | some (.slice e) => some e
  | _ => none
theorem sliceE_ok {T e : TypeId} (h : sliceE P T = some e) : P.underlying T = some (.slice e) := by
  unfold sliceE at h
  split at h
  case h_2 => simp at h
  rename_i hu
  simp only [Option.some.injEq] at h
  rw [hu, h]
/-- the address of an element -/
def cIndexAddr (P : Program) (st : St) (T : TypeId) (x i : Operand) : Option Upd :=
  match sliceE P T, strip (st.ev i) with
  | some e, (.int k n, n1) => match strip (st.ev x), sizeT P e with
    | (.sl ls r, n2), some sz => if sz = r.tys.length then some ⟨n1 ++ n2 ++ [0 ≤ n, n < (r.len : Int)], .el ls r n.toNat 0, []⟩ else none
    | (.own t, n2), some sz => match st.m t with
      | .row _ _ r => if sz = r.tys.length then some ⟨n1 ++ n2 ++ [0 ≤ n, n < (r.len : Int)], .oel t sz n.toNat 0, []⟩ else none
      | _ => none
    | _, _ => none
  | _, _ => none
theorem run_indexAt {T e : TypeId} (hu : P.underlying T = some (.slice e)) {sz : Nat} (hsz : sizeT P e = some sz) {b off len c : Nat} {k : IntKind} {n : Int} (h0 : 0 ≤ n) (h1 : n < (len : Int)) (w : World) :
    (Instr.indexAt T (.slice (some ⟨b, off, none⟩) len c) (.int k n)).run P w = .ok (.pointer (some ⟨b, off + n.toNat * sz, none⟩)) w := by
  simp [Instr.indexAt, asIntOf, run_underlying hu, h0, h1, run_sizeOf' hsz, Addr.add0, Sem.run_bind]
theorem cIndexAddr_ok (o : Oper) (T : TypeId) (x i : Operand) (ho : o.op = .indexAddr T x i) {u : Upd} (hu : cIndexAddr P st T x i = some u) : Does P base X w0 st o u := by
  unfold cIndexAddr at hu
  split at hu
  case h_2 => simp at hu
  rename_i e k n n1 he ei
  have hund := sliceE_ok he
  split at hu
  case h_3 => simp at hu
  · rename_i ls r n2 sz ex hsz
    split at hu
    case isFalse => simp at hu
    rename_i hrs
    simp only [Option.some.injEq] at hu
    subst hu
    refine Does.pure fun E a w h hn => ?_
    have hi := strip_ok (h.ev i) (fun p hp => hn p (by rw [ei] at hp; simp [hp]))
    have hx := strip_ok (h.ev x) (fun p hp => hn p (by rw [ex] at hp; simp [hp]))
    rw [ei] at hi
    rw [ex] at hx
    obtain ⟨hi, _⟩ := hi
    have h0 : 0 ≤ n := hn _ (by simp)
    have h1 : n < (r.len : Int) := hn (n < (r.len : Int)) (by simp)
    have hlen : r.rows.length = r.len := r.rows_len
    obtain ⟨ad, c, hv, hs⟩ := Rd.sl' hx
    obtain ⟨b, off, e1⟩ := Sl.addr hs (by omega)
    subst e1
    rw [hlen] at hv hs
    refine ⟨.pointer (some ⟨b, off + n.toNat * sz, none⟩), ?_, (by omega : n.toNat < r.len), b, off, c, ?_, hs⟩
    · simp only [execOp, ho, hv, hi, Sem.run_bind, run_indexAt hund hsz h0 h1, Result.andThen, Sem.run_pure]
    · rw [hrs, Nat.add_zero]
  · rename_i t n2 sz ex hsz
    split at hu
    case h_2 => simp at hu
    rename_i T' ls r hm
    split at hu
    case isFalse => simp at hu
    rename_i hrs
    simp only [Option.some.injEq] at hu
    subst hu
    refine Does.pure fun E a w h hn => ?_
    have hi := strip_ok (h.ev i) (fun p hp => hn p (by rw [ei] at hp; simp [hp]))
    have hx := strip_ok (h.ev x) (fun p hp => hn p (by rw [ex] at hp; simp [hp]))
    rw [ei] at hi
    rw [ex] at hx
    obtain ⟨hi, _⟩ := hi
    have h0 : 0 ≤ n := hn _ (by simp)
    have h1 : n < (r.len : Int) := hn (n < (r.len : Int)) (by simp)
    have hlen : r.rows.length = r.len := r.rows_len
    obtain ⟨v', h2, cells, ho', hrow⟩ := h.mem.row t _ _ _ hm
    have hβ := hx.1
    rw [h2] at hβ
    simp only [Option.some.injEq] at hβ
    rcases ho'.2 with ⟨e1, e2⟩ | ⟨g, cap, cur, e1, _⟩
    · omega
    · rw [hlen] at e1
      rw [e1] at hβ h2
      refine ⟨.pointer (some ⟨g, 0 + n.toNat * sz, none⟩), ?_, g, r.len, cap, h2, by simp⟩
      simp only [execOp, ho, ← hβ, hi, Sem.run_bind, run_indexAt hund hsz h0 h1, Result.andThen, Sem.run_pure]
/-- a part of a tuple -/
def cExtract (st : St) (x : Operand) (i : Nat) : Option Upd :=
  match strip (st.ev x) with
  | (.tup vs, n) => match vs[i]? with
    | some s => some ⟨n, s, []⟩
    | none => none
  | _ => none
theorem cExtract_ok (o : Oper) (x : Operand) (i : Nat) (ho : o.op = .extract x i) {u : Upd} (hu : cExtract st x i = some u) : Does P base X w0 st o u := by
  unfold cExtract at hu
  split at hu
  case h_2 => simp at hu
  rename_i vs n e
  split at hu
  case h_2 => simp at hu
  rename_i s hs
  simp only [Option.some.injEq] at hu
  subst hu
  refine Does.pure fun E a w h hn => ?_
  have hx := strip_ok (h.ev x) (fun p hp => hn p (by rw [e] at hp; exact hp))
  rw [e] at hx
  obtain ⟨xs, hv, hd⟩ := hx
  have hlt : i < vs.length := (List.getElem?_eq_some_iff.1 hs).1
  have hd2 := hd.at i hlt
  have hlt2 : i < xs.length := by rw [hd.len]; exact hlt
  rw [show vs.getD i .any = s by simp [List.getD, hs], show xs.getD i undef = xs[i] by simp [List.getD, hlt2]] at hd2
  refine ⟨_, ?_, hd2⟩
  simp [execOp, ho, hv, Instr.extract, hlt2]
/-- reckoning -/
def binV (op : BinOp) : SV → SV → Option (SV × List Prop)
  | .int k x, .int k' y => if k = k' then match op with
    | .add => some (.int k (k.wrap (x + y)), [])
    | .sub => some (.int k (k.wrap (x - y)), [])
    | .mul => some (.int k (k.wrap (x * y)), [])
    | .quo => some (.int k (k.wrap (x.tdiv y)), [y ≠ 0])
    | .rem => some (.int k (x.tmod y), [y ≠ 0, (Lit.int k (x.tmod y)).wf = true])
    | .eql => some (.bool (x == y), [])
    | .neq => some (.bool (x != y), [])
    | .lss => some (.bool (decide (x < y)), [])
    | .leq => some (.bool (decide (x ≤ y)), [])
    | .gtr => some (.bool (decide (x > y)), [])
    | .geq => some (.bool (decide (x ≥ y)), [])
    | _ => none
    else none
  | .str x, .str y => match op with
    | .eql => some (.bool (x.toList == y.toList), [])
    | .neq => some (.bool !(x.toList == y.toList), [])
    | .add => some (.str (x ++ y), [x.size + y.size ≤ 140737488355328])
    | _ => none
  | _, _ => none
/-- of two truths -/
def binB (P : Program) (op : BinOp) (T : TypeId) : SV → SV → Option SV
  | .bool x, .bool y => match P.underlying T with
    | some .bool => match op with
      | .eql => some (.bool (x == y))
      | .neq => some (.bool !(x == y))
      | _ => none
    | _ => none
  | _, _ => none
theorem binV_ok {E : Env} {w : World} {op : BinOp} {s t r : SV} {n : List Prop} (h : binV op s t = some (r, n)) (hn : ∀ p ∈ n, p) {v u : Value} (hv : DenV E w s v) (hu : DenV E w t u) (T : TypeId) (x y : Operand) :
    ∃ z, (do eqGuard op T x y v u; binOp op T v u : Sem Value).run P w = .ok z w ∧ DenV E w r z := by
  unfold binV at h
  split at h
  · rename_i k a k' b
    split at h
    case isFalse => simp at h
    rename_i hk
    subst hk
    obtain ⟨rfl, _⟩ := hv
    obtain ⟨rfl, _⟩ := hu
    split at h <;> simp only [Option.some.injEq, Prod.mk.injEq, reduceCtorEq] at h
    all_goals obtain ⟨rfl, rfl⟩ := h
    case h_5 =>
      have h1 : b ≠ 0 := hn _ (by simp)
      have h2 : (Lit.int k (a.tmod b)).wf = true := hn _ (by simp)
      exact ⟨_, by simp [eqGuard, binOp, Op.intDiv, h1], rfl, h2⟩
    case h_4 =>
      have h1 : b ≠ 0 := hn _ (by simp)
      exact ⟨_, by simp [eqGuard, binOp, Op.intDiv, h1], rfl, wf_wrap _ _⟩
    all_goals
      refine ⟨_, by simp [eqGuard, binOp, Op.intArith, Op.intCmp]; rfl, ?_⟩
      first | exact ⟨rfl, wf_wrap _ _⟩ | rfl
  · rename_i a b
    obtain ⟨rfl, ha⟩ := hv
    obtain ⟨rfl, hb⟩ := hu
    split at h <;> simp only [Option.some.injEq, Prod.mk.injEq, reduceCtorEq] at h
    all_goals obtain ⟨rfl, rfl⟩ := h
    case h_3 =>
      have h1 : a.size + b.size ≤ 140737488355328 := hn _ (by simp)
      refine ⟨.string (a ++ b), ?_, rfl, by simpa using h1⟩
      have h2 : ¬ (((a.size + b.size : Nat) : Int) > IntKind.i64.max) := by
        have : IntKind.i64.max = 9223372036854775807 := rfl
        rw [this]; omega
      simp only [eqGuard, binOp, Op.stringOp]
      rw [if_neg h2]
      rfl
    all_goals
      refine ⟨_, by simp [eqGuard, binOp, Op.stringOp]; rfl, ?_⟩
      rfl
  · simp at h
theorem run_equalB {T : TypeId} (hT : P.underlying T = some .bool) (a b : Bool) (w : World) : (Op.equal T (.bool a) (.bool b)).run P w = .ok (a == b) w := by
  unfold Op.equal Op.maxDepth
  unfold Op.equalIn
  rw [Sem.run_bind, run_underlying hT]
  rfl
theorem binB_ok {E : Env} {w : World} {op : BinOp} {T : TypeId} {s t r : SV} (h : binB P op T s t = some r) {v u : Value} (hv : DenV E w s v) (hu : DenV E w t u) (x y : Operand) :
    ∃ z, (do eqGuard op T x y v u; binOp op T v u : Sem Value).run P w = .ok z w ∧ DenV E w r z := by
  unfold binB at h
  split at h
  case h_2 => simp at h
  rename_i a b
  split at h
  case h_2 => simp at h
  rename_i hT
  have hv : v = .bool a := hv
  have hu : u = .bool b := hu
  subst hv; subst hu
  split at h <;> simp only [Option.some.injEq, reduceCtorEq] at h
  all_goals subst h
  · exact ⟨.bool (a == b), by
      rw [show (do eqGuard .eql T x y (.bool a) (.bool b); binOp .eql T (.bool a) (.bool b) : Sem Value) = (do eqGuard .eql T x y (.bool a) (.bool b); pure (.bool (← Op.equal T (.bool a) (.bool b)))) from rfl]
      simp [eqGuard, run_equalB hT], rfl⟩
  · exact ⟨.bool !(a == b), by
      rw [show (do eqGuard .neq T x y (.bool a) (.bool b); binOp .neq T (.bool a) (.bool b) : Sem Value) = (do eqGuard .neq T x y (.bool a) (.bool b); pure (.bool (!(← Op.equal T (.bool a) (.bool b))))) from rfl]
      simp [eqGuard, run_equalB hT], rfl⟩
def cBin (P : Program) (st : St) (op : BinOp) (T : TypeId) (x y : Operand) : Option Upd :=
  match binV op (strip (st.ev x)).1 (strip (st.ev y)).1 with
  | some (r, n) => some ⟨(strip (st.ev x)).2 ++ (strip (st.ev y)).2 ++ n, r, []⟩
  | none => match binB P op T (strip (st.ev x)).1 (strip (st.ev y)).1 with
    | some r => some ⟨(strip (st.ev x)).2 ++ (strip (st.ev y)).2, r, []⟩
    | none => none
theorem cBin_ok (o : Oper) (op : BinOp) (T T2 : TypeId) (x y : Operand) (ho : o.op = .binOp op T x y T2) {u : Upd} (hu : cBin P st op T x y = some u) : Does P base X w0 st o u := by
  unfold cBin at hu
  split at hu
  · rename_i r n hb
    simp only [Option.some.injEq] at hu
    subst hu
    refine Does.pure fun E a w h hn => ?_
    have hx := strip_ok (h.ev x) (fun p hp => hn p (by simp [hp]))
    have hy := strip_ok (h.ev y) (fun p hp => hn p (by simp [hp]))
    obtain ⟨z, h1, h2⟩ := binV_ok (P := P) hb (fun p hp => hn p (by simp [hp])) hx hy T x y
    exact ⟨z, by rw [execOp, ho]; simp only [Sem.run_bind] at h1 ⊢; rw [h1]; rfl, h2⟩
  · split at hu
    case h_2 => simp at hu
    rename_i r hb
    simp only [Option.some.injEq] at hu
    subst hu
    refine Does.pure fun E a w h hn => ?_
    have hx := strip_ok (h.ev x) (fun p hp => hn p (by simp [hp]))
    have hy := strip_ok (h.ev y) (fun p hp => hn p (by simp [hp]))
    obtain ⟨z, h1, h2⟩ := binB_ok (P := P) hb hx hy x y
    exact ⟨z, by rw [execOp, ho]; simp only [Sem.run_bind] at h1 ⊢; rw [h1]; rfl, h2⟩
def cUn (st : St) (op : UnOp) (x : Operand) : Option Upd :=
  match op, strip (st.ev x) with
  | .not, (.bool b, n) => some ⟨n, .bool !b, []⟩
  | .neg, (.int k m, n) => some ⟨n, .int k (k.wrap (0 - m)), []⟩
  | _, _ => none
theorem cUn_ok (o : Oper) (op : UnOp) (T : TypeId) (x : Operand) (ho : o.op = .unOp op T x) {u : Upd} (hu : cUn st op x = some u) : Does P base X w0 st o u := by
  unfold cUn at hu
  split at hu
  case h_3 => simp at hu
  · rename_i b n e
    simp only [Option.some.injEq] at hu
    subst hu
    refine Does.pure fun E a w h hn => ?_
    have hx := strip_ok (h.ev x) (fun p hp => hn p (by rw [e] at hp; exact hp))
    rw [e] at hx
    have hx : a.eval x = .bool b := hx
    exact ⟨.bool !b, by simp [execOp, ho, hx, Op.unary], rfl⟩
  · rename_i k m n e
    simp only [Option.some.injEq] at hu
    subst hu
    refine Does.pure fun E a w h hn => ?_
    have hx := strip_ok (h.ev x) (fun p hp => hn p (by rw [e] at hp; exact hp))
    rw [e] at hx
    obtain ⟨hx, _⟩ := hx
    exact ⟨.int k (k.wrap (0 - m)), by simp [execOp, ho, hx, Op.unary, Op.intArith], rfl, wf_wrap _ _⟩
/-- len -/
def lenV (st : St) : SV → Option Nat
  | .sl _ r => some r.len
  | .own t => match st.m t with
    | .row _ _ r => some r.len
    | _ => none
  | .nil => some 0
  | _ => none
theorem lenV_ok {E : Env} {a : Act} {w : World} (h : st.Ok base X w0 E a w) {s : SV} {n : Nat} (hl : lenV st s = some n) {v : Value} (hv : DenV E w s v) : ∃ ad c, v = .slice ad n c ∧ n ≤ 9223372036854775807 := by
  cases s <;> simp only [lenV, reduceCtorEq] at hl
  case nil => simp only [Option.some.injEq] at hl; subst hl; exact ⟨none, 0, hv, by omega⟩
  case sl ls r =>
    simp only [Option.some.injEq] at hl
    subst hl
    obtain ⟨ad, c, e, hs⟩ := Rd.sl' hv
    have := hs.bd
    rw [r.rows_len] at e this
    exact ⟨ad, c, e, by omega⟩
  case own t =>
    split at hl
    case h_2 => simp at hl
    rename_i T ls r hm
    simp only [Option.some.injEq] at hl
    subst hl
    obtain ⟨v', h1, h2⟩ := h.mem.row t _ _ _ hm
    have := hv.1
    rw [h1] at this
    simp only [Option.some.injEq] at this
    subst this
    obtain ⟨ad, c, e⟩ := h2.form
    have := h2.bd
    rw [r.rows_len] at e this
    exact ⟨ad, c, e, this⟩
def cLen (P : Program) (st : St) (T : TypeId) (x : Operand) : Option Upd :=
  match sliceE P T with
  | some _ => match lenV st (strip (st.ev x)).1 with
    | some n => some ⟨(strip (st.ev x)).2, .int .i64 n, []⟩
    | none => none
  | none => match P.underlying T, strip (st.ev x) with
    | some .string, (.str s, n) => some ⟨n, .int .i64 s.size, []⟩
    | _, _ => none
theorem run_len {o : Oper} {x : Operand} {T : TypeId} (ho : o.op = .call { callee := .builtin .len, args := #[x], argTypes := #[T] }) (a : Act) (w : World) {v : Value} (h : (Builtin.len_ #[T] o.type #[a.eval x]).run P w = .ok v w) :
    (execOp a.eval o).run P w = .ok (.value v) w := by
  simp only [execOp, ho, resolve, invoke, builtin, Sem.run_bind, Sem.run_pure, Result.andThen, List.map_toArray, List.map_cons, List.map_nil, h]
theorem cLen_ok (o : Oper) (T : TypeId) (x : Operand) (ho : o.op = .call { callee := .builtin .len, args := #[x], argTypes := #[T] }) {u : Upd} (hu : cLen P st T x = some u) : Does P base X w0 st o u := by
  unfold cLen at hu
  split at hu
  · rename_i e he
    split at hu
    case h_2 => simp at hu
    rename_i n hl
    simp only [Option.some.injEq] at hu
    subst hu
    refine Does.pure fun E a w h hn => ?_
    obtain ⟨ad, c, hv, hb⟩ := lenV_ok h hl (strip_ok (h.ev x) hn)
    exact ⟨.int .i64 n, run_len ho a w (by simp [Builtin.len_, run_underlying (sliceE_ok he), hv, goInt]), rfl, bd_lit ⟨by omega, by omega⟩⟩
  · split at hu
    case h_2 => simp at hu
    rename_i s n hT e
    simp only [Option.some.injEq] at hu
    subst hu
    refine Does.pure fun E a w h hn => ?_
    have hx := strip_ok (h.ev x) (fun p hp => hn p (by rw [e] at hp; exact hp))
    rw [e] at hx
    obtain ⟨hx, hb⟩ := hx
    exact ⟨.int .i64 s.size, run_len ho a w (by simp [Builtin.len_, run_underlying hT, hx, goInt]), rfl, bd_lit ⟨by omega, by omega⟩⟩
end ops
end Go.Proofs.Yteiojclemodhaaa
