/- The symbolic walk through the operations of a region in the text's order. No condition. -/
import Derived.Test.YteiojclemodhaaaSyE
import Derived.Orders
namespace Go.Proofs.Yteiojclemodhaaa
open Go.RowKit Go.ChangeShapes Go.WideShapes Go.Deep
set_option linter.unusedVariables false
set_option linter.unusedSimpArgs false
/-- may the function be called? -/
def FnB (P : Program) (f : FuncId) : Prop := ∃ fn, P.funcs[f]? = some fn ∧ fn.name ≠ "runtime.NumGoroutine" ∧ fn.body.isSome = true
/-- what a call is told to do it does -/
def OrcOk (P : Program) (C : Cfg) : Prop := ∀ c f st svs u, C.orc c f st svs = some u → FnB P f ∧ ∀ base X w0 E w vals, MemOk base X w0 E st.m w → DenL E w svs vals → (∀ p ∈ u.needs, p) →
  Calls P f vals.toArray w (fun e w' => ∃ v E', e = .returned v ∧ E.Le E' ∧ Same E.lab w w' ∧ DenV E' w' u.val v ∧ MemOk base X w0 E' (putF u.mem st.m) w')
section ops
variable {P : Program} {base : Nat} {X : Cx} {w0 : World} {st : St}
def evL (st : St) : List Operand → List SV × List Prop
  | [] => ([], [])
  | x :: r => ((strip (st.ev x)).1 :: (evL st r).1, (strip (st.ev x)).2 ++ (evL st r).2)
theorem evL_ok {E : Env} {a : Act} {w : World} (h : st.Ok base X w0 E a w) : ∀ (xs : List Operand), (∀ p ∈ (evL st xs).2, p) → DenL E w (evL st xs).1 (xs.map a.eval)
  | [], _ => trivial
  | x :: r, hn => ⟨strip_ok (h.ev x) (fun p hp => hn p (List.mem_append_left _ hp)), evL_ok h r (fun p hp => hn p (List.mem_append_right _ hp))⟩
def cFun (C : Cfg) (c : Nat) (st : St) (f : FuncId) (xs : List Operand) : Option Upd :=
  match C.orc c f st (evL st xs).1 with
  | some u => some ⟨(evL st xs).2 ++ u.needs, u.val, u.mem⟩
  | none => none
theorem run_callFunc {f : FuncId} (h : FnB P f) (args : Array Value) (w : World) : (callFunc f args).run P w = .ok (.enter f args) w := by
  obtain ⟨fn, h1, h2, h3⟩ := h
  obtain ⟨cd, h4⟩ := Option.isSome_iff_exists.1 h3
  simp [callFunc, h1, h2, h4]
theorem cFun_ok {C : Cfg} (hC : OrcOk P C) (o : Oper) (c : Nat) (f : FuncId) (xs : Array Operand) (ts : Array TypeId) (ho : o.op = .call { callee := .value (.func f), args := xs, argTypes := ts }) {u : Upd} (hu : cFun C c st f xs.toList = some u) : Does P base X w0 st o u := by
  unfold cFun at hu
  split at hu
  case h_2 => simp at hu
  rename_i u2 hc
  simp only [Option.some.injEq] at hu
  subst hu
  obtain ⟨hf, hcall⟩ := hC _ _ _ _ _ hc
  intro E a w K Q h hn hK
  have hd := evL_ok h xs.toList (fun p hp => hn p (List.mem_append_left _ hp))
  have hrun : (execOp a.eval o).run P w = .ok (.enter f (xs.toList.map a.eval).toArray) w := by
    have e : xs.map a.eval = (xs.toList.map a.eval).toArray := by rw [← Array.toList_map]
    simp only [execOp, ho, resolve, Act.eval, Deferred.ofValue, Sem.run_bind, Sem.run_pure, Result.andThen, invoke, e]
    simp [run_callFunc hf]
  unfold Oper.wp
  rw [hrun]
  refine Calls.mono (hcall base X w0 E w _ h.mem hd (fun p hp => hn p (List.mem_append_right _ hp))) ?_
  rintro e w' ⟨v, E', rfl, h1, h2, h3, h4⟩
  exact hK E' w' v h1 h2 h3 h4
/-- what a closure may have caught -/
def SV.cap : SV → Bool
  | .rp .. => true
  | s => s.flat
/-- a call of a closure -/
def cClo (C : Cfg) (c : Nat) (st : St) (x : Operand) (xs : List Operand) : Option Upd :=
  match strip (st.ev x) with
  | (.fn f, n) => match C.orc c f st (evL st xs).1 with
    | some u => some ⟨n ++ ((evL st xs).2 ++ u.needs), u.val, u.mem⟩
    | none => none
  | (.clo f cs, n) => if cs.all SV.cap = true then (match C.orc c f st ((evL st xs).1 ++ cs) with
    | some u => some ⟨n ++ ((evL st xs).2 ++ u.needs), u.val, u.mem⟩
    | none => none) else none
  | _ => none
theorem cClo_ok {C : Cfg} (hC : OrcOk P C) (o : Oper) (c : Nat) (x : Operand) (xs : Array Operand) (ts : Array TypeId) (ho : o.op = .call { callee := .value x, args := xs, argTypes := ts }) {u : Upd} (hu : cClo C c st x xs.toList = some u) : Does P base X w0 st o u := by
  have key : ∀ (f : FuncId) (cs : List SV) (u2 : Upd) (n : List Prop), C.orc c f st ((evL st xs.toList).1 ++ cs) = some u2 → (∀ (E : Env) (a : Act) (w : World), st.Ok base X w0 E a w → (∀ p ∈ n, p) → ∃ vs : List Value, a.eval x = .func (.func f) #[] vs.toArray ∧ DenL E w cs vs) →
      Does P base X w0 st o ⟨n ++ ((evL st xs.toList).2 ++ u2.needs), u2.val, u2.mem⟩ := by
    intro f cs u2 n hc hx
    obtain ⟨hf, hcall⟩ := hC _ _ _ _ _ hc
    intro E a w K Q h hn hK
    have hd := evL_ok h xs.toList (fun p hp => hn p (List.mem_append_right _ (List.mem_append_left _ hp)))
    obtain ⟨vs, hv, hcs⟩ := hx E a w h (fun p hp => hn p (List.mem_append_left _ hp))
    have hrun : (execOp a.eval o).run P w = .ok (.enter f (xs.toList.map a.eval ++ vs).toArray) w := by
      have e : xs.map a.eval = (xs.toList.map a.eval).toArray := by rw [← Array.toList_map]
      simp only [execOp, ho, resolve, hv, Deferred.ofValue, Sem.run_bind, Sem.run_pure, Result.andThen, invoke, e]
      simp [run_callFunc hf]
    unfold Oper.wp
    rw [hrun]
    refine Calls.mono (hcall base X w0 E w _ h.mem (DenL.app hd hcs) (fun p hp => hn p (List.mem_append_right _ (List.mem_append_right _ hp)))) ?_
    rintro e w' ⟨v, E', rfl, h1, h2, h3, h4⟩
    exact hK E' w' v h1 h2 h3 h4
  unfold cClo at hu
  split at hu
  · rename_i f n e
    split at hu
    case h_2 => simp at hu
    rename_i u2 hc
    simp only [Option.some.injEq] at hu
    subst hu
    refine key f [] u2 n (by rw [List.append_nil]; exact hc) (fun E a w h hn => ?_)
    have := strip_ok (h.ev x) (fun p hp => hn p (by rw [e] at hp; exact hp))
    rw [e] at this
    exact ⟨[], this, trivial⟩
  · rename_i f cs n e
    split at hu
    case isFalse => simp at hu
    split at hu
    case h_2 => simp at hu
    rename_i hfl _ u2 hc
    simp only [Option.some.injEq] at hu
    subst hu
    refine key f cs u2 n hc (fun E a w h hn => ?_)
    have := strip_ok (h.ev x) (fun p hp => hn p (by rw [e] at hp; exact hp))
    rw [e] at this
    exact this
  · simp at hu
/-- int to int -/
def cConv (P : Program) (st : St) (src dst : TypeId) (x : Operand) : Option Upd :=
  match P.underlying src, P.underlying dst, strip (st.ev x) with
  | some (.int _), some (.int k), (.int _ m, n) => some ⟨n, .int k (k.wrap m), []⟩
  | some .string, some .string, (.str s, n) => some ⟨n, .str s, []⟩
  | _, _, _ => none
theorem cConv_ok (o : Oper) (src dst : TypeId) (x : Operand) (ho : o.op = .convert src dst x) {u : Upd} (hu : cConv P st src dst x = some u) : Does P base X w0 st o u := by
  unfold cConv at hu
  split at hu
  case h_3 => simp at hu
  · rename_i k1 k k2 m n h1 h2 e
    simp only [Option.some.injEq] at hu
    subst hu
    refine Does.pure fun E a w h hn => ?_
    have hx := strip_ok (h.ev x) (fun p hp => hn p (by rw [e] at hp; exact hp))
    rw [e] at hx
    obtain ⟨hx, _⟩ := hx
    exact ⟨.int k (k.wrap m), by simp [execOp, ho, hx, convert, run_underlying h1, run_underlying h2, Conv.intToInt], rfl, wf_wrap _ _⟩
  · rename_i s n h1 h2 e
    simp only [Option.some.injEq] at hu
    subst hu
    refine Does.pure fun E a w h hn => ?_
    have hx := strip_ok (h.ev x) (fun p hp => hn p (by rw [e] at hp; exact hp))
    rw [e] at hx
    obtain ⟨hx, hb⟩ := hx
    exact ⟨.string s, by simp [execOp, ho, hx, convert, run_underlying h1, run_underlying h2], rfl, hb⟩
/-- nilCheck of a pointer of the call's own -/
def cNil (st : St) (x : Operand) : Option Upd :=
  match strip (st.ev x) with
  | (.ptr t off, n) => some ⟨n, .ptr t off, []⟩
  | (.el ls r i off, n) => some ⟨n, .el ls r i off, []⟩
  | (.oel t sz i off, n) => some ⟨n, .oel t sz i off, []⟩
  | (.rp ls T cs off, n) => some ⟨n, .rp ls T cs off, []⟩
  | _ => none
theorem cNil_ok (o : Oper) (x : Operand) (ho : o.op = .nilCheck x) {u : Upd} (hu : cNil st x = some u) : Does P base X w0 st o u := by
  unfold cNil at hu
  split at hu
  case h_5 => simp at hu
  all_goals
    rename_i e
    simp only [Option.some.injEq] at hu
    subst hu
    refine Does.pure fun E a w h hn => ?_
    have hx := strip_ok (h.ev x) (fun p hp => hn p (by rw [e] at hp; exact hp))
    rw [e] at hx
    have hp : ∃ ad, a.eval x = .pointer (some ad) := by
      first
        | (obtain ⟨b, _, e2⟩ := hx; exact ⟨_, e2⟩)
        | (obtain ⟨_, b, o2, c2, e2, _⟩ := hx; exact ⟨_, e2⟩)
        | (obtain ⟨b, k, c2, _, e2⟩ := hx; exact ⟨_, e2⟩)
        | (obtain ⟨b, xs, e2, _⟩ := hx; exact ⟨_, e2⟩)
    obtain ⟨ad, e2⟩ := hp
    refine ⟨a.eval x, ?_, hx⟩
    simp [execOp, ho, e2]
def cMore (P : Program) (C : Cfg) (c : Nat) (st : St) (ty : TypeId) (op : Op) : Option Upd := none
/-- an operation -/
def core (P : Program) (C : Cfg) (more : Nat → St → TypeId → Op → Option Upd) (c : Nat) (st : St) (ty : TypeId) : Op → Option Upd
  | .move x => some (cMove st x)
  | .assign x => some (cMove st x)
  | .pick a x y => cPick st a x y
  | .box T x => cBox st c T x
  | .alloc T => cAlloc P st c T
  | .build T ps => cBuild P st T ps
  | .load T x => cLoad P st T x
  | .store T x y => match cStore P st T x y with
    | some u => some u
    | none => more c st ty (.store T x y)
  | .fieldAddr T x f => cFieldAddr P st T x f
  | .field T x f => cField P st T x f
  | .indexAddr T x i => cIndexAddr P st T x i
  | .extract x i => cExtract st x i
  | .binOp op T x y T2 => match cBin P st op T x y with
    | some u => some u
    | none => more c st ty (.binOp op T x y T2)
  | .unOp op _ x => cUn st op x
  | .convert s d x => match cConv P st s d x with
    | some u => some u
    | none => more c st ty (.convert s d x)
  | .nilCheck x => cNil st x
  | .call ⟨.value (.func f), xs, ts⟩ => cFun C c st f xs.toList
  | .call ⟨.value (.tmp t), xs, ts⟩ => cClo C c st (.tmp t) xs.toList
  | .call ⟨.builtin .len, ⟨[x]⟩, ⟨[T]⟩⟩ => cLen P st T x
  | op => more c st ty op
/-- the operations beyond these -/
def MoreOk (P : Program) (more : Nat → St → TypeId → Op → Option Upd) : Prop := ∀ c st (o : Oper) u base X w0, more c st o.type o.op = some u → Does P base X w0 st o u
theorem core_ok {C : Cfg} (hC : OrcOk P C) {more : Nat → St → TypeId → Op → Option Upd} (hM : MoreOk P more) (o : Oper) (c : Nat) {u : Upd} (hu : core P C more c st o.type o.op = some u) : Does P base X w0 st o u := by
  generalize ho : o.op = op at hu
  unfold core at hu
  split at hu
  · simp only [Option.some.injEq] at hu; subst hu; exact cMove_ok o _ (.inl ho)
  · simp only [Option.some.injEq] at hu; subst hu; exact cMove_ok o _ (.inr ho)
  · exact cPick_ok o _ _ _ ho hu
  · exact cBox_ok o c _ _ ho hu
  · exact cAlloc_ok o c _ ho hu
  · exact cBuild_ok o _ _ ho hu
  · exact cLoad_ok o _ _ ho hu
  · split at hu
    · rename_i h2; simp only [Option.some.injEq] at hu; subst hu; exact cStore_ok o _ _ _ ho h2
    · exact hM c st o u base X w0 (by rw [ho]; exact hu)
  · exact cFieldAddr_ok o _ _ _ ho hu
  · exact cField_ok o _ _ _ ho hu
  · exact cIndexAddr_ok o _ _ _ ho hu
  · exact cExtract_ok o _ _ ho hu
  · split at hu
    · rename_i h2; simp only [Option.some.injEq] at hu; subst hu; exact cBin_ok o _ _ _ _ _ ho h2
    · exact hM c st o u base X w0 (by rw [ho]; exact hu)
  · exact cUn_ok o _ _ _ ho hu
  · split at hu
    · rename_i h2; simp only [Option.some.injEq] at hu; subst hu; exact cConv_ok o _ _ _ ho h2
    · exact hM c st o u base X w0 (by rw [ho]; exact hu)
  · exact cNil_ok o _ ho hu
  · exact cFun_ok hC o c _ _ _ ho hu
  · exact cClo_ok hC o c _ _ _ ho hu
  · exact cLen_ok o _ _ ho hu
  · exact hM c st o u base X w0 (by rw [ho]; exact hu)
/-- an operation, or one beyond these -/
def full (P : Program) (C : Cfg) (more : Nat → St → TypeId → Op → Option Upd) (c : Nat) (st : St) (ty : TypeId) (op : Op) : Option Upd :=
  match core P C more c st ty op with
  | some u => some u
  | none => more c st ty op
theorem full_ok {C : Cfg} (hC : OrcOk P C) {more : Nat → St → TypeId → Op → Option Upd} (hM : MoreOk P more) (o : Oper) (c : Nat) {u : Upd} (hu : full P C more c st o.type o.op = some u) : Does P base X w0 st o u := by
  unfold full at hu
  split at hu
  · rename_i h; simp only [Option.some.injEq] at hu; subst hu; exact core_ok hC hM o c h
  · exact hM c st o u base X w0 hu
/-- is an operation wanted? -/
def guardB (ops : Array Oper) (st : St) (j : Nat) (pol : Bool) : Option Bool :=
  match (ops[j]?).bind (·.dst) with
  | some t => match st.s t with
    | .bool b => match pol with
      | true => some b
      | false => some (!b)
    | .gd g (.bool b) => match pol with
      | true => some (g && b)
      | false => some (g && !b)
    | _ => none
  | none => none
theorem guardB_ok {ops : Array Oper} {E : Env} {a : Act} {w : World} (h : st.Ok base X w0 E a w) {o : Oper} {j : Nat} {pol G : Bool} (hg : o.guard = some (j, pol)) (hG : guardB ops st j pol = some G) : Region.wanted o (yielded ops a.tmps) = G := by
  unfold guardB at hG
  split at hG
  case h_2 => simp at hG
  rename_i t ht
  have hd := h.tm t
  simp only [Region.wanted, hg, yielded, ht]
  have hsome : ∀ b, a.tmps.getD t undef = .bool b → a.tmps[t]? = some (.bool b) := by
    intro b hb
    rw [Array.getD_eq_getD_getElem?] at hb
    cases hq : a.tmps[t]? with
    | none => rw [hq] at hb; simp [undef] at hb
    | some x => rw [hq] at hb; simpa using hb
  split at hG
  case h_3 => simp at hG
  · rename_i b e
    have hG : some (if pol then b else !b) = some G := by cases pol <;> exact hG
    simp only [Option.some.injEq] at hG
    rw [e] at hd
    have := hsome b hd
    simp only [Option.bind_some, this, ← hG]
    cases pol <;> cases b <;> rfl
  · rename_i g b e
    have hG : some (g && (if pol then b else !b)) = some G := by cases pol <;> exact hG
    simp only [Option.some.injEq] at hG
    rw [e] at hd
    cases g
    · have hu : a.tmps.getD t undef = undef := hd.2 rfl
      have : (a.tmps[t]? = none ∨ a.tmps[t]? = some undef) := by
        rw [Array.getD_eq_getD_getElem?] at hu
        cases hq : a.tmps[t]? with
        | none => exact .inl rfl
        | some x => rw [hq] at hu; right; simpa using hu
      rcases this with h1 | h1 <;> simp [Option.bind_some, h1, ← hG, undef]
    · have hb : a.tmps.getD t undef = .bool b := hd.1 rfl
      have := hsome b hb
      simp only [Option.bind_some, this, ← hG]
      cases pol <;> cases b <;> rfl
def allDead : List (Nat × BE) → Bool
  | [] => true
  | (_, .dead) :: r => allDead r
  | _ => false
/-- one operation of a region -/
def stepOp (P : Program) (C : Cfg) (more : Nat → St → TypeId → Op → Option Upd) (ops : Array Oper) (c : Nat) (o : Oper) (st : St) : Option Upd :=
  match o.guard with
  | none => full P C more c st o.type o.op
  | some (j, pol) => match guardB ops st j pol with
    | none => none
    | some G => match full P C more c st o.type o.op with
      | some u => if allDead u.mem then some ⟨u.needs.map (fun p => G = true → p), .gd G u.val, u.mem⟩ else none
      | none => none
theorem MemOk.deads {E : Env} {w : World} : ∀ (l : List (Nat × BE)) (m : Nat → BE), allDead l = true → MemOk base X w0 E m w → MemOk base X w0 E (putF l m) w
  | [], _, _, h => h
  | (t, e) :: r, m, hl, h => by
    cases e <;> simp only [allDead, Bool.false_eq_true] at hl
    rw [putF_cons]
    exact (MemOk.deads r m hl h).kill t
/-- what one operation does, wanted or not -/
theorem stepOp_ok {C : Cfg} (hC : OrcOk P C) {more : Nat → St → TypeId → Op → Option Upd} (hM : MoreOk P more) {ops : Array Oper} {c : Nat} {o : Oper} {u : Upd} (hu : stepOp P C more ops c o st = some u)
    {E : Env} {a : Act} {w : World} {K : Act → World → Prop} {Q : Exit → Act → World → Prop} (h : st.Ok base X w0 E a w) (hn : ∀ p ∈ u.needs, p) (hK : ∀ E' a' w', (st.app o.dst u).Ok base X w0 E' a' w' → K a' w') :
    if Region.wanted o (yielded ops a.tmps) then o.wp P a w K Q else K (a.put o.dst undef) w := by
  unfold stepOp at hu
  split at hu
  · rename_i hg
    rw [if_pos (by simp [Region.wanted, hg])]
    exact full_ok hC hM o c hu E a w K Q h hn (fun E' w' v h1 h2 h3 h4 => hK E' _ _ (h.next h1 h2 h3 h4))
  · rename_i j pol hg
    split at hu
    case h_1 => simp at hu
    rename_i G hG
    split at hu
    case h_2 => simp at hu
    rename_i u2 hc
    split at hu
    case isFalse => simp at hu
    rename_i hd
    simp only [Option.some.injEq] at hu
    subst hu
    rw [guardB_ok h hg hG]
    cases G
    · rw [if_neg (by simp)]
      refine hK E _ _ (h.next (u := ⟨_, .gd false u2.val, u2.mem⟩) (Env.Le.refl E) Same.rfl' (v := undef) ⟨fun e => (by cases e), fun _ => rfl⟩ ?_)
      exact h.mem.deads u2.mem st.m hd
    · rw [if_pos rfl]
      refine full_ok hC hM o c hc E a w K Q h (fun p hp => hn (true = true → p) (List.mem_map.2 ⟨p, hp, rfl⟩) rfl) (fun E' w' v h1 h2 h3 h4 => hK E' _ _ (h.next h1 h2 (u := ⟨_, .gd true u2.val, u2.mem⟩) ⟨fun _ => h3, fun e => (by cases e)⟩ h4))
/-- how many tags an operation may take -/
def wid : Op → Nat
  | .call ⟨.value _, _, _⟩ => 24
  | _ => 1
inductive RO
  | ok (st : St) (n : List Prop)
  | bad (c : Nat) (o : Op) (st : St)
def runOps (P : Program) (C : Cfg) (more : Nat → St → TypeId → Op → Option Upd) (ops : Array Oper) : Nat → List Oper → St → RO
  | _, [], st => .ok st []
  | c, o :: r, st => match stepOp P C more ops c o st with
    | some u => match runOps P C more ops (c + wid o.op) r (st.app o.dst u) with
      | .ok st2 n => .ok st2 (u.needs ++ n)
      | .bad c o s => .bad c o s
    | none => .bad c o.op st
theorem runOps_ok {C : Cfg} (hC : OrcOk P C) {more : Nat → St → TypeId → Op → Option Upd} (hM : MoreOk P more) {ops : Array Oper} {Q : Exit → Act → World → Prop} : ∀ (l : List Oper) (c : Nat) (st st2 : St) (n : List Prop), runOps P C more ops c l st = .ok st2 n → (∀ p ∈ n, p) →
    (∀ E' a' w', st2.Ok base X w0 E' a' w' → Q .normal a' w') → ∀ (E : Env) (a : Act) (w : World), st.Ok base X w0 E a w → wpList P ops Q l a w
  | [], c, st, st2, n, hr, hn, hQ, E, a, w, h => by
    simp only [runOps, RO.ok.injEq] at hr
    obtain ⟨rfl, rfl⟩ := hr
    exact wpList_nil (hQ E a w h)
  | o :: l, c, st, st2, n, hr, hn, hQ, E, a, w, h => by
    simp only [runOps] at hr
    split at hr
    case h_2 => simp at hr
    rename_i u hu
    split at hr
    case h_2 => simp at hr
    rename_i st3 n3 h3
    simp only [RO.ok.injEq] at hr
    obtain ⟨rfl, rfl⟩ := hr
    refine wpList_step fun K hK => ?_
    exact stepOp_ok hC hM hu h (fun p hp => hn p (List.mem_append_left _ hp)) (fun E' a' w' h' => hK a' w' (runOps_ok hC hM l (c + wid o.op) _ _ _ h3 (fun p hp => hn p (List.mem_append_right _ hp)) hQ E' a' w' h'))
/-- room for n tags more -/
def St.grow (st : St) (n : Nat) : St := { st with nx := st.nx + n }
theorem St.Ok.grow {E : Env} {a : Act} {w : World} (h : st.Ok base X w0 E a w) (n : Nat) : (st.grow n).Ok base X w0 E a w := ⟨h.defers, h.size, h.tm, h.mem⟩
def widS : List Oper → Nat
  | [] => 0
  | o :: r => wid o.op + widS r
end ops
end Go.Proofs.Yteiojclemodhaaa
