/- The symbolic walk: contracts of functions, loops. No condition. -/
import Derived.Test.YteiojclemodhaaaSyJ
import Derived.Deep.LoopGhost
namespace Go.Proofs.Yteiojclemodhaaa
open Go.RowKit Go.ChangeShapes Go.WideShapes Go.Deep
set_option linter.unusedVariables false
set_option linter.unusedSimpArgs false
/-- a row as a list of pairs -/
def asc {α : Type} : Nat → List α → List (Nat × α)
  | _, [] => []
  | i, e :: r => (i, e) :: asc (i + 1) r
theorem asc_look {α : Type} (d : α) : ∀ (k : Nat) (l : List α) (i : Nat), lookA d (asc k l) i = if i < k then d else l.getD (i - k) d
  | k, [], i => by simp [asc, lookA]
  | k, e :: r, i => by
    rw [asc, lookA_cons, asc_look d (k + 1) r i]
    by_cases h1 : i = k
    · subst h1; simp
    · by_cases h2 : i < k
      · rw [if_neg h1, if_pos (by omega), if_pos h2]
      · rw [if_neg h1, if_neg (by omega), if_neg h2, show i - k = (i - (k + 1)) + 1 by omega]; simp
theorem asc_keys {α : Type} : ∀ (k : Nat) (l : List α) (i : Nat), i ∈ (asc k l).map (·.1) ↔ k ≤ i ∧ i < k + l.length
  | k, [], i => by simp [asc]
  | k, e :: r, i => by rw [asc, List.map_cons, List.mem_cons, asc_keys (k + 1) r i, List.length_cons]; simp only; omega
def mOf (mo : List BE) : Nat → BE := lookA .empty (asc 0 mo)
theorem mOf_get (mo : List BE) (t : Nat) : mOf mo t = mo.getD t .empty := by
  show lookA .empty (asc 0 mo) t = _
  rw [asc_look, if_neg (by omega), Nat.sub_zero]
/-- what a callee is handed -/
def cxIn (E : Env) (mi : List BE) (nl : Nat) : Cx := ⟨fun b => ∃ t, Has E (mOf mi) t b, nl, fun i b => E.σ i b, fun t => if t < mi.length then E.β t else none⟩
/-- the post of a function -/
def RpO (out : SV) (mo : List BE) (base : Nat) (X : Cx) (w0 : World) (e : Ending) (w' : World) : Prop := ∃ v E', e = .returned v ∧ DenV E' w' out v ∧ MemOk base X w0 E' (mOf mo) w'
/-- the contract of a function: of arguments that are as ins, in memory as mi (labels below nl), it answers as out, in memory as mo -/
def FnG (P : Program) (f : FuncId) (nl : Nat) (mi : List BE) (ins : List SV) (out : SV) (mo : List BE) : Prop :=
  FnB P f ∧ ∀ (w : World) (E : Env) (vals : List Value), MemOk w.heap.size (cxIn E mi nl) w E (mOf mi) w → DenL E w ins vals → Calls P f vals.toArray w (RpO out mo w.heap.size (cxIn E mi nl) w)
abbrev D2 : List BE := [.dead, .dead]
/-- of arguments that are only read (label 0); label 1 is new -/
abbrev FnC (P : Program) (f : FuncId) (ins : List SV) (out : SV) (mo : List BE) : Prop := FnG P f 1 D2 ins out mo
/-- results -/
def resOne (P : Program) (st : St) : ResultVar → Option (SV × List Prop)
  | .tmp t => some (strip (st.s t))
  | .cell a T => match cellsAt st (st.s a), aggT P T, sizeT P T with
    | some (cs, n), some true, some k => if k ≤ cs.length then some (.agg (cs.take k), n) else none
    | some (c :: _, n), some false, _ => some (c, n)
    | _, _, _ => none
def resL (P : Program) (st : St) : List ResultVar → Option (List SV × List Prop)
  | [] => some ([], [])
  | r :: rs => match resOne P st r, resL P st rs with
    | some (s, n), some (ss, m) => some (s :: ss, n ++ m)
    | _, _ => none
def resS (P : Program) (fn : Func) (st : St) : Option (SV × List Prop) :=
  match resL P st fn.results.toList with
  | some ([s], n) => some (s, n)
  | some (ss, n) => some (.tup ss, n)
  | none => none
abbrev eqNil (α : Type) : Prop := ([] : List α) = []
def Each : List Prop → Prop
  | [] => True
  | p :: ps => p ∧ Each ps
theorem Each.out : ∀ {ps : List Prop}, Each ps → ∀ p ∈ ps, p
  | _ :: _, h, _, .head _ => h.1
  | _ :: _, h, p, .tail _ hp => Each.out h.2 p hp
section
variable {P : Program} {base : Nat} {X : Cx} {w0 : World}
theorem resOne_ok {st : St} {E : Env} {a : Act} {w : World} (ho : st.Ok base X w0 E a w) {r : ResultVar} {s : SV} {n : List Prop} (h : resOne P st r = some (s, n)) (hn : ∀ p ∈ n, p) :
    ∃ v, ((match r with | .tmp t => pure (a.tmps.getD t undef) | .cell a' t => do loadVar t (← asAddr (a.tmps.getD a' undef)) : Sem Value)).run P w = .ok v w ∧ DenV E w s v := by
  cases r with
  | tmp t =>
    simp only [resOne, Option.some.injEq] at h
    have := strip_ok (ho.tm t) (fun p hp => hn p (by rw [h] at hp; exact hp))
    rw [h] at this
    exact ⟨_, rfl, this⟩
  | cell t T =>
    simp only [resOne] at h
    split at h
    case h_3 => simp at h
    · rename_i cs m k e1 e2 e3
      split at h
      case isFalse => simp at h
      rename_i hk
      simp only [Option.some.injEq, Prod.mk.injEq] at h
      obtain ⟨rfl, rfl⟩ := h
      obtain ⟨b, off, xs, e, hd, hc⟩ := cellsAt_ok ho e1 hn (ho.tm t)
      refine ⟨.agg (xs.take k).toArray, ?_, xs.take k, rfl, hd.take k⟩
      simp only [e, asAddr, loadVar, Sem.run_bind, Sem.run_pure, Result.andThen, run_isAgg e2, if_true, run_sizeOf' e3, run_loadCells' hc k (by rw [hd.len]; exact hk)]
    · rename_i c rest m _ e1 e2
      simp only [Option.some.injEq, Prod.mk.injEq] at h
      obtain ⟨rfl, rfl⟩ := h
      obtain ⟨b, off, xs, e, hd, hc⟩ := cellsAt_ok ho e1 hn (ho.tm t)
      match xs, hd with
      | x0 :: xs, hd =>
        refine ⟨x0, ?_, hd.1⟩
        have := hc 0 x0 rfl
        rw [Nat.add_zero] at this
        simp [e, asAddr, loadVar, run_isAgg e2, run_load, this]
theorem resL_ok {st : St} {E : Env} {a : Act} {w : World} (ho : st.Ok base X w0 E a w) : ∀ (rs : List ResultVar) (ss : List SV) (n : List Prop), resL P st rs = some (ss, n) → (∀ p ∈ n, p) →
    ∃ vs, (List.mapM (fun r => (match r with | .tmp t => pure (a.tmps.getD t undef) | .cell a' t => do loadVar t (← asAddr (a.tmps.getD a' undef)) : Sem Value)) rs).run P w = .ok vs w ∧ DenL E w ss vs
  | [], ss, n, h, hn => by
    simp only [resL, Option.some.injEq, Prod.mk.injEq] at h
    obtain ⟨rfl, rfl⟩ := h
    exact ⟨[], by simp [Sem.run_pure], trivial⟩
  | r :: rs, ss, n, h, hn => by
    simp only [resL] at h
    split at h
    case h_2 => simp at h
    rename_i s n1 ss2 n2 h1 h2
    simp only [Option.some.injEq, Prod.mk.injEq] at h
    obtain ⟨rfl, rfl⟩ := h
    obtain ⟨v, h3, h4⟩ := resOne_ok (P := P) ho h1 (fun p hp => hn p (List.mem_append_left _ hp))
    obtain ⟨vs, h5, h6⟩ := resL_ok ho rs ss2 n2 h2 (fun p hp => hn p (List.mem_append_right _ hp))
    exact ⟨v :: vs, by simp only [List.mapM_cons, Sem.run_bind, h3, Result.andThen, h5, Sem.run_pure], h4, h6⟩
theorem resS_ok {fn : Func} {st : St} {E : Env} {a : Act} {w : World} (ho : st.Ok base X w0 E a w) {s : SV} {n : List Prop} (h : resS P fn st = some (s, n)) (hn : ∀ p ∈ n, p) : ∃ v, (results fn a.tmps).run P w = .ok v w ∧ DenV E w s v := by
  unfold resS at h
  have key : ∀ ss m, resL P st fn.results.toList = some (ss, m) → (∀ p ∈ m, p) → ∃ vs : List Value, (results fn a.tmps).run P w = .ok (if h : vs.toArray.size = 1 then vs.toArray[0] else .tuple vs.toArray) w ∧ DenL E w ss vs := by
    intro ss m hl hm
    obtain ⟨vs, h1, h2⟩ := resL_ok (P := P) ho _ _ _ hl hm
    refine ⟨vs, ?_, h2⟩
    unfold results
    rw [Sem.run_bind, Array.mapM_eq_mapM_toList, map_eq_pure_bind, Sem.run_bind]
    erw [h1]
    simp [Sem.run_pure, Result.andThen]
  split at h
  · rename_i s2 m hl
    simp only [Option.some.injEq, Prod.mk.injEq] at h
    obtain ⟨rfl, rfl⟩ := h
    obtain ⟨vs, h1, h2⟩ := key _ _ hl hn
    match vs, h2 with
    | [v], h2 => exact ⟨v, by simpa using h1, h2.1⟩
  · rename_i ss m hne hl
    simp only [Option.some.injEq, Prod.mk.injEq] at h
    obtain ⟨rfl, rfl⟩ := h
    obtain ⟨vs, h1, h2⟩ := key _ _ hl hn
    refine ⟨.tuple vs.toArray, ?_, vs, rfl, h2⟩
    rw [h1, dif_neg]
    intro hs
    have := h2.len
    match ss, vs, hs, this with
    | [s0], [v0], _, _ => exact hne s0 rfl
    | [], [_], _, hlen => simp at hlen
    | _ :: _ :: _, [_], _, hlen => simp at hlen
  · simp at h
end
/-- what a function is to answer -/
structure Gl where
  fn : Func
  nl : Nat
  nt : Nat
  out : SV
  mo : List BE
def Fit (X : Cx) (g : Gl) : Prop := X.nl = g.nl ∧ ∀ t v, X.B t = some v → t < g.nt
def vcOut (P : Program) (g : Gl) (st : St) : Prop :=
  match resS P g.fn st with
  | some (sv, n) => match leOut g.nl g.nt st sv g.out (asc 0 g.mo) with
    | some (ps, _) => Each (n ++ ps)
    | none => False
  | none => False
theorem vcOut_ok {P : Program} {g : Gl} {st : St} (h : vcOut P g st) {base : Nat} {X : Cx} {w0 : World} (hX : Fit X g) {E : Env} {a : Act} {w : World} (ho : st.Ok base X w0 E a w) : ∃ v, (results g.fn a.tmps).run P w = .ok v w ∧ RpO g.out g.mo base X w0 (.returned v) w := by
  unfold vcOut at h
  split at h
  case h_2 => exact h.elim
  rename_i sv n hr
  split at h
  case h_2 => exact h.elim
  rename_i ps rel hl
  have hall := Each.out h
  obtain ⟨v, h1, h2⟩ := resS_ok ho hr (fun p hp => hall p (List.mem_append_left _ hp))
  refine ⟨v, h1, v, ?_⟩
  unfold leOut at hl
  simp only at hl
  split at hl
  case h_2 => simp at hl
  rename_i ps2 rel2 he
  split at hl
  case isFalse => simp at hl
  rename_i hok
  simp only [Option.some.injEq, Prod.mk.injEq] at hl
  obtain ⟨rfl, rfl⟩ := hl
  obtain ⟨p, r, q, s, h3, h4, rfl, rfl⟩ := leAnd_ok he
  exact ⟨_, rfl, leV_ok ho.mem (rel := r ++ s) _ _ _ _ h3 (fun x hx => hall x (by simp [hx])) (fun c hc => List.mem_append_left _ hc) v h2,
    ho.mem.ren h4 (fun x hx => hall x (by simp [hx])) (fun c hc => List.mem_append_right _ hc) hok hX.1 hX.2⟩
/-- what is left to show of a loop -/
def LoopG (P : Program) (g : Gl) (B : Nat → St → Prop) (body : Code) (k : List KI) (st : St) : Prop :=
  ∀ (base : Nat) (X : Cx) (w0 : World) (J : Nat → Act → World → Prop), Fit X g → (∀ j st, B j st → ∀ E a w, st.Ok base X w0 E a w → J j a w) →
    ∀ E a w, st.Ok base X w0 E a w → (Code.loop body).wp P (qOf P J k (bodyPost P g.fn (RpO g.out g.mo base X w0))) a w
/-- what is left to show of a tree -/
def vc (P : Program) (g : Gl) (B : Nat → St → Prop) : Tr → Prop
  | .ret st => vcOut P g st
  | .nrm st _ => vcOut P g st
  | .need ps t => Each ps ∧ vc P g B t
  | .br b t1 t2 => (b = true → vc P g B t1) ∧ (b = false → vc P g B t2)
  | .brp p q t1 t2 => (p → vc P g B t1) ∧ (q → vc P g B t2)
  | .lab ls t => (ls.all (fun i => Nat.ble g.nl i) = true) ∧ vc P g B t
  | .hav r t => RL.All r fun q => vc P g B (t q)
  | .back j st => B j st
  | .loop body k st => LoopG P g B body k st
  | .ext _ _ => False
  | .stuck _ _ _ => False
theorem vc_den {P : Program} {g : Gl} {B : Nat → St → Prop} {base : Nat} {X : Cx} {w0 : World} (hX : Fit X g) {J : Nat → Act → World → Prop} (hJ : ∀ j st, B j st → ∀ E a w, st.Ok base X w0 E a w → J j a w) :
    ∀ (t : Tr), vc P g B t → den P base X w0 J (bodyPost P g.fn (RpO g.out g.mo base X w0)) t
  | .ret st, h => fun E a w ho => by
    obtain ⟨v, h1, h2⟩ := vcOut_ok h hX ho
    exact ⟨ho.defers, v, h1, h2⟩
  | .nrm st _, h => fun E a w ho => by
    obtain ⟨v, h1, h2⟩ := vcOut_ok h hX ho
    exact ⟨ho.defers, v, h1, h2⟩
  | .need ps t, h => ⟨h.1.out, vc_den hX hJ t h.2⟩
  | .br b t1 t2, h => ⟨fun e => vc_den hX hJ t1 (h.1 e), fun e => vc_den hX hJ t2 (h.2 e)⟩
  | .brp p q t1 t2, h => ⟨fun e => vc_den hX hJ t1 (h.1 e), fun e => vc_den hX hJ t2 (h.2 e)⟩
  | .lab ls t, h => ⟨fun i hi => by rw [hX.1]; exact Nat.le_of_ble_eq_true (List.all_eq_true.1 h.1 i hi), vc_den hX hJ t h.2⟩
  | .hav r t, h => RL.All_mono h fun q hq => vc_den hX hJ (t q) hq
  | .back j st, h => hJ j st h
  | .loop body k st, h => h base X w0 J hX hJ
  | .ext _ _, h => h.elim
  | .stuck _ _ _, h => h.elim
def st0 (ins : List SV) (mi : List BE) (n : Nat) : St := ⟨asc 0 ins, n, asc 0 mi, mi.length⟩
structure World.Fits (P : Program) (C : Cfg) (more : Nat → St → TypeId → Op → Option Upd) : Prop where
  mixed : P.follows .mixedOrders = true
  orc : OrcOk P C
  loc : OrcLoc C
  moreOk : MoreOk P more
  moreLoc : MoreLoc more
/-- a function's contract, off its tree -/
theorem FnG.of_vc {P : Program} {C : Cfg} {more : Nat → St → TypeId → Op → Option Upd} (hF : World.Fits P C more) {f : FuncId} {fn : Func} {c : Code} (hf : P.funcs[f]? = some fn) (hb : fn.body = some c) (hname : fn.name ≠ "runtime.NumGoroutine") {nl : Nat} {mi : List BE} {ins : List SV} {out : SV} {mo : List BE} (hins : Nat.ble ins.length fn.ntmps = true) (n : Nat)
    {p : Prop} (he : vc P ⟨fn, nl, mi.length, out, mo⟩ (fun _ _ => False) (exec P C more n c [] (st0 ins mi fn.ntmps) ⟨[], []⟩) = p) (h : p) : FnG P f nl mi ins out mo := by
  subst he
  refine ⟨⟨fn, hf, hname, by rw [hb]; rfl⟩, fun w E vals hm hd => ?_⟩
  refine calls_of_wp hf hb ?_
  have hX : Fit (cxIn E mi nl) ⟨fn, nl, mi.length, out, mo⟩ := ⟨rfl, fun t v hv => by
    have hv : (if t < mi.length then E.β t else none) = some v := hv
    split at hv
    · assumption
    · cases hv⟩
  have hden := vc_den (base := w.heap.size) (X := cxIn E mi nl) (w0 := w) hX (J := fun _ _ _ => False) (fun _ _ h => h.elim) _ h
  have hlen : vals.length = ins.length := hd.len
  have hle : ins.length ≤ fn.ntmps := Nat.le_of_ble_eq_true hins
  refine (exec_ok hF.mixed hF.orc hF.loc hF.moreOk hF.moreLoc n).1 c [] _ _ _ hden E _ w ⟨rfl, ?_, fun i => ?_, hm⟩
  · simp [st0, hlen]; omega
  · have e : (vals.toArray ++ Array.replicate (fn.ntmps - vals.toArray.size) undef).getD i undef = (vals ++ List.replicate (fn.ntmps - ins.length) undef).getD i undef := by
      simp only [Array.getD_eq_getD_getElem?, List.getD, ← hlen]
      rw [← Array.getElem?_toList]
      simp
    rw [e]
    show DenV E w (lookA .any (asc 0 ins) i) _
    rw [asc_look, if_neg (by omega), Nat.sub_zero]
    by_cases hi : i < ins.length
    · have := hd.at i hi
      have e2 : (vals ++ List.replicate (fn.ntmps - ins.length) undef).getD i undef = vals.getD i undef := by
        simp only [List.getD]
        rw [List.getElem?_append_left (by omega)]
      rw [e2]; exact this
    · rw [show ins.getD i SV.any = .any by simp [List.getD, Nat.le_of_not_lt hi]]; trivial
def noMark (j : Nat) : List KI → Bool
  | [] => true
  | .mark i :: k => !(i == j) && noMark j k
  | _ :: k => noMark j k
theorem qOf_J {P : Program} {J J' : Nat → Act → World → Prop} {j : Nat} (h : ∀ i, i ≠ j → J i = J' i) : ∀ (k : List KI), noMark j k = true → ∀ Q, qOf P J k Q = qOf P J' k Q
  | [], _, _ => rfl
  | .code c :: k, hk, Q => by rw [qOf, qOf, qOf_J h k hk Q]
  | .blk i :: k, hk, Q => by rw [qOf, qOf, qOf_J h k hk Q]
  | .mark i :: k, hk, Q => by
    simp only [noMark, Bool.and_eq_true] at hk
    rw [qOf, qOf, qOf_J h k hk.2 Q, h i (by simpa using hk.1)]
def leP (g : Gl) (st st' : St) : Prop := match leSt g.nl g.nt st st' with
  | some (ps, _) => Each ps
  | none => False
theorem leP_ok {g : Gl} {st st' : St} (h : leP g st st') {base : Nat} {X : Cx} {w0 : World} (hX : Fit X g) {E : Env} {a : Act} {w : World} (ho : st.Ok base X w0 E a w) : ∃ E', st'.Ok base X w0 E' a w := by
  unfold leP at h
  split at h
  · rename_i e; exact leSt_ok e h.out hX.1 hX.2 ho
  · exact h.elim
/-- at the head of a loop again -/
def Back {A : Type} (g : Gl) (I : A → Prop) (H : A → St) (μ : A → Nat) (x : A) (st : St) : Prop := ∃ y, I y ∧ μ y < μ x ∧ leP g st (H y)
theorem LoopG.mk {P : Program} {C : Cfg} {more : Nat → St → TypeId → Op → Option Upd} (hF : World.Fits P C more) {g : Gl} {B : Nat → St → Prop} {body : Code} {k : List KI} {st : St} (j : Nat) (hj : noMark j k = true)
    {A : Type} (I : A → Prop) (H : A → St) (μ : A → Nat) (x0 : A) (hI : I x0) (h0 : leP g st (H x0)) (n : Nat) (round : ∀ x, I x → vc P g (fun i s => if i = j then Back g I H μ x s else B i s) (exec P C more n body (.mark j :: k) (H x) ⟨[], []⟩)) : LoopG P g B body k st := by
  intro base X w0 J hX hJ E a w ho
  refine wp_loop_ghost (fun m a w => ∃ x, μ x = m ∧ I x ∧ ∃ E, (H x).Ok base X w0 E a w) (μ x0) ⟨x0, rfl, hI, leP_ok h0 hX ho⟩ ?_
  rintro m a w ⟨x, rfl, hIx, E, hox⟩
  let J' : Nat → Act → World → Prop := fun i => if i = j then (fun a w => ∃ m', m' < μ x ∧ ∃ y, μ y = m' ∧ I y ∧ ∃ E, (H y).Ok base X w0 E a w) else J i
  have hden := vc_den (base := base) (X := X) (w0 := w0) hX (J := J') (fun i s hs E a w ho => by
    by_cases e : i = j
    · subst e
      rw [if_pos rfl] at hs
      obtain ⟨y, h1, h2, h3⟩ := hs
      show (if i = i then _ else _ : Act → World → Prop) a w
      rw [if_pos rfl]
      exact ⟨_, h2, y, rfl, h1, leP_ok h3 hX ho⟩
    · rw [if_neg e] at hs
      show (if i = j then _ else _ : Act → World → Prop) a w
      rw [if_neg e]
      exact hJ i s hs E a w ho) _ (round x hIx)
  have := (exec_ok hF.mixed hF.orc hF.loc hF.moreOk hF.moreLoc n).1 body (.mark j :: k) _ _ _ hden E a w hox
  rw [qOf, ← qOf_J (J := J) (J' := J') (j := j) (fun i hi => by show J i = if i = j then _ else _; rw [if_neg hi]) k hj] at this
  refine Code.wp_mono (fun e a w h => ?_) this
  cases e <;> first | exact h | skip
  have h : J' j a w := h
  have h : (if j = j then _ else _ : Act → World → Prop) a w := h
  rw [if_pos rfl] at h
  exact h
/-- a piece of code by its place -/
def codeAt : Code → List Nat → Code
  | c, [] => c
  | .seq a _, 0 :: r => codeAt a r
  | .seq _ b, _ :: r => codeAt b r
  | .cond _ a _, 0 :: r => codeAt a r
  | .cond _ _ b, _ :: r => codeAt b r
  | .block _ b, _ :: r => codeAt b r
  | .loop b, _ :: r => codeAt b r
  | c, _ => c
def bodyOf (fn : Func) : Code := fn.body.getD .skip
/-- the slots that code writes -/
def wrC : Code → List Nat
  | .region _ ops _ => ops.toList.filterMap (·.dst)
  | .seq a b => wrC a ++ wrC b
  | .cond _ a b => wrC a ++ wrC b
  | .block _ b => wrC b
  | .loop b => wrC b
  | _ => []
def canV : SV → SV
  | .tup _ => .any
  | .el _ _ _ _ => .any
  | .oel .. => .any
  | .gd .. => .any
  | s => s
def isAny : SV → Bool
  | .any => true
  | _ => false
def dedN : List Nat → List Nat → List Nat
  | _, [] => []
  | seen, a :: r => bif seen.contains a then dedN seen r else a :: dedN (a :: seen) r
def headTm (wr : List Nat) (ov : List (Nat × SV)) (st : St) : List Nat → List (Nat × SV)
  | [] => []
  | i :: r => match lookO ov i with
    | some v => (i, v) :: headTm wr ov st r
    | none => bif (wr.contains i || isAny (canV (st.s i))) then headTm wr ov st r else (i, canV (st.s i)) :: headTm wr ov st r
def headMm (om : List (Nat × BE)) (st : St) : List Nat → List (Nat × BE)
  | [] => []
  | t :: r => (t, match lookO om t with | some v => v | none => st.m t) :: headMm om st r
/-- the state at a loop's head: what the body writes is open, but for ov and om -/
def headSt (body : Code) (st : St) (ov : List (Nat × SV)) (om : List (Nat × BE)) : St :=
  ⟨headTm (wrC body) ov st (dedN [] (ov.map (·.1) ++ st.tm.map (·.1))), st.nt, headMm om st (dedN [] (om.map (·.1) ++ st.mm.map (·.1))), st.nx⟩
theorem LoopG.head {P : Program} {C : Cfg} {more : Nat → St → TypeId → Op → Option Upd} (hF : World.Fits P C more) {g : Gl} {B : Nat → St → Prop} {body : Code} {k : List KI} {st : St} (j : Nat) (hj : noMark j k = true)
    {A : Type} (I : A → Prop) (ov : A → List (Nat × SV)) (om : A → List (Nat × BE)) (μ : A → Nat) (x0 : A) (hI : I x0) {p0 : Prop} (e0 : leP g st (headSt body st (ov x0) (om x0)) = p0) (h0 : p0) (n : Nat) {p : A → Prop}
    (he : ∀ x, vc P g (fun i s => if i = j then Back g I (fun x => headSt body st (ov x) (om x)) μ x s else B i s) (exec P C more n body (.mark j :: k) (headSt body st (ov x) (om x)) ⟨[], []⟩) = p x) (round : ∀ x, I x → p x) : LoopG P g B body k st :=
  LoopG.mk hF j hj I (fun x => headSt body st (ov x) (om x)) μ x0 hI (by rw [e0]; exact h0) n (fun x hx => by rw [he]; exact round x hx)
theorem Back.mk {A : Type} {g : Gl} {I : A → Prop} {H : A → St} {μ : A → Nat} {x : A} {st : St} (y : A) (hI : I y) (hμ : μ y < μ x) {p0 : Prop} (e0 : leP g st (H y) = p0) (h0 : p0) : Back g I H μ x st := ⟨y, hI, hμ, by rw [e0]; exact h0⟩
end Go.Proofs.Yteiojclemodhaaa
