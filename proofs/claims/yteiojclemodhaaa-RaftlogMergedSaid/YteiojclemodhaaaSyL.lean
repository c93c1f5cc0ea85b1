/- The symbolic walk: calls of functions whose contracts are known. No condition. -/
import Derived.Test.YteiojclemodhaaaSyK
namespace Go.Proofs.Yteiojclemodhaaa
open Go.RowKit Go.ChangeShapes Go.WideShapes Go.Deep
set_option linter.unusedVariables false
set_option linter.unusedSimpArgs false
set_option linter.unusedSectionVars false
/-- a function whose contract is known. wr: it may write what is handed in; al, gl: labels (the callee's) of arguments and of handed-in tags; vr: rows of the first block that may be nil -/
structure Ent where
  f : FuncId
  wr : Bool
  al : List Nat
  gl : List Nat
  nl : Nat
  vr : List (Nat × TypeId × RL)
  go : List SV → List BE → Option (List Prop × SV × List BE)
def EntOk (P : Program) (e : Ent) : Prop := FnB P e.f ∧ ∀ ins mi n out mo, e.go ins mi = some (n, out, mo) → (∀ p ∈ n, p) → FnG P e.f e.nl mi ins out mo
def findE : List Ent → FuncId → Option Ent
  | [], _ => none
  | e :: r, f => bif Nat.beq e.f f then some e else findE r f
theorem findE_mem : ∀ {tab : List Ent} {f : FuncId} {e : Ent}, findE tab f = some e → e ∈ tab ∧ e.f = f
  | [], _, _, h => by simp [findE] at h
  | a :: r, f, e, h => by
    simp only [findE] at h
    cases hb : Nat.beq a.f f
    · rw [hb] at h
      obtain ⟨h1, h2⟩ := findE_mem (tab := r) h
      exact ⟨List.mem_cons_of_mem _ h1, h2⟩
    · rw [hb] at h
      simp only [cond_true, Option.some.injEq] at h
      subst h
      exact ⟨List.mem_cons_self .., Nat.eq_of_beq_eq_true hb⟩
/-- the place in a row -/
def idxO : List Nat → Nat → Option Nat
  | [], _ => none
  | a :: r, t => bif Nat.beq a t then some 0 else (match idxO r t with | some k => some (k + 1) | none => none)
theorem idxO_ok : ∀ {T : List Nat} {t k : Nat}, idxO T t = some k → T[k]? = some t
  | a :: r, t, k, h => by
    simp only [idxO] at h
    cases hb : Nat.beq a t
    · rw [hb] at h
      simp only [cond_false] at h
      split at h
      · rename_i k2 e
        simp only [Option.some.injEq] at h
        subst h
        simpa using idxO_ok e
      · simp at h
    · rw [hb] at h
      simp only [cond_true, Option.some.injEq] at h
      subst h
      have := Nat.eq_of_beq_eq_true hb
      subst this; rfl
  | [], _, _, h => by simp [idxO] at h
theorem idxO_none : ∀ {T : List Nat} {t : Nat}, idxO T t = none → t ∉ T
  | a :: r, t, h => by
    simp only [idxO] at h
    cases hb : Nat.beq a t
    · rw [hb] at h
      simp only [cond_false] at h
      split at h
      · simp at h
      · rename_i e
        simp only [List.mem_cons, not_or]
        exact ⟨fun e2 => by rw [e2] at hb; simp at hb, idxO_none e⟩
    · rw [hb] at h; simp at h
  | [], _, _ => by simp
theorem nodup_at : ∀ {T : List Nat} {i j t : Nat}, nodupN T = true → T[i]? = some t → T[j]? = some t → i = j
  | a :: r, 0, 0, t, _, _, _ => rfl
  | a :: r, 0, j + 1, t, h, h1, h2 => by
    simp only [List.getElem?_cons_zero, Option.some.injEq] at h1
    subst h1
    have : a ∈ r := List.mem_of_getElem? (by simpa using h2)
    simp only [nodupN, Bool.and_eq_true] at h
    simp [this] at h
  | a :: r, i + 1, 0, t, h, h1, h2 => by
    simp only [List.getElem?_cons_zero, Option.some.injEq] at h2
    subst h2
    have : a ∈ r := List.mem_of_getElem? (by simpa using h1)
    simp only [nodupN, Bool.and_eq_true] at h
    simp [this] at h
  | a :: r, i + 1, j + 1, t, h, h1, h2 => by
    simp only [nodupN, Bool.and_eq_true] at h
    exact congrArg (· + 1) (nodup_at h.2 (by simpa using h1) (by simpa using h2))
  | [], i, _, _, _, h1, _ => by simp at h1
/-- how the callee sees things: memory, handed-in tags -/
structure Vw where
  m : Nat → BE
  T : List Nat
section view
variable (V : Vw) (l : Nat)
def vw0 : SV → SV × List Prop
  | .sl _ r => (.sl [l] r, [])
  | .own t => match idxO V.T t with
    | some k => (.own (2 + k), [])
    | none => match V.m t with
      | .row _ _ r => (.sl [l] r, [r.len ≤ 17592186044416])
      | _ => (.any, [])
  | .ptr t o => match idxO V.T t with
    | some k => (.ptr (2 + k) o, [])
    | none => (.any, [])
  | .int k n => (.int k n, [])
  | .bool b => (.bool b, [])
  | .str s => (.str s, [])
  | .nil => (.nil, [])
  | .fn f => (.fn f, [])
  | _ => (.any, [])
def vwL (f : SV → SV × List Prop) : List SV → List SV × List Prop
  | [] => ([], [])
  | s :: r => ((f s).1 :: (vwL f r).1, (f s).2 ++ (vwL f r).2)
def vwR : SV → SV × List Prop
  | .ptr t o => match idxO V.T t with
    | some k => (.ptr (2 + k) o, [])
    | none => match V.m t with
      | .cells T vs => (.rp [l] T (vwL (vw0 V l) vs).1 o, (vwL (vw0 V l) vs).2)
      | _ => (.any, [])
  | .rp _ T vs o => (.rp [l] T (vwL (vw0 V l) vs).1 o, (vwL (vw0 V l) vs).2)
  | s => vw0 V l s
def vw1 : SV → SV × List Prop
  | .agg vs => (.agg (vwL (vw0 V l) vs).1, (vwL (vw0 V l) vs).2)
  | .clo f vs => (.clo f (vwL (vwR V l) vs).1, (vwL (vwR V l) vs).2)
  | s => vwR V l s
def vwB : BE → BE × List Prop
  | .cells T vs => (.cells T (vwL (vw0 V l) vs).1, (vwL (vw0 V l) vs).2)
  | .row T _ r => (.row T [l] r, [])
  | _ => (.dead, [])
/-- the labels that are met, each as l -/
def lp0 : SV → List (Nat × Nat)
  | .sl ls _ => ls.map fun i => (l, i)
  | .own t => match idxO V.T t with
    | some _ => []
    | none => match V.m t with
      | .row _ ls _ => ls.map fun i => (l, i)
      | _ => []
  | _ => []
def lpR : SV → List (Nat × Nat)
  | .ptr t o => match idxO V.T t with
    | some _ => []
    | none => match V.m t with
      | .cells _ vs => vs.flatMap (lp0 V l)
      | _ => []
  | .rp ls _ vs _ => (ls.map fun i => (l, i)) ++ vs.flatMap (lp0 V l)
  | s => lp0 V l s
def lp1 : SV → List (Nat × Nat)
  | .agg vs => vs.flatMap (lp0 V l)
  | .clo _ vs => vs.flatMap (lpR V l)
  | s => lpR V l s
def lpB : BE → List (Nat × Nat)
  | .cells _ vs => vs.flatMap (lp0 V l)
  | .row _ ls _ => ls.map fun i => (l, i)
  | _ => []
/-- the tags that are met, only to be read, each as of label l -/
def op0 : SV → List (Nat × Nat)
  | .own t => match idxO V.T t with
    | some _ => []
    | none => [(l, t)]
  | _ => []
def opR : SV → List (Nat × Nat)
  | .ptr t o => match idxO V.T t with
    | some _ => []
    | none => match V.m t with
      | .cells _ vs => (l, t) :: vs.flatMap (op0 V l)
      | _ => []
  | .rp _ _ vs _ => vs.flatMap (op0 V l)
  | s => op0 V l s
def op1 : SV → List (Nat × Nat)
  | .agg vs => vs.flatMap (op0 V l)
  | .clo _ vs => vs.flatMap (opR V l)
  | s => opR V l s
def opB : BE → List (Nat × Nat)
  | .cells _ vs => vs.flatMap (op0 V l)
  | _ => []
end view
/-- arguments, with their labels -/
def zipL {α β : Type} (f : Nat → α → β) : List α → List Nat → List β
  | [], _ => []
  | a :: r, [] => f 0 a :: zipL f r []
  | a :: r, l :: ls => f l a :: zipL f r ls
theorem zipL_mem {α β : Type} {f : Nat → α → β} : ∀ {xs : List α} {ls : List Nat} {i : Nat} {a : α}, xs[i]? = some a → (zipL f xs ls)[i]? = some (f (ls.getD i 0) a)
  | a :: r, [], 0, x, h => by simp only [List.getElem?_cons_zero, Option.some.injEq] at h; subst h; rfl
  | a :: r, l :: ls, 0, x, h => by simp only [List.getElem?_cons_zero, Option.some.injEq] at h; subst h; rfl
  | a :: r, [], i + 1, x, h => by
    have := zipL_mem (f := f) (xs := r) (ls := []) (i := i) (a := x) (by simpa using h)
    simpa [zipL] using this
  | a :: r, l :: ls, i + 1, x, h => by
    have := zipL_mem (f := f) (xs := r) (ls := ls) (i := i) (a := x) (by simpa using h)
    simpa [zipL] using this
  | [], _, _, _, h => by simp at h
theorem zipL_len {α β : Type} {f : Nat → α → β} : ∀ (xs : List α) (ls : List Nat), (zipL f xs ls).length = xs.length
  | [], _ => rfl
  | a :: r, [] => by simp [zipL, zipL_len r]
  | a :: r, l :: ls => by simp [zipL, zipL_len r]
/-- all that is known of a call -/
structure Cl where
  V : Vw
  al : List Nat
  gl : List Nat
  nl : Nat
  svs : List SV
def Cl.aV (q : Cl) : List (SV × List Prop) := zipL (fun l s => vw1 q.V l s) q.svs q.al
def Cl.bV (q : Cl) : List (BE × List Prop) := zipL (fun l t => vwB q.V l (q.V.m t)) q.V.T q.gl
def Cl.ins (q : Cl) : List SV := q.aV.map (·.1)
def Cl.mi (q : Cl) : List BE := .dead :: .dead :: q.bV.map (·.1)
def Cl.needs (q : Cl) : List Prop := q.aV.flatMap (·.2) ++ q.bV.flatMap (·.2)
def Cl.LP (q : Cl) : List (Nat × Nat) := (zipL (fun l s => lp1 q.V l s) q.svs q.al).flatMap id ++ (zipL (fun l t => lpB q.V l (q.V.m t)) q.V.T q.gl).flatMap id
def Cl.OP (q : Cl) : List (Nat × Nat) := (zipL (fun l s => op1 q.V l s) q.svs q.al).flatMap id ++ (zipL (fun l t => opB q.V l (q.V.m t)) q.V.T q.gl).flatMap id
def fnP (l : List (Nat × Nat)) : Bool := l.all fun p => l.all fun q => !(Nat.beq p.2 q.2) || Nat.beq p.1 q.1
def Cl.ok (q : Cl) : Bool :=
  nodupN q.V.T && fnP q.LP && fnP q.OP && q.LP.all (fun p => Nat.blt p.1 q.nl) && q.OP.all (fun p => Nat.blt p.1 q.nl && !(q.V.T.contains p.2)) && Nat.ble q.nl (2 + q.V.T.length) && q.V.T.all (fun u => (q.V.m u).live) &&
  q.bV.all (fun e => match e.1 with | .cells _ vs => vs.all SV.flat | _ => true)
/-- labels and tags of the answer, as the caller has them; c: where new ones begin -/
def relL (q : Cl) (c : Nat) (ls : List Nat) : List Nat := ls.flatMap fun i => bif Nat.blt i q.nl then (q.LP.filter fun p => Nat.beq p.1 i).map (·.2) else [c + (i - q.nl)]
def relT (q : Cl) (c t : Nat) : Nat := bif Nat.blt t (2 + q.V.T.length) then q.V.T.getD (t - 2) 0 else c + (t - (2 + q.V.T.length))
def rel0 (q : Cl) (c : Nat) : SV → SV
  | .sl ls r => .sl (relL q c ls) r
  | .own t => .own (relT q c t)
  | .ptr t o => .ptr (relT q c t) o
  | .int k n => .int k n
  | .bool b => .bool b
  | .str s => .str s
  | .nil => .nil
  | .fn f => .fn f
  | _ => .any
def rel1 (q : Cl) (c : Nat) : SV → SV
  | .agg vs => .agg (vs.map (rel0 q c))
  | .clo f vs => .clo f (vs.map (rel0 q c))
  | s => rel0 q c s
def relV (q : Cl) (c : Nat) : SV → SV
  | .tup vs => .tup (vs.map (rel1 q c))
  | s => rel1 q c s
def relB (q : Cl) (c : Nat) : BE → BE
  | .cells T vs => .cells T (vs.map (rel0 q c))
  | .row T ls r => .row T (relL q c ls) r
  | _ => .dead
/-- may they be told so? n: how many tags the callee answers with -/
def okLs (q : Cl) (ls : List Nat) : Bool := ls.all fun i => bif Nat.blt i q.nl then !(q.OP.any fun p => Nat.beq p.1 i) else Nat.blt (i - q.nl) 16
def ok0 (q : Cl) (n : Nat) : SV → Bool
  | .own t => Nat.blt 1 t && Nat.blt t n
  | .ptr t _ => Nat.blt 1 t && Nat.blt t n
  | .sl ls _ => okLs q ls
  | _ => true
def ok1 (q : Cl) (n : Nat) : SV → Bool
  | .agg vs => vs.all (ok0 q n)
  | .clo _ vs => vs.all (ok0 q n)
  | s => ok0 q n s
def okV (q : Cl) (n : Nat) : SV → Bool
  | .tup vs => vs.all (ok1 q n)
  | s => ok1 q n s
def okB (q : Cl) (n : Nat) : BE → Bool
  | .cells _ vs => vs.all (ok0 q n)
  | .row _ ls _ => okLs q ls
  | _ => true
def Cl.okO (q : Cl) (out : SV) (mo : List BE) : Bool := okV q mo.length out && mo.all (okB q mo.length) && Nat.ble mo.length (2 + q.V.T.length + 16) && Nat.ble (2 + q.V.T.length) mo.length
def asg {α : Type} (f : Nat → Nat → α) : Nat → List Nat → List (Nat × α)
  | _, [] => []
  | k, t :: r => (t, f k t) :: asg f (k + 1) r
def Cl.upds (q : Cl) (c : Nat) (mo : List BE) : List (Nat × BE) :=
  asg (fun k _ => relB q c (mo.getD (2 + k) .dead)) 0 q.V.T ++ asg (fun j _ => relB q c (mo.getD (2 + q.V.T.length + j) .dead)) 0 (blkN c 16)
section
variable {P : Program} {base : Nat} {X : Cx} {w0 : World}
/-- the callee's names -/
def Cl.env (q : Cl) (E : Env) : Env where
  β := fun t => match t with
    | 0 => none
    | 1 => none
    | k + 2 => match q.V.T[k]? with
      | some u => E.β u
      | none => none
  σ := fun i b => (∃ j, (i, j) ∈ q.LP ∧ E.σ j b) ∨ ∃ t, (i, t) ∈ q.OP ∧ Has E q.V.m t b
theorem Cl.env_β (q : Cl) (E : Env) {t k : Nat} (h : idxO q.V.T t = some k) : (q.env E).β (2 + k) = E.β t := by
  rw [Nat.add_comm]
  show (match q.V.T[k]? with | some u => E.β u | none => none) = _
  rw [idxO_ok h]
theorem vwL_ok {E E' : Env} {w : World} {f : SV → SV × List Prop} : ∀ (ss : List SV) (vs : List Value), (∀ s, s ∈ ss → ∀ v, DenV E w s v → (∀ p ∈ (f s).2, p) → DenV E' w (f s).1 v) → DenL E w ss vs → (∀ p ∈ (vwL f ss).2, p) → DenL E' w (vwL f ss).1 vs
  | [], [], _, _, _ => trivial
  | s :: ss, v :: vs, hf, h, hn => ⟨hf s (List.mem_cons_self ..) v h.1 (fun p hp => hn p (List.mem_append_left _ hp)), vwL_ok ss vs (fun s hs => hf s (List.mem_cons_of_mem _ hs)) h.2 (fun p hp => hn p (List.mem_append_right _ hp))⟩
  | [], _ :: _, _, h, _ => h.elim
  | _ :: _, [], _, h, _ => h.elim
section den
variable {q : Cl} {E : Env} {w : World} (hm : MemOk base X w0 E q.V.m w) {l : Nat}
include hm
theorem Cl.set1 {ls : List Nat} {b : Nat} (hl : ∀ i, i ∈ ls → (l, i) ∈ q.LP) (hb : E.set ls b) : (q.env E).set [l] b := by
  obtain ⟨i, hi, hs⟩ := hb
  exact ⟨l, by simp, .inl ⟨i, hl i hi, hs⟩⟩
theorem Cl.den0 {s : SV} (hl : ∀ p, p ∈ lp0 q.V l s → p ∈ q.LP) (ho : ∀ p, p ∈ op0 q.V l s → p ∈ q.OP) {v : Value} (hv : DenV E w s v) (hn : ∀ p ∈ (vw0 q.V l s).2, p) : DenV (q.env E) w (vw0 q.V l s).1 v := by
  cases s
  case sl ls r => exact Rd.mono hv (fun b _ hb => Cl.set1 hm (fun i hi => hl _ (List.mem_map.2 ⟨i, hi, rfl⟩)) hb)
  case own t =>
    simp only [vw0, lp0, op0] at hn hl ho ⊢
    cases hi : idxO q.V.T t with
    | some k => exact ⟨(q.env_β E hi).trans hv.1, hv.2⟩
    | none =>
      rw [hi] at hn hl ho
      simp only at hn hl ho ⊢
      cases hmt : q.V.m t with
      | row T ls r =>
        rw [hmt] at hn hl
        obtain ⟨v', hβ, ho2⟩ := hm.row t T ls r hmt
        have hv1 := hv.1
        rw [hβ] at hv1
        simp only [Option.some.injEq] at hv1
        subst hv1
        obtain ⟨a, cc, ef⟩ := ho2.form
        have hle : r.len ≤ 17592186044416 := hn _ (by simp)
        have hs := ho2.slO ((q.env E).set [l]) (fun b hb => Cl.set1 hm (fun i hi => hl _ (List.mem_map.2 ⟨i, hi, rfl⟩)) hb) (fun b _ hb => ⟨l, by simp, .inr ⟨t, ho _ (by simp), by rw [hmt]; rfl, v', hβ, by rw [← vblock_own ⟨a, _, cc, ef⟩]; exact hb⟩⟩) (by rw [r.rows_len]; exact hle)
        obtain ⟨a2, c2, e2, h2⟩ := hs
        rw [e2]; exact h2
      | _ => trivial
  case ptr t o =>
    simp only [vw0]
    cases hi : idxO q.V.T t with
    | some k =>
      obtain ⟨b, h1, h2⟩ := hv
      exact ⟨b, (q.env_β E hi).trans h1, h2⟩
    | none => trivial
  all_goals first | exact hv | trivial
theorem Cl.denR {s : SV} (hl : ∀ p, p ∈ lpR q.V l s → p ∈ q.LP) (ho : ∀ p, p ∈ opR q.V l s → p ∈ q.OP) {v : Value} (hv : DenV E w s v) (hn : ∀ p ∈ (vwR q.V l s).2, p) : DenV (q.env E) w (vwR q.V l s).1 v := by
  cases s
  case ptr t o =>
    simp only [vwR, lpR, opR] at hn hl ho ⊢
    cases hi : idxO q.V.T t with
    | some k =>
      obtain ⟨b, h1, h2⟩ := hv
      exact ⟨b, (q.env_β E hi).trans h1, h2⟩
    | none =>
      rw [hi] at hn hl ho
      simp only at hn hl ho ⊢
      cases hmt : q.V.m t with
      | cells T vs =>
        rw [hmt] at hn hl ho
        obtain ⟨b, h1, rfl⟩ := hv
        obtain ⟨b', xs, c1, c2, c3, c4⟩ := hm.cells t T vs hmt
        rw [c1] at h1
        simp only [Option.some.injEq, Value.pointer.injEq, Addr.mk.injEq, and_true] at h1
        subst h1
        refine ⟨b', xs, rfl, ⟨l, by simp, .inr ⟨t, ho _ (List.mem_cons_self ..), by rw [hmt]; rfl, _, c1, rfl⟩⟩, c2, vwL_ok vs xs (fun s hs v hv hp => Cl.den0 hm (fun p hp => hl p (List.mem_flatMap.2 ⟨s, hs, hp⟩)) (fun p hp => ho p (List.mem_cons_of_mem _ (List.mem_flatMap.2 ⟨s, hs, hp⟩))) hv hp) c3 hn⟩
      | _ => trivial
  case rp ls T vs o =>
    obtain ⟨b, xs, h1, h2, h3, h4⟩ := hv
    exact ⟨b, xs, h1, Cl.set1 hm (fun i hi => hl _ (List.mem_append_left _ (List.mem_map.2 ⟨i, hi, rfl⟩))) h2, h3, vwL_ok vs xs (fun s hs v hv hp => Cl.den0 hm (fun p hp => hl p (List.mem_append_right _ (List.mem_flatMap.2 ⟨s, hs, hp⟩))) (fun p hp => ho p (List.mem_flatMap.2 ⟨s, hs, hp⟩)) hv hp) h4 hn⟩
  all_goals
    have h2 := fun h1 h3 h4 => Cl.den0 (q := q) (l := l) hm (v := v) h1 h3 hv h4
    exact h2 hl ho hn
theorem Cl.den1 {s : SV} (hl : ∀ p, p ∈ lp1 q.V l s → p ∈ q.LP) (ho : ∀ p, p ∈ op1 q.V l s → p ∈ q.OP) {v : Value} (hv : DenV E w s v) (hn : ∀ p ∈ (vw1 q.V l s).2, p) : DenV (q.env E) w (vw1 q.V l s).1 v := by
  cases s
  case agg vs =>
    obtain ⟨xs, h1, h2⟩ := hv
    exact ⟨xs, h1, vwL_ok vs xs (fun s hs v hv hp => Cl.den0 hm (fun p hp => hl p (List.mem_flatMap.2 ⟨s, hs, hp⟩)) (fun p hp => ho p (List.mem_flatMap.2 ⟨s, hs, hp⟩)) hv hp) h2 hn⟩
  case clo f vs =>
    obtain ⟨xs, h1, h2⟩ := hv
    exact ⟨xs, h1, vwL_ok vs xs (fun s hs v hv hp => Cl.denR hm (fun p hp => hl p (List.mem_flatMap.2 ⟨s, hs, hp⟩)) (fun p hp => ho p (List.mem_flatMap.2 ⟨s, hs, hp⟩)) hv hp) h2 hn⟩
  all_goals
    have h2 := fun h1 h3 h4 => Cl.denR (q := q) (l := l) hm (v := v) h1 h3 hv h4
    exact h2 hl ho hn
theorem Cl.denA : ∀ (svs : List SV) (al : List Nat) (vals : List Value), (∀ p, p ∈ (zipL (fun l s => lp1 q.V l s) svs al).flatMap id → p ∈ q.LP) → (∀ p, p ∈ (zipL (fun l s => op1 q.V l s) svs al).flatMap id → p ∈ q.OP) → DenL E w svs vals → (∀ p ∈ (zipL (fun l s => vw1 q.V l s) svs al).flatMap (·.2), p) →
    DenL (q.env E) w ((zipL (fun l s => vw1 q.V l s) svs al).map (·.1)) vals
  | [], _, [], _, _, _, _ => trivial
  | s :: r, [], v :: vals, hl, ho, hv, hn =>
    ⟨Cl.den1 hm (fun p hp => hl p (List.mem_append_left _ hp)) (fun p hp => ho p (List.mem_append_left _ hp)) hv.1 (fun p hp => hn p (List.mem_append_left _ hp)),
      Cl.denA r [] vals (fun p hp => hl p (List.mem_append_right _ hp)) (fun p hp => ho p (List.mem_append_right _ hp)) hv.2 (fun p hp => hn p (List.mem_append_right _ hp))⟩
  | s :: r, a :: al, v :: vals, hl, ho, hv, hn =>
    ⟨Cl.den1 hm (fun p hp => hl p (List.mem_append_left _ hp)) (fun p hp => ho p (List.mem_append_left _ hp)) hv.1 (fun p hp => hn p (List.mem_append_left _ hp)),
      Cl.denA r al vals (fun p hp => hl p (List.mem_append_right _ hp)) (fun p hp => ho p (List.mem_append_right _ hp)) hv.2 (fun p hp => hn p (List.mem_append_right _ hp))⟩
  | [], _, _ :: _, _, _, h, _ => h.elim
  | _ :: _, _, [], _, _, h, _ => h.elim
end den
end
end Go.Proofs.Yteiojclemodhaaa
