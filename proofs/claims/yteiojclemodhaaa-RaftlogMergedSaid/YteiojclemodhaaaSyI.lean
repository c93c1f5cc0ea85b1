/- The symbolic walk through code. No condition. -/
import Derived.Test.YteiojclemodhaaaSyR
namespace Go.Proofs.Yteiojclemodhaaa
open Go.RowKit Go.ChangeShapes Go.WideShapes Go.Deep
set_option linter.unusedVariables false
set_option linter.unusedSimpArgs false
/-- what follows -/
inductive KI
  | code (c : Code)
  | blk (id : Nat)
  | mark (j : Nat)
/-- slots and tags written -/
structure Lg where
  ts : List Nat
  ms : List Nat
/-- the ways through code -/
inductive Tr
  | ret (st : St)
  | nrm (st : St) (lg : Lg)
  | ext (id : Nat) (st : St)
  | need (ps : List Prop) (t : Tr)
  | br (b : Bool) (t1 t2 : Tr)
  | brp (p q : Prop) (t1 t2 : Tr)
  | lab (ls : List Nat) (t : Tr)
  | hav (r : RL) (t : RL → Tr)
  | back (j : Nat) (st : St)
  | loop (body : Code) (k : List KI) (st : St)
  | stuck (c : Nat) (o : Option Op) (st : St)
def Lg.add (lg : Lg) (us : List (Option Tmp × Upd)) : Lg := ⟨us.filterMap (·.1) ++ lg.ts, us.flatMap (fun x => x.2.mem.map (·.1)) ++ lg.ms⟩
/-- a way without branches -/
def line : Tr → Option (List Prop × St × Lg)
  | .nrm st lg => some ([], st, lg)
  | .need ps t => match line t with
    | some (qs, st, lg) => some (ps ++ qs, st, lg)
    | none => none
  | _ => none
/-- what two ways leave of a tag -/
def mrgE (b : Bool) : BE → BE → BE
  | .cells T vs, .cells T' us => if T = T' then (if vs.length = us.length then (if (mrgL b vs us).all SV.flat then .cells T (mrgL b vs us) else .dead) else .dead) else .dead
  | .row T ls r, .row T' ls' r' => if T = T' then (match RL.ite b r r' with | some r2 => .row T (ls ++ ls') r2 | none => .dead) else .dead
  | _, _ => .dead
/-- what had better not be forgotten -/
def clash : SV → SV → Bool
  | .own _, .nil | .nil, .own _ | .own _, .sl _ _ | .sl _ _, .own _ => true
  | .own t, .own u => !(Nat.beq t u)
  | _, _ => false
/-- two ways meet again -/
def meet (b : Bool) (st : St) (x y : St × Lg) : Option (St × Lg) :=
  if (x.2.ms ++ y.2.ms).all (fun t => !(st.m t).live || (mrgE b (x.1.m t) (y.1.m t)).live) && !((x.2.ts ++ y.2.ts).any fun i => clash (x.1.s i) (y.1.s i)) then
  some (⟨(x.2.ts ++ y.2.ts).map (fun i => (i, mrgV b (x.1.s i) (y.1.s i))) ++ st.tm, st.nt, (x.2.ms ++ y.2.ms).map (fun t => (t, mrgE b (x.1.m t) (y.1.m t))) ++ st.mm, max x.1.nx y.1.nx⟩, ⟨x.2.ts ++ y.2.ts, x.2.ms ++ y.2.ms⟩)
  else none
/-- all rows under these labels anew -/
def hvTr (ls : List Nat) (k : List (Nat × BE) → Tr) : List (Nat × BE) → List (Nat × BE) → Tr
  | acc, [] => k acc
  | acc, (t, .row T ms r) :: rest => match hitL ls ms with
    | true => .hav r fun q => hvTr ls k (acc ++ [(t, .row T ms q)]) rest
    | false => hvTr ls k (acc ++ [(t, .row T ms r)]) rest
  | acc, (t, e) :: rest => hvTr ls k (acc ++ [(t, hvE ls e)]) rest
/-- a write in memory that labels name -/
def cHv (P : Program) (st : St) (o : Oper) : Option (List Prop × List Nat) :=
  match o.guard, o.dst, o.op with
  | none, none, .store T x y => match strip (st.ev x), strip (st.ev y), sizeT P T with
    | (.el ls r i off, n1), (s, n2), some 1 => match (r.elem ls i)[off]?, s with
      | some (.int k _), .int k' _ => if k = k' then some (n1 ++ n2, ls) else none
      | some (.str _), .str _ => some (n1 ++ n2, ls)
      | _, _ => none
    | _, _, _ => none
  | _, _, _ => none
def lastO : List Oper → Option (List Oper × Oper)
  | [] => none
  | [o] => some ([], o)
  | o :: r => match lastO r with
    | some (l, q) => some (o :: l, q)
    | none => none
theorem lastO_ok : ∀ {l l1 : List Oper} {o : Oper}, lastO l = some (l1, o) → l = l1 ++ [o]
  | [], _, _, h => by simp [lastO] at h
  | [o], _, _, h => by
    simp only [lastO, Option.some.injEq, Prod.mk.injEq] at h
    obtain ⟨rfl, rfl⟩ := h
    rfl
  | o :: o2 :: r, l1, q, h => by
    simp only [lastO] at h
    split at h
    case h_2 => simp at h
    rename_i l3 q3 e
    simp only [Option.some.injEq, Prod.mk.injEq] at h
    obtain ⟨rfl, rfl⟩ := h
    rw [lastO_ok (l := o2 :: r) e]; rfl
mutual
def exec (P : Program) (C : Cfg) (more : Nat → St → TypeId → Op → Option Upd) : Nat → Code → List KI → St → Lg → Tr
  | 0, _, _, st, _ => .stuck 0 none st
  | n + 1, c, k, st, lg => match c with
    | .skip => contN P C more n k st lg
    | .seq a b => exec P C more n a (.code b :: k) st lg
    | .block id c => exec P C more n c (.blk id :: k) st lg
    | .exit id => contE P C more n id k st lg
    | .ret => .ret st
    | .cond x a b => match strip (st.ev x) with
      | (.bool t, ps) => match line (exec P C more n a [] st ⟨[], []⟩), line (exec P C more n b [] st ⟨[], []⟩) with
        | some (p1, s1, l1), some (p2, s2, l2) => match meet t st (s1, l1) (s2, l2) with
          | some (st2, l3) => .need (ps ++ p1.map (fun p => t = true → p) ++ p2.map (fun p => t = false → p)) (contN P C more n k st2 ⟨l3.ts ++ lg.ts, l3.ms ++ lg.ms⟩)
          | none => .need ps (.br t (exec P C more n a k st lg) (exec P C more n b k st lg))
        | _, _ => .need ps (.br t (exec P C more n a k st lg) (exec P C more n b k st lg))
      | (.ub p q, ps) => .need ps (.brp p q (exec P C more n a k st lg) (exec P C more n b k st lg))
      | _ => .stuck n none st
    | .region id ops draw => match runU P C more ops st.nx ops.toList (st.grow (widS ops.toList)) with
      | .ok us rs st2 =>
        if draw then (if fwd 0 ops.toList && indepAll us rs (ancs ops.toList []) 0 us rs then .need (us.flatMap (fun x => x.2.needs)) (contN P C more n k st2 (lg.add us)) else .stuck n none st)
        else .need (us.flatMap (fun x => x.2.needs)) (contN P C more n k st2 (lg.add us))
      | .bad c o s => match draw, lastO ops.toList with
        | false, some (l1, o1) => match runU P C more ops st.nx l1 (st.grow (widS ops.toList)) with
          | .ok us rs st2 => match cHv P st2 o1 with
            | some (ns, ls) => .need (us.flatMap (fun x => x.2.needs) ++ ns) (.lab ls (hvTr ls (fun mm => contN P C more n k ⟨hvTm ls st2.tm, st2.nt, mm, st2.nx⟩ lg) [] ((dedK [] (st2.mm.map (·.1))).map fun t => (t, st2.m t))))
            | none => .stuck c (some o) s
          | .bad _ _ _ => .stuck c (some o) s
        | _, _ => .stuck c (some o) s
    | .loop body => .loop body k st
    | _ => .stuck n none st
def contN (P : Program) (C : Cfg) (more : Nat → St → TypeId → Op → Option Upd) : Nat → List KI → St → Lg → Tr
  | 0, _, st, _ => .stuck 0 none st
  | n + 1, k, st, lg => match k with
    | [] => .nrm st lg
    | .code c :: k => exec P C more n c k st lg
    | .blk _ :: k => contN P C more n k st lg
    | .mark j :: _ => .back j st
def contE (P : Program) (C : Cfg) (more : Nat → St → TypeId → Op → Option Upd) : Nat → Nat → List KI → St → Lg → Tr
  | 0, _, _, st, _ => .stuck 0 none st
  | n + 1, id, k, st, lg => match k with
    | [] => .ext id st
    | .code _ :: k => contE P C more n id k st lg
    | .mark _ :: k => contE P C more n id k st lg
    | .blk i :: k => if id = i then contN P C more n k st lg else contE P C more n id k st lg
end
/-- the post of what follows -/
def qOf (P : Program) (J : Nat → Act → World → Prop) : List KI → (Exit → Act → World → Prop) → Exit → Act → World → Prop
  | [], Q => Q
  | .code c :: k, Q => Exit.then (c.wp P (qOf P J k Q)) (qOf P J k Q)
  | .blk id :: k, Q => Exit.inBlock id (qOf P J k Q)
  | .mark j :: k, Q => Exit.then (J j) (qOf P J k Q)
section
variable (P : Program) (base : Nat) (X : Cx) (w0 : World) (J : Nat → Act → World → Prop) (Q : Exit → Act → World → Prop)
/-- what a tree says -/
def den : Tr → Prop
  | .ret st => ∀ E a w, st.Ok base X w0 E a w → Q .ret a w
  | .nrm st _ => ∀ E a w, st.Ok base X w0 E a w → Q .normal a w
  | .ext id st => ∀ E a w, st.Ok base X w0 E a w → Q (.exit id) a w
  | .need ps t => (∀ p ∈ ps, p) ∧ den t
  | .br b t1 t2 => (b = true → den t1) ∧ (b = false → den t2)
  | .brp p q t1 t2 => (p → den t1) ∧ (q → den t2)
  | .lab ls t => (∀ i, i ∈ ls → X.nl ≤ i) ∧ den t
  | .hav r t => RL.All r fun q => den (t q)
  | .back j st => ∀ E a w, st.Ok base X w0 E a w → J j a w
  | .loop body k st => ∀ E a w, st.Ok base X w0 E a w → (Code.loop body).wp P (qOf P J k Q) a w
  | .stuck _ _ _ => False
end
/-- what has not been written is as it was -/
structure Fr (s0 : St) (lg : Lg) (s : St) : Prop where
  tml : s.nt = s0.nt
  tm : ∀ i, i ∉ lg.ts → s.s i = s0.s i
  m : ∀ t, t ∉ lg.ms → s.m t = s0.m t
def frT (s0 : St) : Tr → Prop
  | .nrm st lg => Fr s0 lg st
  | .need _ t => frT s0 t
  | .br _ a b => frT s0 a ∧ frT s0 b
  | .brp _ _ a b => frT s0 a ∧ frT s0 b
  | _ => True
theorem line_fr {s0 : St} : ∀ {t : Tr} {ps : List Prop} {st : St} {lg : Lg}, frT s0 t → line t = some (ps, st, lg) → Fr s0 lg st
  | .nrm st lg, ps, st2, lg2, h, e => by
    simp only [line, Option.some.injEq, Prod.mk.injEq] at e
    obtain ⟨_, rfl, rfl⟩ := e; exact h
  | .need qs t, ps, st2, lg2, h, e => by
    simp only [line] at e
    split at e
    case h_2 => simp at e
    rename_i e2
    simp only [Option.some.injEq, Prod.mk.injEq] at e
    obtain ⟨_, rfl, rfl⟩ := e
    exact line_fr (t := t) h e2
  | .ret _, _, _, _, _, e => by simp [line] at e
  | .ext _ _, _, _, _, _, e => by simp [line] at e
  | .br _ _ _, _, _, _, _, e => by simp [line] at e
  | .brp _ _ _ _, _, _, _, _, e => by simp [line] at e
  | .lab _ _, _, _, _, _, e => by simp [line] at e
  | .hav _ _, _, _, _, _, e => by simp [line] at e
  | .loop _ _ _, _, _, _, _, e => by simp [line] at e
  | .back _ _, _, _, _, _, e => by simp [line] at e
  | .stuck _ _ _, _, _, _, _, e => by simp [line] at e
theorem runU_fr {P : Program} {C : Cfg} {more : Nat → St → TypeId → Op → Option Upd} {ops : Array Oper} {c n : Nat} {l : List Oper} {st st2 s0 : St} {us : List (Option Tmp × Upd)} {rs : List (List Key)} {lg : Lg} (h : runU P C more ops c l (st.grow n) = .ok us rs st2) (hf : Fr s0 lg st) : Fr s0 (lg.add us) st2 := by
  obtain ⟨_, _, rfl, _⟩ := runU_at _ _ _ _ _ _ h
  have hl := apl_like (fun _ => true) 0 us (st.grow n)
  have key : ∀ k, (∀ j, ¬ Wr us j k) → (apl (fun _ => true) 0 us (st.grow n)).get k = (st.grow n).get k := by
    intro k hk
    rw [apl_get (D' := fun _ => false) 0 us (st.grow n) (st.grow n) ⟨rfl, rfl⟩ rfl (fun j hj => absurd hj (hk j)), apl_none 0 us _ _ (fun _ _ => rfl)]
  refine ⟨hl.tm.trans hf.tml, fun i hi => ?_, fun t hnt => ?_⟩
  · simp only [Lg.add, List.mem_append, not_or] at hi
    have := key (.t i) (fun j ⟨d, u, h1, h2⟩ => hi.1 (by
      simp only [wrs, List.mem_append] at h2
      rcases h2 with h2 | h2
      · cases d with
        | none => simp at h2
        | some d => simp at h2; subst h2; exact List.mem_filterMap.2 ⟨_, List.mem_of_getElem? h1, rfl⟩
      · simp at h2))
    simp only [St.get, KV.v.injEq] at this
    rw [this]; exact hf.tm i hi.2
  · simp only [Lg.add, List.mem_append, not_or] at hnt
    have := key (.m t) (fun j ⟨d, u, h1, h2⟩ => hnt.1 (by
      simp only [wrs, List.mem_append] at h2
      rcases h2 with h2 | h2
      · cases d <;> simp at h2
      · obtain ⟨p, hp, e⟩ := List.mem_map.1 h2
        simp only [Key.m.injEq] at e
        exact List.mem_flatMap.2 ⟨_, List.mem_of_getElem? h1, List.mem_map.2 ⟨p, hp, e⟩⟩))
    simp only [St.get, KV.e.injEq] at this
    rw [this]; exact hf.m t hnt.2
theorem look_map {α : Type} (d : α) (f : Nat → α) (rest : List (Nat × α)) : ∀ (l : List Nat) (i : Nat), lookA d (l.map (fun i => (i, f i)) ++ rest) i = if i ∈ l then f i else lookA d rest i
  | [], i => by simp
  | j :: r, i => by
    show lookA d ((j, f j) :: (r.map (fun i => (i, f i)) ++ rest)) i = _
    rw [lookA_cons, look_map d f rest r i]
    by_cases h : i = j
    · subst h; simp
    · simp [h]
section
variable {base : Nat} {X : Cx} {w0 : World}
theorem MemOk.weak {E : Env} {w : World} {m m' : Nat → BE} (h : MemOk base X w0 E m w) (hm : ∀ t, m' t = m t ∨ m' t = .dead ∨ ((m t).live = true ∧ (m' t).live = true ∧ ∀ v, Holds E w v (m t) → Holds E w v (m' t))) : MemOk base X w0 E m' w := by
  have hh : ∀ u b, Has E m' u b → Has E m u b := by
    intro u b ⟨hl, hv⟩
    rcases hm u with e | e | ⟨e, _, _⟩
    · rw [e] at hl; exact ⟨hl, hv⟩
    · rw [e] at hl; cases hl
    · exact ⟨e, hv⟩
  refine h.go (Env.Le.refl E) Same.rfl' (fun u => m' u ≠ m u) (fun u hu => ⟨Classical.byContradiction hu, rfl⟩) (fun u hu hm => (h.empty u hm).2) (fun _ _ _ _ => rfl)
    (fun u hu => ?_) h.lab h.dis (fun u b hb => h.sep u b (hh u b hb)) h.old (fun u v b h1 h2 => h.inj u v b (hh u b h1) (hh v b h2)) (BelowX.refl _ _ _)
  rcases hm u with e | e | ⟨e1, e2, e3⟩
  · exact absurd e hu
  · exact ⟨by rw [e]; simp, fun hl => by rw [e] at hl; cases hl⟩
  · refine ⟨fun e => (by rw [e] at e2; cases e2), fun _ => ?_⟩
    obtain ⟨v, hv, hh⟩ := h.holds e1
    exact ⟨v, hv, e3 v hh⟩
theorem mrgE_t {E : Env} {w : World} (x y : BE) : mrgE true x y = .dead ∨ (x.live = true ∧ (mrgE true x y).live = true ∧ ∀ v, Holds E w v x → Holds E w v (mrgE true x y)) := by
  unfold mrgE
  split
  · split
    · split
      · split
        · rename_i hl hf
          refine .inr ⟨rfl, rfl, fun v h => ?_⟩
          obtain ⟨b, xs, h1, h2, h3, h4⟩ := h
          exact ⟨b, xs, h1, h2, mrgL_t _ _ xs hl h3, hf⟩
        · exact .inl rfl
      · exact .inl rfl
    · exact .inl rfl
  · split
    · split
      · rename_i r2 e
        have e := RL.ite_t e
        subst e
        exact .inr ⟨rfl, rfl, fun v h => OwnR.mono h (Nat.le_refl _) (fun b => Env.set_mono (fun i hi => List.mem_append_left _ hi) b)⟩
      · exact .inl rfl
    · exact .inl rfl
  · exact .inl rfl
theorem mrgE_f {E : Env} {w : World} (x y : BE) : mrgE false x y = .dead ∨ (y.live = true ∧ (mrgE false x y).live = true ∧ ∀ v, Holds E w v y → Holds E w v (mrgE false x y)) := by
  unfold mrgE
  split
  · split
    · split
      · split
        · rename_i hT hl hf
          subst hT
          refine .inr ⟨rfl, rfl, fun v h => ?_⟩
          obtain ⟨b, xs, h1, h2, h3, h4⟩ := h
          exact ⟨b, xs, h1, h2, mrgL_f _ _ xs hl h3, hf⟩
        · exact .inl rfl
      · exact .inl rfl
    · exact .inl rfl
  · split
    · split
      · rename_i hT _ r2 e
        subst hT
        have e := RL.ite_f e
        subst e
        exact .inr ⟨rfl, rfl, fun v h => OwnR.mono h (Nat.le_refl _) (fun b => Env.set_mono (fun i hi => List.mem_append_right _ hi) b)⟩
      · exact .inl rfl
    · exact .inl rfl
  · exact .inl rfl
theorem meet_ok {b : Bool} {st : St} {x y : St × Lg} {st2 : St} {lg : Lg} (h : meet b st x y = some (st2, lg)) (hx : Fr st x.2 x.1) (hy : Fr st y.2 y.1) {E : Env} {a : Act} {w : World} (ho : if b then x.1.Ok base X w0 E a w else y.1.Ok base X w0 E a w) : st2.Ok base X w0 E a w := by
  unfold meet at h
  split at h
  case isFalse => simp at h
  simp only [Option.some.injEq, Prod.mk.injEq] at h
  obtain ⟨rfl, rfl⟩ := h
  cases b
  · have ho : y.1.Ok base X w0 E a w := ho
    refine ⟨ho.defers, ho.size.trans hy.tml, fun i => ?_, ho.mem.weak fun t => ?_⟩
    · show DenV E w (lookA .any (List.map (fun i => (i, mrgV false (x.1.s i) (y.1.s i))) (x.2.ts ++ y.2.ts) ++ st.tm) i) _
      rw [look_map]
      split
      · exact mrgV_f _ _ _ (ho.tm i)
      · rename_i hn
        have := hy.tm i (fun h => hn (List.mem_append_right _ h))
        show DenV E w (st.s i) _
        rw [← this]; exact ho.tm i
    · show lookA .empty (List.map (fun t => (t, mrgE false (x.1.m t) (y.1.m t))) (x.2.ms ++ y.2.ms) ++ st.mm) t = _ ∨ lookA .empty (List.map (fun t => (t, mrgE false (x.1.m t) (y.1.m t))) (x.2.ms ++ y.2.ms) ++ st.mm) t = _ ∨ _
      show _ ∨ _ ∨ (_ ∧ (lookA .empty (List.map (fun t => (t, mrgE false (x.1.m t) (y.1.m t))) (x.2.ms ++ y.2.ms) ++ st.mm) t).live = true ∧ ∀ v, _ → Holds E w v (lookA .empty (List.map (fun t => (t, mrgE false (x.1.m t) (y.1.m t))) (x.2.ms ++ y.2.ms) ++ st.mm) t))
      rw [look_map]
      split
      · exact .inr (mrgE_f (x.1.m t) (y.1.m t))
      · rename_i hn
        exact .inl (hy.m t (fun h => hn (List.mem_append_right _ h))).symm
  · have ho : x.1.Ok base X w0 E a w := ho
    refine ⟨ho.defers, ho.size.trans hx.tml, fun i => ?_, ho.mem.weak fun t => ?_⟩
    · show DenV E w (lookA .any (List.map (fun i => (i, mrgV true (x.1.s i) (y.1.s i))) (x.2.ts ++ y.2.ts) ++ st.tm) i) _
      rw [look_map]
      split
      · exact mrgV_t _ _ _ (ho.tm i)
      · rename_i hn
        have := hx.tm i (fun h => hn (List.mem_append_left _ h))
        show DenV E w (st.s i) _
        rw [← this]; exact ho.tm i
    · show lookA .empty (List.map (fun t => (t, mrgE true (x.1.m t) (y.1.m t))) (x.2.ms ++ y.2.ms) ++ st.mm) t = _ ∨ lookA .empty (List.map (fun t => (t, mrgE true (x.1.m t) (y.1.m t))) (x.2.ms ++ y.2.ms) ++ st.mm) t = _ ∨ _
      show _ ∨ _ ∨ (_ ∧ (lookA .empty (List.map (fun t => (t, mrgE true (x.1.m t) (y.1.m t))) (x.2.ms ++ y.2.ms) ++ st.mm) t).live = true ∧ ∀ v, _ → Holds E w v (lookA .empty (List.map (fun t => (t, mrgE true (x.1.m t) (y.1.m t))) (x.2.ms ++ y.2.ms) ++ st.mm) t))
      rw [look_map]
      split
      · exact .inr (mrgE_t (x.1.m t) (y.1.m t))
      · rename_i hn
        exact .inl (hx.m t (fun h => hn (List.mem_append_left _ h))).symm
theorem meet_fr {b : Bool} {st s0 : St} {x y : St × Lg} {st2 : St} {l3 lg : Lg} (h : meet b st x y = some (st2, l3)) (hf : Fr s0 lg st) : Fr s0 ⟨l3.ts ++ lg.ts, l3.ms ++ lg.ms⟩ st2 := by
  unfold meet at h
  split at h
  case isFalse => simp at h
  simp only [Option.some.injEq, Prod.mk.injEq] at h
  obtain ⟨rfl, rfl⟩ := h
  refine ⟨hf.tml, fun i hi => ?_, fun t hnt => ?_⟩
  · simp only [List.mem_append, not_or] at hi
    show lookA .any (List.map (fun i => (i, mrgV b (x.1.s i) (y.1.s i))) (x.2.ts ++ y.2.ts) ++ st.tm) i = _
    rw [look_map, if_neg (fun h => (List.mem_append.1 h).elim hi.1.1 hi.1.2)]
    exact hf.tm i hi.2
  · simp only [List.mem_append, not_or] at hnt
    show lookA .empty (List.map (fun t => (t, mrgE b (x.1.m t) (y.1.m t))) (x.2.ms ++ y.2.ms) ++ st.mm) t = _
    rw [look_map, if_neg (fun h => (List.mem_append.1 h).elim hnt.1.1 hnt.1.2)]
    exact hf.m t hnt.2
end
theorem Fr.refl (st : St) : Fr st ⟨[], []⟩ st := ⟨rfl, fun _ _ => rfl, fun _ _ => rfl⟩
theorem exec_fr (P : Program) (C : Cfg) (more : Nat → St → TypeId → Op → Option Upd) : ∀ (n : Nat), (∀ c k st lg s0, Fr s0 lg st → frT s0 (exec P C more n c k st lg)) ∧ (∀ k st lg s0, Fr s0 lg st → frT s0 (contN P C more n k st lg)) ∧ (∀ id k st lg s0, Fr s0 lg st → frT s0 (contE P C more n id k st lg)) := by
  intro n
  induction n with
  | zero =>
    refine ⟨fun c k st lg s0 h => ?_, fun k st lg s0 h => ?_, fun id k st lg s0 h => ?_⟩
    · unfold exec; trivial
    · unfold contN; trivial
    · unfold contE; trivial
  | succ n ih =>
    obtain ⟨ih1, ih2, ih3⟩ := ih
    refine ⟨fun c k st lg s0 h => ?_, fun k st lg s0 h => ?_, fun id k st lg s0 h => ?_⟩
    · unfold exec
      cases c with
      | skip => exact ih2 _ _ _ _ h
      | seq a b => exact ih1 _ _ _ _ _ h
      | block id c => exact ih1 _ _ _ _ _ h
      | exit id => exact ih3 _ _ _ _ _ h
      | ret => trivial
      | loop b => trivial
      | cond x a b =>
        simp only []
        split
        · split
          · split
            · rename_i hm
              exact ih2 _ _ _ _ (meet_fr hm h)
            · exact ⟨ih1 _ _ _ _ _ h, ih1 _ _ _ _ _ h⟩
          · exact ⟨ih1 _ _ _ _ _ h, ih1 _ _ _ _ _ h⟩
        · exact ⟨ih1 _ _ _ _ _ h, ih1 _ _ _ _ _ h⟩
        · trivial
      | region id ops draw =>
        simp only []
        split
        · rename_i hr
          split
          · split
            · exact ih2 _ _ _ _ (runU_fr hr h)
            · trivial
          · exact ih2 _ _ _ _ (runU_fr hr h)
        · split
          · split
            · split
              · trivial
              · trivial
            · trivial
          · trivial
      | _ => trivial
    · unfold contN
      cases k with
      | nil => exact h
      | cons x k =>
        cases x with
        | code c => exact ih1 _ _ _ _ _ h
        | blk i => exact ih2 _ _ _ _ h
        | mark j => trivial
    · unfold contE
      cases k with
      | nil => trivial
      | cons x k =>
        cases x with
        | code c => exact ih3 _ _ _ _ _ h
        | mark j => exact ih3 _ _ _ _ _ h
        | blk i =>
          simp only []
          split
          · exact ih2 _ _ _ _ h
          · exact ih3 _ _ _ _ _ h
theorem runU_ops {P : Program} {C : Cfg} {more : Nat → St → TypeId → Op → Option Upd} {ops : Array Oper} : ∀ (l : List Oper) (c : Nat) (st st2 : St) (us : List (Option Tmp × Upd)) (rs : List (List Key)), runU P C more ops c l st = .ok us rs st2 → runOps P C more ops c l st = .ok st2 (us.flatMap (fun x => x.2.needs))
  | [], c, st, st2, us, rs, h => by
    simp only [runU, RU.ok.injEq] at h
    obtain ⟨rfl, rfl, rfl⟩ := h
    rfl
  | o :: l, c, st, st2, us, rs, h => by
    simp only [runU] at h
    split at h
    case h_2 => simp at h
    rename_i u hu
    split at h
    case h_2 => simp at h
    rename_i h2
    simp only [RU.ok.injEq] at h
    obtain ⟨rfl, rfl, rfl⟩ := h
    simp only [runOps, hu, runU_ops l _ _ _ _ _ h2, List.flatMap_cons]
theorem den_line {P : Program} {base : Nat} {X : Cx} {w0 : World} {J : Nat → Act → World → Prop} {Q : Exit → Act → World → Prop} : ∀ {t : Tr} {ps : List Prop} {st : St} {lg : Lg}, line t = some (ps, st, lg) → (∀ p ∈ ps, p) → (∀ E a w, st.Ok base X w0 E a w → Q .normal a w) → den P base X w0 J Q t
  | .nrm st lg, ps, st2, lg2, e, hp, hq => by
    simp only [line, Option.some.injEq, Prod.mk.injEq] at e
    obtain ⟨_, rfl, rfl⟩ := e; exact hq
  | .need qs t, ps, st2, lg2, e, hp, hq => by
    simp only [line] at e
    split at e
    case h_2 => simp at e
    rename_i e2
    simp only [Option.some.injEq, Prod.mk.injEq] at e
    obtain ⟨rfl, rfl, rfl⟩ := e
    exact ⟨fun p h => hp p (List.mem_append_left _ h), den_line (t := t) e2 (fun p h => hp p (List.mem_append_right _ h)) hq⟩
  | .ret _, _, _, _, e, _, _ => by simp [line] at e
  | .ext _ _, _, _, _, e, _, _ => by simp [line] at e
  | .br _ _ _, _, _, _, e, _, _ => by simp [line] at e
  | .brp _ _ _ _, _, _, _, e, _, _ => by simp [line] at e
  | .lab _ _, _, _, _, e, _, _ => by simp [line] at e
  | .hav _ _, _, _, _, e, _, _ => by simp [line] at e
  | .loop _ _ _, _, _, _, e, _, _ => by simp [line] at e
  | .back _ _, _, _, _, e, _, _ => by simp [line] at e
  | .stuck _ _ _, _, _, _, e, _, _ => by simp [line] at e
section
variable {P : Program} {base : Nat} {X : Cx} {w0 : World}
theorem runOps_app {C : Cfg} (hC : OrcOk P C) {more : Nat → St → TypeId → Op → Option Upd} (hM : MoreOk P more) {ops : Array Oper} {Q : Exit → Act → World → Prop} {rest : List Oper} : ∀ (l : List Oper) (c : Nat) (st st2 : St) (n : List Prop), runOps P C more ops c l st = .ok st2 n → (∀ p ∈ n, p) →
    (∀ E' a' w', st2.Ok base X w0 E' a' w' → wpList P ops Q rest a' w') → ∀ (E : Env) (a : Act) (w : World), st.Ok base X w0 E a w → wpList P ops Q (l ++ rest) a w
  | [], c, st, st2, n, hr, hn, hQ, E, a, w, h => by
    simp only [runOps, RO.ok.injEq] at hr
    obtain ⟨rfl, rfl⟩ := hr
    exact hQ E a w h
  | o :: l, c, st, st2, n, hr, hn, hQ, E, a, w, h => by
    simp only [runOps] at hr
    split at hr
    case h_2 => simp at hr
    rename_i u hu
    split at hr
    case h_2 => simp at hr
    rename_i st3 n3 h3
    simp only [RO.ok.injEq] at hr
    obtain ⟨rfl, rfl⟩ := hr
    refine wpList_step fun K hK => ?_
    exact stepOp_ok hC hM hu h (fun p hp => hn p (List.mem_append_left _ hp)) (fun E' a' w' h' => hK a' w' (runOps_app hC hM l (c + wid o.op) _ _ _ h3 (fun p hp => hn p (List.mem_append_right _ hp)) hQ E' a' w' h'))
/-- one of the ways -/
theorem hvTr_leaf {J : Nat → Act → World → Prop} {Q : Exit → Act → World → Prop} {ls : List Nat} {k : List (Nat × BE) → Tr} {G : Nat → RL → Prop} (f : Nat → BE) : ∀ (ts : List Nat) (acc : List (Nat × BE)), ts.Nodup → den P base X w0 J Q (hvTr ls k acc (ts.map fun t => (t, f t))) →
    (∀ t T ms r, t ∈ ts → f t = .row T ms r → hitL ls ms = true → ∃ q, RL.Like r q ∧ G t q) →
    ∃ g : Nat → BE, den P base X w0 J Q (k (acc ++ ts.map fun t => (t, g t))) ∧ ∀ t, t ∈ ts → (∃ T ms r q, f t = .row T ms r ∧ hitL ls ms = true ∧ g t = .row T ms q ∧ G t q) ∨ ((∀ T ms r, f t = .row T ms r → hitL ls ms = false) ∧ g t = hvE ls (f t))
  | [], acc, _, h, _ => ⟨f, by simpa [hvTr] using h, fun t ht => by cases ht⟩
  | t :: ts, acc, hnd, h, hG => by
    have hts : t ∉ ts := (List.nodup_cons.1 hnd).1
    have tl : ∀ (e : BE), den P base X w0 J Q (hvTr ls k (acc ++ [(t, e)]) (ts.map fun t => (t, f t))) → ((∃ T ms r q, f t = .row T ms r ∧ hitL ls ms = true ∧ e = .row T ms q ∧ G t q) ∨ ((∀ T ms r, f t = .row T ms r → hitL ls ms = false) ∧ e = hvE ls (f t))) →
        ∃ g : Nat → BE, den P base X w0 J Q (k (acc ++ (t :: ts).map fun t => (t, g t))) ∧ ∀ s, s ∈ t :: ts → (∃ T ms r q, f s = .row T ms r ∧ hitL ls ms = true ∧ g s = .row T ms q ∧ G s q) ∨ ((∀ T ms r, f s = .row T ms r → hitL ls ms = false) ∧ g s = hvE ls (f s)) := by
      intro e hd he
      obtain ⟨g, g1, g2⟩ := hvTr_leaf f ts (acc ++ [(t, e)]) (List.nodup_cons.1 hnd).2 hd (fun s T ms r hs => hG s T ms r (List.mem_cons_of_mem _ hs))
      refine ⟨fun s => if s = t then e else g s, ?_, fun s hs => ?_⟩
      · have e1 : (t :: ts).map (fun s => (s, if s = t then e else g s)) = (t, e) :: ts.map fun s => (s, g s) := by
          simp only [List.map_cons, if_true]
          congr 1
          apply List.map_congr_left
          intro s hs
          rw [if_neg (fun (e2 : s = t) => hts (e2 ▸ hs))]
        rw [e1]
        simpa using g1
      · by_cases hst : s = t
        · subst hst; simp only [if_true]; exact he
        · simp only [if_neg hst]
          exact g2 s ((List.mem_cons.1 hs).resolve_left hst)
    simp only [List.map_cons] at h
    cases hft : f t with
    | row T ms r =>
      rw [hft] at h
      simp only [hvTr] at h
      cases hh : hitL ls ms
      · rw [hh] at h
        exact tl _ h (.inr ⟨fun T' ms' r' e => by rw [hft] at e; cases e; exact hh, by rw [hft]; rfl⟩)
      · rw [hh] at h
        obtain ⟨q, q1, q2⟩ := hG t T ms r (List.mem_cons_self ..) hft hh
        exact tl _ (RL.all_of h q1) (.inl ⟨T, ms, r, q, hft, hh, rfl, q2⟩)
    | empty => rw [hft] at h; simp only [hvTr] at h; exact tl _ h (.inr ⟨fun _ _ _ e => (by rw [hft] at e; cases e), by rw [hft]⟩)
    | dead => rw [hft] at h; simp only [hvTr] at h; exact tl _ h (.inr ⟨fun _ _ _ e => (by rw [hft] at e; cases e), by rw [hft]⟩)
    | cells T vs => rw [hft] at h; simp only [hvTr] at h; exact tl _ h (.inr ⟨fun _ _ _ e => (by rw [hft] at e; cases e), by rw [hft]⟩)
theorem dedK_nodup : ∀ (l seen : List Nat), (dedK seen l).Nodup
  | [], seen => List.nodup_nil
  | b :: r, seen => by
    simp only [dedK]
    cases hb : seen.contains b
    · simp only [cond_false]
      refine List.nodup_cons.2 ⟨fun h => ?_, dedK_nodup r _⟩
      exact ((dedK_mem r (b :: seen) b).1 h).2 (List.mem_cons_self ..)
    · simp only [cond_true]; exact dedK_nodup r _
theorem look_none {α : Type} {d : α} : ∀ {l : List (Nat × α)} {t : Nat}, t ∉ l.map (·.1) → lookA d l t = d
  | [], t, _ => rfl
  | (k, v) :: r, t, h => by
    simp only [List.map_cons, List.mem_cons, not_or] at h
    rw [lookA_cons, if_neg h.1]
    exact look_none h.2
theorem hav_go {st : St} {E : Env} {a : Act} {w : World} (ho : st.Ok base X w0 E a w) {ls : List Nat} {p : Addr} {v0 u : Value} {t0 : Ty} {d0 d1 : D} {S0 : Nat → Prop} (hf : t0.flat = true) (h0 : Rd w S0 t0 v0 d0) (h1 : Rd w S0 t0 u d1) (hc : w.cell? p = some v0)
    (hp : E.set ls p.block) (hnl : ∀ i, i ∈ ls → X.nl ≤ i) {J : Nat → Act → World → Prop} {Q : Exit → Act → World → Prop} {k : List (Nat × BE) → Tr} (hd : den P base X w0 J Q (hvTr ls k [] ((dedK [] (st.mm.map (·.1))).map fun t => (t, st.m t)))) :
    ∃ mm, den P base X w0 J Q (k mm) ∧ (⟨hvTm ls st.tm, st.nt, mm, st.nx⟩ : St).Ok base X w0 E a (w.setCell p u) := by
  obtain ⟨g, g1, g2⟩ := hvTr_leaf (G := fun t q => ∀ v, E.β t = some v → ∀ T ms r, st.m t = .row T ms r → OwnR 0 (w.setCell p u) T (E.set ms) q.tys v q.rows) st.m _ _ (dedK_nodup _ _) hd (fun t T ms r ht hm hh => by
    obtain ⟨v, k1, k2⟩ := ho.mem.row t _ _ _ hm
    obtain ⟨aa, c, ef⟩ := k2.form
    have hHas : ∀ b, v.ownBlock = some b → Has E st.m t b := fun b hb => ⟨by rw [hm]; rfl, v, k1, by rw [← vblock_own ⟨aa, _, c, ef⟩]; exact hb⟩
    obtain ⟨q, q1, q2, q3⟩ := k2.poke hf h0 h1 hc (fun e => (ho.mem.sep t _ (hHas _ e)).1 (Env.set_lab hp))
    obtain ⟨q', r1, r2, r3, r4⟩ := RL.like_of q2 q3
    refine ⟨q', r4, fun v' hv' T' ms' r' hm' => ?_⟩
    rw [k1] at hv'
    cases hv'
    rw [hm] at hm'
    cases hm'
    rw [r1, r2]; exact q1)
  rw [List.nil_append] at g1
  refine ⟨_, g1, ho.defers, ho.size, fun i => ?_, ?_⟩
  · show DenV E _ (lookA .any (hvTm ls st.tm) i) _
    rw [hvTm_look]
    have hi := ho.tm i
    show DenV E _ (hvS ls (st.s i)) _
    unfold hvS
    cases hcl : SV.cl ls (st.s i)
    · trivial
    · have hS : Same (E.cut ls).lab w (w.setCell p u) := ⟨by simp [World.setCell], fun b hb _ => Below.heap_setCell _ _ _ _ (fun e => by
        subst e
        obtain ⟨i, hi, hn⟩ := hb
        obtain ⟨j, hj, hs⟩ := hp
        have := ho.mem.dis i j _ hi hs
        subst this
        exact hn hj)⟩
      exact DenV.mono (Env.cut_le E ls) hS _ _ (DenV.cut _ _ hcl hi)
  · refine ho.mem.hav hf h0 h1 hc hp hnl fun t => ?_
    have hlk : (⟨hvTm ls st.tm, st.nt, (dedK [] (st.mm.map (·.1))).map fun t => (t, g t), st.nx⟩ : St).m t = if t ∈ dedK [] (st.mm.map (·.1)) then g t else .empty := look_keys _ _ _ _
    show (∃ T ms r q, st.m t = .row T ms r ∧ hitL ls ms = true ∧ (⟨hvTm ls st.tm, st.nt, (dedK [] (st.mm.map (·.1))).map fun t => (t, g t), st.nx⟩ : St).m t = .row T ms q ∧ _) ∨ (_ ∧ (⟨hvTm ls st.tm, st.nt, (dedK [] (st.mm.map (·.1))).map fun t => (t, g t), st.nx⟩ : St).m t = _)
    rw [hlk]
    by_cases ht : t ∈ dedK [] (st.mm.map (·.1))
    · rw [if_pos ht]
      rcases g2 t ht with ⟨T, ms, r, q, e1, e2, e3, e4⟩ | ⟨e1, e2⟩
      · exact .inl ⟨T, ms, r, q, e1, e2, e3, fun v hv => e4 v hv T ms r e1⟩
      · exact .inr ⟨e1, e2⟩
    · rw [if_neg ht]
      have hm : st.m t = .empty := look_none (fun h => ht ((dedK_mem _ _ _).2 ⟨h, by simp⟩))
      exact .inr ⟨fun T ms r e => (by rw [hm] at e; cases e), by rw [hm]; rfl⟩
theorem cHv_ok {st : St} {o : Oper} {ns : List Prop} {ls : List Nat} (h : cHv P st o = some (ns, ls)) (hn : ∀ p ∈ ns, p) (hnl : ∀ i, i ∈ ls → X.nl ≤ i) {J : Nat → Act → World → Prop} {Q Q2 : Exit → Act → World → Prop} {k : List (Nat × BE) → Tr} {ops : Array Oper}
    (hd : den P base X w0 J Q (hvTr ls k [] ((dedK [] (st.mm.map (·.1))).map fun t => (t, st.m t)))) {E : Env} {a : Act} {w : World}
    (hk : ∀ mm, den P base X w0 J Q (k mm) → ∀ {w' : World}, (⟨hvTm ls st.tm, st.nt, mm, st.nx⟩ : St).Ok base X w0 E a w' → Q2 .normal a w') (ho : st.Ok base X w0 E a w) : wpList P ops Q2 [o] a w := by
  unfold cHv at h
  split at h
  case h_2 => simp at h
  rename_i T x y hg hdst hop
  split at h
  case h_2 => simp at h
  rename_i ls' r i off n1 s n2 e1 e2 e3
  -- the cell that is written
  have fin : ∀ (t0 : Ty) (s0 : SV), (r.elem ls' i)[off]? = some s0 → ns = n1 ++ n2 → ls = ls' → t0.flat = true → (∀ v, DenV E w s0 v → ∃ d, Rd w (fun _ => True) t0 v d) → (∀ v, DenV E w s v → ∃ d, Rd w (fun _ => True) t0 v d) → wpList P ops Q2 [o] a w := by
    intro t0 s0 hs0 hns hls hf hr0 hr1
    subst hns; subst hls
    have hx := strip_ok (ho.ev x) (fun p hp => hn p (by rw [e1] at hp; exact List.mem_append_left _ hp))
    have hy := strip_ok (ho.ev y) (fun p hp => hn p (by rw [e2] at hp; exact List.mem_append_right _ hp))
    rw [e1] at hx
    rw [e2] at hy
    obtain ⟨hi, b, off0, c, hv, hrd⟩ := hx
    have hsl : Sl w (E.set ls) r.tys (some ⟨b, off0, none⟩) r.len c r.rows := hrd
    obtain ⟨b', o', eb, hS, hb, vals, hc, hrow⟩ := hsl.rowAt (by omega)
    simp only [Option.some.injEq, Addr.mk.injEq, and_true] at eb
    obtain ⟨rfl, rfl⟩ := eb
    obtain ⟨hl, hRd⟩ := hrow i hi
    have hL := RdL.of_at (vals i) hl (fun j hj => hRd j hj)
    have hel := RL.elem_ok hi hL
    have hoff : off < r.tys.length := by
      have h1 := (List.getElem?_eq_some_iff.1 hs0).1
      have h2 := hel.len
      simp at h2; omega
    have hd0 := hel.at off (List.getElem?_eq_some_iff.1 hs0).1
    have e4 : (r.elem ls i).getD off .any = s0 := by simp [List.getD, hs0]
    have e5 : ((List.range r.tys.length).map (vals i)).getD off undef = vals i off := by simp [List.getD, hoff]
    rw [e4, e5] at hd0
    obtain ⟨d0, h0⟩ := hr0 _ hd0
    obtain ⟨d1, h1⟩ := hr1 _ hy
    have hcell : w.cell? ⟨b, off0 + i * r.tys.length + off, none⟩ = some (vals i off) := hc i off hi hoff
    have hfz := hsl.thaw hi hoff
    obtain ⟨mm, q1, q2⟩ := hav_go ho (p := ⟨b, off0 + i * r.tys.length + off, none⟩) hf h0 h1 hcell hS hnl hd
    refine wpList_plain hg fun K hK => ?_
    have hone : (a.eval y).oneCell' = true := h1.one
    obtain ⟨inf, hinf, hsz⟩ : ∃ inf, P.info? T = some inf ∧ inf.size = 1 := by
      unfold sizeT at e3
      cases hi : P.info? T with
      | none => rw [hi] at e3; simp at e3
      | some inf => rw [hi] at e3; exact ⟨inf, rfl, by simpa using e3⟩
    have hrun := Lib.rl_storeVar_one (P := P) T inf hinf hsz ⟨b, off0 + i * r.tys.length + off, none⟩ (a.eval y) (vals i off) hone w hcell hfz
    refine wp_skipv (w' := w.setCell ⟨b, off0 + i * r.tys.length + off, none⟩ (a.eval y)) ?_ ?_
    · simp only [execOp, hop, Instr.storeAt, hv, Instr.sureAddr, Sem.run_bind, Sem.run_pure, Result.andThen, hrun]
    · rw [hdst]
      exact hK _ _ (wpList_nil (hk mm q1 q2))
  split at h
  · rename_i k1 n0 k2 m hs0
    split at h
    case isFalse => simp at h
    rename_i hkk
    subst hkk
    simp only [Option.some.injEq, Prod.mk.injEq] at h
    exact fin (.int k1) _ hs0 h.1.symm h.2.symm rfl (fun v hv => by obtain ⟨rfl, h2⟩ := hv; exact ⟨_, .int h2⟩) (fun v hv => by obtain ⟨rfl, h2⟩ := hv; exact ⟨_, .int h2⟩)
  · rename_i s1 s2 hs0
    simp only [Option.some.injEq, Prod.mk.injEq] at h
    exact fin .str _ hs0 h.1.symm h.2.symm rfl (fun v hv => by obtain ⟨rfl, h2⟩ := hv; exact ⟨_, .str h2⟩) (fun v hv => by obtain ⟨rfl, h2⟩ := hv; exact ⟨_, .str h2⟩)
  · simp at h
/-- the walk is the machine's -/
theorem exec_ok {C : Cfg} {more : Nat → St → TypeId → Op → Option Upd} (hm : P.follows .mixedOrders = true) (hC : OrcOk P C) (hCl : OrcLoc C) (hM : MoreOk P more) (hMl : MoreLoc more) {J : Nat → Act → World → Prop} : ∀ (n : Nat),
    (∀ c k st lg Q, den P base X w0 J Q (exec P C more n c k st lg) → ∀ E a w, st.Ok base X w0 E a w → c.wp P (qOf P J k Q) a w) ∧
    (∀ k st lg Q, den P base X w0 J Q (contN P C more n k st lg) → ∀ E a w, st.Ok base X w0 E a w → qOf P J k Q .normal a w) ∧
    (∀ id k st lg Q, den P base X w0 J Q (contE P C more n id k st lg) → ∀ E a w, st.Ok base X w0 E a w → qOf P J k Q (.exit id) a w) := by
  intro n
  induction n with
  | zero =>
    refine ⟨fun c k st lg Q h => ?_, fun k st lg Q h => ?_, fun id k st lg Q h => ?_⟩
    · unfold exec at h; exact h.elim
    · unfold contN at h; exact h.elim
    · unfold contE at h; exact h.elim
  | succ n ih =>
    obtain ⟨ih1, ih2, ih3⟩ := ih
    have qret : ∀ k Q a w, Q Exit.ret a w → qOf P J k Q .ret a w := by
      intro k
      induction k with
      | nil => intro Q a w h; exact h
      | cons x k ihk => intro Q a w h; cases x <;> exact ihk Q a w h
    refine ⟨fun c k st lg Q h E a w ho => ?_, fun k st lg Q h E a w ho => ?_, fun id k st lg Q h E a w ho => ?_⟩
    · unfold exec at h
      cases c with
      | skip => exact wp_skip (ih2 _ _ _ _ h E a w ho)
      | seq x y => exact wp_seq (ih1 _ _ _ _ _ h E a w ho)
      | block id c => exact wp_block (ih1 _ _ _ _ _ h E a w ho)
      | exit id => exact wp_exit (ih3 _ _ _ _ _ h E a w ho)
      | ret => exact wp_ret (qret k Q a w (h E a w ho))
      | loop b => exact h E a w ho
      | cond x y z =>
        simp only [] at h
        split at h
        case h_3 => exact h.elim
        case h_2 =>
          rename_i p q ps hx
          have hv := strip_ok (ho.ev x) (fun p hp' => h.1 p (by rw [hx] at hp'; exact hp'))
          rw [hx] at hv
          obtain ⟨t, hv, hp, hq⟩ := hv
          exact wp_cond_split hv (fun e => ih1 _ _ _ _ _ (h.2.1 (hp e)) E a w ho) (fun e => ih1 _ _ _ _ _ (h.2.2 (hq e)) E a w ho)
        rename_i t ps hx
        have fork : (∀ p ∈ ps, p) → (t = true → den P base X w0 J Q (exec P C more n y k st lg)) → (t = false → den P base X w0 J Q (exec P C more n z k st lg)) → (Code.cond x y z).wp P (qOf P J k Q) a w := by
          intro hp h1 h2
          have hv := strip_ok (ho.ev x) (fun p hp' => hp p (by rw [hx] at hp'; exact hp'))
          rw [hx] at hv
          have hv : a.eval x = .bool t := hv
          exact wp_cond_split hv (fun e => ih1 _ _ _ _ _ (h1 e) E a w ho) (fun e => ih1 _ _ _ _ _ (h2 e) E a w ho)
        split at h
        · rename_i p1 s1 l1 p2 s2 l2 e1 e2
          split at h
          · rename_i st2 l3 hmt
            obtain ⟨hn, hd⟩ := h
            have hps : ∀ p ∈ ps, p := fun p hp => hn p (by simp [hp])
            have hv := strip_ok (ho.ev x) (fun p hp' => hps p (by rw [hx] at hp'; exact hp'))
            rw [hx] at hv
            have hv : a.eval x = .bool t := hv
            have f1 := line_fr ((exec_fr P C more n).1 y [] st ⟨[], []⟩ st (Fr.refl st)) e1
            have f2 := line_fr ((exec_fr P C more n).1 z [] st ⟨[], []⟩ st (Fr.refl st)) e2
            refine wp_cond_split hv (fun e => ?_) (fun e => ?_)
            · refine Code.wp_mono (Q := qOf P J [] (fun e a w => e = .normal ∧ ∃ E, s1.Ok base X w0 E a w)) (fun e2 a2 w2 hq => ?_) (ih1 _ _ _ _ _ (den_line e1 (fun p hp => hn (t = true → p) (by simp only [List.mem_append, List.mem_map]; exact .inl (.inr ⟨p, hp, rfl⟩)) e) (fun E a w h => ⟨rfl, E, h⟩)) E a w ho)
              obtain ⟨rfl, E2, h2⟩ := hq
              exact ih2 _ _ _ _ hd E2 a2 w2 (meet_ok hmt f1 f2 (by rw [e]; exact h2))
            · refine Code.wp_mono (Q := qOf P J [] (fun e a w => e = .normal ∧ ∃ E, s2.Ok base X w0 E a w)) (fun e2 a2 w2 hq => ?_) (ih1 _ _ _ _ _ (den_line e2 (fun p hp => hn (t = false → p) (by simp only [List.mem_append, List.mem_map]; exact .inr ⟨p, hp, rfl⟩) e) (fun E a w h => ⟨rfl, E, h⟩)) E a w ho)
              obtain ⟨rfl, E2, h2⟩ := hq
              exact ih2 _ _ _ _ hd E2 a2 w2 (meet_ok hmt f1 f2 (by rw [e]; exact h2))
          · exact fork h.1 h.2.1 h.2.2
        · exact fork h.1 h.2.1 h.2.2
      | region id ops draw =>
        simp only [] at h
        have ho2 := ho.grow (widS ops.toList)
        split at h
        case h_2 =>
          split at h
          case h_2 => exact h.elim
          rename_i l1 o1 hlast
          split at h
          case h_2 => exact h.elim
          rename_i us rs st2 hr
          split at h
          case h_2 => exact h.elim
          rename_i ns ls hcv
          obtain ⟨hn, hnl, hd⟩ := h
          refine wp_region_list ?_
          rw [lastO_ok hlast]
          refine runOps_app hC hM _ _ _ _ _ (runU_ops _ _ _ _ _ _ hr) (fun p hp => hn p (List.mem_append_left _ hp)) (fun E' a' w' h' => ?_) E a w ho2
          exact cHv_ok hcv (fun p hp => hn p (List.mem_append_right _ hp)) hnl hd (fun mm' hden w' hOk => ih2 _ _ _ _ hden E' _ _ hOk) h'
        rename_i us rs st2 hr
        cases draw with
        | false =>
          simp only [Bool.false_eq_true, if_false] at h
          obtain ⟨hn, hd⟩ := h
          exact wp_region_list (runOps_ok hC hM _ _ _ _ _ (runU_ops _ _ _ _ _ _ hr) hn (fun E' a' w' h' => ih2 _ _ _ _ hd E' a' w' h') E a w ho2)
        | true =>
          simp only [if_true] at h
          split at h
          case isFalse => exact h.elim
          rename_i hch
          obtain ⟨hfw, hin⟩ := Bool.and_eq_true _ _ ▸ hch
          obtain ⟨hn, hd⟩ := h
          refine wp_region_any hm (draws hC hCl hM hMl hr hfw hin (fun x hx p hp => hn p (List.mem_flatMap.2 ⟨x, hx, hp⟩)) (fun E' a' w' h' => ih2 _ _ _ _ hd E' a' w' h') ops.size _ (by simp) (by simp) (fun i o _ hd => ?_) E a _ ?_)
          · exfalso
            simp only [Array.getD_eq_getD_getElem?, Array.getElem?_replicate] at hd
            split at hd <;> simp at hd
          · rw [apl_none 0 us _ _ (fun j _ => by
              simp only [Array.getD_eq_getD_getElem?, Array.getElem?_replicate]
              split <;> rfl)]
            exact ⟨ho2.defers, ho2.size, fun i => DenV.mono (w := w) (w' := { w with drawn := w.drawn + 1 }) (Env.Le.refl E) ⟨Nat.le_refl _, fun _ _ _ => rfl⟩ _ _ (ho2.tm i), ho2.mem.drew _⟩
      | _ => exact h.elim
    · unfold contN at h
      cases k with
      | nil => exact h E a w ho
      | cons x k =>
        cases x with
        | code c => exact ih1 _ _ _ _ _ h E a w ho
        | blk i => exact ih2 _ _ _ _ h E a w ho
        | mark j => exact h E a w ho
    · unfold contE at h
      cases k with
      | nil => exact h E a w ho
      | cons x k =>
        cases x with
        | code c => exact ih3 _ _ _ _ _ h E a w ho
        | mark j => exact ih3 _ _ _ _ _ h E a w ho
        | blk i =>
          simp only [] at h
          show Exit.inBlock i (qOf P J k Q) (.exit id) a w
          split at h
          · rename_i e; subst e; simp only [Exit.inBlock, if_true]; exact ih2 _ _ _ _ h E a w ho
          · rename_i e; simp only [Exit.inBlock, if_neg e]; exact ih3 _ _ _ _ _ h E a w ho
end
end Go.Proofs.Yteiojclemodhaaa
