/- The symbolic walk: regions, code, contracts, calls, loops, rows. No condition. -/
import Derived.Test.YtejahcpnbkegfaaSxU
import Derived.Deep.LoopGhost
namespace Go.Proofs.Ytejahcpnbkegfaa
open Go.RowKit Go.ChangeShapes Go.WideShapes Go.Deep
set_option linter.unusedVariables false
set_option linter.unusedSimpArgs false
inductive Key
  | t (n : Nat)
  | m (n : Nat)
  deriving DecidableEq
inductive KV
  | v (s : SV)
  | e (b : BE)
def St.get (st : St) : Key → KV
  | .t n => .v (st.tm.getD n .any)
  | .m n => .e (st.m n)
/-- what an operation writes -/
def wrs (dst : Option Tmp) (u : Upd) : List Key := (match dst with | some d => [Key.t d] | none => []) ++ u.mem.map (fun p => Key.m p.1)
def Key.has : List Key → Key → Bool
  | [], _ => false
  | .t a :: r, .t b => b == a || Key.has r (.t b)
  | .m a :: r, .m b => b == a || Key.has r (.m b)
  | _ :: r, k => Key.has r k
theorem Key.has_iff : ∀ (l : List Key) (k : Key), Key.has l k = true ↔ k ∈ l
  | [], k => by simp [Key.has]
  | a :: r, k => by
    cases a <;> cases k <;> simp [Key.has, Key.has_iff r]
def Key.apart (a b : List Key) : Bool := a.all fun k => !Key.has b k
theorem Key.apart_ok {a b : List Key} (h : Key.apart a b = true) {k : Key} (ha : k ∈ a) : k ∉ b := by
  intro hb
  have := List.all_eq_true.1 h k ha
  rw [(Key.has_iff b k).2 hb] at this
  simp at this
theorem putM_len : ∀ (l : List (Nat × BE)) (mm : List BE), (putM l mm).length = mm.length
  | [], _ => rfl
  | (t, e) :: r, mm => by rw [putM, putM_len r]; simp
theorem putM_ne : ∀ (l : List (Nat × BE)) (mm : List BE) (t : Nat), t ∉ l.map (·.1) → (putM l mm).getD t .empty = mm.getD t .empty
  | [], _, _, _ => rfl
  | (k, e) :: r, mm, t, h => by
    simp only [List.map_cons, List.mem_cons, not_or] at h
    rw [putM, putM_ne r _ t h.2]
    simp only [List.getD, List.getElem?_set]
    rw [if_neg (fun e => h.1 e.symm)]
theorem putM_in : ∀ (l : List (Nat × BE)) (mm mm2 : List BE) (t : Nat), t ∈ l.map (·.1) → mm.length = mm2.length → (putM l mm).getD t .empty = (putM l mm2).getD t .empty
  | [], _, _, _, h, _ => by simp at h
  | (k, e) :: r, mm, mm2, t, h, hl => by
    by_cases hr : t ∈ r.map (·.1)
    · rw [putM, putM]; exact putM_in r _ _ t hr (by simpa using hl)
    · simp only [List.map_cons, List.mem_cons] at h
      have hk : t = k := h.resolve_right hr
      subst hk
      rw [putM, putM, putM_ne r _ t hr, putM_ne r _ t hr]
      simp only [List.getD, List.getElem?_set, hl, if_true]
theorem St.app_ne {st : St} {dst : Option Tmp} {u : Upd} {k : Key} (h : k ∉ wrs dst u) : (st.app dst u).get k = st.get k := by
  simp only [wrs, List.mem_append, not_or] at h
  cases k with
  | t n =>
    cases dst with
    | none => rfl
    | some d =>
      have hne : ¬ n = d := by intro e; exact h.1 (by simp [e])
      show KV.v ((st.tm.set d u.val).getD n .any) = _
      rw [getD_set, if_neg hne]; rfl
  | m n =>
    show KV.e ((putM u.mem st.mm).getD n .empty) = _
    rw [putM_ne _ _ _ (fun hm => h.2 ?_)]; rfl
    obtain ⟨p, hp, e⟩ := List.mem_map.1 hm
    exact List.mem_map.2 ⟨p, hp, by rw [e]⟩
structure Like (a b : St) : Prop where
  tm : a.tm.length = b.tm.length
  mm : a.mm.length = b.mm.length
theorem St.app_in {a b : St} (hl : Like a b) {dst : Option Tmp} {u : Upd} {k : Key} (h : k ∈ wrs dst u) : (a.app dst u).get k = (b.app dst u).get k := by
  simp only [wrs, List.mem_append] at h
  cases k with
  | t n =>
    rcases h with h | h
    · cases dst with
      | none => simp at h
      | some d =>
        simp at h
        subst h
        show KV.v ((a.tm.set n u.val).getD n .any) = KV.v ((b.tm.set n u.val).getD n .any)
        rw [getD_set, getD_set, hl.tm]; simp
    · simp at h
  | m n =>
    rcases h with h | h
    · cases dst <;> simp at h
    · obtain ⟨p, hp, e⟩ := List.mem_map.1 h
      simp only [Key.m.injEq] at e
      show KV.e ((putM u.mem a.mm).getD n .empty) = KV.e ((putM u.mem b.mm).getD n .empty)
      rw [putM_in _ a.mm b.mm n (List.mem_map.2 ⟨p, hp, e⟩) hl.mm]
theorem St.app_like (st : St) (dst : Option Tmp) (u : Upd) : Like (st.app dst u) st := by
  cases dst <;> exact ⟨by simp [St.app], by simp [St.app, putM_len]⟩
theorem Like.trans {a b c : St} (h : Like a b) (k : Like b c) : Like a c := ⟨h.tm.trans k.tm, h.mm.trans k.mm⟩
theorem Like.symm {a b : St} (h : Like a b) : Like b a := ⟨h.tm.symm, h.mm.symm⟩
/-- the operations of D have been done -/
def apl (D : Nat → Bool) : Nat → List (Option Tmp × Upd) → St → St
  | _, [], st => st
  | i, (dst, u) :: r, st => apl D (i + 1) r (if D i then st.app dst u else st)
theorem apl_like (D : Nat → Bool) : ∀ (i : Nat) (l : List (Option Tmp × Upd)) (st : St), Like (apl D i l st) st
  | _, [], st => ⟨rfl, rfl⟩
  | i, (dst, u) :: r, st => by
    rw [apl]
    refine (apl_like D (i + 1) r _).trans ?_
    split
    · exact St.app_like st dst u
    · exact ⟨rfl, rfl⟩
/-- the writers of k among the operations -/
def Wr (l : List (Option Tmp × Upd)) (i : Nat) (k : Key) : Prop := ∃ d u, l[i]? = some (d, u) ∧ k ∈ wrs d u
theorem apl_get {D D' : Nat → Bool} {k : Key} : ∀ (i : Nat) (l : List (Option Tmp × Upd)) (st st' : St), Like st st' → st.get k = st'.get k → (∀ j, Wr l j k → D (i + j) = D' (i + j)) → (apl D i l st).get k = (apl D' i l st').get k
  | _, [], st, st', _, h, _ => h
  | i, (dst, u) :: r, st, st', hl, h, hD => by
    rw [apl, apl]
    refine apl_get (i + 1) r _ _ ?_ ?_ (fun j hj => ?_)
    · by_cases h1 : D i = true
      · by_cases h2 : D' i = true
        · rw [if_pos h1, if_pos h2]; exact ((St.app_like st dst u).trans hl).trans (St.app_like st' dst u).symm
        · rw [if_pos h1, if_neg h2]; exact (St.app_like st dst u).trans hl
      · by_cases h2 : D' i = true
        · rw [if_neg h1, if_pos h2]; exact hl.trans (St.app_like st' dst u).symm
        · rw [if_neg h1, if_neg h2]; exact hl
    · by_cases hk : k ∈ wrs dst u
      · have := hD 0 ⟨dst, u, rfl, hk⟩
        rw [Nat.add_zero] at this
        rw [this]
        by_cases h1 : D' i = true
        · rw [if_pos h1, if_pos h1]; exact St.app_in hl hk
        · rw [if_neg h1, if_neg h1]; exact h
      · have e1 : (if D i = true then st.app dst u else st).get k = st.get k := by split; exact St.app_ne hk; rfl
        have e2 : (if D' i = true then st'.app dst u else st').get k = st'.get k := by split; exact St.app_ne hk; rfl
        rw [e1, e2, h]
    · obtain ⟨d, v, h1, h2⟩ := hj
      have := hD (j + 1) ⟨d, v, by simpa using h1, h2⟩
      rwa [show i + (j + 1) = i + 1 + j by omega] at this
theorem apl_last {D : Nat → Bool} {k : Key} : ∀ (i : Nat) (l : List (Option Tmp × Upd)) (st s2 : St) (j : Nat) (d : Option Tmp) (u : Upd), l[j]? = some (d, u) → k ∈ wrs d u → D (i + j) = true → (∀ n, j < n → Wr l n k → D (i + n) = false) → Like st s2 →
    (apl D i l st).get k = (s2.app d u).get k
  | _, [], _, _, j, _, _, h, _, _, _, _ => by simp at h
  | i, (dst, v) :: r, st, s2, 0, d, u, h, hk, hD, hn, hl => by
    simp only [List.getElem?_cons_zero, Option.some.injEq, Prod.mk.injEq] at h
    obtain ⟨rfl, rfl⟩ := h
    rw [Nat.add_zero] at hD
    rw [apl, if_pos hD]
    have : (apl D (i + 1) r (st.app dst v)).get k = (apl (fun _ => false) (i + 1) r (st.app dst v)).get k := by
      refine apl_get _ _ _ _ ⟨rfl, rfl⟩ rfl (fun n hw => ?_)
      obtain ⟨d, u, h1, h2⟩ := hw
      have := hn (n + 1) (by omega) ⟨d, u, by simpa using h1, h2⟩
      rwa [show i + (n + 1) = i + 1 + n by omega] at this
    rw [this]
    have e : ∀ (l : List (Option Tmp × Upd)) (i : Nat) (s : St), apl (fun _ => false) i l s = s := by
      intro l
      induction l with
      | nil => intro i s; rfl
      | cons x l ih => intro i s; obtain ⟨a, b⟩ := x; rw [apl]; exact ih (i + 1) s
    rw [e]
    exact St.app_in hl hk
  | i, (dst, v) :: r, st, s2, j + 1, d, u, h, hk, hD, hn, hl => by
    rw [apl]
    refine apl_last (i + 1) r _ s2 j d u (by simpa using h) hk (by rw [show i + 1 + j = i + (j + 1) by omega]; exact hD) (fun n hjn hw => ?_) ?_
    · obtain ⟨d2, u2, h1, h2⟩ := hw
      have := hn (n + 1) (by omega) ⟨d2, u2, by simpa using h1, h2⟩
      rwa [show i + (n + 1) = i + 1 + n by omega] at this
    · split
      · exact (St.app_like st dst v).trans hl
      · exact hl
theorem apl_all : ∀ (i : Nat) (l : List (Option Tmp × Upd)) (st : St) (D : Nat → Bool), (∀ j, j < l.length → D (i + j) = true) → apl D i l st = apl (fun _ => true) i l st
  | _, [], _, _, _ => rfl
  | i, (d, u) :: r, st, D, h => by
    have h0 := h 0 (by simp)
    rw [Nat.add_zero] at h0
    rw [apl, apl, if_pos h0, if_pos rfl]
    exact apl_all (i + 1) r _ D (fun j hj => by have := h (j + 1) (by simpa using hj); rwa [show i + (j + 1) = i + 1 + j by omega] at this)
theorem apl_none : ∀ (i : Nat) (l : List (Option Tmp × Upd)) (st : St) (D : Nat → Bool), (∀ j, j < l.length → D (i + j) = false) → apl D i l st = st
  | _, [], _, _, _ => rfl
  | i, (d, u) :: r, st, D, h => by
    have h0 := h 0 (by simp)
    rw [Nat.add_zero] at h0
    rw [apl, if_neg (by rw [h0]; simp)]
    exact apl_none (i + 1) r _ D (fun j hj => by have := h (j + 1) (by simpa using hj); rwa [show i + (j + 1) = i + 1 + j by omega] at this)
section
variable {base : Nat} {X : Cx} {w0 : World}
theorem St.Ok.congr {a b : St} (hl : Like a b) (h : ∀ k, a.get k = b.get k) {E : Env} {ac : Act} {w : World} (ho : a.Ok base X w0 E ac w) : b.Ok base X w0 E ac w := by
  have hm : a.m = b.m := by funext t; have := h (.m t); simpa [St.get] using this
  refine ⟨ho.defers, by rw [← hl.tm]; exact ho.size, fun i => ?_, by rw [← hm]; exact ho.mem⟩
  have := h (.t i)
  simp only [St.get, KV.v.injEq] at this
  rw [← this]; exact ho.tm i
end
/-- what comes ahead of an operation, as bits -/
def ancs : List Oper → List Nat → List Nat
  | [], acc => acc
  | o :: r, acc => ancs r (acc ++ [o.after.toList.foldl (fun s e => if Region.binds .any e then s ||| 2 ^ e.on ||| acc.getD e.on 0 else s) 0])
/-- a set of operations that holds whatever comes ahead of what it holds -/
def Closed (ops : List Oper) (D : Nat → Bool) : Prop := ∀ i o, ops[i]? = some o → D i = true → ∀ e ∈ o.after.toList, Region.binds .any e = true → D e.on = true
theorem anc_fold {D : Nat → Bool} {acc : List Nat} (hacc : ∀ j i, (acc.getD j 0).testBit i = true → D j = true → D i = true) : ∀ (es : List Edge) (s : Nat), (∀ e ∈ es, Region.binds .any e = true → D e.on = true) → (∀ i, s.testBit i = true → D i = true) →
    ∀ i, (es.foldl (fun s e => if Region.binds .any e then s ||| 2 ^ e.on ||| acc.getD e.on 0 else s) s).testBit i = true → D i = true
  | [], s, _, hs, i, h => hs i h
  | e :: es, s, he, hs, i, h => by
    simp only [List.foldl_cons] at h
    refine anc_fold hacc es _ (fun e' h' => he e' (List.mem_cons_of_mem _ h')) (fun i hi => ?_) i h
    split at hi
    · rename_i hb
      simp only [Nat.testBit_or, Bool.or_eq_true] at hi
      rcases hi with (hi | hi) | hi
      · exact hs i hi
      · rw [Nat.testBit_two_pow] at hi
        have : e.on = i := by simpa using hi
        rw [← this]; exact he e (List.mem_cons_self ..) hb
      · exact hacc _ i hi (he e (List.mem_cons_self ..) hb)
    · exact hs i hi
theorem ancs_ok {D : Nat → Bool} : ∀ (l : List Oper) (acc : List Nat), (∀ i o, l[i]? = some o → D (acc.length + i) = true → ∀ e ∈ o.after.toList, Region.binds .any e = true → D e.on = true) →
    (∀ j i, (acc.getD j 0).testBit i = true → D j = true → D i = true) → ∀ j i, ((ancs l acc).getD j 0).testBit i = true → D j = true → D i = true
  | [], acc, _, h, j, i, hb, hj => h j i hb hj
  | o :: r, acc, hl, h, j, i, hb, hj => by
    rw [ancs] at hb
    refine ancs_ok r _ (fun i o ho hD => ?_) (fun j i hb hj => ?_) j i hb hj
    · rw [List.length_append, List.length_singleton] at hD
      exact hl (i + 1) o (by simpa using ho) (by rwa [show acc.length + (i + 1) = acc.length + 1 + i by omega])
    · by_cases hjl : j < acc.length
      · rw [List.getD_eq_getElem?_getD, List.getElem?_append_left hjl, ← List.getD_eq_getElem?_getD] at hb; exact h j i hb hj
      · by_cases hje : j = acc.length
        · subst hje
          rw [List.getD_eq_getElem?_getD, List.getElem?_append_right (Nat.le_refl _)] at hb
          simp only [Nat.sub_self, List.getElem?_cons_zero, Option.getD_some] at hb
          exact anc_fold h o.after.toList 0 (fun e he hbi => hl 0 o rfl (by simpa using hj) e he hbi) (fun i hi => by simp at hi) i hb
        · rw [List.getD_eq_getElem?_getD, List.getElem?_eq_none (by simp; omega)] at hb
          simp at hb
def leafTags : SV → List Nat
  | .ptr t _ => [t]
  | .own t => [t]
  | .oel t _ _ _ => [t]
  | _ => []
def svTags : SV → List Nat
  | .agg vs => vs.flatMap leafTags
  | .gd _ (.agg vs) => vs.flatMap leafTags
  | .gd _ s => leafTags s
  | s => leafTags s
def deepTags (st : St) (ss : List SV) : List Nat :=
  ss.flatMap svTags ++ (ss.flatMap svTags).flatMap fun t => match st.m t with | .cells _ vs => vs.flatMap leafTags | _ => []
/-- the tags that an operation may take -/
def blk8 (c : Nat) : List Nat := [c, c + 1, c + 2, c + 3, c + 4, c + 5, c + 6, c + 7]
/-- what an operation's operands say -/
structure Agree (a b : St) (c : Nat) (xs : List Operand) : Prop where
  like : Like a b
  ev : ∀ x, x ∈ xs → a.ev x = b.ev x
  m : ∀ t, t ∈ blk8 c ∨ t ∈ deepTags a (xs.map fun x => (strip (a.ev x)).1) → a.m t = b.m t
theorem deep_of {st : St} {ss : List SV} {s : SV} (hs : s ∈ ss) {t : Nat} (ht : t ∈ leafTags s) : t ∈ deepTags st ss := by
  refine List.mem_append_left _ (List.mem_flatMap.2 ⟨s, hs, ?_⟩)
  cases s <;> first | exact ht | (simp [leafTags] at ht)
theorem Agree.tag {a b : St} {c : Nat} {xs : List Operand} (h : Agree a b c xs) {x : Operand} (hx : x ∈ xs) {t : Nat} (ht : t ∈ leafTags (strip (a.ev x)).1) : a.m t = b.m t :=
  h.m t (.inr (deep_of (List.mem_map.2 ⟨x, hx, rfl⟩) ht))
theorem Agree.cells {a b : St} {c : Nat} {xs : List Operand} (h : Agree a b c xs) {x : Operand} (hx : x ∈ xs) : cellsAt a (strip (a.ev x)).1 = cellsAt b (strip (a.ev x)).1 := by
  have := fun t => h.tag hx (t := t)
  cases hs : (strip (a.ev x)).1 <;> simp only [cellsAt] <;> rw [hs] at this <;> rw [this _ (by simp [leafTags])]
theorem Agree.len {a b : St} {c : Nat} {xs : List Operand} (h : Agree a b c xs) {x : Operand} (hx : x ∈ xs) : lenV a (strip (a.ev x)).1 = lenV b (strip (a.ev x)).1 := by
  have := fun t => h.tag hx (t := t)
  cases hs : (strip (a.ev x)).1 <;> simp only [lenV] <;> rw [hs] at this <;> rw [this _ (by simp [leafTags])]
theorem Agree.free {a b : St} {c : Nat} {xs : List Operand} (h : Agree a b c xs) : a.free c = b.free c := by
  simp only [St.free, h.m c (.inl (List.mem_cons_self ..)), h.like.mm]
/-- calls and the other operations look at no more -/
def OrcLoc (C : Cfg) : Prop := ∀ c f a b svs, Like a b → (∀ t, t ∈ blk8 c ∨ t ∈ deepTags a svs → a.m t = b.m t) → C.orc c f a svs = C.orc c f b svs
def MoreLoc (more : Nat → St → TypeId → Op → Option Upd) : Prop := ∀ c a b ty op, Agree a b c op.operands.toList → more c a ty op = more c b ty op
theorem evL_congr {a b : St} : ∀ (xs : List Operand), (∀ x, x ∈ xs → a.ev x = b.ev x) → evL a xs = evL b xs
  | [], _ => rfl
  | x :: r, h => by rw [evL, evL, h x (List.mem_cons_self ..), evL_congr r (fun y hy => h y (List.mem_cons_of_mem _ hy))]
theorem evL_fst {a : St} : ∀ (xs : List Operand), (evL a xs).1 = xs.map fun x => (strip (a.ev x)).1
  | [] => rfl
  | x :: r => by rw [evL, List.map_cons, evL_fst r]
theorem partsS_congr {a b : St} : ∀ (xs : List (Nat × Operand)), (∀ x, x ∈ xs.map (·.2) → a.ev x = b.ev x) → partsS a xs = partsS b xs
  | [], _ => rfl
  | (i, x) :: r, h => by rw [partsS, partsS, h x (by simp), partsS_congr r (fun y hy => h y (List.mem_cons_of_mem _ hy))]
theorem core_congr {P : Program} {C : Cfg} {more : Nat → St → TypeId → Op → Option Upd} (hC : OrcLoc C) (hM : MoreLoc more) {c : Nat} {a b : St} {ty : TypeId} {op : Op} (h : Agree a b c op.operands.toList) : core P C more c a ty op = core P C more c b ty op := by
  have hev := h.ev
  unfold core
  split
  · rename_i x; simp only [cMove, hev x (by simp [Op.operands])]
  · rename_i x; simp only [cMove, hev x (by simp [Op.operands])]
  · rename_i x y z; simp only [cPick, hev x (by simp [Op.operands]), hev y (by simp [Op.operands]), hev z (by simp [Op.operands])]
  · rename_i T x; simp only [cBox, hev x (by simp [Op.operands]), h.free]
  · simp only [cAlloc, h.free]
  · rename_i T ps
    simp only [cBuild]
    rw [partsS_congr ps.toList (fun x hx => hev x (by simpa [Op.operands] using hx))]
  · rename_i T x
    simp only [cLoad]
    rw [h.cells (x := x) (by simp [Op.operands]), hev x (by simp [Op.operands])]
  · rename_i T x y
    have e : cStore P a T x y = cStore P b T x y := by
      have hx := hev x (by simp [Op.operands])
      have ht := fun t => h.tag (x := x) (by simp [Op.operands]) (t := t)
      simp only [cStore, hev y (by simp [Op.operands])]
      rw [← hx]
      rcases hs : strip (a.ev x) with ⟨s, n⟩
      rw [hs] at ht
      cases s
      case ptr t off =>
        have e2 := ht t (by simp [leafTags])
        rcases strip (b.ev y) with ⟨s2, n2⟩
        cases sizeT P T with
        | none => rfl
        | some k => simp only [e2]
      all_goals rfl
    rw [e, hM c a b ty _ h]
  · rename_i T x f; simp only [cFieldAddr, hev x (by simp [Op.operands])]
  · rename_i T x f; simp only [cField, hev x (by simp [Op.operands])]
  · rename_i T x i
    simp only [cIndexAddr, hev i (by simp [Op.operands])]
    have hx := hev x (by simp [Op.operands])
    have ht := fun t => h.tag (x := x) (by simp [Op.operands]) (t := t)
    rw [← hx]
    rcases hs : strip (a.ev x) with ⟨s, n⟩
    rw [hs] at ht
    cases sliceE P T with
    | none => rfl
    | some e =>
      rcases strip (b.ev i) with ⟨si, n1⟩
      cases si
      case int k m =>
        cases hz : sizeT P e with
        | none => cases s <;> simp only [hz]
        | some sz =>
          cases s
          case own t => simp only [hz]; rw [ht t (by simp [leafTags])]
          all_goals simp only [hz]
      all_goals rfl
  · rename_i x i; simp only [cExtract, hev x (by simp [Op.operands])]
  · rename_i op T x y T2
    have e : cBin P a op T x y = cBin P b op T x y := by simp only [cBin, hev x (by simp [Op.operands]), hev y (by simp [Op.operands])]
    rw [e, hM c a b ty _ h]
  · rename_i op T x; simp only [cUn, hev x (by simp [Op.operands])]
  · rename_i s d x
    have e : cConv P a s d x = cConv P b s d x := by simp only [cConv, hev x (by simp [Op.operands])]
    rw [e, hM c a b ty _ h]
  · rename_i x; simp only [cNil, hev x (by simp [Op.operands])]
  · rename_i f xs ts
    have hmem : ∀ x, x ∈ xs.toList → x ∈ (Op.call ⟨.value (.func f), xs, ts⟩).operands.toList := fun x hx => by simp [Op.operands, Call.operands]; exact .inr (by simpa using hx)
    have e2 := evL_congr xs.toList (fun x hx => hev x (hmem x hx))
    have e3 := hC c f a b (evL a xs.toList).1 h.like (fun t ht => h.m t (by
      rcases ht with ht | ht
      · exact .inl ht
      · right
        rw [evL_fst] at ht
        simp only [deepTags, List.mem_append, List.mem_flatMap] at ht ⊢
        have key : ∀ s, s ∈ List.map (fun x => (strip (a.ev x)).1) xs.toList → s ∈ List.map (fun x => (strip (a.ev x)).1) (Op.call ⟨.value (.func f), xs, ts⟩).operands.toList := by
          intro s hs
          obtain ⟨x, hx, e⟩ := List.mem_map.1 hs
          exact List.mem_map.2 ⟨x, hmem x hx, e⟩
        rcases ht with ⟨s, h1, h2⟩ | ⟨t2, ⟨s, h1, h2⟩, h3⟩
        · exact .inl ⟨s, key s h1, h2⟩
        · exact .inr ⟨t2, ⟨s, key s h1, h2⟩, h3⟩))
    simp only [cFun]
    rw [e3, e2]
  · rename_i x T
    simp only [cLen]
    rw [h.len (x := x) (by simp [Op.operands, Call.operands]), hev x (by simp [Op.operands, Call.operands])]
  · exact hM c a b ty _ h
/-- the keys that an operation looks at -/
def rds (ops : Array Oper) (c : Nat) (o : Oper) (st : St) : List Key :=
  (o.looksAt ops).map Key.t ++ (blk8 c ++ deepTags st (o.op.operands.toList.map fun x => (strip (st.ev x)).1)).map Key.m
theorem stepOp_congr {P : Program} {C : Cfg} {more : Nat → St → TypeId → Op → Option Upd} (hC : OrcLoc C) (hM : MoreLoc more) {ops : Array Oper} {c : Nat} {o : Oper} {a b : St} (hl : Like a b) (h : ∀ k, k ∈ rds ops c o a → a.get k = b.get k) :
    stepOp P C more ops c o a = stepOp P C more ops c o b := by
  have ht : ∀ t, t ∈ o.looksAt ops → a.tm.getD t .any = b.tm.getD t .any := fun t ht => by
    have := h (.t t) (List.mem_append_left _ (List.mem_map.2 ⟨t, ht, rfl⟩))
    simpa [St.get] using this
  have hev : ∀ x, x ∈ o.op.operands.toList → a.ev x = b.ev x := by
    intro x hx
    cases x with
    | tmp t =>
      refine ht t ?_
      simp only [Oper.looksAt, List.mem_append, List.mem_filterMap]
      exact .inl ⟨.tmp t, hx, rfl⟩
    | _ => rfl
  have hag : Agree a b c o.op.operands.toList := ⟨hl, hev, fun t ht2 => by
    have := h (.m t) (List.mem_append_right _ (List.mem_map.2 ⟨t, List.mem_append.2 ht2, rfl⟩))
    simpa [St.get] using this⟩
  have hcore := core_congr (P := P) (ty := o.type) hC hM hag
  unfold stepOp
  cases hg : o.guard with
  | none => exact hcore
  | some jp =>
    obtain ⟨j, pol⟩ := jp
    have hgb : guardB ops a j pol = guardB ops b j pol := by
      unfold guardB
      cases hd : (ops[j]?).bind (·.dst) with
      | none => rfl
      | some t =>
        simp only []
        rw [ht t (by simp [Oper.looksAt, hg, hd])]
    simp only [hgb, hcore]
/-- the operations in the text's order: what each does -/
inductive RU
  | ok (us : List (Option Tmp × Upd)) (rs : List (List Key)) (st : St)
  | bad (c : Nat) (o : Op) (st : St)
def runU (P : Program) (C : Cfg) (more : Nat → St → TypeId → Op → Option Upd) (ops : Array Oper) : Nat → List Oper → St → RU
  | _, [], st => .ok [] [] st
  | c, o :: r, st => match stepOp P C more ops c o st with
    | some u => match runU P C more ops (c + 8) r (st.app o.dst u) with
      | .ok us rs st2 => .ok ((o.dst, u) :: us) (rds ops c o st :: rs) st2
      | .bad c o s => .bad c o s
    | none => .bad c o.op st
theorem runU_at {P : Program} {C : Cfg} {more : Nat → St → TypeId → Op → Option Upd} {ops : Array Oper} : ∀ (l : List Oper) (c : Nat) (st st2 : St) (us : List (Option Tmp × Upd)) (rs : List (List Key)), runU P C more ops c l st = .ok us rs st2 →
    us.length = l.length ∧ rs.length = l.length ∧ st2 = apl (fun _ => true) 0 us st ∧ ∀ i o, l[i]? = some o → ∃ u, us[i]? = some (o.dst, u) ∧ rs[i]? = some (rds ops (c + 8 * i) o (apl (fun n => decide (n < i)) 0 us st)) ∧ stepOp P C more ops (c + 8 * i) o (apl (fun n => decide (n < i)) 0 us st) = some u
  | [], c, st, st2, us, rs, h => by
    simp only [runU, RU.ok.injEq] at h
    obtain ⟨rfl, rfl, rfl⟩ := h
    exact ⟨rfl, rfl, rfl, fun i o h => by simp at h⟩
  | o :: l, c, st, st2, us, rs, h => by
    simp only [runU] at h
    split at h
    case h_2 => simp at h
    rename_i u hu
    split at h
    case h_2 => simp at h
    rename_i us2 rs2 st3 h2
    simp only [RU.ok.injEq] at h
    obtain ⟨rfl, rfl, rfl⟩ := h
    obtain ⟨h3, h4, h5, h6⟩ := runU_at l (c + 8) _ _ _ _ h2
    have shiftD : ∀ (l : List (Option Tmp × Upd)) (n : Nat) (D D' : Nat → Bool) (s : St), (∀ i, D (n + 1 + i) = D' (n + i)) → apl D (n + 1) l s = apl D' n l s := by
      intro l
      induction l with
      | nil => intro _ _ _ _ _; rfl
      | cons x l ih =>
        intro n D D' s hD
        obtain ⟨d, v⟩ := x
        rw [apl, apl]
        have h0 := hD 0
        rw [Nat.add_zero, Nat.add_zero] at h0
        rw [h0]
        exact ih (n + 1) D D' _ (fun i => by have := hD (i + 1); rwa [show n + 1 + (i + 1) = n + 1 + 1 + i by omega, show n + (i + 1) = n + 1 + i by omega] at this)
    refine ⟨by simp [h3], by simp [h4], ?_, fun i o' ho => ?_⟩
    · rw [h5, apl, if_pos rfl]
      exact (shiftD us2 0 _ _ _ (fun _ => rfl)).symm
    · cases i with
      | zero =>
        simp only [List.getElem?_cons_zero, Option.some.injEq] at ho
        subst ho
        have e : apl (fun n => decide (n < 0)) 0 ((o.dst, u) :: us2) st = st := apl_none _ _ _ _ (fun j _ => by simp)
        refine ⟨u, rfl, ?_, ?_⟩
        · rw [e, Nat.mul_zero, Nat.add_zero]; rfl
        · rw [e, Nat.mul_zero, Nat.add_zero]; exact hu
      | succ i =>
        obtain ⟨u2, h7, h8, h9⟩ := h6 i o' (by simpa using ho)
        have e : apl (fun n => decide (n < i + 1)) 0 ((o.dst, u) :: us2) st = apl (fun n => decide (n < i)) 0 us2 (st.app o.dst u) := by
          rw [apl, if_pos (by simp)]
          exact shiftD us2 0 _ _ _ (fun j => by simp only [Nat.zero_add, decide_eq_decide]; omega)
        refine ⟨u2, by simpa using h7, ?_, ?_⟩
        · rw [e, show c + 8 * (i + 1) = c + 8 + 8 * i by omega]; simpa using h8
        · rw [e, show c + 8 * (i + 1) = c + 8 + 8 * i by omega]; exact h9
/-- do two operations hang together through no key? -/
def indep (ua : Option Tmp × Upd) (ra : List Key) (ub : Option Tmp × Upd) (rb : List Key) : Bool :=
  Key.apart (wrs ua.1 ua.2) (wrs ub.1 ub.2) && Key.apart (wrs ua.1 ua.2) rb && Key.apart (wrs ub.1 ub.2) ra
/-- each one hangs together with none that may come ahead of it or behind it -/
def indepRow (an : Nat) (ub : Option Tmp × Upd) (rb : List Key) : Nat → List (Option Tmp × Upd) → List (List Key) → Bool
  | i, ua :: us, ra :: rs => (an.testBit i || indep ua ra ub rb) && indepRow an ub rb (i + 1) us rs
  | _, _, _ => true
def indepAll (us : List (Option Tmp × Upd)) (rs : List (List Key)) (an : List Nat) : Nat → List (Option Tmp × Upd) → List (List Key) → Bool
  | j, ub :: usb, rb :: rsb => indepRow (an.getD j 0) ub rb 0 (us.take j) (rs.take j) && indepAll us rs an (j + 1) usb rsb
  | _, _, _ => true
theorem indepRow_ok {an : Nat} {ub : Option Tmp × Upd} {rb : List Key} : ∀ (k : Nat) (us : List (Option Tmp × Upd)) (rs : List (List Key)), indepRow an ub rb k us rs = true → ∀ i ua ra, us[i]? = some ua → rs[i]? = some ra → an.testBit (k + i) = true ∨ indep ua ra ub rb = true
  | k, u :: us, r :: rs, h, i, ua, ra, hu, hr => by
    simp only [indepRow, Bool.and_eq_true, Bool.or_eq_true] at h
    cases i with
    | zero => simp only [List.getElem?_cons_zero, Option.some.injEq] at hu hr; subst hu; subst hr; exact h.1
    | succ i => have := indepRow_ok (k + 1) us rs h.2 i ua ra (by simpa using hu) (by simpa using hr); rwa [show k + (i + 1) = k + 1 + i by omega]
  | _, [], _, _, i, _, _, hu, _ => by simp at hu
  | _, _ :: _, [], _, i, _, _, _, hr => by simp at hr
theorem indepAll_ok {us : List (Option Tmp × Upd)} {rs : List (List Key)} {an : List Nat} : ∀ (k : Nat) (usb : List (Option Tmp × Upd)) (rsb : List (List Key)), indepAll us rs an k usb rsb = true → ∀ j ub rb, usb[j]? = some ub → rsb[j]? = some rb → indepRow (an.getD (k + j) 0) ub rb 0 (us.take (k + j)) (rs.take (k + j)) = true
  | k, u :: usb, r :: rsb, h, j, ub, rb, hu, hr => by
    simp only [indepAll, Bool.and_eq_true] at h
    cases j with
    | zero => simp only [List.getElem?_cons_zero, Option.some.injEq] at hu hr; subst hu; subst hr; exact h.1
    | succ j => have := indepAll_ok (k + 1) usb rsb h.2 j ub rb (by simpa using hu) (by simpa using hr); rwa [show k + (j + 1) = k + 1 + j by omega]
  | _, [], _, _, j, _, _, hu, _ => by simp at hu
  | _, _ :: _, [], _, j, _, _, _, hr => by simp at hr
/-- edges go backwards -/
def fwd : Nat → List Oper → Bool
  | _, [] => true
  | i, o :: r => o.after.toList.all (fun e => Nat.blt e.on i || !Region.binds .any e) && fwd (i + 1) r
theorem fwd_ok : ∀ (k : Nat) (l : List Oper), fwd k l = true → ∀ i o, l[i]? = some o → ∀ e ∈ o.after.toList, Region.binds .any e = true → e.on < k + i
  | k, o :: r, h, i, o', ho, e, he, hb => by
    simp only [fwd, Bool.and_eq_true] at h
    cases i with
    | zero =>
      simp only [List.getElem?_cons_zero, Option.some.injEq] at ho
      subst ho
      have := List.all_eq_true.1 h.1 e he
      simp only [Bool.or_eq_true, hb, Bool.not_true, Bool.false_eq_true, or_false] at this
      have := this
      simp [Nat.blt] at this
      omega
    | succ i => have := fwd_ok (k + 1) r h.2 i o' (by simpa using ho) e he hb; omega
  | _, [], _, i, o', ho, _, _, _ => by simp at ho
section
variable {P : Program} {base : Nat} {X : Cx} {w0 : World} {st : St}
/-- in whatever order -/
theorem draws {C : Cfg} (hC : OrcOk P C) (hCl : OrcLoc C) {more : Nat → St → TypeId → Op → Option Upd} (hM : MoreOk P more) (hMl : MoreLoc more) {ops : Array Oper} {Q : Exit → Act → World → Prop} {c : Nat} {us : List (Option Tmp × Upd)} {rs : List (List Key)} {st2 : St}
    (hr : runU P C more ops c ops.toList st = .ok us rs st2) (hf : fwd 0 ops.toList = true) (hi : indepAll us rs (ancs ops.toList []) 0 us rs = true) (hn : ∀ x, x ∈ us → ∀ p, p ∈ x.2.needs → p)
    (hQ : ∀ E a w, st2.Ok base X w0 E a w → Q .normal a w) : ∀ (fuel : Nat) (listed : Array Bool), listed.size = ops.size → (listed.toList.filter (!·)).length = fuel → Closed ops.toList (fun i => listed.getD i false) →
    ∀ E a w, (apl (fun i => listed.getD i false) 0 us st).Ok base X w0 E a w → wpAny P .any ops Q fuel listed a w := by
  obtain ⟨hul, hrl, hst2, hat⟩ := runU_at ops.toList c st st2 us rs hr
  have hsz : ops.toList.length = ops.size := Array.length_toList
  -- two operations that hang together are ordered
  have hdep : ∀ (D : Nat → Bool), Closed ops.toList D → ∀ i j ui ri uj rj, us[i]? = some ui → rs[i]? = some ri → us[j]? = some uj → rs[j]? = some rj → i < j → D j = true → D i = false → indep ui ri uj rj = true := by
    intro D hD i j ui ri uj rj h1 h2 h3 h4 hij hj hi'
    have := indepAll_ok 0 us rs hi j uj rj h3 h4
    rw [Nat.zero_add] at this
    rcases indepRow_ok 0 _ _ this i ui ri (by rw [List.getElem?_take, if_pos hij]; exact h1) (by rw [List.getElem?_take, if_pos hij]; exact h2) with h5 | h5
    · rw [Nat.zero_add] at h5
      have := ancs_ok ops.toList [] (fun i o ho hd => hD i o ho (by simpa using hd)) (fun j i hb _ => by simp at hb) j i h5 hj
      rw [hi'] at this; cases this
    · exact h5
  intro fuel
  induction fuel with
  | zero =>
    intro listed hls hfl hcl E a w h
    have hall : ∀ i, i < ops.size → listed.getD i false = true := by
      intro i hi
      have hz : listed.toList.filter (!·) = [] := List.eq_nil_of_length_eq_zero hfl
      have hm : listed[i]'(by omega) ∈ listed.toList := by simp
      have := List.filter_eq_nil_iff.1 hz _ hm
      rw [Array.getD_eq_getD_getElem?, Array.getElem?_eq_getElem (by omega)]
      simpa using this
    refine ⟨?_, ?_⟩
    · unfold Region.ready
      refine List.filter_eq_nil_iff.2 fun i hi => ?_
      have hi' := List.mem_range.1 hi
      have := hall i hi'
      have e : listed.getD i true = true := by
        rw [Array.getD_eq_getD_getElem?, Array.getElem?_eq_getElem (by omega)] at this ⊢
        simpa using this
      simp [e]
    · refine hQ E a w ?_
      rw [hst2]
      rw [apl_all 0 us st (fun i => listed.getD i false) (fun j hj => by rw [Nat.zero_add]; exact hall j (by omega))] at h
      exact h
  | succ fuel ih =>
    intro listed hls hfl hcl E a w h
    refine ⟨fun hnil => ?_, fun j hj => ?_⟩
    · -- the least one that is not listed is ready
      exfalso
      have hex : ∃ i, i < ops.size ∧ listed.getD i false = false := by
        have hne : listed.toList.filter (!·) ≠ [] := by intro e; rw [e] at hfl; simp at hfl
        obtain ⟨b, hb⟩ := List.exists_mem_of_ne_nil _ hne
        obtain ⟨h1, h2⟩ := List.mem_filter.1 hb
        obtain ⟨i, hi, e⟩ := List.mem_iff_getElem.1 h1
        have hi2 : i < listed.size := by simpa using hi
        refine ⟨i, by omega, ?_⟩
        rw [Array.getD_eq_getD_getElem?, Array.getElem?_eq_getElem hi2]
        simp at h2 e ⊢
        rw [e]; exact h2
      have key : ∀ n i, i ≤ n → i < ops.size → listed.getD i false = false → False := by
        intro n
        induction n with
        | zero =>
          intro i hin hi hl
          have hi0 : i = 0 := by omega
          subst hi0
          have hmem : 0 ∈ Region.ready .any ops listed := by
            unfold Region.ready
            refine List.mem_filter.2 ⟨List.mem_range.2 hi, ?_⟩
            have e1 : listed.getD 0 true = false := by
              rw [Array.getD_eq_getD_getElem?, Array.getElem?_eq_getElem (by omega)] at hl ⊢; simpa using hl
            rw [e1, Array.getElem?_eq_getElem hi]
            simp only [Bool.not_false, Option.map_some, Option.getD_some, Bool.true_and]
            rw [← Array.all_toList]
            refine List.all_eq_true.2 fun e he => ?_
            cases hb : Region.binds .any e
            · rfl
            · have := fwd_ok 0 ops.toList hf 0 ops[0] (by rw [Array.getElem?_toList, Array.getElem?_eq_getElem hi]) e he hb; omega
          rw [hnil] at hmem; cases hmem
        | succ n ihn =>
          intro i hin hi hl
          have hmem : i ∈ Region.ready .any ops listed := by
            unfold Region.ready
            refine List.mem_filter.2 ⟨List.mem_range.2 hi, ?_⟩
            have e1 : listed.getD i true = false := by
              rw [Array.getD_eq_getD_getElem?, Array.getElem?_eq_getElem (by omega)] at hl ⊢; simpa using hl
            rw [e1, Array.getElem?_eq_getElem hi]
            simp only [Bool.not_false, Option.map_some, Option.getD_some, Bool.true_and]
            rw [← Array.all_toList]
            refine List.all_eq_true.2 fun e he => ?_
            cases hb : Region.binds .any e
            · rfl
            · have hlt := fwd_ok 0 ops.toList hf i ops[i] (by rw [Array.getElem?_toList, Array.getElem?_eq_getElem hi]) e he hb
              cases hd : listed.getD e.on false
              · exact (ihn e.on (by omega) (by omega) hd).elim
              · rfl
          rw [hnil] at hmem; cases hmem
      obtain ⟨i, hi, hl⟩ := hex
      exact key i i (Nat.le_refl _) hi hl
    · unfold Region.ready at hj
      obtain ⟨hj1, hj2⟩ := List.mem_filter.1 hj
      have hjs := List.mem_range.1 hj1
      obtain ⟨hj3, hj4⟩ := Bool.and_eq_true _ _ ▸ hj2
      have hjl : listed.getD j false = false := by
        rw [Array.getD_eq_getD_getElem?, Array.getElem?_eq_getElem (by omega)] at hj3 ⊢
        simpa using hj3
      have hoj : ops.toList[j]? = some ops[j] := by rw [Array.getElem?_toList, Array.getElem?_eq_getElem hjs]
      have hpre : ∀ e ∈ ops[j].after.toList, Region.binds .any e = true → listed.getD e.on false = true := by
        rw [Array.getElem?_eq_getElem hjs] at hj4
        simp only [Option.map_some, Option.getD_some] at hj4
        rw [← Array.all_toList] at hj4
        intro e he hb
        have := List.all_eq_true.1 hj4 e he
        rw [hb] at this
        simpa using this
      obtain ⟨u, hu1, hu2, hu3⟩ := hat j ops[j] hoj
      let D := fun i => listed.getD i false
      -- a writer of a key that j looks at or writes
      have hrd : ∀ i ui ri, us[i]? = some ui → rs[i]? = some ri → i ≠ j → ∀ k, k ∈ wrs ui.1 ui.2 → (k ∈ rds ops (c + 8 * j) ops[j] (apl (fun n => decide (n < j)) 0 us st) ∨ k ∈ wrs ops[j].dst u) → D i = decide (i < j) := by
        intro i ui ri h1 h2 hne k hk hor
        by_cases hij : i < j
        · rw [decide_eq_true hij]
          cases hd : D i
          · -- then i stands ahead of j: closed with j
            exfalso
            have hind := indepAll_ok 0 us rs hi j _ _ hu1 hu2
            rw [Nat.zero_add] at hind
            rcases indepRow_ok 0 _ _ hind i ui ri (by rw [List.getElem?_take, if_pos hij]; exact h1) (by rw [List.getElem?_take, if_pos hij]; exact h2) with h5 | h5
            · rw [Nat.zero_add] at h5
              have hcl2 : Closed ops.toList (fun n => decide (n = j) || D n) := by
                intro n o ho hd' e he hb
                simp only [Bool.or_eq_true, decide_eq_true_eq] at hd' ⊢
                rcases hd' with rfl | hd'
                · rw [hoj] at ho; cases ho; exact .inr (hpre e he hb)
                · exact .inr (hcl n o ho hd' e he hb)
              have := ancs_ok (D := fun n => decide (n = j) || D n) ops.toList [] (fun i o ho hd => hcl2 i o ho (by simpa using hd)) (fun j i hb _ => by simp at hb) j i h5 (by simp)
              simp only [Bool.or_eq_true, decide_eq_true_eq] at this
              rcases this with h6 | h6
              · exact hne h6
              · rw [hd] at h6; cases h6
            · simp only [indep, Bool.and_eq_true] at h5
              rcases hor with h6 | h6
              · exact Key.apart_ok h5.1.2 hk h6
              · exact Key.apart_ok h5.1.1 hk h6
          · rfl
        · rw [decide_eq_false hij]
          cases hd : D i
          · rfl
          · exfalso
            have h5 := hdep D hcl j i _ _ ui ri hu1 hu2 h1 h2 (by omega) hd hjl
            simp only [indep, Bool.and_eq_true] at h5
            rcases hor with h6 | h6
            · exact Key.apart_ok h5.2 hk h6
            · exact Key.apart_ok h5.1.1 h6 hk
      have hrsAt : ∀ (i : Nat) (ui : Option Tmp × Upd), us[i]? = some ui → ∃ ri, rs[i]? = some ri := by
        intro i ui h1
        have := (List.getElem?_eq_some_iff.1 h1).1
        exact ⟨rs[i]'(by omega), List.getElem?_eq_getElem _⟩
      have hlikeD := (apl_like D 0 us st)
      have hlikeJ := (apl_like (fun n => decide (n < j)) 0 us st)
      -- what the operation does here is what it does in the text's order
      have hstep : stepOp P C more ops (c + 8 * j) ops[j] (apl D 0 us st) = some u := by
        rw [← hu3]
        refine (stepOp_congr hCl hMl (hlikeJ.trans hlikeD.symm) (fun k hk => ?_)).symm
        refine apl_get 0 us st st ⟨rfl, rfl⟩ rfl (fun n hw => ?_)
        obtain ⟨d, v, h1, h2⟩ := hw
        obtain ⟨rn, h3⟩ := hrsAt n _ h1
        rw [Nat.zero_add]
        by_cases hne : n = j
        · subst hne
          show decide (n < n) = D n
          rw [show D n = false from hjl]; simp
        · exact (hrd n (d, v) rn h1 h3 hne k h2 (.inl hk)).symm
      have hlisted : ∀ i, (listed.setIfInBounds j true).getD i false = (decide (i = j) || D i) := by
        intro i
        simp only [Array.getD_eq_getD_getElem?, Array.getElem?_setIfInBounds, D]
        by_cases e : j = i
        · subst e; simp [hls, hjs]
        · have : ¬ i = j := fun e2 => e e2.symm
          simp [e, this]
      unfold wpOp
      rw [Array.getElem?_eq_getElem hjs]
      simp only []
      have hres := stepOp_ok hC hM hstep (Q := Q) (K := wpAny P .any ops Q fuel (listed.setIfInBounds j true)) h (fun p hp => hn _ (List.mem_of_getElem? hu1) p hp) (fun E' a' w' h' => ?_)
      · split
        · rename_i hw; rw [if_pos hw] at hres; exact .inl hres
        · rename_i hw; rw [if_neg hw] at hres; exact hres
      · refine ih _ (by simpa using hls) ?_ ?_ E' a' w' ?_
        · have e1 : listed.toList = listed.toList.take j ++ false :: listed.toList.drop (j + 1) := by
            have hjl2 : listed[j]'(by omega) = false := by
              rw [Array.getD_eq_getD_getElem?, Array.getElem?_eq_getElem (by omega)] at hjl; simpa using hjl
            rw [← hjl2, ← Array.getElem_toList (by rw [Array.length_toList]; omega), ← List.drop_eq_getElem_cons, List.take_append_drop]
          have e2 : (listed.setIfInBounds j true).toList = listed.toList.take j ++ true :: listed.toList.drop (j + 1) := by
            rw [Array.toList_setIfInBounds, List.set_eq_take_append_cons_drop, if_pos (by rw [Array.length_toList]; omega)]
          rw [e1] at hfl
          rw [e2]
          simp only [List.filter_append, List.length_append, List.filter_cons, Bool.not_false, Bool.not_true, if_true, Bool.false_eq_true, if_false, List.length_cons] at hfl ⊢
          omega
        · intro n o ho hd e he hb
          have hd : (listed.setIfInBounds j true).getD n false = true := hd
          show (listed.setIfInBounds j true).getD e.on false = true
          rw [hlisted] at hd ⊢
          simp only [Bool.or_eq_true, decide_eq_true_eq] at hd ⊢
          rcases hd with rfl | hd
          · rw [hoj] at ho; cases ho; exact .inr (hpre e he hb)
          · exact .inr (hcl n o ho hd e he hb)
        · have e3 : (fun i => (listed.setIfInBounds j true).getD i false) = (fun i => decide (i = j) || D i) := funext hlisted
          rw [e3]
          refine St.Ok.congr ?_ (fun k => ?_) h'
          · exact ((St.app_like _ _ _).trans hlikeD).trans (apl_like _ 0 us st).symm
          · by_cases hk : k ∈ wrs ops[j].dst u
            · have hu1' : us[j]? = some (ops[j].dst, u) := hu1
              refine (apl_last 0 us st _ j _ u hu1' hk (by simp) (fun n hjn hw => ?_) hlikeD.symm).symm
              obtain ⟨d, v, h1, h2⟩ := hw
              obtain ⟨rn, h3⟩ := hrsAt n _ h1
              have := hrd n (d, v) rn h1 h3 (by omega) k h2 (.inr hk)
              rw [Nat.zero_add]
              simp only [this]
              have hx : ¬ n = j := by omega
              have hy : ¬ n < j := by omega
              simp [hx, hy]
            · rw [St.app_ne hk]
              refine apl_get 0 us st st ⟨rfl, rfl⟩ rfl (fun n hw => ?_)
              obtain ⟨d, v, h1, h2⟩ := hw
              rw [Nat.zero_add]
              by_cases hne : n = j
              · subst hne
                rw [hu1] at h1
                simp only [Option.some.injEq, Prod.mk.injEq] at h1
                obtain ⟨rfl, rfl⟩ := h1
                exact absurd h2 hk
              · simp [hne]
end
/-- what follows -/
inductive KI
  | code (c : Code)
  | blk (id : Nat)
  | mark (j : Nat)
/-- slots and tags written -/
structure Lg where
  ts : List Nat
  ms : List Nat
/-- the ways through code -/
inductive Tr
  | ret (st : St)
  | nrm (st : St) (lg : Lg)
  | ext (id : Nat) (st : St)
  | need (ps : List Prop) (t : Tr)
  | br (b : Bool) (t1 t2 : Tr)
  | back (j : Nat) (st : St)
  | loop (body : Code) (k : List KI) (st : St)
  | stuck (c : Nat) (o : Option Op) (st : St)
def Lg.add (lg : Lg) (us : List (Option Tmp × Upd)) : Lg := ⟨us.filterMap (·.1) ++ lg.ts, us.flatMap (fun x => x.2.mem.map (·.1)) ++ lg.ms⟩
/-- a way without branches -/
def line : Tr → Option (List Prop × St × Lg)
  | .nrm st lg => some ([], st, lg)
  | .need ps t => match line t with
    | some (qs, st, lg) => some (ps ++ qs, st, lg)
    | none => none
  | _ => none
def mergeT (b : Bool) (t1 t2 : List SV) : List Nat → List SV → List SV
  | [], tm => tm
  | i :: r, tm => mergeT b t1 t2 r (tm.set i (mrgV b (t1.getD i .any) (t2.getD i .any)))
/-- two ways meet again -/
def meet (b : Bool) (st : St) (x y : St × Lg) : Option (St × Lg) :=
  if (x.2.ms ++ y.2.ms).all (fun t => Nat.ble st.mm.length t) then
    some (⟨mergeT b x.1.tm y.1.tm (x.2.ts ++ y.2.ts) st.tm, st.mm ++ List.replicate (max x.1.mm.length y.1.mm.length - st.mm.length) .dead⟩, ⟨x.2.ts ++ y.2.ts, x.2.ms ++ y.2.ms⟩)
  else none
mutual
def exec (P : Program) (C : Cfg) (more : Nat → St → TypeId → Op → Option Upd) : Nat → Code → List KI → St → Lg → Tr
  | 0, _, _, st, _ => .stuck 0 none st
  | n + 1, c, k, st, lg => match c with
    | .skip => contN P C more n k st lg
    | .seq a b => exec P C more n a (.code b :: k) st lg
    | .block id c => exec P C more n c (.blk id :: k) st lg
    | .exit id => contE P C more n id k st lg
    | .ret => .ret st
    | .cond x a b => match strip (st.ev x) with
      | (.bool t, ps) => match line (exec P C more n a [] st ⟨[], []⟩), line (exec P C more n b [] st ⟨[], []⟩) with
        | some (p1, s1, l1), some (p2, s2, l2) => match meet t st (s1, l1) (s2, l2) with
          | some (st2, l3) => .need (ps ++ p1.map (fun p => t = true → p) ++ p2.map (fun p => t = false → p)) (contN P C more n k st2 ⟨l3.ts ++ lg.ts, l3.ms ++ lg.ms⟩)
          | none => .need ps (.br t (exec P C more n a k st lg) (exec P C more n b k st lg))
        | _, _ => .need ps (.br t (exec P C more n a k st lg) (exec P C more n b k st lg))
      | _ => .stuck n none st
    | .region id ops draw => match runU P C more ops st.mm.length ops.toList (st.grow (8 * ops.size)) with
      | .ok us rs st2 =>
        if draw then (if fwd 0 ops.toList && indepAll us rs (ancs ops.toList []) 0 us rs then .need (us.flatMap (fun x => x.2.needs)) (contN P C more n k st2 (lg.add us)) else .stuck n none st)
        else .need (us.flatMap (fun x => x.2.needs)) (contN P C more n k st2 (lg.add us))
      | .bad c o s => .stuck c (some o) s
    | .loop body => .loop body k st
    | _ => .stuck n none st
def contN (P : Program) (C : Cfg) (more : Nat → St → TypeId → Op → Option Upd) : Nat → List KI → St → Lg → Tr
  | 0, _, st, _ => .stuck 0 none st
  | n + 1, k, st, lg => match k with
    | [] => .nrm st lg
    | .code c :: k => exec P C more n c k st lg
    | .blk _ :: k => contN P C more n k st lg
    | .mark j :: _ => .back j st
def contE (P : Program) (C : Cfg) (more : Nat → St → TypeId → Op → Option Upd) : Nat → Nat → List KI → St → Lg → Tr
  | 0, _, _, st, _ => .stuck 0 none st
  | n + 1, id, k, st, lg => match k with
    | [] => .ext id st
    | .code _ :: k => contE P C more n id k st lg
    | .mark _ :: k => contE P C more n id k st lg
    | .blk i :: k => if id = i then contN P C more n k st lg else contE P C more n id k st lg
end
/-- the post of what follows -/
def qOf (P : Program) (J : Nat → Act → World → Prop) : List KI → (Exit → Act → World → Prop) → Exit → Act → World → Prop
  | [], Q => Q
  | .code c :: k, Q => Exit.then (c.wp P (qOf P J k Q)) (qOf P J k Q)
  | .blk id :: k, Q => Exit.inBlock id (qOf P J k Q)
  | .mark j :: k, Q => Exit.then (J j) (qOf P J k Q)
section
variable (P : Program) (base : Nat) (X : Cx) (w0 : World) (J : Nat → Act → World → Prop) (Q : Exit → Act → World → Prop)
/-- what a tree says -/
def den : Tr → Prop
  | .ret st => ∀ E a w, st.Ok base X w0 E a w → Q .ret a w
  | .nrm st _ => ∀ E a w, st.Ok base X w0 E a w → Q .normal a w
  | .ext id st => ∀ E a w, st.Ok base X w0 E a w → Q (.exit id) a w
  | .need ps t => (∀ p ∈ ps, p) ∧ den t
  | .br b t1 t2 => (b = true → den t1) ∧ (b = false → den t2)
  | .back j st => ∀ E a w, st.Ok base X w0 E a w → J j a w
  | .loop body k st => ∀ E a w, st.Ok base X w0 E a w → (Code.loop body).wp P (qOf P J k Q) a w
  | .stuck _ _ _ => False
end
/-- what has not been written is as it was -/
structure Fr (s0 : St) (lg : Lg) (s : St) : Prop where
  tml : s.tm.length = s0.tm.length
  tm : ∀ i, i ∉ lg.ts → s.tm.getD i .any = s0.tm.getD i .any
  mml : s0.mm.length ≤ s.mm.length
  m : ∀ t, t < s0.mm.length → t ∉ lg.ms → s.m t = s0.m t
def frT (s0 : St) : Tr → Prop
  | .nrm st lg => Fr s0 lg st
  | .need _ t => frT s0 t
  | .br _ a b => frT s0 a ∧ frT s0 b
  | _ => True
theorem line_fr {s0 : St} : ∀ {t : Tr} {ps : List Prop} {st : St} {lg : Lg}, frT s0 t → line t = some (ps, st, lg) → Fr s0 lg st
  | .nrm st lg, ps, st2, lg2, h, e => by
    simp only [line, Option.some.injEq, Prod.mk.injEq] at e
    obtain ⟨_, rfl, rfl⟩ := e; exact h
  | .need qs t, ps, st2, lg2, h, e => by
    simp only [line] at e
    split at e
    case h_2 => simp at e
    rename_i e2
    simp only [Option.some.injEq, Prod.mk.injEq] at e
    obtain ⟨_, rfl, rfl⟩ := e
    exact line_fr (t := t) h e2
  | .ret _, _, _, _, _, e => by simp [line] at e
  | .ext _ _, _, _, _, _, e => by simp [line] at e
  | .br _ _ _, _, _, _, _, e => by simp [line] at e
  | .loop _ _ _, _, _, _, _, e => by simp [line] at e
  | .back _ _, _, _, _, _, e => by simp [line] at e
  | .stuck _ _ _, _, _, _, _, e => by simp [line] at e
theorem runU_fr {P : Program} {C : Cfg} {more : Nat → St → TypeId → Op → Option Upd} {ops : Array Oper} {c n : Nat} {l : List Oper} {st st2 s0 : St} {us : List (Option Tmp × Upd)} {rs : List (List Key)} {lg : Lg} (h : runU P C more ops c l (st.grow n) = .ok us rs st2) (hf : Fr s0 lg st) : Fr s0 (lg.add us) st2 := by
  obtain ⟨_, _, rfl, _⟩ := runU_at _ _ _ _ _ _ h
  have hl := apl_like (fun _ => true) 0 us (st.grow n)
  have key : ∀ k, (∀ j, ¬ Wr us j k) → (apl (fun _ => true) 0 us (st.grow n)).get k = (st.grow n).get k := by
    intro k hk
    rw [apl_get (D' := fun _ => false) 0 us (st.grow n) (st.grow n) ⟨rfl, rfl⟩ rfl (fun j hj => absurd hj (hk j)), apl_none 0 us _ _ (fun _ _ => rfl)]
  have hgm : (st.grow n).m = st.m := St.grow_m st n
  refine ⟨hl.tm.trans hf.tml, fun i hi => ?_, by rw [hl.mm]; simp [St.grow]; have := hf.mml; omega, fun t ht hnt => ?_⟩
  · simp only [Lg.add, List.mem_append, not_or] at hi
    have := key (.t i) (fun j ⟨d, u, h1, h2⟩ => hi.1 (by
      simp only [wrs, List.mem_append] at h2
      rcases h2 with h2 | h2
      · cases d with
        | none => simp at h2
        | some d => simp at h2; subst h2; exact List.mem_filterMap.2 ⟨_, List.mem_of_getElem? h1, rfl⟩
      · simp at h2))
    simp only [St.get, KV.v.injEq] at this
    rw [this]; exact hf.tm i hi.2
  · simp only [Lg.add, List.mem_append, not_or] at hnt
    have := key (.m t) (fun j ⟨d, u, h1, h2⟩ => hnt.1 (by
      simp only [wrs, List.mem_append] at h2
      rcases h2 with h2 | h2
      · cases d <;> simp at h2
      · obtain ⟨p, hp, e⟩ := List.mem_map.1 h2
        simp only [Key.m.injEq] at e
        exact List.mem_flatMap.2 ⟨_, List.mem_of_getElem? h1, List.mem_map.2 ⟨p, hp, e⟩⟩))
    simp only [St.get, KV.e.injEq] at this
    rw [this, hgm]; exact hf.m t ht hnt.2
theorem mergeT_len (b : Bool) (t1 t2 : List SV) : ∀ (l : List Nat) (tm : List SV), (mergeT b t1 t2 l tm).length = tm.length
  | [], _ => rfl
  | i :: r, tm => by rw [mergeT, mergeT_len b t1 t2 r]; simp
theorem mergeT_at (b : Bool) (t1 t2 : List SV) : ∀ (l : List Nat) (tm : List SV) (i : Nat), (mergeT b t1 t2 l tm).getD i .any = (if i ∈ l ∧ i < tm.length then mrgV b (t1.getD i .any) (t2.getD i .any) else tm.getD i .any)
  | [], tm, i => by simp [mergeT]
  | j :: r, tm, i => by
    rw [mergeT, mergeT_at b t1 t2 r, List.length_set, getD_set]
    by_cases h1 : i ∈ r
    · by_cases h2 : i < tm.length
      · rw [if_pos ⟨h1, h2⟩, if_pos ⟨List.mem_cons_of_mem _ h1, h2⟩]
      · have ha : tm.getD i .any = .any := by simp [List.getD, Nat.le_of_not_lt h2]
        have n1 : ¬ (i ∈ r ∧ i < tm.length) := fun h => h2 h.2
        have n2 : ¬ (i ∈ j :: r ∧ i < tm.length) := fun h => h2 h.2
        rw [if_neg n1, if_neg n2, ha]
        by_cases e : i = j
        · rw [if_pos e]; subst e; rw [if_neg h2]
        · rw [if_neg e]
    · by_cases h3 : i = j
      · subst h3
        by_cases h2 : i < tm.length
        · rw [if_neg (fun h => h1 h.1), if_pos rfl, if_pos h2, if_pos ⟨List.mem_cons_self .., h2⟩]
        · rw [if_neg (fun h => h1 h.1), if_pos rfl, if_neg h2, if_neg (fun h => h2 h.2)]; simp [List.getD, Nat.le_of_not_lt h2]
      · rw [if_neg (fun h => h1 h.1), if_neg h3, if_neg (fun h => (List.mem_cons.1 h.1).elim h3 h1)]
section
variable {base : Nat} {X : Cx} {w0 : World}
theorem MemOk.weak {E : Env} {w : World} {m m' : Nat → BE} (h : MemOk base X w0 E m w) (hm : ∀ t, m' t = m t ∨ m' t = .dead) : MemOk base X w0 E m' w := by
  have hh : ∀ u b, Has E m' u b → Has E m u b := by
    intro u b ⟨hl, hv⟩
    rcases hm u with e | e
    · rw [e] at hl; exact ⟨hl, hv⟩
    · rw [e] at hl; cases hl
  refine h.go (Env.Le.refl E) Same.rfl' (fun u => m' u = .dead) (fun u hu => ⟨(hm u).resolve_right hu, rfl⟩) (fun u hu hm => (h.empty u hm).2) (fun _ _ _ _ => rfl)
    (fun u hu => ⟨by rw [hu]; simp, fun hl => by rw [hu] at hl; cases hl⟩) h.lab (fun u b hb => h.sep u b (hh u b hb)) h.old (fun u v b h1 h2 => h.inj u v b (hh u b h1) (hh v b h2)) (BelowX.refl _ _ _)
theorem meet_ok {b : Bool} {st : St} {x y : St × Lg} {st2 : St} {lg : Lg} (h : meet b st x y = some (st2, lg)) (hx : Fr st x.2 x.1) (hy : Fr st y.2 y.1) {E : Env} {a : Act} {w : World} (ho : if b then x.1.Ok base X w0 E a w else y.1.Ok base X w0 E a w) : st2.Ok base X w0 E a w := by
  unfold meet at h
  split at h
  case isFalse => simp at h
  rename_i hall
  simp only [Option.some.injEq, Prod.mk.injEq] at h
  obtain ⟨rfl, rfl⟩ := h
  have hal : ∀ t, t ∈ x.2.ms ++ y.2.ms → st.mm.length ≤ t := fun t ht => by
    have := List.all_eq_true.1 hall t ht
    exact Nat.le_of_ble_eq_true this
  have mem : ∀ (z : St) (lgz : Lg), Fr st lgz z → (∀ t, t ∈ lgz.ms → st.mm.length ≤ t) → z.mm.length ≤ max x.1.mm.length y.1.mm.length → MemOk base X w0 E z.m w →
      MemOk base X w0 E (St.mk (mergeT b x.1.tm y.1.tm (x.2.ts ++ y.2.ts) st.tm) (st.mm ++ List.replicate (max x.1.mm.length y.1.mm.length - st.mm.length) .dead)).m w := by
    intro z lgz hz hms hle hmem
    refine hmem.weak fun t => ?_
    simp only [St.m, List.getD]
    by_cases h1 : t < st.mm.length
    · left
      rw [List.getElem?_append_left h1]
      have := hz.m t h1 (fun ht => by have := hms t ht; omega)
      simp only [St.m, List.getD] at this
      exact this.symm
    · rw [List.getElem?_append_right (Nat.le_of_not_lt h1), List.getElem?_replicate]
      by_cases h2 : t - st.mm.length < max x.1.mm.length y.1.mm.length - st.mm.length
      · right; rw [if_pos h2]; rfl
      · left
        rw [if_neg h2, List.getElem?_eq_none (show z.mm.length ≤ t by omega)]
  cases b
  · have ho : y.1.Ok base X w0 E a w := ho
    refine ⟨ho.defers, by rw [mergeT_len]; exact ho.size.trans hy.tml, fun i => ?_, mem y.1 y.2 hy (fun t ht => hal t (List.mem_append_right _ ht)) (Nat.le_max_right _ _) ho.mem⟩
    rw [mergeT_at]
    split
    · exact mrgV_f _ _ _ (ho.tm i)
    · rename_i hn
      by_cases hi : i ∈ y.2.ts
      · have : ¬ i < st.tm.length := fun hl => hn ⟨List.mem_append_right _ hi, hl⟩
        rw [show st.tm.getD i .any = .any by simp [List.getD, Nat.le_of_not_lt this]]; trivial
      · rw [← hy.tm i hi]; exact ho.tm i
  · have ho : x.1.Ok base X w0 E a w := ho
    refine ⟨ho.defers, by rw [mergeT_len]; exact ho.size.trans hx.tml, fun i => ?_, mem x.1 x.2 hx (fun t ht => hal t (List.mem_append_left _ ht)) (Nat.le_max_left _ _) ho.mem⟩
    rw [mergeT_at]
    split
    · exact mrgV_t _ _ _ (ho.tm i)
    · rename_i hn
      by_cases hi : i ∈ x.2.ts
      · have : ¬ i < st.tm.length := fun hl => hn ⟨List.mem_append_left _ hi, hl⟩
        rw [show st.tm.getD i .any = .any by simp [List.getD, Nat.le_of_not_lt this]]; trivial
      · rw [← hx.tm i hi]; exact ho.tm i
theorem meet_fr {b : Bool} {st s0 : St} {x y : St × Lg} {st2 : St} {l3 lg : Lg} (h : meet b st x y = some (st2, l3)) (hf : Fr s0 lg st) : Fr s0 ⟨l3.ts ++ lg.ts, l3.ms ++ lg.ms⟩ st2 := by
  unfold meet at h
  split at h
  case isFalse => simp at h
  simp only [Option.some.injEq, Prod.mk.injEq] at h
  obtain ⟨rfl, rfl⟩ := h
  refine ⟨by rw [mergeT_len]; exact hf.tml, fun i hi => ?_, by simp; have := hf.mml; omega, fun t ht hnt => ?_⟩
  · simp only [List.mem_append, not_or] at hi
    rw [mergeT_at, if_neg (fun h => (List.mem_append.1 h.1).elim hi.1.1 hi.1.2)]
    exact hf.tm i hi.2
  · simp only [List.mem_append, not_or] at hnt
    have hl : t < st.mm.length := Nat.lt_of_lt_of_le ht hf.mml
    have := hf.m t ht hnt.2
    simp only [St.m, List.getD] at this ⊢
    rw [List.getElem?_append_left hl]; exact this
end
theorem Fr.refl (st : St) : Fr st ⟨[], []⟩ st := ⟨rfl, fun _ _ => rfl, Nat.le_refl _, fun _ _ _ => rfl⟩
theorem exec_fr (P : Program) (C : Cfg) (more : Nat → St → TypeId → Op → Option Upd) : ∀ (n : Nat), (∀ c k st lg s0, Fr s0 lg st → frT s0 (exec P C more n c k st lg)) ∧ (∀ k st lg s0, Fr s0 lg st → frT s0 (contN P C more n k st lg)) ∧ (∀ id k st lg s0, Fr s0 lg st → frT s0 (contE P C more n id k st lg)) := by
  intro n
  induction n with
  | zero =>
    refine ⟨fun c k st lg s0 h => ?_, fun k st lg s0 h => ?_, fun id k st lg s0 h => ?_⟩
    · unfold exec; trivial
    · unfold contN; trivial
    · unfold contE; trivial
  | succ n ih =>
    obtain ⟨ih1, ih2, ih3⟩ := ih
    refine ⟨fun c k st lg s0 h => ?_, fun k st lg s0 h => ?_, fun id k st lg s0 h => ?_⟩
    · unfold exec
      cases c with
      | skip => exact ih2 _ _ _ _ h
      | seq a b => exact ih1 _ _ _ _ _ h
      | block id c => exact ih1 _ _ _ _ _ h
      | exit id => exact ih3 _ _ _ _ _ h
      | ret => trivial
      | loop b => trivial
      | cond x a b =>
        simp only []
        split
        · split
          · split
            · rename_i hm
              exact ih2 _ _ _ _ (meet_fr hm h)
            · exact ⟨ih1 _ _ _ _ _ h, ih1 _ _ _ _ _ h⟩
          · exact ⟨ih1 _ _ _ _ _ h, ih1 _ _ _ _ _ h⟩
        · trivial
      | region id ops draw =>
        simp only []
        split
        · rename_i hr
          split
          · split
            · exact ih2 _ _ _ _ (runU_fr hr h)
            · trivial
          · exact ih2 _ _ _ _ (runU_fr hr h)
        · trivial
      | _ => trivial
    · unfold contN
      cases k with
      | nil => exact h
      | cons x k =>
        cases x with
        | code c => exact ih1 _ _ _ _ _ h
        | blk i => exact ih2 _ _ _ _ h
        | mark j => trivial
    · unfold contE
      cases k with
      | nil => trivial
      | cons x k =>
        cases x with
        | code c => exact ih3 _ _ _ _ _ h
        | mark j => exact ih3 _ _ _ _ _ h
        | blk i =>
          simp only []
          split
          · exact ih2 _ _ _ _ h
          · exact ih3 _ _ _ _ _ h
theorem runU_ops {P : Program} {C : Cfg} {more : Nat → St → TypeId → Op → Option Upd} {ops : Array Oper} : ∀ (l : List Oper) (c : Nat) (st st2 : St) (us : List (Option Tmp × Upd)) (rs : List (List Key)), runU P C more ops c l st = .ok us rs st2 → runOps P C more ops c l st = .ok st2 (us.flatMap (fun x => x.2.needs))
  | [], c, st, st2, us, rs, h => by
    simp only [runU, RU.ok.injEq] at h
    obtain ⟨rfl, rfl, rfl⟩ := h
    rfl
  | o :: l, c, st, st2, us, rs, h => by
    simp only [runU] at h
    split at h
    case h_2 => simp at h
    rename_i u hu
    split at h
    case h_2 => simp at h
    rename_i h2
    simp only [RU.ok.injEq] at h
    obtain ⟨rfl, rfl, rfl⟩ := h
    simp only [runOps, hu, runU_ops l _ _ _ _ _ h2, List.flatMap_cons]
theorem den_line {P : Program} {base : Nat} {X : Cx} {w0 : World} {J : Nat → Act → World → Prop} {Q : Exit → Act → World → Prop} : ∀ {t : Tr} {ps : List Prop} {st : St} {lg : Lg}, line t = some (ps, st, lg) → (∀ p ∈ ps, p) → (∀ E a w, st.Ok base X w0 E a w → Q .normal a w) → den P base X w0 J Q t
  | .nrm st lg, ps, st2, lg2, e, hp, hq => by
    simp only [line, Option.some.injEq, Prod.mk.injEq] at e
    obtain ⟨_, rfl, rfl⟩ := e; exact hq
  | .need qs t, ps, st2, lg2, e, hp, hq => by
    simp only [line] at e
    split at e
    case h_2 => simp at e
    rename_i e2
    simp only [Option.some.injEq, Prod.mk.injEq] at e
    obtain ⟨rfl, rfl, rfl⟩ := e
    exact ⟨fun p h => hp p (List.mem_append_left _ h), den_line (t := t) e2 (fun p h => hp p (List.mem_append_right _ h)) hq⟩
  | .ret _, _, _, _, e, _, _ => by simp [line] at e
  | .ext _ _, _, _, _, e, _, _ => by simp [line] at e
  | .br _ _ _, _, _, _, e, _, _ => by simp [line] at e
  | .loop _ _ _, _, _, _, e, _, _ => by simp [line] at e
  | .back _ _, _, _, _, e, _, _ => by simp [line] at e
  | .stuck _ _ _, _, _, _, e, _, _ => by simp [line] at e
section
variable {P : Program} {base : Nat} {X : Cx} {w0 : World}
/-- the walk is the machine's -/
theorem exec_ok {C : Cfg} {more : Nat → St → TypeId → Op → Option Upd} (hm : P.follows .mixedOrders = true) (hC : OrcOk P C) (hCl : OrcLoc C) (hM : MoreOk P more) (hMl : MoreLoc more) {J : Nat → Act → World → Prop} : ∀ (n : Nat),
    (∀ c k st lg Q, den P base X w0 J Q (exec P C more n c k st lg) → ∀ E a w, st.Ok base X w0 E a w → c.wp P (qOf P J k Q) a w) ∧
    (∀ k st lg Q, den P base X w0 J Q (contN P C more n k st lg) → ∀ E a w, st.Ok base X w0 E a w → qOf P J k Q .normal a w) ∧
    (∀ id k st lg Q, den P base X w0 J Q (contE P C more n id k st lg) → ∀ E a w, st.Ok base X w0 E a w → qOf P J k Q (.exit id) a w) := by
  intro n
  induction n with
  | zero =>
    refine ⟨fun c k st lg Q h => ?_, fun k st lg Q h => ?_, fun id k st lg Q h => ?_⟩
    · unfold exec at h; exact h.elim
    · unfold contN at h; exact h.elim
    · unfold contE at h; exact h.elim
  | succ n ih =>
    obtain ⟨ih1, ih2, ih3⟩ := ih
    have qret : ∀ k Q a w, Q Exit.ret a w → qOf P J k Q .ret a w := by
      intro k
      induction k with
      | nil => intro Q a w h; exact h
      | cons x k ihk => intro Q a w h; cases x <;> exact ihk Q a w h
    refine ⟨fun c k st lg Q h E a w ho => ?_, fun k st lg Q h E a w ho => ?_, fun id k st lg Q h E a w ho => ?_⟩
    · unfold exec at h
      cases c with
      | skip => exact wp_skip (ih2 _ _ _ _ h E a w ho)
      | seq x y => exact wp_seq (ih1 _ _ _ _ _ h E a w ho)
      | block id c => exact wp_block (ih1 _ _ _ _ _ h E a w ho)
      | exit id => exact wp_exit (ih3 _ _ _ _ _ h E a w ho)
      | ret => exact wp_ret (qret k Q a w (h E a w ho))
      | loop b => exact h E a w ho
      | cond x y z =>
        simp only [] at h
        split at h
        case h_2 => exact h.elim
        rename_i t ps hx
        have fork : (∀ p ∈ ps, p) → (t = true → den P base X w0 J Q (exec P C more n y k st lg)) → (t = false → den P base X w0 J Q (exec P C more n z k st lg)) → (Code.cond x y z).wp P (qOf P J k Q) a w := by
          intro hp h1 h2
          have hv := strip_ok (ho.ev x) (fun p hp' => hp p (by rw [hx] at hp'; exact hp'))
          rw [hx] at hv
          have hv : a.eval x = .bool t := hv
          exact wp_cond_split hv (fun e => ih1 _ _ _ _ _ (h1 e) E a w ho) (fun e => ih1 _ _ _ _ _ (h2 e) E a w ho)
        split at h
        · rename_i p1 s1 l1 p2 s2 l2 e1 e2
          split at h
          · rename_i st2 l3 hmt
            obtain ⟨hn, hd⟩ := h
            have hps : ∀ p ∈ ps, p := fun p hp => hn p (by simp [hp])
            have hv := strip_ok (ho.ev x) (fun p hp' => hps p (by rw [hx] at hp'; exact hp'))
            rw [hx] at hv
            have hv : a.eval x = .bool t := hv
            have f1 := line_fr ((exec_fr P C more n).1 y [] st ⟨[], []⟩ st (Fr.refl st)) e1
            have f2 := line_fr ((exec_fr P C more n).1 z [] st ⟨[], []⟩ st (Fr.refl st)) e2
            refine wp_cond_split hv (fun e => ?_) (fun e => ?_)
            · refine Code.wp_mono (Q := qOf P J [] (fun e a w => e = .normal ∧ ∃ E, s1.Ok base X w0 E a w)) (fun e2 a2 w2 hq => ?_) (ih1 _ _ _ _ _ (den_line e1 (fun p hp => hn (t = true → p) (by simp only [List.mem_append, List.mem_map]; exact .inl (.inr ⟨p, hp, rfl⟩)) e) (fun E a w h => ⟨rfl, E, h⟩)) E a w ho)
              obtain ⟨rfl, E2, h2⟩ := hq
              exact ih2 _ _ _ _ hd E2 a2 w2 (meet_ok hmt f1 f2 (by rw [e]; exact h2))
            · refine Code.wp_mono (Q := qOf P J [] (fun e a w => e = .normal ∧ ∃ E, s2.Ok base X w0 E a w)) (fun e2 a2 w2 hq => ?_) (ih1 _ _ _ _ _ (den_line e2 (fun p hp => hn (t = false → p) (by simp only [List.mem_append, List.mem_map]; exact .inr ⟨p, hp, rfl⟩) e) (fun E a w h => ⟨rfl, E, h⟩)) E a w ho)
              obtain ⟨rfl, E2, h2⟩ := hq
              exact ih2 _ _ _ _ hd E2 a2 w2 (meet_ok hmt f1 f2 (by rw [e]; exact h2))
          · exact fork h.1 h.2.1 h.2.2
        · exact fork h.1 h.2.1 h.2.2
      | region id ops draw =>
        simp only [] at h
        split at h
        case h_2 => exact h.elim
        rename_i us rs st2 hr
        have ho2 := ho.grow (8 * ops.size)
        cases draw with
        | false =>
          simp only [Bool.false_eq_true, if_false] at h
          obtain ⟨hn, hd⟩ := h
          exact wp_region_list (runOps_ok hC hM _ _ _ _ _ (runU_ops _ _ _ _ _ _ hr) hn (fun E' a' w' h' => ih2 _ _ _ _ hd E' a' w' h') E a w ho2)
        | true =>
          simp only [if_true] at h
          split at h
          case isFalse => exact h.elim
          rename_i hch
          obtain ⟨hfw, hin⟩ := Bool.and_eq_true _ _ ▸ hch
          obtain ⟨hn, hd⟩ := h
          refine wp_region_any hm (draws hC hCl hM hMl hr hfw hin (fun x hx p hp => hn p (List.mem_flatMap.2 ⟨x, hx, hp⟩)) (fun E' a' w' h' => ih2 _ _ _ _ hd E' a' w' h') ops.size _ (by simp) (by simp) (fun i o _ hd => ?_) E a _ ?_)
          · exfalso
            simp only [Array.getD_eq_getD_getElem?, Array.getElem?_replicate] at hd
            split at hd <;> simp at hd
          · rw [apl_none 0 us _ _ (fun j _ => by
              simp only [Array.getD_eq_getD_getElem?, Array.getElem?_replicate]
              split <;> rfl)]
            exact ⟨ho2.defers, ho2.size, fun i => DenV.mono (w := w) (w' := { w with drawn := w.drawn + 1 }) (Env.Le.refl E) ⟨Nat.le_refl _, fun _ _ _ => rfl⟩ _ _ (ho2.tm i), ho2.mem.drew _⟩
      | _ => exact h.elim
    · unfold contN at h
      cases k with
      | nil => exact h E a w ho
      | cons x k =>
        cases x with
        | code c => exact ih1 _ _ _ _ _ h E a w ho
        | blk i => exact ih2 _ _ _ _ h E a w ho
        | mark j => exact h E a w ho
    · unfold contE at h
      cases k with
      | nil => exact h E a w ho
      | cons x k =>
        cases x with
        | code c => exact ih3 _ _ _ _ _ h E a w ho
        | mark j => exact ih3 _ _ _ _ _ h E a w ho
        | blk i =>
          simp only [] at h
          show Exit.inBlock i (qOf P J k Q) (.exit id) a w
          split at h
          · rename_i e; subst e; simp only [Exit.inBlock, if_true]; exact ih2 _ _ _ _ h E a w ho
          · rename_i e; simp only [Exit.inBlock, if_neg e]; exact ih3 _ _ _ _ _ h E a w ho
end
/-- labels: 0 is old memory, 1 all that is new -/
def okL (ls ms : List Nat) : Bool := ms.all fun i => if i == 0 then ls.contains 0 else ls.contains 1
abbrev Rho := List (Nat × Option Nat)
def lookR : Rho → Nat → Option (Option Nat)
  | [], _ => none
  | (k, v) :: r, t => if k == t then some v else lookR r t
abbrev LeR := Option (List Prop × List Nat)
def leAnd (a b : LeR) : LeR := match a, b with
  | some (p, r), some (q, s) => some (p ++ q, r ++ s)
  | _, _ => none
def isSC (ρ : Rho) (t c : Nat) : Bool := match lookR ρ t with
  | some (some d) => d == c
  | _ => false
def isSN (ρ : Rho) (t : Nat) : Bool := match lookR ρ t with
  | some none => true
  | _ => false
def leV0 (st : St) (ρ : Rho) : SV → SV → LeR
  | s, .any => some ([], [])
  | .int k n, .int k' m => if k = k' then some ([n = m], []) else none
  | .bool a, .bool b => some ([a = b], [])
  | .str a, .str b => some ([a = b], [])
  | .nil, .nil => some ([], [])
  | .nil, .sl _ r => some ([r.nilP], [])
  | .sl ms q, .sl ls r => if okL ls ms then (match RL.eqP q r with | some p => some ([p], []) | none => none) else none
  | .own c, .own t => if isSC ρ t c then some ([], []) else none
  | .nil, .own t => if isSN ρ t then some ([], []) else none
  | .own c, .sl ls r => if ls.contains 1 then (match st.m c with
    | .row _ ms q => if okL ls ms then (match RL.eqP q r with | some p => some ([p, q.len ≤ 17592186044416], [c]) | none => none) else none
    | _ => none) else none
  | .ptr c o, .ptr t o' => if isSC ρ t c then (if o = o' then some ([], []) else none) else none
  | .fn f, .fn g => if f = g then some ([], []) else none
  | _, _ => none
def leLs (f : SV → SV → LeR) : List SV → List SV → LeR
  | [], [] => some ([], [])
  | s :: ss, t :: ts => leAnd (f s t) (leLs f ss ts)
  | _, _ => none
def leV1 (st : St) (ρ : Rho) : SV → SV → LeR
  | .agg vs, .agg us => leLs (leV0 st ρ) vs us
  | s, t => leV0 st ρ s t
def leV (st : St) (ρ : Rho) : SV → SV → LeR
  | .tup vs, .tup us => leLs (leV1 st ρ) vs us
  | s, t => leV1 st ρ s t
def leB (st : St) (ρ : Rho) (t : Nat) : BE → LeR
  | .empty => none
  | .dead => some ([], [])
  | .cells T us => match lookR ρ t with
    | some (some c) => match st.m c with
      | .cells T' vs => if T = T' then (if us.all SV.flat then leLs (leV0 st ρ) vs us else none) else none
      | _ => none
    | _ => none
  | .row T ls r => match lookR ρ t with
    | some (some c) => match st.m c with
      | .row T' ms q => if T = T' then (if okL ls ms then (match RL.eqP q r with | some p => some ([p], []) | none => none) else none) else none
      | _ => none
    | some none => some ([r.nilP], [])
    | none => none
def leBs (st : St) (ρ : Rho) : Nat → List BE → LeR
  | _, [] => some ([], [])
  | t, e :: r => leAnd (leB st ρ t e) (leBs st ρ (t + 1) r)
def valsR : Rho → List Nat
  | [] => []
  | (_, some c) :: r => c :: valsR r
  | (_, none) :: r => valsR r
def nodupN : List Nat → Bool
  | [] => true
  | a :: r => !r.contains a && nodupN r
/-- the renaming, read off -/
def addR (ρ : Rho) (t : Nat) (v : Option Nat) : Rho := match lookR ρ t with
  | some _ => ρ
  | none => ρ ++ [(t, v)]
def pair0 (ρ : Rho) : SV → SV → Rho
  | .own c, .own t => addR ρ t (some c)
  | .nil, .own t => addR ρ t none
  | .ptr c _, .ptr t _ => addR ρ t (some c)
  | _, _ => ρ
def pairL (f : Rho → SV → SV → Rho) : Rho → List SV → List SV → Rho
  | ρ, s :: ss, t :: ts => pairL f (f ρ s t) ss ts
  | ρ, _, _ => ρ
def pair1 (ρ : Rho) : SV → SV → Rho
  | .agg vs, .agg us => pairL pair0 ρ vs us
  | s, t => pair0 ρ s t
def pairV (ρ : Rho) : SV → SV → Rho
  | .tup vs, .tup us => pairL pair1 ρ vs us
  | s, t => pair1 ρ s t
def pairM (st : St) (mm : List BE) : Rho → Rho → Rho
  | ρ, [] => ρ
  | ρ, (t, some c) :: r => match st.m c, mm.getD t .empty with
    | .cells _ vs, .cells _ us => pairM st mm (pairL pair0 ρ vs us) r
    | _, _ => pairM st mm ρ r
  | ρ, _ :: r => pairM st mm ρ r
/-- checks of a renaming -/
def okR (ρ : Rho) (n : Nat) (rel : List Nat) : Bool := nodupN (valsR ρ) && ρ.all (fun p => Nat.blt p.1 n && Nat.blt 1 p.1) && rel.all (fun c => !(valsR ρ).contains c)
def leOut (st : St) (s out : SV) (mo : List BE) : LeR :=
  let ρ := pairM st mo (pairV [] s out) (pairV [] s out)
  match leAnd (leV st ρ s out) (leBs st ρ 0 mo) with
  | some (ps, rel) => if okR ρ mo.length rel && Nat.blt 1 mo.length then some (ps, rel) else none
  | none => none
def leSt (st st' : St) : LeR :=
  let ρ := pairM st st'.mm (pairL pair1 [] st.tm st'.tm) (pairL pair1 [] st.tm st'.tm)
  match leAnd (leLs (leV1 st ρ) st.tm st'.tm) (leBs st ρ 0 st'.mm) with
  | some (ps, rel) => if okR ρ st'.mm.length rel && Nat.blt 1 st'.mm.length then some (ps, rel) else none
  | none => none
def Env.ren (E : Env) (st : St) (ρ : Rho) (rel : List Nat) : Env where
  β := fun t => match lookR ρ t with
    | some (some c) => E.β c
    | some none => some (.slice none 0 0)
    | none => none
  σ := fun i b => if i = 0 then E.σ 0 b else if i = 1 then ((∃ j, j ≠ 0 ∧ E.σ j b) ∨ ∃ c, c ∈ rel ∧ Has E st.m c b) else False
section
variable {base : Nat} {X : Cx} {w0 : World}
theorem ren_σ0 {E : Env} {st : St} {ρ : Rho} {rel : List Nat} {b : Nat} (h : E.σ 0 b) : (E.ren st ρ rel).σ 0 b := by
  simp only [Env.ren]
  rw [if_pos trivial]; exact h
theorem ren_σ1 {E : Env} {st : St} {ρ : Rho} {rel : List Nat} {b : Nat} (h : (∃ j, j ≠ 0 ∧ E.σ j b) ∨ ∃ c, c ∈ rel ∧ Has E st.m c b) : (E.ren st ρ rel).σ 1 b := by
  simp only [Env.ren]
  rw [if_neg (by decide), if_pos trivial]; exact h
theorem okL_ok {E : Env} {st : St} {ρ : Rho} {rel ls ms : List Nat} (h : okL ls ms = true) {b : Nat} (hb : E.set ms b) : (E.ren st ρ rel).set ls b := by
  obtain ⟨i, hi, hs⟩ := hb
  have := List.all_eq_true.1 h i hi
  by_cases h0 : i = 0
  · subst h0
    simp only [beq_self_eq_true, if_true] at this
    exact ⟨0, by simpa using this, ren_σ0 hs⟩
  · have h1 : (i == 0) = false := by simpa using h0
    rw [h1] at this
    simp only [Bool.false_eq_true, if_false] at this
    exact ⟨1, by simpa using this, ren_σ1 (.inl ⟨i, h0, hs⟩)⟩
theorem isSC_ok {ρ : Rho} {t c : Nat} (h : isSC ρ t c = true) : lookR ρ t = some (some c) := by
  unfold isSC at h
  split at h
  · rename_i d e; rw [e]; have : d = c := by simpa using h
    rw [this]
  · cases h
theorem isSN_ok {ρ : Rho} {t : Nat} (h : isSN ρ t = true) : lookR ρ t = some none := by
  unfold isSN at h
  split at h
  · assumption
  · cases h
theorem leV0_ok {E : Env} {st : St} {w : World} (hm : MemOk base X w0 E st.m w) {ρ : Rho} {rel : List Nat} {s t : SV} {ps : List Prop} {rl : List Nat} (h : leV0 st ρ s t = some (ps, rl)) (hp : ∀ p ∈ ps, p) (hr : ∀ c, c ∈ rl → c ∈ rel) {v : Value} (hv : DenV E w s v) : DenV (E.ren st ρ rel) w t v := by
  unfold leV0 at h
  split at h
  · trivial
  · split at h
    case isFalse => simp at h
    rename_i k n k' m hk
    simp only [Option.some.injEq, Prod.mk.injEq] at h
    obtain ⟨rfl, rfl⟩ := h
    subst hk
    rw [← hp (n = m) (by simp)]; exact hv
  · simp only [Option.some.injEq, Prod.mk.injEq] at h
    obtain ⟨rfl, rfl⟩ := h
    rename_i a b
    rw [← hp (a = b) (by simp)]; exact hv
  · simp only [Option.some.injEq, Prod.mk.injEq] at h
    obtain ⟨rfl, rfl⟩ := h
    rename_i a b
    rw [← hp (a = b) (by simp)]; exact hv
  · exact hv
  · simp only [Option.some.injEq, Prod.mk.injEq] at h
    obtain ⟨rfl, rfl⟩ := h
    rename_i r
    have hz := RL.nilP_ok (hp r.nilP (by simp))
    have : v = .slice none 0 0 := hv
    subst this
    show Rd _ _ _ _ (.sl r.rows)
    rw [hz]
    exact .emp (fun _ => rfl) (by decide)
  · split at h
    case isFalse => simp at h
    split at h
    case h_2 => simp at h
    rename_i ms q ls r hok _ p hq
    simp only [Option.some.injEq, Prod.mk.injEq] at h
    obtain ⟨rfl, rfl⟩ := h
    have e := RL.eqP_ok hq (hp p (by simp))
    subst e
    exact Rd.mono hv (fun b _ hb => okL_ok hok hb)
  · split at h
    case isFalse => simp at h
    rename_i c t hc
    have := isSC_ok hc
    refine ⟨?_, hv.2⟩
    show (match lookR ρ t with | some (some c) => E.β c | some none => some (.slice none 0 0) | none => none) = some v
    rw [this]; exact hv.1
  · split at h
    case isFalse => simp at h
    rename_i t hc
    have := isSN_ok hc
    have hv : v = .slice none 0 0 := hv
    subst hv
    refine ⟨?_, rfl⟩
    show (match lookR ρ t with | some (some c) => E.β c | some none => some (.slice none 0 0) | none => none) = some _
    rw [this]
  · split at h
    case isFalse => simp at h
    split at h
    case h_2 => simp at h
    split at h
    case isFalse => simp at h
    split at h
    case h_2 => simp at h
    rename_i c ls r h1 _ T ms q hmc hok _ p hq
    simp only [Option.some.injEq, Prod.mk.injEq] at h
    obtain ⟨rfl, rfl⟩ := h
    have e := RL.eqP_ok hq (hp p (by simp))
    have hle : q.len ≤ 17592186044416 := hp (q.len ≤ 17592186044416) (by simp)
    subst e
    obtain ⟨v', hβ, ho⟩ := hm.row c T ms q hmc
    have hv1 := hv.1
    rw [hβ] at hv1
    simp only [Option.some.injEq] at hv1
    subst hv1
    have hf := ho.form
    obtain ⟨a, cc, ef⟩ := hf
    have hs := ho.slO ((E.ren st ρ rel).set ls) (fun b hb => okL_ok hok hb) (fun b _ hb => ⟨1, by simpa using h1, ren_σ1 (.inr ⟨c, hr c (by simp), by rw [hmc]; rfl, v', hβ, by rw [← vblock_own ⟨a, _, cc, ef⟩]; exact hb⟩)⟩) (by rw [q.rows_len]; exact hle)
    obtain ⟨a2, c2, e2, h2⟩ := hs
    rw [e2]; exact h2
  · split at h
    case isFalse => simp at h
    split at h
    case isFalse => simp at h
    rename_i c o t o' hc ho
    have := isSC_ok hc
    subst ho
    obtain ⟨b, h1, h2⟩ := hv
    refine ⟨b, ?_, h2⟩
    show (match lookR ρ t with | some (some c) => E.β c | some none => some (.slice none 0 0) | none => none) = some _
    rw [this]; exact h1
  · split at h
    case isFalse => simp at h
    rename_i e
    subst e; exact hv
  · simp at h
theorem leAnd_ok {a b : LeR} {ps : List Prop} {rl : List Nat} (h : leAnd a b = some (ps, rl)) : ∃ p r q s, a = some (p, r) ∧ b = some (q, s) ∧ ps = p ++ q ∧ rl = r ++ s := by
  unfold leAnd at h
  split at h
  · simp only [Option.some.injEq, Prod.mk.injEq] at h
    exact ⟨_, _, _, _, rfl, rfl, h.1.symm, h.2.symm⟩
  · simp at h
theorem leLs_ok {E E' : Env} {w : World} {rel : List Nat} {f : SV → SV → LeR} (hf : ∀ s t ps rl, f s t = some (ps, rl) → (∀ p ∈ ps, p) → (∀ c, c ∈ rl → c ∈ rel) → ∀ v, DenV E w s v → DenV E' w t v) : ∀ (ss ts : List SV) (ps : List Prop) (rl : List Nat), leLs f ss ts = some (ps, rl) → (∀ p ∈ ps, p) → (∀ c, c ∈ rl → c ∈ rel) → ss.length = ts.length ∧ ∀ vs, DenL E w ss vs → DenL E' w ts vs
  | [], [], _, _, _, _, _ => ⟨rfl, fun vs h => by cases vs <;> first | trivial | exact h.elim⟩
  | s :: ss, t :: ts, ps, rl, h, hp, hr => by
    obtain ⟨p, r, q, s2, h1, h2, rfl, rfl⟩ := leAnd_ok h
    obtain ⟨h3, h4⟩ := leLs_ok hf ss ts q s2 h2 (fun p hp' => hp p (List.mem_append_right _ hp')) (fun c hc => hr c (List.mem_append_right _ hc))
    refine ⟨by simp [h3], fun vs hv => ?_⟩
    match vs, hv with
    | v :: vs, hv => exact ⟨hf s t p r h1 (fun p hp' => hp p (List.mem_append_left _ hp')) (fun c hc => hr c (List.mem_append_left _ hc)) v hv.1, h4 vs hv.2⟩
  | [], _ :: _, _, _, h, _, _ => by simp [leLs] at h
  | _ :: _, [], _, _, h, _, _ => by simp [leLs] at h
theorem leV1_ok {E : Env} {st : St} {w : World} (hm : MemOk base X w0 E st.m w) {ρ : Rho} {rel : List Nat} (s t : SV) (ps : List Prop) (rl : List Nat) (h : leV1 st ρ s t = some (ps, rl)) (hp : ∀ p ∈ ps, p) (hr : ∀ c, c ∈ rl → c ∈ rel) (v : Value) (hv : DenV E w s v) : DenV (E.ren st ρ rel) w t v := by
  unfold leV1 at h
  split at h
  · obtain ⟨xs, h1, h2⟩ := hv
    exact ⟨xs, h1, (leLs_ok (fun s t ps rl h hp hr v hv => leV0_ok hm h hp hr hv) _ _ _ _ h hp hr).2 xs h2⟩
  · exact leV0_ok hm h hp hr hv
theorem leV_ok {E : Env} {st : St} {w : World} (hm : MemOk base X w0 E st.m w) {ρ : Rho} {rel : List Nat} (s t : SV) (ps : List Prop) (rl : List Nat) (h : leV st ρ s t = some (ps, rl)) (hp : ∀ p ∈ ps, p) (hr : ∀ c, c ∈ rl → c ∈ rel) (v : Value) (hv : DenV E w s v) : DenV (E.ren st ρ rel) w t v := by
  unfold leV at h
  split at h
  · obtain ⟨xs, h1, h2⟩ := hv
    exact ⟨xs, h1, (leLs_ok (fun s t ps rl h hp hr v hv => leV1_ok hm s t ps rl h hp hr v hv) _ _ _ _ h hp hr).2 xs h2⟩
  · exact leV1_ok hm s t ps rl h hp hr v hv
theorem leBs_at {st : St} {ρ : Rho} : ∀ (k : Nat) (mm : List BE) (ps : List Prop) (rl : List Nat), leBs st ρ k mm = some (ps, rl) → ∀ t e, mm[t]? = some e → ∃ p r, leB st ρ (k + t) e = some (p, r) ∧ (∀ x, x ∈ p → x ∈ ps) ∧ ∀ x, x ∈ r → x ∈ rl
  | k, e0 :: mm, ps, rl, h, t, e, he => by
    obtain ⟨p, r, q, s2, h1, h2, rfl, rfl⟩ := leAnd_ok h
    cases t with
    | zero =>
      simp only [List.getElem?_cons_zero, Option.some.injEq] at he
      subst he
      exact ⟨p, r, h1, fun x hx => List.mem_append_left _ hx, fun x hx => List.mem_append_left _ hx⟩
    | succ t =>
      obtain ⟨p2, r2, h3, h4, h5⟩ := leBs_at (k + 1) mm q s2 h2 t e (by simpa using he)
      exact ⟨p2, r2, by rw [show k + (t + 1) = k + 1 + t by omega]; exact h3, fun x hx => List.mem_append_right _ (h4 x hx), fun x hx => List.mem_append_right _ (h5 x hx)⟩
  | _, [], _, _, _, t, e, he => by simp at he
theorem lookR_mem : ∀ {ρ : Rho} {t : Nat} {v : Option Nat}, lookR ρ t = some v → (t, v) ∈ ρ
  | (k, u) :: r, t, v, h => by
    simp only [lookR] at h
    split at h
    · rename_i e
      have : k = t := by simpa using e
      subst this
      simp only [Option.some.injEq] at h
      subst h
      exact List.mem_cons_self ..
    · exact List.mem_cons_of_mem _ (lookR_mem h)
  | [], _, _, h => by simp [lookR] at h
theorem mem_vals : ∀ {ρ : Rho} {t c : Nat}, (t, some c) ∈ ρ → c ∈ valsR ρ
  | (k, u) :: r, t, c, h => by
    rcases List.mem_cons.1 h with e | h2
    · cases e; exact List.mem_cons_self ..
    · cases u with
      | none => exact mem_vals (ρ := r) h2
      | some d => exact List.mem_cons_of_mem _ (mem_vals (ρ := r) h2)
  | [], _, _, h => by cases h
theorem nodup_inj : ∀ {ρ : Rho} {t u c : Nat}, nodupN (valsR ρ) = true → lookR ρ t = some (some c) → lookR ρ u = some (some c) → t = u
  | (k, v) :: r, t, u, c, hn, h1, h2 => by
    simp only [lookR] at h1 h2
    by_cases e1 : (k == t) = true
    · by_cases e2 : (k == u) = true
      · have a : k = t := by simpa using e1
        have b : k = u := by simpa using e2
        rw [← a, b]
      · rw [if_pos e1] at h1
        rw [if_neg e2] at h2
        simp only [Option.some.injEq] at h1
        subst h1
        simp only [valsR, nodupN, Bool.and_eq_true] at hn
        have := mem_vals (lookR_mem h2)
        simp [this] at hn
    · by_cases e2 : (k == u) = true
      · rw [if_neg e1] at h1
        rw [if_pos e2] at h2
        simp only [Option.some.injEq] at h2
        subst h2
        simp only [valsR, nodupN, Bool.and_eq_true] at hn
        have := mem_vals (lookR_mem h1)
        simp [this] at hn
      · rw [if_neg e1] at h1
        rw [if_neg e2] at h2
        refine nodup_inj ?_ h1 h2
        cases v with
        | none => exact hn
        | some d => simp only [valsR, nodupN, Bool.and_eq_true] at hn; exact hn.2
  | [], _, _, _, _, h, _ => by simp [lookR] at h
/-- the memory under the renaming -/
theorem MemOk.ren {E : Env} {st : St} {w : World} (hm : MemOk base X w0 E st.m w) {ρ : Rho} {rel : List Nat} {mo : List BE} {ps : List Prop} {rl : List Nat} (h : leBs st ρ 0 mo = some (ps, rl)) (hp : ∀ p ∈ ps, p) (hr : ∀ c, c ∈ rl → c ∈ rel) (hok : okR ρ mo.length rel = true) (hl : 1 < mo.length)
    (hX : rel = [] ∨ ∀ b, ¬ X.X b) (tm : List SV) : MemOk base X w0 (E.ren st ρ rel) (St.mk tm mo).m w := by
  simp only [okR, Bool.and_eq_true] at hok
  obtain ⟨⟨hnd, hrg⟩, hrel⟩ := hok
  have hkey : ∀ t v, lookR ρ t = some v → t < mo.length ∧ 1 < t := fun t v hv => by
    have := List.all_eq_true.1 hrg _ (lookR_mem hv)
    simp only [Bool.and_eq_true, Nat.blt, Nat.ble_eq] at this
    omega
  have hget : ∀ t, (St.mk tm mo).m t = match mo[t]? with | some e => e | none => .empty := fun t => by
    show mo.getD t .empty = _
    simp only [List.getD]; cases mo[t]? <;> rfl
  have hat : ∀ t e, mo[t]? = some e → ∃ p r, leB st ρ t e = some (p, r) ∧ (∀ x, x ∈ p → x) ∧ ∀ x, x ∈ r → x ∈ rel := by
    intro t e he
    obtain ⟨p, r, h1, h2, h3⟩ := leBs_at 0 mo ps rl h t e he
    rw [Nat.zero_add] at h1
    exact ⟨p, r, h1, fun x hx => hp x (h2 x hx), fun x hx => hr x (h3 x hx)⟩
  have hdead : ∀ t, t < mo.length → ∀ (hne : (St.mk tm mo).m t = .empty), False := by
    intro t ht hne
    rw [hget, List.getElem?_eq_getElem ht] at hne
    obtain ⟨p, r, h1, _⟩ := hat t _ (List.getElem?_eq_getElem ht)
    simp only at hne
    rw [hne] at h1
    simp [leB] at h1
  -- a tag that has a block has that of the tag it stands for
  have hhas : ∀ t b, Has (E.ren st ρ rel) (St.mk tm mo).m t b → ∃ c, lookR ρ t = some (some c) ∧ Has E st.m c b := by
    intro t b ⟨hlive, v, hv, hvb⟩
    have hv : (match lookR ρ t with | some (some c) => E.β c | some none => some (.slice none 0 0) | none => none) = some v := hv
    rw [hget] at hlive
    cases he : mo[t]? with
    | none => rw [he] at hlive; cases hlive
    | some e =>
      rw [he] at hlive
      simp only at hlive
      obtain ⟨p, r, h1, _⟩ := hat t e he
      cases hlk : lookR ρ t with
      | none => rw [hlk] at hv; cases hv
      | some o =>
        cases o with
        | none => rw [hlk] at hv; simp only [Option.some.injEq] at hv; subst hv; simp [vblock] at hvb
        | some c =>
          rw [hlk] at hv
          refine ⟨c, rfl, ?_, v, hv, hvb⟩
          cases e with
          | empty => cases hlive
          | dead => cases hlive
          | cells T us =>
            simp only [leB, hlk] at h1
            split at h1
            · rename_i e2; rw [e2]; rfl
            · simp at h1
          | row T ls q =>
            simp only [leB, hlk] at h1
            split at h1
            · rename_i e2; rw [e2]; rfl
            · simp at h1
  refine ⟨fun t ht => ?_, fun t T us ht => ?_, fun t T ls r ht => ?_, fun i b hb => ?_, fun t b hb => ?_, fun b hb => ?_, fun t u b h1 h2 => ?_, hm.below, hm.base⟩
  · have hge : ¬ t < mo.length := fun hlt => hdead t hlt ht
    have hnl : lookR ρ t = none := by
      cases hlk : lookR ρ t with
      | none => rfl
      | some v => exact absurd (hkey t v hlk).1 hge
    refine ⟨?_, fun b hb => ?_⟩
    · show (match lookR ρ t with | some (some c) => E.β c | some none => some (.slice none 0 0) | none => none) = none
      rw [hnl]
    · have hb : if t = 0 then E.σ 0 b else if t = 1 then _ else False := hb
      rw [if_neg (by omega), if_neg (by omega)] at hb
      exact hb
  · rw [hget] at ht
    cases he : mo[t]? with
    | none => rw [he] at ht; cases ht
    | some e =>
      rw [he] at ht
      simp only at ht
      subst ht
      obtain ⟨p, r, h1, h2, h3⟩ := hat t _ he
      simp only [leB] at h1
      split at h1
      case h_2 => simp at h1
      rename_i c hlk
      split at h1
      case h_2 => simp at h1
      rename_i T' vs hc
      split at h1
      case isFalse => simp at h1
      split at h1
      case isFalse => simp at h1
      rename_i hT hf
      subst hT
      obtain ⟨b, xs, c1, c2, c3, c4⟩ := hm.cells c _ _ hc
      refine ⟨b, xs, ?_, c2, (leLs_ok (fun s t ps rl h hp hr v hv => leV0_ok hm h hp hr hv) _ _ _ _ h1 h2 h3).2 xs c3, hf⟩
      show (match lookR ρ t with | some (some c) => E.β c | some none => some (.slice none 0 0) | none => none) = some _
      rw [hlk]; exact c1
  · rw [hget] at ht
    cases he : mo[t]? with
    | none => rw [he] at ht; cases ht
    | some e =>
      rw [he] at ht
      simp only at ht
      subst ht
      obtain ⟨p, r2, h1, h2, h3⟩ := hat t _ he
      simp only [leB] at h1
      split at h1
      · rename_i c hlk
        split at h1
        case h_2 => simp at h1
        rename_i T' ms q hc
        split at h1
        case isFalse => simp at h1
        split at h1
        case isFalse => simp at h1
        split at h1
        case h_2 => simp at h1
        rename_i hT hoke _ pp hq
        subst hT
        simp only [Option.some.injEq, Prod.mk.injEq] at h1
        obtain ⟨rfl, rfl⟩ := h1
        have e := RL.eqP_ok hq (h2 pp (by simp))
        subst e
        obtain ⟨v, c1, c2⟩ := hm.row c _ _ _ hc
        refine ⟨v, ?_, c2.mono (Nat.le_refl _) (fun b hb => okL_ok hoke hb)⟩
        show (match lookR ρ t with | some (some c) => E.β c | some none => some (.slice none 0 0) | none => none) = some _
        rw [hlk]; exact c1
      · rename_i hlk
        simp only [Option.some.injEq, Prod.mk.injEq] at h1
        obtain ⟨rfl, rfl⟩ := h1
        have hz := RL.nilP_ok (h2 r.nilP (by simp))
        refine ⟨.slice none 0 0, ?_, by rw [hz]; exact OwnR.nil _ _ _ _ _⟩
        show (match lookR ρ t with | some (some c) => E.β c | some none => some (.slice none 0 0) | none => none) = some _
        rw [hlk]
      · simp at h1
  · have hb : if i = 0 then E.σ 0 b else if i = 1 then _ else False := hb
    by_cases h0 : i = 0
    · subst h0; rw [if_pos rfl] at hb; exact ⟨(hm.lab 0 b hb).1, fun h => absurd rfl h⟩
    · by_cases h1 : i = 1
      · subst h1
        rw [if_neg (by decide), if_pos rfl] at hb
        rcases hb with ⟨j, hj, hs⟩ | ⟨c, hc, hh⟩
        · exact ⟨(hm.lab j b hs).1, fun _ => (hm.lab j b hs).2 hj⟩
        · refine ⟨hm.lt hh, fun _ => ?_⟩
          rcases (hm.sep c b hh).2 with h2 | h2
          · exact h2
          · rcases hX with hX | hX
            · rw [hX] at hc; cases hc
            · exact absurd h2 (hX b)
      · rw [if_neg h0, if_neg h1] at hb; exact hb.elim
  · obtain ⟨c, hlk, hh⟩ := hhas t b hb
    refine ⟨fun ⟨i, hs⟩ => ?_, (hm.sep c b hh).2⟩
    have hs : if i = 0 then E.σ 0 b else if i = 1 then _ else False := hs
    by_cases h0 : i = 0
    · subst h0; rw [if_pos rfl] at hs; exact (hm.sep c b hh).1 ⟨0, hs⟩
    · by_cases h1 : i = 1
      · subst h1
        rw [if_neg (by decide), if_pos rfl] at hs
        rcases hs with ⟨j, hj, hs⟩ | ⟨c', hc', hh'⟩
        · exact (hm.sep c b hh).1 ⟨j, hs⟩
        · have e := hm.inj c c' b hh hh'
          subst e
          have := List.all_eq_true.1 hrel c hc'
          have hv := mem_vals (lookR_mem hlk)
          simp [hv] at this
      · rw [if_neg h0, if_neg h1] at hs; exact hs
  · simp only [Env.ren] at hb
    rw [if_pos trivial] at hb
    exact hm.old b hb
  · obtain ⟨c, hc1, hc2⟩ := hhas t b h1
    obtain ⟨d, hd1, hd2⟩ := hhas u b h2
    have e := hm.inj c d b hc2 hd2
    subst e
    exact nodup_inj hnd hc1 hd1
/-- one state as another one -/
theorem leSt_ok {st st' : St} {ps : List Prop} {rl : List Nat} (h : leSt st st' = some (ps, rl)) (hp : ∀ p ∈ ps, p) (hX : rl = [] ∨ ∀ b, ¬ X.X b) {E : Env} {a : Act} {w : World} (ho : st.Ok base X w0 E a w) : ∃ E', st'.Ok base X w0 E' a w := by
  unfold leSt at h
  simp only at h
  split at h
  case h_2 => simp at h
  rename_i ps2 rel he
  split at h
  case isFalse => simp at h
  rename_i hok
  simp only [Option.some.injEq, Prod.mk.injEq] at h
  obtain ⟨rfl, rfl⟩ := h
  obtain ⟨hok1, hok2⟩ := Bool.and_eq_true _ _ ▸ hok
  obtain ⟨p, r, q, s, h1, h2, rfl, rfl⟩ := leAnd_ok he
  obtain ⟨h3, h4⟩ := leLs_ok (E := E) (E' := E.ren st _ (r ++ s)) (w := w) (rel := r ++ s) (fun s t ps rl h hp hr v hv => leV1_ok ho.mem s t ps rl h hp hr v hv) _ _ _ _ h1 (fun x hx => hp x (List.mem_append_left _ hx)) (fun c hc => List.mem_append_left _ hc)
  have hl : 1 < st'.mm.length := by simp only [Nat.blt, Nat.ble_eq] at hok2; omega
  have hmem := ho.mem.ren h2 (fun x hx => hp x (List.mem_append_right _ hx)) (fun c hc => List.mem_append_right _ hc) hok1 hl hX st'.tm
  refine ⟨_, ho.defers, ho.size.trans h3, fun i => ?_, hmem⟩
  have hd : DenL E w st.tm a.tmps.toList := DenL.of_at (by simpa using ho.size) (fun i hi => by
    have := ho.tm i
    rwa [show a.tmps.toList.getD i undef = a.tmps.getD i undef by simp [List.getD, Array.getD_eq_getD_getElem?]])
  have := (h4 _ hd).any i
  rwa [show a.tmps.toList.getD i undef = a.tmps.getD i undef by simp [List.getD, Array.getD_eq_getD_getElem?]] at this
end
def E0 (S : Nat → Prop) : Env := ⟨fun _ => none, fun i b => i = 0 ∧ S b⟩
/-- the contract of a function: of arguments that are as ins (label 0), it answers as out, in memory as mo (label 1: new) -/
def FnC (P : Program) (f : FuncId) (ins : List SV) (out : SV) (mo : List BE) : Prop :=
  FnB P f ∧ ∀ (w : World) (S : Nat → Prop) (vals : List Value), (∀ b, S b → b < w.heap.size) → DenL (E0 S) w ins vals →
    Calls P f vals.toArray w (fun e w' => ∃ v E', e = .returned v ∧ DenV E' w' out v ∧ MemOk w.heap.size ⟨fun _ => False, S⟩ w E' (St.mk [] mo).m w')
theorem memStart {S : Nat → Prop} {w : World} (hS : ∀ b, S b → b < w.heap.size) (tm : List SV) : MemOk w.heap.size ⟨fun _ => False, S⟩ w (E0 S) (St.mk tm [.dead, .dead]).m w := by
  have hm : ∀ t, (St.mk tm [.dead, .dead]).m t = if t < 2 then .dead else .empty := by
    intro t
    match t with
    | 0 => rfl
    | 1 => rfl
    | t + 2 => simp [St.m, List.getD]
  have hl : ∀ t, ((St.mk tm [.dead, .dead]).m t).live = false := by intro t; rw [hm]; split <;> rfl
  refine ⟨fun t ht => ⟨rfl, fun b hb => ?_⟩, fun t T vs ht => ?_, fun t T ls r ht => ?_, fun i b hb => ⟨hS b hb.2, fun h => absurd hb.1 h⟩, fun t b hb => ?_, fun b hb => hb.2, fun t u b h1 _ => ?_, BelowX.refl _ _ _, Nat.le_refl _⟩
  · obtain ⟨rfl, _⟩ := hb
    rw [hm] at ht; simp at ht
  · have := hl t; rw [ht] at this; cases this
  · have := hl t; rw [ht] at this; cases this
  · have := hl t; rw [hb.1] at this; cases this
  · have := hl t; rw [h1.1] at this; cases this
/-- results -/
def resOne (P : Program) (st : St) : ResultVar → Option (SV × List Prop)
  | .tmp t => some (strip (st.tm.getD t .any))
  | .cell a T => match cellsAt st (st.tm.getD a .any), aggT P T, sizeT P T with
    | some (cs, n), some true, some k => if k ≤ cs.length then some (.agg (cs.take k), n) else none
    | some (c :: _, n), some false, _ => some (c, n)
    | _, _, _ => none
def resL (P : Program) (st : St) : List ResultVar → Option (List SV × List Prop)
  | [] => some ([], [])
  | r :: rs => match resOne P st r, resL P st rs with
    | some (s, n), some (ss, m) => some (s :: ss, n ++ m)
    | _, _ => none
def resS (P : Program) (fn : Func) (st : St) : Option (SV × List Prop) :=
  match resL P st fn.results.toList with
  | some ([s], n) => some (s, n)
  | some (ss, n) => some (.tup ss, n)
  | none => none
def Each : List Prop → Prop
  | [] => True
  | p :: ps => p ∧ Each ps
theorem Each.out : ∀ {ps : List Prop}, Each ps → ∀ p ∈ ps, p
  | _ :: _, h, _, .head _ => h.1
  | _ :: _, h, p, .tail _ hp => Each.out h.2 p hp
section
variable {P : Program} {base : Nat} {X : Cx} {w0 : World}
theorem resOne_ok {st : St} {E : Env} {a : Act} {w : World} (ho : st.Ok base X w0 E a w) {r : ResultVar} {s : SV} {n : List Prop} (h : resOne P st r = some (s, n)) (hn : ∀ p ∈ n, p) :
    ∃ v, ((match r with | .tmp t => pure (a.tmps.getD t undef) | .cell a' t => do loadVar t (← asAddr (a.tmps.getD a' undef)) : Sem Value)).run P w = .ok v w ∧ DenV E w s v := by
  cases r with
  | tmp t =>
    simp only [resOne, Option.some.injEq] at h
    have := strip_ok (ho.tm t) (fun p hp => hn p (by rw [h] at hp; exact hp))
    rw [h] at this
    exact ⟨_, rfl, this⟩
  | cell t T =>
    simp only [resOne] at h
    split at h
    case h_3 => simp at h
    · rename_i cs m k e1 e2 e3
      split at h
      case isFalse => simp at h
      rename_i hk
      simp only [Option.some.injEq, Prod.mk.injEq] at h
      obtain ⟨rfl, rfl⟩ := h
      obtain ⟨b, off, xs, e, hd, hc⟩ := cellsAt_ok ho e1 hn (ho.tm t)
      refine ⟨.agg (xs.take k).toArray, ?_, xs.take k, rfl, hd.take k⟩
      simp only [e, asAddr, loadVar, Sem.run_bind, Sem.run_pure, Result.andThen, run_isAgg e2, if_true, run_sizeOf' e3, run_loadCells' hc k (by rw [hd.len]; exact hk)]
    · rename_i c rest m _ e1 e2
      simp only [Option.some.injEq, Prod.mk.injEq] at h
      obtain ⟨rfl, rfl⟩ := h
      obtain ⟨b, off, xs, e, hd, hc⟩ := cellsAt_ok ho e1 hn (ho.tm t)
      match xs, hd with
      | x0 :: xs, hd =>
        refine ⟨x0, ?_, hd.1⟩
        have := hc 0 x0 rfl
        rw [Nat.add_zero] at this
        simp [e, asAddr, loadVar, run_isAgg e2, run_load, this]
theorem resL_ok {st : St} {E : Env} {a : Act} {w : World} (ho : st.Ok base X w0 E a w) : ∀ (rs : List ResultVar) (ss : List SV) (n : List Prop), resL P st rs = some (ss, n) → (∀ p ∈ n, p) →
    ∃ vs, (List.mapM (fun r => (match r with | .tmp t => pure (a.tmps.getD t undef) | .cell a' t => do loadVar t (← asAddr (a.tmps.getD a' undef)) : Sem Value)) rs).run P w = .ok vs w ∧ DenL E w ss vs
  | [], ss, n, h, hn => by
    simp only [resL, Option.some.injEq, Prod.mk.injEq] at h
    obtain ⟨rfl, rfl⟩ := h
    exact ⟨[], by simp [Sem.run_pure], trivial⟩
  | r :: rs, ss, n, h, hn => by
    simp only [resL] at h
    split at h
    case h_2 => simp at h
    rename_i s n1 ss2 n2 h1 h2
    simp only [Option.some.injEq, Prod.mk.injEq] at h
    obtain ⟨rfl, rfl⟩ := h
    obtain ⟨v, h3, h4⟩ := resOne_ok (P := P) ho h1 (fun p hp => hn p (List.mem_append_left _ hp))
    obtain ⟨vs, h5, h6⟩ := resL_ok ho rs ss2 n2 h2 (fun p hp => hn p (List.mem_append_right _ hp))
    exact ⟨v :: vs, by simp only [List.mapM_cons, Sem.run_bind, h3, Result.andThen, h5, Sem.run_pure], h4, h6⟩
theorem resS_ok {fn : Func} {st : St} {E : Env} {a : Act} {w : World} (ho : st.Ok base X w0 E a w) {s : SV} {n : List Prop} (h : resS P fn st = some (s, n)) (hn : ∀ p ∈ n, p) : ∃ v, (results fn a.tmps).run P w = .ok v w ∧ DenV E w s v := by
  unfold resS at h
  have key : ∀ ss m, resL P st fn.results.toList = some (ss, m) → (∀ p ∈ m, p) → ∃ vs : List Value, (results fn a.tmps).run P w = .ok (if h : vs.toArray.size = 1 then vs.toArray[0] else .tuple vs.toArray) w ∧ DenL E w ss vs := by
    intro ss m hl hm
    obtain ⟨vs, h1, h2⟩ := resL_ok (P := P) ho _ _ _ hl hm
    refine ⟨vs, ?_, h2⟩
    unfold results
    rw [Sem.run_bind, Array.mapM_eq_mapM_toList, map_eq_pure_bind, Sem.run_bind]
    erw [h1]
    simp [Sem.run_pure, Result.andThen]
  split at h
  · rename_i s2 m hl
    simp only [Option.some.injEq, Prod.mk.injEq] at h
    obtain ⟨rfl, rfl⟩ := h
    obtain ⟨vs, h1, h2⟩ := key _ _ hl hn
    match vs, h2 with
    | [v], h2 => exact ⟨v, by simpa using h1, h2.1⟩
  · rename_i ss m hne hl
    simp only [Option.some.injEq, Prod.mk.injEq] at h
    obtain ⟨rfl, rfl⟩ := h
    obtain ⟨vs, h1, h2⟩ := key _ _ hl hn
    refine ⟨.tuple vs.toArray, ?_, vs, rfl, h2⟩
    rw [h1, dif_neg]
    intro hs
    have := h2.len
    match ss, vs, hs, this with
    | [s0], [v0], _, _ => exact hne s0 rfl
    | [], [_], _, hlen => simp at hlen
    | _ :: _ :: _, [_], _, hlen => simp at hlen
  · simp at h
end
/-- the post of a function -/
def RpO (out : SV) (mo : List BE) (w0 : World) (S : Nat → Prop) (e : Ending) (w' : World) : Prop := ∃ v E', e = .returned v ∧ DenV E' w' out v ∧ MemOk w0.heap.size ⟨fun _ => False, S⟩ w0 E' (St.mk [] mo).m w'
def vcOut (P : Program) (fn : Func) (out : SV) (mo : List BE) (st : St) : Prop :=
  match resS P fn st with
  | some (sv, n) => match leOut st sv out mo with
    | some (ps, _) => Each (n ++ ps)
    | none => False
  | none => False
theorem vcOut_ok {P : Program} {fn : Func} {out : SV} {mo : List BE} {st : St} (h : vcOut P fn out mo st) {w0 : World} {S : Nat → Prop} {E : Env} {a : Act} {w : World} (ho : st.Ok w0.heap.size ⟨fun _ => False, S⟩ w0 E a w) : ∃ v, (results fn a.tmps).run P w = .ok v w ∧ RpO out mo w0 S (.returned v) w := by
  unfold vcOut at h
  split at h
  case h_2 => exact h.elim
  rename_i sv n hr
  split at h
  case h_2 => exact h.elim
  rename_i ps rel hl
  have hall := Each.out h
  obtain ⟨v, h1, h2⟩ := resS_ok ho hr (fun p hp => hall p (List.mem_append_left _ hp))
  refine ⟨v, h1, v, ?_⟩
  unfold leOut at hl
  simp only at hl
  split at hl
  case h_2 => simp at hl
  rename_i ps2 rel2 he
  split at hl
  case isFalse => simp at hl
  rename_i hok
  simp only [Option.some.injEq, Prod.mk.injEq] at hl
  obtain ⟨rfl, rfl⟩ := hl
  obtain ⟨hok1, hok2⟩ := Bool.and_eq_true _ _ ▸ hok
  obtain ⟨p, r, q, s, h3, h4, rfl, rfl⟩ := leAnd_ok he
  have hl2 : 1 < mo.length := by simp only [Nat.blt, Nat.ble_eq] at hok2; omega
  exact ⟨_, rfl, leV_ok ho.mem (rel := r ++ s) _ _ _ _ h3 (fun x hx => hall x (by simp [hx])) (fun c hc => List.mem_append_left _ hc) v h2,
    ho.mem.ren h4 (fun x hx => hall x (by simp [hx])) (fun c hc => List.mem_append_right _ hc) hok1 hl2 (.inr fun _ h => h) []⟩
/-- what is left to show of a loop -/
def LoopG (P : Program) (fn : Func) (out : SV) (mo : List BE) (B : Nat → St → Prop) (body : Code) (k : List KI) (st : St) : Prop :=
  ∀ (w0 : World) (S : Nat → Prop) (J : Nat → Act → World → Prop), (∀ j st, B j st → ∀ E a w, st.Ok w0.heap.size ⟨fun _ => False, S⟩ w0 E a w → J j a w) →
    ∀ E a w, st.Ok w0.heap.size ⟨fun _ => False, S⟩ w0 E a w → (Code.loop body).wp P (qOf P J k (bodyPost P fn (RpO out mo w0 S))) a w
/-- what is left to show of a tree -/
def vc (P : Program) (fn : Func) (out : SV) (mo : List BE) (B : Nat → St → Prop) : Tr → Prop
  | .ret st => vcOut P fn out mo st
  | .nrm st _ => vcOut P fn out mo st
  | .need ps t => Each ps ∧ vc P fn out mo B t
  | .br b t1 t2 => (b = true → vc P fn out mo B t1) ∧ (b = false → vc P fn out mo B t2)
  | .back j st => B j st
  | .loop body k st => LoopG P fn out mo B body k st
  | .ext _ _ => False
  | .stuck _ _ _ => False
theorem vc_den {P : Program} {fn : Func} {out : SV} {mo : List BE} {B : Nat → St → Prop} {w0 : World} {S : Nat → Prop} {J : Nat → Act → World → Prop} (hJ : ∀ j st, B j st → ∀ E a w, st.Ok w0.heap.size ⟨fun _ => False, S⟩ w0 E a w → J j a w) :
    ∀ (t : Tr), vc P fn out mo B t → den P w0.heap.size ⟨fun _ => False, S⟩ w0 J (bodyPost P fn (RpO out mo w0 S)) t
  | .ret st, h => fun E a w ho => by
    obtain ⟨v, h1, h2⟩ := vcOut_ok h ho
    exact ⟨ho.defers, v, h1, h2⟩
  | .nrm st _, h => fun E a w ho => by
    obtain ⟨v, h1, h2⟩ := vcOut_ok h ho
    exact ⟨ho.defers, v, h1, h2⟩
  | .need ps t, h => ⟨h.1.out, vc_den hJ t h.2⟩
  | .br b t1 t2, h => ⟨fun e => vc_den hJ t1 (h.1 e), fun e => vc_den hJ t2 (h.2 e)⟩
  | .back j st, h => hJ j st h
  | .loop body k st, h => h w0 S J hJ
  | .ext _ _, h => h.elim
  | .stuck _ _ _, h => h.elim
def st0 (ins : List SV) (n : Nat) : St := ⟨ins ++ List.replicate (n - ins.length) .any, [.dead, .dead]⟩
structure World.Fits (P : Program) (C : Cfg) (more : Nat → St → TypeId → Op → Option Upd) : Prop where
  mixed : P.follows .mixedOrders = true
  orc : OrcOk P C
  loc : OrcLoc C
  moreOk : MoreOk P more
  moreLoc : MoreLoc more
/-- a function's contract, off its tree -/
theorem FnC.of_vc {P : Program} {C : Cfg} {more : Nat → St → TypeId → Op → Option Upd} (hF : World.Fits P C more) {f : FuncId} {fn : Func} {c : Code} (hf : P.funcs[f]? = some fn) (hb : fn.body = some c) (hname : fn.name ≠ "runtime.NumGoroutine") {ins : List SV} {out : SV} {mo : List BE} (n : Nat)
    {p : Prop} (he : vc P fn out mo (fun _ _ => False) (exec P C more n c [] (st0 ins fn.ntmps) ⟨[], []⟩) = p) (h : p) : FnC P f ins out mo := by
  subst he
  refine ⟨⟨fn, hf, hname, by rw [hb]; rfl⟩, fun w S vals hS hd => ?_⟩
  refine calls_of_wp hf hb ?_
  have hden := vc_den (w0 := w) (S := S) (J := fun _ _ _ => False) (fun _ _ h => h.elim) _ h
  have hlen : vals.length = ins.length := hd.len
  refine (exec_ok hF.mixed hF.orc hF.loc hF.moreOk hF.moreLoc n).1 c [] _ _ _ hden (E0 S) _ w ⟨rfl, ?_, fun i => ?_, memStart hS _⟩
  · simp [st0, hlen]
  · have e : (vals.toArray ++ Array.replicate (fn.ntmps - vals.toArray.size) undef).getD i undef = (vals ++ List.replicate (fn.ntmps - ins.length) undef).getD i undef := by
      simp only [Array.getD_eq_getD_getElem?, List.getD, ← hlen]
      rw [← Array.getElem?_toList]
      simp
    rw [e]
    show DenV (E0 S) w ((ins ++ List.replicate (fn.ntmps - ins.length) SV.any).getD i .any) _
    refine DenL.any (DenL.app hd ?_) i
    generalize fn.ntmps - ins.length = q
    induction q with
    | zero => trivial
    | succ q ih => exact ⟨trivial, ih⟩
def noMark (j : Nat) : List KI → Bool
  | [] => true
  | .mark i :: k => !(i == j) && noMark j k
  | _ :: k => noMark j k
theorem qOf_J {P : Program} {J J' : Nat → Act → World → Prop} {j : Nat} (h : ∀ i, i ≠ j → J i = J' i) : ∀ (k : List KI), noMark j k = true → ∀ Q, qOf P J k Q = qOf P J' k Q
  | [], _, _ => rfl
  | .code c :: k, hk, Q => by rw [qOf, qOf, qOf_J h k hk Q]
  | .blk i :: k, hk, Q => by rw [qOf, qOf, qOf_J h k hk Q]
  | .mark i :: k, hk, Q => by
    simp only [noMark, Bool.and_eq_true] at hk
    rw [qOf, qOf, qOf_J h k hk.2 Q, h i (by simpa using hk.1)]
def leP (st st' : St) : Prop := match leSt st st' with
  | some (ps, _) => Each ps
  | none => False
theorem leP_ok {st st' : St} (h : leP st st') {w0 : World} {S : Nat → Prop} {E : Env} {a : Act} {w : World} (ho : st.Ok w0.heap.size ⟨fun _ => False, S⟩ w0 E a w) : ∃ E', st'.Ok w0.heap.size ⟨fun _ => False, S⟩ w0 E' a w := by
  unfold leP at h
  split at h
  · rename_i e; exact leSt_ok e h.out (.inr fun _ h => h) ho
  · exact h.elim
/-- at the head of a loop again -/
def Back {A : Type} (I : A → Prop) (H : A → St) (μ : A → Nat) (x : A) (st : St) : Prop := ∃ y, I y ∧ μ y < μ x ∧ leP st (H y)
theorem LoopG.mk {P : Program} {C : Cfg} {more : Nat → St → TypeId → Op → Option Upd} (hF : World.Fits P C more) {fn : Func} {out : SV} {mo : List BE} {B : Nat → St → Prop} {body : Code} {k : List KI} {st : St} (j : Nat) (hj : noMark j k = true)
    {A : Type} (I : A → Prop) (H : A → St) (μ : A → Nat) (x0 : A) (hI : I x0) (h0 : leP st (H x0)) (n : Nat) (round : ∀ x, I x → vc P fn out mo (fun i s => if i = j then Back I H μ x s else B i s) (exec P C more n body (.mark j :: k) (H x) ⟨[], []⟩)) : LoopG P fn out mo B body k st := by
  intro w0 S J hJ E a w ho
  refine wp_loop_ghost (fun m a w => ∃ x, μ x = m ∧ I x ∧ ∃ E, (H x).Ok w0.heap.size ⟨fun _ => False, S⟩ w0 E a w) (μ x0) ⟨x0, rfl, hI, leP_ok h0 ho⟩ ?_
  rintro m a w ⟨x, rfl, hIx, E, hox⟩
  let J' : Nat → Act → World → Prop := fun i => if i = j then (fun a w => ∃ m', m' < μ x ∧ ∃ y, μ y = m' ∧ I y ∧ ∃ E, (H y).Ok w0.heap.size ⟨fun _ => False, S⟩ w0 E a w) else J i
  have hden := vc_den (w0 := w0) (S := S) (J := J') (fun i s hs E a w ho => by
    by_cases e : i = j
    · subst e
      rw [if_pos rfl] at hs
      obtain ⟨y, h1, h2, h3⟩ := hs
      show (if i = i then _ else _ : Act → World → Prop) a w
      rw [if_pos rfl]
      exact ⟨_, h2, y, rfl, h1, leP_ok h3 ho⟩
    · rw [if_neg e] at hs
      show (if i = j then _ else _ : Act → World → Prop) a w
      rw [if_neg e]
      exact hJ i s hs E a w ho) _ (round x hIx)
  have := (exec_ok hF.mixed hF.orc hF.loc hF.moreOk hF.moreLoc n).1 body (.mark j :: k) _ _ _ hden E a w hox
  rw [qOf, ← qOf_J (J := J) (J' := J') (j := j) (fun i hi => by show J i = if i = j then _ else _; rw [if_neg hi]) k hj] at this
  refine Code.wp_mono (fun e a w h => ?_) this
  cases e <;> first | exact h | skip
  have h : J' j a w := h
  have h : (if j = j then _ else _ : Act → World → Prop) a w := h
  rw [if_pos rfl] at h
  exact h
/-- a function whose contract is known, by its arguments -/
structure Ent where
  f : FuncId
  go : List SV → Option (List Prop × SV × List BE)
def EntOk (P : Program) (e : Ent) : Prop := FnB P e.f ∧ ∀ ins n out mo, e.go ins = some (n, out, mo) → (∀ p ∈ n, p) → FnC P e.f ins out mo
def findE : List Ent → FuncId → Option Ent
  | [], _ => none
  | e :: r, f => if e.f == f then some e else findE r f
/-- an argument as the callee sees it -/
def old0 (st : St) : SV → SV × List Prop
  | .sl _ r => (.sl [0] r, [])
  | .own t => match st.m t with
    | .row _ _ r => (.sl [0] r, [r.len ≤ 17592186044416])
    | _ => (.any, [])
  | .int k n => (.int k n, [])
  | .bool b => (.bool b, [])
  | .str s => (.str s, [])
  | .nil => (.nil, [])
  | .fn f => (.fn f, [])
  | _ => (.any, [])
def oldLs (f : SV → SV × List Prop) : List SV → List SV × List Prop
  | [] => ([], [])
  | s :: r => ((f s).1 :: (oldLs f r).1, (f s).2 ++ (oldLs f r).2)
def old1 (st : St) : SV → SV × List Prop
  | .agg vs => (.agg (oldLs (old0 st) vs).1, (oldLs (old0 st) vs).2)
  | s => old0 st s
def labs0 : SV → List Nat
  | .sl ls _ => ls
  | _ => []
/-- labels of own rows -/
def labsM (st : St) : SV → List Nat
  | .own t => match st.m t with
    | .row _ ls _ => ls
    | _ => []
  | _ => []
def labs1 (st : St) : SV → List Nat
  | .agg vs => vs.flatMap (fun s => labs0 s ++ labsM st s)
  | s => labs0 s ++ labsM st s
def owns0 : SV → List Nat
  | .own t => [t]
  | _ => []
def owns1 : SV → List Nat
  | .agg vs => vs.flatMap owns0
  | s => owns0 s
def dedupN : List Nat → List Nat
  | [] => []
  | a :: r => if (dedupN r).contains a then dedupN r else a :: dedupN r
/-- labels and tags of the answer, as the caller has them -/
def relN (l0 : List Nat) (c : Nat) (ls : List Nat) : List Nat := (if ls.contains 0 then l0 else []) ++ (if ls.contains 1 then [c] else [])
def relV0 (l0 : List Nat) (c : Nat) : SV → SV
  | .sl ls r => .sl (relN l0 c ls) r
  | .own t => .own (c + (t - 1))
  | .ptr t o => .ptr (c + (t - 1)) o
  | .int k n => .int k n
  | .bool b => .bool b
  | .str s => .str s
  | .nil => .nil
  | .fn f => .fn f
  | _ => .any
def relV1 (l0 : List Nat) (c : Nat) : SV → SV
  | .agg vs => .agg (vs.map (relV0 l0 c))
  | s => relV0 l0 c s
def relV (l0 : List Nat) (c : Nat) : SV → SV
  | .tup vs => .tup (vs.map (relV1 l0 c))
  | s => relV1 l0 c s
def relB (l0 : List Nat) (c : Nat) : BE → BE
  | .cells T vs => .cells T (vs.map (relV0 l0 c))
  | .row T ls r => .row T (relN l0 c ls) r
  | _ => .dead
/-- the tags of the answer lie below n, its labels are 0 and 1 -/
def lab2 (ls : List Nat) : Bool := ls.all fun i => Nat.ble i 1
def tagOk (n : Nat) : SV → Bool
  | .own t => Nat.blt 1 t && Nat.blt t n
  | .ptr t _ => Nat.blt 1 t && Nat.blt t n
  | .sl ls _ => lab2 ls
  | _ => true
def tagOk1 (n : Nat) : SV → Bool
  | .agg vs => vs.all (tagOk n)
  | s => tagOk n s
def tagOkV (n : Nat) : SV → Bool
  | .tup vs => vs.all (tagOk1 n)
  | s => tagOk1 n s
def tagOkB (n : Nat) : BE → Bool
  | .cells _ vs => vs.all (tagOk n)
  | .row _ ls _ => lab2 ls
  | _ => true
def old0V : SV → Bool
  | .sl ls _ => ls.contains 0
  | _ => false
def oldU1 : SV → Bool
  | .agg vs => vs.any old0V
  | s => old0V s
def oldU : SV → Bool
  | .tup vs => vs.any oldU1
  | s => oldU1 s
def oldUB : BE → Bool
  | .cells _ vs => vs.any old0V
  | .row _ ls _ => ls.contains 0
  | _ => false
def updsB (l0 : List Nat) (c : Nat) (mo : List BE) : List (Nat × BE) :=
  [(c, .dead), (c + 1, relB l0 c (mo.getD 2 .dead)), (c + 2, relB l0 c (mo.getD 3 .dead)), (c + 3, relB l0 c (mo.getD 4 .dead)), (c + 4, relB l0 c (mo.getD 5 .dead)), (c + 5, relB l0 c (mo.getD 6 .dead)), (c + 6, relB l0 c (mo.getD 7 .dead)), (c + 7, relB l0 c (mo.getD 8 .dead))]
def okCall (st : St) (c : Nat) (svs : List SV) (out : SV) (mo : List BE) : Bool :=
  (blk8 c).all st.free && Nat.blt 1 c && Nat.blt mo.length 10 && Nat.blt 1 mo.length && tagOkV mo.length out && mo.all (tagOkB mo.length) && ((svs.flatMap owns1).isEmpty || !(oldU out || mo.any oldUB))
/-- what a call of one does -/
def orcT (tab : List Ent) (c : Nat) (f : FuncId) (st : St) (svs : List SV) : Option Upd :=
  match findE tab f with
  | none => none
  | some e => match e.go (oldLs (old1 st) svs).1 with
    | some (n, out, mo) => if okCall st c svs out mo then some ⟨(oldLs (old1 st) svs).2 ++ n, relV (dedupN (svs.flatMap (labs1 st))) c out, updsB (dedupN (svs.flatMap (labs1 st))) c mo⟩ else none
    | none => none
theorem dedupN_mem : ∀ (l : List Nat) (a : Nat), a ∈ dedupN l ↔ a ∈ l
  | [], a => by simp [dedupN]
  | b :: r, a => by
    unfold dedupN
    split
    · rename_i h
      have hb : b ∈ r := (dedupN_mem r b).1 (by simpa using h)
      rw [dedupN_mem r a]
      constructor
      · exact List.mem_cons_of_mem _
      · intro h; rcases List.mem_cons.1 h with rfl | h
        · exact hb
        · exact h
    · rw [List.mem_cons, List.mem_cons, dedupN_mem r a]
section
variable {P : Program} {base : Nat} {X : Cx} {w0 : World}
/-- what the callee may read -/
def SCall (E : Env) (st : St) (svs : List SV) (b : Nat) : Prop := (∃ i, i ∈ svs.flatMap (labs1 st) ∧ E.σ i b) ∨ ∃ t, t ∈ svs.flatMap owns1 ∧ Has E st.m t b
theorem old0_ok {E : Env} {st : St} {w : World} (hm : MemOk base X w0 E st.m w) {S : Nat → Prop} {s : SV} (hl : ∀ i, i ∈ labs0 s ++ labsM st s → ∀ b, E.σ i b → S b) (ho : ∀ t, t ∈ owns0 s → ∀ b, Has E st.m t b → S b) {v : Value} (hv : DenV E w s v) (hn : ∀ p ∈ (old0 st s).2, p) : DenV (E0 S) w (old0 st s).1 v := by
  cases s
  case sl ls r =>
    refine Rd.mono hv (fun b _ hb => ?_)
    obtain ⟨i, hi, hs⟩ := hb
    exact ⟨0, by simp, rfl, hl i (by simp [labs0, hi]) b hs⟩
  case own t =>
    simp only [old0] at hn ⊢
    cases hmt : st.m t with
    | row T ls r =>
      rw [hmt] at hn
      obtain ⟨v', hβ, ho2⟩ := hm.row t T ls r hmt
      have hv1 := hv.1
      rw [hβ] at hv1
      simp only [Option.some.injEq] at hv1
      subst hv1
      obtain ⟨a, cc, ef⟩ := ho2.form
      have hle : r.len ≤ 17592186044416 := hn _ (by simp)
      have hs := ho2.slO ((E0 S).set [0]) (fun b hb => by
        obtain ⟨i, hi, hs⟩ := hb
        exact ⟨0, by simp, rfl, hl i (by simp [labs0, labsM, hmt, hi]) b hs⟩) (fun b _ hb => ⟨0, by simp, rfl, ho t (by simp [owns0]) b ⟨by rw [hmt]; rfl, v', hβ, by rw [← vblock_own ⟨a, _, cc, ef⟩]; exact hb⟩⟩) (by rw [r.rows_len]; exact hle)
      obtain ⟨a2, c2, e2, h2⟩ := hs
      rw [e2]; exact h2
    | _ => trivial
  all_goals first | exact hv | trivial
theorem oldLs_ok {E E' : Env} {w : World} {f : SV → SV × List Prop} : ∀ (ss : List SV) (vs : List Value), (∀ s, s ∈ ss → ∀ v, DenV E w s v → (∀ p ∈ (f s).2, p) → DenV E' w (f s).1 v) → DenL E w ss vs → (∀ p ∈ (oldLs f ss).2, p) → DenL E' w (oldLs f ss).1 vs
  | [], [], _, _, _ => trivial
  | s :: ss, v :: vs, hf, h, hn => ⟨hf s (List.mem_cons_self ..) v h.1 (fun p hp => hn p (List.mem_append_left _ hp)), oldLs_ok ss vs (fun s hs => hf s (List.mem_cons_of_mem _ hs)) h.2 (fun p hp => hn p (List.mem_append_right _ hp))⟩
  | [], _ :: _, _, h, _ => h.elim
  | _ :: _, [], _, h, _ => h.elim
theorem old_ok {E : Env} {st : St} {w : World} (hm : MemOk base X w0 E st.m w) {svs : List SV} {vals : List Value} (h : DenL E w svs vals) (hn : ∀ p ∈ (oldLs (old1 st) svs).2, p) : DenL (E0 (SCall E st svs)) w (oldLs (old1 st) svs).1 vals := by
  refine oldLs_ok svs vals (fun s hs v hv hp => ?_) h hn
  have hl : ∀ i, i ∈ labs1 st s → ∀ b, E.σ i b → SCall E st svs b := fun i hi b hb => .inl ⟨i, List.mem_flatMap.2 ⟨s, hs, hi⟩, hb⟩
  have ho : ∀ t, t ∈ owns1 s → ∀ b, Has E st.m t b → SCall E st svs b := fun t ht b hb => .inr ⟨t, List.mem_flatMap.2 ⟨s, hs, ht⟩, hb⟩
  cases s
  case agg us =>
    obtain ⟨xs, h1, h2⟩ := hv
    refine ⟨xs, h1, oldLs_ok us xs (fun u hu v hv hp => old0_ok hm (fun i hi => hl i (List.mem_flatMap.2 ⟨u, hu, hi⟩)) (fun t ht => ho t (List.mem_flatMap.2 ⟨u, hu, ht⟩)) hv hp) h2 hp⟩
  all_goals exact old0_ok hm hl ho hv hp
/-- the caller's names behind the call -/
def Env.back (E E' : Env) (c n : Nat) : Env where
  β := fun t => if c < t ∧ t < c + (n - 1) then E'.β (t - c + 1) else E.β t
  σ := fun i b => if i = c then E'.σ 1 b else E.σ i b
theorem relN_ok {E E' : Env} {st : St} {svs : List SV} {c n : Nat} {w w' : World} {m' : Nat → BE} (hm' : MemOk w.heap.size ⟨fun _ => False, SCall E st svs⟩ w E' m' w') (hfree : ∀ b, ¬ E.σ c b) {ls : List Nat} (ho : svs.flatMap owns1 = [] ∨ ls.contains 0 = false) (hls : lab2 ls = true) {b : Nat} (hb : E'.set ls b) :
    (E.back E' c n).set (relN (dedupN (svs.flatMap (labs1 st))) c ls) b := by
  obtain ⟨i, hi, hs⟩ := hb
  have hi1 : i ≤ 1 := Nat.le_of_ble_eq_true (List.all_eq_true.1 hls i hi)
  have h01 : i = 0 ∨ i = 1 := by omega
  rcases h01 with rfl | rfl
  · have h0 : ls.contains 0 = true := by simpa using hi
    rcases hm'.old b hs with ⟨j, hj, hjs⟩ | ⟨t, ht, _⟩
    · refine ⟨j, ?_, ?_⟩
      · unfold relN
        rw [if_pos h0]
        exact List.mem_append_left _ ((dedupN_mem _ _).2 hj)
      · have hjc : ¬ j = c := fun e => hfree b (e ▸ hjs)
        show (if j = c then E'.σ 1 b else E.σ j b)
        rw [if_neg hjc]; exact hjs
    · rcases ho with ho | ho
      · rw [ho] at ht; cases ht
      · rw [h0] at ho; cases ho
  · have h1 : ls.contains 1 = true := by simpa using hi
    refine ⟨c, ?_, ?_⟩
    · unfold relN
      rw [if_pos h1]
      exact List.mem_append_right _ (by simp)
    · show (if c = c then E'.σ 1 b else E.σ c b)
      rw [if_pos rfl]; exact hs
theorem back_β {E E' : Env} {c n t : Nat} (h1 : 1 < t) (h2 : t < n) : (E.back E' c n).β (c + (t - 1)) = E'.β t := by
  show (if c < c + (t - 1) ∧ c + (t - 1) < c + (n - 1) then E'.β (c + (t - 1) - c + 1) else E.β (c + (t - 1))) = E'.β t
  rw [if_pos ⟨by omega, by omega⟩, show c + (t - 1) - c + 1 = t by omega]
theorem relV0_ok {E E' : Env} {l0 : List Nat} {c n : Nat} {w' : World} {s : SV} (hset : ∀ ls, lab2 ls = true → (old0V s = false → ls.contains 0 = false) → ∀ b, E'.set ls b → (E.back E' c n).set (relN l0 c ls) b) (ht : tagOk n s = true) {v : Value} (hv : DenV E' w' s v) : DenV (E.back E' c n) w' (relV0 l0 c s) v := by
  cases s
  case sl ls r => exact Rd.mono hv (fun b _ hb => hset ls ht (fun h => h) b hb)
  case own t =>
    simp only [tagOk, Bool.and_eq_true, Nat.blt, Nat.ble_eq] at ht
    exact ⟨(back_β (by omega) (by omega)).trans hv.1, hv.2⟩
  case ptr t o =>
    simp only [tagOk, Bool.and_eq_true, Nat.blt, Nat.ble_eq] at ht
    obtain ⟨b, h1, h2⟩ := hv
    exact ⟨b, (back_β (by omega) (by omega)).trans h1, h2⟩
  all_goals first | exact hv | trivial
theorem map_ok {E E' : Env} {w : World} {f : SV → SV} : ∀ (ss : List SV) (vs : List Value), (∀ s, s ∈ ss → ∀ v, DenV E w s v → DenV E' w (f s) v) → DenL E w ss vs → DenL E' w (ss.map f) vs
  | [], [], _, _ => trivial
  | s :: ss, v :: vs, hf, h => ⟨hf s (List.mem_cons_self ..) v h.1, map_ok ss vs (fun s hs => hf s (List.mem_cons_of_mem _ hs)) h.2⟩
  | [], _ :: _, _, h => h.elim
  | _ :: _, [], _, h => h.elim
theorem relV1_ok {E E' : Env} {l0 : List Nat} {c n : Nat} {w' : World} {s : SV} (hset : ∀ ls, lab2 ls = true → (oldU1 s = false → ls.contains 0 = false) → ∀ b, E'.set ls b → (E.back E' c n).set (relN l0 c ls) b) (ht : tagOk1 n s = true) {v : Value} (hv : DenV E' w' s v) : DenV (E.back E' c n) w' (relV1 l0 c s) v := by
  by_cases ha : ∃ us, s = .agg us
  · obtain ⟨us, rfl⟩ := ha
    obtain ⟨xs, h1, h2⟩ := hv
    refine ⟨xs, h1, map_ok us xs (fun u hu v hv => relV0_ok (fun ls hl hls b hb => hset ls hl (fun hf => hls ?_) b hb) (List.all_eq_true.1 ht u hu) hv) h2⟩
    have := List.any_eq_false.1 hf _ hu
    simpa using this
  · have e1 : relV1 l0 c s = relV0 l0 c s := by cases s <;> first | rfl | exact absurd ⟨_, rfl⟩ ha
    have e2 : tagOk1 n s = tagOk n s := by cases s <;> first | rfl | exact absurd ⟨_, rfl⟩ ha
    have e3 : oldU1 s = old0V s := by cases s <;> first | rfl | exact absurd ⟨_, rfl⟩ ha
    rw [e1]; rw [e2] at ht; rw [e3] at hset
    exact relV0_ok hset ht hv
theorem relV_ok {E E' : Env} {l0 : List Nat} {c n : Nat} {w' : World} {s : SV} (hset : ∀ ls, lab2 ls = true → (oldU s = false → ls.contains 0 = false) → ∀ b, E'.set ls b → (E.back E' c n).set (relN l0 c ls) b) (ht : tagOkV n s = true) {v : Value} (hv : DenV E' w' s v) : DenV (E.back E' c n) w' (relV l0 c s) v := by
  by_cases ha : ∃ us, s = .tup us
  · obtain ⟨us, rfl⟩ := ha
    obtain ⟨xs, h1, h2⟩ := hv
    refine ⟨xs, h1, map_ok us xs (fun u hu v hv => relV1_ok (fun ls hl hls b hb => hset ls hl (fun hf => hls ?_) b hb) (List.all_eq_true.1 ht u hu) hv) h2⟩
    have := List.any_eq_false.1 hf _ hu
    simpa using this
  · have e1 : relV l0 c s = relV1 l0 c s := by cases s <;> first | rfl | exact absurd ⟨_, rfl⟩ ha
    have e2 : tagOkV n s = tagOk1 n s := by cases s <;> first | rfl | exact absurd ⟨_, rfl⟩ ha
    have e3 : oldU s = oldU1 s := by cases s <;> first | rfl | exact absurd ⟨_, rfl⟩ ha
    rw [e1]; rw [e2] at ht; rw [e3] at hset
    exact relV1_ok hset ht hv
theorem flat_rel {l0 : List Nat} {c : Nat} {vs : List SV} (h : vs.all SV.flat = true) : (vs.map (relV0 l0 c)).all SV.flat = true := by
  simp only [List.all_eq_true, List.mem_map] at *
  rintro x ⟨s, hs, rfl⟩
  have := h s hs
  cases s <;> first | exact this | rfl
theorem findE_mem : ∀ {tab : List Ent} {f : FuncId} {e : Ent}, findE tab f = some e → e ∈ tab ∧ e.f = f
  | [], _, _, h => by simp [findE] at h
  | a :: r, f, e, h => by
    simp only [findE] at h
    split at h
    · rename_i hf
      simp only [Option.some.injEq] at h
      subst h
      exact ⟨List.mem_cons_self .., by simpa using hf⟩
    · obtain ⟨h1, h2⟩ := findE_mem h
      exact ⟨List.mem_cons_of_mem _ h1, h2⟩
theorem orcT_ok {tab : List Ent} (ht : ∀ e ∈ tab, EntOk P e) (kd : TypeId → Option RL) : OrcOk P ⟨kd, orcT tab⟩ := by
  intro c f st svs u hu
  have hu2 : orcT tab c f st svs = some u := hu
  clear hu
  have hu := hu2
  clear hu2
  unfold orcT at hu
  split at hu
  case h_1 => simp at hu
  rename_i e he
  have hmem := findE_mem he
  obtain ⟨hin, rfl⟩ := hmem
  obtain ⟨hB, hE⟩ := ht e hin
  refine ⟨hB, fun base X w0 E w vals hm hd hn => ?_⟩
  split at hu
  case h_2 => simp at hu
  rename_i n out mo hgo
  split at hu
  case isFalse => simp at hu
  rename_i hok
  simp only [Option.some.injEq] at hu
  subst hu
  simp only [okCall, Bool.and_eq_true] at hok
  obtain ⟨⟨⟨⟨⟨⟨hfree, hc1⟩, hml⟩, hml1⟩, htag⟩, htagB⟩, hown⟩ := hok
  simp only [Nat.blt, Nat.ble_eq] at hc1 hml hml1
  have hfr : ∀ t, c ≤ t → t < c + 8 → st.m t = .empty ∧ t < st.mm.length := by
    intro t h1 h2
    refine St.of_free (List.all_eq_true.1 hfree t ?_)
    simp only [blk8, List.mem_cons, List.not_mem_nil, or_false]
    omega
  have hS : ∀ b, SCall E st svs b → b < w.heap.size := by
    rintro b (⟨i, _, hi⟩ | ⟨t, _, hh⟩)
    · exact (hm.lab i b hi).1
    · exact hm.lt hh
  obtain ⟨_, hcall⟩ := hE _ n out mo hgo (fun p hp => hn p (List.mem_append_right _ hp))
  refine Calls.mono (hcall w (SCall E st svs) vals hS (old_ok hm hd (fun p hp => hn p (List.mem_append_left _ hp)))) ?_
  rintro e' w' ⟨v, E', rfl, hv, hm'⟩
  have hb : Below w.heap.size w w' := hm'.below.below
  have hcE : ∀ b, ¬ E.σ c b := (hm.empty c (hfr c (Nat.le_refl _) (by omega)).1).2
  have hβE : ∀ t, c ≤ t → t < c + 8 → E.β t = none := fun t h1 h2 => (hm.empty t (hfr t h1 h2).1).1
  have hle : E.Le (E.back E' c mo.length) := by
    refine ⟨fun t x hx => ?_, fun i b hs => ?_⟩
    · show (if c < t ∧ t < c + (mo.length - 1) then E'.β (t - c + 1) else E.β t) = some x
      rw [if_neg]
      · exact hx
      · rintro ⟨h1, h2⟩
        rw [hβE t (by omega) (by omega)] at hx; cases hx
    · show (if i = c then E'.σ 1 b else E.σ i b)
      by_cases ei : i = c
      · subst ei; exact absurd hs (hcE b)
      · rw [if_neg ei]; exact hs
  have hSame : Same E.lab w w' := ⟨hb.size, fun b _ hl => hb.block b hl⟩
  have hown' : svs.flatMap owns1 = [] ∨ (oldU out = false ∧ ∀ e ∈ mo, oldUB e = false) := by
    simp only [Bool.or_eq_true, Bool.not_eq_true', Bool.or_eq_false_iff] at hown
    rcases hown with h | h
    · exact .inl (by simpa using h)
    · exact .inr ⟨h.1, fun e he => by have := List.any_eq_false.1 h.2 e he; simpa using this⟩
  -- what lies behind a tag of the answer
  have hat : ∀ u, 1 < u → u < mo.length → ∀ e, mo[u]? = some e → (relB (dedupN (svs.flatMap (labs1 st))) c e).live = true → ∃ x, E'.β u = some x ∧ Holds (E.back E' c mo.length) w' x (relB (dedupN (svs.flatMap (labs1 st))) c e) := by
    intro u h1 h2 e he hl
    have hme : (St.mk [] mo).m u = e := by simp [St.m, List.getD, he]
    have hte : tagOkB mo.length e = true := List.all_eq_true.1 htagB e (List.mem_of_getElem? he)
    have hoe : svs.flatMap owns1 = [] ∨ oldUB e = false := hown'.imp id (fun h => h.2 e (List.mem_of_getElem? he))
    cases e with
    | empty => cases hl
    | dead => cases hl
    | cells T vs =>
      obtain ⟨b, xs, c1, c2, c3, c4⟩ := hm'.cells u T vs hme
      refine ⟨_, c1, b, xs, rfl, c2, map_ok vs xs (fun s hs v hv => relV0_ok (fun ls hl hls b hb => relN_ok hm' hcE (hoe.imp id (fun h => hls ?_)) hl hb) (List.all_eq_true.1 hte s hs) hv) c3, flat_rel c4⟩
      have := List.any_eq_false.1 h _ hs
      simpa using this
    | row T ls r =>
      obtain ⟨x, c1, c2⟩ := hm'.row u T ls r hme
      exact ⟨x, c1, c2.mono (Nat.le_refl _) (fun b hb => relN_ok hm' hcE hoe hte hb)⟩
  have hputM : (St.mk st.tm (putM (updsB (dedupN (svs.flatMap (labs1 st))) c mo) st.mm)).m = fun t => if t = c then .dead else if c < t ∧ t < c + 8 then relB (dedupN (svs.flatMap (labs1 st))) c (mo.getD (t - c + 1) .dead) else st.m t := by
    funext t
    simp only [updsB, putM, St.m, List.getD, List.getElem?_set, List.length_set]
    have hl := fun k (hk : k < 8) => (hfr (c + k) (by omega) (by omega)).2
    by_cases ht : t = c
    · subst ht
      have := hl 0 (by omega)
      rw [Nat.add_zero] at this
      simp [this]
    · by_cases h2 : c < t ∧ t < c + 8
      · rw [if_neg ht, if_pos h2]
        have h3 : t = c + 1 ∨ t = c + 2 ∨ t = c + 3 ∨ t = c + 4 ∨ t = c + 5 ∨ t = c + 6 ∨ t = c + 7 := by omega
        rcases h3 with rfl | rfl | rfl | rfl | rfl | rfl | rfl
        all_goals
          simp only [show ∀ k, c + k - c + 1 = k + 1 from fun k => by omega]
          simp [hl 1, hl 2, hl 3, hl 4, hl 5, hl 6, hl 7]
      · rw [if_neg ht, if_neg h2]
        have h4 : ∀ k, k < 8 → ¬ c + k = t := fun k hk e => by omega
        have h40 := h4 0 (by omega)
        rw [Nat.add_zero] at h40
        simp [h40, h4 1, h4 2, h4 3, h4 4, h4 5, h4 6, h4 7]
  refine ⟨v, E.back E' c mo.length, rfl, hle, hSame, relV_ok (fun ls hl hls b hb => relN_ok hm' hcE (hown'.imp id (fun h => hls h.1)) hl hb) htag hv, ?_⟩
  rw [hputM]
  have hlive : ∀ t, (c ≤ t ∧ t < c + 8) → (if t = c then BE.dead else if c < t ∧ t < c + 8 then relB (dedupN (svs.flatMap (labs1 st))) c (mo.getD (t - c + 1) .dead) else st.m t).live = true → c < t ∧ t < c + (mo.length - 1) ∧ ∃ e, mo[t - c + 1]? = some e ∧ (if t = c then BE.dead else if c < t ∧ t < c + 8 then relB (dedupN (svs.flatMap (labs1 st))) c (mo.getD (t - c + 1) .dead) else st.m t) = relB (dedupN (svs.flatMap (labs1 st))) c e := by
    intro t ht hl
    by_cases e1 : t = c
    · rw [if_pos e1] at hl; cases hl
    · have h2 : c < t ∧ t < c + 8 := by omega
      rw [if_neg e1, if_pos h2] at hl ⊢
      cases he : mo[t - c + 1]? with
      | none => simp [List.getD, he, relB, BE.live] at hl
      | some e =>
        have hlt := (List.getElem?_eq_some_iff.1 he).1
        exact ⟨h2.1, by omega, e, rfl, by simp [List.getD, he]⟩
  have hβb : ∀ t, c < t → t < c + (mo.length - 1) → (E.back E' c mo.length).β t = E'.β (t - c + 1) := fun t h1 h2 => by
    show (if c < t ∧ t < c + (mo.length - 1) then E'.β (t - c + 1) else E.β t) = _
    rw [if_pos ⟨h1, h2⟩]
  have hβo : ∀ t, ¬ (c ≤ t ∧ t < c + 8) → (E.back E' c mo.length).β t = E.β t := fun t h => by
    show (if c < t ∧ t < c + (mo.length - 1) then E'.β (t - c + 1) else E.β t) = _
    rw [if_neg (by omega)]
  have hmo : ∀ t, ¬ (c ≤ t ∧ t < c + 8) → (if t = c then BE.dead else if c < t ∧ t < c + 8 then relB (dedupN (svs.flatMap (labs1 st))) c (mo.getD (t - c + 1) .dead) else st.m t) = st.m t := fun t h => by
    rw [if_neg (by omega), if_neg (by omega)]
  -- a block of the answer
  have hnew : ∀ t b, (c ≤ t ∧ t < c + 8) → Has (E.back E' c mo.length) (fun t => if t = c then BE.dead else if c < t ∧ t < c + 8 then relB (dedupN (svs.flatMap (labs1 st))) c (mo.getD (t - c + 1) .dead) else st.m t) t b → Has E' (St.mk [] mo).m (t - c + 1) b := by
    intro t b ht ⟨hl, x, hx, hxb⟩
    obtain ⟨h1, h2, e, he, hre⟩ := hlive t ht hl
    rw [hβb t h1 h2] at hx
    refine ⟨?_, x, hx, hxb⟩
    have hl : (if t = c then BE.dead else if c < t ∧ t < c + 8 then relB (dedupN (svs.flatMap (labs1 st))) c (mo.getD (t - c + 1) .dead) else st.m t).live = true := hl
    rw [hre] at hl
    rw [show (St.mk [] mo).m (t - c + 1) = e by simp [St.m, List.getD, he]]
    cases e <;> first | rfl | cases hl
  have hold' : ∀ t b, ¬ (c ≤ t ∧ t < c + 8) → Has (E.back E' c mo.length) (fun t => if t = c then BE.dead else if c < t ∧ t < c + 8 then relB (dedupN (svs.flatMap (labs1 st))) c (mo.getD (t - c + 1) .dead) else st.m t) t b → Has E st.m t b := by
    intro t b ht ⟨hl, x, hx, hxb⟩
    have hl : (if t = c then BE.dead else if c < t ∧ t < c + 8 then relB (dedupN (svs.flatMap (labs1 st))) c (mo.getD (t - c + 1) .dead) else st.m t).live = true := hl
    rw [hmo t ht] at hl
    rw [hβo t ht] at hx
    exact ⟨hl, x, hx, hxb⟩
  have hσb : ∀ i b, (E.back E' c mo.length).σ i b → (i = c ∧ E'.σ 1 b) ∨ E.σ i b := by
    intro i b hs
    have hs : (if i = c then E'.σ 1 b else E.σ i b) := hs
    by_cases e : i = c
    · rw [if_pos e] at hs; exact .inl ⟨e, hs⟩
    · rw [if_neg e] at hs; exact .inr hs
  refine hm.go hle hSame (fun t => c ≤ t ∧ t < c + 8) (fun t ht => ⟨hmo t ht, hβo t ht⟩) (fun t ht hmt b hs => ?_) (fun t b _ hh => hb.block b (hm.lt hh)) (fun t ht => ⟨?_, fun hl => ?_⟩) (fun i b hs => ?_) (fun t b hh => ?_) (fun b hs => ?_) (fun t u b h1 h2 => ?_)
    ⟨hb.os, hb.tape, hb.output, hb.size, fun b hlt _ => hb.block b (Nat.lt_of_lt_of_le hlt hm.base)⟩
  · rcases hσb t b hs with ⟨e, _⟩ | hs
    · omega
    · exact (hm.empty t hmt).2 b hs
  · show (if t = c then BE.dead else if c < t ∧ t < c + 8 then relB (dedupN (svs.flatMap (labs1 st))) c (mo.getD (t - c + 1) .dead) else st.m t) ≠ .empty
    by_cases e1 : t = c
    · rw [if_pos e1]; simp
    · rw [if_neg e1, if_pos ⟨by omega, ht.2⟩]
      cases mo.getD (t - c + 1) .dead <;> simp [relB]
  · obtain ⟨h1, h2, e, he, hre⟩ := hlive t ht hl
    have hl : (if t = c then BE.dead else if c < t ∧ t < c + 8 then relB (dedupN (svs.flatMap (labs1 st))) c (mo.getD (t - c + 1) .dead) else st.m t).live = true := hl
    rw [hre] at hl
    obtain ⟨x, hx1, hx2⟩ := hat (t - c + 1) (by omega) (by omega) e he hl
    refine ⟨x, by rw [hβb t h1 h2]; exact hx1, ?_⟩
    show Holds _ _ _ (if t = c then BE.dead else if c < t ∧ t < c + 8 then relB (dedupN (svs.flatMap (labs1 st))) c (mo.getD (t - c + 1) .dead) else st.m t)
    rw [hre]; exact hx2
  · rcases hσb i b hs with ⟨e, h1⟩ | hs
    · exact ⟨(hm'.lab 1 b h1).1, fun _ => Nat.le_trans hm.base ((hm'.lab 1 b h1).2 (by decide))⟩
    · exact ⟨Nat.lt_of_lt_of_le (hm.lab i b hs).1 hb.size, (hm.lab i b hs).2⟩
  · by_cases ht : c ≤ t ∧ t < c + 8
    · have h1 := hnew t b ht hh
      obtain ⟨h2, h3⟩ := hm'.sep _ b h1
      have h4 : w.heap.size ≤ b := h3.resolve_right (fun h => h)
      refine ⟨fun ⟨i, hs⟩ => ?_, .inl (Nat.le_trans hm.base h4)⟩
      rcases hσb i b hs with ⟨_, h5⟩ | h5
      · exact h2 ⟨1, h5⟩
      · have := (hm.lab i b h5).1; omega
    · have h1 := hold' t b ht hh
      have hlt := hm.lt h1
      obtain ⟨h2, h3⟩ := hm.sep t b h1
      refine ⟨fun ⟨i, hs⟩ => ?_, h3⟩
      rcases hσb i b hs with ⟨_, h5⟩ | h5
      · have := (hm'.lab 1 b h5).2 (by decide); omega
      · exact h2 ⟨i, h5⟩
  · rcases hσb 0 b hs with ⟨e, _⟩ | h5
    · omega
    · exact hm.old b h5
  · by_cases ht : c ≤ t ∧ t < c + 8
    · by_cases hu : c ≤ u ∧ u < c + 8
      · have := hm'.inj _ _ b (hnew t b ht h1) (hnew u b hu h2)
        omega
      · have h3 := (hm'.sep _ b (hnew t b ht h1)).2.resolve_right (fun h => h)
        have := hm.lt (hold' u b hu h2); omega
    · by_cases hu : c ≤ u ∧ u < c + 8
      · have h3 := (hm'.sep _ b (hnew u b hu h2)).2.resolve_right (fun h => h)
        have := hm.lt (hold' t b ht h1); omega
      · exact hm.inj t u b (hold' t b ht h1) (hold' u b hu h2)
theorem orcT_loc (tab : List Ent) (kd : TypeId → Option RL) : OrcLoc ⟨kd, orcT tab⟩ := by
  intro c f a b svs hl h
  have h8 : (blk8 c).all a.free = (blk8 c).all b.free := by
    have : ∀ t, t ∈ blk8 c → a.free t = b.free t := fun t ht => by simp only [St.free, h t (.inl ht), hl.mm]
    rw [Bool.eq_iff_iff, List.all_eq_true, List.all_eq_true]
    exact ⟨fun h2 t ht => by rw [← this t ht]; exact h2 t ht, fun h2 t ht => by rw [this t ht]; exact h2 t ht⟩
  have hm : ∀ s, s ∈ svs → ∀ t, t ∈ svTags s → a.m t = b.m t := fun s hs t ht => h t (.inr (List.mem_append_left _ (List.mem_flatMap.2 ⟨s, hs, ht⟩)))
  have h0 : ∀ s, (∀ t, t ∈ leafTags s → a.m t = b.m t) → old0 a s = old0 b s ∧ labsM a s = labsM b s := by
    intro s hs
    cases s <;> try exact ⟨rfl, rfl⟩
    rename_i t
    have e := hs t (by simp [leafTags])
    exact ⟨by simp only [old0, e], by simp only [labsM, e]⟩
  have h0s : ∀ (us : List SV), (∀ u, u ∈ us → ∀ t, t ∈ leafTags u → a.m t = b.m t) → oldLs (old0 a) us = oldLs (old0 b) us ∧ us.flatMap (fun s => labs0 s ++ labsM a s) = us.flatMap (fun s => labs0 s ++ labsM b s) := by
    intro us
    induction us with
    | nil => intro _; exact ⟨rfl, rfl⟩
    | cons u us ih =>
      intro hu
      obtain ⟨h1, h2⟩ := ih (fun x hx => hu x (List.mem_cons_of_mem _ hx))
      obtain ⟨h3, h4⟩ := h0 u (hu u (List.mem_cons_self ..))
      exact ⟨by rw [oldLs, oldLs, h1, h3], by rw [List.flatMap_cons, List.flatMap_cons, h2, h4]⟩
  have h1 : ∀ s, s ∈ svs → old1 a s = old1 b s ∧ labs1 a s = labs1 b s := by
    intro s hs
    have ht := hm s hs
    by_cases ha : ∃ us, s = .agg us
    · obtain ⟨us, rfl⟩ := ha
      obtain ⟨e1, e2⟩ := h0s us (fun u hu t h2 => ht t (List.mem_flatMap.2 ⟨u, hu, h2⟩))
      exact ⟨by simp only [old1, e1], e2⟩
    · by_cases hg : ∃ g u, s = .gd g u
      · obtain ⟨g, u, rfl⟩ := hg
        exact ⟨rfl, rfl⟩
      · have k1 : svTags s = leafTags s := by cases s <;> first | rfl | exact absurd ⟨_, rfl⟩ ha | exact absurd ⟨_, _, rfl⟩ hg
        have k2 : ∀ st, old1 st s = old0 st s := fun st => by cases s <;> first | rfl | exact absurd ⟨_, rfl⟩ ha
        have k3 : ∀ st, labs1 st s = labs0 s ++ labsM st s := fun st => by cases s <;> first | rfl | exact absurd ⟨_, rfl⟩ ha
        rw [k1] at ht
        obtain ⟨e1, e2⟩ := h0 _ ht
        exact ⟨by rw [k2, k2, e1], by rw [k3, k3, e2]⟩
  have hs2 : ∀ (us : List SV), (∀ u, u ∈ us → old1 a u = old1 b u ∧ labs1 a u = labs1 b u) → oldLs (old1 a) us = oldLs (old1 b) us ∧ us.flatMap (labs1 a) = us.flatMap (labs1 b) := by
    intro us
    induction us with
    | nil => intro _; exact ⟨rfl, rfl⟩
    | cons u us ih =>
      intro hu
      obtain ⟨h1, h2⟩ := ih (fun x hx => hu x (List.mem_cons_of_mem _ hx))
      obtain ⟨h3, h4⟩ := hu u (List.mem_cons_self ..)
      exact ⟨by rw [oldLs, oldLs, h1, h3], by rw [List.flatMap_cons, List.flatMap_cons, h2, h4]⟩
  obtain ⟨e1, e2⟩ := hs2 svs h1
  show orcT tab c f a svs = orcT tab c f b svs
  have h9 : ∀ out mo, okCall a c svs out mo = okCall b c svs out mo := fun out mo => by unfold okCall; rw [h8]
  unfold orcT
  cases findE tab f with
  | none => rfl
  | some e =>
    simp only [e1, e2, h9]
end
/-- a piece of code by its place -/
def codeAt : Code → List Nat → Code
  | c, [] => c
  | .seq a _, 0 :: r => codeAt a r
  | .seq _ b, _ :: r => codeAt b r
  | .cond _ a _, 0 :: r => codeAt a r
  | .cond _ _ b, _ :: r => codeAt b r
  | .block _ b, _ :: r => codeAt b r
  | .loop b, _ :: r => codeAt b r
  | c, _ => c
def bodyOf (fn : Func) : Code := fn.body.getD .skip
/-- the slots that code writes -/
def wrC : Code → List Nat
  | .region _ ops _ => ops.toList.filterMap (·.dst)
  | .seq a b => wrC a ++ wrC b
  | .cond _ a b => wrC a ++ wrC b
  | .block _ b => wrC b
  | .loop b => wrC b
  | _ => []
def can0 : SV → SV
  | .sl ls r => .sl (dedupN (ls.map fun i => if i == 0 then 0 else 1)) r
  | .el ls r i off => .any
  | .oel .. => .any
  | .gd .. => .any
  | s => s
def can1 : SV → SV
  | .agg vs => .agg (vs.map can0)
  | s => can0 s
def canV : SV → SV
  | .tup _ => .any
  | s => can1 s
def canB : BE → BE
  | .cells T vs => .cells T (vs.map can0)
  | .row T ls r => .row T (dedupN (ls.map fun i => if i == 0 then 0 else 1)) r
  | _ => .dead
def lookN {α : Type} : List (Nat × α) → Nat → Option α
  | [], _ => none
  | (k, v) :: r, t => if k == t then some v else lookN r t
def headTm (wr : List Nat) (ov : List (Nat × SV)) : Nat → List SV → List SV
  | _, [] => []
  | i, s :: r => (match lookN ov i with | some v => v | none => if wr.contains i then .any else canV s) :: headTm wr ov (i + 1) r
def headMm (om : List (Nat × BE)) : Nat → List BE → List BE
  | _, [] => []
  | i, e :: r => (match lookN om i with | some v => v | none => canB e) :: headMm om (i + 1) r
/-- the state at a loop's head: what the body writes is open, but for ov and om -/
def headSt (body : Code) (st : St) (ov : List (Nat × SV)) (om : List (Nat × BE)) : St := ⟨headTm (wrC body) ov 0 st.tm, headMm om 0 st.mm⟩
theorem LoopG.head {P : Program} {C : Cfg} {more : Nat → St → TypeId → Op → Option Upd} (hF : World.Fits P C more) {fn : Func} {out : SV} {mo : List BE} {B : Nat → St → Prop} {body : Code} {k : List KI} {st : St} (j : Nat) (hj : noMark j k = true)
    {A : Type} (I : A → Prop) (ov : A → List (Nat × SV)) (om : A → List (Nat × BE)) (μ : A → Nat) (x0 : A) (hI : I x0) {p0 : Prop} (e0 : leP st (headSt body st (ov x0) (om x0)) = p0) (h0 : p0) (n : Nat) {p : A → Prop}
    (he : ∀ x, vc P fn out mo (fun i s => if i = j then Back I (fun x => headSt body st (ov x) (om x)) μ x s else B i s) (exec P C more n body (.mark j :: k) (headSt body st (ov x) (om x)) ⟨[], []⟩) = p x) (round : ∀ x, I x → p x) : LoopG P fn out mo B body k st :=
  LoopG.mk hF j hj I (fun x => headSt body st (ov x) (om x)) μ x0 hI (by rw [e0]; exact h0) n (fun x hx => by rw [he]; exact round x hx)
theorem Back.mk {A : Type} {I : A → Prop} {H : A → St} {μ : A → Nat} {x : A} {st : St} (y : A) (hI : I y) (hμ : μ y < μ x) {p0 : Prop} (e0 : leP st (H y) = p0) (h0 : p0) : Back I H μ x st := ⟨y, hI, hμ, by rw [e0]; exact h0⟩
def E1 (S : Nat → Prop) (lo hi : Nat) : Env := ⟨fun _ => none, fun i b => (i = 0 ∧ S b) ∨ (i = 1 ∧ lo ≤ b ∧ b < hi)⟩
/-- a contract that tells of new memory by 'Below' -/
theorem FnC.of_below {P : Program} {f : FuncId} {ins : List SV} {out : SV} (hB : FnB P f) (h : ∀ (w : World) (S : Nat → Prop) (vals : List Value), DenL (E0 S) w ins vals → Calls P f vals.toArray w (fun e w' => ∃ v, e = .returned v ∧ Below w.heap.size w w' ∧ DenV (E1 S w.heap.size w'.heap.size) w' out v)) : FnC P f ins out [.dead, .dead] := by
  refine ⟨hB, fun w S vals hS hd => Calls.mono (h w S vals hd) ?_⟩
  rintro e w' ⟨v, rfl, hb, hv⟩
  refine ⟨v, _, rfl, hv, ?_⟩
  have hm : ∀ t, (St.mk [] [.dead, .dead]).m t = if t < 2 then .dead else .empty := by
    intro t
    match t with
    | 0 => rfl
    | 1 => rfl
    | t + 2 => simp [St.m, List.getD]
  have hl : ∀ t, ((St.mk [] [.dead, .dead]).m t).live = false := by intro t; rw [hm]; split <;> rfl
  refine ⟨fun t ht => ⟨rfl, fun b hb => ?_⟩, fun t T vs ht => ?_, fun t T ls r ht => ?_, fun i b hb' => ?_, fun t b hb => ?_, fun b hb' => ?_, fun t u b h1 _ => ?_, ⟨hb.os, hb.tape, hb.output, hb.size, fun b h1 _ => hb.block b h1⟩, hb.size⟩
  · rw [hm] at ht
    rcases hb with ⟨rfl, _⟩ | ⟨rfl, _⟩ <;> simp at ht
  · have := hl t; rw [ht] at this; cases this
  · have := hl t; rw [ht] at this; cases this
  · rcases hb' with ⟨rfl, h2⟩ | ⟨rfl, h2, h3⟩
    · exact ⟨Nat.lt_of_lt_of_le (hS b h2) hb.size, fun h => absurd rfl h⟩
    · exact ⟨h3, fun _ => h2⟩
  · have := hl t; rw [hb.1] at this; cases this
  · rcases hb' with ⟨_, h2⟩ | ⟨h2, _⟩
    · exact h2
    · cases h2
  · have := hl t; rw [h1.1] at this; cases this
/-- what a callee's arguments read as -/
theorem E0_set {S : Nat → Prop} {ls : List Nat} {b : Nat} (h : (E0 S).set ls b) : S b := by
  obtain ⟨i, _, _, h⟩ := h; exact h
theorem rd_ints {S : Nat → Prop} {w : World} {s : SV} {l : List Int} {m : List Nat} (h : s.asInts = some (l, m)) {v : Value} (hd : DenV (E0 S) w s v) : ∃ a c, v = .slice a l.length c ∧ SlI w S a l.length c l := by
  have h2 := SV.asInts_ok h (fun i hi => hi) hd
  obtain ⟨a, c, e, hs⟩ := Rd.sl' h2
  have e2 : (RL.rInts l).rows.length = l.length := RL.rows_len _
  rw [e2] at e hs
  exact ⟨a, c, e, Rd.mono hs (fun b _ hb => E0_set hb)⟩
theorem no_more (P0 : Program) : MoreOk P0 (fun _ _ _ _ => none) ∧ MoreLoc (fun _ _ _ _ => none) := ⟨fun _ _ _ _ _ _ _ h => by simp at h, fun _ _ _ _ _ _ => rfl⟩
section ops
variable {P : Program} {base : Nat} {X : Cx} {w0 : World} {st : St}
/-- one row of a row written -/
theorem OwnR.put {w : World} {T : TypeId} {S S2 : Nat → Prop} {fs : List Ty} {g n c : Nat} {rows : List (List D)} (h : OwnR 0 w T S fs (.slice (some ⟨g, 0, none⟩) n c) rows) {i off : Nat} (hi : i < rows.length) {xs zs : List Value} {ds : List D} {cur : Array Value} (hg : w.heap[g]? = some (.cells cur T (0, 0)))
    (hx : xs = (cur.toList.drop (i * fs.length)).take fs.length) (ho : off + zs.length ≤ fs.length) (hd : RdL w (fun b => S2 b ∧ b ≠ g) fs (xs.take off ++ zs ++ xs.drop (off + zs.length)) ds) :
    OwnR 0 (w.setRow g (cur.toList.take (i * fs.length + off) ++ zs ++ cur.toList.drop (i * fs.length + off + zs.length)).toArray) T (fun b => S b ∨ S2 b) fs (.slice (some ⟨g, 0, none⟩) n c) (rows.set i ds) := by
  obtain ⟨cells, ho2, hr⟩ := h
  rcases ho2.2 with ⟨e, _⟩ | ⟨g2, cap, cur2, e, _, hg2, hnc, hcm, hcs, htake⟩
  · simp at e
  simp only [Value.slice.injEq, Option.some.injEq, Addr.mk.injEq, and_true] at e
  obtain ⟨rfl, rfl, rfl⟩ := e
  rw [hg] at hg2
  simp only [Option.some.injEq, Obj.cells.injEq, and_true, true_and] at hg2
  subst hg2
  have hkey : ∀ j, j < rows.length → j * fs.length + fs.length ≤ rows.length * fs.length := fun j hj => by
    have : (j + 1) * fs.length ≤ rows.length * fs.length := Nat.mul_le_mul_right _ hj
    rwa [Nat.add_mul, Nat.one_mul] at this
  have hcl : cells.length = rows.length * fs.length := ho2.1
  have hcurl : rows.length * fs.length ≤ cur.toList.length := by
    have h0 : cur.toList.length = cur.size := Array.length_toList
    rw [h0, hcs]; exact Nat.mul_le_mul_right _ hnc
  generalize hN : (cur.toList.take (i * fs.length + off) ++ zs ++ cur.toList.drop (i * fs.length + off + zs.length)) = N
  have hk := hkey i hi
  have hNl : N.length = cur.toList.length := by rw [← hN]; simp; simp at hcurl; omega
  -- the cells anew
  have hat : ∀ m, N[m]? = if m < i * fs.length + off then cur.toList[m]? else if m < i * fs.length + off + zs.length then zs[m - (i * fs.length + off)]? else cur.toList[m]? := by
    intro m
    have hll : (cur.toList.take (i * fs.length + off)).length = i * fs.length + off := by simp; simp at hcurl; omega
    rw [← hN, List.append_assoc]
    by_cases h1 : m < i * fs.length + off
    · rw [if_pos h1, List.getElem?_append_left (by omega), List.getElem?_take, if_pos h1]
    · rw [if_neg h1, List.getElem?_append_right (by omega), hll]
      by_cases h2 : m < i * fs.length + off + zs.length
      · rw [if_pos h2, List.getElem?_append_left (by omega)]
      · rw [if_neg h2, List.getElem?_append_right (by omega), List.getElem?_drop]
        congr 1; omega
  have hS : Same (fun b => b ≠ g) w (w.setRow g N.toArray) := ⟨by simp, fun b hb _ => setRow_other w g b _ hb⟩
  refine ⟨N.take (rows.length * fs.length), ⟨?_, .inr ⟨g, c, N.toArray, by simp, Nat.zero_le _, setRow_heap w g cur _ T _ hg, by simpa using hnc, hcm, by simp [hNl, hcs], by simp⟩⟩, fun j hj => ?_⟩
  · simp [hNl]; simp at hcurl; omega
  · rw [List.length_set] at hj
    have hkj := hkey j hj
    have e1 : ((N.take (rows.length * fs.length)).drop (j * fs.length)).take fs.length = (N.drop (j * fs.length)).take fs.length := by
      apply List.ext_getElem?
      intro m
      simp only [List.getElem?_take, List.getElem?_drop]
      by_cases hm : m < fs.length
      · rw [if_pos hm, if_pos hm, if_pos (by omega)]
      · rw [if_neg hm, if_neg hm]
    rw [e1]
    by_cases hji : j = i
    · subst hji
      have e2 : (rows.set j ds).getD j [] = ds := by simp [List.getD, hj]
      have e3 : (N.drop (j * fs.length)).take fs.length = xs.take off ++ zs ++ xs.drop (off + zs.length) := by
        apply List.ext_getElem?
        intro m
        have hxl : xs.length = fs.length := by rw [hx]; simp; simp at hcurl; omega
        rw [List.getElem?_take, List.getElem?_drop, hat, List.append_assoc]
        have hxa : ∀ m, m < fs.length → xs[m]? = cur.toList[j * fs.length + m]? := fun m hm => by rw [hx, List.getElem?_take, if_pos hm, List.getElem?_drop]
        by_cases hm : m < fs.length
        · rw [if_pos hm]
          by_cases h1 : m < off
          · rw [if_pos (by omega), List.getElem?_append_left (by simp; omega), List.getElem?_take, if_pos h1, hxa m hm]
          · rw [if_neg (by omega), List.getElem?_append_right (by simp; omega)]
            have hll : (xs.take off).length = off := by simp; omega
            rw [hll]
            by_cases h2 : m < off + zs.length
            · rw [if_pos (by omega), List.getElem?_append_left (by omega)]; congr 1; omega
            · rw [if_neg (by omega), List.getElem?_append_right (by omega), List.getElem?_drop, show off + zs.length + (m - off - zs.length) = m by omega, hxa m hm]
        · rw [if_neg hm, List.getElem?_eq_none]
          simp; omega
      rw [e2, e3]
      exact (hd.mono (fun b _ hb => (⟨.inr hb.1, fun e => hb.2 (by simpa [Value.ownBlock] using e.symm)⟩ : (S b ∨ S2 b) ∧ Value.ownBlock (.slice (some ⟨g, 0, none⟩) rows.length c) ≠ some b))).same (hS.mono fun b hb e => hb.2 (by subst e; rfl))
    · have hne : ¬ i = j := fun e => hji e.symm
      have e2 : (rows.set i ds).getD j [] = rows.getD j [] := by simp [List.getD, List.getElem?_set, hne]
      have e3 : (N.drop (j * fs.length)).take fs.length = (cells.drop (j * fs.length)).take fs.length := by
        apply List.ext_getElem?
        intro m
        simp only [List.getElem?_take, List.getElem?_drop]
        by_cases hm : m < fs.length
        · rw [if_pos hm, if_pos hm, ← htake, List.getElem?_take, if_pos (show j * fs.length + m < rows.length * fs.length by omega), hat]
          rcases Nat.lt_or_gt_of_ne hji with h1 | h1
          · have : (j + 1) * fs.length ≤ i * fs.length := Nat.mul_le_mul_right _ h1
            rw [Nat.add_mul, Nat.one_mul] at this
            rw [if_pos (by omega)]
          · have : (i + 1) * fs.length ≤ j * fs.length := Nat.mul_le_mul_right _ h1
            rw [Nat.add_mul, Nat.one_mul] at this
            rw [if_neg (by omega), if_neg (by omega)]
        · rw [if_neg hm, if_neg hm]
      rw [e2, e3]
      exact ((hr j hj).mono (fun b _ hb => (⟨.inl hb.1, hb.2⟩ : (S b ∨ S2 b) ∧ Value.ownBlock (.slice (some ⟨g, 0, none⟩) rows.length c) ≠ some b))).same (hS.mono fun b hb e => hb.2 (by subst e; rfl))
/-- store into an element of a row -/
def cPut (P : Program) (st : St) (T : TypeId) (x y : Operand) : Option Upd :=
  match strip (st.ev x), strip (st.ev y), sizeT P T with
  | (.oel t sz i off, n1), (s, n2), some k => match st.m t with
    | .row Tb ls r => if sz = r.tys.length then (if s.cells.all SV.flat then (if s.cells.length = k then (if off + k ≤ sz then (match r.put i (splice (r.elem ls i) s.cells off) with
      | some (r2, m) => some ⟨n1 ++ n2 ++ [i < r.len], .any, [(t, .row Tb (ls ++ m) r2)]⟩
      | none => none) else none) else none) else none) else none
    | _ => none
  | _, _, _ => none
theorem cPut_ok (o : Oper) (T : TypeId) (x y : Operand) (ho : o.op = .store T x y) {u : Upd} (hu : cPut P st T x y = some u) : Does P base X w0 st o u := by
  unfold cPut at hu
  split at hu
  case h_2 => simp at hu
  rename_i t sz i off n1 s n2 k e1 e2 e3
  split at hu
  case h_2 => simp at hu
  rename_i Tb ls r hm
  split at hu
  case isFalse => simp at hu
  split at hu
  case isFalse => simp at hu
  split at hu
  case isFalse => simp at hu
  split at hu
  case isFalse => simp at hu
  split at hu
  case h_2 => simp at hu
  rename_i hsz hf hk hl _ r2 m hput
  simp only [Option.some.injEq] at hu
  subst hu
  subst hsz
  intro E a w K Q h hn hK
  have h1 := strip_ok (h.ev x) (fun p hp => hn p (by rw [e1] at hp; simp [hp]))
  have h2 := strip_ok (h.ev y) (fun p hp => hn p (by rw [e2] at hp; simp [hp]))
  have hi : i < r.len := hn (i < r.len) (by simp)
  rw [e1] at h1
  rw [e2] at h2
  obtain ⟨zs, hz, hzd⟩ := cells_ok hf h2
  obtain ⟨b, q, c, hb, hx⟩ := h1
  obtain ⟨v', c1, c2⟩ := h.mem.row t _ _ _ hm
  rw [c1] at hb
  simp only [Option.some.injEq] at hb
  subst hb
  have hzl : zs.length = k := by rw [hzd.len]; exact hk
  have hrl : r.rows.length = r.len := r.rows_len
  obtain ⟨cells, hoR, hrow⟩ := c2
  rcases hoR.2 with ⟨e, _⟩ | ⟨g, cap, cur, e, _, hg, hnc, hcm, hcs, htake⟩
  · simp at e
  simp only [Value.slice.injEq, Option.some.injEq, Addr.mk.injEq, and_true] at e
  obtain ⟨rfl, rfl, rfl⟩ := e
  have hki : i * r.tys.length + r.tys.length ≤ cur.size := by
    rw [hcs]
    have h3 : (i + 1) * r.tys.length ≤ r.rows.length * r.tys.length := Nat.mul_le_mul_right _ (by omega)
    have h4 : r.rows.length * r.tys.length ≤ c * r.tys.length := Nat.mul_le_mul_right _ hnc
    rw [Nat.add_mul, Nat.one_mul] at h3
    omega
  have hrun := run_storeVar' (P := P) e3 hz hzl (xs := cur.toList) (b := b) (off := i * r.tys.length + off) (Tb := Tb) (by simpa using hg) (by have h0 : cur.toList.length = cur.size := Array.length_toList; omega) (DenL.ones hf hzd)
  have hlt : t < st.mm.length := St.m_lt st t (by rw [hm]; simp)
  have hHas : Has E st.m t b := ⟨by rw [hm]; rfl, _, c1, rfl⟩
  have hsep := (h.mem.sep t b hHas).1
  have hne : ∀ g, vblock (.slice (some ⟨b, 0, none⟩) r.rows.length c) ≠ some g → g ≠ b := by intro g hg e; exact hg (by simp [vblock, e])
  generalize hw' : w.setRow b (cur.toList.take (i * r.tys.length + off) ++ zs ++ cur.toList.drop (i * r.tys.length + off + zs.length)).toArray = w' at hrun
  have hS : Same E.lab w w' := by
    rw [← hw']
    exact ⟨by simp, fun g hg _ => setRow_other w b g _ (fun e => hsep (e ▸ hg))⟩
  -- the element's cells
  have hL : RdL w (E.set ls) r.tys ((cells.drop (i * r.tys.length)).take r.tys.length) (r.rows.getD i []) := (hrow i (by omega)).mono fun b _ hb => hb.1
  have hcx : (cells.drop (i * r.tys.length)).take r.tys.length = (cur.toList.drop (i * r.tys.length)).take r.tys.length := by
    rw [← htake]
    apply List.ext_getElem?
    intro m
    simp only [List.getElem?_take, List.getElem?_drop]
    have h3 : (i + 1) * r.tys.length ≤ r.rows.length * r.tys.length := Nat.mul_le_mul_right _ (by omega)
    rw [Nat.add_mul, Nat.one_mul] at h3
    by_cases hm2 : m < r.tys.length
    · rw [if_pos hm2, if_pos hm2, if_pos (by omega)]
    · rw [if_neg hm2, if_neg hm2]
  have hel := RL.elem_ok hi hL
  have hsp := splice_ok hel hzd off
  obtain ⟨ht2, hl2, ds, hrows, hds⟩ := RL.put_ok i hput
  have hD := hds E w _ hsp
  have hput2 := OwnR.put (S := E.set ls) (S2 := E.set m) ⟨cells, hoR, hrow⟩ (i := i) (off := off) (by omega) hg hcx (by omega) (hD.mono fun b2 _ hb2 => ⟨hb2, fun e => hsep (e ▸ Env.set_lab hb2)⟩)
  rw [hw'] at hput2
  refine wp_skipv (w' := w') ?_ (hK E _ _ (Env.Le.refl E) hS trivial ?_)
  · simp only [execOp, ho, Instr.storeAt, hx, Instr.sureAddr, Sem.run_bind, Sem.run_pure, Result.andThen, hrun]
  · rw [show putM [(t, .row Tb (ls ++ m) r2)] st.mm = st.mm.set t (.row Tb (ls ++ m) r2) from rfl, St.m_set _ _ _ _ hlt]
    refine h.mem.poke (by show (st.m t).live = true; rw [hm]; rfl) c1 _ rfl (by rw [← hw']; simp) (fun g hg' _ => by rw [← hw']; exact setRow_other w b g _ (hne g hg')) (by rw [← hw']; exact ⟨rfl, rfl, rfl⟩) ?_
    show OwnR 0 w' Tb (E.set (ls ++ m)) r2.tys _ r2.rows
    rw [ht2, hrows]
    exact hput2.mono (Nat.le_refl _) (fun b2 hb2 => hb2.elim (Env.set_mono (fun i hi => List.mem_append_left _ hi) b2) (Env.set_mono (fun i hi => List.mem_append_right _ hi) b2))
/-- min, max -/
def cMin (st : St) (x y : Operand) : Option Upd :=
  match strip (st.ev x), strip (st.ev y) with
  | (.int k a, n), (.int k' b, m) => if k = k' then some ⟨n ++ m, .int k (if b < a then b else a), []⟩ else none
  | _, _ => none
def cMax (st : St) (x y : Operand) : Option Upd :=
  match strip (st.ev x), strip (st.ev y) with
  | (.int k a, n), (.int k' b, m) => if k = k' then some ⟨n ++ m, .int k (if b > a then b else a), []⟩ else none
  | _, _ => none
theorem cMin_ok (o : Oper) (x y : Operand) (ts : Array TypeId) (ho : o.op = .call { callee := .builtin .min, args := #[x, y], argTypes := ts }) {u : Upd} (hu : cMin st x y = some u) : Does P base X w0 st o u := by
  unfold cMin at hu
  split at hu
  case h_2 => simp at hu
  rename_i k a n k' b m e1 e2
  split at hu
  case isFalse => simp at hu
  rename_i hk
  subst hk
  simp only [Option.some.injEq] at hu
  subst hu
  refine Does.pure fun E ac w h hn => ?_
  have hx := strip_ok (h.ev x) (fun p hp => hn p (by rw [e1] at hp; simp [hp]))
  have hy := strip_ok (h.ev y) (fun p hp => hn p (by rw [e2] at hp; simp [hp]))
  rw [e1] at hx
  rw [e2] at hy
  obtain ⟨hx, wx⟩ := hx
  obtain ⟨hy, wy⟩ := hy
  refine ⟨.int k (if b < a then b else a), ?_, rfl, by split <;> assumption⟩
  simp [execOp, ho, resolve, invoke, builtin, Builtin.min_, hx, hy, Builtin.min2]
theorem cMax_ok (o : Oper) (x y : Operand) (ts : Array TypeId) (ho : o.op = .call { callee := .builtin .max, args := #[x, y], argTypes := ts }) {u : Upd} (hu : cMax st x y = some u) : Does P base X w0 st o u := by
  unfold cMax at hu
  split at hu
  case h_2 => simp at hu
  rename_i k a n k' b m e1 e2
  split at hu
  case isFalse => simp at hu
  rename_i hk
  subst hk
  simp only [Option.some.injEq] at hu
  subst hu
  refine Does.pure fun E ac w h hn => ?_
  have hx := strip_ok (h.ev x) (fun p hp => hn p (by rw [e1] at hp; simp [hp]))
  have hy := strip_ok (h.ev y) (fun p hp => hn p (by rw [e2] at hp; simp [hp]))
  rw [e1] at hx
  rw [e2] at hy
  obtain ⟨hx, wx⟩ := hx
  obtain ⟨hy, wy⟩ := hy
  refine ⟨.int k (if b > a then b else a), ?_, rfl, by split <;> assumption⟩
  simp [execOp, ho, resolve, invoke, builtin, Builtin.max_, hx, hy, Builtin.max2]
end ops
end Go.Proofs.Ytejahcpnbkegfaa
