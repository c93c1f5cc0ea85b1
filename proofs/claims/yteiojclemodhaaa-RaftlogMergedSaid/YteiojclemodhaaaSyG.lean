/- The symbolic walk through a region that draws its order: what does not hang together may come in any order. No condition. -/
import Derived.Test.YteiojclemodhaaaSyF
namespace Go.Proofs.Yteiojclemodhaaa
open Go.RowKit Go.ChangeShapes Go.WideShapes Go.Deep
set_option linter.unusedVariables false
set_option linter.unusedSimpArgs false
inductive Key
  | t (n : Nat)
  | m (n : Nat)
  deriving DecidableEq
inductive KV
  | v (s : SV)
  | e (b : BE)
def St.get (st : St) : Key → KV
  | .t n => .v (st.s n)
  | .m n => .e (st.m n)
/-- what an operation writes -/
def wrs (dst : Option Tmp) (u : Upd) : List Key := (match dst with | some d => [Key.t d] | none => []) ++ u.mem.map (fun p => Key.m p.1)
def Key.has : List Key → Key → Bool
  | [], _ => false
  | .t a :: r, .t b => b == a || Key.has r (.t b)
  | .m a :: r, .m b => b == a || Key.has r (.m b)
  | _ :: r, k => Key.has r k
theorem Key.has_iff : ∀ (l : List Key) (k : Key), Key.has l k = true ↔ k ∈ l
  | [], k => by simp [Key.has]
  | a :: r, k => by
    cases a <;> cases k <;> simp [Key.has, Key.has_iff r]
def Key.apart (a b : List Key) : Bool := a.all fun k => !Key.has b k
theorem Key.apart_ok {a b : List Key} (h : Key.apart a b = true) {k : Key} (ha : k ∈ a) : k ∉ b := by
  intro hb
  have := List.all_eq_true.1 h k ha
  rw [(Key.has_iff b k).2 hb] at this
  simp at this
theorem putF_ne : ∀ (l : List (Nat × BE)) (m : Nat → BE) (t : Nat), t ∉ l.map (·.1) → putF l m t = m t
  | [], _, _, _ => rfl
  | (k, e) :: r, m, t, h => by
    simp only [List.map_cons, List.mem_cons, not_or] at h
    show (if t = k then e else putF r m t) = m t
    rw [if_neg h.1, putF_ne r m t h.2]
theorem putF_in : ∀ (l : List (Nat × BE)) (m m2 : Nat → BE) (t : Nat), t ∈ l.map (·.1) → putF l m t = putF l m2 t
  | [], _, _, _, h => by simp at h
  | (k, e) :: r, m, m2, t, h => by
    show (if t = k then e else putF r m t) = (if t = k then e else putF r m2 t)
    by_cases hk : t = k
    · rw [if_pos hk, if_pos hk]
    · rw [if_neg hk, if_neg hk]
      simp only [List.map_cons, List.mem_cons] at h
      exact putF_in r m m2 t (h.resolve_left hk)
theorem St.app_ne {st : St} {dst : Option Tmp} {u : Upd} {k : Key} (h : k ∉ wrs dst u) : (st.app dst u).get k = st.get k := by
  simp only [wrs, List.mem_append, not_or] at h
  cases k with
  | t n =>
    cases dst with
    | none => rfl
    | some d =>
      have hne : ¬ n = d := by intro e; exact h.1 (by simp [e])
      show KV.v ((st.app (some d) u).s n) = _
      rw [St.app_s, if_neg hne]; rfl
  | m n =>
    show KV.e ((st.app dst u).m n) = _
    rw [St.app_m, putF_ne _ _ _ (fun hm => h.2 ?_)]; rfl
    obtain ⟨p, hp, e⟩ := List.mem_map.1 hm
    exact List.mem_map.2 ⟨p, hp, by rw [e]⟩
structure Like (a b : St) : Prop where
  tm : a.nt = b.nt
  mm : a.nx = b.nx
theorem St.app_in {a b : St} (hl : Like a b) {dst : Option Tmp} {u : Upd} {k : Key} (h : k ∈ wrs dst u) : (a.app dst u).get k = (b.app dst u).get k := by
  simp only [wrs, List.mem_append] at h
  cases k with
  | t n =>
    rcases h with h | h
    · cases dst with
      | none => simp at h
      | some d =>
        simp at h
        subst h
        show KV.v ((a.app (some n) u).s n) = KV.v ((b.app (some n) u).s n)
        rw [St.app_s, St.app_s, hl.tm]; simp
    · simp at h
  | m n =>
    rcases h with h | h
    · cases dst <;> simp at h
    · obtain ⟨p, hp, e⟩ := List.mem_map.1 h
      simp only [Key.m.injEq] at e
      show KV.e ((a.app dst u).m n) = KV.e ((b.app dst u).m n)
      rw [St.app_m, St.app_m, putF_in _ a.m b.m n (List.mem_map.2 ⟨p, hp, e⟩)]
theorem St.app_like (st : St) (dst : Option Tmp) (u : Upd) : Like (st.app dst u) st := ⟨rfl, rfl⟩
theorem Like.trans {a b c : St} (h : Like a b) (k : Like b c) : Like a c := ⟨h.tm.trans k.tm, h.mm.trans k.mm⟩
theorem Like.symm {a b : St} (h : Like a b) : Like b a := ⟨h.tm.symm, h.mm.symm⟩
/-- the operations of D have been done -/
def apl (D : Nat → Bool) : Nat → List (Option Tmp × Upd) → St → St
  | _, [], st => st
  | i, (dst, u) :: r, st => apl D (i + 1) r (if D i then st.app dst u else st)
theorem apl_like (D : Nat → Bool) : ∀ (i : Nat) (l : List (Option Tmp × Upd)) (st : St), Like (apl D i l st) st
  | _, [], st => ⟨rfl, rfl⟩
  | i, (dst, u) :: r, st => by
    rw [apl]
    refine (apl_like D (i + 1) r _).trans ?_
    split
    · exact St.app_like st dst u
    · exact ⟨rfl, rfl⟩
/-- the writers of k among the operations -/
def Wr (l : List (Option Tmp × Upd)) (i : Nat) (k : Key) : Prop := ∃ d u, l[i]? = some (d, u) ∧ k ∈ wrs d u
theorem apl_get {D D' : Nat → Bool} {k : Key} : ∀ (i : Nat) (l : List (Option Tmp × Upd)) (st st' : St), Like st st' → st.get k = st'.get k → (∀ j, Wr l j k → D (i + j) = D' (i + j)) → (apl D i l st).get k = (apl D' i l st').get k
  | _, [], st, st', _, h, _ => h
  | i, (dst, u) :: r, st, st', hl, h, hD => by
    rw [apl, apl]
    refine apl_get (i + 1) r _ _ ?_ ?_ (fun j hj => ?_)
    · by_cases h1 : D i = true
      · by_cases h2 : D' i = true
        · rw [if_pos h1, if_pos h2]; exact ((St.app_like st dst u).trans hl).trans (St.app_like st' dst u).symm
        · rw [if_pos h1, if_neg h2]; exact (St.app_like st dst u).trans hl
      · by_cases h2 : D' i = true
        · rw [if_neg h1, if_pos h2]; exact hl.trans (St.app_like st' dst u).symm
        · rw [if_neg h1, if_neg h2]; exact hl
    · by_cases hk : k ∈ wrs dst u
      · have := hD 0 ⟨dst, u, rfl, hk⟩
        rw [Nat.add_zero] at this
        rw [this]
        by_cases h1 : D' i = true
        · rw [if_pos h1, if_pos h1]; exact St.app_in hl hk
        · rw [if_neg h1, if_neg h1]; exact h
      · have e1 : (if D i = true then st.app dst u else st).get k = st.get k := by split; exact St.app_ne hk; rfl
        have e2 : (if D' i = true then st'.app dst u else st').get k = st'.get k := by split; exact St.app_ne hk; rfl
        rw [e1, e2, h]
    · obtain ⟨d, v, h1, h2⟩ := hj
      have := hD (j + 1) ⟨d, v, by simpa using h1, h2⟩
      rwa [show i + (j + 1) = i + 1 + j by omega] at this
theorem apl_last {D : Nat → Bool} {k : Key} : ∀ (i : Nat) (l : List (Option Tmp × Upd)) (st s2 : St) (j : Nat) (d : Option Tmp) (u : Upd), l[j]? = some (d, u) → k ∈ wrs d u → D (i + j) = true → (∀ n, j < n → Wr l n k → D (i + n) = false) → Like st s2 →
    (apl D i l st).get k = (s2.app d u).get k
  | _, [], _, _, j, _, _, h, _, _, _, _ => by simp at h
  | i, (dst, v) :: r, st, s2, 0, d, u, h, hk, hD, hn, hl => by
    simp only [List.getElem?_cons_zero, Option.some.injEq, Prod.mk.injEq] at h
    obtain ⟨rfl, rfl⟩ := h
    rw [Nat.add_zero] at hD
    rw [apl, if_pos hD]
    have : (apl D (i + 1) r (st.app dst v)).get k = (apl (fun _ => false) (i + 1) r (st.app dst v)).get k := by
      refine apl_get _ _ _ _ ⟨rfl, rfl⟩ rfl (fun n hw => ?_)
      obtain ⟨d, u, h1, h2⟩ := hw
      have := hn (n + 1) (by omega) ⟨d, u, by simpa using h1, h2⟩
      rwa [show i + (n + 1) = i + 1 + n by omega] at this
    rw [this]
    have e : ∀ (l : List (Option Tmp × Upd)) (i : Nat) (s : St), apl (fun _ => false) i l s = s := by
      intro l
      induction l with
      | nil => intro i s; rfl
      | cons x l ih => intro i s; obtain ⟨a, b⟩ := x; rw [apl]; exact ih (i + 1) s
    rw [e]
    exact St.app_in hl hk
  | i, (dst, v) :: r, st, s2, j + 1, d, u, h, hk, hD, hn, hl => by
    rw [apl]
    refine apl_last (i + 1) r _ s2 j d u (by simpa using h) hk (by rw [show i + 1 + j = i + (j + 1) by omega]; exact hD) (fun n hjn hw => ?_) ?_
    · obtain ⟨d2, u2, h1, h2⟩ := hw
      have := hn (n + 1) (by omega) ⟨d2, u2, by simpa using h1, h2⟩
      rwa [show i + (n + 1) = i + 1 + n by omega] at this
    · split
      · exact (St.app_like st dst v).trans hl
      · exact hl
theorem apl_all : ∀ (i : Nat) (l : List (Option Tmp × Upd)) (st : St) (D : Nat → Bool), (∀ j, j < l.length → D (i + j) = true) → apl D i l st = apl (fun _ => true) i l st
  | _, [], _, _, _ => rfl
  | i, (d, u) :: r, st, D, h => by
    have h0 := h 0 (by simp)
    rw [Nat.add_zero] at h0
    rw [apl, apl, if_pos h0, if_pos rfl]
    exact apl_all (i + 1) r _ D (fun j hj => by have := h (j + 1) (by simpa using hj); rwa [show i + (j + 1) = i + 1 + j by omega] at this)
theorem apl_none : ∀ (i : Nat) (l : List (Option Tmp × Upd)) (st : St) (D : Nat → Bool), (∀ j, j < l.length → D (i + j) = false) → apl D i l st = st
  | _, [], _, _, _ => rfl
  | i, (d, u) :: r, st, D, h => by
    have h0 := h 0 (by simp)
    rw [Nat.add_zero] at h0
    rw [apl, if_neg (by rw [h0]; simp)]
    exact apl_none (i + 1) r _ D (fun j hj => by have := h (j + 1) (by simpa using hj); rwa [show i + (j + 1) = i + 1 + j by omega] at this)
section
variable {base : Nat} {X : Cx} {w0 : World}
theorem St.Ok.congr {a b : St} (hl : Like a b) (h : ∀ k, a.get k = b.get k) {E : Env} {ac : Act} {w : World} (ho : a.Ok base X w0 E ac w) : b.Ok base X w0 E ac w := by
  have hm : a.m = b.m := by funext t; have := h (.m t); simpa [St.get] using this
  refine ⟨ho.defers, by rw [← hl.tm]; exact ho.size, fun i => ?_, by rw [← hm]; exact ho.mem⟩
  have := h (.t i)
  simp only [St.get, KV.v.injEq] at this
  rw [← this]; exact ho.tm i
end
/-- what comes ahead of an operation, as bits -/
def ancs : List Oper → List Nat → List Nat
  | [], acc => acc
  | o :: r, acc => ancs r (acc ++ [o.after.toList.foldl (fun s e => if Region.binds .any e then s ||| 2 ^ e.on ||| acc.getD e.on 0 else s) 0])
/-- a set of operations that holds whatever comes ahead of what it holds -/
def Closed (ops : List Oper) (D : Nat → Bool) : Prop := ∀ i o, ops[i]? = some o → D i = true → ∀ e ∈ o.after.toList, Region.binds .any e = true → D e.on = true
theorem anc_fold {D : Nat → Bool} {acc : List Nat} (hacc : ∀ j i, (acc.getD j 0).testBit i = true → D j = true → D i = true) : ∀ (es : List Edge) (s : Nat), (∀ e ∈ es, Region.binds .any e = true → D e.on = true) → (∀ i, s.testBit i = true → D i = true) →
    ∀ i, (es.foldl (fun s e => if Region.binds .any e then s ||| 2 ^ e.on ||| acc.getD e.on 0 else s) s).testBit i = true → D i = true
  | [], s, _, hs, i, h => hs i h
  | e :: es, s, he, hs, i, h => by
    simp only [List.foldl_cons] at h
    refine anc_fold hacc es _ (fun e' h' => he e' (List.mem_cons_of_mem _ h')) (fun i hi => ?_) i h
    split at hi
    · rename_i hb
      simp only [Nat.testBit_or, Bool.or_eq_true] at hi
      rcases hi with (hi | hi) | hi
      · exact hs i hi
      · rw [Nat.testBit_two_pow] at hi
        have : e.on = i := by simpa using hi
        rw [← this]; exact he e (List.mem_cons_self ..) hb
      · exact hacc _ i hi (he e (List.mem_cons_self ..) hb)
    · exact hs i hi
theorem ancs_ok {D : Nat → Bool} : ∀ (l : List Oper) (acc : List Nat), (∀ i o, l[i]? = some o → D (acc.length + i) = true → ∀ e ∈ o.after.toList, Region.binds .any e = true → D e.on = true) →
    (∀ j i, (acc.getD j 0).testBit i = true → D j = true → D i = true) → ∀ j i, ((ancs l acc).getD j 0).testBit i = true → D j = true → D i = true
  | [], acc, _, h, j, i, hb, hj => h j i hb hj
  | o :: r, acc, hl, h, j, i, hb, hj => by
    rw [ancs] at hb
    refine ancs_ok r _ (fun i o ho hD => ?_) (fun j i hb hj => ?_) j i hb hj
    · rw [List.length_append, List.length_singleton] at hD
      exact hl (i + 1) o (by simpa using ho) (by rwa [show acc.length + (i + 1) = acc.length + 1 + i by omega])
    · by_cases hjl : j < acc.length
      · rw [List.getD_eq_getElem?_getD, List.getElem?_append_left hjl, ← List.getD_eq_getElem?_getD] at hb; exact h j i hb hj
      · by_cases hje : j = acc.length
        · subst hje
          rw [List.getD_eq_getElem?_getD, List.getElem?_append_right (Nat.le_refl _)] at hb
          simp only [Nat.sub_self, List.getElem?_cons_zero, Option.getD_some] at hb
          exact anc_fold h o.after.toList 0 (fun e he hbi => hl 0 o rfl (by simpa using hj) e he hbi) (fun i hi => by simp at hi) i hb
        · rw [List.getD_eq_getElem?_getD, List.getElem?_eq_none (by simp; omega)] at hb
          simp at hb
end Go.Proofs.Yteiojclemodhaaa
