/- The symbolic walk: the table of contracts. No condition. -/
import Derived.Test.YteiojclemodhaaaSyN
namespace Go.Proofs.Yteiojclemodhaaa
open Go.RowKit Go.ChangeShapes Go.WideShapes Go.Deep
set_option linter.unusedVariables false
set_option linter.unusedSimpArgs false
set_option linter.unusedSectionVars false
def isRow : BE → Bool
  | .row .. => true
  | _ => false
def cellTags : BE → List Nat
  | .cells _ vs => vs.flatMap leafTags
  | _ => []
/-- the tags that are handed in -/
def tagsOf (m : Nat → BE) (svs : List SV) : List Nat :=
  dedN [] (svs.flatMap svTags ++ ((svs.flatMap svTags).flatMap fun t => cellTags (m t)).filter fun t => isRow (m t))
/-- rows that are nil, as rows of the callee's -/
def nrmS : Nat → List (Nat × TypeId × RL) → List SV → List SV × List (Nat × BE)
  | _, [], vs => (vs, [])
  | c, (i, T, r) :: q, vs => match vs[i]? with
    | some .nil => ((nrmS (c + 1) q (vs.set i (.own c))).1, (c, .row T [] r.emp) :: (nrmS (c + 1) q (vs.set i (.own c))).2)
    | _ => nrmS (c + 1) q vs
def firstPtr : List SV → Option Nat
  | [] => none
  | .ptr t _ :: _ => some t
  | _ :: r => firstPtr r
def nrm (vr : List (Nat × TypeId × RL)) (c : Nat) (m : Nat → BE) (svs : List SV) : List (Nat × BE) :=
  match firstPtr svs with
  | some t => match m t with
    | .cells T vs => match (nrmS c vr vs).2 with
      | [] => []
      | U => (t, .cells T (nrmS c vr vs).1) :: U
    | _ => []
  | none => []
def clOf (e : Ent) (m1 : Nat → BE) (svs : List SV) : Cl := ⟨⟨m1, match e.wr with | true => tagsOf m1 svs | false => []⟩, e.al, e.gl, e.nl, svs⟩
/-- what a call of one does -/
def orcE (e : Ent) (c : Nat) (st : St) (svs : List SV) (U : List (Nat × BE)) (q : Cl) : Option Upd :=
  if q.ok && (blkN c 24).all st.free && Nat.ble e.vr.length 8 then (match e.go q.ins q.mi with
    | some (n, out, mo) => if q.okO out mo then some ⟨q.needs ++ n, relV q (c + 8) out, q.upds (c + 8) mo ++ U⟩ else none
    | none => none) else none
def orcT (tab : List Ent) (c : Nat) (f : FuncId) (st : St) (svs : List SV) : Option Upd :=
  match findE tab f with
  | none => none
  | some e => orcE e c st svs (nrm e.vr c st.m svs) (clOf e (putF (nrm e.vr c st.m svs) st.m) svs)
section
variable {P : Program} {base : Nat} {X : Cx} {w0 : World}
theorem nrmS_keys : ∀ (vr : List (Nat × TypeId × RL)) (c : Nat) (vs : List SV), ∀ t e, (t, e) ∈ (nrmS c vr vs).2 → c ≤ t ∧ t < c + vr.length ∧ isRow e = true
  | [], c, vs, t, e, h => by simp [nrmS] at h
  | (i, T, r) :: q, c, vs, t, e, h => by
    simp only [nrmS] at h
    split at h
    · rcases List.mem_cons.1 h with h1 | h1
      · cases h1; exact ⟨Nat.le_refl _, by simp, rfl⟩
      · have := nrmS_keys q (c + 1) _ t e h1
        exact ⟨by omega, by simp; omega, this.2.2⟩
    · have := nrmS_keys q (c + 1) _ t e h
      exact ⟨by omega, by simp; omega, this.2.2⟩
theorem putF_key {l : List (Nat × BE)} {m : Nat → BE} {t : Nat} (h : ∀ e, (t, e) ∉ l) : putF l m t = m t := by
  induction l with
  | nil => rfl
  | cons x l ih =>
    obtain ⟨k, e⟩ := x
    show (if t = k then e else putF l m t) = _
    have hk : t ≠ k := fun e2 => h e (by rw [e2]; exact List.mem_cons_self ..)
    rw [if_neg hk, ih (fun e he => h e (List.mem_cons_of_mem _ he))]
theorem putF_mem {l : List (Nat × BE)} {m : Nat → BE} {t : Nat} : putF l m t = m t ∨ (t, putF l m t) ∈ l := by
  induction l with
  | nil => exact .inl rfl
  | cons x l ih =>
    obtain ⟨k, e⟩ := x
    show (if t = k then e else putF l m t) = _ ∨ (t, if t = k then e else putF l m t) ∈ _
    by_cases hk : t = k
    · rw [if_pos hk]; subst hk; exact .inr (List.mem_cons_self ..)
    · rw [if_neg hk]; exact ih.imp id (fun h => List.mem_cons_of_mem _ h)
theorem flat_set {vs : List SV} {i : Nat} {s : SV} (h : vs.all SV.flat = true) (hs : s.flat = true) : (vs.set i s).all SV.flat = true := by
  simp only [List.all_eq_true] at *
  intro x hx
  rcases List.mem_or_eq_of_mem_set hx with h1 | h1
  · exact h x h1
  · rw [h1]; exact hs
theorem DenL.setN {E : Env} {w : World} : ∀ {vs : List SV} {xs : List Value} {i c : Nat}, DenL E w vs xs → vs[i]? = some .nil → E.β c = some (.slice none 0 0) → DenL E w (vs.set i (.own c)) xs
  | s :: vs, x :: xs, 0, c, h, hi, hc => by
    simp only [List.getElem?_cons_zero, Option.some.injEq] at hi
    subst hi
    have : x = .slice none 0 0 := h.1
    subst this
    exact ⟨⟨hc, rfl⟩, h.2⟩
  | s :: vs, x :: xs, i + 1, c, h, hi, hc => ⟨h.1, DenL.setN (vs := vs) (xs := xs) h.2 (by simpa using hi) hc⟩
  | [], _, _, _, _, hi, _ => by simp at hi
  | _ :: _, [], _, _, h, _, _ => h.elim
theorem nrmS_ok {T0 : TypeId} {t0 : Nat} {w : World} : ∀ (vr : List (Nat × TypeId × RL)) (c : Nat) (vs : List SV) (E : Env) (m : Nat → BE), MemOk base X w0 E m w → m t0 = .cells T0 vs → (∀ t, c ≤ t → t < c + vr.length → m t = .empty) →
    ∃ E', E.Le E' ∧ (∀ i b, E'.σ i b → E.σ i b) ∧ MemOk base X w0 E' (putF ((t0, .cells T0 (nrmS c vr vs).1) :: (nrmS c vr vs).2) m) w
  | [], c, vs, E, m, hm, ht, hf => by
    refine ⟨E, Env.Le.refl E, fun _ _ h => h, ?_⟩
    have : putF ((t0, .cells T0 (nrmS c [] vs).1) :: (nrmS c [] vs).2) m = m := by
      funext u
      show (if u = t0 then _ else m u) = m u
      by_cases h : u = t0
      · subst h; rw [if_pos rfl, ht]; rfl
      · rw [if_neg h]
    rw [this]; exact hm
  | (i, T, r) :: q, c, vs, E, m, hm, ht, hf => by
    simp only [nrmS]
    split
    · rename_i hi
      have hce : m c = .empty := hf c (Nat.le_refl _) (by simp)
      have hct : t0 ≠ c := fun e => by rw [e, hce] at ht; cases ht
      have hβc := (hm.empty c hce).1
      have hm1 := hm.take (w' := w) hce (.slice none 0 0) (.row T [] r.emp) (by simp) (Nat.le_refl _) (fun _ _ => rfl) (BelowX.refl _ _ _) (fun b hb => by simp [vblock] at hb) (by show OwnR _ _ _ _ _ _ _; rw [r.emp_ok.1]; exact OwnR.nil _ _ _ _ _)
      have hm2 : MemOk base X w0 (E.setβ c (.slice none 0 0)) (upd (upd m c (.row T [] r.emp)) t0 (.cells T0 (vs.set i (.own c)))) w := by
        refine hm1.weak fun t => ?_
        by_cases h : t = t0
        · subst h
          rw [upd_self, upd_ne _ _ hct, ht]
          refine .inr (.inr ⟨rfl, rfl, fun v hv => ?_⟩)
          obtain ⟨b, xs, h1, h2, h3, h4⟩ := hv
          exact ⟨b, xs, h1, h2, DenL.setN h3 hi (if_pos rfl), flat_set h4 rfl⟩
        · rw [upd_ne _ _ h]; exact .inl rfl
      obtain ⟨E', h1, h2, h3⟩ := nrmS_ok q (c + 1) (vs.set i (.own c)) _ _ hm2 (upd_self _ _ _) (fun t h1 h2 => by
        have hne : t ≠ t0 := fun e => by
          have := hf t (by omega) (by simp; omega)
          rw [e, ht] at this; cases this
        rw [upd_ne _ _ hne, upd_ne _ _ (by omega)]
        exact hf t (by omega) (by simp; omega))
      refine ⟨E', (Env.setβ_le hβc _).trans h1, h2, ?_⟩
      have e : putF ((t0, .cells T0 (nrmS (c + 1) q (vs.set i (.own c))).1) :: (nrmS (c + 1) q (vs.set i (.own c))).2) (upd (upd m c (.row T [] r.emp)) t0 (.cells T0 (vs.set i (.own c)))) = putF ((t0, .cells T0 (nrmS (c + 1) q (vs.set i (.own c))).1) :: (c, .row T [] r.emp) :: (nrmS (c + 1) q (vs.set i (.own c))).2) m := by
        funext u
        show (if u = t0 then _ else _) = (if u = t0 then _ else if u = c then _ else _)
        by_cases hu : u = t0
        · rw [if_pos hu, if_pos hu]
        · rw [if_neg hu, if_neg hu]
          by_cases hc : u = c
          · subst hc
            rw [if_pos rfl, putF_key (fun e he => by have := (nrmS_keys q (u + 1) _ u e he).1; omega), upd_ne _ _ hu, upd_self]
          · rw [if_neg hc]
            rcases putF_mem (l := (nrmS (c + 1) q (vs.set i (.own c))).2) (m := m) (t := u) with h5 | h5
            · by_cases hk : ∃ e, (u, e) ∈ (nrmS (c + 1) q (vs.set i (.own c))).2
              · have key : ∀ (l : List (Nat × BE)) (m m2 : Nat → BE), (∃ e, (u, e) ∈ l) → putF l m u = putF l m2 u := by
                  intro l m m2 ⟨e, he⟩
                  exact putF_in l m m2 u (List.mem_map.2 ⟨_, he, rfl⟩)
                exact key _ _ _ hk
              · rw [h5, putF_key (fun e he => hk ⟨e, he⟩), upd_ne _ _ hu, upd_ne _ _ hc]
            · exact putF_in _ _ _ u (List.mem_map.2 ⟨_, h5, rfl⟩)
      rw [← e]; exact h3
    · obtain ⟨E', h1, h2, h3⟩ := nrmS_ok q (c + 1) vs E m hm ht (fun t h1 h2 => hf t (by omega) (by simp; omega))
      exact ⟨E', h1, h2, h3⟩
theorem nrm_ok {vr : List (Nat × TypeId × RL)} {c : Nat} {svs : List SV} {w : World} {E : Env} {m : Nat → BE} (hm : MemOk base X w0 E m w) (hf : ∀ t, c ≤ t → t < c + vr.length → m t = .empty) :
    ∃ E', E.Le E' ∧ (∀ i b, E'.σ i b → E.σ i b) ∧ MemOk base X w0 E' (putF (nrm vr c m svs) m) w := by
  unfold nrm
  have h0 : ∃ E', E.Le E' ∧ (∀ i b, E'.σ i b → E.σ i b) ∧ MemOk base X w0 E' (putF [] m) w := ⟨E, Env.Le.refl E, fun _ _ h => h, hm⟩
  split
  · split
    · rename_i T vs ht
      split
      · exact h0
      · exact nrmS_ok vr c vs E m hm ht hf
    · exact h0
  · exact h0
theorem orcT_ok {tab : List Ent} (ht : ∀ e ∈ tab, EntOk P e) (kd : TypeId → Option RL) : OrcOk P ⟨kd, orcT tab⟩ := by
  intro c f st svs u hu
  have hu2 : orcT tab c f st svs = some u := hu
  clear hu
  have hu := hu2
  clear hu2
  unfold orcT at hu
  split at hu
  case h_1 => simp at hu
  rename_i e he
  obtain ⟨hin, rfl⟩ := findE_mem he
  obtain ⟨hB, hE⟩ := ht e hin
  refine ⟨hB, fun base X w0 E w vals hm hd hn => ?_⟩
  unfold orcE at hu
  split at hu
  case isFalse => simp at hu
  rename_i hck
  simp only [Bool.and_eq_true] at hck
  obtain ⟨⟨hok, hfr⟩, hvr⟩ := hck
  split at hu
  case h_2 => simp at hu
  rename_i n out mo hgo
  split at hu
  case isFalse => simp at hu
  rename_i hO
  simp only [Option.some.injEq] at hu
  subst hu
  have hfree : ∀ t, c ≤ t → t < c + 24 → st.m t = .empty := fun t h1 h2 => St.of_free (List.all_eq_true.1 hfr t ((blkN_mem 24 c t).2 ⟨h1, h2⟩))
  have hvl := Nat.le_of_ble_eq_true hvr
  obtain ⟨E1, hE1, hσ1, hm1⟩ := nrm_ok (vr := e.vr) (svs := svs) hm (fun t h1 h2 => hfree t h1 (by omega))
  have hS1 : Same E.lab w w := Same.rfl'
  have hnk : ∀ t, c + 8 ≤ t → t < c + 24 → putF (nrm e.vr c st.m svs) st.m t = .empty := by
    intro t h1 h2
    rw [putF_key]
    · exact hfree t (by omega) h2
    · intro e' he'
      unfold nrm at he'
      split at he'
      · split at he'
        · rename_i t0 _ T vs hmt
          split at he'
          · cases he'
          · rcases List.mem_cons.1 he' with h3 | h3
            · cases h3
              have := hfree t (by omega) h2
              rw [hmt] at this; cases this
            · have := nrmS_keys e.vr c vs t e' h3; omega
        · cases he'
      · cases he'
  have hcall := Cl.call (q := clOf e (putF (nrm e.vr c st.m svs) st.m) svs) hm1 (Cl.good hok) (fun p hp => hn p (List.mem_append_left _ hp)) (c := c + 8) (fun t h1 h2 => hnk t h1 (by omega)) (hE _ _ n out mo hgo (fun p hp => hn p (List.mem_append_right _ hp))) hO (DenL.mono hE1 hS1 _ _ hd)
  refine Calls.mono hcall ?_
  rintro e' w' ⟨v, E', h1, h2, h3, h4, h5⟩
  refine ⟨v, E', h1, hE1.trans h2, ⟨h3.size, fun b hl => h3.block b (by obtain ⟨i, hi⟩ := hl; exact ⟨i, hE1.σ i b hi⟩)⟩, h4, ?_⟩
  rw [putF_app]; exact h5
/-- memories that agree on what a call looks at -/
theorem vw0_eq {m m' : Nat → BE} {T : List Nat} {l : Nat} {s : SV} (h : ∀ t, t ∈ leafTags s → m t = m' t) : vw0 ⟨m, T⟩ l s = vw0 ⟨m', T⟩ l s ∧ lp0 ⟨m, T⟩ l s = lp0 ⟨m', T⟩ l s ∧ op0 ⟨m, T⟩ l s = op0 ⟨m', T⟩ l s := by
  cases s
  case own t => simp only [vw0, lp0, op0, h t (by simp [leafTags])]; refine ⟨?_, ?_, ?_⟩ <;> first | rfl | trivial
  all_goals exact ⟨rfl, rfl, rfl⟩
theorem vwL_eq {f g : SV → SV × List Prop} : ∀ (ss : List SV), (∀ s, s ∈ ss → f s = g s) → vwL f ss = vwL g ss
  | [], _ => rfl
  | s :: ss, h => by rw [vwL, vwL, h s (List.mem_cons_self ..), vwL_eq ss (fun s hs => h s (List.mem_cons_of_mem _ hs))]
theorem flatMap_eq {α β : Type} {f g : α → List β} : ∀ (ss : List α), (∀ s, s ∈ ss → f s = g s) → ss.flatMap f = ss.flatMap g
  | [], _ => rfl
  | s :: ss, h => by rw [List.flatMap_cons, List.flatMap_cons, h s (List.mem_cons_self ..), flatMap_eq ss (fun s hs => h s (List.mem_cons_of_mem _ hs))]
theorem vwC_eq {m m' : Nat → BE} {T : List Nat} {l : Nat} (vs : List SV) (h : ∀ t, t ∈ vs.flatMap leafTags → m t = m' t) : vwL (vw0 ⟨m, T⟩ l) vs = vwL (vw0 ⟨m', T⟩ l) vs ∧ vs.flatMap (lp0 ⟨m, T⟩ l) = vs.flatMap (lp0 ⟨m', T⟩ l) ∧ vs.flatMap (op0 ⟨m, T⟩ l) = vs.flatMap (op0 ⟨m', T⟩ l) := by
  have key : ∀ s, s ∈ vs → ∀ t, t ∈ leafTags s → m t = m' t := fun s hs t ht => h t (List.mem_flatMap.2 ⟨s, hs, ht⟩)
  exact ⟨vwL_eq vs (fun s hs => (vw0_eq (key s hs)).1), flatMap_eq vs (fun s hs => (vw0_eq (key s hs)).2.1), flatMap_eq vs (fun s hs => (vw0_eq (key s hs)).2.2)⟩
/-- what is looked at through a tag, too -/
def Deep (m m' : Nat → BE) (ts : List Nat) : Prop := ∀ t, t ∈ ts → m t = m' t ∧ ∀ u, u ∈ cellTags (m t) → m u = m' u
theorem vwR_eq {m m' : Nat → BE} {T : List Nat} {l : Nat} {s : SV} (h : Deep m m' (svR s)) : vwR ⟨m, T⟩ l s = vwR ⟨m', T⟩ l s ∧ lpR ⟨m, T⟩ l s = lpR ⟨m', T⟩ l s ∧ opR ⟨m, T⟩ l s = opR ⟨m', T⟩ l s := by
  have k0 : ∀ s, (∀ V l, vwR V l s = vw0 V l s ∧ lpR V l s = lp0 V l s ∧ opR V l s = op0 V l s) → svR s = leafTags s → Deep m m' (svR s) → vwR ⟨m, T⟩ l s = vwR ⟨m', T⟩ l s ∧ lpR ⟨m, T⟩ l s = lpR ⟨m', T⟩ l s ∧ opR ⟨m, T⟩ l s = opR ⟨m', T⟩ l s := by
    intro s h1 h2 h3
    obtain ⟨a1, a2, a3⟩ := h1 ⟨m, T⟩ l
    obtain ⟨b1, b2, b3⟩ := h1 ⟨m', T⟩ l
    rw [a1, a2, a3, b1, b2, b3]
    exact vw0_eq (fun t ht => (h3 t (h2 ▸ ht)).1)
  cases s
  case ptr t o =>
    obtain ⟨h1, h2⟩ := h t (by simp [svR, leafTags])
    simp only [vwR, lpR, opR, ← h1]
    cases idxO T t with
    | some k => exact ⟨rfl, rfl, rfl⟩
    | none =>
      cases hm : m t with
      | cells Tb vs =>
        rw [hm] at h2
        obtain ⟨e1, e2, e3⟩ := vwC_eq (T := T) (l := l) vs h2
        simp only [e1, e2, e3]; exact ⟨trivial, trivial, trivial⟩
      | _ => exact ⟨rfl, rfl, rfl⟩
  case rp ls Tb vs o =>
    obtain ⟨e1, e2, e3⟩ := vwC_eq (m := m) (m' := m') (T := T) (l := l) vs (fun t ht => (h t ht).1)
    simp only [vwR, lpR, opR, e1, e2, e3]; exact ⟨trivial, trivial, trivial⟩
  all_goals exact k0 _ (fun V l => ⟨rfl, rfl, rfl⟩) rfl h
theorem vw1_eq {m m' : Nat → BE} {T : List Nat} {l : Nat} {s : SV} (h : Deep m m' (svTags s)) : vw1 ⟨m, T⟩ l s = vw1 ⟨m', T⟩ l s ∧ lp1 ⟨m, T⟩ l s = lp1 ⟨m', T⟩ l s ∧ op1 ⟨m, T⟩ l s = op1 ⟨m', T⟩ l s := by
  have k0 : ∀ s, (∀ V l, vw1 V l s = vwR V l s ∧ lp1 V l s = lpR V l s ∧ op1 V l s = opR V l s) → svTags s = svR s → Deep m m' (svTags s) → vw1 ⟨m, T⟩ l s = vw1 ⟨m', T⟩ l s ∧ lp1 ⟨m, T⟩ l s = lp1 ⟨m', T⟩ l s ∧ op1 ⟨m, T⟩ l s = op1 ⟨m', T⟩ l s := by
    intro s h1 h2 h3
    obtain ⟨a1, a2, a3⟩ := h1 ⟨m, T⟩ l
    obtain ⟨b1, b2, b3⟩ := h1 ⟨m', T⟩ l
    rw [a1, a2, a3, b1, b2, b3]
    exact vwR_eq (h2 ▸ h3)
  cases s
  case agg vs =>
    obtain ⟨e1, e2, e3⟩ := vwC_eq (m := m) (m' := m') (T := T) (l := l) vs (fun t ht => (h t ht).1)
    simp only [vw1, lp1, op1, e1, e2, e3]; exact ⟨trivial, trivial, trivial⟩
  case clo f vs =>
    have key : ∀ s, s ∈ vs → Deep m m' (svR s) := fun s hs t ht => h t (List.mem_flatMap.2 ⟨s, hs, ht⟩)
    have e1 := vwL_eq vs (fun s hs => (vwR_eq (T := T) (l := l) (key s hs)).1)
    have e2 := flatMap_eq vs (fun s hs => (vwR_eq (T := T) (l := l) (key s hs)).2.1)
    have e3 := flatMap_eq vs (fun s hs => (vwR_eq (T := T) (l := l) (key s hs)).2.2)
    simp only [vw1, lp1, op1, e1, e2, e3]; exact ⟨trivial, trivial, trivial⟩
  case gd g s => exact ⟨rfl, rfl, rfl⟩
  all_goals exact k0 _ (fun V l => ⟨rfl, rfl, rfl⟩) rfl h
theorem vwB_eq {m m' : Nat → BE} {T : List Nat} {l t : Nat} (h : m t = m' t) (h2 : ∀ u, u ∈ cellTags (m t) → m u = m' u) : vwB ⟨m, T⟩ l (m t) = vwB ⟨m', T⟩ l (m' t) ∧ lpB ⟨m, T⟩ l (m t) = lpB ⟨m', T⟩ l (m' t) ∧ opB ⟨m, T⟩ l (m t) = opB ⟨m', T⟩ l (m' t) := by
  rw [← h]
  cases hm : m t with
  | cells Tb vs =>
    rw [hm] at h2
    obtain ⟨e1, e2, e3⟩ := vwC_eq (T := T) (l := l) vs h2
    simp only [vwB, lpB, opB, e1, e2, e3]; exact ⟨trivial, trivial, trivial⟩
  | _ => exact ⟨rfl, rfl, rfl⟩
theorem zipL_eq {α β : Type} {f g : Nat → α → β} : ∀ (xs : List α) (ls : List Nat), (∀ l x, x ∈ xs → f l x = g l x) → zipL f xs ls = zipL g xs ls
  | [], _, _ => rfl
  | x :: r, [], h => by rw [zipL, zipL, h 0 x (List.mem_cons_self ..), zipL_eq r [] (fun l y hy => h l y (List.mem_cons_of_mem _ hy))]
  | x :: r, l :: ls, h => by rw [zipL, zipL, h l x (List.mem_cons_self ..), zipL_eq r ls (fun l y hy => h l y (List.mem_cons_of_mem _ hy))]
theorem dedN_mem : ∀ (l seen : List Nat) (t : Nat), t ∈ dedN seen l → t ∈ l
  | [], _, _, h => by simp [dedN] at h
  | a :: r, seen, t, h => by
    rw [dedN] at h
    cases hc : seen.contains a
    · rw [hc] at h
      simp only [cond_false] at h
      rcases List.mem_cons.1 h with h1 | h1
      · rw [h1]; exact List.mem_cons_self ..
      · exact List.mem_cons_of_mem _ (dedN_mem r _ t h1)
    · rw [hc] at h
      exact List.mem_cons_of_mem _ (dedN_mem r _ t h)
theorem clOf_eq {e : Ent} {m m' : Nat → BE} {svs : List SV} (h : Deep m m' (svs.flatMap svTags)) : (clOf e m svs).V.T = (clOf e m' svs).V.T ∧ (clOf e m svs).aV = (clOf e m' svs).aV ∧ (clOf e m svs).bV = (clOf e m' svs).bV ∧ (clOf e m svs).LP = (clOf e m' svs).LP ∧ (clOf e m svs).OP = (clOf e m' svs).OP ∧ (∀ u, u ∈ (clOf e m svs).V.T → m u = m' u) := by
  have hT2 : ((svs.flatMap svTags).flatMap fun t => cellTags (m t)) = ((svs.flatMap svTags).flatMap fun t => cellTags (m' t)) := flatMap_eq _ (fun t ht => by rw [(h t ht).1])
  have hin : ∀ u, u ∈ ((svs.flatMap svTags).flatMap fun t => cellTags (m t)) → m u = m' u := fun u hu => by
    obtain ⟨t, ht, h2⟩ := List.mem_flatMap.1 hu
    exact (h t ht).2 u h2
  have hfil : (((svs.flatMap svTags).flatMap fun t => cellTags (m t)).filter fun t => isRow (m t)) = (((svs.flatMap svTags).flatMap fun t => cellTags (m' t)).filter fun t => isRow (m' t)) := by
    rw [← hT2]
    refine List.filter_congr fun u hu => ?_
    rw [hin u hu]
  have hT : tagsOf m svs = tagsOf m' svs := by unfold tagsOf; rw [hfil]
  -- a tag of T
  have hmT : ∀ u, u ∈ tagsOf m svs → m u = m' u ∧ ∀ x, x ∈ cellTags (m u) → m x = m' x := by
    intro u hu
    rcases List.mem_append.1 (dedN_mem _ _ u hu) with h1 | h1
    · exact h u h1
    · obtain ⟨h2, h3⟩ := List.mem_filter.1 h1
      refine ⟨hin u h2, fun x hx => ?_⟩
      cases hm : m u with
      | row => rw [hm] at hx; cases hx
      | _ => rw [hm] at h3; cases h3
  have hV : (clOf e m svs).V.T = (clOf e m' svs).V.T := by
    unfold clOf
    cases e.wr with
    | false => rfl
    | true => exact hT
  have hmV : ∀ u, u ∈ (clOf e m svs).V.T → m u = m' u ∧ ∀ x, x ∈ cellTags (m u) → m x = m' x := by
    intro u hu
    have hu : u ∈ (match e.wr with | true => tagsOf m svs | false => []) := hu
    cases hw : e.wr with
    | false => rw [hw] at hu; cases hu
    | true => rw [hw] at hu; exact hmT u hu
  have e1 : (clOf e m' svs).V = ⟨m', (clOf e m svs).V.T⟩ := by rw [hV]; rfl
  have e0 : (clOf e m svs).V = ⟨m, (clOf e m svs).V.T⟩ := rfl
  have hd : ∀ s, s ∈ svs → Deep m m' (svTags s) := fun s hs t ht => h t (List.mem_flatMap.2 ⟨s, hs, ht⟩)
  have a1 : ∀ l s, s ∈ svs → vw1 (clOf e m svs).V l s = vw1 (clOf e m' svs).V l s := fun l s hs => by rw [e1, e0]; exact (vw1_eq (hd s hs)).1
  have a2 : ∀ l s, s ∈ svs → lp1 (clOf e m svs).V l s = lp1 (clOf e m' svs).V l s := fun l s hs => by rw [e1, e0]; exact (vw1_eq (hd s hs)).2.1
  have a3 : ∀ l s, s ∈ svs → op1 (clOf e m svs).V l s = op1 (clOf e m' svs).V l s := fun l s hs => by rw [e1, e0]; exact (vw1_eq (hd s hs)).2.2
  have b1 : ∀ l t, t ∈ (clOf e m svs).V.T → vwB (clOf e m svs).V l (m t) = vwB (clOf e m' svs).V l (m' t) := fun l t ht => by rw [e1, e0]; exact (vwB_eq (hmV t ht).1 (hmV t ht).2).1
  have b2 : ∀ l t, t ∈ (clOf e m svs).V.T → lpB (clOf e m svs).V l (m t) = lpB (clOf e m' svs).V l (m' t) := fun l t ht => by rw [e1, e0]; exact (vwB_eq (hmV t ht).1 (hmV t ht).2).2.1
  have b3 : ∀ l t, t ∈ (clOf e m svs).V.T → opB (clOf e m svs).V l (m t) = opB (clOf e m' svs).V l (m' t) := fun l t ht => by rw [e1, e0]; exact (vwB_eq (hmV t ht).1 (hmV t ht).2).2.2
  refine ⟨hV, zipL_eq _ _ a1, ?_, ?_, ?_, fun u hu => (hmV u hu).1⟩
  · show zipL (fun l t => vwB (clOf e m svs).V l (m t)) (clOf e m svs).V.T e.gl = zipL (fun l t => vwB (clOf e m' svs).V l (m' t)) (clOf e m' svs).V.T e.gl
    rw [← hV]; exact zipL_eq _ _ b1
  · show (zipL (fun l s => lp1 (clOf e m svs).V l s) svs e.al).flatMap id ++ (zipL (fun l t => lpB (clOf e m svs).V l (m t)) (clOf e m svs).V.T e.gl).flatMap id = (zipL (fun l s => lp1 (clOf e m' svs).V l s) svs e.al).flatMap id ++ (zipL (fun l t => lpB (clOf e m' svs).V l (m' t)) (clOf e m' svs).V.T e.gl).flatMap id
    rw [← hV, zipL_eq _ _ a2, zipL_eq _ _ b2]
  · show (zipL (fun l s => op1 (clOf e m svs).V l s) svs e.al).flatMap id ++ (zipL (fun l t => opB (clOf e m svs).V l (m t)) (clOf e m svs).V.T e.gl).flatMap id = (zipL (fun l s => op1 (clOf e m' svs).V l s) svs e.al).flatMap id ++ (zipL (fun l t => opB (clOf e m' svs).V l (m' t)) (clOf e m' svs).V.T e.gl).flatMap id
    rw [← hV, zipL_eq _ _ a3, zipL_eq _ _ b3]
theorem orcE_eq {e : Ent} {c : Nat} {a b : St} {svs : List SV} {U : List (Nat × BE)} {q q' : Cl} (hf : (blkN c 24).all a.free = (blkN c 24).all b.free) (h1 : q.V.T = q'.V.T) (h2 : q.aV = q'.aV) (h3 : q.bV = q'.bV) (h4 : q.LP = q'.LP) (h5 : q.OP = q'.OP) (h6 : ∀ u, u ∈ q.V.T → q.V.m u = q'.V.m u) (h7 : q.nl = q'.nl) :
    orcE e c a svs U q = orcE e c b svs U q' := by
  have k1 : q.ok = q'.ok := by
    unfold Cl.ok
    rw [h1, h3, h4, h5, h7]
    have : (q'.V.T.all fun u => (q.V.m u).live) = (q'.V.T.all fun u => (q'.V.m u).live) := by
      rw [Bool.eq_iff_iff, List.all_eq_true, List.all_eq_true]
      exact ⟨fun h u hu => by rw [← h6 u (h1 ▸ hu)]; exact h u hu, fun h u hu => by rw [h6 u (h1 ▸ hu)]; exact h u hu⟩
    rw [this]
  have k2 : q.ins = q'.ins := by unfold Cl.ins; rw [h2]
  have k3 : q.mi = q'.mi := by unfold Cl.mi; rw [h3]
  have k4 : q.needs = q'.needs := by unfold Cl.needs; rw [h2, h3]
  have r1 : ∀ c ls, relL q c ls = relL q' c ls := fun c ls => by unfold relL; rw [h4, h7]
  have r2 : ∀ c t, relT q c t = relT q' c t := fun c t => by unfold relT; rw [h1]
  have r3 : ∀ c, rel0 q c = rel0 q' c := fun c => by funext s; cases s <;> simp only [rel0, r1, r2]
  have r4 : ∀ c, rel1 q c = rel1 q' c := fun c => by
    funext s
    unfold rel1
    rw [r3]
  have r5 : ∀ c, relV q c = relV q' c := fun c => by
    funext s
    unfold relV
    rw [r4]
  have r6 : ∀ c, relB q c = relB q' c := fun c => by
    funext s
    cases s <;> simp only [relB, r3, r1]
  have o1 : okLs q = okLs q' := by funext ls; unfold okLs; rw [h5, h7]
  have o2 : ok0 q = ok0 q' := by funext n s; cases s <;> simp only [ok0, o1]
  have o3 : ok1 q = ok1 q' := by funext n s; unfold ok1; rw [o2]
  have o4 : okV q = okV q' := by funext n s; unfold okV; rw [o3]
  have o5 : okB q = okB q' := by funext n s; cases s <;> simp only [okB, o1, o2]
  have o6 : ∀ out mo, q.okO out mo = q'.okO out mo := fun out mo => by unfold Cl.okO; rw [o4, o5, h1]
  have u1 : ∀ c mo, q.upds c mo = q'.upds c mo := fun c mo => by unfold Cl.upds; rw [h1, r6]
  unfold orcE
  rw [k1, hf, k2, k3]
  simp only [o6, k4, r5, u1]
theorem firstPtr_mem : ∀ {svs : List SV} {t : Nat}, firstPtr svs = some t → t ∈ svs.flatMap svTags
  | [], _, h => by simp [firstPtr] at h
  | s :: r, t, h => by
    unfold firstPtr at h
    split at h
    · cases h
    · rename_i t2 o r2 e
      simp only [Option.some.injEq] at h
      subst h
      cases e
      exact List.mem_flatMap.2 ⟨_, List.mem_cons_self .., by simp [svTags, svR, leafTags]⟩
    · rename_i x r2 hx e
      cases e
      obtain ⟨s2, h1, h2⟩ := List.mem_flatMap.1 (firstPtr_mem h)
      exact List.mem_flatMap.2 ⟨s2, List.mem_cons_of_mem _ h1, h2⟩
theorem nrmS_tags : ∀ (vr : List (Nat × TypeId × RL)) (c : Nat) (vs : List SV) (u : Nat), u ∈ (nrmS c vr vs).1.flatMap leafTags → u ∈ vs.flatMap leafTags ∨ (c ≤ u ∧ u < c + vr.length)
  | [], c, vs, u, h => .inl h
  | (i, T, r) :: q, c, vs, u, h => by
    simp only [nrmS] at h
    split at h
    · rcases nrmS_tags q (c + 1) _ u h with h1 | h1
      · obtain ⟨s, h2, h3⟩ := List.mem_flatMap.1 h1
        rcases List.mem_or_eq_of_mem_set h2 with h4 | h4
        · exact .inl (List.mem_flatMap.2 ⟨s, h4, h3⟩)
        · subst h4
          simp only [leafTags, List.mem_singleton] at h3
          subst h3
          exact .inr ⟨Nat.le_refl _, by simp⟩
      · exact .inr ⟨by omega, by simp; omega⟩
    · rcases nrmS_tags q (c + 1) _ u h with h1 | h1
      · exact .inl h1
      · exact .inr ⟨by omega, by simp; omega⟩
theorem orcT_loc (tab : List Ent) (kd : TypeId → Option RL) : OrcLoc ⟨kd, orcT tab⟩ := by
  intro c f a b svs hl h
  show orcT tab c f a svs = orcT tab c f b svs
  unfold orcT
  cases findE tab f with
  | none => rfl
  | some e =>
    simp only
    have hfree : (blkN c 24).all a.free = (blkN c 24).all b.free := by
      have : ∀ t, t ∈ blkN c 24 → a.free t = b.free t := fun t ht => by simp only [St.free, h t (.inl ht)]
      rw [Bool.eq_iff_iff, List.all_eq_true, List.all_eq_true]
      exact ⟨fun h2 t ht => by rw [← this t ht]; exact h2 t ht, fun h2 t ht => by rw [this t ht]; exact h2 t ht⟩
    by_cases hv : Nat.ble e.vr.length 8 = true
    · have hvl := Nat.le_of_ble_eq_true hv
      have h1 : ∀ t, t ∈ svs.flatMap svTags → a.m t = b.m t := fun t ht => h t (.inr (List.mem_append_left _ ht))
      have h2 : ∀ t, t ∈ svs.flatMap svTags → ∀ u, u ∈ cellTags (a.m t) → a.m u = b.m u := fun t ht u hu => h u (.inr (List.mem_append_right _ (List.mem_flatMap.2 ⟨t, ht, by
        unfold cellTags at hu
        split at hu
        · rename_i e2; rw [e2]; exact hu
        · cases hu⟩)))
      have hU : nrm e.vr c a.m svs = nrm e.vr c b.m svs := by
        unfold nrm
        cases hp : firstPtr svs with
        | none => rfl
        | some t => simp only; rw [h1 t (firstPtr_mem hp)]
      rw [← hU]
      have hag : ∀ t, (a.m t = b.m t) → putF (nrm e.vr c a.m svs) a.m t = putF (nrm e.vr c a.m svs) b.m t := by
        intro t ht
        by_cases hk : ∃ e', (t, e') ∈ nrm e.vr c a.m svs
        · obtain ⟨e', he'⟩ := hk
          exact putF_in _ _ _ t (List.mem_map.2 ⟨_, he', rfl⟩)
        · rw [putF_key (fun e' he' => hk ⟨e', he'⟩), putF_key (fun e' he' => hk ⟨e', he'⟩)]; exact ht
      have hblk : ∀ t, c ≤ t → t < c + 24 → a.m t = b.m t := fun t h3 h4 => h t (.inl ((blkN_mem 24 c t).2 ⟨h3, h4⟩))
      have hdeep : Deep (putF (nrm e.vr c a.m svs) a.m) (putF (nrm e.vr c a.m svs) b.m) (svs.flatMap svTags) := by
        intro t ht
        refine ⟨hag t (h1 t ht), fun u hu => hag u ?_⟩
        rcases putF_mem (l := nrm e.vr c a.m svs) (m := a.m) (t := t) with h3 | h3
        · rw [h3] at hu; exact h2 t ht u hu
        · generalize putF (nrm e.vr c a.m svs) a.m t = y at h3 hu
          unfold nrm at h3
          split at h3
          · rename_i t0 hp
            split at h3
            · rename_i T vs hmt
              split at h3
              · cases h3
              · rcases List.mem_cons.1 h3 with h4 | h4
                · cases h4
                  rcases nrmS_tags e.vr c vs u hu with h5 | h5
                  · exact h2 t ht u (by rw [hmt]; exact h5)
                  · exact hblk u h5.1 (by omega)
                · have := (nrmS_keys e.vr c vs t y h4).2.2
                  cases y with
                  | row => cases hu
                  | _ => cases this
            · cases h3
          · cases h3
      obtain ⟨k1, k2, k3, k4, k5, k6⟩ := clOf_eq (e := e) hdeep
      exact orcE_eq hfree k1 k2 k3 k4 k5 k6 rfl
    · unfold orcE
      have : Nat.ble e.vr.length 8 = false := by cases hb : Nat.ble e.vr.length 8 <;> simp_all
      rw [this]; simp
end
end Go.Proofs.Yteiojclemodhaaa
