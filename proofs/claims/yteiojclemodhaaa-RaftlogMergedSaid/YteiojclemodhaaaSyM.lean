/- The memory of the symbolic walk: a new block, a write, a call, an append. No condition. -/
import Derived.Test.YteiojclemodhaaaSyA
namespace Go.Proofs.Yteiojclemodhaaa
open Go.RowKit Go.ChangeShapes Go.WideShapes Go.Deep
set_option linter.unusedVariables false
set_option linter.unusedSimpArgs false
def upd (m : Nat → BE) (t : Nat) (e : BE) (u : Nat) : BE := if u = t then e else m u
theorem upd_self (m : Nat → BE) (t : Nat) (e : BE) : upd m t e t = e := if_pos rfl
theorem upd_ne (m : Nat → BE) {t u : Nat} (e : BE) (h : u ≠ t) : upd m t e u = m u := if_neg h
/-- what an entry says of a value -/
def Holds (E : Env) (w : World) (v : Value) : BE → Prop
  | .cells T vs => ∃ b xs, v = .pointer (some ⟨b, 0, none⟩) ∧ w.heap[b]? = some (.cells xs.toArray T (0, 0)) ∧ DenL E w vs xs ∧ vs.all SV.flat = true
  | .row T ls r => OwnR 0 w T (E.set ls) r.tys v r.rows
  | .dead => True
  | .empty => False
theorem MemOk.holds {base : Nat} {X : Cx} {w0 w : World} {E : Env} {m : Nat → BE} (h : MemOk base X w0 E m w) {t : Nat} (hl : (m t).live = true) : ∃ v, E.β t = some v ∧ Holds E w v (m t) := by
  cases hm : m t with
  | empty => simp [hm, BE.live] at hl
  | dead => simp [hm, BE.live] at hl
  | cells T vs => obtain ⟨b, xs, h1, h2, h3, h4⟩ := h.cells t T vs hm; exact ⟨_, h1, b, xs, rfl, h2, h3, h4⟩
  | row T ls r => exact h.row t T ls r hm
theorem Holds.block {E : Env} {w : World} {v : Value} {e : BE} (h : Holds E w v e) (hl : e.live = true) {b : Nat} (hb : vblock v = some b) : b < w.heap.size := by
  cases e with
  | empty => cases h
  | dead => cases hl
  | cells T vs => obtain ⟨b', xs, rfl, h2, _⟩ := h; simp [vblock] at hb; subst hb; exact (Array.getElem?_eq_some_iff.1 h2).1
  | row T ls r =>
    have h : OwnR 0 w T (E.set ls) r.tys v r.rows := h
    obtain ⟨a, c, e⟩ := h.form
    exact (h.lt b (by rw [vblock_own ⟨a, _, c, e⟩]; exact hb)).2
theorem Holds.mono {E E' : Env} {w w' : World} {v : Value} {e : BE} (h : Holds E w v e) (hE : E.Le E') (hS : Same E.lab w w') (hb : ∀ b, vblock v = some b → w'.heap[b]? = w.heap[b]?) : Holds E' w' v e := by
  cases e with
  | empty => exact h
  | dead => exact h
  | cells T vs =>
    obtain ⟨b, xs, rfl, h2, h3, h4⟩ := h
    exact ⟨b, xs, rfl, (hb b rfl).trans h2, DenL.mono hE hS _ _ h3, h4⟩
  | row T ls r =>
    have h : OwnR 0 w T (E.set ls) r.tys v r.rows := h
    show OwnR 0 w' T (E'.set ls) r.tys v r.rows
    obtain ⟨a, c, ev⟩ := h.form
    have hs : Same (fun b => E.lab b ∨ vblock v = some b) w w' := ⟨hS.size, fun b hb' hl => hb'.elim (fun x => hS.block b x hl) (fun x => hb b x)⟩
    exact (h.same hs (fun b hb' => .inl (Env.set_lab hb')) (fun b hb' => .inr (by rw [← vblock_own ⟨a, _, c, ev⟩]; exact hb'))).mono (Nat.le_refl _) (fun b hb' => hE.set hb')
/-- one step of the memory: the tags of L anew, the others as they were -/
theorem MemOk.go {base : Nat} {X : Cx} {w0 w w' : World} {E E' : Env} {m m' : Nat → BE} (h : MemOk base X w0 E m w) (hE : E.Le E') (hS : Same E.lab w w') (L : Nat → Prop)
    (hm : ∀ t, ¬ L t → m' t = m t ∧ E'.β t = E.β t) (hσ : ∀ t, ¬ L t → m t = .empty → ∀ b, ¬ E'.σ t b) (hk : ∀ t b, ¬ L t → Has E m t b → w'.heap[b]? = w.heap[b]?)
    (hL : ∀ t, L t → m' t ≠ .empty ∧ ((m' t).live = true → ∃ v, E'.β t = some v ∧ Holds E' w' v (m' t)))
    (hlab : ∀ i b, E'.σ i b → b < w'.heap.size ∧ (X.nl ≤ i → base ≤ b ∨ X.X b)) (hdis : ∀ i j b, E'.σ i b → E'.σ j b → i = j) (hsep : ∀ t b, Has E' m' t b → ¬ E'.lab b ∧ (base ≤ b ∨ X.X b)) (hold : ∀ i b, i < X.nl → E'.σ i b → X.S i b) (hinj : ∀ t u b, Has E' m' t b → Has E' m' u b → t = u)
    (hb : BelowX base X.X w w') : MemOk base X w0 E' m' w' := by
  have key : ∀ t, (m' t).live = true → ∃ v, E'.β t = some v ∧ Holds E' w' v (m' t) := by
    intro t hl
    by_cases ht : L t
    · exact (hL t ht).2 hl
    · obtain ⟨e1, e2⟩ := hm t ht
      rw [e1] at hl ⊢
      obtain ⟨v, hv, hh⟩ := h.holds hl
      refine ⟨v, by rw [e2]; exact hv, hh.mono hE hS (fun b hvb => hk t b ht ⟨hl, v, hv, hvb⟩)⟩
  refine ⟨fun t ht => ?_, fun t T vs ht => ?_, fun t T ls r ht => ?_, hlab, hdis, fun i hi he => ?_, hsep, hold, hinj, fun t v hv => hE.β t v (h.keep t v hv), ?_, Nat.le_trans h.base hb.size⟩
  · by_cases hl : L t
    · exact absurd ht (hL t hl).1
    · obtain ⟨e1, e2⟩ := hm t hl
      rw [e1] at ht
      exact ⟨by rw [e2]; exact (h.empty t ht).1, hσ t hl ht⟩
  · obtain ⟨v, hv, hh⟩ := key t (by rw [ht]; rfl)
    rw [ht] at hh
    obtain ⟨b, xs, rfl, h2, h3, h4⟩ := hh
    exact ⟨b, xs, hv, h2, h3, h4⟩
  · obtain ⟨v, hv, hh⟩ := key t (by rw [ht]; rfl)
    rw [ht] at hh
    exact ⟨v, hv, hh⟩
  · by_cases hl : L i
    · exact absurd he (hL i hl).1
    · rw [(hm i hl).1] at he; exact h.low i hi he
  · exact ⟨hb.os.trans h.below.os, hb.tape.trans h.below.tape, hb.output.trans h.below.output, Nat.le_trans h.below.size hb.size, fun b h1 h2 => (hb.block b h1 h2).trans (h.below.block b h1 h2)⟩
/-- a tag is given up -/
theorem MemOk.kill {base : Nat} {X : Cx} {w0 w : World} {E : Env} {m : Nat → BE} (h : MemOk base X w0 E m w) (t : Nat) : MemOk base X w0 E (upd m t .dead) w := by
  have hh : ∀ u b, Has E (upd m t .dead) u b → Has E m u b := by
    intro u b ⟨hl, hv⟩
    by_cases e : u = t
    · subst e; rw [upd_self] at hl; cases hl
    · rw [upd_ne _ _ e] at hl; exact ⟨hl, hv⟩
  refine h.go (Env.Le.refl E) ⟨Nat.le_refl _, fun _ _ _ => rfl⟩ (fun u => u = t) (fun u hu => ⟨upd_ne _ _ hu, rfl⟩) (fun u hu hm => (h.empty u hm).2) (fun _ _ _ _ => rfl)
    (fun u hu => by subst hu; rw [upd_self]; exact ⟨(by simp), fun hl => by cases hl⟩) h.lab h.dis (fun u b hb => h.sep u b (hh u b hb)) h.old (fun u v b h1 h2 => h.inj u v b (hh u b h1) (hh v b h2)) (BelowX.refl _ _ _)
def Env.setβ (E : Env) (c : Nat) (v : Value) : Env := ⟨fun t => if t = c then some v else E.β t, E.σ⟩
theorem Env.setβ_le {E : Env} {c : Nat} (h : E.β c = none) (v : Value) : E.Le (E.setβ c v) :=
  ⟨fun t u ht => by
    by_cases e : t = c
    · subst e; rw [h] at ht; cases ht
    · show (if t = c then _ else _) = _; rw [if_neg e]; exact ht, fun _ _ h => h⟩
/-- a new tag, of a block that nobody has -/
theorem MemOk.take {base : Nat} {X : Cx} {w0 w w' : World} {E : Env} {m : Nat → BE} (h : MemOk base X w0 E m w) {c : Nat} (hc : m c = .empty) (v : Value) (e : BE) (he : e ≠ .empty)
    (hsz : w.heap.size ≤ w'.heap.size) (hw : ∀ b, (E.lab b ∨ ∃ t, Has E m t b) → w'.heap[b]? = w.heap[b]?) (hbx : BelowX base X.X w w')
    (hfree : ∀ b, vblock v = some b → ¬ E.lab b ∧ (∀ t, ¬ Has E m t b) ∧ (base ≤ b ∨ X.X b)) (hcont : Holds (E.setβ c v) w' v e) : MemOk base X w0 (E.setβ c v) (upd m c e) w' := by
  have hE := Env.setβ_le (h.empty c hc).1 v
  have hh : ∀ u b, u ≠ c → Has (E.setβ c v) (upd m c e) u b → Has E m u b := by
    intro u b hu ⟨hl, x, hx, hxb⟩
    rw [upd_ne _ _ hu] at hl
    have : E.β u = some x := by have : (if u = c then some v else E.β u) = some x := hx; rwa [if_neg hu] at this
    exact ⟨hl, x, this, hxb⟩
  have hcb : ∀ b, Has (E.setβ c v) (upd m c e) c b → vblock v = some b := by
    intro b ⟨_, x, hx, hxb⟩
    have : (if c = c then some v else E.β c) = some x := hx
    rw [if_pos rfl] at this
    cases this; exact hxb
  refine h.go hE ⟨hsz, fun b hb _ => hw b (.inl hb)⟩ (fun u => u = c) (fun u hu => ⟨upd_ne _ _ hu, if_neg hu⟩) (fun u hu hm => (h.empty u hm).2) (fun u b hu hb => hw b (.inr ⟨u, hb⟩))
    (fun u hu => by subst hu; rw [upd_self]; exact ⟨he, fun _ => ⟨v, if_pos rfl, hcont⟩⟩)
    (fun i b hb => ⟨Nat.lt_of_lt_of_le (h.lab i b hb).1 hsz, (h.lab i b hb).2⟩) h.dis (fun u b hb => ?_) h.old (fun u x b h1 h2 => ?_) hbx
  · by_cases e2 : u = c
    · subst e2; obtain ⟨f1, f2, f3⟩ := hfree b (hcb b hb); exact ⟨f1, f3⟩
    · exact h.sep u b (hh u b e2 hb)
  · by_cases e2 : u = c
    · by_cases e3 : x = c
      · rw [e2, e3]
      · subst e2; exact absurd (hh x b e3 h2) ((hfree b (hcb b h1)).2.1 x)
    · by_cases e3 : x = c
      · subst e3; exact absurd (hh u b e2 h1) ((hfree b (hcb b h2)).2.1 u)
      · exact h.inj u x b (hh u b e2 h1) (hh x b e3 h2)
/-- the block of a tag is written -/
theorem MemOk.poke {base : Nat} {X : Cx} {w0 w w' : World} {E : Env} {m : Nat → BE} (h : MemOk base X w0 E m w) {t : Nat} (hl : (m t).live = true) {v : Value} (hv : E.β t = some v) (e : BE) (hel : e.live = true)
    (hsz : w.heap.size ≤ w'.heap.size) (hw : ∀ b, vblock v ≠ some b → b < w.heap.size → w'.heap[b]? = w.heap[b]?) (hos : w'.os = w.os ∧ w'.tape = w.tape ∧ w'.output = w.output) (hcont : Holds E w' v e) : MemOk base X w0 E (upd m t e) w' := by
  have hh : ∀ u b, Has E (upd m t e) u b → Has E m u b := by
    intro u b ⟨h1, h2⟩
    by_cases e2 : u = t
    · subst e2; exact ⟨hl, h2⟩
    · rw [upd_ne _ _ e2] at h1; exact ⟨h1, h2⟩
  have hne : ∀ b, E.lab b → vblock v ≠ some b := fun b hb hvb => (h.sep t b ⟨hl, v, hv, hvb⟩).1 hb
  refine h.go (Env.Le.refl E) ⟨hsz, fun b hb hlt => hw b (hne b hb) hlt⟩ (fun u => u = t) (fun u hu => ⟨upd_ne _ _ hu, rfl⟩) (fun u hu hm => (h.empty u hm).2)
    (fun u b hu hb => hw b (fun hvb => hu (h.inj u t b hb ⟨hl, v, hv, hvb⟩)) (h.lt hb))
    (fun u hu => by subst hu; rw [upd_self]; exact ⟨fun e2 => (by rw [e2] at hel; cases hel), fun _ => ⟨v, hv, hcont⟩⟩)
    (fun i b hb => ⟨Nat.lt_of_lt_of_le (h.lab i b hb).1 hsz, (h.lab i b hb).2⟩) h.dis (fun u b hb => h.sep u b (hh u b hb)) h.old (fun u x b h1 h2 => h.inj u x b (hh u b h1) (hh x b h2))
    ⟨hos.1, hos.2.1, hos.2.2, hsz, fun b hb hX => ?_⟩
  by_cases hvb : vblock v = some b
  · rcases (h.sep t b ⟨hl, v, hv, hvb⟩).2 with h1 | h1
    · omega
    · exact absurd h1 hX
  · exact hw b hvb (Nat.lt_of_lt_of_le hb h.base)
/-- a draw -/
theorem MemOk.drew {base : Nat} {X : Cx} {w0 w : World} {E : Env} {m : Nat → BE} (h : MemOk base X w0 E m w) (n : Nat) : MemOk base X w0 E m { w with drawn := n } :=
  h.go (Env.Le.refl E) ⟨Nat.le_refl _, fun _ _ _ => rfl⟩ (fun _ => False) (fun _ _ => ⟨rfl, rfl⟩) (fun t _ hm => (h.empty t hm).2) (fun _ _ _ _ => rfl) (fun _ h => h.elim) h.lab h.dis h.sep h.old h.inj ⟨rfl, rfl, rfl, Nat.le_refl _, fun _ _ _ => rfl⟩
theorem upd_comm (m : Nat → BE) {t c : Nat} (x y : BE) (h : t ≠ c) : upd (upd m t x) c y = upd (upd m c y) t x := by
  funext u
  unfold upd
  by_cases h1 : u = c
  · by_cases h2 : u = t
    · exact absurd (h2.symm.trans h1) h
    · simp [h1, h2]; intro e; exact absurd e.symm h
  · simp [h1]
theorem putF_one (t : Nat) (e : BE) (m : Nat → BE) : putF [(t, e)] m = upd m t e := rfl
theorem putF_cons (t : Nat) (e : BE) (r : List (Nat × BE)) (m : Nat → BE) : putF ((t, e) :: r) m = upd (putF r m) t e := rfl
end Go.Proofs.Yteiojclemodhaaa
