/- The symbolic walk: one state as another one, with fewer things known, tags and labels renamed. No condition. -/
import Derived.Test.YteiojclemodhaaaSyI
namespace Go.Proofs.Yteiojclemodhaaa
open Go.RowKit Go.ChangeShapes Go.WideShapes Go.Deep
set_option linter.unusedVariables false
set_option linter.unusedSimpArgs false
def lookO {α : Type} : List (Nat × α) → Nat → Option α
  | [], _ => none
  | (k, v) :: r, t => bif Nat.beq k t then some v else lookO r t
theorem lookO_cons {α : Type} (k : Nat) (v : α) (r : List (Nat × α)) (t : Nat) : lookO ((k, v) :: r) t = if t = k then some v else lookO r t := by
  show (bif Nat.beq k t then some v else lookO r t) = _
  by_cases h : t = k
  · subst h; simp
  · have : Nat.beq k t = false := by
      cases hb : Nat.beq k t
      · rfl
      · exact absurd (Nat.eq_of_beq_eq_true hb).symm h
    rw [this, if_neg h]; rfl
theorem lookO_mem {α : Type} : ∀ {l : List (Nat × α)} {t : Nat} {v : α}, lookO l t = some v → (t, v) ∈ l
  | (k, u) :: r, t, v, h => by
    rw [lookO_cons] at h
    split at h
    · rename_i e; subst e
      simp only [Option.some.injEq] at h
      subst h; exact List.mem_cons_self ..
    · exact List.mem_cons_of_mem _ (lookO_mem h)
  | [], _, _, h => by simp [lookO] at h
theorem lookA_mem {α : Type} {d : α} : ∀ {l : List (Nat × α)} {t : Nat}, lookA d l t = d ∨ (t, lookA d l t) ∈ l
  | [], _ => .inl rfl
  | (k, u) :: r, t => by
    rw [lookA_cons]
    split
    · rename_i e; subst e; exact .inr (List.mem_cons_self ..)
    · rcases lookA_mem (d := d) (l := r) (t := t) with h | h
      · exact .inl h
      · exact .inr (List.mem_cons_of_mem _ h)
theorem lookA_none {α : Type} {d : α} : ∀ {l : List (Nat × α)} {t : Nat}, t ∉ l.map (·.1) → lookA d l t = d
  | [], _, _ => rfl
  | (k, u) :: r, t, h => by
    simp only [List.map_cons, List.mem_cons, not_or] at h
    rw [lookA_cons, if_neg h.1]; exact lookA_none h.2
abbrev Rho := List (Nat × Option Nat)
abbrev Lam := List (Nat × Nat)
/-- labels below nl stay -/
def labOf (nl : Nat) (la : Lam) (i : Nat) : Option Nat := bif Nat.blt i nl then some i else lookO la i
def okL (nl : Nat) (la : Lam) (ls ms : List Nat) : Bool := ms.all fun i => match labOf nl la i with
  | some k => ls.contains k
  | none => false
def firstNew (nl : Nat) : List Nat → Option Nat
  | [] => none
  | a :: r => bif Nat.ble nl a then some a else firstNew nl r
theorem firstNew_ok {nl : Nat} : ∀ {ls : List Nat} {l : Nat}, firstNew nl ls = some l → l ∈ ls ∧ nl ≤ l
  | a :: r, l, h => by
    simp only [firstNew] at h
    cases hb : Nat.ble nl a
    · rw [hb] at h; obtain ⟨h1, h2⟩ := firstNew_ok (ls := r) h; exact ⟨List.mem_cons_of_mem _ h1, h2⟩
    · rw [hb] at h
      simp only [cond_true, Option.some.injEq] at h
      subst h; exact ⟨List.mem_cons_self .., Nat.le_of_ble_eq_true hb⟩
  | [], _, h => by simp [firstNew] at h
abbrev LeR := Option (List Prop × List (Nat × Nat))
def leAnd (a b : LeR) : LeR := match a, b with
  | some (p, r), some (q, s) => some (p ++ q, r ++ s)
  | _, _ => none
def isSC (ρ : Rho) (t c : Nat) : Bool := match lookO ρ t with
  | some (some d) => d == c
  | _ => false
def isSN (ρ : Rho) (t : Nat) : Bool := match lookO ρ t with
  | some none => true
  | _ => false
/-- what the renaming is -/
structure Ren where
  nl : Nat
  nt : Nat
  ρ : Rho
  la : Lam
def leV0 (st : St) (R : Ren) : SV → SV → LeR
  | s, .any => some ([], [])
  | .int k n, .int k' m => if k = k' then some ([n = m], []) else none
  | .bool a, .bool b => some ([a = b], [])
  | .str a, .str b => some ([a = b], [])
  | .nil, .nil => some ([], [])
  | .nil, .sl _ r => some ([r.nilP], [])
  | .sl ms q, .sl ls r => if okL R.nl R.la ls ms then (match RL.eqP q r with | some p => some ([p], []) | none => none) else none
  | .own c, .own t => if isSC R.ρ t c then some ([], []) else none
  | .nil, .own t => if isSN R.ρ t then some ([], []) else none
  | .own c, .sl ls r => match firstNew R.nl ls with
    | some l => (match st.m c with
      | .row _ ms q => if okL R.nl R.la ls ms then (match RL.eqP q r with | some p => some ([p, q.len ≤ 17592186044416], [(c, l)]) | none => none) else none
      | _ => none)
    | none => none
  | .ptr c o, .ptr t o' => if isSC R.ρ t c then (if o = o' then some ([], []) else none) else none
  | .fn f, .fn g => if f = g then some ([], []) else none
  | _, _ => none
def leLs (f : SV → SV → LeR) : List SV → List SV → LeR
  | [], [] => some ([], [])
  | s :: ss, t :: ts => leAnd (f s t) (leLs f ss ts)
  | _, _ => none
def leVr (st : St) (R : Ren) : SV → SV → LeR
  | .rp ms T vs o, .rp ls T' us o' => if T = T' then (if o = o' then (if okL R.nl R.la ls ms then leLs (leV0 st R) vs us else none) else none) else none
  | s, t => leV0 st R s t
def leV1 (st : St) (R : Ren) : SV → SV → LeR
  | .agg vs, .agg us => leLs (leV0 st R) vs us
  | .clo f vs, .clo g us => if f = g then leLs (leVr st R) vs us else none
  | s, t => leVr st R s t
def leV (st : St) (R : Ren) : SV → SV → LeR
  | .tup vs, .tup us => leLs (leV1 st R) vs us
  | s, t => leV1 st R s t
def leB (st : St) (R : Ren) (t : Nat) : BE → LeR
  | .empty => none
  | .dead => some ([], [])
  | .cells T us => match lookO R.ρ t with
    | some (some c) => match st.m c with
      | .cells T' vs => if T = T' then (if us.all SV.flat then leLs (leV0 st R) vs us else none) else none
      | _ => none
    | _ => none
  | .row T ls r => match lookO R.ρ t with
    | some (some c) => match st.m c with
      | .row T' ms q => if T = T' then (if okL R.nl R.la ls ms then (match RL.eqP q r with | some p => some ([p], []) | none => none) else none) else none
      | _ => none
    | some none => some ([r.nilP], [])
    | none => none
def leBs (st : St) (R : Ren) : List (Nat × BE) → LeR
  | [] => some ([], [])
  | (t, e) :: r => leAnd (leB st R t e) (leBs st R r)
def leTs (st : St) (R : Ren) : List (Nat × SV) → LeR
  | [] => some ([], [])
  | (i, t) :: r => leAnd (leV1 st R (st.s i) t) (leTs st R r)
def valsR (mm : List (Nat × BE)) : Rho → List Nat
  | [] => []
  | (t, some c) :: r => bif (lookA .empty mm t).live then c :: valsR mm r else valsR mm r
  | (_, none) :: r => valsR mm r
def nodupN : List Nat → Bool
  | [] => true
  | a :: r => !r.contains a && nodupN r
/-- the renaming, read off -/
def addR (ρ : Rho) (t : Nat) (v : Option Nat) : Rho := match lookO ρ t with
  | some _ => ρ
  | none => ρ ++ [(t, v)]
def pair0 (ρ : Rho) : SV → SV → Rho
  | .own c, .own t => addR ρ t (some c)
  | .nil, .own t => addR ρ t none
  | .ptr c _, .ptr t _ => addR ρ t (some c)
  | _, _ => ρ
def pairL {α : Type} (f : α → SV → SV → α) : α → List SV → List SV → α
  | ρ, s :: ss, t :: ts => pairL f (f ρ s t) ss ts
  | ρ, _, _ => ρ
def pairR {α : Type} (f : α → SV → SV → α) (ρ : α) : SV → SV → α
  | .rp ms _ vs _, .rp ls _ us _ => pairL f (f ρ (.sl ms (.rInts [])) (.sl ls (.rInts []))) vs us
  | s, t => f ρ s t
def pair1 {α : Type} (f : α → SV → SV → α) (ρ : α) : SV → SV → α
  | .agg vs, .agg us => pairL f ρ vs us
  | .clo _ vs, .clo _ us => pairL (pairR f) ρ vs us
  | s, t => pairR f ρ s t
def pairV {α : Type} (f : α → SV → SV → α) (ρ : α) : SV → SV → α
  | .tup vs, .tup us => pairL (pair1 f) ρ vs us
  | s, t => pair1 f ρ s t
def pairT {α : Type} (f : α → SV → SV → α) (st : St) : α → List (Nat × SV) → α
  | ρ, [] => ρ
  | ρ, (i, t) :: r => pairT f st (pair1 f ρ (st.s i) t) r
def pairM {α : Type} (f : α → SV → SV → α) (st : St) (mm : List (Nat × BE)) : α → Rho → α
  | ρ, [] => ρ
  | ρ, (t, some c) :: r => match st.m c, lookA .empty mm t with
    | .cells _ vs, .cells _ us => pairM f st mm (pairL f ρ vs us) r
    | .row _ ms _, .row _ ls _ => pairM f st mm (f ρ (.sl ms (.rInts [])) (.sl ls (.rInts []))) r
    | _, _ => pairM f st mm ρ r
  | ρ, _ :: r => pairM f st mm ρ r
/-- labels: a new one goes to itself, if that is wanted (same), or to the first new one that is -/
def addL (nl : Nat) (same : Bool) (ls : List Nat) : Lam → List Nat → Lam
  | la, [] => la
  | la, i :: r => bif Nat.blt i nl then addL nl same ls la r else (match lookO la i with
    | some _ => addL nl same ls la r
    | none => bif (same && ls.contains i) then addL nl same ls (la ++ [(i, i)]) r else (match firstNew nl ls with
      | some l => addL nl same ls (la ++ [(i, l)]) r
      | none => addL nl same ls la r))
def lab0 (st : St) (nl : Nat) (same : Bool) (la : Lam) : SV → SV → Lam
  | .sl ms _, .sl ls _ => addL nl same ls la ms
  | .own c, .sl ls _ => match st.m c with
    | .row _ ms _ => addL nl same ls la ms
    | _ => la
  | _, _ => la
def idR : Nat → Rho
  | 0 => []
  | n + 1 => idR n ++ [(n, some n)]
/-- checks of a renaming -/
def okR (R : Ren) (mm : List (Nat × BE)) (rel : List (Nat × Nat)) : Bool :=
  nodupN (valsR mm R.ρ) && R.ρ.all (fun p => (mm.map (·.1)).contains p.1) && rel.all (fun p => !(valsR mm R.ρ).contains p.1 && Nat.ble R.nl p.2 && (mm.map (·.1)).contains p.2 && rel.all (fun q => !(p.1 == q.1) || p.2 == q.2)) &&
  R.la.all (fun p => Nat.ble R.nl p.2 && (mm.map (·.1)).contains p.2) && (List.range R.nl).all (fun i => (mm.map (·.1)).contains i) && (List.range R.nt).all (fun t => isSC R.ρ t t)
def renOut (nl nt : Nat) (st : St) (s out : SV) (mm : List (Nat × BE)) : Ren :=
  let ρ0 := pairV pair0 (idR nt) s out
  let ρ := pairM pair0 st mm ρ0 ρ0
  ⟨nl, nt, ρ, pairM (lab0 st nl false) st mm (pairV (lab0 st nl false) [] s out) ρ⟩
def leOut (nl nt : Nat) (st : St) (s out : SV) (mm : List (Nat × BE)) : LeR :=
  let R := renOut nl nt st s out mm
  match leAnd (leV st R s out) (leBs st R mm) with
  | some (ps, rel) => if okR R mm rel then some (ps, rel) else none
  | none => none
def renSt (nl nt : Nat) (st st' : St) : Ren :=
  let ρ0 := pairT pair0 st (idR nt) st'.tm
  let ρ := pairM pair0 st st'.mm ρ0 ρ0
  ⟨nl, nt, ρ, pairM (lab0 st nl true) st st'.mm (pairT (lab0 st nl true) st [] st'.tm) ρ⟩
def leSt (nl nt : Nat) (st st' : St) : LeR :=
  let R := renSt nl nt st st'
  match leAnd (leTs st R st'.tm) (leBs st R st'.mm) with
  | some (ps, rel) => if okR R st'.mm rel && Nat.beq st.nt st'.nt then some (ps, rel) else none
  | none => none
def Env.ren (E : Env) (st : St) (R : Ren) (rel : List (Nat × Nat)) : Env where
  β := fun t => match lookO R.ρ t with
    | some (some c) => E.β c
    | some none => some (.slice none 0 0)
    | none => none
  σ := fun i b => (∃ j, labOf R.nl R.la j = some i ∧ E.σ j b) ∨ ∃ c, (c, i) ∈ rel ∧ Has E st.m c b
section
variable {base : Nat} {X : Cx} {w0 : World}
theorem okL_ok {E : Env} {st : St} {R : Ren} {rel : List (Nat × Nat)} {ls ms : List Nat} (h : okL R.nl R.la ls ms = true) {b : Nat} (hb : E.set ms b) : (E.ren st R rel).set ls b := by
  obtain ⟨i, hi, hs⟩ := hb
  have := List.all_eq_true.1 h i hi
  split at this
  · rename_i k hk
    exact ⟨k, by simpa using this, .inl ⟨i, hk, hs⟩⟩
  · cases this
theorem isSC_ok {ρ : Rho} {t c : Nat} (h : isSC ρ t c = true) : lookO ρ t = some (some c) := by
  unfold isSC at h
  split at h
  · rename_i d e; rw [e]; have : d = c := by simpa using h
    rw [this]
  · cases h
theorem isSN_ok {ρ : Rho} {t : Nat} (h : isSN ρ t = true) : lookO ρ t = some none := by
  unfold isSN at h
  split at h
  · assumption
  · cases h
theorem ren_β {E : Env} {st : St} {R : Ren} {rel : List (Nat × Nat)} {t c : Nat} (h : lookO R.ρ t = some (some c)) : (E.ren st R rel).β t = E.β c := by
  show (match lookO R.ρ t with | some (some c) => E.β c | some none => some (.slice none 0 0) | none => none) = _
  rw [h]
theorem ren_βn {E : Env} {st : St} {R : Ren} {rel : List (Nat × Nat)} {t : Nat} (h : lookO R.ρ t = some none) : (E.ren st R rel).β t = some (.slice none 0 0) := by
  show (match lookO R.ρ t with | some (some c) => E.β c | some none => some (.slice none 0 0) | none => none) = _
  rw [h]
theorem leV0_ok {E : Env} {st : St} {w : World} (hm : MemOk base X w0 E st.m w) {R : Ren} {rel : List (Nat × Nat)} {s t : SV} {ps : List Prop} {rl : List (Nat × Nat)} (h : leV0 st R s t = some (ps, rl)) (hp : ∀ p ∈ ps, p) (hr : ∀ c, c ∈ rl → c ∈ rel) {v : Value} (hv : DenV E w s v) : DenV (E.ren st R rel) w t v := by
  unfold leV0 at h
  split at h
  · trivial
  · split at h
    case isFalse => simp at h
    rename_i k n k' m hk
    simp only [Option.some.injEq, Prod.mk.injEq] at h
    obtain ⟨rfl, rfl⟩ := h
    subst hk
    rw [← hp (n = m) (by simp)]; exact hv
  · simp only [Option.some.injEq, Prod.mk.injEq] at h
    obtain ⟨rfl, rfl⟩ := h
    rename_i a b
    rw [← hp (a = b) (by simp)]; exact hv
  · simp only [Option.some.injEq, Prod.mk.injEq] at h
    obtain ⟨rfl, rfl⟩ := h
    rename_i a b
    rw [← hp (a = b) (by simp)]; exact hv
  · exact hv
  · simp only [Option.some.injEq, Prod.mk.injEq] at h
    obtain ⟨rfl, rfl⟩ := h
    rename_i r
    have hz := RL.nilP_ok (hp r.nilP (by simp))
    have : v = .slice none 0 0 := hv
    subst this
    show Rd _ _ _ _ (.sl r.rows)
    rw [hz]
    exact .emp (fun _ => rfl) (by decide)
  · split at h
    case isFalse => simp at h
    split at h
    case h_2 => simp at h
    rename_i ms q ls r hok _ p hq
    simp only [Option.some.injEq, Prod.mk.injEq] at h
    obtain ⟨rfl, rfl⟩ := h
    have e := RL.eqP_ok hq (hp p (by simp))
    subst e
    exact Rd.mono hv (fun b _ hb => okL_ok hok hb)
  · split at h
    case isFalse => simp at h
    rename_i c t hc
    exact ⟨(ren_β (isSC_ok hc)).trans hv.1, hv.2⟩
  · split at h
    case isFalse => simp at h
    rename_i t hc
    have hv : v = .slice none 0 0 := hv
    subst hv
    exact ⟨ren_βn (isSN_ok hc), rfl⟩
  · split at h
    case h_2 => simp at h
    split at h
    case h_2 => simp at h
    split at h
    case isFalse => simp at h
    split at h
    case h_2 => simp at h
    rename_i c ls r _ l h1 _ T ms q hmc hok _ p hq
    simp only [Option.some.injEq, Prod.mk.injEq] at h
    obtain ⟨rfl, rfl⟩ := h
    have e := RL.eqP_ok hq (hp p (by simp))
    have hle : q.len ≤ 17592186044416 := hp (q.len ≤ 17592186044416) (by simp)
    subst e
    obtain ⟨v', hβ, ho⟩ := hm.row c T ms q hmc
    have hv1 := hv.1
    rw [hβ] at hv1
    simp only [Option.some.injEq] at hv1
    subst hv1
    have hf := ho.form
    obtain ⟨a, cc, ef⟩ := hf
    have hs := ho.slO ((E.ren st R rel).set ls) (fun b hb => okL_ok hok hb) (fun b _ hb => ⟨l, (firstNew_ok h1).1, .inr ⟨c, hr (c, l) (by simp), by rw [hmc]; rfl, v', hβ, by rw [← vblock_own ⟨a, _, cc, ef⟩]; exact hb⟩⟩) (by rw [q.rows_len]; exact hle)
    obtain ⟨a2, c2, e2, h2⟩ := hs
    rw [e2]; exact h2
  · split at h
    case isFalse => simp at h
    split at h
    case isFalse => simp at h
    rename_i c o t o' hc ho
    subst ho
    obtain ⟨b, h1, h2⟩ := hv
    exact ⟨b, (ren_β (isSC_ok hc)).trans h1, h2⟩
  · split at h
    case isFalse => simp at h
    rename_i e
    subst e; exact hv
  · simp at h
theorem leAnd_ok {a b : LeR} {ps : List Prop} {rl : List (Nat × Nat)} (h : leAnd a b = some (ps, rl)) : ∃ p r q s, a = some (p, r) ∧ b = some (q, s) ∧ ps = p ++ q ∧ rl = r ++ s := by
  unfold leAnd at h
  split at h
  · simp only [Option.some.injEq, Prod.mk.injEq] at h
    exact ⟨_, _, _, _, rfl, rfl, h.1.symm, h.2.symm⟩
  · simp at h
theorem leLs_ok {E E' : Env} {w : World} {rel : List (Nat × Nat)} {f : SV → SV → LeR} (hf : ∀ s t ps rl, f s t = some (ps, rl) → (∀ p ∈ ps, p) → (∀ c, c ∈ rl → c ∈ rel) → ∀ v, DenV E w s v → DenV E' w t v) : ∀ (ss ts : List SV) (ps : List Prop) (rl : List (Nat × Nat)), leLs f ss ts = some (ps, rl) → (∀ p ∈ ps, p) → (∀ c, c ∈ rl → c ∈ rel) → ss.length = ts.length ∧ ∀ vs, DenL E w ss vs → DenL E' w ts vs
  | [], [], _, _, _, _, _ => ⟨rfl, fun vs h => by cases vs <;> first | trivial | exact h.elim⟩
  | s :: ss, t :: ts, ps, rl, h, hp, hr => by
    obtain ⟨p, r, q, s2, h1, h2, rfl, rfl⟩ := leAnd_ok h
    obtain ⟨h3, h4⟩ := leLs_ok hf ss ts q s2 h2 (fun p hp' => hp p (List.mem_append_right _ hp')) (fun c hc => hr c (List.mem_append_right _ hc))
    refine ⟨by simp [h3], fun vs hv => ?_⟩
    match vs, hv with
    | v :: vs, hv => exact ⟨hf s t p r h1 (fun p hp' => hp p (List.mem_append_left _ hp')) (fun c hc => hr c (List.mem_append_left _ hc)) v hv.1, h4 vs hv.2⟩
  | [], _ :: _, _, _, h, _, _ => by simp [leLs] at h
  | _ :: _, [], _, _, h, _, _ => by simp [leLs] at h
theorem leVr_ok {E : Env} {st : St} {w : World} (hm : MemOk base X w0 E st.m w) {R : Ren} {rel : List (Nat × Nat)} (s t : SV) (ps : List Prop) (rl : List (Nat × Nat)) (h : leVr st R s t = some (ps, rl)) (hp : ∀ p ∈ ps, p) (hr : ∀ c, c ∈ rl → c ∈ rel) (v : Value) (hv : DenV E w s v) : DenV (E.ren st R rel) w t v := by
  unfold leVr at h
  split at h
  · split at h
    case isFalse => simp at h
    split at h
    case isFalse => simp at h
    split at h
    case isFalse => simp at h
    rename_i e1 e2 hok
    subst e1; subst e2
    obtain ⟨b, xs, h1, h2, h3, h4⟩ := hv
    exact ⟨b, xs, h1, okL_ok hok h2, h3, (leLs_ok (fun s t ps rl h hp hr v hv => leV0_ok hm h hp hr hv) _ _ _ _ h hp hr).2 xs h4⟩
  · exact leV0_ok hm h hp hr hv
theorem leV1_ok {E : Env} {st : St} {w : World} (hm : MemOk base X w0 E st.m w) {R : Ren} {rel : List (Nat × Nat)} (s t : SV) (ps : List Prop) (rl : List (Nat × Nat)) (h : leV1 st R s t = some (ps, rl)) (hp : ∀ p ∈ ps, p) (hr : ∀ c, c ∈ rl → c ∈ rel) (v : Value) (hv : DenV E w s v) : DenV (E.ren st R rel) w t v := by
  unfold leV1 at h
  split at h
  · obtain ⟨xs, h1, h2⟩ := hv
    exact ⟨xs, h1, (leLs_ok (fun s t ps rl h hp hr v hv => leV0_ok hm h hp hr hv) _ _ _ _ h hp hr).2 xs h2⟩
  · split at h
    case isFalse => simp at h
    rename_i e
    subst e
    obtain ⟨xs, h1, h2⟩ := hv
    exact ⟨xs, h1, (leLs_ok (leVr_ok hm) _ _ _ _ h hp hr).2 xs h2⟩
  · exact leVr_ok hm _ _ _ _ h hp hr v hv
theorem leV_ok {E : Env} {st : St} {w : World} (hm : MemOk base X w0 E st.m w) {R : Ren} {rel : List (Nat × Nat)} (s t : SV) (ps : List Prop) (rl : List (Nat × Nat)) (h : leV st R s t = some (ps, rl)) (hp : ∀ p ∈ ps, p) (hr : ∀ c, c ∈ rl → c ∈ rel) (v : Value) (hv : DenV E w s v) : DenV (E.ren st R rel) w t v := by
  unfold leV at h
  split at h
  · obtain ⟨xs, h1, h2⟩ := hv
    exact ⟨xs, h1, (leLs_ok (fun s t ps rl h hp hr v hv => leV1_ok hm s t ps rl h hp hr v hv) _ _ _ _ h hp hr).2 xs h2⟩
  · exact leV1_ok hm s t ps rl h hp hr v hv
theorem leBs_at {st : St} {R : Ren} : ∀ (mm : List (Nat × BE)) (ps : List Prop) (rl : List (Nat × Nat)), leBs st R mm = some (ps, rl) → ∀ t e, (t, e) ∈ mm → ∃ p r, leB st R t e = some (p, r) ∧ (∀ x, x ∈ p → x ∈ ps) ∧ ∀ x, x ∈ r → x ∈ rl
  | (t0, e0) :: mm, ps, rl, h, t, e, he => by
    obtain ⟨p, r, q, s2, h1, h2, rfl, rfl⟩ := leAnd_ok h
    rcases List.mem_cons.1 he with e1 | e1
    · cases e1
      exact ⟨p, r, h1, fun x hx => List.mem_append_left _ hx, fun x hx => List.mem_append_left _ hx⟩
    · obtain ⟨p2, r2, h3, h4, h5⟩ := leBs_at mm q s2 h2 t e e1
      exact ⟨p2, r2, h3, fun x hx => List.mem_append_right _ (h4 x hx), fun x hx => List.mem_append_right _ (h5 x hx)⟩
  | [], _, _, _, t, e, he => by cases he
theorem leTs_at {st : St} {R : Ren} : ∀ (tm : List (Nat × SV)) (ps : List Prop) (rl : List (Nat × Nat)), leTs st R tm = some (ps, rl) → ∀ t e, (t, e) ∈ tm → ∃ p r, leV1 st R (st.s t) e = some (p, r) ∧ (∀ x, x ∈ p → x ∈ ps) ∧ ∀ x, x ∈ r → x ∈ rl
  | (t0, e0) :: mm, ps, rl, h, t, e, he => by
    obtain ⟨p, r, q, s2, h1, h2, rfl, rfl⟩ := leAnd_ok h
    rcases List.mem_cons.1 he with e1 | e1
    · cases e1
      exact ⟨p, r, h1, fun x hx => List.mem_append_left _ hx, fun x hx => List.mem_append_left _ hx⟩
    · obtain ⟨p2, r2, h3, h4, h5⟩ := leTs_at mm q s2 h2 t e e1
      exact ⟨p2, r2, h3, fun x hx => List.mem_append_right _ (h4 x hx), fun x hx => List.mem_append_right _ (h5 x hx)⟩
  | [], _, _, _, t, e, he => by cases he
theorem mem_vals {mm : List (Nat × BE)} : ∀ {ρ : Rho} {t c : Nat}, (t, some c) ∈ ρ → (lookA .empty mm t).live = true → c ∈ valsR mm ρ
  | (k, u) :: r, t, c, h, hl => by
    rcases List.mem_cons.1 h with e | h2
    · cases e; simp only [valsR, hl, cond_true]; exact List.mem_cons_self ..
    · cases u with
      | none => exact mem_vals (ρ := r) h2 hl
      | some d =>
        simp only [valsR]
        cases (lookA BE.empty mm k).live
        · exact mem_vals (ρ := r) h2 hl
        · exact List.mem_cons_of_mem _ (mem_vals (ρ := r) h2 hl)
  | [], _, _, h, _ => by cases h
theorem nodup_inj {mm : List (Nat × BE)} : ∀ {ρ : Rho} {t u c : Nat}, nodupN (valsR mm ρ) = true → lookO ρ t = some (some c) → lookO ρ u = some (some c) → (lookA .empty mm t).live = true → (lookA .empty mm u).live = true → t = u
  | (k, v) :: r, t, u, c, hn, h1, h2, l1, l2 => by
    rw [lookO_cons] at h1 h2
    by_cases e1 : t = k
    · by_cases e2 : u = k
      · rw [e1, e2]
      · rw [if_pos e1] at h1
        rw [if_neg e2] at h2
        simp only [Option.some.injEq] at h1
        subst h1; subst e1
        simp only [valsR, l1, cond_true, nodupN, Bool.and_eq_true] at hn
        have := mem_vals (lookO_mem h2) l2
        simp [this] at hn
    · by_cases e2 : u = k
      · rw [if_neg e1] at h1
        rw [if_pos e2] at h2
        simp only [Option.some.injEq] at h2
        subst h2; subst e2
        simp only [valsR, l2, cond_true, nodupN, Bool.and_eq_true] at hn
        have := mem_vals (lookO_mem h1) l1
        simp [this] at hn
      · rw [if_neg e1] at h1
        rw [if_neg e2] at h2
        refine nodup_inj ?_ h1 h2 l1 l2
        cases v with
        | none => exact hn
        | some d =>
          simp only [valsR] at hn
          cases hl : (lookA BE.empty mm k).live
          · rw [hl] at hn; exact hn
          · rw [hl] at hn; simp only [cond_true, nodupN, Bool.and_eq_true] at hn; exact hn.2
  | [], _, _, _, _, h, _, _, _ => by simp [lookO] at h
/-- the memory under the renaming -/
theorem MemOk.ren {E : Env} {st : St} {w : World} (hm : MemOk base X w0 E st.m w) {R : Ren} {rel : List (Nat × Nat)} {mm : List (Nat × BE)} {ps : List Prop} {rl : List (Nat × Nat)} (h : leBs st R mm = some (ps, rl)) (hp : ∀ p ∈ ps, p) (hr : ∀ c, c ∈ rl → c ∈ rel) (hok : okR R mm rel = true)
    (hnl : X.nl = R.nl) (hB : ∀ t v, X.B t = some v → t < R.nt) : MemOk base X w0 (E.ren st R rel) (lookA .empty mm) w := by
  simp only [okR, Bool.and_eq_true] at hok
  obtain ⟨⟨⟨⟨⟨hnd, hrg⟩, hrel⟩, hla⟩, hlow⟩, hid⟩ := hok
  have hkey : ∀ t v, lookO R.ρ t = some v → t ∈ mm.map (·.1) := fun t v hv => by
    have := List.all_eq_true.1 hrg _ (lookO_mem hv)
    simpa using this
  have hat : ∀ t e, (t, e) ∈ mm → ∃ p r, leB st R t e = some (p, r) ∧ (∀ x, x ∈ p → x) ∧ ∀ x, x ∈ r → x ∈ rel := by
    intro t e he
    obtain ⟨p, r, h1, h2, h3⟩ := leBs_at mm ps rl h t e he
    exact ⟨p, r, h1, fun x hx => hp x (h2 x hx), fun x hx => hr x (h3 x hx)⟩
  have hin : ∀ t e, lookA .empty mm t = e → e ≠ .empty → (t, e) ∈ mm := by
    intro t e he hne
    rcases lookA_mem (d := BE.empty) (l := mm) (t := t) with h1 | h1
    · exact absurd (he ▸ h1) hne
    · rw [he] at h1; exact h1
  have hnkey : ∀ t, lookA .empty mm t = .empty → t ∉ mm.map (·.1) := by
    intro t ht hk
    obtain ⟨⟨t', e⟩, hp2, rfl⟩ := List.mem_map.1 hk
    rcases lookA_mem (d := BE.empty) (l := mm) (t := t') with h1 | h1
    · have key : ∀ (l : List (Nat × BE)) (t : Nat), t ∈ l.map (·.1) → (∀ e, (t, e) ∈ l → e ≠ .empty) → lookA .empty l t ≠ .empty := by
        intro l
        induction l with
        | nil => intro t h; cases h
        | cons q l ih =>
          obtain ⟨k, e⟩ := q
          intro t hk hne
          rw [lookA_cons]
          by_cases hx : t = k
          · rw [if_pos hx]; exact hne e (by rw [hx]; exact List.mem_cons_self ..)
          · rw [if_neg hx]
            simp only [List.map_cons, List.mem_cons] at hk
            exact ih t (hk.resolve_left hx) (fun e he => hne e (List.mem_cons_of_mem _ he))
      refine key mm t' (List.mem_map.2 ⟨_, hp2, rfl⟩) (fun e he h0 => ?_) ht
      obtain ⟨p, r, h2, _⟩ := hat t' e he
      rw [h0] at h2
      simp [leB] at h2
    · obtain ⟨p, r, h2, _⟩ := hat t' _ h1
      rw [show lookA BE.empty mm t' = BE.empty from ht] at h2
      simp [leB] at h2
  -- a label's origin
  have hlab : ∀ j i, labOf R.nl R.la j = some i → (j < R.nl ∧ i = j) ∨ (R.nl ≤ j ∧ R.nl ≤ i ∧ i ∈ mm.map (·.1)) := by
    intro j i hj
    unfold labOf at hj
    rw [blt_if] at hj
    split at hj
    · rename_i hlt
      simp only [Option.some.injEq] at hj
      exact .inl ⟨hlt, hj.symm⟩
    · rename_i hlt
      have := List.all_eq_true.1 hla _ (lookO_mem hj)
      simp only [Bool.and_eq_true] at this
      exact .inr ⟨by omega, Nat.le_of_ble_eq_true this.1, by simpa using this.2⟩
  have hrl : ∀ c i, (c, i) ∈ rel → c ∉ valsR mm R.ρ ∧ R.nl ≤ i ∧ i ∈ mm.map (·.1) ∧ ∀ i', (c, i') ∈ rel → i = i' := by
    intro c i hc
    have := List.all_eq_true.1 hrel _ hc
    simp only [Bool.and_eq_true, Bool.not_eq_true'] at this
    obtain ⟨⟨⟨h1, h2⟩, h3⟩, h4⟩ := this
    refine ⟨by simpa using h1, Nat.le_of_ble_eq_true h2, by simpa using h3, fun i' hi' => ?_⟩
    have := List.all_eq_true.1 h4 _ hi'
    simpa using this
  -- a tag that has a block has that of the tag it stands for
  have hhas : ∀ t b, Has (E.ren st R rel) (lookA .empty mm) t b → ∃ c, lookO R.ρ t = some (some c) ∧ Has E st.m c b := by
    intro t b ⟨hlive, v, hv, hvb⟩
    have hv : (match lookO R.ρ t with | some (some c) => E.β c | some none => some (.slice none 0 0) | none => none) = some v := hv
    have hme := hin t _ rfl (fun e => by rw [e] at hlive; cases hlive)
    obtain ⟨p, r, h1, _⟩ := hat t _ hme
    generalize lookA BE.empty mm t = e at *
    cases hlk : lookO R.ρ t with
    | none => rw [hlk] at hv; cases hv
    | some o =>
      cases o with
      | none => rw [hlk] at hv; simp only [Option.some.injEq] at hv; subst hv; simp [vblock] at hvb
      | some c =>
        rw [hlk] at hv
        refine ⟨c, rfl, ?_, v, hv, hvb⟩
        cases e with
        | empty => cases hlive
        | dead => cases hlive
        | cells T us =>
          simp only [leB, hlk] at h1
          split at h1
          · rename_i e2; rw [e2]; rfl
          · simp at h1
        | row T ls q =>
          simp only [leB, hlk] at h1
          split at h1
          · rename_i e2; rw [e2]; rfl
          · simp at h1
  refine ⟨fun t ht => ?_, fun t T us ht => ?_, fun t T ls r ht => ?_, fun i b hb => ?_, fun i j b h1 h2 => ?_, fun i hi he => ?_, fun t b hb => ?_, fun i b hi hb => ?_, fun t u b h1 h2 => ?_, fun t v hv => ?_, hm.below, hm.base⟩
  · have hnk := hnkey t ht
    have hnl2 : lookO R.ρ t = none := by
      cases hlk : lookO R.ρ t with
      | none => rfl
      | some v => exact absurd (hkey t v hlk) hnk
    refine ⟨?_, fun b hb => ?_⟩
    · show (match lookO R.ρ t with | some (some c) => E.β c | some none => some (.slice none 0 0) | none => none) = none
      rw [hnl2]
    · rcases hb with ⟨j, hj, hs⟩ | ⟨c, hc, _⟩
      · rcases hlab j t hj with ⟨h1, rfl⟩ | ⟨_, _, h3⟩
        · have := List.all_eq_true.1 hlow t (List.mem_range.2 h1)
          exact hnk (by simpa using this)
        · exact hnk h3
      · exact hnk (hrl c t hc).2.2.1
  · obtain ⟨p, r, h1, h2, h3⟩ := hat t _ (hin t _ ht (by simp))
    simp only [leB] at h1
    split at h1
    case h_2 => simp at h1
    rename_i c hlk
    split at h1
    case h_2 => simp at h1
    rename_i T' vs hc
    split at h1
    case isFalse => simp at h1
    split at h1
    case isFalse => simp at h1
    rename_i hT hf
    subst hT
    obtain ⟨b, xs, c1, c2, c3, c4⟩ := hm.cells c _ _ hc
    exact ⟨b, xs, (ren_β hlk).trans c1, c2, (leLs_ok (fun s t ps rl h hp hr v hv => leV0_ok hm h hp hr hv) _ _ _ _ h1 h2 h3).2 xs c3, hf⟩
  · obtain ⟨p, r2, h1, h2, h3⟩ := hat t _ (hin t _ ht (by simp))
    simp only [leB] at h1
    split at h1
    · rename_i c hlk
      split at h1
      case h_2 => simp at h1
      rename_i T' ms q hc
      split at h1
      case isFalse => simp at h1
      split at h1
      case isFalse => simp at h1
      split at h1
      case h_2 => simp at h1
      rename_i hT hoke _ pp hq
      subst hT
      simp only [Option.some.injEq, Prod.mk.injEq] at h1
      obtain ⟨rfl, rfl⟩ := h1
      have e := RL.eqP_ok hq (h2 pp (by simp))
      subst e
      obtain ⟨v, c1, c2⟩ := hm.row c _ _ _ hc
      exact ⟨v, (ren_β hlk).trans c1, c2.mono (Nat.le_refl _) (fun b hb => okL_ok hoke hb)⟩
    · rename_i hlk
      simp only [Option.some.injEq, Prod.mk.injEq] at h1
      obtain ⟨rfl, rfl⟩ := h1
      have hz := RL.nilP_ok (h2 r.nilP (by simp))
      exact ⟨.slice none 0 0, ren_βn hlk, by rw [hz]; exact OwnR.nil _ _ _ _ _⟩
    · simp at h1
  · rcases hb with ⟨j, hj, hs⟩ | ⟨c, hc, hh⟩
    · refine ⟨(hm.lab j b hs).1, fun hi => ?_⟩
      rcases hlab j i hj with ⟨h1, rfl⟩ | ⟨h1, _, _⟩
      · omega
      · exact (hm.lab j b hs).2 (by omega)
    · exact ⟨hm.lt hh, fun _ => (hm.sep c b hh).2⟩
  · rcases h1 with ⟨j1, hj1, hs1⟩ | ⟨c1, hc1, hh1⟩
    · rcases h2 with ⟨j2, hj2, hs2⟩ | ⟨c2, hc2, hh2⟩
      · have := hm.dis j1 j2 b hs1 hs2
        subst this
        rw [hj1] at hj2
        simpa using hj2
      · exact absurd ⟨j1, hs1⟩ (hm.sep c2 b hh2).1
    · rcases h2 with ⟨j2, hj2, hs2⟩ | ⟨c2, hc2, hh2⟩
      · exact absurd ⟨j2, hs2⟩ (hm.sep c1 b hh1).1
      · have := hm.inj c1 c2 b hh1 hh2
        subst this
        exact (hrl c1 i hc1).2.2.2 j hc2
  · have := List.all_eq_true.1 hlow i (List.mem_range.2 (by omega))
    exact hnkey i he (by simpa using this)
  · obtain ⟨c, hlk, hh⟩ := hhas t b hb
    refine ⟨fun ⟨i, hs⟩ => ?_, (hm.sep c b hh).2⟩
    rcases hs with ⟨j, _, hs⟩ | ⟨c', hc', hh'⟩
    · exact (hm.sep c b hh).1 ⟨j, hs⟩
    · have e := hm.inj c c' b hh hh'
      subst e
      exact (hrl c i hc').1 (mem_vals (lookO_mem hlk) hb.1)
  · rcases hb with ⟨j, hj, hs⟩ | ⟨c, hc, _⟩
    · rcases hlab j i hj with ⟨h1, rfl⟩ | ⟨_, h2, _⟩
      · exact hm.old i b hi hs
      · omega
    · have := (hrl c i hc).2.1; omega
  · obtain ⟨c, hc1, hc2⟩ := hhas t b h1
    obtain ⟨d, hd1, hd2⟩ := hhas u b h2
    have e := hm.inj c d b hc2 hd2
    subst e
    exact nodup_inj hnd hc1 hd1 h1.1 h2.1
  · have ht := hB t v hv
    have := List.all_eq_true.1 hid t (List.mem_range.2 ht)
    exact (ren_β (isSC_ok this)).trans (hm.keep t v hv)
/-- one state as another one -/
theorem leSt_ok {nl nt : Nat} {st st' : St} {ps : List Prop} {rl : List (Nat × Nat)} (h : leSt nl nt st st' = some (ps, rl)) (hp : ∀ p ∈ ps, p) (hnl : X.nl = nl) (hB : ∀ t v, X.B t = some v → t < nt) {E : Env} {a : Act} {w : World} (ho : st.Ok base X w0 E a w) : ∃ E', st'.Ok base X w0 E' a w := by
  unfold leSt at h
  simp only at h
  split at h
  case h_2 => simp at h
  rename_i ps2 rel he
  split at h
  case isFalse => simp at h
  rename_i hok
  simp only [Option.some.injEq, Prod.mk.injEq] at h
  obtain ⟨rfl, rfl⟩ := h
  obtain ⟨hok1, hok2⟩ := Bool.and_eq_true _ _ ▸ hok
  obtain ⟨p, r, q, s, h1, h2, rfl, rfl⟩ := leAnd_ok he
  refine ⟨E.ren st (renSt nl nt st st') (r ++ s), ho.defers, ho.size.trans (Nat.eq_of_beq_eq_true hok2), fun i => ?_, ho.mem.ren h2 (fun x hx => hp x (List.mem_append_right _ hx)) (fun c hc => List.mem_append_right _ hc) hok1 hnl hB⟩
  rcases lookA_mem (d := SV.any) (l := st'.tm) (t := i) with h3 | h3
  · show DenV _ w (lookA .any st'.tm i) _
    rw [h3]; trivial
  · obtain ⟨p2, r2, h4, h5, h6⟩ := leTs_at _ _ _ h1 i _ h3
    exact leV1_ok ho.mem _ _ p2 r2 h4 (fun x hx => hp x (List.mem_append_left _ (h5 x hx))) (fun c hc => List.mem_append_left _ (h6 c hc)) _ (ho.tm i)
end
end Go.Proofs.Yteiojclemodhaaa
