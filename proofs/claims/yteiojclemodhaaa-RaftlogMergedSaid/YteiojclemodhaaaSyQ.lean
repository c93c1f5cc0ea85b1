/- The symbolic walk: append of a row of the call's own to another one. Condition: fewer than 2^37 rows. -/
import Derived.Test.YteiojclemodhaaaSyP1
namespace Go.Proofs.Yteiojclemodhaaa
open Go.RowKit Go.ChangeShapes Go.WideShapes Go.Deep
set_option linter.unusedVariables false
set_option linter.unusedSimpArgs false
section ops
variable {P : Program} {base : Nat} {X : Cx} {w0 : World} {st : St}
def infoB (P : Program) (E : TypeId) (k : Nat) : Bool :=
  match P.info? E with
  | some i => match i.zero with
    | some z => i.size == k && Nat.ble i.bytes 1024 && z.cells.size == k
    | none => false
  | none => false
theorem infoB_ok {E : TypeId} {k : Nat} (h : infoB P E k = true) : ∃ bytes, bytes ≤ 1024 ∧ Info P E k bytes := by
  unfold infoB at h
  split at h
  case h_2 => simp at h
  rename_i i hi
  split at h
  case h_2 => simp at h
  rename_i z hz
  simp only [Bool.and_eq_true, beq_iff_eq, Nat.ble_eq] at h
  exact ⟨i.bytes, h.1.2, i, z, hi, hz, h.1.1, rfl, h.2⟩
/-- append(s, x..), both rows of the call's own -/
theorem run_appO {w : World} {t ty E : TypeId} {S : Nat → Prop} {fs : List Ty} (hk0 : 0 < fs.length) (hkb : fs.length ≤ 64) (ht : P.underlying t = some (.slice E)) (hi : infoB P E fs.length = true)
    {v xv : Value} {rows ds : List (List D)} {T2 : TypeId} {S2 : Nat → Prop} (hown : OwnR 0 w E S fs v rows) (hx : OwnR 0 w T2 S2 fs xv ds) (hS : ∀ b, S2 b → S b ∧ v.ownBlock ≠ some b) (hb : (rows.length + ds.length) * 1024 ≤ 140737488355328) :
    ∃ v' w', (Builtin.append_ #[t, t] ty #[v, xv]).run P w = .ok v' w' ∧ OwnR 0 w' E S fs v' (rows ++ ds) ∧ w.grownBy w' v.ownBlock ∧ (v'.ownBlock = v.ownBlock ∨ v'.ownBlock = some w.heap.size) := by
  obtain ⟨bytes, hbb, hI⟩ := infoB_ok hi
  obtain ⟨cells, ⟨hl, ⟨rfl, hn⟩ | ⟨g, cap, cur, rfl, hg, hh, hc, hm, hs, htk⟩⟩, hr⟩ := hx
  · have hnil : ds = [] := List.eq_nil_of_length_eq_zero hn
    subst hnil
    obtain ⟨i, z, e1, e2, e3, e4, e5⟩ := hI
    obtain ⟨cells, hoc, hr⟩ := hown
    refine ⟨v, w, ?_, by rw [List.append_nil]; exact ⟨cells, hoc, hr⟩, World.grownBy.refl _ _, .inl rfl⟩
    rcases hoc.2 with ⟨rfl, h2⟩ | ⟨g, cap, cur, rfl, _, _, hnc, _⟩
    · simp [Builtin.append_, run_underlying ht, sizeOf, typeInfo, e1, Builtin.lenOf, Builtin.firstCells]
    · simp [Builtin.append_, run_underlying ht, sizeOf, typeInfo, e1, Builtin.lenOf, Builtin.firstCells, hnc, storeCells]
  refine run_app rfl hk0 hkb hbb ht hI hown (Below.refl _ _) ⟨g, 0, none⟩ ds.length cap cells ds rfl hl (fun j u hu => ?_) (fun u hu => ?_) (fun i hi => (hr i hi).mono fun b _ hb => hS b hb.1) hb (Nat.zero_le _)
  · rw [← htk] at hu
    have hlt : j < ds.length * fs.length := by
      rw [htk] at hu
      have := (List.getElem?_eq_some_iff.1 hu).1
      omega
    rw [List.getElem?_take, if_pos hlt] at hu
    rw [WideShapes.add_plain, Nat.zero_add]
    simp only [World.cell?, hh]
    rw [← Array.getElem?_toList]; exact hu
  · obtain ⟨j, hj, e⟩ := List.getElem_of_mem hu
    have hjd : j / fs.length < ds.length := Nat.div_lt_of_lt_mul (by rw [Nat.mul_comm]; omega)
    have hm1 := Nat.mod_lt j hk0
    have hm2 := Nat.div_add_mod j fs.length
    rw [Nat.mul_comm] at hm2
    refine RdL.ones (hr (j / fs.length) hjd) u ?_
    refine List.mem_of_getElem? (i := j % fs.length) ?_
    rw [List.getElem?_take, if_pos hm1, List.getElem?_drop, hm2, List.getElem?_eq_getElem hj, e]
/-- append(s, x..), x only to be read -/
theorem run_appS {w : World} {t ty E : TypeId} {S : Nat → Prop} {fs : List Ty} (hk0 : 0 < fs.length) (hkb : fs.length ≤ 64) (ht : P.underlying t = some (.slice E)) (hi : infoB P E fs.length = true)
    {v : Value} {rows ds : List (List D)} {T : Nat → Prop} {ax : Option Addr} {m c : Nat} (hown : OwnR 0 w E S fs v rows) (hd : Sl w T fs ax m c ds) (hS : ∀ b, T b → S b ∧ v.ownBlock ≠ some b) (hb : (rows.length + ds.length) * 1024 ≤ 140737488355328) :
    ∃ v' w', (Builtin.append_ #[t, t] ty #[v, .slice ax m c]).run P w = .ok v' w' ∧ OwnR 0 w' E S fs v' (rows ++ ds) ∧ w.grownBy w' v.ownBlock ∧ (v'.ownBlock = v.ownBlock ∨ v'.ownBlock = some w.heap.size) := by
  obtain ⟨bytes, hbb, hI⟩ := infoB_ok hi
  have hlen := hd.len
  rw [hlen] at hb
  rcases ax with _ | ad
  · obtain ⟨h0, h0'⟩ := hd.bd.2.2.2 rfl
    subst h0; subst h0'
    have hnil : ds = [] := List.eq_nil_of_length_eq_zero hlen
    subst hnil
    obtain ⟨i, z, e1, e2, e3, e4, e5⟩ := hI
    obtain ⟨cells, hoc, hr⟩ := hown
    refine ⟨v, w, ?_, by rw [List.append_nil]; exact ⟨cells, hoc, hr⟩, World.grownBy.refl _ _, .inl rfl⟩
    rcases hoc.2 with ⟨rfl, h2⟩ | ⟨g, cap, cur, rfl, _, _, hnc, _⟩
    · simp [Builtin.append_, run_underlying ht, sizeOf, typeInfo, e1, Builtin.lenOf, Builtin.firstCells]
    · simp [Builtin.append_, run_underlying ht, sizeOf, typeInfo, e1, Builtin.lenOf, Builtin.firstCells, hnc, storeCells]
  · by_cases hp : 0 < m
    · obtain ⟨b, off, e, hS', hbl, vals, hc, hr⟩ := hd.rowAt hp
      cases e
      exact run_app (P := P) rfl hk0 hkb hbb ht hI hown (Below.refl _ _) ⟨b, off, none⟩ m c ((List.range m).flatMap fun i => (List.range fs.length).map (vals i)) ds hlen (flat_cells _ _ _)
        (fun j u hj => by
          obtain ⟨i, jj, h1, h2, rfl, rfl⟩ := flat_get _ _ _ _ _ hj
          rw [WideShapes.add_plain, ← Nat.add_assoc]
          exact hc i jj h1 h2)
        (fun u hu => by
          obtain ⟨j, hj⟩ := List.getElem?_of_mem hu
          obtain ⟨i, jj, h1, h2, _, rfl⟩ := flat_get _ _ _ _ _ hj
          exact ((hr i h1).2 jj (by omega)).one)
        (fun i hi => by
          rw [flat_at _ _ _ i (by omega)]
          exact RdL.of_at _ (hr i (by omega)).1 (fun j hj => Rd.mono ((hr i (by omega)).2 j hj) (fun b _ hb => hS b hb))) hb (Nat.zero_le _)
    · have h0 : m = 0 := by omega
      subst h0
      have hnil : ds = [] := List.eq_nil_of_length_eq_zero hlen
      subst hnil
      exact run_app (P := P) rfl hk0 hkb hbb ht hI hown (Below.refl _ _) ad 0 c [] [] rfl (by simp) (fun j u hj => by simp at hj) (fun u hu => by simp at hu) (fun i hi => by simp at hi) hb (Nat.zero_le _)
def dstOf (st : St) (e : TypeId) : SV → Option (Option Nat × List Nat × RL)
  | .own t => match st.m t with
    | .row Tb ls r => if Tb = e then some (some t, ls, r) else none
    | _ => none
  | .nil => match RL.ofT e with
    | some r => some (none, [], r)
    | none => none
  | _ => none
def srcOf (st : St) (r : RL) : SV → Option (Option Nat × List Nat × RL)
  | .own u => match st.m u with
    | .row _ ms q => some (some u, ms, q)
    | _ => none
  | .sl ms q => some (none, ms, q)
  | .nil => some (none, [], r.emp)
  | _ => none
def apart2 : Option Nat → Option Nat → Bool
  | some t, some u => !(Nat.beq t u)
  | _, _ => true
def killO : Option Nat → List (Nat × BE)
  | some t => [(t, .dead)]
  | none => []
theorem RdL.flat {w : World} {S T : Nat → Prop} : ∀ {fs : List Ty} {vs : List Value} {ds : List D}, fs.all Ty.flat = true → RdL w S fs vs ds → RdL w T fs vs ds
  | [], [], [], _, _ => trivial
  | t :: ts, v :: vs, d :: ds, hf, h => by
    simp only [List.all_cons, Bool.and_eq_true] at hf
    exact ⟨h.1.any hf.1, RdL.flat hf.2 h.2⟩
  | _ :: _, [], _, _, h => h.elim
  | _ :: _, _ :: _, [], _, h => h.elim
  | [], _ :: _, _, _, h => h.elim
  | [], [], _ :: _, _, h => h.elim
theorem OwnR.flat {b : Nat} {w : World} {T : TypeId} {S S2 : Nat → Prop} {fs : List Ty} {v : Value} {rows : List (List D)} (h : OwnR b w T S fs v rows) (hf : fs.all Ty.flat = true) : OwnR b w T S2 fs v rows := by
  obtain ⟨cells, ho, hr⟩ := h
  exact ⟨cells, ho, fun i hi => RdL.flat hf (hr i hi)⟩
def labA (r : RL) (ls ms : List Nat) : List Nat := if r.tys.all Ty.flat = true then [] else ls ++ ms
def cApp (P : Program) (st : St) (c : Nat) (T : TypeId) (x y : Operand) : Option Upd :=
  match sliceE P T with
  | none => none
  | some e => match dstOf st e (strip (st.ev x)).1 with
    | none => none
    | some (dt, ls, r) => match srcOf st r (strip (st.ev y)).1 with
      | none => none
      | some (su, ms, q) => if apart2 dt su = true then (if st.free c = true then (if infoB P e r.tys.length = true then (match r.app q with
        | some r2 => some ⟨(strip (st.ev x)).2 ++ (strip (st.ev y)).2 ++ [(r.len + q.len) * 1024 ≤ 140737488355328], .own c, killO dt ++ [(c, .row e (labA r ls ms) r2)]⟩
        | none => none) else none) else none) else none
theorem dstOf_ok {E : Env} {w : World} (hm : MemOk base X w0 E st.m w) {e : TypeId} {s : SV} {dt : Option Nat} {ls : List Nat} {r : RL} (h : dstOf st e s = some (dt, ls, r)) {v : Value} (hv : DenV E w s v) :
    OwnR 0 w e (E.set ls) r.tys v r.rows ∧ (∀ b, v.ownBlock = some b → ∃ t, dt = some t ∧ Has E st.m t b) ∧ (∀ t, dt = some t → (st.m t).live = true ∧ E.β t = some v) := by
  cases s
  case own t =>
    simp only [dstOf] at h
    split at h
    case h_2 => simp at h
    rename_i Tb ls2 r2 hmt
    split at h
    case isFalse => simp at h
    rename_i hT
    subst hT
    simp only [Option.some.injEq, Prod.mk.injEq] at h
    obtain ⟨rfl, rfl, rfl⟩ := h
    obtain ⟨v', hβ, ho⟩ := hm.row t _ _ _ hmt
    have hv1 := hv.1
    rw [hβ] at hv1
    simp only [Option.some.injEq] at hv1
    subst hv1
    obtain ⟨a, cc, ef⟩ := ho.form
    refine ⟨ho, fun b hb => ⟨t, rfl, by rw [hmt]; rfl, v', hβ, by rw [← vblock_own ⟨a, _, cc, ef⟩]; exact hb⟩, fun t2 ht2 => ?_⟩
    cases ht2
    exact ⟨by rw [hmt]; rfl, hβ⟩
  case nil =>
    simp only [dstOf] at h
    split at h
    case h_2 => simp at h
    rename_i r2 hr
    simp only [Option.some.injEq, Prod.mk.injEq] at h
    obtain ⟨rfl, rfl, rfl⟩ := h
    have : v = .slice none 0 0 := hv
    subst this
    refine ⟨by rw [RL.ofT_ok hr]; exact OwnR.nil _ _ _ _ _, fun b hb => ?_, fun t ht => ?_⟩
    · cases hb
    · cases ht
  all_goals simp [dstOf] at h
/-- what an append leaves of the memory -/
theorem app_fin {E : Env} {w w' : World} (hm : MemOk base X w0 E st.m w) {c : Nat} (hcE : st.m c = .empty) {dt : Option Nat} {v v' : Value} (hHas : ∀ b, v.ownBlock = some b → ∃ t, dt = some t ∧ Has E st.m t b) (hlive : ∀ t, dt = some t → (st.m t).live = true ∧ E.β t = some v)
    {e : TypeId} {lb : List Nat} {r2 : RL} (hO : OwnR 0 w' e (E.set lb) r2.tys v' r2.rows) (hgr : w.grownBy w' v.ownBlock) (hat : v'.ownBlock = v.ownBlock ∨ v'.ownBlock = some w.heap.size) :
    Same E.lab w w' ∧ E.Le (E.setβ c v') ∧ v'.oneCell' = true ∧ MemOk base X w0 (E.setβ c v') (putF (killO dt ++ [(c, .row e lb r2)]) st.m) w' := by
  have hnl : ∀ b, E.lab b → v.ownBlock ≠ some b := fun b hb e => by
    obtain ⟨t, _, hh⟩ := hHas b e
    exact (hm.sep t b hh).1 hb
  have hnv : ∀ b, E.lab b → some b ≠ v.ownBlock := fun b hb e => hnl b hb e.symm
  have hS : Same E.lab w w' := Same.of_grown hgr hnv
  have hE := Env.setβ_le (hm.empty c hcE).1 v'
  have hv'f : ∃ a n c, v' = .slice a n c := by obtain ⟨a, c, e⟩ := hO.form; exact ⟨a, _, c, e⟩
  obtain ⟨m1, hm1, hk, hm1c, hm1h⟩ : ∃ m1, m1 = putF (killO dt) st.m ∧ MemOk base X w0 E m1 w ∧ m1 c = .empty ∧ (∀ s b, Has E m1 s b → Has E st.m s b ∧ v.ownBlock ≠ some b) := by
    cases dt with
    | none =>
      refine ⟨st.m, rfl, hm, hcE, fun s b hh => ⟨hh, fun e => ?_⟩⟩
      obtain ⟨t, ht, _⟩ := hHas b e
      cases ht
    | some t =>
      have hct : c ≠ t := fun e => by
        have := (hlive t rfl).1
        rw [← e, hcE] at this; cases this
      refine ⟨upd st.m t .dead, rfl, hm.kill t, by rw [upd_ne _ _ hct]; exact hcE, fun s b hh => ?_⟩
      have hst : s ≠ t := fun e2 => by subst e2; have := hh.1; rw [upd_self] at this; cases this
      have hs2 : Has E st.m s b := ⟨by have := hh.1; rwa [upd_ne _ _ hst] at this, hh.2⟩
      refine ⟨hs2, fun e => ?_⟩
      obtain ⟨t2, ht2, hh2⟩ := hHas b e
      cases ht2
      exact hst (hm.inj s t b hs2 hh2)
  have hm' : MemOk base X w0 (E.setβ c v') (upd m1 c (.row e lb r2)) w' := by
    refine hk.take hm1c v' _ (by simp) hgr.size (fun b hb => ?_) ⟨hgr.os, hgr.tape, hgr.output, hgr.size, fun b hb hX => ?_⟩ (fun b hb => ?_) hO
    · have hlt : b < w.heap.size := by
        rcases hb with ⟨i, hi⟩ | ⟨s, hs⟩
        · exact (hk.lab i b hi).1
        · exact hk.lt hs
      refine hgr.block b hlt ?_
      rcases hb with hb | ⟨s, hs⟩
      · exact hnv b hb
      · exact fun e => (hm1h s b hs).2 e.symm
    · refine hgr.block b (Nat.lt_of_lt_of_le hb hm.base) (fun e => ?_)
      obtain ⟨t, _, hh⟩ := hHas b e.symm
      rcases (hm.sep t b hh).2 with h3 | h3
      · omega
      · exact hX h3
    · have hb : v'.ownBlock = some b := by rw [vblock_own hv'f]; exact hb
      rcases hat with e | e
      · rw [e] at hb
        obtain ⟨t, _, hh⟩ := hHas b hb
        exact ⟨(hm.sep t b hh).1, fun s hs => (hm1h s b hs).2 hb, (hm.sep t b hh).2⟩
      · rw [e] at hb
        simp only [Option.some.injEq] at hb
        subst hb
        exact ⟨fun ⟨i, hi⟩ => Nat.lt_irrefl _ (hm.lab i _ hi).1, fun s hs => Nat.lt_irrefl _ (hk.lt hs), .inl hm.base⟩
  refine ⟨hS, hE, by obtain ⟨a, n, c, e⟩ := hv'f; rw [e]; rfl, ?_⟩
  have e4 : putF (killO dt ++ [(c, .row e lb r2)]) st.m = upd m1 c (.row e lb r2) := by
    rw [hm1]
    cases dt with
    | none => rfl
    | some t =>
      have hct : t ≠ c := fun e => by
        have := (hlive t rfl).1
        rw [e, hcE] at this; cases this
      show upd (upd st.m c _) t .dead = upd (upd st.m t .dead) c _
      exact (upd_comm _ _ _ hct).symm
  rw [e4]; exact hm'
theorem cApp_ok (o : Oper) (c : Nat) (T : TypeId) (x y : Operand) (ho : o.op = .call { callee := .builtin .append, args := #[x, y], argTypes := #[T, T] }) {u : Upd} (hu : cApp P st c T x y = some u) : Does P base X w0 st o u := by
  unfold cApp at hu
  split at hu
  case h_1 => simp at hu
  rename_i e he
  split at hu
  case h_1 => simp at hu
  rename_i dt ls r hdst
  split at hu
  case h_1 => simp at hu
  rename_i su ms q hsrc
  split at hu
  case isFalse => simp at hu
  rename_i hap
  split at hu
  case isFalse => simp at hu
  rename_i hfree
  split at hu
  case isFalse => simp at hu
  rename_i hinfo
  split at hu
  case h_2 => simp at hu
  rename_i r2 hr2
  simp only [Option.some.injEq] at hu
  subst hu
  intro E a w K Q h hn hK
  have hx := strip_ok (h.ev x) (fun p hp => hn p (by simp [hp]))
  have hy := strip_ok (h.ev y) (fun p hp => hn p (by simp [hp]))
  have hbd : (r.len + q.len) * 1024 ≤ 140737488355328 := hn _ (by simp)
  obtain ⟨o1, hHas, hlive⟩ := dstOf_ok h.mem hdst hx
  obtain ⟨b1, b2, b3, b4⟩ := RL.app_ok hr2
  have hrl : r.rows.length = r.len := r.rows_len
  have hql : q.rows.length = q.len := q.rows_len
  have hcE := St.of_free hfree
  obtain ⟨v, hav⟩ : ∃ v, a.eval x = v := ⟨_, rfl⟩
  rw [hav] at hx o1 hHas hlive
  have hform : ∃ a n c, v = .slice a n c := by obtain ⟨a, c, e⟩ := o1.form; exact ⟨a, _, c, e⟩
  have hvo : v.ownBlock = vblock v := vblock_own hform
  have hnl : ∀ b, E.lab b → v.ownBlock ≠ some b := fun b hb e => by
    obtain ⟨t, _, hh⟩ := hHas b e
    exact (h.mem.sep t b hh).1 hb
  have hrun : ∃ v' w', (Builtin.append_ #[T, T] o.type #[v, a.eval y]).run P w = .ok v' w' ∧ OwnR 0 w' e (E.set (ls ++ ms)) r.tys v' (r.rows ++ q.rows) ∧ w.grownBy w' v.ownBlock ∧ (v'.ownBlock = v.ownBlock ∨ v'.ownBlock = some w.heap.size) := by
    have o1' := o1.mono (T := E.set (ls ++ ms)) (Nat.le_refl _) (fun b hb => Env.set_mono (fun i hi => List.mem_append_left _ hi) b hb)
    have hS : ∀ b, E.set ms b → E.set (ls ++ ms) b ∧ v.ownBlock ≠ some b := fun b hb => ⟨Env.set_mono (fun i hi => List.mem_append_right _ hi) b hb, hnl b (Env.set_lab hb)⟩
    cases hs : (strip (st.ev y)).1 with
    | own u =>
      rw [hs] at hsrc hy
      simp only [srcOf] at hsrc
      split at hsrc
      case h_2 => simp at hsrc
      rename_i Tu ms2 q2 hmu
      simp only [Option.some.injEq, Prod.mk.injEq] at hsrc
      obtain ⟨rfl, rfl, rfl⟩ := hsrc
      obtain ⟨xv, hβ, ho2⟩ := h.mem.row u _ _ _ hmu
      have hv1 := hy.1
      rw [hβ] at hv1
      simp only [Option.some.injEq] at hv1
      rw [b3] at ho2
      rw [← hv1]
      exact run_appO (RL.tys_pos r).1 (RL.tys_pos r).2 (sliceE_ok he) hinfo o1' ho2 hS (by rw [hrl, hql]; exact hbd)
    | sl ms2 q2 =>
      rw [hs] at hsrc hy
      simp only [srcOf, Option.some.injEq, Prod.mk.injEq] at hsrc
      obtain ⟨rfl, rfl, rfl⟩ := hsrc
      have hy : Rd w (E.set ms2) (.sl q2.tys) (a.eval y) (.sl q2.rows) := hy
      obtain ⟨ad, cc, e1, e2⟩ := hy.sl'
      rw [b3] at e2
      rw [e1]
      exact run_appS (RL.tys_pos r).1 (RL.tys_pos r).2 (sliceE_ok he) hinfo o1' e2 hS (by rw [hrl, hql]; exact hbd)
    | nil =>
      rw [hs] at hsrc hy
      simp only [srcOf, Option.some.injEq, Prod.mk.injEq] at hsrc
      obtain ⟨rfl, rfl, rfl⟩ := hsrc
      have hy : DenV E w (.sl [] r.emp) (a.eval y) := nilsl hy
      have hy : Rd w (E.set []) (.sl r.emp.tys) (a.eval y) (.sl r.emp.rows) := hy
      obtain ⟨ad, cc, e1, e2⟩ := hy.sl'
      rw [b3] at e2
      rw [e1]
      exact run_appS (RL.tys_pos r).1 (RL.tys_pos r).2 (sliceE_ok he) hinfo o1' e2 hS (by rw [hrl, hql]; exact hbd)
    | _ => rw [hs] at hsrc; simp [srcOf] at hsrc
  obtain ⟨v', w', hrun, hO, hgr, hat⟩ := hrun
  have hO2 : OwnR 0 w' e (E.set (labA r ls ms)) r2.tys v' r2.rows := by
    rw [b1, b2]
    unfold labA
    by_cases hf : r.tys.all Ty.flat = true
    · rw [if_pos hf]; exact hO.flat hf
    · rw [if_neg hf]; exact hO
  obtain ⟨hS, hE, hone, hm'⟩ := app_fin h.mem hcE hHas hlive hO2 hgr hat
  refine wp_value (v := v') (w' := w') ?_ (hK (E.setβ c v') w' v' hE hS ⟨if_pos rfl, hone⟩ hm')
  simp only [execOp, ho, resolve, invoke, builtin, Sem.run_bind, Sem.run_pure, Result.andThen_ok, List.map_toArray, List.map_cons, List.map_nil]
  rw [hav, hrun]; rfl
end ops
end Go.Proofs.Yteiojclemodhaaa
