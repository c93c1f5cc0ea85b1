/- The symbolic walk: copy of numbers, parts of rows. No condition. -/
import Derived.Test.YteiojclemodhaaaSyY
namespace Go.Proofs.Yteiojclemodhaaa
open Go.RowKit Go.ChangeShapes Go.WideShapes Go.Deep
set_option linter.unusedVariables false
set_option linter.unusedSimpArgs false
theorem OwnR.intsC {w : World} {T : TypeId} {S : Nat → Prop} {v : Value} {l : List Int} (h : OwnR 0 w T S [.int .i64] v (ints l)) : w.ownsRow 0 T 1 v l.length (l.map (Value.int .i64)) ∧ ∀ x ∈ l, I64 x := by
  obtain ⟨cells, ho, hr⟩ := h
  rw [ints_len] at ho hr
  have hl : cells.length = l.length := by have := ho.1; simpa using this
  have hat : ∀ i, (hi : i < l.length) → cells[i]? = some (.int .i64 l[i]) ∧ I64 l[i] := by
    intro i hi
    have := hr i hi
    have e2 : (ints l).getD i [] = [.int l[i]] := by simp [ints, List.getD, hi]
    rw [e2] at this
    have e3 : (cells.drop (i * [Ty.int .i64].length)).take [Ty.int .i64].length = [cells[i]'(by omega)] := by
      show (cells.drop (i * 1)).take 1 = _
      rw [Nat.mul_one, List.drop_eq_getElem_cons (by omega), List.take_succ_cons, List.take_zero]
    rw [e3] at this
    obtain ⟨e4, h5⟩ := this.1.i64
    exact ⟨by rw [List.getElem?_eq_getElem (by omega), e4], h5⟩
  have e : cells = l.map (Value.int .i64) := by
    apply List.ext_getElem?
    intro i
    by_cases hi : i < l.length
    · rw [(hat i hi).1]; simp [hi]
    · rw [List.getElem?_eq_none (by omega), List.getElem?_eq_none (by simp; omega)]
  refine ⟨by rw [← e]; exact ho, fun x hx => ?_⟩
  obtain ⟨i, hi, rfl⟩ := List.mem_iff_getElem.1 hx
  exact (hat i hi).2
theorem OwnR.ofC {w : World} {T : TypeId} {S : Nat → Prop} {v : Value} {l : List Int} (h : w.ownsRow 0 T 1 v l.length (l.map (Value.int .i64))) (hx : ∀ x ∈ l, I64 x) : OwnR 0 w T S [.int .i64] v (ints l) := by
  refine ⟨l.map (Value.int .i64), by rw [ints_len]; exact h, fun i hi => ?_⟩
  rw [ints_len] at hi
  have e1 : (((l.map (Value.int .i64)).drop (i * 1)).take 1) = [.int .i64 (l[i])] := by
    rw [Nat.mul_one, List.drop_eq_getElem_cons (by simpa using hi)]; simp
  have e2 : (ints l).getD i [] = [.int l[i]] := by simp [ints, List.getD, hi]
  show RdL _ _ [.int .i64] (((l.map (Value.int .i64)).drop (i * 1)).take 1) _
  rw [e1, e2]
  exact ⟨.ofI64 (hx _ (List.getElem_mem hi)), trivial⟩
theorem Sl.takeX {w : World} {S : Nat → Prop} {fs : List Ty} {a : Option Addr} {n c k : Nat} {rows : List (List D)} (h : Sl w S fs a n c rows) (hk : k ≤ n) : Sl w S fs a k c (rows.take k) := by
  have hb := h.bd
  by_cases h0 : k = 0
  · subst h0
    rw [List.take_zero]
    refine .emp (fun e => (hb.2.2.2 e).2) (by unfold maxLen; omega)
  · cases h with
    | emp _ _ => omega
    | row vals h1 h2 h3 h4 h5 h6 h7 h8 h9 h10 h11 =>
      have e : ∀ i, i < k → (rows.take k).getD i [] = rows.getD i [] := fun i hi => by simp [List.getD, List.getElem?_take, hi]
      exact .row vals (by omega) (by simp; omega) (by omega) h4 (by omega) h6 h7 (fun i j hi hj => h8 i j (by omega) hj) (fun i hi => by rw [e i hi]; exact h9 i (by omega)) (fun i j hi hj => by rw [e i hi]; exact h10 i j (by omega) hj) (fun i j hi hj => h11 i j (by omega) hj)
section ops
variable {P : Program} {base : Nat} {X : Cx} {w0 : World} {st : St}
def RL.over : RL → RL → Option RL
  | .rInts l, .rInts m => some (.rInts (m.take l.length ++ l.drop m.length))
  | _, _ => none
theorem over_none {l m : List Int} (h : Nat.min m.length l.length = 0) : m.take l.length ++ l.drop m.length = l := by
  have : m.length = 0 ∨ l.length = 0 := by have h : min m.length l.length = 0 := h; omega
  rcases this with h | h
  · rw [List.eq_nil_of_length_eq_zero h]; simp
  · rw [List.eq_nil_of_length_eq_zero h]; simp
/-- copy of numbers -/
def cCopy (P : Program) (st : St) (T : TypeId) (x y : Operand) : Option Upd :=
  match sliceE P T, strip (st.ev x) with
  | some e, (.own t, n1) => match st.m t with
    | .row Tb ls r => match srcOf st r (strip (st.ev y)).1 with
      | some (su, ms, q) => if apart2 (some t) su = true ∧ sizeT P e = some 1 then (match r.over q with
        | some r2 => some ⟨n1 ++ (strip (st.ev y)).2 ++ [q.len ≤ 17592186044416], .int .i64 (Nat.min q.len r.len : Nat), [(t, .row Tb ls r2)]⟩
        | none => none) else none
      | none => none
    | _ => none
  | _, _ => none
/-- numbers that are copied -/
theorem srcOf_ok {E : Env} {w : World} (hm : MemOk base X w0 E st.m w) {l m : List Int} {s : SV} {su : Option Nat} {ms : List Nat} (h : srcOf st (.rInts l) s = some (su, ms, .rInts m)) (hq : m.length ≤ 17592186044416) {v : Value} (hv : DenV E w s v) : ∃ ad c, v = .slice ad m.length c ∧ ∃ S, SlI w S ad m.length c m := by
  cases s
  case own t =>
    simp only [srcOf] at h
    split at h
    case h_2 => simp at h
    rename_i Tb ls2 r2 hmt
    simp only [Option.some.injEq, Prod.mk.injEq] at h
    obtain ⟨rfl, rfl, rfl⟩ := h
    obtain ⟨v', hβ, ho⟩ := hm.row t _ _ _ hmt
    have hv1 := hv.1
    rw [hβ] at hv1
    simp only [Option.some.injEq] at hv1
    subst hv1
    have hll : (RL.rInts m).rows.length = m.length := by simp [RL.rows, ints]
    obtain ⟨a, c, e, hs⟩ := ho.slO (fun _ => True) (fun _ _ => trivial) (fun _ _ _ => trivial) (by rw [hll]; exact hq)
    rw [hll] at e hs
    exact ⟨a, c, e, _, hs⟩
  case sl ls r =>
    simp only [srcOf, Option.some.injEq, Prod.mk.injEq] at h
    obtain ⟨rfl, rfl, rfl⟩ := h
    have hv : Rd w (E.set ls) (.sl [.int .i64]) v (.sl (ints m)) := hv
    obtain ⟨ad, c, rfl, hsl⟩ := hv.sl'
    rw [ints_len] at hsl ⊢
    exact ⟨ad, c, rfl, _, hsl⟩
  case nil =>
    simp only [srcOf, RL.emp, Option.some.injEq, Prod.mk.injEq] at h
    obtain ⟨rfl, rfl, e⟩ := h
    have e : m = [] := by simpa using e.symm
    subst e
    have : v = .slice none 0 0 := hv
    exact ⟨none, 0, this, fun _ => True, .emp (fun _ => rfl) (by decide)⟩
  all_goals simp [srcOf] at h
theorem cCopy_ok (o : Oper) (T T2 : TypeId) (x y : Operand) (ho : o.op = .call { callee := .builtin .copy, args := #[x, y], argTypes := #[T, T2] }) {u : Upd} (hu : cCopy P st T x y = some u) : Does P base X w0 st o u := by
  unfold cCopy at hu
  split at hu
  case h_2 => simp at hu
  rename_i e t n1 he e1
  split at hu
  case h_2 => simp at hu
  rename_i Tb ls r hm
  split at hu
  case h_2 => simp at hu
  rename_i su ms q hsrc
  split at hu
  case isFalse => simp at hu
  rename_i hc
  obtain ⟨hap, hsz⟩ := hc
  split at hu
  case h_2 => simp at hu
  rename_i r2 hov
  simp only [Option.some.injEq] at hu
  subst hu
  have hr : ∃ l, r = .rInts l := by cases r <;> simp [RL.over] at hov; exact ⟨_, rfl⟩
  obtain ⟨l, rfl⟩ := hr
  have hq : ∃ m, q = .rInts m := by cases q <;> simp [RL.over] at hov; exact ⟨_, rfl⟩
  obtain ⟨m, rfl⟩ := hq
  simp only [RL.over, Option.some.injEq] at hov
  subst hov
  intro E a w K Q h hn hK
  have hx := strip_ok (h.ev x) (fun p hp => hn p (by rw [e1] at hp; simp [hp]))
  have hy := strip_ok (h.ev y) (fun p hp => hn p (by simp [hp]))
  have hml : m.length ≤ 17592186044416 := hn _ (by simp [RL.len])
  rw [e1] at hx
  obtain ⟨sa, sc, hsv, S, hS⟩ := srcOf_ok h.mem hsrc hml hy
  obtain ⟨v, hβ, hO⟩ := h.mem.row t _ _ _ hm
  have hx1 := hx.1
  rw [hβ] at hx1
  simp only [Option.some.injEq] at hx1
  subst hx1
  have hO : OwnR 0 w Tb (E.set ls) [.int .i64] (a.eval x) (ints l) := hO
  obtain ⟨hc, hi⟩ := hO.intsC
  obtain ⟨va, hva⟩ : ∃ va, a.eval x = va := ⟨_, rfl⟩
  rw [hva] at hO hc hβ
  have hlive : (st.m t).live = true := by rw [hm]; rfl
  have hsz1 : (P.info? e).map (·.size) = some 1 := hsz
  have hdform : ∃ da dc, va = .slice da l.length dc := by
    obtain ⟨a2, c2, e2⟩ := hO.form
    rw [ints_len] at e2
    exact ⟨a2, c2, e2⟩
  obtain ⟨da, dc, rfl⟩ := hdform
  have hlb : l.length ≤ 9223372036854775807 := by
    rcases hc.2 with ⟨e5, e6⟩ | ⟨g, cap, cur, e5, _, _, h6, h7, _⟩
    · omega
    · unfold maxLen at h7; omega
  have hwf : (Lit.int .i64 (Nat.min m.length l.length : Nat)).wf = true := by
    apply bd_lit
    have : Nat.min m.length l.length ≤ l.length := Nat.min_le_right _ _
    omega
  by_cases h0 : Nat.min m.length l.length = 0
  · have hrun := run_copy_none (P := P) w T T2 o.type e da sa l.length dc m.length sc (sliceE_ok he) hsz1 h0
    refine wp_value (v := goInt 0) (w' := w) ?_ (hK E w _ (Env.Le.refl E) Same.rfl' ⟨by show goInt 0 = _; simp only [RL.len, h0]; rfl, by simpa [RL.len] using hwf⟩ ?_)
    · simp [execOp, ho, resolve, invoke, builtin, hva, hsv, hrun, Result.andThen]
    · rw [putF_one, over_none h0]
      have : upd st.m t (.row Tb ls (.rInts l)) = st.m := by
        funext u
        by_cases hu : u = t
        · subst hu; rw [upd_self, hm]
        · rw [upd_ne _ _ hu]
      rw [this]; exact h.mem
  · have hml0 : 0 < m.length ∧ 0 < l.length := by have h0 : ¬ min m.length l.length = 0 := h0; omega
    rcases hc.2 with ⟨e5, e6⟩ | ⟨g, cap, cur, e5, _, hg, hnc, hcm, hcs, htake⟩
    · omega
    simp only [Value.slice.injEq] at e5
    obtain ⟨rfl, _, rfl⟩ := e5
    obtain ⟨b, off, rfl⟩ := hS.addr hml0.1
    have hlen : ((m.take l.length).map (Value.int .i64)).length = Nat.min m.length l.length := by
      simp only [List.length_map, List.length_take]; exact Nat.min_comm _ _
    have hrun := run_copy_row (P := P) w T T2 o.type e g 0 l.length dc ⟨b, off, none⟩ m.length sc cur Tb ((m.take l.length).map (Value.int .i64)) (sliceE_ok he) hsz1 hg hlen (fun j u hj => by
      have hj2 : j < m.length := by
        have := (List.getElem?_eq_some_iff.1 hj).1
        simp at this; omega
      have := (SlI.cell hS hj2).2.1
      rw [Go.WideShapes.add_plain, this]
      rw [List.getElem?_map, List.getElem?_take] at hj
      split at hj
      · rw [List.getElem?_eq_getElem hj2] at hj
        simp only [Option.map_some, Option.some.injEq] at hj
        rw [← hj]; simp [nu, List.getD, hj2]
      · simp at hj) (by
        have : Nat.min m.length l.length ≤ l.length := Nat.min_le_right _ _
        rw [hlen]; omega) (fun u hu => by obtain ⟨i, _, rfl⟩ := List.mem_map.1 hu; rfl)
    have hHas : Has E st.m t g := ⟨hlive, _, hβ, rfl⟩
    have hsep := (h.mem.sep t g hHas).1
    rw [hlen] at hrun
    generalize hw' : w.setRow g (cur.toList.take 0 ++ (m.take l.length).map (Value.int .i64) ++ cur.toList.drop (0 + Nat.min m.length l.length)).toArray = w' at hrun
    have hSm : Same E.lab w w' := by
      rw [← hw']
      exact ⟨by simp, fun g2 hg2 _ => setRow_other w g g2 _ (fun e => hsep (e ▸ hg2))⟩
    refine wp_value (v := goInt (Nat.min m.length l.length)) (w' := w') ?_ (hK E w' _ (Env.Le.refl E) hSm ⟨rfl, hwf⟩ ?_)
    · simp [execOp, ho, resolve, invoke, builtin, hva, hsv, hrun, Result.andThen]
    · rw [putF_one]
      refine h.mem.poke hlive hβ _ rfl (by rw [← hw']; simp) (fun g2 hg' _ => by rw [← hw']; exact setRow_other w g g2 _ (fun e => hg' (by simp [vblock, e]))) (by rw [← hw']; exact ⟨rfl, rfl, rfl⟩) ?_
      show OwnR 0 w' Tb (E.set ls) [.int .i64] _ (ints _)
      have hll : (m.take l.length ++ l.drop m.length).length = l.length := by simp; omega
      have hcur : cur.toList.length = cur.size := Array.length_toList
      have hmin : Nat.min m.length l.length ≤ l.length := Nat.min_le_right _ _
      refine OwnR.ofC ?_ (fun z hz => ?_)
      · rw [hll]
        refine ⟨by simp; omega, .inr ⟨g, dc, (cur.toList.take 0 ++ (m.take l.length).map (Value.int .i64) ++ cur.toList.drop (0 + Nat.min m.length l.length)).toArray, rfl, Nat.zero_le _, by rw [← hw']; exact setRow_heap w g _ _ Tb _ hg, hnc, hcm, ?_, ?_⟩⟩
        · simp only [List.take_zero, List.nil_append, Nat.zero_add, List.size_toArray, List.length_append, hlen, List.length_drop]
          omega
        · simp only [List.take_zero, List.nil_append, Nat.zero_add, Nat.mul_one]
          apply List.ext_getElem?
          intro i
          rw [List.getElem?_take]
          have hc2 : ∀ i, i < l.length → cur.toList[i]? = some (.int .i64 (l.getD i 0)) := by
            intro i hi2
            have : (cur.toList.take (l.length * 1))[i]? = (l.map (Value.int .i64))[i]? := by rw [htake]
            rw [List.getElem?_take, if_pos (by omega)] at this
            rw [this]; simp [List.getD, hi2]
          by_cases hi2 : i < l.length
          · rw [if_pos hi2]
            by_cases hi3 : i < Nat.min m.length l.length
            · rw [List.getElem?_append_left (by rw [hlen]; exact hi3), List.map_append, List.getElem?_append_left (by rw [hlen]; exact hi3)]
            · have hml2 : m.length ≤ i := by have hi3 : ¬ i < min m.length l.length := hi3; omega
              have hmm : Nat.min m.length l.length = m.length := by show min m.length l.length = m.length; omega
              rw [List.getElem?_append_right (by rw [hlen]; omega), List.map_append, List.getElem?_append_right (by rw [hlen]; omega), hlen, hmm, List.getElem?_drop, List.getElem?_map, List.getElem?_drop, show m.length + (i - m.length) = i by omega, hc2 i hi2]
              simp [List.getD, hi2]
          · rw [if_neg hi2, List.getElem?_eq_none]
            simp; omega
      · rcases List.mem_append.1 hz with hz | hz
        · exact SlI.i64 hS z (List.mem_of_mem_take hz)
        · exact hi z (List.mem_of_mem_drop hz)
/-- bounds -/
def optI (st : St) : Option Operand → Option (Option Int × List Prop)
  | none => some (none, [])
  | some x => match strip (st.ev x) with
    | (.int _ n, ns) => some (some n, ns)
    | _ => none
def hiOf (len : Nat) : Option Int → Int
  | none => len
  | some n => n
def loOf : Option Int → Int
  | none => 0
  | some n => n
def BdIs (a : Act) : Option Operand → Option Int → Prop
  | none, none => True
  | some x, some n => ∃ k, a.eval x = .int k n
  | _, _ => False
theorem optI_ok {E : Env} {a : Act} {w : World} (h : st.Ok base X w0 E a w) {x : Option Operand} {l : Option Int} {n : List Prop} (hx : optI st x = some (l, n)) (hn : ∀ p ∈ n, p) : BdIs a x l := by
  cases x with
  | none =>
    simp only [optI, Option.some.injEq, Prod.mk.injEq] at hx
    obtain ⟨rfl, _⟩ := hx
    trivial
  | some x =>
    simp only [optI] at hx
    split at hx
    case h_2 => simp at hx
    rename_i k m ns e
    simp only [Option.some.injEq, Prod.mk.injEq] at hx
    obtain ⟨rfl, rfl⟩ := hx
    have := strip_ok (h.ev x) (fun p hp => hn p (by rw [e] at hp; exact hp))
    rw [e] at this
    exact ⟨k, this.1⟩
theorem run_cutA {T e : TypeId} (he : P.underlying T = some (.slice e)) {sz : Nat} (hsz : sizeT P e = some sz) (w : World) {a : Act} {lo hi : Option Operand} {l h : Option Int} (hl : BdIs a lo l) (hh : BdIs a hi h) (ad : Option Addr) (len cap : Nat) (hlc : len ≤ cap) (h0 : 0 ≤ loOf l) (h1 : loOf l ≤ hiOf len h) (h2 : hiOf len h ≤ (len : Int)) :
    (Instr.sliceAt T (.slice ad len cap) (lo.map a.eval) (hi.map a.eval) none).run P w = .ok (.slice (if cap = (loOf l).toNat then ad else ad.map (·.add ((loOf l).toNat * sz))) ((hiOf len h).toNat - (loOf l).toNat) (cap - (loOf l).toNat)) w := by
  have hb : ∀ (k : IntKind) (n : Int) (y : Nat) code, 0 ≤ n → n ≤ (y : Int) → (Instr.sliceBound (.int k n) y code).run P w = .ok n.toNat w := fun k n y code g0 g1 => run_sliceBound _ _ _ _ _ g0 g1
  cases lo with
  | none =>
    cases l with
    | some _ => exact hl.elim
    | none =>
      cases hi with
      | none =>
        cases h with
        | some _ => exact hh.elim
        | none => simp [Instr.sliceAt, Instr.slice, Instr.sliceBounds, Sem.run_bind, run_underlying he, run_sizeOf' hsz, Result.andThen, Sem.run_pure, loOf, hiOf]
      | some y =>
        cases h with
        | none => exact hh.elim
        | some n =>
          obtain ⟨k, hk⟩ := hh
          have := hb k n cap .sliceAcap (by simp only [loOf, hiOf] at h0 h1; omega) (by simp only [hiOf] at h2; omega)
          simp [Instr.sliceAt, Instr.slice, Instr.sliceBounds, Sem.run_bind, run_underlying he, run_sizeOf' hsz, Result.andThen, Sem.run_pure, loOf, hiOf, hk, this]
  | some x =>
    cases l with
    | none => exact hl.elim
    | some m =>
      obtain ⟨k2, hk2⟩ := hl
      cases hi with
      | none =>
        cases h with
        | some _ => exact hh.elim
        | none =>
          have := hb k2 m len .sliceB h0 h1
          simp [Instr.sliceAt, Instr.slice, Instr.sliceBounds, Sem.run_bind, run_underlying he, run_sizeOf' hsz, Result.andThen, Sem.run_pure, loOf, hiOf, hk2, this]
          rfl
      | some y =>
        cases h with
        | none => exact hh.elim
        | some n =>
          obtain ⟨k, hk⟩ := hh
          have g1 := hb k n cap .sliceAcap (by simp only [loOf, hiOf] at h0 h1; omega) (by simp only [hiOf] at h2; omega)
          have g2 := hb k2 m n.toNat .sliceB h0 (by simp only [loOf, hiOf] at h1; omega)
          simp [Instr.sliceAt, Instr.slice, Instr.sliceBounds, Sem.run_bind, run_underlying he, run_sizeOf' hsz, Result.andThen, Sem.run_pure, loOf, hiOf, hk, hk2, g1, g2]
          rfl
def cutSl (ls : List Nat) (r : RL) (l h : Option Int) : SV := .sl ls ((r.take (hiOf r.len h).toNat).drop (loOf l).toNat)
def cCutA (P : Program) (st : St) (c : Nat) (T : TypeId) (x : Operand) (lo hi : Option Operand) : Option Upd :=
  match sliceE P T, optI st lo, optI st hi with
  | some e, some (l, n2), some (h, n3) => match strip (st.ev x) with
    | (.sl ls r, n1) => if sizeT P e = some r.tys.length then some ⟨n1 ++ n2 ++ n3 ++ [0 ≤ loOf l, loOf l ≤ hiOf r.len h, hiOf r.len h ≤ (r.len : Int)], cutSl ls r l h, []⟩ else none
    | (.nil, n1) => if (sizeT P e).isSome = true then some ⟨n1 ++ n2 ++ n3 ++ [loOf l = 0, hiOf 0 h = 0], .nil, []⟩ else none
    | (.own t, n1) => match st.m t with
      | .row Tb ls r => if sizeT P e = some r.tys.length ∧ st.free c = true then (match l with
        | none => some ⟨n1 ++ n2 ++ n3 ++ [0 ≤ hiOf r.len h, hiOf r.len h ≤ (r.len : Int)], .own c, [(t, .dead), (c, .row Tb ls (r.take (hiOf r.len h).toNat))]⟩
        | some l => some ⟨n1 ++ n2 ++ n3 ++ [0 ≤ l, l ≤ hiOf r.len h, hiOf r.len h ≤ (r.len : Int), r.len ≤ 17592186044416], cutSl (c :: ls) r (some l) h, [(t, .dead), (c, .dead)]⟩) else none
      | _ => none
    | _ => none
  | _, _, _ => none
theorem cutRd {w : World} {S : Nat → Prop} {r : RL} {ad : Option Addr} {c : Nat} {l h : Option Int} (hs : Sl w S r.tys ad r.len c r.rows) (h0 : 0 ≤ loOf l) (h1 : loOf l ≤ hiOf r.len h) (h2 : hiOf r.len h ≤ (r.len : Int)) :
    Rd w S (.sl ((r.take (hiOf r.len h).toNat).drop (loOf l).toNat).tys) (.slice (if c = (loOf l).toNat then ad else ad.map (·.add ((loOf l).toNat * r.tys.length))) ((hiOf r.len h).toNat - (loOf l).toNat) (c - (loOf l).toNat)) (.sl ((r.take (hiOf r.len h).toNat).drop (loOf l).toNat).rows) := by
  have hb := hs.bd
  rw [(RL.drop_ok _ _).1, (RL.drop_ok _ _).2.1, (RL.take_ok _ _).1, (RL.take_ok _ _).2.1]
  have ht := hs.takeX (k := (hiOf r.len h).toNat) (by omega)
  have hbt := ht.bd
  by_cases hc : c = (loOf l).toNat
  · rw [if_pos hc]
    have e : (hiOf r.len h).toNat - (loOf l).toNat = 0 := by omega
    rw [e, List.drop_eq_nil_of_le (by have := ht.len; omega)]
    exact .emp (fun e2 => by have := (hb.2.2.2 e2).2; omega) (by unfold maxLen; omega)
  · rw [if_neg hc]
    exact ht.cutMX (by omega) (by omega)
/-- a row given up: its block is under a label of its own from now on -/
theorem MemOk.freeze {E : Env} {w : World} {m : Nat → BE} (h : MemOk base X w0 E m w) {t c : Nat} (hl : (m t).live = true) (hc : m c = .empty) :
    ∃ E', E.Le E' ∧ (∀ b, Has E m t b → E'.σ c b) ∧ MemOk base X w0 E' (putF [(t, .dead), (c, .dead)] m) w := by
  have htc : t ≠ c := by intro e; subst e; rw [hc] at hl; cases hl
  have hcnl : X.nl ≤ c := by
    rcases Nat.lt_or_ge c X.nl with hlt | hge
    · exact absurd hc (h.low c hlt)
    · exact hge
  have hnc : ∀ b, ¬ E.σ c b := (h.empty c hc).2
  have hm : ∀ u, putF [(t, .dead), (c, .dead)] m u = if u = t then .dead else if u = c then .dead else m u := fun u => rfl
  refine ⟨⟨E.β, fun i b => E.σ i b ∨ (i = c ∧ Has E m t b)⟩, ⟨fun _ _ x => x, fun _ _ x => .inl x⟩, fun b hb => .inr ⟨rfl, hb⟩, ?_⟩
  have hhas : ∀ u b, Has (⟨E.β, fun i b => E.σ i b ∨ (i = c ∧ Has E m t b)⟩ : Env) (putF [(t, .dead), (c, .dead)] m) u b → Has E m u b ∧ u ≠ t := by
    intro u b ⟨g1, g2⟩
    rw [hm] at g1
    by_cases hu : u = t
    · rw [if_pos hu] at g1; cases g1
    · rw [if_neg hu] at g1
      by_cases hu2 : u = c
      · rw [if_pos hu2] at g1; cases g1
      · rw [if_neg hu2] at g1; exact ⟨⟨g1, g2⟩, hu⟩
  refine h.go ⟨fun _ _ x => x, fun _ _ x => .inl x⟩ Same.rfl' (fun u => u = t ∨ u = c) (fun u hu => ⟨by rw [hm, if_neg (fun e => hu (.inl e)), if_neg (fun e => hu (.inr e))], rfl⟩)
    (fun u hu he b hb => hb.elim ((h.empty u he).2 b) (fun g => hu (.inr g.1))) (fun _ _ _ _ => rfl) (fun u hu => ?_) (fun i b hb => ?_) (fun i j b hi hj => ?_) (fun u b hb => ?_) (fun i b hi hb => ?_) (fun u v b h1 h2 => ?_) (BelowX.refl _ _ _)
  · have : putF [(t, .dead), (c, .dead)] m u = .dead := by
      rw [hm]
      rcases hu with rfl | rfl
      · rw [if_pos rfl]
      · split <;> simp
    rw [this]
    exact ⟨by simp, fun g => by cases g⟩
  · rcases hb with hb | ⟨rfl, hb⟩
    · exact h.lab i b hb
    · exact ⟨h.lt hb, fun _ => (h.sep t b hb).2⟩
  · rcases hi with hi | ⟨rfl, hi⟩ <;> rcases hj with hj | ⟨rfl, hj⟩
    · exact h.dis i j b hi hj
    · exact absurd ⟨i, hi⟩ (h.sep t b hj).1
    · exact absurd ⟨j, hj⟩ (h.sep t b hi).1
    · rfl
  · obtain ⟨g1, g2⟩ := hhas u b hb
    refine ⟨fun ⟨i, hi⟩ => ?_, (h.sep u b g1).2⟩
    rcases hi with hi | ⟨_, hi⟩
    · exact (h.sep u b g1).1 ⟨i, hi⟩
    · exact g2 (h.inj u t b g1 hi)
  · rcases hb with hb | ⟨rfl, _⟩
    · exact h.old i b hi hb
    · omega
  · exact h.inj u v b (hhas u b h1).1 (hhas v b h2).1
theorem cCutA_ok (o : Oper) (c : Nat) (T : TypeId) (x : Operand) (lo hi : Option Operand) (ho : o.op = .slice T x lo hi none) {u : Upd} (hu : cCutA P st c T x lo hi = some u) : Does P base X w0 st o u := by
  unfold cCutA at hu
  split at hu
  case h_2 => simp at hu
  rename_i e l n2 h n3 he e2 e3
  split at hu
  case h_4 => simp at hu
  · rename_i ls r n1 e1
    split at hu
    case isFalse => simp at hu
    rename_i hsz
    simp only [Option.some.injEq] at hu
    subst hu
    refine Does.pure fun E a w hk hn => ?_
    have hx := strip_ok (hk.ev x) (fun p hp => hn p (by rw [e1] at hp; simp [hp]))
    rw [e1] at hx
    have hl := optI_ok hk e2 (fun p hp => hn p (by simp [hp]))
    have hh := optI_ok hk e3 (fun p hp => hn p (by simp [hp]))
    have g0 : 0 ≤ loOf l := hn _ (by simp)
    have g1 : loOf l ≤ hiOf r.len h := hn _ (by simp)
    have g2 : hiOf r.len h ≤ (r.len : Int) := hn _ (by simp)
    have hx : Rd w (E.set ls) (.sl r.tys) (a.eval x) (.sl r.rows) := hx
    obtain ⟨ad, cc, hv, hsl⟩ := hx.sl'
    rw [r.rows_len] at hv hsl
    refine ⟨_, ?_, cutRd hsl g0 g1 g2⟩
    have hr := run_cutA (P := P) (sliceE_ok he) hsz w hl hh ad r.len cc hsl.bd.1 g0 g1 g2
    simp only [execOp, ho, hv, Option.map_none, Sem.run_bind, hr, Result.andThen, Sem.run_pure]
  · rename_i n1 e1
    split at hu
    case isFalse => simp at hu
    rename_i hsz
    simp only [Option.some.injEq] at hu
    subst hu
    refine Does.pure fun E a w hk hn => ?_
    have hx := strip_ok (hk.ev x) (fun p hp => hn p (by rw [e1] at hp; simp [hp]))
    rw [e1] at hx
    have hl := optI_ok hk e2 (fun p hp => hn p (by simp [hp]))
    have hh := optI_ok hk e3 (fun p hp => hn p (by simp [hp]))
    have g0 : loOf l = 0 := hn _ (by simp)
    have g1 : hiOf 0 h = 0 := hn _ (by simp)
    have hv : a.eval x = .slice none 0 0 := hx
    obtain ⟨sz, hsz⟩ := Option.isSome_iff_exists.1 hsz
    refine ⟨_, ?_, (rfl : Value.slice none 0 0 = _)⟩
    have hr := run_cutA (P := P) (sliceE_ok he) hsz w hl hh none 0 0 (Nat.le_refl _) (by omega) (by rw [g0, g1]; decide) (by rw [g1]; decide)
    simp only [execOp, ho, hv, Option.map_none, Sem.run_bind, hr, Result.andThen, Sem.run_pure, g0, g1]
    rfl
  · rename_i t n1 e1
    split at hu
    case h_2 => simp at hu
    rename_i Tb ls r hm
    split at hu
    case isFalse => simp at hu
    rename_i hc
    obtain ⟨hsz, hfree⟩ := hc
    have hcE := St.of_free hfree
    have hlive : (st.m t).live = true := by rw [hm]; rfl
    split at hu
    · simp only [Option.some.injEq] at hu
      subst hu
      intro E a w K Q hk hn hK
      have hx := strip_ok (hk.ev x) (fun p hp => hn p (by rw [e1] at hp; simp [hp]))
      rw [e1] at hx
      have hl := optI_ok hk e2 (fun p hp => hn p (by simp [hp]))
      have hh := optI_ok hk e3 (fun p hp => hn p (by simp [hp]))
      have g1 : 0 ≤ hiOf r.len h := hn _ (by simp)
      have g2 : hiOf r.len h ≤ (r.len : Int) := hn _ (by simp)
      obtain ⟨v, hβ, hO⟩ := hk.mem.row t _ _ _ hm
      have hx1 := hx.1
      rw [hβ] at hx1
      simp only [Option.some.injEq] at hx1
      obtain ⟨ad, cc, hv⟩ := hO.form
      rw [r.rows_len] at hv
      have hcl : r.len ≤ cc := by
        obtain ⟨cells, hoR, _⟩ := hO
        rcases hoR.2 with ⟨e5, e6⟩ | ⟨g, cap, cur, e5, _, _, h6, _⟩
        · rw [e5] at hv; simp at hv; omega
        · rw [e5] at hv; simp only [Value.slice.injEq] at hv; rw [r.rows_len] at h6; omega
      have hr := run_cutA (P := P) (sliceE_ok he) hsz w hl hh ad r.len cc hcl (Int.le_refl _) g1 g2
      have hr2 : (Instr.sliceAt T (a.eval x) (lo.map a.eval) (hi.map a.eval) none).run P w = .ok (.slice ad (hiOf r.len h).toNat cc) w := by
        rw [← hx1, hv, hr]
        have : (if cc = (loOf none).toNat then ad else ad.map (·.add ((loOf none).toNat * r.tys.length))) = ad := by
          have e9 : (loOf none).toNat * r.tys.length = 0 := by simp [loOf]
          rw [e9]
          cases ad with
          | none => simp
          | some ad => simp [Addr.add]
        rw [this]; simp [loOf]
      have hcut : OwnR 0 w Tb (E.set ls) (r.take (hiOf r.len h).toNat).tys (.slice ad (hiOf r.len h).toNat cc) (r.take (hiOf r.len h).toNat).rows := by
        rw [(RL.take_ok _ _).1, (RL.take_ok _ _).2.1]
        obtain ⟨cells, hoR, hrow⟩ := hO
        have hkl : (r.rows.take (hiOf r.len h).toNat).length = (hiOf r.len h).toNat := by rw [List.length_take, r.rows_len]; omega
        have hcl2 : cells.length = r.rows.length * r.tys.length := hoR.1
        have hmul : (hiOf r.len h).toNat * r.tys.length ≤ r.rows.length * r.tys.length := Nat.mul_le_mul_right _ (by rw [r.rows_len]; omega)
        refine ⟨cells.take ((hiOf r.len h).toNat * r.tys.length), ⟨by rw [hkl, List.length_take]; omega, ?_⟩, fun i hi => ?_⟩
        · rcases hoR.2 with ⟨e5, e6⟩ | ⟨g, cap, cur, e5, g3, g4, g5, g6, g7, g8⟩
          · rw [e5] at hv
            simp only [Value.slice.injEq] at hv
            obtain ⟨rfl, h0, rfl⟩ := hv
            left
            rw [hkl]
            have : (hiOf r.len h).toNat = 0 := by omega
            exact ⟨by rw [this], this⟩
          · right
            rw [e5] at hv
            simp only [Value.slice.injEq] at hv
            obtain ⟨rfl, h0, rfl⟩ := hv
            refine ⟨g, cap, cur, by rw [hkl], g3, g4, by rw [hkl]; omega, g6, g7, ?_⟩
            rw [hkl, ← g8, List.take_take, Nat.min_eq_left hmul]
        · rw [hkl] at hi
          have e7 : (r.rows.take (hiOf r.len h).toNat).getD i [] = r.rows.getD i [] := by simp [List.getD, List.getElem?_take, hi]
          have e8 : ((cells.take ((hiOf r.len h).toNat * r.tys.length)).drop (i * r.tys.length)).take r.tys.length = (cells.drop (i * r.tys.length)).take r.tys.length := by
            have : (i + 1) * r.tys.length ≤ (hiOf r.len h).toNat * r.tys.length := Nat.mul_le_mul_right _ hi
            rw [Nat.add_mul, Nat.one_mul] at this
            apply List.ext_getElem?
            intro j
            simp only [List.getElem?_take, List.getElem?_drop]
            by_cases hj : j < r.tys.length
            · rw [if_pos hj, if_pos hj, if_pos (by omega)]
            · rw [if_neg hj, if_neg hj]
          rw [e7, e8]
          have hvo : Value.ownBlock (.slice ad (hiOf r.len h).toNat cc) = v.ownBlock := by rw [hv]; cases ad <;> rfl
          rw [hvo]
          exact hrow i (by rw [r.rows_len]; omega)
      have hE := Env.setβ_le (hk.mem.empty c hcE).1 (.slice ad (hiOf r.len h).toNat cc)
      refine wp_value (w' := w) ?_ (hK (E.setβ c (.slice ad (hiOf r.len h).toNat cc)) w (.slice ad (hiOf r.len h).toNat cc) hE Same.rfl' ⟨if_pos rfl, rfl⟩ ?_)
      · simp only [execOp, ho, Option.map_none, Sem.run_bind, hr2, Result.andThen, Sem.run_pure]
      · have htc : t ≠ c := by intro e5; subst e5; rw [hcE] at hm; cases hm
        have hk2 := hk.mem.kill t
        have := hk2.take (c := c) (w' := w) (by rw [upd_ne _ _ (Ne.symm htc)]; exact hcE) (.slice ad (hiOf r.len h).toNat cc) (.row Tb ls (r.take (hiOf r.len h).toNat)) (by simp) (Nat.le_refl _) (fun _ _ => rfl) (BelowX.refl _ _ _) (fun b hb => ?_) hcut
        · have e9 : putF [(t, .dead), (c, .row Tb ls (r.take (hiOf r.len h).toNat))] st.m = upd (upd st.m t .dead) c (.row Tb ls (r.take (hiOf r.len h).toNat)) := by
            rw [putF_cons, putF_one]; exact (upd_comm _ _ _ htc).symm
          rw [e9]; exact this
        · have hb2 : vblock v = some b := by rw [hv]; cases ad <;> exact hb
          have hH : Has E st.m t b := ⟨hlive, v, hβ, hb2⟩
          refine ⟨(hk.mem.sep t b hH).1, fun u hu => ?_, (hk.mem.sep t b hH).2⟩
          by_cases hut : u = t
          · subst hut; have := hu.1; rw [upd_self] at this; cases this
          · exact hut (hk.mem.inj u t b ⟨by have := hu.1; rwa [upd_ne _ _ hut] at this, hu.2⟩ hH)
    · rename_i l2
      simp only [Option.some.injEq] at hu
      subst hu
      intro E a w K Q hk hn hK
      have hx := strip_ok (hk.ev x) (fun p hp => hn p (by rw [e1] at hp; simp [hp]))
      rw [e1] at hx
      have hl := optI_ok hk e2 (fun p hp => hn p (by simp [hp]))
      have hh := optI_ok hk e3 (fun p hp => hn p (by simp [hp]))
      have g0 : 0 ≤ l2 := hn _ (by simp)
      have g1 : l2 ≤ hiOf r.len h := hn _ (by simp)
      have g2 : hiOf r.len h ≤ (r.len : Int) := hn _ (by simp)
      have g3 : r.len ≤ 17592186044416 := hn _ (by simp)
      obtain ⟨v, hβ, hO⟩ := hk.mem.row t _ _ _ hm
      have hx1 := hx.1
      rw [hβ] at hx1
      simp only [Option.some.injEq] at hx1
      obtain ⟨E', hE, hσ, hM⟩ := hk.mem.freeze hlive hcE
      obtain ⟨ad, cc, hv, hsl⟩ := hO.slO (E'.set (c :: ls)) (fun b ⟨i, hi, hs⟩ => ⟨i, List.mem_cons_of_mem _ hi, hE.σ i b hs⟩) (fun b _ hb => ⟨c, List.mem_cons_self .., hσ b ⟨hlive, v, hβ, by
        obtain ⟨a5, c5, e5⟩ := hO.form
        rw [← vblock_own ⟨a5, _, c5, e5⟩]; exact hb⟩⟩) (by rw [r.rows_len]; exact g3)
      rw [r.rows_len] at hv hsl
      have hr := run_cutA (P := P) (sliceE_ok he) hsz w hl hh ad r.len cc hsl.bd.1 g0 g1 g2
      rw [← hv, hx1] at hr
      refine wp_value (w' := w) ?_ (hK E' w _ hE Same.rfl' (cutRd (l := some l2) (h := h) hsl g0 g1 g2) hM)
      simp only [execOp, ho, Option.map_none, Sem.run_bind, hr, Result.andThen, Sem.run_pure]
end ops
end Go.Proofs.Yteiojclemodhaaa
