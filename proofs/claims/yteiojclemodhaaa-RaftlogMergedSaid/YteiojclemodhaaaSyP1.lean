/- The symbolic walk: rows of the call's own: an element written, append, a slice literal; the greater and the lesser. No condition. -/
import Derived.Test.YteiojclemodhaaaSyO1
namespace Go.Proofs.Yteiojclemodhaaa
open Go.RowKit Go.ChangeShapes Go.WideShapes Go.Deep
set_option linter.unusedVariables false
set_option linter.unusedSimpArgs false
section ops
variable {P : Program} {base : Nat} {X : Cx} {w0 : World} {st : St}
/-- one row of a row written -/
theorem OwnR.put {w : World} {T : TypeId} {S S2 : Nat → Prop} {fs : List Ty} {g n c : Nat} {rows : List (List D)} (h : OwnR 0 w T S fs (.slice (some ⟨g, 0, none⟩) n c) rows) {i off : Nat} (hi : i < rows.length) {xs zs : List Value} {ds : List D} {cur : Array Value} (hg : w.heap[g]? = some (.cells cur T (0, 0)))
    (hx : xs = (cur.toList.drop (i * fs.length)).take fs.length) (ho : off + zs.length ≤ fs.length) (hd : RdL w (fun b => S2 b ∧ b ≠ g) fs (xs.take off ++ zs ++ xs.drop (off + zs.length)) ds) :
    OwnR 0 (w.setRow g (cur.toList.take (i * fs.length + off) ++ zs ++ cur.toList.drop (i * fs.length + off + zs.length)).toArray) T (fun b => S b ∨ S2 b) fs (.slice (some ⟨g, 0, none⟩) n c) (rows.set i ds) := by
  obtain ⟨cells, ho2, hr⟩ := h
  rcases ho2.2 with ⟨e, _⟩ | ⟨g2, cap, cur2, e, _, hg2, hnc, hcm, hcs, htake⟩
  · simp at e
  simp only [Value.slice.injEq, Option.some.injEq, Addr.mk.injEq, and_true] at e
  obtain ⟨rfl, rfl, rfl⟩ := e
  rw [hg] at hg2
  simp only [Option.some.injEq, Obj.cells.injEq, and_true, true_and] at hg2
  subst hg2
  have hkey : ∀ j, j < rows.length → j * fs.length + fs.length ≤ rows.length * fs.length := fun j hj => by
    have : (j + 1) * fs.length ≤ rows.length * fs.length := Nat.mul_le_mul_right _ hj
    rwa [Nat.add_mul, Nat.one_mul] at this
  have hcl : cells.length = rows.length * fs.length := ho2.1
  have hcurl : rows.length * fs.length ≤ cur.toList.length := by
    have h0 : cur.toList.length = cur.size := Array.length_toList
    rw [h0, hcs]; exact Nat.mul_le_mul_right _ hnc
  generalize hN : (cur.toList.take (i * fs.length + off) ++ zs ++ cur.toList.drop (i * fs.length + off + zs.length)) = N
  have hk := hkey i hi
  have hNl : N.length = cur.toList.length := by rw [← hN]; simp; simp at hcurl; omega
  -- the cells anew
  have hat : ∀ m, N[m]? = if m < i * fs.length + off then cur.toList[m]? else if m < i * fs.length + off + zs.length then zs[m - (i * fs.length + off)]? else cur.toList[m]? := by
    intro m
    have hll : (cur.toList.take (i * fs.length + off)).length = i * fs.length + off := by simp; simp at hcurl; omega
    rw [← hN, List.append_assoc]
    by_cases h1 : m < i * fs.length + off
    · rw [if_pos h1, List.getElem?_append_left (by omega), List.getElem?_take, if_pos h1]
    · rw [if_neg h1, List.getElem?_append_right (by omega), hll]
      by_cases h2 : m < i * fs.length + off + zs.length
      · rw [if_pos h2, List.getElem?_append_left (by omega)]
      · rw [if_neg h2, List.getElem?_append_right (by omega), List.getElem?_drop]
        congr 1; omega
  have hS : Same (fun b => b ≠ g) w (w.setRow g N.toArray) := ⟨by simp, fun b hb _ => setRow_other w g b _ hb⟩
  refine ⟨N.take (rows.length * fs.length), ⟨?_, .inr ⟨g, c, N.toArray, by simp, Nat.zero_le _, setRow_heap w g cur _ T _ hg, by simpa using hnc, hcm, by simp [hNl, hcs], by simp⟩⟩, fun j hj => ?_⟩
  · simp [hNl]; simp at hcurl; omega
  · rw [List.length_set] at hj
    have hkj := hkey j hj
    have e1 : ((N.take (rows.length * fs.length)).drop (j * fs.length)).take fs.length = (N.drop (j * fs.length)).take fs.length := by
      apply List.ext_getElem?
      intro m
      simp only [List.getElem?_take, List.getElem?_drop]
      by_cases hm : m < fs.length
      · rw [if_pos hm, if_pos hm, if_pos (by omega)]
      · rw [if_neg hm, if_neg hm]
    rw [e1]
    by_cases hji : j = i
    · subst hji
      have e2 : (rows.set j ds).getD j [] = ds := by simp [List.getD, hj]
      have e3 : (N.drop (j * fs.length)).take fs.length = xs.take off ++ zs ++ xs.drop (off + zs.length) := by
        apply List.ext_getElem?
        intro m
        have hxl : xs.length = fs.length := by rw [hx]; simp; simp at hcurl; omega
        rw [List.getElem?_take, List.getElem?_drop, hat, List.append_assoc]
        have hxa : ∀ m, m < fs.length → xs[m]? = cur.toList[j * fs.length + m]? := fun m hm => by rw [hx, List.getElem?_take, if_pos hm, List.getElem?_drop]
        by_cases hm : m < fs.length
        · rw [if_pos hm]
          by_cases h1 : m < off
          · rw [if_pos (by omega), List.getElem?_append_left (by simp; omega), List.getElem?_take, if_pos h1, hxa m hm]
          · rw [if_neg (by omega), List.getElem?_append_right (by simp; omega)]
            have hll : (xs.take off).length = off := by simp; omega
            rw [hll]
            by_cases h2 : m < off + zs.length
            · rw [if_pos (by omega), List.getElem?_append_left (by omega)]; congr 1; omega
            · rw [if_neg (by omega), List.getElem?_append_right (by omega), List.getElem?_drop, show off + zs.length + (m - off - zs.length) = m by omega, hxa m hm]
        · rw [if_neg hm, List.getElem?_eq_none]
          simp; omega
      rw [e2, e3]
      exact (hd.mono (fun b _ hb => (⟨.inr hb.1, fun e => hb.2 (by simpa [Value.ownBlock] using e.symm)⟩ : (S b ∨ S2 b) ∧ Value.ownBlock (.slice (some ⟨g, 0, none⟩) rows.length c) ≠ some b))).same (hS.mono fun b hb e => hb.2 (by subst e; rfl))
    · have hne : ¬ i = j := fun e => hji e.symm
      have e2 : (rows.set i ds).getD j [] = rows.getD j [] := by simp [List.getD, List.getElem?_set, hne]
      have e3 : (N.drop (j * fs.length)).take fs.length = (cells.drop (j * fs.length)).take fs.length := by
        apply List.ext_getElem?
        intro m
        simp only [List.getElem?_take, List.getElem?_drop]
        by_cases hm : m < fs.length
        · rw [if_pos hm, if_pos hm, ← htake, List.getElem?_take, if_pos (show j * fs.length + m < rows.length * fs.length by omega), hat]
          rcases Nat.lt_or_gt_of_ne hji with h1 | h1
          · have : (j + 1) * fs.length ≤ i * fs.length := Nat.mul_le_mul_right _ h1
            rw [Nat.add_mul, Nat.one_mul] at this
            rw [if_pos (by omega)]
          · have : (i + 1) * fs.length ≤ j * fs.length := Nat.mul_le_mul_right _ h1
            rw [Nat.add_mul, Nat.one_mul] at this
            rw [if_neg (by omega), if_neg (by omega)]
        · rw [if_neg hm, if_neg hm]
      rw [e2, e3]
      exact ((hr j hj).mono (fun b _ hb => (⟨.inl hb.1, hb.2⟩ : (S b ∨ S2 b) ∧ Value.ownBlock (.slice (some ⟨g, 0, none⟩) rows.length c) ≠ some b))).same (hS.mono fun b hb e => hb.2 (by subst e; rfl))
/-- store into an element of a row -/
def cPut (P : Program) (st : St) (T : TypeId) (x y : Operand) : Option Upd :=
  match strip (st.ev x), strip (st.ev y), sizeT P T with
  | (.oel t sz i off, n1), (s, n2), some k => match st.m t with
    | .row Tb ls r => if sz = r.tys.length then (if s.cells.all SV.flat then (if s.cells.length = k then (if off + k ≤ sz then (match r.put i (splice (r.elem ls i) s.cells off) with
      | some (r2, m) => some ⟨n1 ++ n2 ++ [i < r.len], .any, [(t, .row Tb (ls ++ m) r2)]⟩
      | none => none) else none) else none) else none) else none
    | _ => none
  | _, _, _ => none
theorem cPut_ok (o : Oper) (T : TypeId) (x y : Operand) (ho : o.op = .store T x y) {u : Upd} (hu : cPut P st T x y = some u) : Does P base X w0 st o u := by
  unfold cPut at hu
  split at hu
  case h_2 => simp at hu
  rename_i t sz i off n1 s n2 k e1 e2 e3
  split at hu
  case h_2 => simp at hu
  rename_i Tb ls r hm
  split at hu
  case isFalse => simp at hu
  split at hu
  case isFalse => simp at hu
  split at hu
  case isFalse => simp at hu
  split at hu
  case isFalse => simp at hu
  split at hu
  case h_2 => simp at hu
  rename_i hsz hf hk hl _ r2 m hput
  simp only [Option.some.injEq] at hu
  subst hu
  subst hsz
  intro E a w K Q h hn hK
  have h1 := strip_ok (h.ev x) (fun p hp => hn p (by rw [e1] at hp; simp [hp]))
  have h2 := strip_ok (h.ev y) (fun p hp => hn p (by rw [e2] at hp; simp [hp]))
  have hi : i < r.len := hn (i < r.len) (by simp)
  rw [e1] at h1
  rw [e2] at h2
  obtain ⟨zs, hz, hzd⟩ := cells_ok hf h2
  obtain ⟨b, q, c, hb, hx⟩ := h1
  obtain ⟨v', c1, c2⟩ := h.mem.row t _ _ _ hm
  rw [c1] at hb
  simp only [Option.some.injEq] at hb
  subst hb
  have hzl : zs.length = k := by rw [hzd.len]; exact hk
  have hrl : r.rows.length = r.len := r.rows_len
  obtain ⟨cells, hoR, hrow⟩ := c2
  rcases hoR.2 with ⟨e, _⟩ | ⟨g, cap, cur, e, _, hg, hnc, hcm, hcs, htake⟩
  · simp at e
  simp only [Value.slice.injEq, Option.some.injEq, Addr.mk.injEq, and_true] at e
  obtain ⟨rfl, rfl, rfl⟩ := e
  have hki : i * r.tys.length + r.tys.length ≤ cur.size := by
    rw [hcs]
    have h3 : (i + 1) * r.tys.length ≤ r.rows.length * r.tys.length := Nat.mul_le_mul_right _ (by omega)
    have h4 : r.rows.length * r.tys.length ≤ c * r.tys.length := Nat.mul_le_mul_right _ hnc
    rw [Nat.add_mul, Nat.one_mul] at h3
    omega
  have hrun := run_storeVar' (P := P) e3 hz hzl (xs := cur.toList) (b := b) (off := i * r.tys.length + off) (Tb := Tb) (by simpa using hg) (by have h0 : cur.toList.length = cur.size := Array.length_toList; omega) (DenL.ones hf hzd)
  have hHas : Has E st.m t b := ⟨by rw [hm]; rfl, _, c1, rfl⟩
  have hsep := (h.mem.sep t b hHas).1
  have hne : ∀ g, vblock (.slice (some ⟨b, 0, none⟩) r.rows.length c) ≠ some g → g ≠ b := by intro g hg e; exact hg (by simp [vblock, e])
  generalize hw' : w.setRow b (cur.toList.take (i * r.tys.length + off) ++ zs ++ cur.toList.drop (i * r.tys.length + off + zs.length)).toArray = w' at hrun
  have hS : Same E.lab w w' := by
    rw [← hw']
    exact ⟨by simp, fun g hg _ => setRow_other w b g _ (fun e => hsep (e ▸ hg))⟩
  -- the element's cells
  have hL : RdL w (E.set ls) r.tys ((cells.drop (i * r.tys.length)).take r.tys.length) (r.rows.getD i []) := (hrow i (by omega)).mono fun b _ hb => hb.1
  have hcx : (cells.drop (i * r.tys.length)).take r.tys.length = (cur.toList.drop (i * r.tys.length)).take r.tys.length := by
    rw [← htake]
    apply List.ext_getElem?
    intro m
    simp only [List.getElem?_take, List.getElem?_drop]
    have h3 : (i + 1) * r.tys.length ≤ r.rows.length * r.tys.length := Nat.mul_le_mul_right _ (by omega)
    rw [Nat.add_mul, Nat.one_mul] at h3
    by_cases hm2 : m < r.tys.length
    · rw [if_pos hm2, if_pos hm2, if_pos (by omega)]
    · rw [if_neg hm2, if_neg hm2]
  have hel := RL.elem_ok hi hL
  have hsp := splice_ok hel hzd off
  obtain ⟨ht2, hl2, ds, hrows, hds⟩ := RL.put_ok i hput
  have hD := hds E w _ hsp
  have hput2 := OwnR.put (S := E.set ls) (S2 := E.set m) ⟨cells, hoR, hrow⟩ (i := i) (off := off) (by omega) hg hcx (by omega) (hD.mono fun b2 _ hb2 => ⟨hb2, fun e => hsep (e ▸ Env.set_lab hb2)⟩)
  rw [hw'] at hput2
  refine wp_skipv (w' := w') ?_ (hK E _ _ (Env.Le.refl E) hS trivial ?_)
  · simp only [execOp, ho, Instr.storeAt, hx, Instr.sureAddr, Sem.run_bind, Sem.run_pure, Result.andThen, hrun]
  · rw [putF_one]
    refine h.mem.poke (by show (st.m t).live = true; rw [hm]; rfl) c1 _ rfl (by rw [← hw']; simp) (fun g hg' _ => by rw [← hw']; exact setRow_other w b g _ (hne g hg')) (by rw [← hw']; exact ⟨rfl, rfl, rfl⟩) ?_
    show OwnR 0 w' Tb (E.set (ls ++ m)) r2.tys _ r2.rows
    rw [ht2, hrows]
    exact hput2.mono (Nat.le_refl _) (fun b2 hb2 => hb2.elim (Env.set_mono (fun i hi => List.mem_append_left _ hi) b2) (Env.set_mono (fun i hi => List.mem_append_right _ hi) b2))
/-- min, max -/
def cMin (st : St) (x y : Operand) : Option Upd :=
  match strip (st.ev x), strip (st.ev y) with
  | (.int k a, n), (.int k' b, m) => if k = k' then some ⟨n ++ m, .int k (if b < a then b else a), []⟩ else none
  | _, _ => none
def cMax (st : St) (x y : Operand) : Option Upd :=
  match strip (st.ev x), strip (st.ev y) with
  | (.int k a, n), (.int k' b, m) => if k = k' then some ⟨n ++ m, .int k (if b > a then b else a), []⟩ else none
  | _, _ => none
theorem cMin_ok (o : Oper) (x y : Operand) (ts : Array TypeId) (ho : o.op = .call { callee := .builtin .min, args := #[x, y], argTypes := ts }) {u : Upd} (hu : cMin st x y = some u) : Does P base X w0 st o u := by
  unfold cMin at hu
  split at hu
  case h_2 => simp at hu
  rename_i k a n k' b m e1 e2
  split at hu
  case isFalse => simp at hu
  rename_i hk
  subst hk
  simp only [Option.some.injEq] at hu
  subst hu
  refine Does.pure fun E ac w h hn => ?_
  have hx := strip_ok (h.ev x) (fun p hp => hn p (by rw [e1] at hp; simp [hp]))
  have hy := strip_ok (h.ev y) (fun p hp => hn p (by rw [e2] at hp; simp [hp]))
  rw [e1] at hx
  rw [e2] at hy
  obtain ⟨hx, wx⟩ := hx
  obtain ⟨hy, wy⟩ := hy
  refine ⟨.int k (if b < a then b else a), ?_, rfl, by split <;> assumption⟩
  simp [execOp, ho, resolve, invoke, builtin, Builtin.min_, hx, hy, Builtin.min2]
theorem cMax_ok (o : Oper) (x y : Operand) (ts : Array TypeId) (ho : o.op = .call { callee := .builtin .max, args := #[x, y], argTypes := ts }) {u : Upd} (hu : cMax st x y = some u) : Does P base X w0 st o u := by
  unfold cMax at hu
  split at hu
  case h_2 => simp at hu
  rename_i k a n k' b m e1 e2
  split at hu
  case isFalse => simp at hu
  rename_i hk
  subst hk
  simp only [Option.some.injEq] at hu
  subst hu
  refine Does.pure fun E ac w h hn => ?_
  have hx := strip_ok (h.ev x) (fun p hp => hn p (by rw [e1] at hp; simp [hp]))
  have hy := strip_ok (h.ev y) (fun p hp => hn p (by rw [e2] at hp; simp [hp]))
  rw [e1] at hx
  rw [e2] at hy
  obtain ⟨hx, wx⟩ := hx
  obtain ⟨hy, wy⟩ := hy
  refine ⟨.int k (if b > a then b else a), ?_, rfl, by split <;> assumption⟩
  simp [execOp, ho, resolve, invoke, builtin, Builtin.max_, hx, hy, Builtin.max2]
end ops
end Go.Proofs.Yteiojclemodhaaa
