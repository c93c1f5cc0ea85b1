/- The operations of the symbolic walk that read and write memory, take structs apart and reckon. No condition. -/
import Derived.Test.YteiojclemodhaaaSyB
namespace Go.Proofs.Yteiojclemodhaaa
open Go.RowKit Go.ChangeShapes Go.WideShapes Go.Deep
set_option linter.unusedVariables false
set_option linter.unusedSimpArgs false
theorem Addr.add0 (b off j : Nat) : (⟨b, off, none⟩ : Addr).add j = ⟨b, off + j, none⟩ := by
  unfold Addr.add; split <;> simp_all
section ops
variable {P : Program} {base : Nat} {X : Cx} {w0 : World} {st : St}
/-- the cells that lie from an address on -/
def cellsAt (st : St) : SV → Option (List SV × List Prop)
  | .ptr t off => match st.m t with
    | .cells _ vs => some (vs.drop off, [])
    | _ => none
  | .el ls r i off => some ((r.elem ls i).drop off, [])
  | .oel t sz i off => match st.m t with
    | .row _ ls r => if sz = r.tys.length then some ((r.elem ls i).drop off, [i < r.len]) else none
    | _ => none
  | .rp _ _ cs off => some (cs.drop off, [])
  | _ => none
theorem RdL.vals {w : World} {S : Nat → Prop} {fs : List Ty} {ds : List D} {f : Nat → Value} (hl : ds.length = fs.length) (h : ∀ j, j < fs.length → Rd w S (fs.getD j default) (f j) (ds.getD j default)) : RdL w S fs ((List.range fs.length).map f) ds := RdL.of_at f hl h
theorem cellsAt_ok {E : Env} {a : Act} {w : World} (h : st.Ok base X w0 E a w) {s : SV} {cs : List SV} {n : List Prop} (hc : cellsAt st s = some (cs, n)) (hn : ∀ p ∈ n, p) {v : Value} (hv : DenV E w s v) :
    ∃ b off xs, v = .pointer (some ⟨b, off, none⟩) ∧ DenL E w cs xs ∧ ∀ j u, xs[j]? = some u → w.cell? ⟨b, off + j, none⟩ = some u := by
  cases s
  case ptr t off =>
    simp only [cellsAt] at hc
    split at hc
    case h_2 => simp at hc
    rename_i T vs hm
    simp only [Option.some.injEq, Prod.mk.injEq] at hc
    obtain ⟨rfl, rfl⟩ := hc
    obtain ⟨b, hb, rfl⟩ := hv
    obtain ⟨b', xs, h1, h2, h3, h4⟩ := h.mem.cells t _ _ hm
    rw [h1] at hb
    simp only [Option.some.injEq, Value.pointer.injEq, Addr.mk.injEq, and_true] at hb
    subst hb
    refine ⟨b', off, xs.drop off, rfl, h3.drop off, fun j u hu => ?_⟩
    rw [List.getElem?_drop] at hu
    simp [World.cell?, h2, hu]
  case el ls r i off =>
    simp only [cellsAt, Option.some.injEq, Prod.mk.injEq] at hc
    obtain ⟨rfl, rfl⟩ := hc
    obtain ⟨hi, b, o, c, rfl, hr⟩ := hv
    have hlen : r.rows.length = r.len := r.rows_len
    obtain ⟨b2, o2, e, hS, hb, vals, hcell, hrow⟩ := Sl.rowAt hr (by omega)
    simp only [Option.some.injEq, Addr.mk.injEq, and_true] at e
    obtain ⟨rfl, rfl⟩ := e
    have hL := RdL.vals (hrow i hi).1 (hrow i hi).2
    refine ⟨b, _, ((List.range r.tys.length).map (vals i)).drop off, rfl, (RL.elem_ok hi hL).drop off, fun j u hu => ?_⟩
    rw [List.getElem?_drop, List.getElem?_map] at hu
    by_cases hj : off + j < r.tys.length
    · simp [hj] at hu
      rw [← hu, show o + i * r.tys.length + off + j = o + i * r.tys.length + (off + j) by omega]
      exact hcell i _ hi hj
    · simp [hj] at hu
  case oel t sz i off =>
    simp only [cellsAt] at hc
    split at hc
    case h_2 => simp at hc
    rename_i T ls r hm
    split at hc
    case isFalse => simp at hc
    rename_i hsz
    simp only [Option.some.injEq, Prod.mk.injEq] at hc
    obtain ⟨rfl, rfl⟩ := hc
    have hi : i < r.len := hn _ (by simp)
    obtain ⟨b, k, c, hb, rfl⟩ := hv
    obtain ⟨v', h1, cells, ho, hrow⟩ := h.mem.row t _ _ _ hm
    rw [h1] at hb
    simp only [Option.some.injEq] at hb
    subst hb
    have hlen : r.rows.length = r.len := r.rows_len
    have hcell := World.ownsRow.cells ho (g := b) rfl
    have hL : RdL w (E.set ls) r.tys ((cells.drop (i * r.tys.length)).take r.tys.length) (r.rows.getD i []) := (hrow i (by omega)).mono fun b _ hb => hb.1
    refine ⟨b, _, ((cells.drop (i * r.tys.length)).take r.tys.length).drop off, rfl, (RL.elem_ok hi hL).drop off, fun j u hu => ?_⟩
    rw [List.getElem?_drop, List.getElem?_take] at hu
    split at hu
    · rw [List.getElem?_drop] at hu
      have := hcell _ u hu
      rw [Addr.add0] at this
      rw [← this, hsz]
      congr 2
      omega
    · simp at hu
  case rp ls T cs2 off =>
    simp only [cellsAt, Option.some.injEq, Prod.mk.injEq] at hc
    obtain ⟨rfl, rfl⟩ := hc
    obtain ⟨b, xs, rfl, h1, h2, h3⟩ := hv
    refine ⟨b, off, xs.drop off, rfl, h3.drop off, fun j u hu => ?_⟩
    rw [List.getElem?_drop] at hu
    simp [World.cell?, h2, hu]
  all_goals simp [cellsAt] at hc
def aggT (P : Program) (T : TypeId) : Option Bool :=
  match P.underlying T with
  | some (.struct _) | some (.array _ _) => some true
  | some _ => some false
  | none => none
theorem run_isAgg {T : TypeId} {b : Bool} (h : aggT P T = some b) (w : World) : (isAgg T).run P w = .ok b w := by
  unfold aggT at h
  unfold isAgg
  split at h
  case h_4 => simp at h
  all_goals
    rename_i hu
    simp only [Option.some.injEq] at h
    subst h
    rw [Sem.run_bind, run_underlying hu]
  · simp [Sem.run_pure, Result.andThen]
  · simp [Sem.run_pure, Result.andThen]
  · rename_i d n1 n2
    cases d <;> first | (exfalso; simp_all; done) | simp [Sem.run_pure, Result.andThen]
def sizeT (P : Program) (T : TypeId) : Option Nat := (P.info? T).map (·.size)
theorem run_sizeOf' {T : TypeId} {n : Nat} (h : sizeT P T = some n) (w : World) : (sizeOf T).run P w = .ok n w := by
  unfold sizeT at h
  cases hi : P.info? T with
  | none => simp [hi] at h
  | some i => simp [hi] at h; simp [sizeOf, typeInfo, hi, h, Sem.run_bind]
theorem run_loadCells' {w : World} {b off : Nat} {xs : List Value} (hc : ∀ j u, xs[j]? = some u → w.cell? ⟨b, off + j, none⟩ = some u) (n : Nat) (hn : n ≤ xs.length) : (loadCells ⟨b, off, none⟩ n).run P w = .ok (xs.take n).toArray w := by
  have := run_loadCells_list (P := P) w ⟨b, off, none⟩ (xs.take n) (fun j u hu => by
    rw [List.getElem?_take] at hu
    rw [Addr.add0]
    split at hu
    · exact hc j u hu
    · simp at hu)
  rwa [List.length_take, Nat.min_eq_left hn] at this
/-- load -/
def cLoad (P : Program) (st : St) (T : TypeId) (x : Operand) : Option Upd :=
  match cellsAt st (strip (st.ev x)).1, aggT P T, sizeT P T with
  | some (cs, n), some true, some k => if k ≤ cs.length then some ⟨(strip (st.ev x)).2 ++ n, .agg (cs.take k), []⟩ else none
  | some (c :: _, n), some false, _ => some ⟨(strip (st.ev x)).2 ++ n, c, []⟩
  | _, _, _ => none
theorem cLoad_ok (o : Oper) (T : TypeId) (x : Operand) (ho : o.op = .load T x) {u : Upd} (hu : cLoad P st T x = some u) : Does P base X w0 st o u := by
  unfold cLoad at hu
  split at hu
  case h_3 => simp at hu
  · rename_i cs n k e1 e2 e3
    split at hu
    case isFalse => simp at hu
    rename_i hk
    simp only [Option.some.injEq] at hu
    subst hu
    refine Does.pure fun E a w h hn => ?_
    have h1 := strip_ok (h.ev x) (fun p hp => hn p (List.mem_append_left _ hp))
    obtain ⟨b, off, xs, e, hd, hc⟩ := cellsAt_ok h e1 (fun p hp => hn p (List.mem_append_right _ hp)) h1
    refine ⟨.agg (xs.take k).toArray, ?_, xs.take k, rfl, hd.take k⟩
    simp only [execOp, ho, Instr.loadAt, e, Instr.sureAddr, loadVar, Sem.run_bind, Sem.run_pure, Result.andThen, run_isAgg e2, if_true, run_sizeOf' e3, run_loadCells' hc k (by rw [hd.len]; exact hk)]
  · rename_i c rest n _ e1 e2
    simp only [Option.some.injEq] at hu
    subst hu
    refine Does.pure fun E a w h hn => ?_
    have h1 := strip_ok (h.ev x) (fun p hp => hn p (List.mem_append_left _ hp))
    obtain ⟨b, off, xs, e, hd, hc⟩ := cellsAt_ok h e1 (fun p hp => hn p (List.mem_append_right _ hp)) h1
    match xs, hd with
    | x0 :: xs, hd =>
      refine ⟨x0, ?_, hd.1⟩
      have := hc 0 x0 rfl
      rw [Nat.add_zero] at this
      simp [execOp, ho, Instr.loadAt, e, Instr.sureAddr, loadVar, Sem.run_bind, run_isAgg e2, run_load, this]
/-- cells written into a block -/
def splice (vs ys : List SV) (off : Nat) : List SV := vs.take off ++ ys ++ vs.drop (off + ys.length)
theorem splice_all {vs ys : List SV} {off : Nat} (h1 : vs.all SV.flat = true) (h2 : ys.all SV.flat = true) : (splice vs ys off).all SV.flat = true := by
  simp only [splice, List.all_eq_true, List.mem_append] at *
  rintro x ((hx | hx) | hx)
  · exact h1 x (List.mem_of_mem_take hx)
  · exact h2 x hx
  · exact h1 x (List.mem_of_mem_drop hx)
theorem splice_ok {E : Env} {w : World} {vs ys : List SV} {xs zs : List Value} (h : DenL E w vs xs) (k : DenL E w ys zs) (off : Nat) : DenL E w (splice vs ys off) (xs.take off ++ zs ++ xs.drop (off + zs.length)) := by
  rw [k.len]; exact ((h.take off).app k).app (h.drop _)
theorem run_storeVar' {w : World} {T : TypeId} {n : Nat} (hs : sizeT P T = some n) {v : Value} {zs : List Value} (hv : v.cells = zs.toArray) (hn : zs.length = n) {b off : Nat} {xs : List Value} {Tb : TypeId} (hb : w.heap[b]? = some (.cells xs.toArray Tb (0, 0)))
    (hl : off + zs.length ≤ xs.length) (h1 : ∀ u ∈ zs, u.oneCell' = true) : (storeVar T ⟨b, off, none⟩ v).run P w = .ok () (w.setRow b (xs.take off ++ zs ++ xs.drop (off + zs.length)).toArray) := by
  subst hn
  have := run_storeCells_at (P := P) b off Tb zs 0 xs.toArray w hb (by simpa using hl) h1
  simp only [Nat.add_zero] at this
  simp only [storeVar, hv, Sem.run_bind, run_sizeOf' hs, Result.andThen, List.size_toArray, ne_eq, not_true, if_false, Sem.run_pure]
  simpa using this
/-- store into a struct -/
def cStore (P : Program) (st : St) (T : TypeId) (x y : Operand) : Option Upd :=
  match strip (st.ev x), strip (st.ev y), sizeT P T with
  | (.ptr t off, n1), (s, n2), some k => match st.m t with
    | .cells Tb vs => if s.cells.all SV.flat then (if s.cells.length = k then (if off + k ≤ vs.length then some ⟨n1 ++ n2, .any, [(t, .cells Tb (splice vs s.cells off))]⟩ else none) else none) else none
    | _ => none
  | _, _, _ => none
theorem cStore_ok (o : Oper) (T : TypeId) (x y : Operand) (ho : o.op = .store T x y) {u : Upd} (hu : cStore P st T x y = some u) : Does P base X w0 st o u := by
  unfold cStore at hu
  split at hu
  case h_2 => simp at hu
  rename_i t off n1 s n2 k e1 e2 e3
  split at hu
  case h_2 => simp at hu
  rename_i Tb vs hm
  split at hu
  case isFalse => simp at hu
  split at hu
  case isFalse => simp at hu
  split at hu
  case isFalse => simp at hu
  rename_i hf hk hl
  simp only [Option.some.injEq] at hu
  subst hu
  intro E a w K Q h hn hK
  have h1 := strip_ok (h.ev x) (fun p hp => hn p (by rw [e1] at hp; exact List.mem_append_left _ hp))
  have h2 := strip_ok (h.ev y) (fun p hp => hn p (by rw [e2] at hp; exact List.mem_append_right _ hp))
  rw [e1] at h1
  rw [e2] at h2
  obtain ⟨zs, hz, hzd⟩ := cells_ok hf h2
  obtain ⟨b, hb, hx⟩ := h1
  obtain ⟨b', xs, c1, c2, c3, c4⟩ := h.mem.cells t _ _ hm
  rw [c1] at hb
  simp only [Option.some.injEq, Value.pointer.injEq, Addr.mk.injEq, and_true] at hb
  subst hb
  have hzl : zs.length = k := by rw [hzd.len]; exact hk
  have hxl : xs.length = vs.length := c3.len
  have hrun := run_storeVar' (P := P) e3 hz hzl c2 (off := off) (by omega) (DenL.ones hf hzd)
  have hne : ∀ g, vblock (.pointer (some ⟨b', 0, none⟩)) ≠ some g → g ≠ b' := by intro g hg e; exact hg (by simp [vblock, e])
  have hS : Same E.lab w (w.setRow b' (xs.take off ++ zs ++ xs.drop (off + zs.length)).toArray) := by
    refine ⟨by simp, fun g hg _ => setRow_other w b' g _ (fun e => ?_)⟩
    subst e
    exact (h.mem.sep t _ ⟨by rw [hm]; rfl, _, c1, rfl⟩).1 hg
  refine wp_skipv (w' := w.setRow b' (xs.take off ++ zs ++ xs.drop (off + zs.length)).toArray) ?_ (hK E _ _ (Env.Le.refl E) hS trivial ?_)
  · simp only [execOp, ho, Instr.storeAt, hx, Instr.sureAddr, Sem.run_bind, Sem.run_pure, Result.andThen, hrun]
  · rw [putF_one]
    refine h.mem.poke (by show (st.m t).live = true; rw [hm]; rfl) c1 _ rfl (by simp) (fun g hg _ => setRow_other w b' g _ (hne g hg)) ⟨rfl, rfl, rfl⟩ ⟨b', _, rfl, setRow_heap w b' _ _ Tb _ c2, splice_ok (DenL.mono (Env.Le.refl E) hS _ _ c3) (DenL.mono (Env.Le.refl E) hS _ _ hzd) off, splice_all c4 hf⟩
end ops
end Go.Proofs.Yteiojclemodhaaa
