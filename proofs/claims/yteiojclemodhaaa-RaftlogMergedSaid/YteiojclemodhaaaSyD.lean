/- The operations of the symbolic walk: fields, structs, numbers, lengths. No condition. -/
import Derived.Test.YteiojclemodhaaaSyC
namespace Go.Proofs.Yteiojclemodhaaa
open Go.RowKit Go.ChangeShapes Go.WideShapes Go.Deep
set_option linter.unusedVariables false
set_option linter.unusedSimpArgs false
section ops
variable {P : Program} {base : Nat} {X : Cx} {w0 : World} {st : St}
/-- where a field lies -/
def fieldOf (P : Program) (T : TypeId) (f : Nat) : Option (Nat × TypeId) :=
  match P.underlying T with
  | some (.struct fs) => match fs[f]? with
    | some fd => some (fd.offset, fd.type)
    | none => none
  | _ => none
theorem fieldOf_ok {T : TypeId} {f off : Nat} {t : TypeId} (h : fieldOf P T f = some (off, t)) : ∃ fs fd, P.underlying T = some (.struct fs) ∧ fs[f]? = some fd ∧ fd.offset = off ∧ fd.type = t := by
  unfold fieldOf at h
  split at h
  case h_2 => simp at h
  rename_i fs hu
  split at h
  case h_2 => simp at h
  rename_i fd hf
  simp only [Option.some.injEq, Prod.mk.injEq] at h
  exact ⟨fs, fd, hu, hf, h.1, h.2⟩
def shift (s : SV) (n : Nat) : SV :=
  match s with
  | .ptr t off => .ptr t (off + n)
  | .el ls r i off => .el ls r i (off + n)
  | .oel t sz i off => .oel t sz i (off + n)
  | .rp ls T cs off => .rp ls T cs (off + n)
  | _ => .any
def isAddr : SV → Bool
  | .ptr .. | .el .. | .oel .. | .rp .. => true
  | _ => false
theorem shift_ok {E : Env} {w : World} {s : SV} {v : Value} (n : Nat) (h : DenV E w s v) (ha : isAddr s = true) : ∃ b off, v = .pointer (some ⟨b, off, none⟩) ∧ DenV E w (shift s n) (.pointer (some ⟨b, off + n, none⟩)) := by
  cases s <;> simp only [isAddr, Bool.false_eq_true] at ha
  case ptr t off => obtain ⟨b, h1, rfl⟩ := h; exact ⟨b, off, rfl, b, h1, rfl⟩
  case el ls r i off => obtain ⟨h0, b, o, c, rfl, h2⟩ := h; exact ⟨b, _, rfl, h0, b, o, c, by rw [Nat.add_assoc], h2⟩
  case oel t sz i off => obtain ⟨b, k, c, h1, rfl⟩ := h; exact ⟨b, _, rfl, b, k, c, h1, by rw [Nat.add_assoc]⟩
  case rp ls T cs off => obtain ⟨b, xs, rfl, h1, h2, h3⟩ := h; exact ⟨b, off, rfl, b, xs, rfl, h1, h2, h3⟩
/-- fieldAddr -/
def cFieldAddr (P : Program) (st : St) (T : TypeId) (x : Operand) (f : Nat) : Option Upd :=
  match fieldOf P T f with
  | some (off, t) => match sizeT P t with
    | some k => if k = 0 then none else (if isAddr (strip (st.ev x)).1 then some ⟨(strip (st.ev x)).2, shift (strip (st.ev x)).1 off, []⟩ else none)
    | none => none
  | none => none
theorem cFieldAddr_ok (o : Oper) (T : TypeId) (x : Operand) (f : Nat) (ho : o.op = .fieldAddr T x f) {u : Upd} (hu : cFieldAddr P st T x f = some u) : Does P base X w0 st o u := by
  unfold cFieldAddr at hu
  split at hu
  case h_2 => simp at hu
  rename_i off t hf
  split at hu
  case h_2 => simp at hu
  rename_i k hk
  split at hu
  case isTrue => simp at hu
  split at hu
  case isFalse => simp at hu
  rename_i hk0 ha
  simp only [Option.some.injEq] at hu
  subst hu
  obtain ⟨fs, fd, h1, h2, rfl, rfl⟩ := fieldOf_ok hf
  refine Does.pure fun E a w h hn => ?_
  obtain ⟨b, o2, e, hd⟩ := shift_ok fd.offset (strip_ok (h.ev x) hn) ha
  refine ⟨_, ?_, hd⟩
  simp [execOp, ho, Instr.fieldAt, run_underlying h1, h2, e, Instr.sureAddr, fieldPlace, run_sizeOf' hk, hk0, Addr.add0]
/-- a part of a struct value -/
def cField (P : Program) (st : St) (T : TypeId) (x : Operand) (f : Nat) : Option Upd :=
  match fieldOf P T f, strip (st.ev x) with
  | some (off, t), (.agg vs, n) => match aggT P t with
    | some true => match sizeT P t with
      | some k => if off + k ≤ vs.length then some ⟨n, .agg ((vs.drop off).take k), []⟩ else none
      | none => none
    | some false => match vs[off]? with
      | some s => some ⟨n, s, []⟩
      | none => none
    | none => none
  | _, _ => none
theorem cField_ok (o : Oper) (T : TypeId) (x : Operand) (f : Nat) (ho : o.op = .field T x f) {u : Upd} (hu : cField P st T x f = some u) : Does P base X w0 st o u := by
  unfold cField at hu
  split at hu
  case h_2 => simp at hu
  rename_i off t vs n hf e
  obtain ⟨fs, fd, h1, h2, rfl, rfl⟩ := fieldOf_ok hf
  split at hu
  case h_3 => simp at hu
  · rename_i ha
    split at hu
    case h_2 => simp at hu
    rename_i k hk
    split at hu
    case isFalse => simp at hu
    rename_i hl
    simp only [Option.some.injEq] at hu
    subst hu
    refine Does.pure fun E a w h hn => ?_
    have hv := strip_ok (h.ev x) (fun p hp => hn p (by rw [e] at hp; exact hp))
    rw [e] at hv
    obtain ⟨xs, hx, hd⟩ := hv
    refine ⟨.agg ((xs.drop fd.offset).take k).toArray, ?_, _, rfl, (hd.drop _).take _⟩
    have e2 : (xs.toArray.extract fd.offset (fd.offset + k)) = ((xs.drop fd.offset).take k).toArray := by
      simp [List.extract_toArray, List.extract_eq_take_drop]
    simp [execOp, ho, Instr.field, run_underlying h1, h2, hx, asAgg, part, run_isAgg ha, run_sizeOf' hk]
  · rename_i ha
    split at hu
    case h_2 => simp at hu
    rename_i s hs
    simp only [Option.some.injEq] at hu
    subst hu
    refine Does.pure fun E a w h hn => ?_
    have hv := strip_ok (h.ev x) (fun p hp => hn p (by rw [e] at hp; exact hp))
    rw [e] at hv
    obtain ⟨xs, hx, hd⟩ := hv
    have hlt : fd.offset < vs.length := (List.getElem?_eq_some_iff.1 hs).1
    have hd2 := hd.at fd.offset hlt
    have hlt2 : fd.offset < xs.length := by rw [hd.len]; exact hlt
    have e3 : vs.getD fd.offset .any = s := by simp [List.getD, hs]
    rw [e3] at hd2
    have e4 : xs.getD fd.offset undef = xs[fd.offset] := by simp [List.getD, hlt2]
    rw [e4] at hd2
    refine ⟨_, ?_, hd2⟩
    simp [execOp, ho, Instr.field, run_underlying h1, h2, hx, asAgg, part, run_isAgg ha, hlt2]
/-- a struct literal -/
def fillS (place : Nat → Option (Nat × Nat)) : List SV → List (Nat × SV) → Option (List SV)
  | cs, [] => some cs
  | cs, (i, s) :: r => match place i with
    | some (off, k) => if s.cells.all SV.flat then (if s.cells.length = k then (if off + k ≤ cs.length then fillS place (splice cs s.cells off) r else none) else none) else none
    | none => none
theorem fold_set (zs : List Value) (off : Nat) : ∀ (j : Nat) (cs : Array Value), off + j + zs.length ≤ cs.size →
    ((zs.zipIdx j).foldl (fun cs (c, j) => cs.setIfInBounds (off + j) c) cs).toList = cs.toList.take (off + j) ++ zs ++ cs.toList.drop (off + j + zs.length) := by
  induction zs with
  | nil => intro j cs _; simp
  | cons z zs ih =>
    intro j cs h
    simp only [List.zipIdx_cons, List.foldl_cons, List.length_cons] at h ⊢
    have := ih (j + 1) (cs.setIfInBounds (off + j) z) (by simp; omega)
    rw [show off + (j + 1) = off + j + 1 by omega] at this
    rw [this]
    simp only [Array.toList_setIfInBounds]
    have hlt : off + j < cs.toList.length := by simp; omega
    have e1 : (cs.toList.set (off + j) z).take (off + j + 1) = cs.toList.take (off + j) ++ [z] := by
      rw [List.take_succ_eq_append_getElem (by simpa using hlt), List.take_set_of_le (by omega)]
      simp
    have e2 : (cs.toList.set (off + j) z).drop (off + j + 1 + zs.length) = cs.toList.drop (off + j + (zs.length + 1)) := by
      rw [List.drop_set_of_lt (by omega)]; congr 1; omega
    rw [e1, e2]; simp
theorem fillS_ok {E : Env} {w : World} {place : Nat → Option (Nat × Nat)} : ∀ {ps : List (Nat × SV)} {cs out : List SV} {vals : List (Nat × Value)} {zs : Array Value}, fillS place cs ps = some out → DenL E w cs zs.toList → vals.length = ps.length →
    (∀ i, i < ps.length → (vals.getD i default).1 = (ps.getD i default).1 ∧ DenV E w (ps.getD i default).2 (vals.getD i default).2) → ∃ r : Array Value, Instr.fill place zs vals = some r ∧ DenL E w out r.toList
  | [], cs, out, vals, zs, h, hd, hl, _ => by
    have : vals = [] := List.eq_nil_of_length_eq_zero (by simpa using hl)
    subst this
    simp only [fillS, Option.some.injEq] at h
    subst h
    exact ⟨zs, by simp [Instr.fill], hd⟩
  | (i, s) :: r, cs, out, [], zs, h, hd, hl, _ => by simp at hl
  | (i, s) :: r, cs, out, (i2, v) :: vals, zs, h, hd, hl, hp => by
    have h0 := hp 0 (by simp)
    simp at h0
    obtain ⟨rfl, hv⟩ := h0
    unfold fillS at h
    split at h
    case h_2 => simp at h
    rename_i off k hpl
    split at h
    case isFalse => simp at h
    split at h
    case isFalse => simp at h
    split at h
    case isFalse => simp at h
    rename_i hf hk hle
    obtain ⟨xs, hx, hxd⟩ := cells_ok hf hv
    have hxl : xs.length = k := by rw [hxd.len]; exact hk
    have hzl : zs.size = cs.length := by have := hd.len; simpa using this
    have hfold := fold_set xs off 0 zs (by simp; omega)
    simp only [Nat.add_zero] at hfold
    have hd2 : DenL E w (splice cs s.cells off) ((xs.zipIdx.foldl (fun cs (c, j) => cs.setIfInBounds (off + j) c) zs).toList) := by
      rw [hfold]; exact splice_ok hd hxd off
    obtain ⟨res, h3, h4⟩ := fillS_ok (ps := r) (vals := vals) h hd2 (by simpa using hl) (fun j hj => by have := hp (j + 1) (by simpa using hj); simpa using this)
    refine ⟨res, ?_, h4⟩
    rw [Instr.fill, hpl]
    simp only [hx, List.size_toArray, hxl, ne_eq, not_true, false_or, decide_false, Bool.false_or]
    rw [if_neg (by simp; omega)]
    have e5 : (xs.toArray.zipIdx.foldl (fun cs (c, j) => cs.setIfInBounds (off + j) c) zs) = (xs.zipIdx.foldl (fun cs (c, j) => cs.setIfInBounds (off + j) c) zs) := by
      simp [← Array.foldl_toList]
    rw [← h3]
    simp
def partsS (st : St) : List (Nat × Operand) → List (Nat × SV) × List Prop
  | [] => ([], [])
  | (i, x) :: r => ((i, (strip (st.ev x)).1) :: (partsS st r).1, (strip (st.ev x)).2 ++ (partsS st r).2)
def valsP (a : Act) (ps : List (Nat × Operand)) : List (Nat × Value) := ps.map fun q => (q.1, a.eval q.2)
theorem partsS_ok {E : Env} {a : Act} {w : World} (h : st.Ok base X w0 E a w) : ∀ (ps : List (Nat × Operand)), (∀ p ∈ (partsS st ps).2, p) → (partsS st ps).1.length = ps.length ∧ ∀ i, i < ps.length →
    (((valsP a ps).getD i default).1 = ((partsS st ps).1.getD i default).1 ∧ DenV E w ((partsS st ps).1.getD i default).2 ((valsP a ps).getD i default).2)
  | [], _ => ⟨rfl, fun i hi => absurd hi (by simp)⟩
  | (i, x) :: r, hn => by
    have ih := partsS_ok h r (fun p hp => hn p (List.mem_append_right _ hp))
    refine ⟨by simp [partsS, ih.1], fun j hj => ?_⟩
    cases j with
    | zero => exact ⟨rfl, strip_ok (h.ev x) (fun p hp => hn p (List.mem_append_left _ hp))⟩
    | succ j => have := ih.2 j (by simpa using hj); simpa [partsS, valsP] using this
def structOf (P : Program) (T : TypeId) : Option (List (Nat × TypeId)) :=
  match P.underlying T with
  | some (.struct fs) => some (fs.toList.map fun f => (f.offset, f.type))
  | _ => none
def placesOf (P : Program) : List (Nat × TypeId) → Option (List (Nat × Nat))
  | [] => some []
  | (off, t) :: r => match sizeT P t, placesOf P r with
    | some k, some l => some ((off, k) :: l)
    | _, _ => none
theorem run_places (w : World) : ∀ (fs : List Field) (l : List (Nat × Nat)), placesOf P (fs.map fun f => (f.offset, f.type)) = some l →
    (List.mapM (fun (f : Field) => (do pure (f.offset, ← sizeOf f.type) : Sem (Nat × Nat))) fs).run P w = .ok l w
  | [], l, h => by simp only [List.map_nil, placesOf, Option.some.injEq] at h; subst h; simp [Sem.run_pure]
  | f :: fs, l, h => by
    simp only [List.map_cons, placesOf] at h
    split at h
    case h_2 => simp at h
    rename_i k l2 h1 h2
    simp only [Option.some.injEq] at h
    subst h
    have ih := run_places w fs l2 h2
    simp only [List.mapM_cons, Sem.run_bind, run_sizeOf' h1, Result.andThen, Sem.run_pure, ih]
/-- build -/
def cBuild (P : Program) (st : St) (T : TypeId) (parts : Array (Nat × Operand)) : Option Upd :=
  match (P.info? T).bind (·.zero), structOf P T with
  | some z, some fs => match placesOf P fs with
    | some l => match fillS (fun i => l[i]?) (ofCs z) (partsS st parts.toList).1 with
      | some out => some ⟨(partsS st parts.toList).2, .agg out, []⟩
      | none => none
    | none => none
  | _, _ => none
theorem cBuild_ok (o : Oper) (T : TypeId) (parts : Array (Nat × Operand)) (ho : o.op = .build T parts) {u : Upd} (hu : cBuild P st T parts = some u) : Does P base X w0 st o u := by
  unfold cBuild at hu
  split at hu
  case h_2 => simp at hu
  rename_i z fs hz hfs
  split at hu
  case h_2 => simp at hu
  rename_i l hl
  split at hu
  case h_2 => simp at hu
  rename_i out hout
  simp only [Option.some.injEq] at hu
  subst hu
  unfold structOf at hfs
  split at hfs
  case h_2 => simp at hfs
  rename_i flds hund
  simp only [Option.some.injEq] at hfs
  subst hfs
  refine Does.pure fun E a w h hn => ?_
  have hp := partsS_ok h parts.toList hn
  obtain ⟨r, hr, hd⟩ := fillS_ok (E := E) (w := w) (zs := z.cells) (vals := valsP a parts.toList) hout (ofCs_ok E w z.cells.toList) (by rw [hp.1]; simp [valsP]) (fun i hi => hp.2 i (by rw [hp.1] at hi; exact hi))
  refine ⟨.agg r, ?_, r.toList, by simp, hd⟩
  cases hi : P.info? T with
  | none => simp [hi] at hz
  | some inf =>
    simp [hi] at hz
    have hpl := run_places (P := P) w flds.toList l hl
    have hm : (flds.mapM fun (f : Field) => (do pure (f.offset, ← sizeOf f.type) : Sem (Nat × Nat))).run P w = .ok l.toArray w := by
      rw [Array.mapM_eq_mapM_toList, map_eq_pure_bind, Sem.run_bind, hpl]; simp [Sem.run_pure]
    have hrr : Instr.fill (l.toArray[·]?) z.cells (parts.map fun (i, x) => (i, a.eval x)).toList = some r := by
      have e : (parts.map fun (i, x) => (i, a.eval x)).toList = valsP a parts.toList := by simp [valsP]
      rw [e]; simpa using hr
    simp only [execOp, ho, Instr.build, zeroValue, typeInfo, Sem.run_bind, run_program, hi, hz, Result.andThen, Sem.run_pure, run_underlying hund, hm, hrr]
end ops
end Go.Proofs.Yteiojclemodhaaa
