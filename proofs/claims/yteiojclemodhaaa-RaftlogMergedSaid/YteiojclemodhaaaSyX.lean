/- The symbolic walk: all operations together. No condition. -/
import Derived.Test.YteiojclemodhaaaSyV
namespace Go.Proofs.Yteiojclemodhaaa
open Go.RowKit Go.ChangeShapes Go.WideShapes Go.Deep
set_option linter.unusedVariables false
set_option linter.unusedSimpArgs false
def orU (a b : Option Upd) : Option Upd := match a with
  | some u => some u
  | none => b
theorem orU_some {a b : Option Upd} {u : Upd} (h : orU a b = some u) : a = some u ∨ b = some u := by
  cases a with
  | none => exact .inr h
  | some x => exact .inl h
def moreA (P : Program) (c : Nat) (st : St) (ty : TypeId) : Op → Option Upd
  | .store T x y => cPut P st T x y
  | .binOp op T x y _ => cEqN P st op T x y
  | .call ⟨.builtin .min, ⟨[x, y]⟩, _⟩ => cMin st x y
  | .call ⟨.builtin .max, ⟨[x, y]⟩, _⟩ => cMax st x y
  | .call ⟨.builtin .append, ⟨[x, y]⟩, ⟨[T, T2]⟩⟩ => if T = T2 then cApp P st c T x y else cAppS P st c T T2 x y
  | .call ⟨.builtin .copy, ⟨[x, y]⟩, ⟨[T, _]⟩⟩ => cCopy P st T x y
  | .buildSlice T len ps => orU (cLit P st c T len ps) (cLit0 P st c T len ps)
  | .slice T x lo hi none => cCutA P st c T x lo hi
  | .makeSlice T x y => cMake P st c T x y
  | .makeFunc (.func f) ⟨[]⟩ xs => some (cMkFn st f xs.toList)
  | _ => none
theorem moreA_ok (P : Program) : MoreOk P (moreA P) := by
  intro c st o u base X w0 h
  have key : ∀ op, o.op = op → moreA P c st o.type op = some u → Does P base X w0 st o u := by
    intro op ho h
    unfold moreA at h
    split at h
    · exact cPut_ok o _ _ _ ho h
    · exact cEqN_ok o _ _ _ _ _ ho h
    · exact cMin_ok o _ _ _ ho h
    · exact cMax_ok o _ _ _ ho h
    · split at h
      · rename_i hT; subst hT; exact cApp_ok o c _ _ _ ho h
      · exact cAppS_ok o c _ _ _ _ ho h
    · exact cCopy_ok o _ _ _ _ ho h
    · rcases orU_some h with h | h
      · exact cLit_ok o c _ _ _ ho h
      · exact cLit0_ok o c _ _ _ ho h
    · exact cCutA_ok o c _ _ _ _ ho h
    · exact cMake_ok o c _ _ _ ho h
    · simp only [Option.some.injEq] at h; subst h; exact cMkFn_ok o _ _ ho
    · simp at h
  exact key _ rfl h
theorem dstOf_eq {a b : St} {e : TypeId} {s : SV} (h : ∀ t, t ∈ leafTags s → a.m t = b.m t) : dstOf a e s = dstOf b e s := by
  cases s
  case own t => simp only [dstOf, h t (by simp [leafTags])]
  all_goals rfl
theorem srcOf_eq {a b : St} {r : RL} {s : SV} (h : ∀ t, t ∈ leafTags s → a.m t = b.m t) : srcOf a r s = srcOf b r s := by
  cases s
  case own t => simp only [srcOf, h t (by simp [leafTags])]
  all_goals rfl
theorem nilU_eq {a b : St} {s : SV} (h : ∀ t, t ∈ leafTags s → a.m t = b.m t) : nilU a s = nilU b s := by
  cases s
  case own t => simp only [nilU, h t (by simp [leafTags])]
  all_goals rfl
theorem optI_eq {a b : St} {x : Option Operand} (h : ∀ y, y ∈ x.toList → a.ev y = b.ev y) : optI a x = optI b x := by
  cases x with
  | none => rfl
  | some y => simp only [optI, h y (by simp)]
theorem moreA_loc (P : Program) : MoreLoc (moreA P) := by
  intro c a b ty op h
  unfold moreA
  split
  · rename_i T x y
    have hx := h.ev x (by simp [Op.operands])
    have ht := fun t => h.tag (x := x) (by simp [Op.operands]) (t := t)
    simp only [cPut, h.ev y (by simp [Op.operands])]
    rw [← hx]
    rcases hs : strip (a.ev x) with ⟨s, n⟩
    rw [hs] at ht
    cases s
    case oel t sz i off =>
      have e2 := ht t (by simp [leafTags])
      rcases strip (b.ev y) with ⟨s2, n2⟩
      cases sizeT P T with
      | none => rfl
      | some k => simp only [e2]
    all_goals rfl
  · rename_i op T x y T2
    have hx := h.ev x (by simp [Op.operands])
    have ht := fun t => h.tag (x := x) (by simp [Op.operands]) (t := t)
    simp only [cEqN, h.ev y (by simp [Op.operands]), ← hx]
    rw [nilU_eq (fun t g => ht t g)]
  · rename_i x y ts; simp only [cMin, h.ev x (by simp [Op.operands, Call.operands]), h.ev y (by simp [Op.operands, Call.operands])]
  · rename_i x y ts; simp only [cMax, h.ev x (by simp [Op.operands, Call.operands]), h.ev y (by simp [Op.operands, Call.operands])]
  · rename_i x y T T2
    have hx := h.ev x (by simp [Op.operands, Call.operands])
    have hy := h.ev y (by simp [Op.operands, Call.operands])
    have tx := fun t => h.tag (x := x) (by simp [Op.operands, Call.operands]) (t := t)
    have ty := fun t => h.tag (x := y) (by simp [Op.operands, Call.operands]) (t := t)
    simp only [cApp, cAppS, h.free (wid_pos _)]
    rw [← hx, ← hy]
    have hd : ∀ e, dstOf a e (strip (a.ev x)).1 = dstOf b e (strip (a.ev x)).1 := fun e => dstOf_eq tx
    have hs : ∀ r, srcOf a r (strip (a.ev y)).1 = srcOf b r (strip (a.ev y)).1 := fun r => srcOf_eq ty
    simp only [hd, hs]
  · rename_i x y T T2
    have hx := h.ev x (by simp [Op.operands, Call.operands])
    have hy := h.ev y (by simp [Op.operands, Call.operands])
    have tx := fun t => h.tag (x := x) (by simp [Op.operands, Call.operands]) (t := t)
    have ty := fun t => h.tag (x := y) (by simp [Op.operands, Call.operands]) (t := t)
    have hs : ∀ r, srcOf a r (strip (a.ev y)).1 = srcOf b r (strip (a.ev y)).1 := fun r => srcOf_eq ty
    simp only [cCopy]
    rw [← hx, ← hy]
    simp only [hs]
    rcases hs : strip (a.ev x) with ⟨s, n⟩
    rw [hs] at tx
    cases sliceE P T with
    | none => rfl
    | some e =>
      cases s
      case own t =>
        have e2 := tx t (by simp [leafTags])
        simp only [e2]
      all_goals rfl
  · rename_i T len ps
    simp only [cLit, cLit0, h.free (wid_pos _)]
    rw [partsS_congr ps.toList (fun x hx => h.ev x (by simpa [Op.operands] using hx))]
  · rename_i T x lo hi
    have hx := h.ev x (by simp [Op.operands])
    have tx := fun t => h.tag (x := x) (by simp [Op.operands]) (t := t)
    simp only [cCutA, h.free (wid_pos _)]
    rw [optI_eq (x := lo) (fun y hy => h.ev y (by simp only [Op.operands, Array.toList_append, List.mem_append]; simp at hy; simp [hy])), optI_eq (x := hi) (fun y hy => h.ev y (by simp only [Op.operands, Array.toList_append, List.mem_append]; simp at hy; simp [hy]))]
    rw [← hx]
    rcases hs : strip (a.ev x) with ⟨s, n⟩
    rw [hs] at tx
    cases s
    case own t =>
      have e2 := tx t (by simp [leafTags])
      simp only [e2]
    all_goals rfl
  · rename_i T x y
    simp only [cMake, h.ev x (by simp [Op.operands]), h.ev y (by simp [Op.operands]), h.free (wid_pos _)]
  · rename_i f xs
    have e := evL_congr (a := a) (b := b) xs.toList (fun x hx => h.ev x (by simp [Op.operands, hx]))
    obtain ⟨xs⟩ := xs
    cases xs with
    | nil => rfl
    | cons x r => simp only [cMkFn, e]
  · rfl
end Go.Proofs.Yteiojclemodhaaa
