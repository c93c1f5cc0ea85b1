/- The symbolic walk: append of a text to bytes. No condition. -/
import Derived.Test.YteiojclemodhaaaSyZ
import Derived.Lib.AppendStr
namespace Go.Proofs.Yteiojclemodhaaa
open Go.RowKit Go.ChangeShapes Go.WideShapes Go.Deep
set_option linter.unusedVariables false
set_option linter.unusedSimpArgs false
/-- a text's bytes as numbers -/
def bytesOf (s : ByteArray) : List Int := s.data.toList.map fun b => (b.toNat : Int)
theorem bytesOf_len (s : ByteArray) : (bytesOf s).length = s.size := by simp [bytesOf]
theorem bytesOf_cells (s : ByteArray) : Lib.strCells s = (bytesOf s).map (Value.int .u8) := by simp [Lib.strCells, bytesOf, Function.comp_def]
theorem u8_wf {b : UInt8} : (Lit.int .u8 (b.toNat : Int)).wf = true := by
  have := b.toNat_lt
  simp only [Lit.wf, Bool.and_eq_true, decide_eq_true_eq]
  show (0 : Int) ≤ _ ∧ _ ≤ (255 : Int)
  omega
theorem OwnR.bytesC {w : World} {T : TypeId} {S : Nat → Prop} {v : Value} {l : List Int} (h : OwnR 0 w T S [.int .u8] v (ints l)) : w.ownsRow 0 T 1 v l.length (l.map (Value.int .u8)) ∧ ∀ x ∈ l, (Lit.int .u8 x).wf = true := by
  obtain ⟨cells, ho, hr⟩ := h
  rw [ints_len] at ho hr
  have hl : cells.length = l.length := by have := ho.1; simpa using this
  have hat : ∀ i, (hi : i < l.length) → cells[i]? = some (.int .u8 l[i]) ∧ (Lit.int .u8 l[i]).wf = true := by
    intro i hi
    have := hr i hi
    have e2 : (ints l).getD i [] = [.int l[i]] := by simp [ints, List.getD, hi]
    rw [e2] at this
    have e3 : (cells.drop (i * [Ty.int .u8].length)).take [Ty.int .u8].length = [cells[i]'(by omega)] := by
      show (cells.drop (i * 1)).take 1 = _
      rw [Nat.mul_one, List.drop_eq_getElem_cons (by omega), List.take_succ_cons, List.take_zero]
    rw [e3] at this
    obtain ⟨n, e4, e5, h5⟩ := this.1.int_inv
    cases e5
    exact ⟨by rw [List.getElem?_eq_getElem (by omega), e4], h5⟩
  have e : cells = l.map (Value.int .u8) := by
    apply List.ext_getElem?
    intro i
    by_cases hi : i < l.length
    · rw [(hat i hi).1]; simp [hi]
    · rw [List.getElem?_eq_none (by omega), List.getElem?_eq_none (by simp; omega)]
  refine ⟨by rw [← e]; exact ho, fun x hx => ?_⟩
  obtain ⟨i, hi, rfl⟩ := List.mem_iff_getElem.1 hx
  exact (hat i hi).2
theorem OwnR.ofBytes {w : World} {T : TypeId} {S : Nat → Prop} {v : Value} {l : List Int} (h : w.ownsRow 0 T 1 v l.length (l.map (Value.int .u8))) (hx : ∀ x ∈ l, (Lit.int .u8 x).wf = true) : OwnR 0 w T S [.int .u8] v (ints l) := by
  refine ⟨l.map (Value.int .u8), by rw [ints_len]; exact h, fun i hi => ?_⟩
  rw [ints_len] at hi
  have e1 : (((l.map (Value.int .u8)).drop (i * 1)).take 1) = [.int .u8 (l[i])] := by
    rw [Nat.mul_one, List.drop_eq_getElem_cons (by simpa using hi), List.take_succ_cons, List.take_zero]; simp
  have e2 : (ints l).getD i [] = [.int l[i]] := by simp [ints, List.getD, hi]
  show RdL _ _ [.int .u8] (((l.map (Value.int .u8)).drop (i * 1)).take 1) _
  rw [e1, e2]
  exact ⟨.int (hx _ (List.getElem_mem hi)), trivial⟩
theorem run_appB {P : Program} {w : World} {t u ty e : TypeId} {i : TypeInfo} (ht : P.underlying t = some (.slice e)) (hu : P.underlying u = some .string) (hi : P.info? e = some i) (hz : i.zero = some (.int .u8 0)) (hsize : i.size = 1) (hby : i.bytes = 1)
    {v : Value} {n : Nat} {xs : List Value} (hown : w.ownsRow 0 e 1 v n xs) (s : ByteArray) (hbytes : n + s.size ≤ 140737488355328) :
    ∃ v' w', (Builtin.append_ #[t, u] ty #[v, .string s]).run P w = .ok v' w' ∧ w'.ownsRow 0 e 1 v' (n + s.size) (xs ++ Lib.strCells s) ∧ w.grownBy w' v.ownBlock ∧ (v'.ownBlock = v.ownBlock ∨ v'.ownBlock = some w.heap.size) := by
  have h63 : n + s.size ≤ maxLen := by unfold maxLen; omega
  obtain ⟨v', w', hr, h2, h3, h4⟩ := Lib.run_append_own_string (P := P) w 0 t u ty e i ht hu hi hz hsize hby v n xs hown s h63 hbytes (Nat.zero_le _)
  refine ⟨v', w', hr, h2, h3, ?_⟩
  have hxl : xs.length = n := by simpa using hown.1
  rcases hown.2 with ⟨rfl, rfl⟩ | ⟨g, cap, cur, rfl, hbg, hg, hnc, hcm, hcs, htake⟩
  · by_cases hm : s.size = 0
    · left; rw [h4.2 ⟨rfl, hm⟩]
    · right
      have := run_append_nil_string (P := P) w t u ty e i (.int .u8 0) ht hu hi hz s (by omega) (by omega) (by rw [hby]; omega)
      rw [hr] at this
      simp only [Result.ok.injEq] at this
      rw [this.1]; rfl
  · by_cases hroom : n + s.size ≤ cap
    · left
      have hcs' : cur.size = cap := by simpa using hcs
      have := Lib.run_append_room_string (P := P) w t u ty e i ht hu hi hsize g n cap cur hg s hroom (by omega)
      rw [hr] at this
      simp only [Result.ok.injEq] at this
      rw [this.1]; rfl
    · right
      have holds : ∀ j u, xs[j]? = some u → w.cell? ((⟨g, 0, none⟩ : Addr).add j) = some u := hown.cells (g := g) rfl
      have := Lib.run_append_grow_string (P := P) w t u ty e i (.int .u8 0) ht hu hi hz ⟨g, 0, none⟩ n cap xs (by rw [hsize]; simpa using hxl) holds s (by omega) (by omega) (by rw [hby]; exact growslice_fits (by omega) (by omega))
      rw [hr] at this
      simp only [Result.ok.injEq] at this
      rw [this.1]; rfl
section ops
variable {P : Program} {base : Nat} {X : Cx} {w0 : World} {st : St}
def infoU (P : Program) (e : TypeId) : Bool := match P.info? e with
  | some i => match i.zero with
    | some (.int .u8 (.ofNat 0)) => i.size == 1 && i.bytes == 1
    | _ => false
  | none => false
theorem infoU_ok {e : TypeId} (h : infoU P e = true) : ∃ i, P.info? e = some i ∧ i.zero = some (.int .u8 0) ∧ i.size = 1 ∧ i.bytes = 1 := by
  unfold infoU at h
  split at h
  case h_2 => cases h
  rename_i i hi
  split at h
  case h_2 => cases h
  rename_i hz
  simp at h
  exact ⟨i, hi, hz, h.1, h.2⟩
def cAppS (P : Program) (st : St) (c : Nat) (T T2 : TypeId) (x y : Operand) : Option Upd :=
  match sliceE P T, P.underlying T2 with
  | some e, some .string => match dstOf st e (strip (st.ev x)).1, strip (st.ev y) with
    | some (dt, ls, .rBytes l), (.str s, n2) => if st.free c = true ∧ infoU P e = true then some ⟨(strip (st.ev x)).2 ++ n2 ++ [l.length + s.size ≤ 140737488355328], .own c, killO dt ++ [(c, .row e [] (.rBytes (l ++ bytesOf s)))]⟩ else none
    | _, _ => none
  | _, _ => none
theorem cAppS_ok (o : Oper) (c : Nat) (T T2 : TypeId) (x y : Operand) (ho : o.op = .call { callee := .builtin .append, args := #[x, y], argTypes := #[T, T2] }) {u : Upd} (hu : cAppS P st c T T2 x y = some u) : Does P base X w0 st o u := by
  unfold cAppS at hu
  split at hu
  case h_2 => simp at hu
  rename_i e he h2
  split at hu
  case h_2 => simp at hu
  rename_i dt ls l s n2 hdst e2
  split at hu
  case isFalse => simp at hu
  rename_i hc
  obtain ⟨hfree, hinfo⟩ := hc
  simp only [Option.some.injEq] at hu
  subst hu
  have hcE := St.of_free hfree
  intro E a w K Q h hn hK
  have hx := strip_ok (h.ev x) (fun p hp => hn p (by simp [hp]))
  have hy := strip_ok (h.ev y) (fun p hp => hn p (by rw [e2] at hp; simp [hp]))
  rw [e2] at hy
  obtain ⟨hy, _⟩ := hy
  have hbd : l.length + s.size ≤ 140737488355328 := hn _ (by simp)
  obtain ⟨o1, hHas, hlive⟩ := dstOf_ok h.mem hdst hx
  obtain ⟨i, i1, i2, i3, i4⟩ := infoU_ok hinfo
  have o1 : OwnR 0 w e (E.set ls) [.int .u8] (a.eval x) (ints l) := o1
  obtain ⟨c1, c2⟩ := o1.bytesC
  obtain ⟨v', w', hrun, hown, hgr, hat⟩ := run_appB (P := P) (ty := o.type) (sliceE_ok he) h2 i1 i2 i3 i4 c1 s hbd
  have hO : OwnR 0 w' e (E.set []) (RL.rBytes (l ++ bytesOf s)).tys v' (RL.rBytes (l ++ bytesOf s)).rows := by
    refine OwnR.ofBytes (l := l ++ bytesOf s) ?_ (fun x hx => ?_)
    · rw [List.length_append, bytesOf_len, List.map_append, ← bytesOf_cells]; exact hown
    · rcases List.mem_append.1 hx with hx | hx
      · exact c2 x hx
      · obtain ⟨b, _, rfl⟩ := List.mem_map.1 hx
        exact u8_wf
  obtain ⟨hS, hE, hone, hm'⟩ := app_fin h.mem hcE hHas hlive hO hgr hat
  refine wp_value (v := v') (w' := w') ?_ (hK (E.setβ c v') w' v' hE hS ⟨if_pos rfl, hone⟩ hm')
  simp only [execOp, ho, resolve, invoke, builtin, Sem.run_bind, Sem.run_pure, Result.andThen_ok, List.map_toArray, List.map_cons, List.map_nil]
  rw [hy, hrun]; rfl
end ops
end Go.Proofs.Yteiojclemodhaaa
