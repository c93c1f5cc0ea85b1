/- The symbolic walk: a row from an element on. No condition. -/
import Derived.Test.YteiojclemodhaaaSyS
namespace Go.Proofs.Yteiojclemodhaaa
open Go.RowKit Go.ChangeShapes Go.WideShapes Go.Deep
set_option linter.unusedVariables false
set_option linter.unusedSimpArgs false
theorem Sl.cutX {w : World} {S : Nat → Prop} {fs : List Ty} {b off n c d : Nat} {rows : List (List D)} (h : Sl w S fs (some ⟨b, off, none⟩) n c rows) (hd : d < n) : Sl w S fs (some ⟨b, off + d * fs.length, none⟩) (n - d) (c - d) (rows.drop d) := by
  cases h with
  | emp _ _ => omega
  | row vals h1 h2 h3 h4 h5 h6 h7 h8 h9 h10 h11 =>
    have e : ∀ i, (rows.drop d).getD i [] = rows.getD (d + i) [] := fun i => by simp [List.getD]
    refine .row (fun i j => vals (d + i) j) (by omega) (by simp; omega) (by omega) (by unfold maxLen at *; omega) (by omega) h6 h7 (fun i j hi hj => ?_) (fun i hi => ?_) (fun i j hi hj => ?_) (fun i j hi hj => ?_)
    · have := h8 (d + i) j (by omega) hj
      rw [Nat.add_mul] at this
      rw [← this]; congr 2; omega
    · rw [e]; exact h9 _ (by omega)
    · rw [e]; exact h10 _ _ (by omega) hj
    · have := h11 (d + i) j (by omega) hj
      rw [Nat.add_mul] at this
      rw [← this]; congr 2; omega
theorem Sl.cutMX {w : World} {S : Nat → Prop} {fs : List Ty} {a : Option Addr} {n c d : Nat} {rows : List (List D)} (h : Sl w S fs a n c rows) (hd : d ≤ n) (hc : d < c) : Sl w S fs (a.map fun x => x.add (d * fs.length)) (n - d) (c - d) (rows.drop d) := by
  have hb := h.bd
  have hl := h.len
  rcases Nat.lt_or_ge d n with h1 | h1
  · obtain ⟨b, off, rfl⟩ := h.addr (by omega)
    have := h.cutX h1
    simpa [Go.WideShapes.add_plain] using this
  · have e : n - d = 0 := by omega
    have e2 : rows.drop d = [] := List.drop_eq_nil_of_le (by omega)
    rw [e, e2]
    refine .emp (fun h0 => ?_) (by obtain ⟨g1, g2, g3, g4⟩ := hb; unfold maxLen at *; omega)
    rcases a with _ | a
    · have := hb.2.2.2 rfl; omega
    · simp at h0
theorem Rd.slv {w : World} {S : Nat → Prop} {fs : List Ty} {v : Value} {rows : List (List D)} (h : Rd w S (.sl fs) v (.sl rows)) : ∃ a n c, v = .slice a n c ∧ n = rows.length := by
  cases h with
  | emp g1 g2 => exact ⟨_, 0, _, rfl, rfl⟩
  | row vals g1 g2 => exact ⟨_, _, _, rfl, g2⟩
section ops
variable {P : Program} {base : Nat} {X : Cx} {w0 : World} {st : St}
def cCut (P : Program) (st : St) (T : TypeId) (x y : Operand) : Option Upd :=
  match strip (st.ev x), strip (st.ev y), sliceE P T with
  | (.sl ls r, n1), (.int k n, n2), some e => match sizeT P e with
    | some sz => if sz = r.tys.length then some ⟨n1 ++ n2 ++ [0 ≤ n, n ≤ (r.len : Int)], .sl ls (r.drop n.toNat), []⟩ else none
    | none => none
  | _, _, _ => none
theorem cCut_ok (o : Oper) (T : TypeId) (x y : Operand) (ho : o.op = .slice T x (some y) none none) {u : Upd} (hu : cCut P st T x y = some u) : Does P base X w0 st o u := by
  unfold cCut at hu
  split at hu
  case h_2 => simp at hu
  rename_i ls r n1 k n n2 e e1 e2 e3
  split at hu
  case h_2 => simp at hu
  rename_i sz hsz
  split at hu
  case isFalse => simp at hu
  rename_i hk
  subst hk
  simp only [Option.some.injEq] at hu
  subst hu
  refine Does.pure fun E ac w h hn => ?_
  have hx := strip_ok (h.ev x) (fun p hp => hn p (by rw [e1] at hp; simp [hp]))
  have hy := strip_ok (h.ev y) (fun p hp => hn p (by rw [e2] at hp; simp [hp]))
  have h0 : 0 ≤ n := hn _ (by simp)
  have h1 : n ≤ (r.len : Int) := hn _ (by simp)
  rw [e1] at hx
  rw [e2] at hy
  obtain ⟨hy, _⟩ := hy
  have hx : Rd w (E.set ls) (.sl r.tys) (ac.eval x) (.sl r.rows) := hx
  obtain ⟨a, c, hv, hsl⟩ : ∃ a c, ac.eval x = .slice a r.len c ∧ Sl w (E.set ls) r.tys a r.len c r.rows := by
    obtain ⟨a, m, c, e, em⟩ := hx.slv
    rw [r.rows_len] at em
    subst em
    rw [e] at hx
    exact ⟨a, c, e, hx⟩
  have hlc := hsl.bd
  have hnn : n.toNat ≤ r.len := by omega
  have hd : DenV E w (.sl ls (r.drop n.toNat)) (.slice (if c = n.toNat then a else a.map (·.add (n.toNat * r.tys.length))) (r.len - n.toNat) (c - n.toNat)) := by
    show Rd w (E.set ls) (.sl (r.drop n.toNat).tys) _ (.sl (r.drop n.toNat).rows)
    rw [(RL.drop_ok r _).1, (RL.drop_ok r _).2.1]
    by_cases hc : c = n.toNat
    · rw [if_pos hc]
      have hl : r.len = n.toNat := by omega
      rw [hl, hc, Nat.sub_self, List.drop_of_length_le (by rw [r.rows_len]; omega)]
      exact .emp (fun _ => rfl) (by unfold maxLen; omega)
    · rw [if_neg hc]
      exact hsl.cutMX hnn (by omega)
  refine ⟨_, ?_, hd⟩
  have hbd : ∀ code, (Instr.sliceBound (.int k n) r.len code).run P w = .ok n.toNat w := fun code => run_sliceBound _ _ _ _ _ h0 h1
  simp only [execOp, ho, Option.map_some, Option.map_none, hv, hy, Instr.sliceAt, Instr.slice, Instr.sliceBounds, Sem.run_bind, run_underlying (sliceE_ok e3), run_sizeOf' hsz, Result.andThen, Sem.run_pure, hbd]
end ops
end Go.Proofs.Yteiojclemodhaaa
