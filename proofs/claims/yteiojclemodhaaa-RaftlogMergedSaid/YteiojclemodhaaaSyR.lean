/- The symbolic walk: a write in memory that labels name: what is read there changes, its shape stays. No condition. -/
import Derived.Test.YteiojclemodhaaaSyH
import Derived.Lib.ReflectliteSwap
namespace Go.Proofs.Yteiojclemodhaaa
open Go.RowKit Go.ChangeShapes Go.WideShapes Go.Deep
set_option linter.unusedVariables false
set_option linter.unusedSimpArgs false
theorem Rd.flat_ty {w w2 : World} {S S2 : Nat → Prop} {t t0 : Ty} {v : Value} {d d0 : D} (hf : t0.flat = true) (h0 : Rd w S t0 v d0) (h : Rd w2 S2 t v d) : t = t0 := by
  cases h0 with
  | int _ => cases h; rfl
  | bool => cases h; rfl
  | str _ => cases h; rfl
  | emp _ _ => simp [Ty.flat] at hf
  | row _ _ _ _ _ _ _ _ _ _ _ _ => simp [Ty.flat] at hf
theorem Rd.anyW {w w' : World} {S T : Nat → Prop} {t : Ty} {v : Value} {d : D} (hf : t.flat = true) (h : Rd w S t v d) : Rd w' T t v d := by
  cases h with
  | int h => exact .int h
  | bool => exact .bool
  | str h => exact .str h
  | emp _ _ => simp [Ty.flat] at hf
  | row _ _ _ _ _ _ _ _ _ _ _ _ => simp [Ty.flat] at hf
theorem Rd.flat_sx {w w2 : World} {S S2 : Nat → Prop} {t : Ty} {v u : Value} {d e : D} (hf : t.flat = true) (h : Rd w S t v d) (k : Rd w2 S2 t u e) : D.Sx d e := by
  cases h with
  | int h => cases k; exact .int _ _
  | bool => cases k; exact .bool _ _
  | str h => cases k; exact .str _ _
  | emp _ _ => simp [Ty.flat] at hf
  | row _ _ _ _ _ _ _ _ _ _ _ _ => simp [Ty.flat] at hf
section poke
variable {w : World} {p : Addr} {v0 u : Value} {t0 : Ty} {d0 d1 : D} {S0 : Nat → Prop} (hf : t0.flat = true) (h0 : Rd w S0 t0 v0 d0) (h1 : Rd w S0 t0 u d1) (hc : w.cell? p = some v0)
include hf h0 h1 hc
theorem Rd.poke {S : Nat → Prop} {t : Ty} {v : Value} {d : D} (h : Rd w S t v d) : ∃ d', Rd (w.setCell p u) S t v d' ∧ D.Sx d d' := by
  induction h with
  | int h => exact ⟨_, .int h, .int _ _⟩
  | bool => exact ⟨_, .bool, .bool _ _⟩
  | str h => exact ⟨_, .str h, .str _ _⟩
  | emp h h' => exact ⟨.sl [], .emp h h', .sl rfl (fun i hi => absurd hi (by simp)) (fun i j hi => absurd hi (by simp))⟩
  | row vals g1 g2 g3 g4 g5 g6 g7 g8 g9 g10 g11 ih =>
    rename_i fs b off n c rows
    have key : ∀ i j, i < n → j < fs.length → ∃ e, Rd (w.setCell p u) S (fs.getD j default) (if (⟨b, off + i * fs.length + j, none⟩ : Addr) = p then u else vals i j) e ∧ D.Sx ((rows.getD i []).getD j default) e := by
      intro i j hi hj
      by_cases hp : (⟨b, off + i * fs.length + j, none⟩ : Addr) = p
      · rw [if_pos hp]
        have hv : vals i j = v0 := by
          have := g8 i j hi hj
          rw [hp, hc] at this
          exact (Option.some.inj this).symm
        have hr := g10 i j hi hj
        rw [hv] at hr
        have ht := Rd.flat_ty hf h0 hr
        rw [ht]
        rw [ht] at hr
        exact ⟨d1, Rd.anyW hf h1, Rd.flat_sx hf hr h1⟩
      · rw [if_neg hp]
        exact ih i j hi hj
    obtain ⟨q, hq, hqr⟩ := pick_list ([] : List D) n (p := fun i (row : List D) => row.length = fs.length ∧ ∀ j, j < fs.length → Rd (w.setCell p u) S (fs.getD j default) (if (⟨b, off + i * fs.length + j, none⟩ : Addr) = p then u else vals i j) (row.getD j default) ∧ D.Sx ((rows.getD i []).getD j default) (row.getD j default)) (fun i hi => by
      obtain ⟨m, hm, hmr⟩ := pick_list (default : D) fs.length (p := fun j e => Rd (w.setCell p u) S (fs.getD j default) (if (⟨b, off + i * fs.length + j, none⟩ : Addr) = p then u else vals i j) e ∧ D.Sx ((rows.getD i []).getD j default) e) (fun j hj => key i j hi hj)
      exact ⟨m, hm, hmr⟩)
    refine ⟨.sl q, .row (fun i j => if (⟨b, off + i * fs.length + j, none⟩ : Addr) = p then u else vals i j) g1 hq.symm g3 g4 g5 g6 (by simp [World.setCell]; exact g7) (fun i j hi hj => ?_) (fun i hi => (hqr i hi).1) (fun i j hi hj => ((hqr i hi).2 j hj).1) (fun i j hi hj => by rw [World.frozen?_setCell]; exact g11 i j hi hj), .sl (by omega) (fun i hi => ?_) (fun i j hi hj => ?_)⟩
    · by_cases hp : (⟨b, off + i * fs.length + j, none⟩ : Addr) = p
      · simp only [if_pos hp]
        rw [hp]
        exact World.cell?_setCell_same _ _ _ hc
      · simp only [if_neg hp]
        rw [World.cell?_setCell_other _ _ _ _ (fun e => hp e.symm)]
        exact g8 i j hi hj
    · rw [(hqr i (by omega)).1, g9 i (by omega)]
    · rw [g9 i (by omega)] at hj
      exact ((hqr i (by omega)).2 j hj).2
theorem RdL.poke {S : Nat → Prop} : ∀ {fs : List Ty} {vs : List Value} {ds : List D}, RdL w S fs vs ds → ∃ es, RdL (w.setCell p u) S fs vs es ∧ LSh ds es
  | [], [], [], _ => ⟨[], trivial, rfl, fun j hj => absurd hj (by simp)⟩
  | t :: ts, v :: vs, d :: ds, h => by
    obtain ⟨es, k1, k2, k3⟩ := RdL.poke h.2
    obtain ⟨e, k4, k5⟩ : ∃ e, Rd (w.setCell p u) S t v e ∧ D.Sh d e := by
      cases h.1 with
      | int g => exact ⟨_, .int g, .int _ _, fun _ => rfl⟩
      | bool => exact ⟨_, .bool, .bool _ _, fun _ => rfl⟩
      | str g => exact ⟨_, .str g, .str _ _, fun _ => rfl⟩
      | emp g1 g2 =>
        obtain ⟨e, q1, q2⟩ := Rd.poke hf h0 h1 hc (.emp g1 g2 : Rd w S _ _ _)
        exact ⟨e, q1, q2, fun hn => absurd rfl (hn _)⟩
      | row vals g1 g2 g3 g4 g5 g6 g7 g8 g9 g10 g11 =>
        obtain ⟨e, q1, q2⟩ := Rd.poke hf h0 h1 hc (.row vals g1 g2 g3 g4 g5 g6 g7 g8 g9 g10 g11 : Rd w S _ _ _)
        exact ⟨e, q1, q2, fun hn => absurd rfl (hn _)⟩
    refine ⟨e :: es, ⟨k4, k1⟩, by simp [k2], fun j hj => ?_⟩
    cases j with
    | zero => simpa using k5
    | succ j => simpa using k3 j (by simpa using hj)
  | _ :: _, [], _, h => h.elim
  | _ :: _, _ :: _, [], h => h.elim
  | [], _ :: _, _, h => h.elim
  | [], [], _ :: _, h => h.elim
theorem OwnR.poke {T : TypeId} {S : Nat → Prop} {fs : List Ty} {v : Value} {rows : List (List D)} (h : OwnR 0 w T S fs v rows) (hb : v.ownBlock ≠ some p.block) : ∃ q, OwnR 0 (w.setCell p u) T S fs v q ∧ q.length = rows.length ∧ ∀ i, i < rows.length → LSh (rows.getD i []) (q.getD i []) := by
  obtain ⟨cells, ho, hr⟩ := h
  obtain ⟨q, hq, hqr⟩ := pick_list ([] : List D) rows.length (p := fun i es => RdL (w.setCell p u) (fun b => S b ∧ v.ownBlock ≠ some b) fs ((cells.drop (i * fs.length)).take fs.length) es ∧ LSh (rows.getD i []) es) (fun i hi => RdL.poke hf h0 h1 hc (hr i hi))
  refine ⟨q, ⟨cells, ?_, fun i hi => (hqr i (by omega)).1⟩, hq, fun i hi => (hqr i hi).2⟩
  rw [hq]
  exact Same.ownsRow ho (S := fun b => b ≠ p.block) ⟨by simp [World.setCell], fun b hb' _ => Below.heap_setCell _ _ _ _ hb'⟩ (fun g hg e => hb (by rw [hg, e]))
end poke
/-- which things do not look at these labels -/
def hitL (ls ms : List Nat) : Bool := ms.any fun i => ls.contains i
mutual
def SV.cl (ls : List Nat) : SV → Bool
  | .sl ms _ => !hitL ls ms
  | .el ms _ _ _ => !hitL ls ms
  | .agg vs => SV.clL ls vs
  | .tup vs => SV.clL ls vs
  | .clo _ vs => SV.clL ls vs
  | .rp ms _ vs _ => !hitL ls ms && SV.clL ls vs
  | .gd _ s => SV.cl ls s
  | _ => true
def SV.clL (ls : List Nat) : List SV → Bool
  | [] => true
  | s :: ss => SV.cl ls s && SV.clL ls ss
end
def Env.cut (E : Env) (ls : List Nat) : Env := ⟨E.β, fun i b => E.σ i b ∧ i ∉ ls⟩
theorem Env.cut_le (E : Env) (ls : List Nat) : (E.cut ls).Le E := ⟨fun _ _ h => h, fun _ _ h => h.1⟩
theorem hitL_cut {E : Env} {ls ms : List Nat} (h : hitL ls ms = false) {b : Nat} (hb : E.set ms b) : (E.cut ls).set ms b := by
  obtain ⟨i, hi, hs⟩ := hb
  refine ⟨i, hi, hs, fun hl => ?_⟩
  have : hitL ls ms = true := List.any_eq_true.2 ⟨i, hi, by simpa using hl⟩
  rw [h] at this; cases this
mutual
theorem DenV.cut {E : Env} {w : World} {ls : List Nat} : ∀ (s : SV) (v : Value), SV.cl ls s = true → DenV E w s v → DenV (E.cut ls) w s v
  | .any, _, _, _ => trivial
  | .int _ _, _, _, h => h
  | .bool _, _, _, h => h
  | .str _, _, _, h => h
  | .nil, _, _, h => h
  | .sl ms r, v, hc, h => by
    simp only [SV.cl, Bool.not_eq_true'] at hc
    exact Rd.mono h (fun b _ hb => hitL_cut hc hb)
  | .own t, v, _, h => h
  | .ptr t off, v, _, h => h
  | .el ms r i off, v, hc, h => by
    simp only [SV.cl, Bool.not_eq_true'] at hc
    obtain ⟨h0, b, o, c, h1, h2⟩ := h
    exact ⟨h0, b, o, c, h1, Rd.mono h2 (fun b _ hb => hitL_cut hc hb)⟩
  | .oel t sz i off, v, _, h => h
  | .agg vs, v, hc, h => by obtain ⟨xs, h1, h2⟩ := h; exact ⟨xs, h1, DenL.cut vs xs hc h2⟩
  | .tup vs, v, hc, h => by obtain ⟨xs, h1, h2⟩ := h; exact ⟨xs, h1, DenL.cut vs xs hc h2⟩
  | .fn _, _, _, h => h
  | .clo f cs, v, hc, h => by obtain ⟨xs, h1, h2⟩ := h; exact ⟨xs, h1, DenL.cut cs xs hc h2⟩
  | .rp ms T cs off, v, hc, h => by
    simp only [SV.cl, Bool.and_eq_true, Bool.not_eq_true'] at hc
    obtain ⟨b, xs, h1, h2, h3, h4⟩ := h
    exact ⟨b, xs, h1, hitL_cut hc.1 h2, h3, DenL.cut cs xs hc.2 h4⟩
  | .gd b s, v, hc, h => ⟨fun hb => DenV.cut s v hc (h.1 hb), h.2⟩
  | .ub _ _, _, _, h => h
theorem DenL.cut {E : Env} {w : World} {ls : List Nat} : ∀ (ss : List SV) (vs : List Value), SV.clL ls ss = true → DenL E w ss vs → DenL (E.cut ls) w ss vs
  | [], [], _, _ => trivial
  | s :: ss, x :: xs, hc, h => by
    simp only [SV.clL, Bool.and_eq_true] at hc
    exact ⟨DenV.cut s x hc.1 h.1, DenL.cut ss xs hc.2 h.2⟩
  | [], _ :: _, _, h => h.elim
  | _ :: _, [], _, h => h.elim
end
/-- what becomes of a tag's entry; q: the new row, where it is one -/
def hvE (ls : List Nat) : BE → BE
  | .cells T vs => bif SV.clL ls vs then .cells T vs else .dead
  | e => e
def hvS (ls : List Nat) (s : SV) : SV := bif SV.cl ls s then s else .any
def hvTm (ls : List Nat) : List (Nat × SV) → List (Nat × SV)
  | [] => []
  | (i, s) :: r => (i, hvS ls s) :: hvTm ls r
theorem hvTm_look (ls : List Nat) : ∀ (l : List (Nat × SV)) (i : Nat), lookA .any (hvTm ls l) i = hvS ls (lookA .any l i)
  | [], i => by simp [hvTm, lookA, hvS, SV.cl]
  | (k, s) :: r, i => by
    simp only [hvTm, lookA_cons, hvTm_look ls r i]
    split <;> rfl
def dedK : List Nat → List Nat → List Nat
  | _, [] => []
  | seen, a :: r => bif seen.contains a then dedK seen r else a :: dedK (a :: seen) r
theorem dedK_mem : ∀ (l seen : List Nat) (a : Nat), a ∈ dedK seen l ↔ a ∈ l ∧ a ∉ seen
  | [], seen, a => by simp [dedK]
  | b :: r, seen, a => by
    simp only [dedK]
    cases hb : seen.contains b
    · simp only [cond_false, List.mem_cons, dedK_mem r (b :: seen) a]
      have hb : b ∉ seen := by simpa using hb
      constructor
      · rintro (rfl | ⟨h1, h2⟩)
        · exact ⟨.inl rfl, hb⟩
        · exact ⟨.inr h1, fun h => h2 (.inr h)⟩
      · rintro ⟨h1, h2⟩
        by_cases e : a = b
        · exact .inl e
        · exact .inr ⟨h1.resolve_left e, fun h => h.elim e h2⟩
    · simp only [cond_true, dedK_mem r seen a, List.mem_cons]
      have hb : b ∈ seen := by simpa using hb
      constructor
      · rintro ⟨h1, h2⟩; exact ⟨.inr h1, h2⟩
      · rintro ⟨h1, h2⟩
        refine ⟨h1.resolve_left (fun e => h2 (e ▸ hb)), h2⟩
theorem look_keys {α : Type} (d : α) (f : Nat → α) : ∀ (l : List Nat) (t : Nat), lookA d (l.map fun t => (t, f t)) t = if t ∈ l then f t else d
  | [], t => by simp [lookA]
  | a :: r, t => by
    simp only [List.map_cons, lookA_cons, look_keys d f r t, List.mem_cons]
    by_cases h : t = a
    · subst h; simp
    · simp [h]
section
variable {base : Nat} {X : Cx} {w0 : World}
/-- the memory behind a write -/
theorem MemOk.hav {E : Env} {w : World} {m m' : Nat → BE} (h : MemOk base X w0 E m w) {ls : List Nat} {p : Addr} {v0 u : Value} {t0 : Ty} {d0 d1 : D} {S0 : Nat → Prop} (hf : t0.flat = true) (h0 : Rd w S0 t0 v0 d0) (h1 : Rd w S0 t0 u d1) (hc : w.cell? p = some v0)
    (hp : E.set ls p.block) (hnl : ∀ i, i ∈ ls → X.nl ≤ i)
    (hm : ∀ t, (∃ T ms r q, m t = .row T ms r ∧ hitL ls ms = true ∧ m' t = .row T ms q ∧ ∀ v, E.β t = some v → OwnR 0 (w.setCell p u) T (E.set ms) q.tys v q.rows) ∨ ((∀ T ms r, m t = .row T ms r → hitL ls ms = false) ∧ m' t = hvE ls (m t))) :
    MemOk base X w0 E m' (w.setCell p u) := by
  have hlabp : E.lab p.block := Env.set_lab hp
  have hsz : (w.setCell p u).heap.size = w.heap.size := by simp [World.setCell]
  have hblk : ∀ b, b ≠ p.block → (w.setCell p u).heap[b]? = w.heap[b]? := fun b hb => Below.heap_setCell _ _ _ _ hb
  have hS : Same (E.cut ls).lab w (w.setCell p u) := ⟨by omega, fun b hb _ => hblk b (fun e => by
    subst e
    obtain ⟨i, hi, hn⟩ := hb
    obtain ⟨j, hj, hs⟩ := hp
    have := h.dis i j _ hi hs
    subst this
    exact hn hj)⟩
  have hhas : ∀ t b, Has E m' t b → Has E m t b := by
    intro t b ⟨g1, g2⟩
    refine ⟨?_, g2⟩
    rcases hm t with ⟨T, ms, r, q, e1, _, e2, _⟩ | ⟨_, e2⟩
    · rw [e1]; rfl
    · rw [e2] at g1
      cases hmt : m t with
      | cells T vs => rfl
      | row T ms r => rfl
      | empty => rw [hmt] at g1; cases g1
      | dead => rw [hmt] at g1; cases g1
  have hne : ∀ t b, Has E m t b → b ≠ p.block := fun t b hb e => by subst e; exact (h.sep t _ hb).1 hlabp
  refine ⟨fun t ht => ?_, fun t T vs ht => ?_, fun t T ms r ht => ?_, fun i b hb => by rw [hsz]; exact h.lab i b hb, h.dis, fun i hi he => ?_, fun t b hb => h.sep t b (hhas t b hb), h.old, fun t s b h1 h2 => h.inj t s b (hhas t b h1) (hhas s b h2), h.keep, ?_, by rw [hsz]; exact h.base⟩
  · rcases hm t with ⟨T, ms, r, q, e1, _, e2, _⟩ | ⟨_, e2⟩
    · rw [e2] at ht; cases ht
    · refine h.empty t ?_
      rw [e2] at ht
      cases hmt : m t with
      | empty => rfl
      | cells T vs => rw [hmt] at ht; simp only [hvE] at ht; cases hcl : SV.clL ls vs <;> rw [hcl] at ht <;> cases ht
      | row T ms r => rw [hmt] at ht; cases ht
      | dead => rw [hmt] at ht; cases ht
  · rcases hm t with ⟨T', ms, r, q, e1, _, e2, _⟩ | ⟨_, e2⟩
    · rw [e2] at ht; cases ht
    · rw [e2] at ht
      cases hmt : m t with
      | empty => rw [hmt] at ht; cases ht
      | dead => rw [hmt] at ht; cases ht
      | row T' ms r => rw [hmt] at ht; cases ht
      | cells T' us =>
        rw [hmt] at ht
        simp only [hvE] at ht
        cases hcl : SV.clL ls us
        · rw [hcl] at ht; cases ht
        · rw [hcl] at ht
          cases ht
          obtain ⟨b, xs, k1, k2, k3, k4⟩ := h.cells t _ _ hmt
          refine ⟨b, xs, k1, (hblk b (hne t b ⟨by rw [hmt]; rfl, _, k1, rfl⟩)).trans k2, ?_, k4⟩
          exact DenL.mono (Env.cut_le E ls) hS _ _ (DenL.cut _ _ hcl k3)
  · rcases hm t with ⟨T', ms', r', q, e1, _, e2, e3⟩ | ⟨hno, e2⟩
    · rw [e2] at ht
      cases ht
      obtain ⟨v, k1, _⟩ := h.row t _ _ _ e1
      exact ⟨v, k1, e3 v k1⟩
    · rw [e2] at ht
      cases hmt : m t with
      | empty => rw [hmt] at ht; cases ht
      | dead => rw [hmt] at ht; cases ht
      | cells T' us => rw [hmt] at ht; simp only [hvE] at ht; cases hcl : SV.clL ls us <;> rw [hcl] at ht <;> cases ht
      | row T' ms' r' =>
        rw [hmt] at ht
        cases ht
        obtain ⟨v, k1, k2⟩ := h.row t _ _ _ hmt
        refine ⟨v, k1, ?_⟩
        have hh := hno _ _ _ hmt
        obtain ⟨a, c, ef⟩ := k2.form
        have k3 := k2.mono (Nat.le_refl 0) (fun b hb => hitL_cut hh hb)
        have k4 := k3.same (w' := w.setCell p u) (T := fun b => (E.cut ls).lab b ∨ v.ownBlock = some b) ⟨by omega, fun b hb hlt => by
          rcases hb with hb | hb
          · exact hS.block b hb hlt
          · exact hblk b (hne t b ⟨by rw [hmt]; rfl, v, k1, by rw [← vblock_own ⟨a, _, c, ef⟩]; exact hb⟩)⟩ (fun b hb => .inl (Env.set_lab hb)) (fun b hb => .inr hb)
        exact k4.mono (Nat.le_refl 0) (fun b hb => (Env.cut_le E ls).set hb)
  · rcases hm i with ⟨T, ms, r, q, e1, _, e2, _⟩ | ⟨_, e2⟩
    · rw [e2] at he; cases he
    · refine h.low i hi ?_
      rw [e2] at he
      cases hmt : m i with
      | empty => rfl
      | cells T vs => rw [hmt] at he; simp only [hvE] at he; cases hcl : SV.clL ls vs <;> rw [hcl] at he <;> cases he
      | row T ms r => rw [hmt] at he; cases he
      | dead => rw [hmt] at he; cases he
  · refine ⟨h.below.os, h.below.tape, h.below.output, by rw [hsz]; exact h.below.size, fun b hb hX => (hblk b (fun e => ?_)).trans (h.below.block b hb hX)⟩
    obtain ⟨j, hj, hs⟩ := hp
    rcases (h.lab j _ hs).2 (hnl j hj) with h3 | h3
    · omega
    · exact hX (e ▸ h3)
end
end Go.Proofs.Yteiojclemodhaaa
