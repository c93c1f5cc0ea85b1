/- The symbolic walk: contracts proved otherwise; tables of contracts of functions that only read. No condition. -/
import Derived.Test.YteiojclemodhaaaSyX
namespace Go.Proofs.Yteiojclemodhaaa
open Go.RowKit Go.ChangeShapes Go.WideShapes Go.Deep
set_option linter.unusedVariables false
set_option linter.unusedSimpArgs false
theorem mD2 (t : Nat) : mOf D2 t = if t < 2 then .dead else .empty := by
  match t with
  | 0 => rfl
  | 1 => rfl
  | t + 2 => rw [mOf_get]; simp [List.getD]
theorem D2_no {E : Env} {t b : Nat} : ¬ Has E (mOf D2) t b := by
  intro h
  have := h.1
  rw [mD2] at this
  split at this <;> cases this
/-- what is only read has label 0 -/
def Env.zero (E : Env) : Prop := ∀ i b, E.σ i b → i = 0
theorem zero_of {E : Env} {w : World} (hm : MemOk w.heap.size (cxIn E D2 1) w E (mOf D2) w) : E.zero := by
  intro i b h
  apply Classical.byContradiction
  intro hi
  have h1 := hm.lab i b h
  rcases h1.2 (show (1 : Nat) ≤ i by omega) with h2 | ⟨t, ht⟩
  · omega
  · exact D2_no ht
theorem Env.zero.set {E : Env} (h : E.zero) {ls : List Nat} {b : Nat} (hb : E.set ls b) : E.set [0] b := by
  obtain ⟨i, _, hi⟩ := hb
  have := h i b hi
  subst this
  exact ⟨0, by simp, hi⟩
theorem FnC.pre {P : Program} {f : FuncId} {ins ins' : List SV} {out : SV} {mo : List BE} (h : FnC P f ins out mo) (hd : ∀ E w vals, Env.zero E → DenL E w ins' vals → DenL E w ins vals) : FnC P f ins' out mo :=
  ⟨h.1, fun w E vals hm hv => h.2 w E vals hm (hd E w vals (zero_of hm) hv)⟩
/-- memory behind a call that only makes memory -/
theorem mem_below {E : Env} {w w' : World} (hm : MemOk w.heap.size (cxIn E D2 1) w E (mOf D2) w) (hb : Below w.heap.size w w') :
    MemOk w.heap.size (cxIn E D2 1) w ⟨E.β, fun i b => E.σ i b ∨ (i = 1 ∧ w.heap.size ≤ b ∧ b < w'.heap.size)⟩ (mOf D2) w' := by
  have hl : ∀ t, (mOf D2 t).live = false := by intro t; rw [mD2]; split <;> rfl
  have hno : ∀ {E : Env} {t b : Nat}, ¬ Has E (mOf D2) t b := D2_no
  refine ⟨fun t ht => ⟨(hm.empty t ht).1, fun b hb' => ?_⟩, fun t T vs ht => ?_, fun t T ls r ht => ?_, fun i b hb' => ?_, fun i j b hi hj => ?_, hm.low, fun t b hh => absurd hh hno, fun i b hi hb' => ?_, fun t u b h1 => absurd h1 hno, hm.keep, ⟨hb.os, hb.tape, hb.output, hb.size, fun b h1 _ => hb.block b h1⟩, hb.size⟩
  · rcases hb' with h | ⟨rfl, _⟩
    · exact (hm.empty t ht).2 b h
    · rw [mD2] at ht; simp at ht
  · have := hl t; rw [ht] at this; cases this
  · have := hl t; rw [ht] at this; cases this
  · rcases hb' with h | ⟨rfl, h1, h2⟩
    · exact ⟨Nat.lt_of_lt_of_le (hm.lab i b h).1 hb.size, (hm.lab i b h).2⟩
    · exact ⟨h2, fun _ => .inl h1⟩
  · rcases hi with hi | ⟨rfl, h1, h2⟩ <;> rcases hj with hj | ⟨rfl, h3, h4⟩
    · exact hm.dis i j b hi hj
    · have := (hm.lab i b hi).1; omega
    · have := (hm.lab j b hj).1; omega
    · rfl
  · rcases hb' with h | ⟨rfl, _⟩
    · exact h
    · simp [cxIn] at hi
theorem FnC.of_below {P : Program} {f : FuncId} {ins : List SV} {out : SV} (hB : FnB P f)
    (h : ∀ (w : World) (E : Env) (vals : List Value), DenL E w ins vals → Calls P f vals.toArray w (fun e w' => ∃ v, e = .returned v ∧ Below w.heap.size w w' ∧ ∀ E' : Env, E.Le E' → (∀ b, w.heap.size ≤ b → b < w'.heap.size → E'.σ 1 b) → DenV E' w' out v)) : FnC P f ins out D2 := by
  refine ⟨hB, fun w E vals hm hd => (h w E vals hd).mono ?_⟩
  rintro e w' ⟨v, rfl, hb, hv⟩
  exact ⟨v, ⟨E.β, fun i b => E.σ i b ∨ (i = 1 ∧ w.heap.size ≤ b ∧ b < w'.heap.size)⟩, rfl, hv _ ⟨fun _ _ x => x, fun _ _ x => .inl x⟩ (fun b h1 h2 => .inr ⟨rfl, h1, h2⟩), mem_below hm hb⟩
theorem FnC.of_int {P : Program} {f : FuncId} {ins : List SV} {n : Int} (hB : FnB P f) (h : ∀ (w : World) (E : Env) (vals : List Value), DenL E w ins vals → I64 n ∧ Calls P f vals.toArray w (fun e w' => e = .returned (.int .i64 n) ∧ Below w.heap.size w w')) : FnC P f ins (.int .i64 n) D2 :=
  FnC.of_below hB fun w E vals hd => (h w E vals hd).2.mono (by rintro e w' ⟨rfl, hb⟩; exact ⟨_, rfl, hb, fun _ _ _ => ⟨rfl, bd_lit (h w E vals hd).1⟩⟩)
theorem FnC.of_bool {P : Program} {f : FuncId} {ins : List SV} {b : Bool} (hB : FnB P f) (h : ∀ (w : World) (E : Env) (vals : List Value), DenL E w ins vals → Calls P f vals.toArray w (fun e w' => e = .returned (.bool b) ∧ Below w.heap.size w w')) : FnC P f ins (.bool b) D2 :=
  FnC.of_below hB fun w E vals hd => (h w E vals hd).mono (by rintro e w' ⟨rfl, hb⟩; exact ⟨_, rfl, hb, fun _ _ _ => rfl⟩)
theorem FnC.of_i2 {P : Program} {f : FuncId} {ins : List SV} {m n : Int} (hB : FnB P f) (h : ∀ (w : World) (E : Env) (vals : List Value), DenL E w ins vals → (I64 m ∧ I64 n) ∧ Calls P f vals.toArray w (fun e w' => e = .returned (.tuple #[.int .i64 m, .int .i64 n]) ∧ Below w.heap.size w w')) : FnC P f ins (.tup [.int .i64 m, .int .i64 n]) D2 :=
  FnC.of_below hB fun w E vals hd => (h w E vals hd).2.mono (by rintro e w' ⟨rfl, hb⟩; exact ⟨_, rfl, hb, fun _ _ _ => ⟨[_, _], rfl, ⟨rfl, bd_lit (h w E vals hd).1.1⟩, ⟨rfl, bd_lit (h w E vals hd).1.2⟩, trivial⟩⟩)
theorem one_arg {E : Env} {w : World} {s : SV} {vals : List Value} (h : DenL E w [s] vals) : ∃ v, vals = [v] ∧ DenV E w s v := by
  match vals, h with
  | [v], h => exact ⟨v, rfl, h.1⟩
theorem two_arg {E : Env} {w : World} {s t : SV} {vals : List Value} (h : DenL E w [s, t] vals) : ∃ v u, vals = [v, u] ∧ DenV E w s v ∧ DenV E w t u := by
  match vals, h with
  | [v, u], h => exact ⟨v, u, rfl, h.1, h.2.1⟩
theorem getD_in {α : Type} {l : List α} {i : Nat} {d : α} (h : i < l.length) : l.getD i d = l[i] := by simp [List.getD, h]
theorem getD_mem {α : Type} {l : List α} {i : Nat} {d : α} (h : i < l.length) : l.getD i d ∈ l := by rw [getD_in h]; exact List.getElem_mem _
theorem take_snoc {α : Type} {l : List α} {i : Nat} {d : α} (h : i < l.length) : l.take (i + 1) = l.take i ++ [l.getD i d] := by rw [getD_in h, List.take_succ_eq_append_getElem h]
theorem wrapI {n : Int} (h : I64 n) : IntKind.i64.wrap n = n := IntWalk.i64_in _ h
theorem wrapN {i : Nat} (h : i ≤ 9223372036854775806) : IntKind.i64.wrap ((i : Int) + 1) = (i : Int) + 1 := wrapI ⟨by omega, by omega⟩
/-- how an argument is read off -/
structure Dec (α : Type) where
  dec : SV → Option α
  can : α → SV
  Okp : α → Prop
  okp : ∀ x E w v, DenV E w (can x) v → Okp x
  ok : ∀ s x, dec s = some x → ∀ E w v, Env.zero E → DenV E w s v → DenV E w (can x) v
def dInt : Dec Int where
  dec := fun s => match s with | .int .i64 n => some n | _ => none
  can := fun n => .int .i64 n
  Okp := fun n => I64 n
  okp := fun n E w v h => lit_bd h.2
  ok := by
    intro s x h E w v _ hd
    split at h
    · simp only [Option.some.injEq] at h; subst h; exact hd
    · simp at h
def dBool : Dec Bool where
  dec := fun s => match s with | .bool n => some n | _ => none
  can := fun n => .bool n
  Okp := fun n => True
  okp := fun n E w v h => trivial
  ok := by
    intro s x h E w v _ hd
    split at h
    · simp only [Option.some.injEq] at h; subst h; exact hd
    · simp at h
def dStr : Dec ByteArray where
  dec := fun s => match s with | .str n => some n | _ => none
  can := fun n => .str n
  Okp := fun n => n.size ≤ 140737488355328
  okp := fun n E w v h => h.2
  ok := by
    intro s x h E w v _ hd
    split at h
    · simp only [Option.some.injEq] at h; subst h; exact hd
    · simp at h
theorem zero_sl {E : Env} {w : World} {m : List Nat} {r : RL} {v : Value} (hz : E.zero) (h : DenV E w (.sl m r) v) : DenV E w (.sl [0] r) v := Rd.mono h (fun b _ hb => hz.set hb)
def dInts : Dec (List Int) where
  dec := fun s => match s.asInts with | some (l, _) => some l | none => none
  can := fun l => .sl [0] (.rInts l)
  Okp := IntsOk
  okp := fun l E w v h => by
    have h : Rd w (E.set [0]) (.sl [.int .i64]) v (.sl (ints l)) := h
    obtain ⟨a, c, rfl, hs⟩ := h.sl'
    exact ints_ok hs
  ok := by
    intro s x h E w v hz hd
    split at h
    · rename_i l m e; simp only [Option.some.injEq] at h; subst h; exact zero_sl hz (SV.asInts_ok e (fun i hi => hi) hd)
    · simp at h
def dEntrys : Dec (List Entry) where
  dec := fun s => match s.asEntry with | some (l, _) => some l | none => none
  can := fun l => .sl [0] (.rEntry l)
  Okp := fun l => l.length ≤ 17592186044416 ∧ ∀ x, x ∈ l → x.Ok
  okp := fun l E w v h => by
    have h : Rd w (E.set [0]) (.sl Entry.ty) v (.sl (l.map Entry.enc)) := h
    obtain ⟨a, c, rfl, hs⟩ := h.sl'
    exact rows_ok hs (fun _ _ hr => Entry.ok_of hr)
  ok := by
    intro s x h E w v hz hd
    split at h
    · rename_i l m e; simp only [Option.some.injEq] at h; subst h; exact zero_sl hz (SV.asEntry_ok e (fun i hi => hi) hd)
    · simp at h
def dRecords : Dec (List Record) where
  dec := fun s => match s.asRecord with | some (l, _) => some l | none => none
  can := fun l => .sl [0] (.rRecord l)
  Okp := fun l => l.length ≤ 17592186044416 ∧ ∀ x, x ∈ l → x.Ok
  okp := fun l E w v h => by
    have h : Rd w (E.set [0]) (.sl Record.ty) v (.sl (l.map Record.enc)) := h
    obtain ⟨a, c, rfl, hs⟩ := h.sl'
    exact rows_ok hs (fun _ _ hr => Record.ok_of hr)
  ok := by
    intro s x h E w v hz hd
    split at h
    · rename_i l m e; simp only [Option.some.injEq] at h; subst h; exact zero_sl hz (SV.asRecord_ok e (fun i hi => hi) hd)
    · simp at h
def dConfig : Dec Config where
  dec := fun s => match s with | .agg cs => (match Config.of cs with | some (x, _) => some x | none => none) | _ => none
  can := fun x => .agg (x.svs [0])
  Okp := fun x => x.Ok
  okp := fun x E w v ⟨xs, _, hl⟩ => Config.ok_of (Config.svs_rd hl)
  ok := by
    intro s x h E w v hz hd
    split at h
    case h_2 => simp at h
    split at h
    case h_2 => simp at h
    rename_i cs _ y m e
    simp only [Option.some.injEq] at h
    subst h
    obtain ⟨xs, hv, hl⟩ := hd
    exact ⟨xs, hv, Config.svs_of (RdL.mono (fun b _ hb => hz.set hb) (Config.svs_rd (Config.of_ok e hl)))⟩
def dEntry : Dec Entry where
  dec := fun s => match s with | .agg cs => (match Entry.of cs with | some (x, _) => some x | none => none) | _ => none
  can := fun x => .agg (x.svs [0])
  Okp := fun x => x.Ok
  okp := fun x E w v ⟨xs, _, hl⟩ => Entry.ok_of (Entry.svs_rd hl)
  ok := by
    intro s x h E w v hz hd
    split at h
    case h_2 => simp at h
    split at h
    case h_2 => simp at h
    rename_i cs _ y m e
    simp only [Option.some.injEq] at h
    subst h
    obtain ⟨xs, hv, hl⟩ := hd
    exact ⟨xs, hv, Entry.svs_of (RdL.mono (fun b _ hb => hz.set hb) (Entry.svs_rd (Entry.of_ok e hl)))⟩
def dSnap : Dec Snap where
  dec := fun s => match s with | .agg cs => (match Snap.of cs with | some (x, _) => some x | none => none) | _ => none
  can := fun x => .agg (x.svs [0])
  Okp := fun x => x.Ok
  okp := fun x E w v ⟨xs, _, hl⟩ => Snap.ok_of (Snap.svs_rd hl)
  ok := by
    intro s x h E w v hz hd
    split at h
    case h_2 => simp at h
    split at h
    case h_2 => simp at h
    rename_i cs _ y m e
    simp only [Option.some.injEq] at h
    subst h
    obtain ⟨xs, hv, hl⟩ := hd
    exact ⟨xs, hv, Snap.svs_of (RdL.mono (fun b _ hb => hz.set hb) (Snap.svs_rd (Snap.of_ok e hl)))⟩
def dKept : Dec Kept where
  dec := fun s => match s with | .agg cs => (match Kept.of cs with | some (x, _) => some x | none => none) | _ => none
  can := fun x => .agg (x.svs [0])
  Okp := fun x => x.Ok
  okp := fun x E w v ⟨xs, _, hl⟩ => Kept.ok_of (Kept.svs_rd hl)
  ok := by
    intro s x h E w v hz hd
    split at h
    case h_2 => simp at h
    split at h
    case h_2 => simp at h
    rename_i cs _ y m e
    simp only [Option.some.injEq] at h
    subst h
    obtain ⟨xs, hv, hl⟩ := hd
    exact ⟨xs, hv, Kept.svs_of (RdL.mono (fun b _ hb => hz.set hb) (Kept.svs_rd (Kept.of_ok e hl)))⟩
def dRecord : Dec Record where
  dec := fun s => match s with | .agg cs => (match Record.of cs with | some (x, _) => some x | none => none) | _ => none
  can := fun x => .agg (x.svs [0])
  Okp := fun x => x.Ok
  okp := fun x E w v ⟨xs, _, hl⟩ => Record.ok_of (Record.svs_rd hl)
  ok := by
    intro s x h E w v hz hd
    split at h
    case h_2 => simp at h
    split at h
    case h_2 => simp at h
    rename_i cs _ y m e
    simp only [Option.some.injEq] at h
    subst h
    obtain ⟨xs, hv, hl⟩ := hd
    exact ⟨xs, hv, Record.svs_of (RdL.mono (fun b _ hb => hz.set hb) (Record.svs_rd (Record.of_ok e hl)))⟩
section
variable {P : Program} {α β γ δ ε : Type}
abbrev R3 := List Prop × SV × List BE
def isD2 : List BE → Bool
  | [.dead, .dead] => true
  | _ => false
theorem isD2_ok {m : List BE} (h : isD2 m = true) : m = D2 := by
  unfold isD2 at h; split at h
  · rfl
  · cases h
def go0 (r : R3) (ins : List SV) (mi : List BE) : Option R3 := match isD2 mi, ins with
  | true, [] => some r
  | _, _ => none
/-- what is known of the arguments may be used -/
theorem FnG.given {f : FuncId} {nl : Nat} {mi mo : List BE} {ins : List SV} {out : SV} {F : Prop} (hB : FnB P f) (hF : ∀ E w vals, DenL E w ins vals → F) (h : F → FnG P f nl mi ins out mo) : FnG P f nl mi ins out mo :=
  ⟨hB, fun w E vals hm hd => (h (hF E w vals hd)).2 w E vals hm hd⟩
theorem FnC.g1 {f : FuncId} {mo : List BE} {out : SV} (a : Dec α) (x : α) (hB : FnB P f) (h : a.Okp x → FnC P f [a.can x] out mo) : FnC P f [a.can x] out mo :=
  FnG.given hB (fun E w vals hd => by obtain ⟨v, rfl, h1⟩ := one_arg hd; exact a.okp _ _ _ _ h1) h
theorem FnC.g2 {f : FuncId} {mo : List BE} {out : SV} (a : Dec α) (b : Dec β) (x : α) (y : β) (hB : FnB P f) (h : a.Okp x → b.Okp y → FnC P f [a.can x, b.can y] out mo) : FnC P f [a.can x, b.can y] out mo :=
  FnG.given (F := a.Okp x ∧ b.Okp y) hB (fun E w vals hd => by obtain ⟨v, u, rfl, h1, h2⟩ := two_arg hd; exact ⟨a.okp _ _ _ _ h1, b.okp _ _ _ _ h2⟩) (fun hh => h hh.1 hh.2)
theorem FnC.g3 {f : FuncId} {mo : List BE} {out : SV} (a : Dec α) (b : Dec β) (c : Dec γ) (x : α) (y : β) (z : γ) (hB : FnB P f) (h : a.Okp x → b.Okp y → c.Okp z → FnC P f [a.can x, b.can y, c.can z] out mo) : FnC P f [a.can x, b.can y, c.can z] out mo :=
  FnG.given (F := a.Okp x ∧ b.Okp y ∧ c.Okp z) hB (fun E w vals hd => by
    match vals, hd with
    | [v1, v2, v3], hd => exact ⟨a.okp _ _ _ _ hd.1, b.okp _ _ _ _ hd.2.1, c.okp _ _ _ _ hd.2.2.1⟩) (fun hh => h hh.1 hh.2.1 hh.2.2)
theorem FnC.g4 {f : FuncId} {mo : List BE} {out : SV} (a : Dec α) (b : Dec β) (c : Dec γ) (d : Dec δ) (x : α) (y : β) (z : γ) (q : δ) (hB : FnB P f) (h : a.Okp x → b.Okp y → c.Okp z → d.Okp q → FnC P f [a.can x, b.can y, c.can z, d.can q] out mo) : FnC P f [a.can x, b.can y, c.can z, d.can q] out mo :=
  FnG.given (F := a.Okp x ∧ b.Okp y ∧ c.Okp z ∧ d.Okp q) hB (fun E w vals hd => by
    match vals, hd with
    | [v1, v2, v3, v4], hd => exact ⟨a.okp _ _ _ _ hd.1, b.okp _ _ _ _ hd.2.1, c.okp _ _ _ _ hd.2.2.1, d.okp _ _ _ _ hd.2.2.2.1⟩) (fun hh => h hh.1 hh.2.1 hh.2.2.1 hh.2.2.2)
def ent0 (f : FuncId) (r : R3) : Ent := ⟨f, false, [], [], 1, [], go0 r⟩
def go1 (a : Dec α) (r : α → R3) (ins : List SV) (mi : List BE) : Option R3 := match isD2 mi, ins with
  | true, [s] => match a.dec s with
    | some x => some (r x)
    | none => none
  | _, _ => none
def ent1 (f : FuncId) (a : Dec α) (r : α → R3) : Ent := ⟨f, false, [0], [], 1, [], go1 a r⟩
def go2 (a : Dec α) (b : Dec β) (r : α → β → R3) (ins : List SV) (mi : List BE) : Option R3 := match isD2 mi, ins with
  | true, [s, t] => match a.dec s, b.dec t with
    | some x, some y => some (r x y)
    | _, _ => none
  | _, _ => none
def ent2 (f : FuncId) (a : Dec α) (b : Dec β) (r : α → β → R3) : Ent := ⟨f, false, [0, 0], [], 1, [], go2 a b r⟩
def go3 (a : Dec α) (b : Dec β) (c : Dec γ) (r : α → β → γ → R3) (ins : List SV) (mi : List BE) : Option R3 := match isD2 mi, ins with
  | true, [s, t, u] => match a.dec s, b.dec t, c.dec u with
    | some x, some y, some z => some (r x y z)
    | _, _, _ => none
  | _, _ => none
def ent3 (f : FuncId) (a : Dec α) (b : Dec β) (c : Dec γ) (r : α → β → γ → R3) : Ent := ⟨f, false, [0, 0, 0], [], 1, [], go3 a b c r⟩
def go4 (a : Dec α) (b : Dec β) (c : Dec γ) (d : Dec δ) (r : α → β → γ → δ → R3) (ins : List SV) (mi : List BE) : Option R3 := match isD2 mi, ins with
  | true, [s, t, u, v] => match a.dec s, b.dec t, c.dec u, d.dec v with
    | some x, some y, some z, some q => some (r x y z q)
    | _, _, _, _ => none
  | _, _ => none
def ent4 (f : FuncId) (a : Dec α) (b : Dec β) (c : Dec γ) (d : Dec δ) (r : α → β → γ → δ → R3) : Ent := ⟨f, false, [0, 0, 0, 0], [], 1, [], go4 a b c d r⟩
theorem ent0_ok {f : FuncId} {r : R3} (hB : FnB P f) (h : (∀ p ∈ r.1, p) → FnC P f [] r.2.1 r.2.2) : EntOk P (ent0 f r) := by
  refine ⟨hB, fun ins mi n out mo hg hn => ?_⟩
  change go0 r ins mi = some (n, out, mo) at hg
  unfold go0 at hg
  split at hg
  case h_2 => simp at hg
  rename_i e
  obtain rfl := isD2_ok e
  simp only [Option.some.injEq] at hg
  subst hg
  exact h hn
theorem ent1_ok {f : FuncId} {a : Dec α} {r : α → R3} (hB : FnB P f) (h : ∀ x, (∀ p ∈ (r x).1, p) → FnC P f [a.can x] (r x).2.1 (r x).2.2) : EntOk P (ent1 f a r) := by
  refine ⟨hB, fun ins mi n out mo hg hn => ?_⟩
  change go1 a r ins mi = some (n, out, mo) at hg
  unfold go1 at hg
  split at hg
  case h_2 => simp at hg
  rename_i s e
  obtain rfl := isD2_ok e
  split at hg
  case h_2 => simp at hg
  rename_i x ex
  simp only [Option.some.injEq] at hg
  have := h x (by rw [hg]; exact hn)
  rw [hg] at this
  refine this.pre fun E w vals hz hd => ?_
  match vals, hd with
  | [v], hd => exact ⟨a.ok _ _ ex E w v hz hd.1, trivial⟩
theorem ent2_ok {f : FuncId} {a : Dec α} {b : Dec β} {r : α → β → R3} (hB : FnB P f) (h : ∀ x y, (∀ p ∈ (r x y).1, p) → FnC P f [a.can x, b.can y] (r x y).2.1 (r x y).2.2) : EntOk P (ent2 f a b r) := by
  refine ⟨hB, fun ins mi n out mo hg hn => ?_⟩
  change go2 a b r ins mi = some (n, out, mo) at hg
  unfold go2 at hg
  split at hg
  case h_2 => simp at hg
  rename_i s t e
  obtain rfl := isD2_ok e
  split at hg
  case h_2 => simp at hg
  rename_i x y ex ey
  simp only [Option.some.injEq] at hg
  have := h x y (by rw [hg]; exact hn)
  rw [hg] at this
  refine this.pre fun E w vals hz hd => ?_
  match vals, hd with
  | [v, u], hd => exact ⟨a.ok _ _ ex E w v hz hd.1, b.ok _ _ ey E w u hz hd.2.1, trivial⟩
theorem ent3_ok {f : FuncId} {a : Dec α} {b : Dec β} {c : Dec γ} {r : α → β → γ → R3} (hB : FnB P f) (h : ∀ x y z, (∀ p ∈ (r x y z).1, p) → FnC P f [a.can x, b.can y, c.can z] (r x y z).2.1 (r x y z).2.2) : EntOk P (ent3 f a b c r) := by
  refine ⟨hB, fun ins mi n out mo hg hn => ?_⟩
  change go3 a b c r ins mi = some (n, out, mo) at hg
  unfold go3 at hg
  split at hg
  case h_2 => simp at hg
  rename_i s t u e
  obtain rfl := isD2_ok e
  split at hg
  case h_2 => simp at hg
  rename_i x y z ex ey ez
  simp only [Option.some.injEq] at hg
  have := h x y z (by rw [hg]; exact hn)
  rw [hg] at this
  refine this.pre fun E w vals hz hd => ?_
  match vals, hd with
  | [v1, v2, v3], hd => exact ⟨a.ok _ _ ex E w v1 hz hd.1, b.ok _ _ ey E w v2 hz hd.2.1, c.ok _ _ ez E w v3 hz hd.2.2.1, trivial⟩
theorem ent4_ok {f : FuncId} {a : Dec α} {b : Dec β} {c : Dec γ} {d : Dec δ} {r : α → β → γ → δ → R3} (hB : FnB P f) (h : ∀ x y z q, (∀ p ∈ (r x y z q).1, p) → FnC P f [a.can x, b.can y, c.can z, d.can q] (r x y z q).2.1 (r x y z q).2.2) : EntOk P (ent4 f a b c d r) := by
  refine ⟨hB, fun ins mi n out mo hg hn => ?_⟩
  change go4 a b c d r ins mi = some (n, out, mo) at hg
  unfold go4 at hg
  split at hg
  case h_2 => simp at hg
  rename_i s t u v e
  obtain rfl := isD2_ok e
  split at hg
  case h_2 => simp at hg
  rename_i x y z q ex ey ez eq
  simp only [Option.some.injEq] at hg
  have := h x y z q (by rw [hg]; exact hn)
  rw [hg] at this
  refine this.pre fun E w vals hz hd => ?_
  match vals, hd with
  | [v1, v2, v3, v4], hd => exact ⟨a.ok _ _ ex E w v1 hz hd.1, b.ok _ _ ey E w v2 hz hd.2.1, c.ok _ _ ez E w v3 hz hd.2.2.1, d.ok _ _ eq E w v4 hz hd.2.2.2.1, trivial⟩
end
/-! an object that is handed in by its address -/
theorem zero_of1 {E : Env} {mi : List BE} {w : World} (hm : MemOk w.heap.size (cxIn E mi 1) w E (mOf mi) w) : E.zero := by
  intro i b h
  apply Classical.byContradiction
  intro hi
  have h1 := hm.lab i b h
  rcases h1.2 (show (1 : Nat) ≤ i by omega) with h2 | ⟨t, ht⟩
  · omega
  · exact (hm.sep t b ht).1 ⟨i, h⟩
theorem FnG.pre1 {P : Program} {f : FuncId} {mi : List BE} {ins ins' : List SV} {out : SV} {mo : List BE} (h : FnG P f 1 mi ins out mo) (hd : ∀ E w vals, Env.zero E → DenL E w ins' vals → DenL E w ins vals) : FnG P f 1 mi ins' out mo :=
  ⟨h.1, fun w E vals hm hv => h.2 w E vals hm (hd E w vals (zero_of1 hm) hv)⟩
structure Mem (σ : Type) where
  mi : σ → List BE
  dec : List BE → Option σ
  ok : ∀ m x, dec m = some x → m = mi x
section
variable {P : Program} {σ α β γ : Type}
def goM0 (M : Mem σ) (r : σ → R3) (ins : List SV) (mi : List BE) : Option R3 := match M.dec mi, ins with
  | some s, [.ptr 2 0] => some (r s)
  | _, _ => none
def goM1 (M : Mem σ) (a : Dec α) (r : σ → α → R3) (ins : List SV) (mi : List BE) : Option R3 := match M.dec mi, ins with
  | some s, [.ptr 2 0, x] => match a.dec x with
    | some x => some (r s x)
    | none => none
  | _, _ => none
def goM2 (M : Mem σ) (a : Dec α) (b : Dec β) (r : σ → α → β → R3) (ins : List SV) (mi : List BE) : Option R3 := match M.dec mi, ins with
  | some s, [.ptr 2 0, x, y] => match a.dec x, b.dec y with
    | some x, some y => some (r s x y)
    | _, _ => none
  | _, _ => none
def entM0 (f : FuncId) (M : Mem σ) (vr : List (Nat × TypeId × RL)) (gl : List Nat) (r : σ → R3) : Ent := ⟨f, true, [0], gl, 1, vr, goM0 M r⟩
def entM1 (f : FuncId) (M : Mem σ) (a : Dec α) (vr : List (Nat × TypeId × RL)) (gl : List Nat) (r : σ → α → R3) : Ent := ⟨f, true, [0, 0], gl, 1, vr, goM1 M a r⟩
def entM2 (f : FuncId) (M : Mem σ) (a : Dec α) (b : Dec β) (vr : List (Nat × TypeId × RL)) (gl : List Nat) (r : σ → α → β → R3) : Ent := ⟨f, true, [0, 0, 0], gl, 1, vr, goM2 M a b r⟩
theorem entM0_ok {f : FuncId} {M : Mem σ} {vr : List (Nat × TypeId × RL)} {gl : List Nat} {r : σ → R3} (hB : FnB P f) (h : ∀ s, (∀ p ∈ (r s).1, p) → FnG P f 1 (M.mi s) [.ptr 2 0] (r s).2.1 (r s).2.2) : EntOk P (entM0 f M vr gl r) := by
  refine ⟨hB, fun ins mi n out mo hg hn => ?_⟩
  change goM0 M r ins mi = some (n, out, mo) at hg
  unfold goM0 at hg
  split at hg
  case h_2 => simp at hg
  rename_i s e
  have e := M.ok _ _ e
  subst e
  simp only [Option.some.injEq] at hg
  have := h s (by rw [hg]; exact hn)
  rwa [hg] at this
theorem entM1_ok {f : FuncId} {M : Mem σ} {a : Dec α} {vr : List (Nat × TypeId × RL)} {gl : List Nat} {r : σ → α → R3} (hB : FnB P f) (h : ∀ s x, (∀ p ∈ (r s x).1, p) → FnG P f 1 (M.mi s) [.ptr 2 0, a.can x] (r s x).2.1 (r s x).2.2) : EntOk P (entM1 f M a vr gl r) := by
  refine ⟨hB, fun ins mi n out mo hg hn => ?_⟩
  change goM1 M a r ins mi = some (n, out, mo) at hg
  unfold goM1 at hg
  split at hg
  case h_2 => simp at hg
  rename_i s x e
  have e := M.ok _ _ e
  subst e
  split at hg
  case h_2 => simp at hg
  rename_i y ey
  simp only [Option.some.injEq] at hg
  have := h s y (by rw [hg]; exact hn)
  rw [hg] at this
  refine this.pre1 fun E w vals hz hd => ?_
  match vals, hd with
  | [v, u], hd => exact ⟨hd.1, a.ok _ _ ey E w u hz hd.2.1, trivial⟩
theorem entM2_ok {f : FuncId} {M : Mem σ} {a : Dec α} {b : Dec β} {vr : List (Nat × TypeId × RL)} {gl : List Nat} {r : σ → α → β → R3} (hB : FnB P f) (h : ∀ s x y, (∀ p ∈ (r s x y).1, p) → FnG P f 1 (M.mi s) [.ptr 2 0, a.can x, b.can y] (r s x y).2.1 (r s x y).2.2) : EntOk P (entM2 f M a b vr gl r) := by
  refine ⟨hB, fun ins mi n out mo hg hn => ?_⟩
  change goM2 M a b r ins mi = some (n, out, mo) at hg
  unfold goM2 at hg
  split at hg
  case h_2 => simp at hg
  rename_i s x y e
  have e := M.ok _ _ e
  subst e
  split at hg
  case h_2 => simp at hg
  rename_i x2 y2 ex ey
  simp only [Option.some.injEq] at hg
  have := h s x2 y2 (by rw [hg]; exact hn)
  rw [hg] at this
  refine this.pre1 fun E w vals hz hd => ?_
  match vals, hd with
  | [v1, v2, v3], hd => exact ⟨hd.1, a.ok _ _ ex E w v2 hz hd.2.1, b.ok _ _ ey E w v3 hz hd.2.2.1, trivial⟩
/-- what is known of the second argument -/
theorem FnG.gM1 {f : FuncId} {mi mo : List BE} {out : SV} {s : SV} (a : Dec α) (x : α) (hB : FnB P f) (h : a.Okp x → FnG P f 1 mi [s, a.can x] out mo) : FnG P f 1 mi [s, a.can x] out mo :=
  FnG.given hB (fun E w vals hd => by obtain ⟨v, u, rfl, _, h2⟩ := two_arg hd; exact a.okp _ _ _ _ h2) h
end
theorem fnB {P : Program} {f : FuncId} {fn : Func} (h : P.funcs[f]? = some fn) (h1 : fn.name ≠ "runtime.NumGoroutine") (h2 : fn.body.isSome = true) : FnB P f := ⟨fn, h, h1, h2⟩
theorem tab_nil {P : Program} : ∀ e ∈ ([] : List Ent), EntOk P e := fun _ h => by cases h
theorem tab_cons {P : Program} {e : Ent} {tab : List Ent} (h : EntOk P e) (ht : ∀ e ∈ tab, EntOk P e) : ∀ x ∈ e :: tab, EntOk P x := by
  intro x hx
  rcases List.mem_cons.1 hx with rfl | hx
  · exact h
  · exact ht x hx
theorem fitsT {tab : List Ent} (h : ∀ e ∈ tab, EntOk Try.prog e) (kd : TypeId → Option RL) : World.Fits Try.prog ⟨kd, orcT tab⟩ (moreA Try.prog) := ⟨by kernel_rfl, orcT_ok h kd, orcT_loc tab kd, moreA_ok _, moreA_loc _⟩
end Go.Proofs.Yteiojclemodhaaa
