/- The symbolic walk: what comes of a call. No condition. -/
import Derived.Test.YteiojclemodhaaaSyM2
namespace Go.Proofs.Yteiojclemodhaaa
open Go.RowKit Go.ChangeShapes Go.WideShapes Go.Deep
set_option linter.unusedVariables false
set_option linter.unusedSimpArgs false
set_option linter.unusedSectionVars false
/-- the caller's names behind the call -/
def Cl.back (q : Cl) (E E' : Env) (c n : Nat) : Env where
  β := fun t => if c ≤ t ∧ t < c + 16 then (if t - c < n - (2 + q.V.T.length) then E'.β (2 + q.V.T.length + (t - c)) else none) else E.β t
  σ := fun i b => if c ≤ i ∧ i < c + 16 then E'.σ (q.nl + (i - c)) b else E.σ i b
theorem map_ok {E E' : Env} {w : World} {f : SV → SV} : ∀ (ss : List SV) (vs : List Value), (∀ s, s ∈ ss → ∀ v, DenV E w s v → DenV E' w (f s) v) → DenL E w ss vs → DenL E' w (ss.map f) vs
  | [], [], _, _ => trivial
  | s :: ss, v :: vs, hf, h => ⟨hf s (List.mem_cons_self ..) v h.1, map_ok ss vs (fun s hs => hf s (List.mem_cons_of_mem _ hs)) h.2⟩
  | [], _ :: _, _, h => h.elim
  | _ :: _, [], _, h => h.elim
theorem rel_flat {q : Cl} {c : Nat} {vs : List SV} (h : vs.all SV.flat = true) : (vs.map (rel0 q c)).all SV.flat = true := by
  simp only [List.all_eq_true, List.mem_map] at *
  rintro x ⟨s, hs, rfl⟩
  have := h s hs
  cases s <;> first | exact this | rfl
theorem relB_ne {q : Cl} {c : Nat} (e : BE) : relB q c e ≠ .empty := by cases e <;> simp [relB]
section
variable {P : Program} {base : Nat} {X : Cx} {w0 : World}
theorem Cl.call {q : Cl} {E : Env} {w : World} (hm : MemOk base X w0 E q.V.m w) (hg : q.Good) (hn : ∀ p ∈ q.needs, p) {c : Nat} (hfree : ∀ t, c ≤ t → t < c + 16 → q.V.m t = .empty) {f : FuncId} {out : SV} {mo : List BE} (hF : FnG P f q.nl q.mi q.ins out mo) (hO : q.okO out mo = true)
    {vals : List Value} (hd : DenL E w q.svs vals) : Calls P f vals.toArray w (fun e w' => ∃ v E', e = .returned v ∧ E.Le E' ∧ Same E.lab w w' ∧ DenV E' w' (relV q c out) v ∧ MemOk base X w0 E' (putF (q.upds c mo) q.V.m) w') := by
  simp only [Cl.okO, Bool.and_eq_true] at hO
  obtain ⟨⟨⟨hO1, hO2⟩, hO3⟩, hO4⟩ := hO
  have hO3 := Nat.le_of_ble_eq_true hO3
  have hO4 := Nat.le_of_ble_eq_true hO4
  have hin := Cl.memIn hm hg hn
  have hda : DenL (q.env E) w q.ins vals := Cl.denA hm q.svs q.al vals (fun p hp => List.mem_append_left _ hp) (fun p hp => List.mem_append_left _ hp) hd (fun p hp => hn p (List.mem_append_left _ hp))
  refine Calls.mono (hF.2 w (q.env E) vals hin hda) ?_
  rintro e' w' ⟨v, E', rfl, hv, hm'⟩
  -- tags of the caller's
  have hlive : ∀ u, u ∈ q.V.T → ¬ (c ≤ u ∧ u < c + 16) := fun u hu ⟨h1, h2⟩ => by
    have := hg.lv u hu
    rw [hfree u h1 h2] at this; cases this
  have hβE : ∀ t, c ≤ t ∧ t < c + 16 → E.β t = none := fun t h => (hm.empty t (hfree t h.1 h.2)).1
  have hσE : ∀ t b, c ≤ t ∧ t < c + 16 → ¬ E.σ t b := fun t b h => (hm.empty t (hfree t h.1 h.2)).2 b
  have hbβ : ∀ t, ¬ (c ≤ t ∧ t < c + 16) → (q.back E E' c mo.length).β t = E.β t := fun t h => by
    show (if _ then _ else E.β t) = _
    rw [if_neg h]
  have hbβn : ∀ j, 2 + q.V.T.length + j < mo.length → (q.back E E' c mo.length).β (c + j) = E'.β (2 + q.V.T.length + j) := fun j h => by
    show (if c ≤ c + j ∧ c + j < c + 16 then (if c + j - c < mo.length - (2 + q.V.T.length) then E'.β (2 + q.V.T.length + (c + j - c)) else none) else E.β (c + j)) = _
    rw [if_pos ⟨by omega, by omega⟩, if_pos (by omega), show c + j - c = j by omega]
  have hbσ : ∀ i b, ¬ (c ≤ i ∧ i < c + 16) → ((q.back E E' c mo.length).σ i b ↔ E.σ i b) := fun i b h => by
    show (if _ then _ else E.σ i b) ↔ _
    rw [if_neg h]
  have hbσn : ∀ j b, j < 16 → ((q.back E E' c mo.length).σ (c + j) b ↔ E'.σ (q.nl + j) b) := fun j b h => by
    show (if c ≤ c + j ∧ c + j < c + 16 then E'.σ (q.nl + (c + j - c)) b else E.σ (c + j) b) ↔ _
    rw [if_pos ⟨by omega, by omega⟩, show c + j - c = j by omega]
  have hkeep : ∀ k u, q.V.T[k]? = some u → ∃ x, E.β u = some x ∧ E'.β (2 + k) = some x := fun k u hk => by
    obtain ⟨x, hx, _⟩ := hm.holds (hg.lv u (List.mem_of_getElem? hk))
    refine ⟨x, hx, hm'.keep (2 + k) x ?_⟩
    show (if 2 + k < q.mi.length then (q.env E).β (2 + k) else none) = some x
    have hlt : k < q.V.T.length := (List.getElem?_eq_some_iff.1 hk).1
    rw [if_pos (by rw [q.mi_len]; omega), Nat.add_comm 2 k]
    show (match q.V.T[k]? with | some u => E.β u | none => none) = _
    rw [hk]; exact hx
  -- a tag of the callee's, as the caller has it
  have htag : ∀ t, 1 < t → t < mo.length → ∀ x, E'.β t = some x → (q.back E E' c mo.length).β (relT q c t) = some x := by
    intro t h1 h2 x hx
    unfold relT
    rw [blt_if]
    split
    · rename_i hlt
      obtain ⟨k, rfl⟩ : ∃ k, t = 2 + k := ⟨t - 2, by omega⟩
      have hk : q.V.T[k]? = some (q.V.T[k]'(by omega)) := List.getElem?_eq_getElem (by omega)
      obtain ⟨y, h3, h4⟩ := hkeep k _ hk
      rw [h4] at hx
      have e : q.V.T.getD (2 + k - 2) 0 = q.V.T[k]'(by omega) := by rw [show 2 + k - 2 = k by omega]; simp [List.getD, hk]
      rw [e, hbβ _ (hlive _ (List.mem_of_getElem? hk)), h3]; exact hx
    · rename_i hge
      have := hbβn (t - (2 + q.V.T.length)) (by omega)
      rw [show 2 + q.V.T.length + (t - (2 + q.V.T.length)) = t by omega] at this
      rw [this]; exact hx
  have hset : ∀ ls, okLs q ls = true → ∀ b, E'.set ls b → (q.back E E' c mo.length).set (relL q c ls) b := by
    intro ls hls b ⟨i, hi, hs⟩
    have h1 := List.all_eq_true.1 hls i hi
    rw [blt_if] at h1
    split at h1
    · rename_i hlt
      rcases hm'.old i b hlt hs with ⟨j, hj, hjs⟩ | ⟨t, ht, _⟩
      · refine ⟨j, List.mem_flatMap.2 ⟨i, hi, ?_⟩, ?_⟩
        · rw [blt_if, if_pos hlt]
          exact List.mem_map.2 ⟨(i, j), List.mem_filter.2 ⟨hj, by simp⟩, rfl⟩
        · rw [hbσ j b (fun h => hσE j b h hjs)]; exact hjs
      · exfalso
        have h2 : (q.OP.any fun p => Nat.beq p.1 i) = true := List.any_eq_true.2 ⟨(i, t), ht, by simp⟩
        rw [h2] at h1; cases h1
    · rename_i hge
      have h2 : i - q.nl < 16 := by simp [Nat.blt] at h1; omega
      refine ⟨c + (i - q.nl), List.mem_flatMap.2 ⟨i, hi, ?_⟩, ?_⟩
      · rw [blt_if, if_neg hge]; simp
      · rw [hbσn _ b h2, show q.nl + (i - q.nl) = i by omega]; exact hs
  have hden0 : ∀ s, ok0 q mo.length s = true → ∀ v, DenV E' w' s v → DenV (q.back E E' c mo.length) w' (rel0 q c s) v := by
    intro s hs v hv
    cases s
    case sl ls r => exact Rd.mono hv (fun b _ hb => hset ls hs b hb)
    case own t =>
      simp only [ok0, Bool.and_eq_true] at hs
      have h1 : 1 < t := by have := hs.1; simp [Nat.blt] at this; omega
      have h2 : t < mo.length := by have := hs.2; simp [Nat.blt] at this; omega
      exact ⟨htag t h1 h2 v hv.1, hv.2⟩
    case ptr t o =>
      simp only [ok0, Bool.and_eq_true] at hs
      have h1 : 1 < t := by have := hs.1; simp [Nat.blt] at this; omega
      have h2 : t < mo.length := by have := hs.2; simp [Nat.blt] at this; omega
      obtain ⟨b, h3, h4⟩ := hv
      exact ⟨b, htag t h1 h2 _ h3, h4⟩
    all_goals first | exact hv | trivial
  have hden1 : ∀ s, ok1 q mo.length s = true → ∀ v, DenV E' w' s v → DenV (q.back E E' c mo.length) w' (rel1 q c s) v := by
    intro s hs v hv
    cases s
    case agg vs =>
      obtain ⟨xs, h1, h2⟩ := hv
      exact ⟨xs, h1, map_ok vs xs (fun s h v hv => hden0 s (List.all_eq_true.1 hs s h) v hv) h2⟩
    case clo f vs =>
      obtain ⟨xs, h1, h2⟩ := hv
      exact ⟨xs, h1, map_ok vs xs (fun s h v hv => hden0 s (List.all_eq_true.1 hs s h) v hv) h2⟩
    all_goals
      have h2 := fun h => hden0 _ h v hv
      exact h2 hs
  have hdenV : DenV (q.back E E' c mo.length) w' (relV q c out) v := by
    cases out
    case tup vs =>
      obtain ⟨xs, h1, h2⟩ := hv
      exact ⟨xs, h1, map_ok vs xs (fun s h v hv => hden1 s (List.all_eq_true.1 hO1 s h) v hv) h2⟩
    all_goals
      have h2 := fun h => hden1 _ h v hv
      exact h2 hO1
  have hle : E.Le (q.back E E' c mo.length) := ⟨fun t x hx => by
      rw [hbβ t (fun h => by rw [hβE t h] at hx; cases hx)]; exact hx, fun i b hs => (hbσ i b (fun h => hσE i b h hs)).2 hs⟩
  have hbx := hm'.below
  -- blocks that may have been written
  have hX : ∀ b, (cxIn (q.env E) q.mi q.nl).X b → ∃ u, u ∈ q.V.T ∧ Has E q.V.m u b := by
    rintro b ⟨t, ht⟩
    obtain ⟨k, u, _, hk, hh⟩ := Cl.hasT hm hg ht
    exact ⟨u, List.mem_of_getElem? hk, hh⟩
  have hSame : Same E.lab w w' := ⟨hbx.size, fun b hl hlt => hbx.block b hlt (fun hx => by
    obtain ⟨u, _, hh⟩ := hX b hx
    exact (hm.sep u b hh).1 hl)⟩
  refine ⟨v, _, rfl, hle, hSame, hdenV, ?_⟩
  -- the memory
  have hp1 := putF_asg (f := fun k _ => relB q c (mo.getD (2 + k) .dead)) (m := q.V.m) (rest := asg (fun j _ => relB q c (mo.getD (2 + q.V.T.length + j) .dead)) 0 (blkN c 16)) q.V.T 0 hg.nd
  have hp2 := putF_asg (f := fun j _ => relB q c (mo.getD (2 + q.V.T.length + j) .dead)) (m := q.V.m) (rest := []) (blkN c 16) 0 (blkN_nodup 16 c)
  rw [List.append_nil] at hp2
  have hmT : ∀ k u, q.V.T[k]? = some u → putF (q.upds c mo) q.V.m u = relB q c (mo.getD (2 + k) .dead) := fun k u hk => by
    have := hp1.1 k u hk
    rw [Nat.zero_add] at this; exact this
  have hmN : ∀ j, j < 16 → putF (q.upds c mo) q.V.m (c + j) = relB q c (mo.getD (2 + q.V.T.length + j) .dead) := fun j hj => by
    have h1 := hp1.2 (c + j) (fun h => hlive _ h ⟨by omega, by omega⟩)
    have h2 := hp2.1 j (c + j) (blkN_at 16 c j hj)
    rw [Nat.zero_add] at h2
    exact h1.trans h2
  have hmO : ∀ t, t ∉ q.V.T → ¬ (c ≤ t ∧ t < c + 16) → putF (q.upds c mo) q.V.m t = q.V.m t := fun t h1 h2 =>
    (hp1.2 t h1).trans (hp2.2 t (fun h => h2 ((blkN_mem 16 c t).1 h)))
  -- what a callee's entry says, in the caller's names
  have hHold : ∀ t, 1 < t → t < mo.length → (relB q c (mo.getD t .dead)).live = true → ∃ x, E'.β t = some x ∧ Holds (q.back E E' c mo.length) w' x (relB q c (mo.getD t .dead)) ∧ (mOf mo t).live = true := by
    intro t h1 h2 hl
    have hat : mo[t]? = some (mo[t]'h2) := List.getElem?_eq_getElem h2
    have e1 : mo.getD t .dead = mo[t]'h2 := by simp [List.getD, hat]
    have e2 : mOf mo t = mo[t]'h2 := by rw [mOf_get]; simp [List.getD, hat]
    rw [e1] at hl ⊢
    rw [e2]
    have hok : okB q mo.length (mo[t]'h2) = true := List.all_eq_true.1 hO2 _ (List.mem_of_getElem? hat)
    generalize mo[t]'h2 = e at *
    cases e with
    | empty => cases hl
    | dead => cases hl
    | cells T vs =>
      obtain ⟨b, xs, c1, c2, c3, c4⟩ := hm'.cells t T vs e2
      exact ⟨_, c1, ⟨b, xs, rfl, c2, map_ok vs xs (fun s hs v hv => hden0 s (List.all_eq_true.1 hok s hs) v hv) c3, rel_flat c4⟩, rfl⟩
    | row T ls r =>
      obtain ⟨x, c1, c2⟩ := hm'.row t T ls r e2
      exact ⟨x, c1, c2.mono (Nat.le_refl _) (fun b hb => hset ls hok b hb), rfl⟩
  -- whose block it is
  have hcase : ∀ t b, Has (q.back E E' c mo.length) (putF (q.upds c mo) q.V.m) t b → (∃ t', 1 < t' ∧ t' < mo.length ∧ Has E' (mOf mo) t' b ∧ t = relT q c t') ∨ (t ∉ q.V.T ∧ ¬ (c ≤ t ∧ t < c + 16) ∧ Has E q.V.m t b) := by
    intro t b ⟨hl, x, hx, hxb⟩
    by_cases ht : t ∈ q.V.T
    · obtain ⟨k, hk, e⟩ := List.getElem_of_mem ht
      have hk2 : q.V.T[k]? = some t := by rw [← e]; exact List.getElem?_eq_getElem hk
      rw [hmT k t hk2] at hl
      obtain ⟨y, h1, _, h3⟩ := hHold (2 + k) (by omega) (by omega) hl
      obtain ⟨z, h4, h5⟩ := hkeep k t hk2
      rw [hbβ t (hlive t ht), h4] at hx
      simp only [Option.some.injEq] at hx
      subst hx
      refine .inl ⟨2 + k, by omega, by omega, ⟨h3, _, h5, hxb⟩, ?_⟩
      unfold relT
      rw [blt_if, if_pos (by omega), show 2 + k - 2 = k by omega]
      simp [List.getD, hk2]
    · by_cases hc : c ≤ t ∧ t < c + 16
      · obtain ⟨j, rfl⟩ : ∃ j, t = c + j := ⟨t - c, by omega⟩
        rw [hmN j (by omega)] at hl
        have hlt : 2 + q.V.T.length + j < mo.length := by
          rcases Nat.lt_or_ge (2 + q.V.T.length + j) mo.length with h | h
          · exact h
          · simp [List.getD, List.getElem?_eq_none h, relB, BE.live] at hl
        obtain ⟨y, h1, _, h3⟩ := hHold _ (by omega) hlt hl
        rw [hbβn j hlt, h1] at hx
        simp only [Option.some.injEq] at hx
        subst hx
        refine .inl ⟨_, by omega, hlt, ⟨h3, _, h1, hxb⟩, ?_⟩
        unfold relT
        rw [blt_if, if_neg (by omega), show 2 + q.V.T.length + j - (2 + q.V.T.length) = j by omega]
      · rw [hmO t ht hc] at hl
        rw [hbβ t hc] at hx
        exact .inr ⟨ht, hc, hl, x, hx, hxb⟩
  have hbl : ∀ i b, (q.back E E' c mo.length).σ i b → (c ≤ i ∧ i < c + 16 ∧ E'.σ (q.nl + (i - c)) b) ∨ (¬ (c ≤ i ∧ i < c + 16) ∧ E.σ i b) := fun i b hs => by
    by_cases hc : c ≤ i ∧ i < c + 16
    · obtain ⟨j, rfl⟩ : ∃ j, i = c + j := ⟨i - c, by omega⟩
      rw [hbσn j b (by omega)] at hs
      exact .inl ⟨hc.1, hc.2, by rw [show c + j - c = j by omega]; exact hs⟩
    · exact .inr ⟨hc, (hbσ i b hc).1 hs⟩
  -- a block that the callee names is new or handed in
  have hnewL : ∀ j b, q.nl ≤ j → E'.σ j b → w.heap.size ≤ b ∨ ∃ u, u ∈ q.V.T ∧ Has E q.V.m u b := fun j b hj hs => ((hm'.lab j b hs).2 hj).imp id (hX b)
  have hnewT : ∀ t b, Has E' (mOf mo) t b → w.heap.size ≤ b ∨ ∃ u, u ∈ q.V.T ∧ Has E q.V.m u b := fun t b hh => ((hm'.sep t b hh).2).imp id (hX b)
  refine hm.go hle hSame (fun t => t ∈ q.V.T ∨ (c ≤ t ∧ t < c + 16)) (fun t ht => ?_) (fun t ht hmt b hs => ?_) (fun t b ht hh => hbx.block b (hm.lt hh) (fun hx => ?_)) (fun t ht => ?_) (fun i b hs => ?_) (fun i j b h1 h2 => ?_) (fun t b hh => ?_) (fun i b hi hs => ?_) (fun t u b h1 h2 => ?_)
    ⟨hbx.os, hbx.tape, hbx.output, hbx.size, fun b hlt hnx => hbx.block b (Nat.lt_of_lt_of_le hlt hm.base) (fun hx => ?_)⟩
  · simp only [not_or] at ht
    exact ⟨hmO t ht.1 ht.2, hbβ t ht.2⟩
  · simp only [not_or] at ht
    exact (hm.empty t hmt).2 b ((hbσ t b ht.2).1 hs)
  · simp only [not_or] at ht
    obtain ⟨u, hu, hh2⟩ := hX b hx
    exact ht.1 (hm.inj t u b hh hh2 ▸ hu)
  · by_cases hT : t ∈ q.V.T
    · obtain ⟨k, hk, e⟩ := List.getElem_of_mem hT
      have hk2 : q.V.T[k]? = some t := by rw [← e]; exact List.getElem?_eq_getElem hk
      rw [hmT k t hk2]
      refine ⟨relB_ne _, fun hl => ?_⟩
      obtain ⟨y, h1, h2, _⟩ := hHold (2 + k) (by omega) (by omega) hl
      obtain ⟨z, h4, h5⟩ := hkeep k t hk2
      rw [h5] at h1
      simp only [Option.some.injEq] at h1
      subst h1
      exact ⟨z, by rw [hbβ t (hlive t hT)]; exact h4, h2⟩
    · have hc := ht.resolve_left hT
      obtain ⟨j, rfl⟩ : ∃ j, t = c + j := ⟨t - c, by omega⟩
      rw [hmN j (by omega)]
      refine ⟨relB_ne _, fun hl => ?_⟩
      have hlt : 2 + q.V.T.length + j < mo.length := by
        rcases Nat.lt_or_ge (2 + q.V.T.length + j) mo.length with h | h
        · exact h
        · simp [List.getD, List.getElem?_eq_none h, relB, BE.live] at hl
      obtain ⟨y, h1, h2, _⟩ := hHold _ (by omega) hlt hl
      exact ⟨y, by rw [hbβn j hlt]; exact h1, h2⟩
  · rcases hbl i b hs with ⟨h1, h2, h3⟩ | ⟨h1, h3⟩
    · refine ⟨(hm'.lab _ b h3).1, fun _ => ?_⟩
      rcases hnewL _ b (by omega) h3 with h4 | ⟨u, hu, hh⟩
      · exact .inl (Nat.le_trans hm.base h4)
      · exact (hm.sep u b hh).2
    · exact ⟨Nat.lt_of_lt_of_le (hm.lab i b h3).1 hbx.size, (hm.lab i b h3).2⟩
  · have cross : ∀ j b, ∀ i', E'.σ (q.nl + j) b → E.σ i' b → False := fun j b i' h3 h4 => by
      rcases hnewL _ b (by omega) h3 with h5 | ⟨u, hu, hh⟩
      · have := (hm.lab i' b h4).1; omega
      · exact (hm.sep u b hh).1 ⟨i', h4⟩
    rcases hbl i b h1 with ⟨h3, h4, h5⟩ | ⟨h3, h5⟩
    · rcases hbl j b h2 with ⟨h6, h7, h8⟩ | ⟨h6, h8⟩
      · have := hm'.dis _ _ b h5 h8; omega
      · exact (cross _ b j h5 h8).elim
    · rcases hbl j b h2 with ⟨h6, h7, h8⟩ | ⟨h6, h8⟩
      · exact (cross _ b i h8 h5).elim
      · exact hm.dis i j b h5 h8
  · rcases hcase t b hh with ⟨t', h1, h2, h3, h4⟩ | ⟨h1, h2, h3⟩
    · refine ⟨fun ⟨i, hi⟩ => ?_, ?_⟩
      · rcases hbl i b hi with ⟨_, _, h5⟩ | ⟨_, h5⟩
        · exact (hm'.sep t' b h3).1 ⟨_, h5⟩
        · rcases hnewT t' b h3 with h6 | ⟨u, hu, hh2⟩
          · have := (hm.lab i b h5).1; omega
          · exact (hm.sep u b hh2).1 ⟨i, h5⟩
      · rcases hnewT t' b h3 with h6 | ⟨u, hu, hh2⟩
        · exact .inl (Nat.le_trans hm.base h6)
        · exact (hm.sep u b hh2).2
    · refine ⟨fun ⟨i, hi⟩ => ?_, (hm.sep t b h3).2⟩
      rcases hbl i b hi with ⟨_, _, h5⟩ | ⟨_, h5⟩
      · rcases hnewL _ b (by omega) h5 with h6 | ⟨u, hu, hh2⟩
        · have := hm.lt h3; omega
        · exact h1 (hm.inj t u b h3 hh2 ▸ hu)
      · exact (hm.sep t b h3).1 ⟨i, h5⟩
  · rcases hbl i b hs with ⟨h1, h2, _⟩ | ⟨_, h3⟩
    · exact absurd (hfree i h1 h2) (hm.low i hi)
    · exact hm.old i b hi h3
  · rcases hcase t b h1 with ⟨t', a1, a2, a3, a4⟩ | ⟨a1, a2, a3⟩
    · rcases hcase u b h2 with ⟨u', b1, b2, b3, b4⟩ | ⟨b1, b2, b3⟩
      · rw [a4, b4, hm'.inj t' u' b a3 b3]
      · exfalso
        rcases hnewT t' b a3 with h6 | ⟨z, hz, hh2⟩
        · have := hm.lt b3; omega
        · exact b1 (hm.inj u z b b3 hh2 ▸ hz)
    · rcases hcase u b h2 with ⟨u', b1, b2, b3, b4⟩ | ⟨b1, b2, b3⟩
      · exfalso
        rcases hnewT u' b b3 with h6 | ⟨z, hz, hh2⟩
        · have := hm.lt a3; omega
        · exact a1 (hm.inj t z b a3 hh2 ▸ hz)
      · exact hm.inj t u b a3 b3
  · obtain ⟨u, _, hh⟩ := hX b hx
    rcases (hm.sep u b hh).2 with h1 | h1
    · omega
    · exact hnx h1
end
end Go.Proofs.Yteiojclemodhaaa
