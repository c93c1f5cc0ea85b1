/- The contracts of slices.IndexFunc and slices.DeleteFunc at api.Set, for a closure with one captured variable. Condition: the closure answers by a plain predicate wherever what it needs holds. -/
import Derived.Test.YtejahcpnbkegfaaClone
import Derived.Lib.SliceRun
namespace Go.Proofs.Ytejahcpnbkegfaa
open Go.RowKit
set_option linter.unusedVariables false
theorem gb_trans {w w1 w2 : World} {r : Option Nat} (h : w.grownBy w1 r) (k : w1.grownBy w2 r) : w.grownBy w2 r :=
  ⟨k.os.trans h.os, k.tape.trans h.tape, k.output.trans h.output, Nat.le_trans h.size k.size, fun i hi hne => (k.block i (Nat.lt_of_lt_of_le hi h.size) hne).trans (h.block i hi hne)⟩
theorem gb_below {w w' : World} {r : Option Nat} (h : Below w.heap.size w w') : w.grownBy w' r := ⟨h.os, h.tape, h.output, h.size, fun i hi _ => h.block i hi⟩
theorem gb_any {w w' : World} {r : Option Nat} (h : w.grownBy w' none) : w.grownBy w' r := gb_below (lend_bel h)
/-- in every world in which I holds, the closure answers p, and turns nothing that is there -/
def PredOn (g : Nat) (cv : Value) (p : Int → Bool) (I : World → Prop) : Prop :=
  ∀ (x : Int) (w : World), I w → Calls Try.prog g #[.int .i64 x, cv] w fun e w' => e = .returned (.bool (p x)) ∧ Below w.heap.size w w'
def idxP (p : Int → Bool) (xs : List Int) (n : Nat) : Int := if xs.findIdx p < n then (xs.findIdx p : Nat) else -1
theorem el_get {xs : List Int} {i : Nat} (h : i < xs.length) : el xs i = xs[i] := by simp [el, h]
theorem idxP_at {p : Int → Bool} {xs : List Int} {n k : Nat} (hn : xs.length = n) (hk : k < n) (h : p (el xs k) = true) (hq : ∀ i, i < k → p (el xs i) = false) : idxP p xs n = k := by
  have e : xs.findIdx p = k := by
    rw [List.findIdx_eq (by omega)]
    refine ⟨by rw [el_get (by omega)] at h; exact h, fun j hj => ?_⟩
    have := hq j hj
    rwa [el_get (by omega)] at this
  simp [idxP, e, hk]
theorem idxP_none {p : Int → Bool} {xs : List Int} {n : Nat} (hn : xs.length = n) (hq : ∀ i, i < n → p (el xs i) = false) : idxP p xs n = -1 := by
  have : ¬ xs.findIdx p < n := by
    intro h
    have h1 : xs.findIdx p < xs.length := by omega
    have h2 := List.findIdx_getElem (w := h1)
    have h3 := hq _ h
    rw [el_get h1, h2] at h3
    cases h3
  simp [idxP, this]
theorem indexFunc_any (g : Nat) (cv : Value) (p : Int → Bool) (I : World → Prop) (hp : PredOn g cv p I) (eg : ∀ args w, (callFunc g args).run Try.prog w = .ok (.enter g args) w)
    (a : Option Addr) (n c : Nat) (xs : List Int) (w : World) (hI : ∀ w', w.grownBy w' none → I w') (ha : IntSl w a n xs) :
    Calls Try.prog 51 #[.slice a n c, .func (.func g) #[] #[cv]] w fun e w' => e = .returned (.int .i64 (idxP p xs n)) ∧ Below w.heap.size w w' := by
  have hm := ha.mx
  have HI := Lib.hid hI
  clear hI
  go_enter Try.func51, Try.ntmps51
  go_wp2
  go_loopw [8] (fun i wr => ∃ k : Nat, k ≤ n ∧ i = .int .i64 k ∧ (∀ i, i < k → p (el xs i) = false) ∧ Below w.heap.size w wr) (fun i _ => n - (intOf i).toNat)
  case atStart => exact ⟨0, Nat.zero_le _, rfl, fun i h => absurd h (by omega), Below.refl _ _⟩
  case round =>
    obtain ⟨k, hk, rfl, hq, hbel⟩ := hrel
    have HQ := Lib.hid hq
    clear hq
    by_cases hlt : k < n
    · have k0 : (0 : Int) ≤ (k : Int) := by omega
      have k1 : (k : Int) < (n : Int) := by omega
      obtain ⟨ba, oa, rfl, hba, hca⟩ := (ha.below hbel).row (by omega)
      have ca := hca k hlt
      clear hca
      cases hv : p (el xs k)
      case true =>
        have hr := Lib.hid (idxP_at ha.len hlt hv HQ.out)
        have HV := Lib.hid hv
        clear hv
        go_wp2_with fail
        refine (hp _ _ (HI.out _ (gb_below hbel))).mono ?_
        rw [HV.out]
        rintro e w1 ⟨rfl, hb1⟩
        go_wp2_with fail
        go_ret
        exact ⟨by rw [hr.out]; rfl, hbel.trans (hb1.mono hbel.size)⟩
      case false =>
        have HV := Lib.hid hv
        clear hv
        go_wp2_with fail
        refine (hp _ _ (HI.out _ (gb_below hbel))).mono ?_
        rw [HV.out]
        rintro e w1 ⟨rfl, hb1⟩
        go_wp2_with fail
        go_roundw
        case rel => exact ⟨k + 1, by omega, by go_num, fun i hi => if e : i = k then by subst e; exact HV.out else HQ.out i (by omega), hbel.trans (hb1.mono hbel.size)⟩
        case measure => simp [intOf]; omega
    · have hr := Lib.hid (idxP_none ha.len (fun i hi => HQ.out i (by omega)))
      have k1 : ¬ (k : Int) < (n : Int) := by omega
      go_wp2
      go_ret
      exact ⟨by rw [hr.out]; rfl, hbel⟩
/-- the row's head: what is kept of the first j; from j on as it was -/
structure DelSt (p : Int → Bool) (xs : List Int) (n : Nat) (cur : List Value) (i j : Nat) : Prop where
  hi : i = ((xs.take j).filter (fun x => !p x)).length
  ij : i < j
  hd : cur.take i = ((xs.take j).filter (fun x => !p x)).map (Value.int .i64)
  tl : ∀ t, j ≤ t → t < n → cur[t]? = some (.int .i64 (el xs t))
theorem take_succ_el {xs : List Int} {j : Nat} (h : j < xs.length) : xs.take (j + 1) = xs.take j ++ [el xs j] := by
  rw [List.take_succ_eq_append_getElem h, el_get h]
theorem DelSt.keep {p : Int → Bool} {xs : List Int} {n : Nat} {cur : List Value} {i j : Nat} (h : DelSt p xs n cur i j) (hx : xs.length = n) (hc : n ≤ cur.length) (hj : j < n) (hv : p (el xs j) = false) : DelSt p xs n (cur.set i (.int .i64 (el xs j))) (i + 1) (j + 1) := by
  have e : (xs.take (j + 1)).filter (fun x => !p x) = (xs.take j).filter (fun x => !p x) ++ [el xs j] := by
    rw [take_succ_el (by omega), List.filter_append]; simp [hv]
  have hij := h.ij
  refine ⟨by rw [e, h.hi]; simp, by omega, ?_, fun t h1 h2 => ?_⟩
  · rw [e, List.map_append, ← h.hd, List.take_succ_eq_append_getElem (by simp; omega)]
    rw [List.take_set_of_le (Nat.le_refl _)]
    simp
  · rw [List.getElem?_set_ne (by omega)]; exact h.tl t (by omega) h2
theorem DelSt.drop {p : Int → Bool} {xs : List Int} {n : Nat} {cur : List Value} {i j : Nat} (h : DelSt p xs n cur i j) (hx : xs.length = n) (hj : j < n) (hv : p (el xs j) = true) : DelSt p xs n cur i (j + 1) := by
  have e : (xs.take (j + 1)).filter (fun x => !p x) = (xs.take j).filter (fun x => !p x) := by
    rw [take_succ_el (by omega), List.filter_append]; simp [hv]
  have hij := h.ij
  exact ⟨by rw [e, h.hi], by omega, by rw [e]; exact h.hd, fun t h1 h2 => h.tl t (by omega) h2⟩
theorem DelSt.first {p : Int → Bool} {xs : List Int} {n k : Nat} {cur : List Value} (hx : xs.length = n) (hk : k < n) (hcur : cur.take n = xs.map (Value.int .i64)) (hv : p (el xs k) = true) (hq : ∀ i, i < k → p (el xs i) = false) : DelSt p xs n cur k (k + 1) := by
  have e0 : (xs.take k).filter (fun x => !p x) = xs.take k := by
    rw [List.filter_eq_self]
    intro x hm
    obtain ⟨i, hi, e⟩ := List.mem_iff_getElem.1 hm
    simp only [List.length_take] at hi
    have := hq i (by omega)
    rw [el_get (by omega)] at this
    rw [← e]; simp [this]
  have e : (xs.take (k + 1)).filter (fun x => !p x) = xs.take k := by
    rw [take_succ_el (by omega), List.filter_append, e0]; simp [hv]
  refine ⟨by rw [e]; simp; omega, by omega, ?_, fun t h1 h2 => ?_⟩
  · rw [e, List.map_take, ← hcur, List.take_take, Nat.min_eq_left (by omega)]
  · have : (cur.take n)[t]? = (xs.map (Value.int .i64))[t]? := by rw [hcur]
    rw [List.getElem?_take, if_pos h2] at this
    rw [this, el_get (by omega)]; simp [show t < xs.length by omega]
/-- what the cells read, of a row known whole -/
structure RowIs (w : World) (g : Nat) (cur : List Value) (c : Nat) : Prop where
  row : w.heap[g]? = some (.cells cur.toArray 3 (0, 0))
  len : cur.length = c
theorem OwnI.rowIs {base : Nat} {w : World} {ad : Addr} {n c : Nat} {xs : List Int} (h : OwnI base w (.slice (some ad) n c) xs) :
    ∃ g cur, ad = ⟨g, 0, Option.none⟩ ∧ base ≤ g ∧ n = xs.length ∧ n ≤ c ∧ c ≤ maxLen ∧ RowIs w g cur c ∧ cur.take n = xs.map (Value.int .i64) := by
  obtain ⟨h1, ⟨hh, _⟩ | ⟨g, cap, cur, hv, hg, hh, hl, hm, hs, ht⟩⟩ := h
  · simp at hh
  · simp only [Value.slice.injEq, Option.some.injEq] at hv
    obtain ⟨rfl, rfl, rfl⟩ := hv
    exact ⟨g, cur.toList, rfl, hg, rfl, hl, hm, ⟨by simpa using hh, by simpa using hs⟩, by simpa using ht⟩
theorem RowIs.owns {w : World} {g c i : Nat} {cur : List Value} {l : List Int} {base : Nat} (h : RowIs w g cur c) (hb : base ≤ g) (hi : l.length = i) (hl : i ≤ c) (hm : c ≤ maxLen) (ht : cur.take i = l.map (Value.int .i64)) : OwnI base w (.slice (some ⟨g, 0, Option.none⟩) i c) l := by
  subst hi
  exact ⟨by simp, .inr ⟨g, c, cur.toArray, rfl, hb, h.row, hl, hm, by simp [h.len], by simpa using ht⟩⟩
theorem setCells_row {w : World} {g c : Nat} {cur : List Value} (h : RowIs w g cur c) (o : Nat) (l : List Value) : ∃ cur', RowIs (w.setCells g o l) g cur' c ∧ cur'.take o = cur.take o ∧ w.grownBy (w.setCells g o l) (some g) := by
  induction l generalizing w cur o with
  | nil => exact ⟨cur, h, rfl, World.grownBy.refl _ _⟩
  | cons v l ih =>
    have h1 : RowIs (w.setCell ⟨g, o, none⟩ v) g (cur.set o v) c := ⟨row_set h.row o v, by simpa using h.len⟩
    obtain ⟨c2, h2, h3, h4⟩ := ih h1 (o + 1)
    refine ⟨c2, h2, ?_, gb_trans (grownBy_set (World.grownBy.refl _ _) o v) h4⟩
    have e : (c2.take (o + 1)).take o = ((cur.set o v).take (o + 1)).take o := by rw [h3]
    rw [List.take_take, List.take_take, Nat.min_eq_left (by omega), List.take_set_of_le (Nat.le_refl _)] at e
    exact e
theorem zeroInt : ∀ w, (zeroValue 3).run Try.prog w = .ok (.int .i64 0) w := fun w => by kernel_rfl
def DelPost (base : Nat) (w : World) (row : Option Nat) (l : List Int) (e : Ending) (w' : World) : Prop := ∃ v, e = .returned v ∧ OwnI base w' v l ∧ w.grownBy w' row
theorem filter_none {p : Int → Bool} {xs : List Int} {n : Nat} (hn : xs.length = n) (hq : ∀ i, i < n → p (el xs i) = false) : xs.filter (fun x => !p x) = xs := by
  rw [List.filter_eq_self]
  intro x hm
  obtain ⟨i, hi, e⟩ := List.mem_iff_getElem.1 hm
  have := hq i (by omega)
  rw [el_get hi, e] at this
  simp [this]
set_option maxRecDepth 100000 in
set_option maxHeartbeats 1000000 in
theorem deleteFunc_any (g : Nat) (cv : Value) (p : Int → Bool) (I : World → Prop) (hp : PredOn g cv p I) (eg : ∀ args w, (callFunc g args).run Try.prog w = .ok (.enter g args) w)
    (base : Nat) (a : Option Addr) (n c : Nat) (xs : List Int) (w : World) (hI : ∀ w', w.grownBy w' (Value.ownBlock (.slice a n c)) → I w') (ho : OwnI base w (.slice a n c) xs) (hb : ∀ x ∈ xs, -9223372036854775808 ≤ x ∧ x ≤ 9223372036854775807) (hbase : base ≤ w.heap.size) :
    Calls Try.prog 48 #[.slice a n c, .func (.func g) #[] #[cv]] w (DelPost base w (Value.ownBlock (.slice a n c)) (xs.filter (fun x => !p x))) := by
  obtain ⟨a', c', e, hsl⟩ := ho.sl hb
  obtain ⟨rfl, rfl, rfl⟩ : a = a' ∧ n = xs.length ∧ c = c' := by simpa using e
  clear e
  have hm := hsl.mx
  have hIF := indexFunc_any g cv p I hp eg a xs.length c xs w (fun w' h => hI w' (gb_any h)) hsl
  generalize hn : xs.length = n at *
  by_cases hnone : ∀ i, i < n → p (el xs i) = false
  case pos =>
    have e1 := Lib.hid (idxP_none hn hnone)
    have e2 := Lib.hid (filter_none hn hnone)
    have HN := Lib.hid hn
    have HO := Lib.hid ho
    have HNO := Lib.hid hnone
    clear hn ho hnone hI
    go_enter Try.func48, Try.ntmps48
    go_wp2_with fail
    refine hIF.mono ?_
    rw [e1.out]
    rintro e w1 ⟨rfl, hb1⟩
    go_wp2_with fail
    go_ret
    rw [e2.out]
    exact ⟨_, rfl, HO.out.below hb1 (Nat.le_refl _), gb_below hb1⟩
  case neg =>
    obtain ⟨k, hk, hkp, hkq⟩ : ∃ k, k < n ∧ p (el xs k) = true ∧ ∀ i, i < k → p (el xs i) = false := by
      have hlt : xs.findIdx p < xs.length := by
        apply Classical.byContradiction
        intro h
        apply hnone
        intro i hi
        have h3 : xs.findIdx p = xs.length := by have := List.findIdx_le_length (xs := xs) (p := p); omega
        have h4 := (List.findIdx_eq_length.1 h3) xs[i] (List.getElem_mem _)
        rw [el_get (by omega)]; simpa using h4
      refine ⟨xs.findIdx p, by omega, ?_, fun i hi => ?_⟩
      · rw [el_get hlt]; exact List.findIdx_getElem (w := hlt)
      · rw [el_get (by omega)]
        have := List.not_of_lt_findIdx hi
        simpa using this
    obtain ⟨ba, oa, rfl, _, _⟩ := hsl.row (by omega)
    obtain ⟨gr, cur0, had, hbg, hnl, hnc, hcm, hrow0, hcur0⟩ := ho.rowIs
    obtain ⟨rfl, rfl⟩ : ba = gr ∧ oa = 0 := by simpa using had
    have e1 := Lib.hid (idxP_at hn hk hkp hkq)
    have HST := Lib.hid (DelSt.first hn hk hcur0 hkp hkq)
    have HN := Lib.hid hn
    have HI := Lib.hid hI
    have HR0 := Lib.hid hrow0
    have hgl : ba < w.heap.size := (Array.getElem?_eq_some_iff.1 hrow0.row).1
    have hcm' := hcm
    unfold maxLen at hcm'
    clear hn ho hnone hI hrow0 hcur0 hkp hkq had hnl
    go_enter Try.func48, Try.ntmps48
    go_wp2_with fail
    refine hIF.mono ?_
    rw [e1.out]
    rintro e w1 ⟨rfl, hb1⟩
    have hk1 : ((k : Int) == -1) = false := by simp
    go_wp2_with fail
    go_loopw [5, 6] (fun ti tj wr => ∃ i j : Nat, ∃ cur, i < j ∧ j ≤ n ∧ ti = .int .i64 i ∧ tj = .int .i64 j ∧ DelSt p xs n cur i j ∧ RowIs wr ba cur c ∧ w.grownBy wr (some ba)) (fun _ tj _ => n - (intOf tj).toNat)
    case atStart =>
      refine ⟨k, k + 1, cur0, by omega, by omega, rfl, by go_num, HST.out, ⟨?_, HR0.out.len⟩, gb_below hb1⟩
      rw [hb1.block _ hgl]; exact HR0.out.row
    case round =>
      obtain ⟨i, j, cur, hij, hj, rfl, rfl, hst, hrow, hgrow⟩ := hrel
      have hcl := hrow.len
      by_cases hlt : j < n
      · have k0 : (0 : Int) ≤ (j : Int) := by omega
        have k1 : (j : Int) < (n : Int) := by omega
        have k2 : (i : Int) < (n : Int) := by omega
        have cj : wr.cell? ⟨ba, j, none⟩ = some (.int .i64 (el xs j)) := row_cell hrow.row (hst.tl j (Nat.le_refl _) hlt)
        have HS := Lib.hid hst
        have HR := Lib.hid hrow
        have HG := Lib.hid hgrow
        have HCL := Lib.hid hcl
        clear hst hrow hgrow hcl
        cases hv : p (el xs j)
        case true =>
          have HV := Lib.hid hv
          clear hv
          go_wp2_with fail
          refine (hp _ _ (HI.out _ HG.out)).mono ?_
          rw [HV.out]
          rintro e w2 ⟨rfl, hb2⟩
          go_wp2_with fail
          go_roundw
          case rel => exact ⟨i, j + 1, cur, by omega, by omega, rfl, by go_num, HS.out.drop HN.out hlt HV.out, ⟨by rw [hb2.block _ (Array.getElem?_eq_some_iff.1 HR.out.row).1]; exact HR.out.row, HR.out.len⟩, gb_trans HG.out (gb_below hb2)⟩
          case measure => simp [intOf]; omega
        case false =>
          have HV := Lib.hid hv
          clear hv
          go_wp2_with fail
          refine (hp _ _ (HI.out _ HG.out)).mono ?_
          rw [HV.out]
          rintro e w2 ⟨rfl, hb2⟩
          have HR2 : Hid (RowIs w2 ba cur c) := ⟨by rw [hb2.block _ (Array.getElem?_eq_some_iff.1 HR.out.row).1]; exact HR.out.row, HR.out.len⟩
          have ci : w2.cell? ⟨ba, i, none⟩ = some (cur[i]'(by rw [HCL.out]; omega)) := row_cell HR2.out.row (by simp)
          have fi := row_frozen HR2.out.row i
          go_wp2_with fail
          go_roundw
          case rel => exact ⟨i + 1, j + 1, _, by omega, by omega, by go_num, by go_num, HS.out.keep HN.out (by rw [HCL.out]; exact hnc) hlt HV.out, ⟨row_set HR2.out.row i _, by simpa using HCL.out⟩, grownBy_set (gb_trans HG.out (gb_below hb2)) _ _⟩
          case measure => simp [intOf]; omega
      · have k1 : ¬ (j : Int) < (n : Int) := by omega
        obtain rfl : j = n := by omega
        have k2 : (i : Int) ≤ (j : Int) := by omega
        have k3 : (i : Int) ≤ (c : Int) := by omega
        have HS := Lib.hid hst
        have HR := Lib.hid hrow
        have HG := Lib.hid hgrow
        have hclr := Lib.run_clear_slice (P := Try.prog) wr 23 3 0 (.int .i64 0) Try.underlying23 zeroInt rfl rfl ba i (j - i) (c - i) (by omega)
          (fun t ht => by rw [row_cell hrow.row (v := cur[i + t]'(by omega)) (by simp)]; rfl) (fun t ht => row_frozen hrow.row _)
        obtain ⟨w3, cur3, hw3, hrow3, htk3, hgrow3⟩ : ∃ w3 cur3, wr.setCells ba i (List.replicate (j - i) (.int .i64 0)) = w3 ∧ RowIs w3 ba cur3 c ∧ cur3.take i = cur.take i ∧ wr.grownBy w3 (some ba) := by
          obtain ⟨c3, h1, h2, h3⟩ := setCells_row hrow i (List.replicate (j - i) (.int .i64 0))
          exact ⟨_, c3, rfl, h1, h2, h3⟩
        rw [hw3] at hclr
        have HR3 := Lib.hid hrow3
        have HT3 := Lib.hid htk3
        have HG3 := Lib.hid hgrow3
        clear hst hrow hgrow hcl hw3 hrow3 htk3 hgrow3
        have k4 : (i : Int) ≤ (j : Int) := by omega
        go_wp2
        go_ret
        have hfx : (xs.take j) = xs := List.take_of_length_le (by rw [HN.out]; exact Nat.le_refl _)
        refine ⟨_, rfl, HR3.out.owns hbg ?_ (by omega) hcm ?_, gb_trans HG.out HG3.out⟩
        · have := HS.out.hi; rw [hfx] at this; exact this.symm
        · rw [HT3.out]; have := HS.out.hd; rw [hfx] at this; exact this
end Go.Proofs.Ytejahcpnbkegfaa
