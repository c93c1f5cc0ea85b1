/- Contracts of the reference's Last, Term and Newer, and of raftlog.Newer. Condition: a struct that reads as a log. -/
import Derived.Test.YteiojclemodhaaaLogC
import Derived.Test.YteiojclemodhaaaLogD
namespace Go.Proofs.Yteiojclemodhaaa
open Go.RowKit
set_option linter.unusedVariables false
set_option linter.unusedSimpArgs false
/-! plain -/
theorem dn_self (m : Nat) : dn (m + 1) (m + 1) = m :: dn m m := by
  unfold dn
  rw [List.range_succ_eq_map, List.map_cons, List.map_map]
  congr 1
  apply List.map_congr_left
  intro j hj
  simp only [Function.comp, Nat.succ_eq_add_one]
  omega
def lastR (k : Kept) : Int × Int := if k.entries.length = 0 then snapP k else entP k (k.entries.length - 1)
theorem lastP_eq (k : Kept) : lastP k = if onB k then lastR k else (0, 0) := by
  unfold lastP lastR bwL
  cases h : k.entries.length with
  | zero => simp [dn]
  | succ m => rw [dn_self]; simp
theorem on_index {k : Kept} (h : onP k) {i : Nat} (hi : i < k.entries.length) : (k.en i).index = k.snap.index + 1 + i := by
  have := h.2.2 i hi
  unfold okAt at this
  omega
theorem find_dn (k : Kept) (f : Nat → Int × Int) (i : Int) : ∀ m, (∀ j, j < m → (f j).1 ≠ i) → ((dn m m).map f).find? (fun p => decide (p.1 = i)) = none
  | 0, _ => by simp [dn]
  | m + 1, h => by
    rw [dn_self, List.map_cons, List.find?_cons, find_dn k f i m (fun j hj => h j (by omega))]
    simp [h m (by omega)]
theorem find_dn_at (f : Nat → Int × Int) (i : Int) : ∀ m j, j < m → (f j).1 = i → (∀ j', j' < m → (f j').1 = i → j' = j) → ((dn m m).map f).find? (fun p => decide (p.1 = i)) = some (f j)
  | 0, j, hj, _, _ => absurd hj (by omega)
  | m + 1, j, hj, he, hu => by
    rw [dn_self, List.map_cons, List.find?_cons]
    by_cases h : (f m).1 = i
    · have : m = j := hu m (by omega) h
      subst this; simp [h]
    · have hne : j ≠ m := fun e => h (e ▸ he)
      simp only [h, decide_false]
      exact find_dn_at f i m j (by omega) he (fun j' hj' => hu j' (by omega))
theorem termP_snap {k : Kept} (h : onB k = true) : termP k k.snap.index = (k.snap.term, 0) := by
  have hp := onB_iff.1 h
  unfold termP bwL
  rw [if_pos h, List.find?_append, find_dn k (entP k) _ _ (fun j hj => by show (k.en j).index ≠ _; rw [on_index hp hj]; omega)]
  simp [snapP]
theorem termP_at {k : Kept} (h : onB k = true) {j : Nat} (hj : j < k.entries.length) : termP k (k.en j).index = ((k.en j).term, 0) := by
  have hp := onB_iff.1 h
  unfold termP bwL
  rw [if_pos h, List.find?_append, find_dn_at (entP k) (k.en j).index _ j hj rfl (fun j' hj' he => by
    have h1 : (k.en j').index = (k.en j).index := he
    rw [on_index hp hj, on_index hp hj'] at h1
    omega)]
  simp [entP]
theorem termP_none {k : Kept} (h : onB k = true) {i : Int} (h0 : i ≠ k.snap.index) (h1 : ∀ j, j < k.entries.length → (k.en j).index ≠ i) : termP k i = (0, 150) := by
  unfold termP bwL
  rw [if_pos h, List.find?_append, find_dn k (entP k) _ _ (fun j hj => h1 j hj)]
  simp [snapP, Ne.symm h0]
theorem termP_off {k : Kept} (h : onB k = false) (i : Int) : termP k i = (0, 1) := by simp [termP, h]
/-! the walks -/
set_option maxHeartbeats 1000000 in
theorem rlast_any (vs : List Value) (k : Kept) (w : World) (S : Nat → Prop) (h : RdL w S Kept.ty vs k.enc) :
    Calls Try.prog 11 #[.agg vs.toArray] w (I2Post w (lastP k).1 (lastP k).2) := by
  have hcall := on_any vs k _ S (RdL.same (Same.alloc S w (.cells vs.toArray 30)) h)
  have HC := Lib.hid hcall
  obtain ⟨a4, c4, a5, c5, a7, c7, rfl, b0, b1, b2, b3, s4, s5, b6, s7⟩ := Kept.opens h
  have n7 := s7.bd.2.2.1
  have H7 := Lib.hid s7
  clear h s4 s5 s7 hcall
  cases ho : onB k with
  | false =>
    have HL := Lib.hid (show lastP k = (0, 0) by simp [lastP, ho])
    have HO := Lib.hid ho
    clear ho
    go_enter Try.func11, Try.ntmps11
    go_wp2_with fail
    refine HC.out.mono ?_
    rw [HO.out]
    rintro e w1 ⟨rfl, B1⟩
    obtain ⟨_, B2, _⟩ := boxed_call B1
    go_wp2_with fail
    go_ret2
    exact ⟨by rw [HL.out]; rfl, B2⟩
  | true =>
    have HL := Lib.hid (show lastP k = lastR k by rw [lastP_eq, ho]; rfl)
    have HO := Lib.hid ho
    clear ho
    by_cases hn : k.entries.length = 0
    · have HR := Lib.hid (show lastP k = (k.snap.index, k.snap.term) by rw [HL.out, lastR, if_pos hn]; rfl)
      have q : ((k.entries.length : Int) == 0) = true := by simp [hn]
      clear hn
      go_enter Try.func11, Try.ntmps11
      go_wp2_with fail
      refine HC.out.mono ?_
      rw [HO.out]
      rintro e w1 ⟨rfl, B1⟩
      obtain ⟨kb, B2, z2⟩ := boxed_call B1
      obtain ⟨q0, q1, q2, q3, q4, q5, q6, q7⟩ := box8 kb
      clear kb B1
      go_wp2_with fail
      go_quiet (fail)
      go_wp2_with fail
      go_ret2
      exact ⟨by rw [HR.out]; rfl, bdrewN B2 _⟩
    · obtain ⟨m, hm⟩ : ∃ m, m + 1 = k.entries.length := ⟨k.entries.length - 1, by omega⟩
      have HR := Lib.hid (show lastP k = ((k.en m).index, (k.en m).term) by rw [HL.out, lastR, if_neg hn, ← hm]; rfl)
      have q : ((k.entries.length : Int) == 0) = false := by simp [hn]
      have hw : IntKind.i64.wrap ((k.entries.length : Int) - 1) = (m : Int) := by rw [IntWalk.i64_in _ (by omega)]; omega
      have hw2 : (k.entries.length : Int) - 1 = (m : Int) := by omega
      have m0 : (0 : Int) ≤ (m : Int) := by omega
      have m1 : (m : Int) < (k.entries.length : Int) := by omega
      have hm1 : m < k.entries.length := by omega
      have HM := Lib.hid hm
      clear hn hm
      go_enter Try.func11, Try.ntmps11
      go_wp2_with fail
      refine HC.out.mono ?_
      rw [HO.out]
      rintro e w1 ⟨rfl, B1⟩
      obtain ⟨kb, B2, z2⟩ := boxed_call B1
      obtain ⟨q0, q1, q2, q3, q4, q5, q6, q7⟩ := box8 kb
      have H71 := Lib.hid (H7.out.same (Same.below B2))
      obtain ⟨b, off, rfl⟩ := H71.out.addr (by omega)
      obtain ⟨hS, hb, a3e, c3e, a4e, c4e, e0, e1, e2, e3, e4, e5, f0, f1, f2, f3, f4, f5⟩ := Entry.row H71.out hm1
      clear kb B1 e2 e3 e4 e5 f3 f4
      generalize hE : k.entries.getD m default = e at *
      have HE := Lib.hid (show k.en m = e from hE)
      clear hE
      go_wp2_with fail
      go_quiet (fail)
      go_wp2_with fail
      go_ret2
      exact ⟨by rw [HR.out, HE.out]; rfl, bdrewN B2 _⟩
set_option maxHeartbeats 1000000 in
theorem rterm_any (vs : List Value) (k : Kept) (index : Int) (w : World) (S : Nat → Prop) (h : RdL w S Kept.ty vs k.enc) :
    Calls Try.prog 16 #[.agg vs.toArray, .int .i64 index] w (I2Post w (termP k index).1 (termP k index).2) := by
  have hcall := on_any vs k _ S (RdL.same (Same.alloc S w (.cells vs.toArray 30)) h)
  have HC := Lib.hid hcall
  obtain ⟨a4, c4, a5, c5, a7, c7, rfl, b0, b1, b2, b3, s4, s5, b6, s7⟩ := Kept.opens h
  have n7 := s7.bd.2.2.1
  have H7 := Lib.hid s7
  clear h s4 s5 s7 hcall
  cases ho : onB k with
  | false =>
    have HL := Lib.hid (termP_off ho index)
    have HO := Lib.hid ho
    clear ho
    go_enter Try.func16, Try.ntmps16
    go_wp2_with fail
    refine HC.out.mono ?_
    rw [HO.out]
    rintro e w1 ⟨rfl, B1⟩
    obtain ⟨_, B2, _⟩ := boxed_call B1
    go_wp2_with fail
    go_ret2
    exact ⟨by rw [HL.out]; rfl, B2⟩
  | true =>
    have HO := Lib.hid ho
    clear ho
    by_cases hi : index = k.snap.index
    · have HL := Lib.hid (show termP k index = (k.snap.term, 0) by rw [hi]; exact termP_snap HO.out)
      have q : (index == k.snap.index) = true := by simp [hi]
      clear hi
      go_enter Try.func16, Try.ntmps16
      go_wp2_with fail
      refine HC.out.mono ?_
      rw [HO.out]
      rintro e w1 ⟨rfl, B1⟩
      obtain ⟨kb, B2, z2⟩ := boxed_call B1
      obtain ⟨q0, q1, q2, q3, q4, q5, q6, q7⟩ := box8 kb
      clear kb B1
      go_wp2_with fail
      go_ret2
      exact ⟨by rw [HL.out]; rfl, B2⟩
    · have q : (index == k.snap.index) = false := by simp [hi]
      have HI := Lib.hid hi
      clear hi
      go_enter Try.func16, Try.ntmps16
      go_wp2_with fail
      refine HC.out.mono ?_
      rw [HO.out]
      rintro e w1 ⟨rfl, B1⟩
      obtain ⟨kb, B2, z2⟩ := boxed_call B1
      obtain ⟨q0, q1, q2, q3, q4, q5, q6, q7⟩ := box8 kb
      have H71 := Lib.hid (H7.out.same (Same.below B2))
      clear kb B1
      go_wp2_with fail
      go_loop [6] (fun i => ∃ j : Nat, j ≤ k.entries.length ∧ i = .int .i64 j ∧ ∀ i, i < j → (k.en i).index ≠ index) (fun i => k.entries.length - (intOf i).toNat)
      case atStart => exact ⟨0, Nat.zero_le _, rfl, fun i h => absurd h (by omega)⟩
      case round =>
        obtain ⟨j, hj, rfl, hq⟩ := hrel
        have HQ := Lib.hid hq
        clear hq
        by_cases hlt : j < k.entries.length
        · obtain ⟨b, off, rfl⟩ := H71.out.addr (by omega)
          obtain ⟨hS, hb, a3e, c3e, a4e, c4e, e0, e1, e2, e3, e4, e5, f0, f1, f2, f3, f4, f5⟩ := Entry.row H71.out hlt
          clear e2 e3 e4 e5 f3 f4
          generalize hE : k.entries.getD j default = e at *
          have HE := Lib.hid (show k.en j = e from hE)
          clear hE
          have j0 : (0 : Int) ≤ (j : Int) := by omega
          have j1 : (j : Int) < (k.entries.length : Int) := by omega
          by_cases hx : e.index = index
          · have HR := Lib.hid (show termP k index = (e.term, 0) by rw [← hx, ← HE.out]; exact termP_at HO.out hlt)
            have q : (e.index == index) = true := by simp [hx]
            clear hx
            go_wp2_with fail
            go_ret2
            exact ⟨by rw [HR.out]; rfl, B2⟩
          · have q : (e.index == index) = false := by simp [hx]
            have HX := Lib.hid hx
            clear hx
            go_wp2_with fail
            go_round
            case rel =>
              refine ⟨j + 1, by omega, by go_num, fun i hi => ?_⟩
              by_cases h : i = j
              · subst h; rw [HE.out]; exact HX.out
              · exact HQ.out i (by omega)
            case measure => simp [intOf]; omega
        · have hjn : j = k.entries.length := by omega
          have HR := Lib.hid (termP_none HO.out HI.out (fun i hi => HQ.out i (by omega)))
          have j1 : ¬ (j : Int) < (k.entries.length : Int) := by omega
          clear hjn
          go_wp2_with fail
          go_ret2
          exact ⟨by rw [HR.out]; rfl, B2⟩
def newerB0 (o : Bool) (p : Int × Int) (index term : Int) : Bool := o && (decide (p.2 < term) || (term == p.2 && decide (p.1 ≤ index)))
noncomputable def newerB (k : Kept) (index term : Int) : Bool := newerB0 (onB k) (lastP k) index term
set_option maxHeartbeats 4000000 in
theorem newer_any (vs : List Value) (k : Kept) (index term : Int) (w : World) (S : Nat → Prop) (h : RdL w S Kept.ty vs k.enc) :
    Calls Try.prog 19 #[.agg vs.toArray, .int .i64 index, .int .i64 term] w (TPost w (newerB k index term)) := by
  have hc1 := last_any vs k _ S (RdL.same (Same.alloc S w (.cells vs.toArray 30)) h)
  have hc2 := fun w' (hb : Below w.heap.size w w') => check_any vs k w' S (RdL.same (Same.below hb) h)
  have HC1 := Lib.hid hc1
  have HC2 := Lib.hid hc2
  obtain ⟨a4, c4, a5, c5, a7, c7, rfl, b0, b1, b2, b3, s4, s5, b6, s7⟩ := Kept.opens h
  clear h s4 s5 s7 hc1 hc2
  have hp : newerB k index term = (onB k && (decide ((lastP k).2 < term) || (term == (lastP k).2 && decide ((lastP k).1 ≤ index)))) := rfl
  generalize newerB k index term = r at *
  generalize (lastP k).1 = p1 at *
  generalize (lastP k).2 = p2 at *
  generalize onB k = o at *
  have HP := Lib.hid hp
  clear hp
  by_cases c1 : p2 < term
  all_goals cases c2 : (term == p2)
  all_goals by_cases c3 : p1 ≤ index
  all_goals cases o
  all_goals
    go_enter Try.func19, Try.ntmps19
    go_wp2_with fail
    refine HC1.out.mono ?_
    rintro e w1 ⟨rfl, B1⟩
    obtain ⟨kb, B2, z2⟩ := boxed_call B1
    obtain ⟨q0, q1, q2, q3, q4, q5, q6, q7⟩ := box8 kb
    go_wp2_with fail
    refine (HC2.out _ B2).mono ?_
    first | rw [err_t] | rw [err_f]
    rintro e w2 ⟨rfl, B3⟩
    have B4 := B2.trans (B3.mono B2.size)
    clear B1 B3 kb q0 q1 q2 q3 q4 q5 q6 q7
    go_wp2_with fail
    go_ret
    refine ⟨?_, B4⟩
    rw [HP.out, c2]
    simp [c1, c3]
set_option maxHeartbeats 4000000 in
theorem rnewer_any (vs : List Value) (k : Kept) (index term : Int) (w : World) (S : Nat → Prop) (h : RdL w S Kept.ty vs k.enc) :
    Calls Try.prog 20 #[.agg vs.toArray, .int .i64 index, .int .i64 term] w (TPost w (newerB k index term)) := by
  have hc1 := rlast_any vs k _ S (RdL.same (Same.alloc S w (.cells vs.toArray 30)) h)
  have hc2 := fun w' (hb : Below w.heap.size w w') => on_any vs k w' S (RdL.same (Same.below hb) h)
  have HC1 := Lib.hid hc1
  have HC2 := Lib.hid hc2
  obtain ⟨a4, c4, a5, c5, a7, c7, rfl, b0, b1, b2, b3, s4, s5, b6, s7⟩ := Kept.opens h
  clear h s4 s5 s7 hc1 hc2
  have hp : newerB k index term = (onB k && (decide ((lastP k).2 < term) || (term == (lastP k).2 && decide ((lastP k).1 ≤ index)))) := rfl
  generalize newerB k index term = r at *
  generalize (lastP k).1 = p1 at *
  generalize (lastP k).2 = p2 at *
  generalize onB k = o at *
  have HP := Lib.hid hp
  clear hp
  by_cases c1 : p2 < term
  all_goals cases c2 : (term == p2)
  all_goals by_cases c3 : p1 ≤ index
  all_goals cases o
  all_goals
    go_enter Try.func20, Try.ntmps20
    go_wp2_with fail
    refine HC1.out.mono ?_
    rintro e w1 ⟨rfl, B1⟩
    obtain ⟨kb, B2, z2⟩ := boxed_call B1
    obtain ⟨q0, q1, q2, q3, q4, q5, q6, q7⟩ := box8 kb
    go_wp2_with fail
    refine (HC2.out _ B2).mono ?_
    rintro e w2 ⟨rfl, B3⟩
    have B4 := B2.trans (B3.mono B2.size)
    clear B1 B3 kb q0 q1 q2 q3 q4 q5 q6 q7
    go_wp2_with fail
    go_ret
    refine ⟨?_, B4⟩
    rw [HP.out, c2]
    simp [c1, c3]
end Go.Proofs.Yteiojclemodhaaa
