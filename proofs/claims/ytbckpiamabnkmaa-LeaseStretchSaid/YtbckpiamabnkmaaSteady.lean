/- The contracts of lease.Steady and of the reference's. Condition: rows that read as lists, the ticks at most 1000. -/
import Derived.Test.YtbckpiamabnkmaaStretch
namespace Go.Proofs.Ytbckpiamabnkmaa
open Go.RowKit
set_option linter.unusedVariables false
set_option linter.unusedSimpArgs false
def BPost (w : World) (b : Bool) (e : Ending) (w' : World) : Prop := e = .returned (.bool b) ∧ Below w.heap.size w w'
noncomputable def steadyA (xs ys : List Int) : Bool := isB xs && xs.all (fun n => decide (1 ≤ n) && steadyB n ys)
theorem steadyA_no {xs ys : List Int} (h : isB xs = false) : steadyA xs ys = false := by simp [steadyA, h]
theorem el_mem {xs : List Int} {k : Nat} (h : k < xs.length) : el xs k ∈ xs := by
  simp [el, List.getD, List.getElem?_eq_getElem h]
theorem steadyA_at {xs ys : List Int} {k : Nat} (hk : k < xs.length) (h : el xs k < 1 ∨ steadyB (el xs k) ys = false) : steadyA xs ys = false := by
  unfold steadyA
  rw [Bool.and_eq_false_iff]
  right
  rw [List.all_eq_false]
  refine ⟨el xs k, el_mem hk, ?_⟩
  rcases h with h | h
  · have : ¬ 1 ≤ el xs k := by omega
    simp [this]
  · simp [h]
theorem steadyA_yes {xs ys : List Int} {n : Nat} (hn : xs.length = n) (hi : isB xs = true) (h : ∀ i, i < n → 1 ≤ el xs i ∧ steadyB (el xs i) ys = true) : steadyA xs ys = true := by
  unfold steadyA
  rw [hi, Bool.true_and, List.all_eq_true]
  intro x hx
  obtain ⟨i, h1, h2⟩ := List.mem_iff_getElem.1 hx
  have := h i (by omega)
  have e : el xs i = x := by simp [el, List.getD, List.getElem?_eq_getElem h1, h2]
  rw [e] at this
  simp [this.1, this.2]
def InPost (w wr : World) (g : Nat) (v : Int) (ys : List Int) (j : Nat) : Prop :=
  GaAt wr g (gaRun v (ys.take j)).1 ∧ (gaRun v (ys.take j)).2 = true ∧ Below w.heap.size w wr
theorem InPost.next {w wr w' : World} {g : Nat} {v : Int} {ys : List Int} {j : Nat} {b : Bool} (h : InPost w wr g v ys j) (hj : j < ys.length) (hg : w.heap.size ≤ g) (hb : b = true) (h2 : TellPost wr g ((gaRun v (ys.take j)).1.tell (el ys j)) (.returned (.bool b)) w') : InPost w w' g v ys (j + 1) := by
  obtain ⟨h3, h4, h5⟩ := h
  obtain ⟨h6, h7, h8⟩ := h2
  unfold InPost
  rw [take_el hj, gaRun_snoc]
  unfold gaStep
  refine ⟨h7, ?_, h5.grown h8 h5.size (fun k e => by cases e; exact hg)⟩
  have h6 : b = ((gaRun v (ys.take j)).1.tell (el ys j)).2 := by simpa using h6
  show (_ && _) = true
  rw [h4, ← h6, hb]
  rfl
theorem InPost.no {w wr w' : World} {g : Nat} {v : Int} {ys : List Int} {j : Nat} (h : InPost w wr g v ys j) (hj : j < ys.length) (hg : w.heap.size ≤ g) (h2 : TellPost wr g ((gaRun v (ys.take j)).1.tell (el ys j)) (.returned (.bool false)) w') : steadyB v ys = false ∧ Below w.heap.size w w' := by
  obtain ⟨h3, h4, h5⟩ := h
  obtain ⟨h6, h7, h8⟩ := h2
  refine ⟨steadyB_no (k := j + 1) ?_, h5.grown h8 h5.size (fun k e => by cases e; exact hg)⟩
  rw [take_el hj, gaRun_snoc]
  unfold gaStep
  have h6 : false = ((gaRun v (ys.take j)).1.tell (el ys j)).2 := by simpa using h6
  show (_ && _) = false
  rw [h4, ← h6]
  rfl
theorem InPost.tells {w wr : World} {g : Nat} {v : Int} {ys : List Int} {j m : Nat} (h : InPost w wr g v ys j) (hm : ys.length = m) (hm2 : m ≤ 1000) (hj : j < m) (hv : 1 ≤ v) (hv2 : v ≤ 9223372036854775807) (x : Int) :
    Calls Try.prog 125 #[.pointer (some ⟨g, 0, none⟩), .int .i64 x] wr (TellPost wr g ((gaRun v (ys.take j)).1.tell x)) := by
  have := gaRun_ok hv hv2 (ys.take j)
  exact tell_spec g _ x wr h.1 _ (by rw [List.length_take]; omega) this
theorem InPost.done {w wr : World} {g : Nat} {v : Int} {ys : List Int} {m : Nat} (h : InPost w wr g v ys m) (hm : ys.length = m) : steadyB v ys = true ∧ Below w.heap.size w wr := by
  obtain ⟨h3, h4, h5⟩ := h
  subst hm
  rw [List.take_length] at h4
  exact ⟨h4, h5⟩
set_option maxHeartbeats 1000000 in
theorem steady_any (a : Option Addr) (n ca : Nat) (xs : List Int) (b : Option Addr) (m cb : Nat) (ys : List Int) (w : World) (ha : IntSl w a n xs) (hb : IntSl w b m ys) (hm2 : m ≤ 1000) :
    Calls Try.prog 38 #[.slice a n ca, .slice b m cb] w (BPost w (steadyA xs ys)) := by
  have hm := ha.mx
  cases hi : isB xs with
  | false =>
    have HN := Lib.hid (steadyA_no (ys := ys) hi)
    have HI := Lib.hid hi
    clear hi
    go_enter Try.func38, Try.ntmps38
    go_wp2_with fail
    refine (is_any _ _ _ xs _ ha).mono ?_
    rw [HI.out]
    rintro e w1 ⟨rfl, q, rfl⟩
    go_wp2_with fail
    go_ret
    exact ⟨by rw [HN.out]; rfl, bdrewN (Below.refl _ _) _⟩
  | true =>
    have HI := Lib.hid hi
    have hlen := Lib.hid ha.len
    have hlen2 := Lib.hid hb.len
    clear hi
    go_enter Try.func38, Try.ntmps38
    go_wp2_with fail
    refine (is_any _ _ _ xs _ ha).mono ?_
    rw [HI.out]
    rintro e w1 ⟨rfl, q, rfl⟩
    go_wp2_with fail
    go_loopw [15] (fun i wr => ∃ k : Nat, k ≤ n ∧ i = .int .i64 k ∧ (∀ i, i < k → 1 ≤ el xs i ∧ steadyB (el xs i) ys = true) ∧ Below w.heap.size w wr) (fun i _ => n - (intOf i).toNat)
    case atStart => exact ⟨0, Nat.zero_le _, rfl, fun i h => absurd h (by omega), bdrewN (Below.refl _ _) _⟩
    case round =>
      obtain ⟨k, hk, rfl, hq, B1⟩ := hrel
      have HQ := Lib.hid hq
      have BB1 := Lib.hid B1
      have hra := Lib.hid (ha.below B1)
      have hrb := Lib.hid (hb.below B1)
      have z1 := B1.size
      clear hq B1
      by_cases hlt : k < n
      · obtain ⟨ba, oa, rfl, _, hca⟩ := hra.out.row (by omega)
        have ck := hca k (by omega)
        have k0 : (0 : Int) ≤ (k : Int) := by omega
        have k1 : (k : Int) < (n : Int) := by omega
        clear hca
        have l2 := ha.hi k
        by_cases hv : el xs k < 1
        · have HN := Lib.hid (steadyA_at (ys := ys) (k := k) (by rw [hlen.out]; omega) (.inl hv))
          go_wp2_with fail
          go_ret
          exact ⟨by rw [HN.out]; rfl, (BB1.out.alloc z1 _)⟩
        · go_wp2_with fail
          have hg : w.heap.size ≤ wr.heap.size := z1
          have hvv := Lib.hid hv
          have hin : InPost w (wr.alloc (.cells #[.int .i64 (el xs k), .bool false, .int .i64 0, .int .i64 0, .int .i64 0, .int .i64 0] 160 (0, 0))) wr.heap.size (el xs k) ys 0 := by
            refine ⟨?_, rfl, BB1.out.alloc z1 _⟩
            show _ = _
            simp only [World.alloc, Array.getElem?_push_size]
            rfl
          have HIN := Lib.hid hin
          clear hin
          go_loopw [27] (fun i wr2 => ∃ j : Nat, j ≤ m ∧ i = .int .i64 j ∧ InPost w wr2 wr.heap.size (el xs k) ys j) (fun i _ => m - (intOf i).toNat)
          case atStart => exact ⟨0, Nat.zero_le _, rfl, HIN.out⟩
          case round =>
            obtain ⟨j, hj, rfl, hin⟩ := hrel
            have HIN2 := Lib.hid hin
            clear hin
            by_cases hjl : j < m
            · have BB2 := Lib.hid HIN2.out.2.2
              obtain ⟨bb, ob, rfl, _, hcb⟩ := (hb.below BB2.out).row (by omega)
              have cj := hcb j (by omega)
              have j0 : (0 : Int) ≤ (j : Int) := by omega
              have j1 : (j : Int) < (m : Int) := by omega
              clear hcb
              go_wp2_with fail
              refine (HIN2.out.tells hlen2.out hm2 hjl (by omega) l2 _).mono ?_
              rintro e w2 hp
              obtain ⟨r, rfl⟩ : ∃ r, e = .returned (.bool r) := ⟨_, hp.1⟩
              have HP := Lib.hid hp
              clear hp
              cases r with
              | false =>
                go_wp2_with fail
                go_ret
                obtain ⟨e1, e2⟩ := HIN2.out.no (by rw [hlen2.out]; omega) hg HP.out
                exact ⟨by rw [steadyA_at (by rw [hlen.out]; omega) (.inr e1)]; rfl, e2⟩
              | true =>
                go_wp2_with fail
                go_roundw
                case rel => exact ⟨j + 1, by omega, by go_num, HIN2.out.next (by rw [hlen2.out]; omega) hg rfl HP.out⟩
                case measure => simp [intOf]; omega
            · have hjm : j = m := by omega
              have j1 : ¬ (j : Int) < (m : Int) := by omega
              subst hjm
              have HD := Lib.hid (HIN2.out.done hlen2.out)
              go_wp2_with fail
              go_roundw
              case rel =>
                refine ⟨k + 1, by omega, by go_num, fun i hi => ?_, HD.out.2⟩
                by_cases e : i = k
                · subst e; exact ⟨by omega, HD.out.1⟩
                · exact HQ.out i (by omega)
              case measure => simp [intOf]; omega
      · have hkn : k = n := by omega
        have hr := Lib.hid (steadyA_yes hlen.out HI.out (fun i hi => HQ.out i (by omega)))
        have k1 : ¬ (k : Int) < (n : Int) := by omega
        go_wp2_with fail
        go_ret
        exact ⟨by rw [hr.out]; rfl, BB1.out⟩
end Go.Proofs.Ytbckpiamabnkmaa
