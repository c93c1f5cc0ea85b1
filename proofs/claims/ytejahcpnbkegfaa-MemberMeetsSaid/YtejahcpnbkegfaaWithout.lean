/- The contracts of sets.Without and of the reference's Without and Drop. Condition: a row of at most 2^40 numbers. -/
import Derived.Test.YtejahcpnbkegfaaDel
import Derived.Test.YtejahcpnbkegfaaPut
import Derived.Shelf.Abstract
namespace Go.Proofs.Ytejahcpnbkegfaa
open Go.RowKit
set_option linter.unusedVariables false
def SetPost (w : World) (code : Int) (l : List Int) (e : Ending) (w' : World) : Prop := ∃ v, e = .returned (.tuple #[v, .int .i64 code]) ∧ OwnI w.heap.size w' v l ∧ Below w.heap.size w w'
def dropL (xs : List Int) (v : Int) : List Int := xs.filter (fun x => !(x == v))
theorem without1_any (x v : Int) (bx : Nat) (w : World) (hc : w.cell? ⟨bx, 0, none⟩ = some (.int .i64 v)) :
    Calls Try.prog 50 #[.int .i64 x, .pointer (some ⟨bx, 0, none⟩)] w fun e w' => e = .returned (.bool (x == v)) ∧ Below w.heap.size w w' := by
  generalize hr : (x == v) = r
  go_enter Try.func50, Try.ntmps50
  go_wp2
  go_ret
  exact ⟨rfl, Below.refl _ _⟩
theorem without_no (a : Option Addr) (n c : Nat) (xs : List Int) (v : Int) (w : World) (ha : IntSl w a n xs) (hn : n ≤ 1099511627776) (hi : isB xs = false) :
    Calls Try.prog 35 #[.slice a n c, .int .i64 v] w (SetPost w 1 []) := by
  have HI := Lib.hid hi
  clear hi
  go_enter Try.func35, Try.ntmps35
  go_wp2_with fail
  refine (is_any _ _ _ xs _ (ha.alloc _)).mono ?_
  rw [HI.out]
  rintro e w1 ⟨rfl, q, rfl⟩
  go_wp2_with fail
  go_ret2
  exact ⟨_, rfl, OwnI.nil _ _, bdrewN ((Below.refl _ _).alloc (Nat.le_refl _) _) _⟩
theorem without_yes (a : Option Addr) (n c : Nat) (xs : List Int) (v : Int) (w : World) (ha : IntSl w a n xs) (hn : n ≤ 1099511627776) (hi : isB xs = true) :
    Calls Try.prog 35 #[.slice a n c, .int .i64 v] w (SetPost w 0 (dropL xs v)) := by
  have HI := Lib.hid hi
  have hbd := ha.bd
  have eg : ∀ args w, (callFunc 50 args).run Try.prog w = .ok (.enter 50 args) w := enters_of Try.func50 (by kernel_rfl) rfl
  have HEG := Lib.hid eg
  clear hi eg
  go_enter Try.func35, Try.ntmps35
  go_wp2_with fail
  refine (is_any _ _ _ xs _ (ha.alloc _)).mono ?_
  rw [HI.out]
  rintro e w1 ⟨rfl, q, rfl⟩
  go_wp2_with fail
  refine (clone_any _ _ _ xs _ ((ha.alloc _).drewN _) hn).mono ?_
  rintro e w2 ⟨cv, rfl, hown, hb2⟩
  have hs2 := hb2.size
  simp at hs2
  have HO := Lib.hid (hown.mono (B := w.heap.size + 1) (by simp))
  have B2 : Below w.heap.size w w2 := (bdrewN ((Below.refl _ _).alloc (Nat.le_refl _) _) q).trans (hb2.mono (by simp))
  have HB2 := Lib.hid B2
  obtain ⟨ca, cc, rfl, hsl⟩ := hown.sl hbd
  have hbox : w2.cell? ⟨w.heap.size, 0, none⟩ = some (.int .i64 v) := by
    rw [hb2.cell (p := ⟨w.heap.size, 0, none⟩) (by simp)]
    simp
  have hpred : PredOn 50 (.pointer (some ⟨w.heap.size, 0, none⟩)) (fun x => x == v) (fun w' => w'.cell? ⟨w.heap.size, 0, none⟩ = some (.int .i64 v)) := fun x w' h => without1_any x v _ w' h
  have hdel := deleteFunc_any _ _ _ _ hpred HEG.out (w.heap.size + 1) ca xs.length cc xs w2 (fun w' hg => ?_) HO.out hbd (by omega)
  rotate_left
  · refine hg.cell hbox ?_
    intro e
    have := World.ownsRow.lt HO.out _ e.symm
    dsimp only at this
    omega
  have HD := Lib.hid hdel
  clear hown hb2 B2 hbox hdel hpred
  go_wp2_with fail
  refine HD.out.mono ?_
  rintro e w3 ⟨dv, rfl, ho3, hg3⟩
  go_wp2_with fail
  go_ret2
  refine ⟨_, rfl, ho3.mono (by omega), HB2.out.grown hg3 HB2.out.size (fun k hk => ?_)⟩
  have := World.ownsRow.lt HO.out _ hk
  omega
theorem drop_any (a : Option Addr) (n c : Nat) (xs : List Int) (v : Int) (w : World) (ha : IntSl w a n xs) (hn : n ≤ 1099511627776) :
    Calls Try.prog 37 #[.slice a n c, .int .i64 v] w (OwnPost w (dropL xs v)) := by
  have hm := ha.mx
  go_enter Try.func37, Try.ntmps37
  go_wp2
  go_loopw [5, 6] (fun t i wr => ∃ k : Nat, k ≤ n ∧ i = .int .i64 k ∧ OwnI w.heap.size wr t (dropL (xs.take k) v) ∧ Below w.heap.size w wr) (fun _ i _ => n - (intOf i).toNat)
  case atStart => exact ⟨0, Nat.zero_le _, rfl, OwnI.nil _ _, Below.refl _ _⟩
  case round =>
    obtain ⟨k, hk, rfl, hown, hbel⟩ := hrel
    by_cases hlt : k < n
    · have k0 : (0 : Int) ≤ (k : Int) := by omega
      have k1 : (k : Int) < (n : Int) := by omega
      obtain ⟨ba, oa, rfl, hba, hca⟩ := (ha.below hbel).row (by omega)
      have ca := hca k hlt
      have hlen : (dropL (xs.take k) v).length ≤ k := by
        have h1 := List.length_filter_le (fun x => !(x == v)) (xs.take k)
        have h2 : (xs.take k).length ≤ k := List.length_take_le _ _
        unfold dropL; omega
      have hts := take_succ_el (xs := xs) (j := k) (by rw [ha.len]; exact hlt)
      have hsz := hbel.size
      clear hca
      by_cases hv : el xs k = v
      · have hd : dropL (xs.take (k + 1)) v = dropL (xs.take k) v := by rw [hts]; simp [dropL, hv]
        have HD := Lib.hid hd
        have tt : (el xs k != v) = false := by simp [hv]
        have HO := Lib.hid hown
        have HB := Lib.hid hbel
        clear hv hd hts hown hbel hlen
        go_wp2
        go_roundw
        case rel => exact ⟨k + 1, by omega, by go_num, by rw [HD.out]; exact HO.out, HB.out⟩
        case measure => simp [intOf]; omega
      · have hd : dropL (xs.take (k + 1)) v = dropL (xs.take k) v ++ [el xs k] := by rw [hts]; simp [dropL, hv]
        have HD := Lib.hid hd
        have tt : (el xs k != v) = true := by simp [hv]
        have HO := Lib.hid hown
        have HB := Lib.hid hbel
        generalize hg : dropL (xs.take k) v = o at *
        clear hv hd hts hown hbel hg
        go_wp2_with (at_builtin; refine wpList_app1 rfl (.tmp 19) (.tmp 24) 23 rfl Try.underlying23 w.heap.size _ o rfl HO.out (el xs k) 3 _ rfl rfl (by omega) hsz ?_; intro v2 w2 ho2 hg2; have HO2 := Lib.hid ho2; have HB2 := Lib.hid (HO.out.bel HB.out hg2 hsz); clear ho2 hg2)
        go_roundw
        case rel => exact ⟨k + 1, by omega, by go_num, by rw [HD.out]; exact HO2.out, HB2.out⟩
        case measure => simp [intOf]; omega
    · have k1 : ¬ (k : Int) < (n : Int) := by omega
      obtain rfl : k = n := by omega
      rw [List.take_of_length_le (by rw [ha.len]; exact Nat.le_refl _)] at hown
      go_wp2
      go_ret
      exact ⟨_, rfl, hown, hbel⟩
theorem dropL_bd {xs : List Int} {v : Int} (h : ∀ x ∈ xs, -9223372036854775808 ≤ x ∧ x ≤ 9223372036854775807) : ∀ x ∈ dropL xs v, -9223372036854775808 ≤ x ∧ x ≤ 9223372036854775807 :=
  fun x hx => h x (List.mem_filter.1 hx).1
/-- a store into a row of the call's own -/
theorem OwnI.store {base : Nat} {w : World} {a : Option Addr} {n c : Nat} {l : List Int} (h : OwnI base w (.slice a n c) l) {i : Nat} (hi : i < n) (y : Int) :
    ∃ g, a = some ⟨g, 0, none⟩ ∧ base ≤ g ∧ w.cell? ⟨g, i, none⟩ = some (.int .i64 (el l i)) ∧ w.frozen? ⟨g, i, none⟩ = false ∧ OwnI base (w.setCell ⟨g, i, none⟩ (.int .i64 y)) (.slice a n c) (l.set i y) := by
  cases a with
  | none => obtain ⟨h1, ⟨hh, h2⟩ | ⟨g, cap, cur, hv, _⟩⟩ := h
            · simp at hh; omega
            · simp at hv
  | some ad =>
    obtain ⟨g, cur, rfl, hb, hn, hc, hm, hr, ht⟩ := h.rowIs
    have e : (cur.take n)[i]? = (l.map (Value.int .i64))[i]? := by rw [ht]
    rw [List.getElem?_take, if_pos hi] at e
    have hil : i < l.length := by omega
    refine ⟨g, rfl, hb, row_cell hr.row (by rw [e, el_get hil]; simp [hil]), row_frozen hr.row i, ?_⟩
    have h2 : RowIs (w.setCell ⟨g, i, none⟩ (.int .i64 y)) g (cur.set i (.int .i64 y)) c := ⟨row_set hr.row i _, by simpa using hr.len⟩
    refine h2.owns hb (by simp [hn]) hc hm ?_
    rw [List.take_set, ht, List.map_set]
theorem grownBy_set' {w w' : World} {a : Option Addr} {n c g : Nat} (h : w.grownBy w' (Value.ownBlock (.slice a n c))) (ha : a = some ⟨g, 0, none⟩) (i : Nat) (v : Value) : w.grownBy (w'.setCell ⟨g, i, none⟩ v) (Value.ownBlock (.slice a n c)) := by
  subst ha; exact grownBy_set h i v
end Go.Proofs.Ytejahcpnbkegfaa
