/- The walk of the law SetsOrder: true for every row. No condition but that the row reads as a list. -/
import Derived.Test.YtfioogmjhfdjhaaWith
namespace Go.Proofs.Ytfioogmjhfdjhaa
open Go.RowKit
set_option linter.unusedVariables false
theorem IsRow.nilcap {k : IntKind} {w : World} {a : Option Addr} {n c : Nat} {zs : List Int} (h : IsRow k w a n c zs) : a = none → c = 0 := by
  rcases h with ⟨rfl, rfl, rfl, rfl⟩ | ⟨x, rfl, _⟩ <;> simp
theorem OwnI.sl2 {base : Nat} {w : World} {v : Value} {xs : List Int} (h : OwnI base w v xs) (hb : ∀ x ∈ xs, -9223372036854775808 ≤ x ∧ x ≤ 9223372036854775807) :
    ∃ a c, v = .slice a xs.length c ∧ IntSl w a xs.length xs ∧ (a = none → c = 0) := by
  obtain ⟨a, c, rfl, hs⟩ := h.sl hb
  refine ⟨a, c, rfl, hs, fun e => ?_⟩
  subst e
  obtain ⟨h1, ⟨hh, h2⟩ | ⟨g, cap, cur, hv, _⟩⟩ := h
  · simp at hh; exact hh.2
  · simp at hv
/-- Put of the row's first k numbers, in their order -/
def layTo (f : Nat → Int) : Nat → List Int
  | 0 => []
  | k + 1 => putL (layTo f k) (f k)
theorem layTo_asc (f : Nat → Int) (k : Nat) : Asc (layTo f k) := by
  induction k with
  | zero => simp [layTo, Asc]
  | succ k ih => exact putL_asc ih
theorem layTo_len (f : Nat → Int) (k : Nat) : (layTo f k).length ≤ k := by
  induction k with
  | zero => simp [layTo]
  | succ k ih =>
    show (putL (layTo f k) (f k)).length ≤ k + 1
    cases h : hasB (layTo f k) (f k)
    · rw [putL_out h, ins_len]; omega
    · rw [putL_in h]; omega
theorem layTo_mem {f : Nat → Int} {k : Nat} {x : Int} : x ∈ layTo f k ↔ ∃ i, i < k ∧ f i = x := by
  induction k with
  | zero => simp [layTo]
  | succ k ih =>
    show x ∈ putL (layTo f k) (f k) ↔ _
    rw [putL_mem, ih]
    constructor
    · rintro (rfl | ⟨i, h, e⟩)
      · exact ⟨k, by omega, rfl⟩
      · exact ⟨i, by omega, e⟩
    · rintro ⟨i, h, e⟩
      by_cases hk : i = k
      · subst hk; exact .inl e.symm
      · exact .inr ⟨i, by omega, e⟩
theorem layTo_rev (f : Nat → Int) (n : Nat) : layTo f n = layTo (fun i => f (n - 1 - i)) n :=
  asc_ext (layTo_asc _ _) (layTo_asc _ _) fun x => by
    rw [layTo_mem, layTo_mem]
    constructor
    · rintro ⟨i, h, e⟩; exact ⟨n - 1 - i, by omega, by rw [show n - 1 - (n - 1 - i) = i by omega]; exact e⟩
    · rintro ⟨i, h, e⟩; exact ⟨n - 1 - i, by omega, e⟩
theorem layTo_bd {f : Nat → Int} (h : ∀ i, -9223372036854775808 ≤ f i ∧ f i ≤ 9223372036854775807) (k : Nat) : ∀ x ∈ layTo f k, -9223372036854775808 ≤ x ∧ x ≤ 9223372036854775807 := by
  intro x hx
  obtain ⟨i, _, e⟩ := layTo_mem.1 hx
  rw [← e]; exact h i
/-- the next number is laid in, or the row is too long -/
theorem withR_lay {f : Nat → Int} {k : Nat} (h : (layTo f k).length ≤ 16) : ((layTo f (k + 1)).length ≤ 16 ∧ withR (layTo f k) (f k) = (0, layTo f (k + 1))) ∨ (16 < k + 1 ∧ withR (layTo f k) (f k) = (2, [])) := by
  have hi : isB (layTo f k) = true := isB_asc.2 ⟨layTo_asc f k, h⟩
  rcases cutR_or (layTo f (k + 1)) with ⟨h16, e1, e2⟩ | ⟨h16, e1, e2⟩
  · left
    refine ⟨h16, ?_⟩
    simp only [withR, hi, if_true]
    exact Prod.ext e1 e2
  · right
    have := layTo_len f (k + 1)
    refine ⟨by omega, ?_⟩
    simp only [withR, hi, if_true]
    exact Prod.ext e1 e2
set_option maxRecDepth 100000 in
set_option maxHeartbeats 1000000 in
theorem law_setsOrder (a : Option Addr) (n ca : Nat) (xs : List Int) (w : World) (ha : IntSl w a n xs) :
    Calls Try.prog 13 #[.slice a n ca] w fun e w' => e = .returned (.bool true) ∧ Below w.heap.size w w' := by
  have hm := ha.mx
  by_cases h1 : 1000 < n
  · have t1 : (1000 : Int) < (n : Int) := by omega
    go_enter Try.func13, Try.ntmps13
    go_wp2
    go_ret
    exact ⟨rfl, Below.refl _ _⟩
  have t1 : ¬ (1000 : Int) < (n : Int) := by omega
  have hf : ∀ i, -9223372036854775808 ≤ (fun i => el xs i) i ∧ (fun i => el xs i) i ≤ 9223372036854775807 := ha.rg
  have hg : ∀ i, -9223372036854775808 ≤ (fun i => el xs (n - 1 - i)) i ∧ (fun i => el xs (n - 1 - i)) i ≤ 9223372036854775807 := fun i => ha.rg _
  have hrev : layTo (fun i => el xs i) n = layTo (fun i => el xs (n - 1 - i)) n := layTo_rev _ _
  generalize hF : (fun i => el xs i) = F at *
  generalize hG : (fun i => el xs (n - 1 - i)) = G at *
  have HF := Lib.hid (show ∀ i, el xs i = F i from fun i => by rw [← hF])
  have HG := Lib.hid (show ∀ i, el xs (n - 1 - i) = G i from fun i => by rw [← hG])
  have hrev' := Lib.hid hrev
  have HFB := Lib.hid hf
  have HGB := Lib.hid hg
  clear hF hG hf hg hrev
  go_enter Try.func13, Try.ntmps13
  go_wp2_with fail
  go_loopw [3, 4, 5] (fun p r i wr => ∃ k : Nat, k ≤ n ∧ i = .int .i64 k ∧ (layTo F k).length ≤ 16 ∧ (layTo G k).length ≤ 16 ∧ (∃ pa pc, p = .slice pa (layTo F k).length pc ∧ IntSl wr pa (layTo F k).length (layTo F k) ∧ (pa = none → pc = 0)) ∧ (∃ pa pc, r = .slice pa (layTo G k).length pc ∧ IntSl wr pa (layTo G k).length (layTo G k) ∧ (pa = none → pc = 0)) ∧ Below w.heap.size w wr) (fun _ _ i _ => n - (intOf i).toNat)
  case atStart => exact ⟨0, Nat.zero_le _, rfl, by simp [layTo], by simp [layTo], ⟨none, 0, rfl, IntSl.nil _, by simp⟩, ⟨none, 0, rfl, IntSl.nil _, by simp⟩, Below.refl _ _⟩
  case round =>
    obtain ⟨k, hk, rfl, hlF, hlG, ⟨pa, pc, rfl, hp, hpn⟩, ⟨ra, rc, rfl, hr, hrn⟩, hbel⟩ := hrel
    by_cases hlt : k < n
    · have k0 : (0 : Int) ≤ (k : Int) := by omega
      have k1 : (k : Int) < (n : Int) := by omega
      have k2 : (0 : Int) ≤ (n : Int) - 1 - (k : Int) := by omega
      have k3 : (n : Int) - 1 - (k : Int) < (n : Int) := by omega
      obtain ⟨ba, oa, rfl, hba, hca⟩ := ha.row (by omega)
      have ca : wr.cell? ⟨ba, oa + k, none⟩ = some (.int .i64 (F k)) := by rw [hbel.cell (p := ⟨ba, oa + k, none⟩) hba, ← HF.out]; exact hca k hlt
      have CG := Lib.hid (hca (n - 1 - k) (by omega))
      have hz := hbel.size
      clear hca
      have W1 := Lib.hid (withR_lay hlF)
      have W2 := Lib.hid (withR_lay hlG)
      have hcon := with_c pa _ pc (layTo F k) (F k) wr hp hpn (by omega) (HFB.out k)
      have hcon2 := fun w' (h : IntSl w' ra (layTo G k).length (layTo G k)) => with_c ra (layTo G k).length rc (layTo G k) (G k) w' h hrn (by omega) (HGB.out k)
      have HC2 := Lib.hid hcon2
      have HBL := Lib.hid hbel
      clear hcon2 hbel
      have bF := Lib.hid (layTo_bd HFB.out (k + 1))
      have bG := Lib.hid (layTo_bd HGB.out (k + 1))
      rcases W1.out with ⟨hf1, e1⟩ | ⟨hf1, e1⟩
      case inr =>
        rw [e1] at hcon
        have hn16 : (16 : Int) < (n : Int) := by omega
        have HC := Lib.hid hcon
        clear hcon e1
        rcases W2.out with ⟨hg1, e2⟩ | ⟨hg1, e2⟩
        all_goals
          have E2 := Lib.hid e2
          clear e2
          generalize hglf : (layTo F k).length = lf at *
          generalize hglg : (layTo G k).length = lg at *
          clear hglf hglg
          go_wp2_with fail
          refine HC.out.mono ?_
          rintro e w1 ⟨v1, rfl, ho1, B1'⟩
          have B1 := Lib.hid (HBL.out.trans (B1'.mono hz))
          have hr1 := hr.below B1'
          have cg : w1.cell? ⟨ba, oa + (n - 1 - k), none⟩ = some (.int .i64 (G k)) := by rw [B1.out.cell (p := ⟨ba, oa + (n - 1 - k), none⟩) hba, ← HG.out]; exact CG.out
          clear ho1 B1'
          go_wp2_with fail
          refine (HC2.out _ hr1).mono ?_
          rw [E2.out]
          rintro e w2 ⟨v2, rfl, ho2, B2'⟩
          have B2 := Lib.hid (B1.out.trans (B2'.mono B1.out.size))
          clear ho2 B2'
          go_wp2_with fail
          refine (shown_with _).mono ?_
          rintro e w3 ⟨rfl, B3'⟩
          have B3 := Lib.hid (B2.out.trans (B3'.mono B2.out.size))
          clear B3'
          go_wp2_with fail
          go_ret
          exact ⟨rfl, B3.out⟩
      case inl =>
        rw [e1] at hcon
        have HC := Lib.hid hcon
        clear hcon e1
        rcases W2.out with ⟨hg1, e2⟩ | ⟨hg1, e2⟩
        case inr =>
          have hn16 : (16 : Int) < (n : Int) := by omega
          have E2 := Lib.hid e2
          clear e2
          generalize hglf : (layTo F k).length = lf at *
          generalize hglg : (layTo G k).length = lg at *
          clear hglf hglg
          go_wp2_with fail
          refine HC.out.mono ?_
          rintro e w1 ⟨v1, rfl, ho1, B1'⟩
          have B1 := Lib.hid (HBL.out.trans (B1'.mono hz))
          have hr1 := hr.below B1'
          have cg : w1.cell? ⟨ba, oa + (n - 1 - k), none⟩ = some (.int .i64 (G k)) := by rw [B1.out.cell (p := ⟨ba, oa + (n - 1 - k), none⟩) hba, ← HG.out]; exact CG.out
          clear ho1 B1'
          go_wp2_with fail
          refine (HC2.out _ hr1).mono ?_
          rw [E2.out]
          rintro e w2 ⟨v2, rfl, ho2, B2'⟩
          have B2 := Lib.hid (B1.out.trans (B2'.mono B1.out.size))
          clear ho2 B2'
          go_wp2_with fail
          refine (shown_with _).mono ?_
          rintro e w3 ⟨rfl, B3'⟩
          have B3 := Lib.hid (B2.out.trans (B3'.mono B2.out.size))
          clear B3'
          go_wp2_with fail
          go_ret
          exact ⟨rfl, B3.out⟩
        case inl =>
          have E2 := Lib.hid e2
          clear e2
          generalize hglf : (layTo F k).length = lf at *
          generalize hglg : (layTo G k).length = lg at *
          clear hglf hglg
          go_wp2_with fail
          refine HC.out.mono ?_
          rintro e w1 ⟨v1, rfl, ho1, B1'⟩
          obtain ⟨a1, c1, rfl, hs1, hn1⟩ := ho1.sl2 bF.out
          have B1 := Lib.hid (HBL.out.trans (B1'.mono hz))
          have hr1 := hr.below B1'
          have cg : w1.cell? ⟨ba, oa + (n - 1 - k), none⟩ = some (.int .i64 (G k)) := by rw [B1.out.cell (p := ⟨ba, oa + (n - 1 - k), none⟩) hba, ← HG.out]; exact CG.out
          clear ho1 B1'
          go_wp2_with fail
          refine (HC2.out _ hr1).mono ?_
          rw [E2.out]
          rintro e w2 ⟨v2, rfl, ho2, B2'⟩
          obtain ⟨a2, c2, rfl, hs2, hn2⟩ := ho2.sl2 bG.out
          have B2 := Lib.hid (B1.out.trans (B2'.mono B1.out.size))
          have hs1' := Lib.hid (hs1.below B2')
          have hs2' := Lib.hid hs2
          clear ho2 B2' hs1 hs2
          go_wp2_with fail
          go_roundw
          case rel => exact ⟨k + 1, by omega, by go_num, hf1, hg1, ⟨a1, c1, rfl, hs1'.out, hn1⟩, ⟨a2, c2, rfl, hs2'.out, hn2⟩, B2.out⟩
          case measure => simp [intOf]; omega
    · have k1 : ¬ (k : Int) < (n : Int) := by omega
      obtain rfl : k = n := by omega
      have hi := Lib.hid (isB_asc.2 ⟨layTo_asc F k, hlF⟩)
      have hee := Lib.hid (show eqB (layTo F k) (layTo G k) = true by rw [hrev'.out]; simp [eqB])
      have HBL := Lib.hid hbel
      have hz := hbel.size
      clear hbel hlt hk
      generalize hglf : (layTo F k).length = lf at *
      generalize hglg : (layTo G k).length = lg at *
      clear hglf hglg
      go_wp2_with fail
      refine (shown_with _).mono ?_
      rintro e w3 ⟨rfl, B3'⟩
      have B3 := Lib.hid (HBL.out.trans (B3'.mono hz))
      have hp3 := hp.below B3'
      have hr3 := hr.below B3'
      clear B3'
      go_wp2_with fail
      refine (is_any _ _ _ (layTo F k) _ hp3).mono ?_
      rw [hi.out]
      rintro e w4 ⟨rfl, q, rfl⟩
      go_wp2_with fail
      refine (same_any _ _ _ _ _ _ (layTo F k) (layTo G k) _ (hp3.drewN _) (hr3.drewN _)).mono ?_
      rw [hee.out]
      rintro e w4 ⟨rfl, q2, rfl⟩
      go_wp2_with fail
      go_ret
      exact ⟨rfl, bdrewN B3.out _⟩
end Go.Proofs.Ytfioogmjhfdjhaa
