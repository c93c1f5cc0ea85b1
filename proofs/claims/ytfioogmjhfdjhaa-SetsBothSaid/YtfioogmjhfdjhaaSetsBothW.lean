/- The walk of the law SetsBoth: true for every two rows. No condition but that the rows read as lists (a nil row has no room). -/
import Derived.Test.YtfioogmjhfdjhaaBoth
namespace Go.Proofs.Ytfioogmjhfdjhaa
open Go.RowKit
set_option linter.unusedVariables false
theorem IsRow.nilcap {k : IntKind} {w : World} {a : Option Addr} {n c : Nat} {zs : List Int} (h : IsRow k w a n c zs) : a = none → c = 0 := by
  rcases h with ⟨rfl, rfl, rfl, rfl⟩ | ⟨x, rfl, _⟩ <;> simp
theorem isB15 : isB [1, 5] = true := isB_iff.2 ⟨fun i hi => by have : i = 0 := by simp at hi; omega
                                                               subst this; decide, by decide⟩
theorem isB35 : isB [3, 5] = true := isB_iff.2 ⟨fun i hi => by have : i = 0 := by simp at hi; omega
                                                               subst this; decide, by decide⟩
theorem bothR_ex : bothR [1, 5] [3, 5] = (0, [1, 3, 5]) := by
  unfold bothR
  rw [if_pos ⟨isB15, isB35⟩, mergeL_putAll (isB_asc.1 isB15).1]
  rw [show putAll [1, 5] [3, 5] = [1, 3, 5] by decide]; rfl
theorem commonR_ex : commonR [1, 5] [3, 5] = (0, [5]) := by
  unfold commonR
  rw [if_pos ⟨isB15, isB35⟩]; decide
theorem grown_row {w w' : World} {base g : Nat} {t : TypeId} {l : List Int} {v : Value} {xs : List Int} (h : RowAt w g t l) (ho : OwnI base w' v xs) (hg : w.grownBy w' v.ownBlock) (hlt : g < base) : RowAt w' g t l := by
  show _ = _
  rw [hg.block g h.lt (fun e => by have := World.ownsRow.lt ho _ e.symm; omega)]; exact h
set_option maxRecDepth 100000 in
set_option maxHeartbeats 1000000 in
theorem law_setsBoth_code (c1 c2 : Int) (l1 l2 : List Int) (hl1 : ∀ x ∈ l1, -9223372036854775808 ≤ x ∧ x ≤ 9223372036854775807) (hl2 : ∀ x ∈ l2, -9223372036854775808 ≤ x ∧ x ≤ 9223372036854775807)
    (a : Option Addr) (n ca : Nat) (xs : List Int) (b : Option Addr) (m cb : Nat) (ys : List Int) (w : World) (ha : IntSl w a n xs) (hb : IntSl w b m ys) (hna : a = none → ca = 0) (hnb : b = none → cb = 0) (hn : n ≤ 1000) (hm : m ≤ 1000)
    (h1 : ∀ (a : Option Addr) (ca : Nat) (b : Option Addr) (cb : Nat) (w : World), IntSl w a n xs → IntSl w b m ys → (a = none → ca = 0) → (b = none → cb = 0) → Calls Try.prog 41 #[.slice a n ca, .slice b m cb] w (SetPost w c1 l1))
    (h2 : ∀ (a : Option Addr) (ca : Nat) (b : Option Addr) (cb : Nat) (w : World), IntSl w a n xs → IntSl w b m ys → Calls Try.prog 42 #[.slice a n ca, .slice b m cb] w (SetPost w c2 l2))
    (h3 : ∀ (w : World), IntSl w a n xs → IntSl w b m ys → Calls Try.prog 43 #[.slice a n ca, .slice b m cb] w (SetPost w c1 l1))
    (h4 : ∀ (w : World), IntSl w a n xs → IntSl w b m ys → Calls Try.prog 44 #[.slice a n ca, .slice b m cb] w (SetPost w c2 l2)) :
    Calls Try.prog 14 #[.slice a n ca, .slice b m cb] w fun e w' => e = .returned (.bool true) ∧ Below w.heap.size w w' := by
  have hxm := ha.mx
  have hym := hb.mx
  have t1 : ¬ (1000 : Int) < (n : Int) := by omega
  have t2 : ¬ (1000 : Int) < (m : Int) := by omega
  have H1 := Lib.hid h1
  have H2 := Lib.hid h2
  have H3 := Lib.hid h3
  have H4 := Lib.hid h4
  have e1 := Lib.hid (show eqB xs xs = true by simp [eqB])
  have e2 := Lib.hid (show eqB ys ys = true by simp [eqB])
  have e3 := Lib.hid (show eqB l1 l1 = true by simp [eqB])
  have e4 := Lib.hid (show eqB l2 l2 = true by simp [eqB])
  clear h1 h2 h3 h4
  go_enter Try.func14, Try.ntmps14
  go_wp2_with fail
  refine (lend_any _ _ _ xs _ ha (by omega)).mono ?_
  rintro e w1 ⟨g1, rfl, hg1, hr1, hgr1⟩
  have B1 := lend_bel hgr1
  go_wp2_with fail
  refine (lend_any _ _ _ ys _ (hb.below B1) (by omega)).mono ?_
  rintro e w2 ⟨g2, rfl, hg2, hr2, hgr2⟩
  have B2' := lend_bel hgr2
  have B2 := B1.trans (B2'.mono B1.size)
  have R1 := hr1.below B2' hr1.lt
  have hg12 : g1 < g2 := Nat.lt_of_lt_of_le hr1.lt hg2
  have hg2l := hr2.lt
  have S1 := R1.sl ha.len hxm ha.bd
  have S2 := hr2.sl hb.len hym hb.bd
  go_wp2_with fail
  refine (H1.out _ _ _ _ _ S1 S2 (by simp) (by simp)).mono ?_
  rintro e w3 ⟨v1, rfl, ho3, B3'⟩
  have L3 := Lib.hid (World.ownsRow.lt ho3)
  have B3 := B2.trans (B3'.mono B2.size)
  have Q1 := R1.below B3' R1.lt
  have Q2 := hr2.below B3' hr2.lt
  go_wp2_with fail
  refine (H2.out _ _ _ _ _ (S1.below B3') (S2.below B3')).mono ?_
  rintro e w4 ⟨v2, rfl, ho4, B4'⟩
  have B4 := B3.trans (B4'.mono B3.size)
  have Q1 := Q1.below B4' Q1.lt
  have Q2 := Q2.below B4' Q2.lt
  have ho3 := ho3.below B4' (Nat.le_refl _)
  have z32 := B3'.size
  go_wp2_with fail
  refine (H3.out _ (ha.below B4) (hb.below B4)).mono ?_
  rintro e w5 ⟨v3, rfl, ho5, B5'⟩
  have B5 := B4.trans (B5'.mono B4.size)
  have Q1 := Q1.below B5' Q1.lt
  have Q2 := Q2.below B5' Q2.lt
  have ho3 := ho3.below B5' (Nat.le_refl _)
  have ho4 := ho4.below B5' (Nat.le_refl _)
  go_wp2_with fail
  refine (H4.out _ (ha.below B5) (hb.below B5)).mono ?_
  rintro e w6 ⟨v4, rfl, ho6, B6'⟩
  have B6 := B5.trans (B6'.mono B5.size)
  have Q1 := Q1.below B6' Q1.lt
  have Q2 := Q2.below B6' Q2.lt
  have ho3 := ho3.below B6' (Nat.le_refl _)
  have ho4 := ho4.below B6' (Nat.le_refl _)
  have ho5 := ho5.below B6' (Nat.le_refl _)
  obtain ⟨a1, k1, rfl, hs1⟩ := ho3.sl hl1
  obtain ⟨a2, k2, rfl, hs2⟩ := ho4.sl hl2
  obtain ⟨a3, k3, rfl, hs3⟩ := ho5.sl hl1
  obtain ⟨a4, k4, rfl, hs4⟩ := ho6.sl hl2
  go_wp2_with fail
  refine (ints_any _ _ _ _ _ _ l1 l1 _ hs1 hs3).mono ?_
  rw [e3.out]
  rintro e w7 ⟨rfl, q, rfl⟩
  go_wp2_with fail
  refine (ints_any _ _ _ _ _ _ l2 l2 _ (hs2.drewN _) (hs4.drewN _)).mono ?_
  rw [e4.out]
  rintro e w7 ⟨rfl, q2, rfl⟩
  have hlm1 := hs1.mx
  have hlm2 := hs2.mx
  generalize hln : l1.length = m1 at *
  generalize hln2 : l2.length = m2 at *
  have O3 := Lib.hid ho3
  have O4 := Lib.hid ho4
  have P1 := Lib.hid Q1
  have P2 := Lib.hid Q2
  have BB6 := Lib.hid B6
  have hz23 : w2.heap.size ≤ w3.heap.size := z32
  clear hln hln2 hs1 hs2 hs3 hs4 ho3 ho4 ho5 ho6 Q1 Q2 R1 hr1 hr2 hgr1 hgr2 S1 S2 B3 B4 B5 B3' B4' B5' B6' B6 z32
  go_wp2_with fail
  go_loopw [16] (fun i wr => ∃ k : Nat, ∃ l' : List Int, k ≤ m1 ∧ i = .int .i64 k ∧ OwnI w2.heap.size wr (.slice a1 m1 k1) l' ∧ w6.grownBy wr (Value.ownBlock (.slice a1 m1 k1))) (fun i _ => m1 - (intOf i).toNat)
  case atStart => exact ⟨0, l1, Nat.zero_le _, rfl, O3.out, grownBy_drewN (World.grownBy.refl _ _) _⟩
  case round =>
  obtain ⟨k, l', hk, rfl, hown, hgrow⟩ := hrel
  by_cases hlt : k < m1
  case pos =>
    have kk : (k : Int) < (m1 : Int) := by omega
    obtain ⟨g, rfl, hbg, hcell, hfz, hset⟩ := hown.store hlt (-5)
    have HS := Lib.hid hset
    have HG := Lib.hid hgrow
    clear hset hgrow hown
    go_wp2
    go_roundw
    case rel => exact ⟨k + 1, _, by omega, by go_num, HS.out, grownBy_set' HG.out rfl _ _⟩
    case measure => simp [intOf]; omega
  case neg =>
  have kk : ¬ (k : Int) < (m1 : Int) := by omega
  have P1' := Lib.hid (grown_row P1.out hown hgrow (by omega))
  have P2' := Lib.hid (grown_row P2.out hown hgrow (by omega))
  have BB7 := Lib.hid (BB6.out.grown hgrow BB6.out.size (fun j hj => by have := World.ownsRow.lt hown _ hj; have := B2.size; omega))
  have O4' : Hid (OwnI w3.heap.size wr (.slice a2 m2 k2) l2) := by
    refine O4.out.kept hgrow ?_
    cases h : Value.ownBlock (.slice a2 m2 k2) with
    | none => exact .inl rfl
    | some j => 
      right
      intro e
      have h1 := World.ownsRow.lt O4.out j h
      have h2 := L3.out j e.symm
      omega
  clear hown hgrow
  go_wp2_with fail
  obtain ⟨wo, rfl⟩ : ∃ wo : World, wo = wr := ⟨_, rfl⟩
  go_loopw [17] (fun i wq => ∃ k : Nat, ∃ l' : List Int, k ≤ m2 ∧ i = .int .i64 k ∧ OwnI w3.heap.size wq (.slice a2 m2 k2) l' ∧ wo.grownBy wq (Value.ownBlock (.slice a2 m2 k2))) (fun i _ => m2 - (intOf i).toNat)
  case atStart => exact ⟨0, l2, Nat.zero_le _, rfl, O4'.out, World.grownBy.refl _ _⟩
  case round =>
  obtain ⟨k', l'', hk', rfl, hown, hgrow⟩ := hrel
  by_cases hlt' : k' < m2
  case pos =>
    have kk : (k' : Int) < (m2 : Int) := by omega
    obtain ⟨g, rfl, hbg, hcell, hfz, hset⟩ := hown.store hlt' (-5)
    have HS := Lib.hid hset
    have HG := Lib.hid hgrow
    clear hset hgrow hown
    go_wp2
    go_roundw
    case rel => exact ⟨k' + 1, _, by omega, by go_num, HS.out, grownBy_set' HG.out rfl _ _⟩
    case measure => simp [intOf]; omega
  case neg =>
  have kk' : ¬ (k' : Int) < (m2 : Int) := by omega
  have P1'' := Lib.hid (grown_row P1'.out hown hgrow (by omega))
  have P2'' := Lib.hid (grown_row P2'.out hown hgrow (by omega))
  have BB8 := Lib.hid (BB7.out.grown hgrow BB7.out.size (fun j hj => by have := World.ownsRow.lt hown _ hj; have := B2.size; omega))
  clear hown hgrow
  have z8 := BB8.out.size
  go_wp2_with fail
  refine (both_c _ _ _ [1, 5] _ _ _ [3, 5] _ ?_ ?_ (by simp) (by simp) (by omega) (by omega)).mono ?_
  · exact (IntSl.lit wr [1, 5] _ (by simp) (by simp)).alloc _
  · exact IntSl.litAt _ _ (by simp) [3, 5] _ (by simp) (by simp)
  rw [bothR_ex]
  rintro e w9 ⟨v9, rfl, ho9, B9'⟩
  obtain ⟨a9, k9, rfl, hs9⟩ := ho9.sl (by simp)
  have C9 : Below wr.heap.size wr w9 := (by repeat (first | exact Below.refl _ _ | refine bdrewN ?_ _ | refine Below.alloc ?_ (by simp <;> omega) _) : Below wr.heap.size wr _).trans (B9'.mono (by simp; omega))
  have BB9 := Lib.hid (BB8.out.trans (C9.mono z8))
  have P1 := P1''.out.below C9 P1''.out.lt
  have P2 := P2''.out.below C9 P2''.out.lt
  have z9 := BB9.out.size
  clear B9' C9 ho9 P1'' P2'' P1' P2' BB8 BB7 BB6
  go_wp2_with fail
  refine (common_c _ _ _ [1, 5] _ _ _ [3, 5] _ ?_ ?_ (by omega)).mono ?_
  · exact (IntSl.lit w9 [1, 5] _ (by simp) (by simp)).alloc _
  · exact IntSl.litAt _ _ (by simp) [3, 5] _ (by simp) (by simp)
  rw [commonR_ex]
  rintro e w10 ⟨v10, rfl, ho10, B10'⟩
  obtain ⟨a10, k10, rfl, hs10⟩ := ho10.sl (by simp)
  have C10 : Below w9.heap.size w9 w10 := (by repeat (first | exact Below.refl _ _ | refine bdrewN ?_ _ | refine Below.alloc ?_ (by simp <;> omega) _) : Below w9.heap.size w9 _).trans (B10'.mono (by simp; omega))
  have BB10 := Lib.hid (BB9.out.trans (C10.mono z9))
  have P1 := P1.below C10 P1.lt
  have P2 := P2.below C10 P2.lt
  have hs9 := hs9.below C10
  have z10 := BB10.out.size
  clear B10' C10 ho10 BB9
  go_wp2_with fail
  refine (ints_any _ _ _ _ _ _ [1, 3, 5] [1, 3, 5] _ (hs9.alloc _) (by exact IntSl.lit w10 [1, 3, 5] _ (by simp) (by simp))).mono ?_
  rw [show eqB [1, 3, 5] [1, 3, 5] = true by decide]
  rintro e w11 ⟨rfl, q3, rfl⟩
  go_wp2_with fail
  refine (ints_any _ _ _ _ _ _ [5] [5] _ (by repeat (first | assumption | apply IntSl.drewN | apply IntSl.alloc)) ?_).mono ?_
  · first | exact IntSl.litAt _ _ (by simp) [5] _ (by simp) (by simp) | exact (IntSl.litAt _ _ (by simp) [5] _ (by simp) (by simp)).drewN _
  rw [show eqB [5] [5] = true by decide]
  rintro e w11 ⟨rfl, q4, rfl⟩
  go_wp2_with fail
  generalize hw12 : ((((w10.alloc (Obj.cells #[Value.int IntKind.i64 1, Value.int IntKind.i64 3, Value.int IntKind.i64 5] 3)).drewN q3).alloc (Obj.cells #[Value.int IntKind.i64 5] 3)).drewN q4) = w12
  have C12 : Below w10.heap.size w10 w12 := by rw [← hw12]; repeat (first | exact Below.refl _ _ | refine bdrewN ?_ _ | refine Below.alloc ?_ (by simp <;> omega) _)
  have BB12 := Lib.hid (BB10.out.trans (C12.mono z10))
  have P1 := P1.below C12 P1.lt
  have P2 := P2.below C12 P2.lt
  clear hw12 C12
  refine (back_any g1 n xs _ _ xs _ P1 (P1.sl ha.len hxm ha.bd) (ha.below BB12.out) (by omega)).mono ?_
  rw [e1.out]
  rintro e w13 ⟨rfl, hgr13⟩
  have BB13 := Lib.hid (BB12.out.trans (lend_bel_at hgr13 BB12.out.size hg1))
  have P2 := P2.grown hgr13 (by omega)
  clear hgr13
  go_wp2_with fail
  refine (back_any g2 m ys _ _ ys _ P2 (P2.sl hb.len hym hb.bd) (hb.below BB13.out) (by omega)).mono ?_
  rw [e2.out]
  rintro e w14 ⟨rfl, hgr14⟩
  have hg2' : w.heap.size ≤ g2 := by omega
  have BB14 := BB13.out.trans (lend_bel_at hgr14 BB13.out.size hg2')
  go_wp2_with fail
  go_ret
  exact ⟨rfl, BB14⟩
theorem law_setsBoth (a : Option Addr) (n ca : Nat) (xs : List Int) (b : Option Addr) (m cb : Nat) (ys : List Int) (w : World) (ha : IntSl w a n xs) (hb : IntSl w b m ys) (hna : a = none → ca = 0) (hnb : b = none → cb = 0) :
    Calls Try.prog 14 #[.slice a n ca, .slice b m cb] w fun e w' => e = .returned (.bool true) ∧ Below w.heap.size w w' := by
  have hm := ha.mx
  have hm' := hb.mx
  by_cases h1 : 1000 < n
  · have h1' : (1000 : Int) < (n : Int) := by omega
    go_enter Try.func14, Try.ntmps14
    go_wp2
    go_ret
    exact ⟨rfl, Below.refl _ _⟩
  by_cases h2 : 1000 < m
  · have h1' : ¬ (1000 : Int) < (n : Int) := by omega
    have h2' : (1000 : Int) < (m : Int) := by omega
    go_enter Try.func14, Try.ntmps14
    go_wp2
    go_ret
    exact ⟨rfl, Below.refl _ _⟩
  exact law_setsBoth_code _ _ _ _ (bothR_bd ha.bd hb.bd) (commonR_bd (ys := ys) ha.bd) a n ca xs b m cb ys w ha hb hna hnb (by omega) (by omega)
    (fun a ca b cb w h1 h2 h3 h4 => both_c a n ca xs b m cb ys w h1 h2 h3 h4 (by omega) (by omega))
    (fun a ca b cb w h1 h2 => common_c a n ca xs b m cb ys w h1 h2 (by omega))
    (fun w h1 h2 => rboth_c a n ca xs b m cb ys w h1 h2 hna (by omega) (by omega))
    (fun w h1 h2 => rcommon_c a n ca xs b m cb ys w h1 h2 (by omega))
end Go.Proofs.Ytfioogmjhfdjhaa
