/- The walk of the law QuorumGrows: true for every row, place and number. No condition but that the row reads as a list. -/
import Derived.Test.YtfioogmjhfdjhaaSure
import Derived.Test.YtfioogmjhfdjhaaApp2
namespace Go.Proofs.Ytfioogmjhfdjhaa
open Go.RowKit
set_option linter.unusedVariables false
theorem el_rev {xs : List Int} {n k : Nat} (hn : xs.length = n) (hk : k < n) : el xs.reverse k = el xs (n - 1 - k) := by
  rw [el_get (by simpa [hn] using hk), el_get (by omega), List.getElem_reverse]
  simp [hn]
theorem sure_eq {xs ys : List Int} {n : Nat} (hx : xs.length = n) (hy : ys.length = n) (hp : 0 < n) (h : ∀ x, geCnt xs x = geCnt ys x) : sureL xs = sureL ys := by
  have h1 := (le_sure hx hp (sureL xs)).1 (Int.le_refl _)
  have h2 := (le_sure hy hp (sureL ys)).1 (Int.le_refl _)
  rw [h] at h1
  rw [← h] at h2
  have h3 := (le_sure hy hp (sureL xs)).2 h1
  have h4 := (le_sure hx hp (sureL ys)).2 h2
  omega
theorem sure_le {xs ys : List Int} {n : Nat} (hx : xs.length = n) (hy : ys.length = n) (hp : 0 < n) (h : ∀ x, geCnt xs x ≤ geCnt ys x) : sureL xs ≤ sureL ys := by
  have h1 := (le_sure hx hp (sureL xs)).1 (Int.le_refl _)
  have := h (sureL xs)
  exact (le_sure hy hp (sureL xs)).2 (by omega)
theorem geCnt_set {xs : List Int} {t : Nat} {v : Int} (ht : t < xs.length) (hv : el xs t ≤ v) (x : Int) : geCnt xs x ≤ geCnt (xs.set t v) x := by
  induction xs generalizing t with
  | nil => simp at ht
  | cons y l ih =>
    cases t with
    | zero =>
      have hv' : y ≤ v := by simpa [el] using hv
      simp only [List.set_cons_zero, geCnt, List.countP_cons]
      by_cases h1 : x ≤ y
      · have : x ≤ v := by omega
        simp [h1, this]
      · simp [h1]
    | succ t =>
      have := ih (t := t) (by simpa using ht) (by simpa [el] using hv)
      simp only [List.set_cons_succ]
      unfold geCnt at *
      rw [List.countP_cons, List.countP_cons]
      omega
theorem grows_sure (a : Option Addr) (n ca : Nat) (xs : List Int) (t v : Int) (w : World) (ha : IntSl w a n xs)
    (h : 300 < n ∨ (¬ 300 < n ∧ t < 0) ∨ (¬ 300 < n ∧ ¬ t < 0 ∧ (n : Int) ≤ t) ∨ (¬ 300 < n ∧ ¬ t < 0 ∧ t < (n : Int) ∧ v < el xs t.toNat)) :
    Calls Try.prog 11 #[.slice a n ca, .int .i64 t, .int .i64 v] w fun e w' => e = .returned (.bool true) ∧ Below w.heap.size w w' := by
  have hm := ha.mx
  rcases h with h | ⟨h1, h⟩ | ⟨h1, h2, h⟩ | ⟨h1, h2, h3, h⟩
  · have t1 : (300 : Int) < (n : Int) := by omega
    clear h
    go_enter Try.func11, Try.ntmps11
    go_wp2_with fail
    refine (shown_sure _).mono ?_
    rintro e w1 ⟨rfl, B1⟩
    go_wp2_with fail
    go_ret
    exact ⟨rfl, B1⟩
  · have t1 : ¬ (300 : Int) < (n : Int) := by omega
    clear h1
    go_enter Try.func11, Try.ntmps11
    go_wp2_with fail
    refine (shown_sure _).mono ?_
    rintro e w1 ⟨rfl, B1⟩
    go_wp2_with fail
    go_ret
    exact ⟨rfl, B1⟩
  · have t1 : ¬ (300 : Int) < (n : Int) := by omega
    clear h1
    go_enter Try.func11, Try.ntmps11
    go_wp2_with fail
    refine (shown_sure _).mono ?_
    rintro e w1 ⟨rfl, B1⟩
    go_wp2_with fail
    go_ret
    exact ⟨rfl, B1⟩
  · have t1 : ¬ (300 : Int) < (n : Int) := by omega
    obtain ⟨k, rfl⟩ : ∃ k : Nat, t = (k : Int) := ⟨t.toNat, by omega⟩
    rw [Int.toNat_natCast] at h
    obtain ⟨ba, oa, rfl, hba, hca⟩ := ha.row (by omega)
    have ck := hca k (by omega)
    have k0 : (0 : Int) ≤ (k : Int) := by omega
    clear hca h1 h2
    go_enter Try.func11, Try.ntmps11
    go_wp2_with fail
    refine (shown_sure _).mono ?_
    rintro e w1 ⟨rfl, B1⟩
    go_wp2_with fail
    go_ret
    exact ⟨rfl, B1⟩
theorem apart1 {r g v1 : Option Nat} {A : Nat} (hg : ∀ k, g = some k → k < A) (h1 : v1 = r ∨ v1 = some (A + 1)) (hd : r = none ∨ r ≠ g) : v1 = none ∨ v1 ≠ g := by
  rcases h1 with rfl | rfl
  · exact hd
  · right; intro e; have := hg _ e.symm; omega
theorem apart2 {g v1 v3 : Option Nat} {B : Nat} (h1 : ∀ k, v1 = some k → k < B) (hd : v1 = none ∨ v1 ≠ g) (h3 : v3 = g ∨ v3 = some (B + 1)) : (v1 = none ∨ v1 ≠ v3) ∧ (v3 = none ∨ v3 ≠ v1) := by
  have key : v1 = none ∨ v1 ≠ v3 := by
    rcases h3 with rfl | rfl
    · exact hd
    · cases v1 with
      | none => exact .inl rfl
      | some k => right; intro e; have := h1 _ e; omega
  refine ⟨key, ?_⟩
  rcases key with h | h
  · subst h
    cases v3 with
    | none => exact .inl rfl
    | some k => right; simp
  · right; exact fun e => h e.symm
set_option maxRecDepth 100000 in
set_option maxHeartbeats 2000000 in
theorem grows_main (a : Option Addr) (n ca : Nat) (xs : List Int) (p : Nat) (v : Int) (w : World) (ha : IntSl w a n xs) (hv : -9223372036854775808 ≤ v ∧ v ≤ 9223372036854775807)
    (h1 : n ≤ 300) (hp : p < n) (hle : el xs p ≤ v) :
    Calls Try.prog 11 #[.slice a n ca, .int .i64 p, .int .i64 v] w fun e w' => e = .returned (.bool true) ∧ Below w.heap.size w w' := by
  have hm := ha.mx
  have hlen := ha.len
  have hbd := Lib.hid ha.bd
  have t1 : ¬ (300 : Int) < (n : Int) := by omega
  have t2 : ¬ (p : Int) < 0 := by omega
  have t3 : ¬ (n : Int) ≤ (p : Int) := by omega
  have t4 : ¬ v < el xs p := by omega
  have hsr : sureL xs.reverse = sureL xs := sure_eq (n := n) (by simp [hlen]) hlen (by omega) (fun x => by unfold geCnt; exact (List.reverse_perm xs).countP_eq _)
  have hsg : sureL xs ≤ sureL (xs.set p v) := sure_le hlen (by simp [hlen]) (by omega) (geCnt_set (by omega) hle)
  have hbr := Lib.hid (fun x (hx : x ∈ xs.reverse) => ha.bd x (by simpa using hx))
  have hbs : Hid (∀ x ∈ xs.set p v, -9223372036854775808 ≤ x ∧ x ≤ 9223372036854775807) := fun x hx => (List.mem_or_eq_of_mem_set hx).elim (fun h => ha.bd x h) (fun h => h ▸ hv)
  have HREV := Lib.hid (fun k (hk : k < n) => el_rev hlen hk)
  have HLR := Lib.hid (show xs.reverse.length = n by simp [hlen])
  have HLS := Lib.hid (show (xs.set p v).length = n by simp [hlen])
  have HL := Lib.hid hlen
  obtain ⟨ba, oa, rfl, hba, hca⟩ := ha.row (by omega)
  have cp := hca p hp
  have HCA := Lib.hid hca
  have e0 : ((sureL xs == sureL xs) : Bool) = true := by simp
  have HSR := Lib.hid hsr
  have HSG := Lib.hid hsg
  clear hca hlen hle hsr hsg
  go_enter Try.func11, Try.ntmps11
  go_wp2_with fail
  refine (sure_any _ _ _ xs _ ha (by omega) (by omega)).mono ?_
  rintro e w1 ⟨rfl, B1⟩
  have HB1 := Lib.hid B1
  clear B1
  go_wp2_with fail
  go_loopw [9, 10, 11] (fun r g i wr => ∃ k : Nat, k ≤ n ∧ i = .int .i64 k ∧ OwnI w.heap.size wr r (xs.reverse.take k) ∧ OwnI w.heap.size wr g (xs.take k) ∧ (r.ownBlock = none ∨ r.ownBlock ≠ g.ownBlock) ∧ (g.ownBlock = none ∨ g.ownBlock ≠ r.ownBlock) ∧ Below w.heap.size w wr) (fun _ _ i _ => n - (intOf i).toNat)
  case atStart => exact ⟨0, Nat.zero_le _, rfl, OwnI.nil _ _, OwnI.nil _ _, .inl rfl, .inl rfl, HB1.out⟩
  case round =>
    obtain ⟨k, hk, rfl, hor, hog, hd1, hd2, hbel⟩ := hrel
    by_cases hlt : k < n
    · have k0 : (0 : Int) ≤ (k : Int) := by omega
      have k1 : (k : Int) < (n : Int) := by omega
      have k2 : (0 : Int) ≤ (n : Int) - 1 - (k : Int) := by omega
      have k3 : (n : Int) - 1 - (k : Int) < (n : Int) := by omega
      have ck : wr.cell? ⟨ba, oa + (n - 1 - k), none⟩ = some (.int .i64 (el xs (n - 1 - k))) := by rw [hbel.cell (p := ⟨ba, oa + (n - 1 - k), none⟩) hba]; exact HCA.out _ (by omega)
      have hz := hbel.size
      have hlr : (xs.reverse.take k).length ≤ k := List.length_take_le _ _
      have hlg : (xs.take k).length ≤ k := List.length_take_le _ _
      have HTR := Lib.hid (take_succ_el (xs := xs.reverse) (j := k) (by rw [HLR.out]; exact hlt))
      have HTG := Lib.hid (take_succ_el (xs := xs) (j := k) (by rw [HL.out]; exact hlt))
      have HRE := Lib.hid (HREV.out k hlt)
      have HOR := Lib.hid hor
      have HOG := Lib.hid hog
      have HD1 := Lib.hid hd1
      have HD2 := Lib.hid hd2
      have HBL := Lib.hid hbel
      clear hor hog hd1 hd2 hbel
      generalize hq1 : xs.reverse.take k = lr at *
      generalize hq2 : xs.take k = lg at *
      clear hq1 hq2
      go_wp2_with (first | (at_builtin; refine wpList_app1b rfl (.tmp 49) (.tmp 58) 25 rfl Try.underlying25 w.heap.size _ lr rfl HOR.out (el xs (n - 1 - k)) 3 _ rfl rfl (by omega) hz ?_; intro v1 w2 ho1 hg1 hbk1; have HO1 := Lib.hid ho1; have HG1 := Lib.hid hg1; have HBK1 := Lib.hid hbk1; have HB2 := Lib.hid (HOR.out.bel HBL.out hg1 hz); clear ho1 hg1 hbk1; have hz2 := HB2.out.size; have ck2 := (HB2.out.cell (p := ⟨ba, oa + k, none⟩) hba).trans (HCA.out k hlt); have HOG2 := Lib.hid (HOG.out.kept HG1.out HD2.out)) | (at_builtin; refine wpList_app1b rfl (.tmp 60) (.tmp 65) 25 rfl Try.underlying25 w.heap.size _ lg rfl HOG2.out (el xs k) 3 _ rfl rfl (by omega) hz2 ?_; intro v3 w3 ho3 hg3 hbk3; have HO3 := Lib.hid ho3; have HG3 := Lib.hid hg3; have HBK3 := Lib.hid hbk3; have HB3 := Lib.hid (HOG2.out.bel HB2.out hg3 hz2); clear ho3 hg3 hbk3))
      have hA1 := apart1 (fun k hk => (World.ownsRow.lt HOG.out k hk).2) HBK1.out HD1.out
      have hA2 := apart2 (fun k hk => (World.ownsRow.lt HO1.out k hk).2) hA1 HBK3.out
      have HA2 := Lib.hid hA2
      have HO1' := Lib.hid (HO1.out.kept HG3.out hA1)
      clear hA1 hA2
      go_roundw
      case rel => exact ⟨k + 1, by omega, by go_num, by rw [HTR.out, HRE.out]; exact HO1'.out, by rw [HTG.out]; exact HO3.out, HA2.out.1, HA2.out.2, HB3.out⟩
      case measure => simp [intOf]; omega
    · have k1 : ¬ (k : Int) < (n : Int) := by omega
      obtain rfl : k = n := by omega
      rw [List.take_of_length_le (by rw [HLR.out]; exact Nat.le_refl _)] at hor
      rw [List.take_of_length_le (by rw [HL.out]; exact Nat.le_refl _)] at hog
      obtain ⟨ra, rc, rfl, hsr⟩ := hor.sl hbr.out
      obtain ⟨ga, gc, rfl, hsg⟩ := hog.sl hbd.out
      rw [HLR.out] at hor hsr hd1 hd2
      rw [HL.out] at hog hsg hd1 hd2
      rw [HLR.out, HL.out]
      obtain ⟨gg, rfl, hbg, hcell, hfz, hset⟩ := hog.store hp v
      have HS := Lib.hid hset
      have HOR := Lib.hid hor
      have HBL := Lib.hid hbel
      have hz := hbel.size
      have hd := Lib.hid hd1
      clear hor hog hsr hsg hset hbel hd1 hd2 hlt hk
      have q1 : (p : Int) < (k : Int) := by omega
      have q2 : (0 : Int) ≤ (p : Int) := by omega
      go_wp2_with fail
      have hgs : wr.grownBy (wr.setCell ⟨gg, p, none⟩ (.int .i64 v)) (some gg) := grownBy_set (World.grownBy.refl _ _) p _
      have hor2 : OwnI w.heap.size (wr.setCell ⟨gg, p, none⟩ (.int .i64 v)) (.slice ra k rc) xs.reverse := HOR.out.kept hgs hd.out
      have hb2 := HBL.out.setCell (p := ⟨gg, p, none⟩) hbg (.int .i64 v)
      have hog2 := HS.out
      generalize hws : wr.setCell ⟨gg, p, none⟩ (.int .i64 v) = ws at *
      clear hws hgs
      obtain ⟨ra', rc', ev, hsr2⟩ := hor2.sl hbr.out
      rw [HLR.out] at ev hsr2
      obtain ⟨rfl, rfl⟩ : ra = ra' ∧ rc = rc' := by simpa using ev
      obtain ⟨ga', gc', ev2, hsg2⟩ := hog2.sl hbs.out
      rw [HLS.out] at ev2 hsg2
      obtain ⟨rfl, rfl⟩ : some ⟨gg, 0, none⟩ = ga' ∧ gc = gc' := by simpa using ev2
      have HBS := Lib.hid hb2
      clear ev ev2 hor2 hog2 hb2 hcell hfz
      refine (sure_any _ _ _ xs.reverse _ hsr2 (by omega) (by omega)).mono ?_
      rw [HSR.out]
      rintro e w5 ⟨rfl, B5⟩
      have hsg5 := hsg2.below B5
      have HB5 := Lib.hid (HBS.out.trans (B5.mono HBS.out.size))
      clear B5 hsr2 hsg2
      go_wp2_with fail
      refine (sure_any _ _ _ (xs.set p v) _ hsg5 (by omega) (by omega)).mono ?_
      rintro e w6 ⟨rfl, B6⟩
      have HB6 := Lib.hid (HB5.out.trans (B6.mono HB5.out.size))
      clear B6 hsg5
      go_wp2_with fail
      refine (shown_sure _).mono ?_
      rintro e w7 ⟨rfl, B7⟩
      have HB7 := Lib.hid (HB6.out.trans (B7.mono HB6.out.size))
      clear B7
      have hfin := HSG.out
      go_wp2_with fail
      go_ret
      exact ⟨rfl, HB7.out⟩
theorem law_quorumGrows (a : Option Addr) (n ca : Nat) (xs : List Int) (t v : Int) (w : World) (ha : IntSl w a n xs) (ht : -9223372036854775808 ≤ t ∧ t ≤ 9223372036854775807) (hv : -9223372036854775808 ≤ v ∧ v ≤ 9223372036854775807) :
    Calls Try.prog 11 #[.slice a n ca, .int .i64 t, .int .i64 v] w fun e w' => e = .returned (.bool true) ∧ Below w.heap.size w w' := by
  by_cases h : 300 < n ∨ (¬ 300 < n ∧ t < 0) ∨ (¬ 300 < n ∧ ¬ t < 0 ∧ (n : Int) ≤ t) ∨ (¬ 300 < n ∧ ¬ t < 0 ∧ t < (n : Int) ∧ v < el xs t.toNat)
  · exact grows_sure a n ca xs t v w ha h
  · obtain ⟨k, rfl⟩ : ∃ k : Nat, t = (k : Int) := ⟨t.toNat, by omega⟩
    rw [Int.toNat_natCast] at h
    exact grows_main a n ca xs k v w ha hv (by omega) (by omega) (by omega)
end Go.Proofs.Ytfioogmjhfdjhaa
