/- The contracts of sets.Both and Common and of the references'. Condition: rows of at most 2^40 numbers. -/
import Derived.Test.YtfioogmjhfdjhaaWith
namespace Go.Proofs.Ytfioogmjhfdjhaa
open Go.RowKit
set_option linter.unusedVariables false
theorem is2_no (xs ys : List Int) (h : ¬ (isB xs = true ∧ isB ys = true)) : isB xs = false ∨ (isB xs = true ∧ isB ys = false) := by
  cases h1 : isB xs
  · exact .inl rfl
  · cases h2 : isB ys
    · exact .inr ⟨rfl, rfl⟩
    · exact absurd ⟨h1, h2⟩ h
theorem both_no (a : Option Addr) (n ca : Nat) (xs : List Int) (b : Option Addr) (m cb : Nat) (ys : List Int) (w : World) (ha : IntSl w a n xs) (hb : IntSl w b m ys) (h : ¬ (isB xs = true ∧ isB ys = true)) :
    Calls Try.prog 41 #[.slice a n ca, .slice b m cb] w (SetPost w 1 []) := by
  rcases is2_no xs ys h with h1 | ⟨h1, h2⟩
  · have H1 := Lib.hid h1
    clear h h1
    go_enter Try.func41, Try.ntmps41
    go_wp2_with fail
    refine (is_any _ _ _ xs _ ha).mono ?_
    rw [H1.out]
    rintro e w1 ⟨rfl, q, rfl⟩
    go_wp2_with fail
    go_ret2
    exact ⟨_, rfl, OwnI.nil _ _, bdrewN (Below.refl _ _) _⟩
  · have H1 := Lib.hid h1
    have H2 := Lib.hid h2
    clear h h1 h2
    go_enter Try.func41, Try.ntmps41
    go_wp2_with fail
    refine (is_any _ _ _ xs _ ha).mono ?_
    rw [H1.out]
    rintro e w1 ⟨rfl, q, rfl⟩
    go_wp2_with fail
    refine (is_any _ _ _ ys _ (hb.drewN _)).mono ?_
    rw [H2.out]
    rintro e w2 ⟨rfl, q2, rfl⟩
    go_wp2_with fail
    go_ret2
    exact ⟨_, rfl, OwnI.nil _ _, by repeat (first | exact Below.refl _ _ | refine bdrewN ?_ _)⟩
theorem both_yes (a : Option Addr) (n ca : Nat) (xs : List Int) (b : Option Addr) (m cb : Nat) (ys : List Int) (w : World) (ha : IntSl w a n xs) (hb : IntSl w b m ys) (hna : a = none → ca = 0) (hnb : b = none → cb = 0) (hn : n ≤ 1099511627776) (hm : m ≤ 1099511627776) (h1 : isB xs = true) (h2 : isB ys = true) (code : Int) (l : List Int)
    (hcl : ((mergeL (xs ++ ys)).length ≤ 16 ∧ code = 0 ∧ l = mergeL (xs ++ ys)) ∨ (16 < (mergeL (xs ++ ys)).length ∧ code = 2 ∧ l = [])) :
    Calls Try.prog 41 #[.slice a n ca, .slice b m cb] w (SetPost w code l) := by
  have H1 := Lib.hid h1
  have H2 := Lib.hid h2
  have HC := Lib.hid hcl
  clear h1 h2 hcl
  go_enter Try.func41, Try.ntmps41
  go_wp2_with fail
  refine (is_any _ _ _ xs _ ha).mono ?_
  rw [H1.out]
  rintro e w1 ⟨rfl, q, rfl⟩
  go_wp2_with fail
  refine (is_any _ _ _ ys _ (hb.drewN _)).mono ?_
  rw [H2.out]
  rintro e w2 ⟨rfl, q2, rfl⟩
  go_wp2_with fail
  refine (merged_yes w.heap.size a n ca xs b m cb ys _ ?_ ?_ ?_ ?_ ?_ hna hnb hn hm code l HC.out).mono ?_
  · exact World.cell?_alloc_at _ _ _ _ (by simp)
  · exact World.cell?_alloc_at _ _ _ _ (by simp)
  · simp
  · repeat (first | assumption | apply IntSl.drewN | apply IntSl.alloc)
  · repeat (first | assumption | apply IntSl.drewN | apply IntSl.alloc)
  rintro e w3 ⟨v2, rfl, ho2, hb2⟩
  go_wp2_with fail
  go_ret2
  have hs := hb2.size
  simp at hs
  exact ⟨_, rfl, ho2.mono (by simp), (by repeat (first | exact Below.refl _ _ | refine bdrewN ?_ _ | refine Below.alloc ?_ (by simp <;> omega) _) : Below w.heap.size w _).trans (hb2.mono (by simp))⟩
theorem both_c (a : Option Addr) (n ca : Nat) (xs : List Int) (b : Option Addr) (m cb : Nat) (ys : List Int) (w : World) (ha : IntSl w a n xs) (hb : IntSl w b m ys) (hna : a = none → ca = 0) (hnb : b = none → cb = 0) (hn : n ≤ 1099511627776) (hm : m ≤ 1099511627776) :
    Calls Try.prog 41 #[.slice a n ca, .slice b m cb] w (SetPost w (bothR xs ys).1 (bothR xs ys).2) := by
  unfold bothR
  by_cases h : isB xs = true ∧ isB ys = true
  · rw [if_pos h]; exact both_yes a n ca xs b m cb ys w ha hb hna hnb hn hm h.1 h.2 _ _ (cutR_or _)
  · rw [if_neg h]; exact both_no a n ca xs b m cb ys w ha hb h
theorem common1_any (x : Int) (bx : Nat) (b : Option Addr) (m cb : Nat) (ys : List Int) (w : World) (hc : w.cell? ⟨bx, 0, none⟩ = some (.slice b m cb)) (hb : IntSl w b m ys) :
    Calls Try.prog 57 #[.int .i64 x, .pointer (some ⟨bx, 0, none⟩)] w fun e w' => e = .returned (.bool (!hasB ys x)) ∧ Below w.heap.size w w' := by
  generalize hr : hasB ys x = r
  have HR := Lib.hid hr
  clear hr
  go_enter Try.func57, Try.ntmps57
  go_wp2_with fail
  refine (has_any _ _ _ ys _ _ hb).mono ?_
  rw [HR.out]
  rintro e w1 ⟨rfl, rfl⟩
  go_wp2_with fail
  go_ret
  exact ⟨rfl, Below.refl _ _⟩
theorem common_no (a : Option Addr) (n ca : Nat) (xs : List Int) (b : Option Addr) (m cb : Nat) (ys : List Int) (w : World) (ha : IntSl w a n xs) (hb : IntSl w b m ys) (h : ¬ (isB xs = true ∧ isB ys = true)) :
    Calls Try.prog 42 #[.slice a n ca, .slice b m cb] w (SetPost w 1 []) := by
  rcases is2_no xs ys h with h1 | ⟨h1, h2⟩
  · have H1 := Lib.hid h1
    clear h h1
    go_enter Try.func42, Try.ntmps42
    go_wp2_with fail
    refine (is_any _ _ _ xs _ (ha.alloc _)).mono ?_
    rw [H1.out]
    rintro e w1 ⟨rfl, q, rfl⟩
    go_wp2_with fail
    go_ret2
    exact ⟨_, rfl, OwnI.nil _ _, by repeat (first | exact Below.refl _ _ | refine bdrewN ?_ _ | refine Below.alloc ?_ (by simp <;> omega) _)⟩
  · have H1 := Lib.hid h1
    have H2 := Lib.hid h2
    clear h h1 h2
    go_enter Try.func42, Try.ntmps42
    go_wp2_with fail
    refine (is_any _ _ _ xs _ (ha.alloc _)).mono ?_
    rw [H1.out]
    rintro e w1 ⟨rfl, q, rfl⟩
    go_wp2_with fail
    refine (is_any _ _ _ ys _ ((hb.alloc _).drewN _)).mono ?_
    rw [H2.out]
    rintro e w2 ⟨rfl, q2, rfl⟩
    go_wp2_with fail
    go_ret2
    exact ⟨_, rfl, OwnI.nil _ _, by repeat (first | exact Below.refl _ _ | refine bdrewN ?_ _ | refine Below.alloc ?_ (by simp <;> omega) _)⟩
theorem common_yes (a : Option Addr) (n ca : Nat) (xs : List Int) (b : Option Addr) (m cb : Nat) (ys : List Int) (w : World) (ha : IntSl w a n xs) (hb : IntSl w b m ys) (hn : n ≤ 1099511627776) (h1 : isB xs = true) (h2 : isB ys = true) :
    Calls Try.prog 42 #[.slice a n ca, .slice b m cb] w (SetPost w 0 (xs.filter (hasB ys))) := by
  have H1 := Lib.hid h1
  have H2 := Lib.hid h2
  have hbd := ha.bd
  have eg : ∀ args w, (callFunc 57 args).run Try.prog w = .ok (.enter 57 args) w := enters_of Try.func57 (by kernel_rfl) rfl
  have HEG := Lib.hid eg
  clear h1 h2 eg
  go_enter Try.func42, Try.ntmps42
  go_wp2_with fail
  refine (is_any _ _ _ xs _ (ha.alloc _)).mono ?_
  rw [H1.out]
  rintro e w1 ⟨rfl, q, rfl⟩
  go_wp2_with fail
  refine (is_any _ _ _ ys _ ((hb.alloc _).drewN _)).mono ?_
  rw [H2.out]
  rintro e w1 ⟨rfl, q2, rfl⟩
  go_wp2_with fail
  refine (clone_any _ _ _ xs _ (by repeat (first | assumption | apply IntSl.drewN | apply IntSl.alloc)) hn).mono ?_
  rintro e w2 ⟨cv, rfl, hown, hb2⟩
  have hs2 := hb2.size
  simp at hs2
  have HO := Lib.hid (hown.mono (B := w.heap.size + 1) (by simp))
  have B2 : Below w.heap.size w w2 := (by repeat (first | exact Below.refl _ _ | refine bdrewN ?_ _ | refine Below.alloc ?_ (by simp <;> omega) _) : Below w.heap.size w _).trans (hb2.mono (by simp))
  have HB2 := Lib.hid B2
  obtain ⟨ca', cc, rfl, hsl⟩ := hown.sl hbd
  have hbox : w2.cell? ⟨w.heap.size, 0, none⟩ = some (.slice b m cb) := by
    rw [hb2.cell (p := ⟨w.heap.size, 0, none⟩) (by simp)]
    simp
  have hpred : PredOn 57 (.pointer (some ⟨w.heap.size, 0, none⟩)) (fun x => !hasB ys x) (fun w' => w'.cell? ⟨w.heap.size, 0, none⟩ = some (.slice b m cb) ∧ Below w.heap.size w w') := fun x w' h => common1_any x _ b m cb ys w' h.1 (hb.below h.2)
  have hdel := deleteFunc_any _ _ _ _ hpred HEG.out (w.heap.size + 1) ca' xs.length cc xs w2 (fun w' hg => ?_) HO.out hbd (by omega)
  rotate_left
  · refine ⟨hg.cell hbox ?_, B2.grown hg B2.size (fun k hk => ?_)⟩
    · intro e
      have := World.ownsRow.lt HO.out _ e.symm
      dsimp only at this
      omega
    · have := World.ownsRow.lt HO.out _ hk
      omega
  have hff : (xs.filter fun x => !(fun x => !hasB ys x) x) = xs.filter (hasB ys) := by congr 1; funext x; simp
  rw [hff] at hdel
  have HD := Lib.hid hdel
  clear hown hb2 B2 hbox hdel hpred hff
  go_wp2_with fail
  refine HD.out.mono ?_
  rintro e w3 ⟨dv, rfl, ho3, hg3⟩
  go_wp2_with fail
  go_ret2
  refine ⟨_, rfl, ho3.mono (by omega), HB2.out.grown hg3 HB2.out.size (fun k hk => ?_)⟩
  have := World.ownsRow.lt HO.out _ hk
  omega
theorem common_c (a : Option Addr) (n ca : Nat) (xs : List Int) (b : Option Addr) (m cb : Nat) (ys : List Int) (w : World) (ha : IntSl w a n xs) (hb : IntSl w b m ys) (hn : n ≤ 1099511627776) :
    Calls Try.prog 42 #[.slice a n ca, .slice b m cb] w (SetPost w (commonR xs ys).1 (commonR xs ys).2) := by
  unfold commonR
  by_cases h : isB xs = true ∧ isB ys = true
  · rw [if_pos h]; exact common_yes a n ca xs b m cb ys w ha hb hn h.1 h.2
  · rw [if_neg h]; exact common_no a n ca xs b m cb ys w ha hb h
theorem rboth_no (a : Option Addr) (n ca : Nat) (xs : List Int) (b : Option Addr) (m cb : Nat) (ys : List Int) (w : World) (ha : IntSl w a n xs) (hb : IntSl w b m ys) (h : ¬ (isB xs = true ∧ isB ys = true)) :
    Calls Try.prog 43 #[.slice a n ca, .slice b m cb] w (SetPost w 1 []) := by
  rcases is2_no xs ys h with h1 | ⟨h1, h2⟩
  · have H1 := Lib.hid h1
    clear h h1
    go_enter Try.func43, Try.ntmps43
    go_wp2_with fail
    refine (ris_any _ _ _ xs _ ha).mono ?_
    rw [H1.out]
    rintro e w1 ⟨rfl, q, rfl⟩
    go_wp2_with fail
    go_ret2
    exact ⟨_, rfl, OwnI.nil _ _, bdrewN (Below.refl _ _) _⟩
  · have H1 := Lib.hid h1
    have H2 := Lib.hid h2
    clear h h1 h2
    go_enter Try.func43, Try.ntmps43
    go_wp2_with fail
    refine (ris_any _ _ _ xs _ ha).mono ?_
    rw [H1.out]
    rintro e w1 ⟨rfl, q, rfl⟩
    go_wp2_with fail
    refine (ris_any _ _ _ ys _ (hb.drewN _)).mono ?_
    rw [H2.out]
    rintro e w2 ⟨rfl, q2, rfl⟩
    go_wp2_with fail
    go_ret2
    exact ⟨_, rfl, OwnI.nil _ _, by repeat (first | exact Below.refl _ _ | refine bdrewN ?_ _)⟩
theorem rcommon_no (a : Option Addr) (n ca : Nat) (xs : List Int) (b : Option Addr) (m cb : Nat) (ys : List Int) (w : World) (ha : IntSl w a n xs) (hb : IntSl w b m ys) (h : ¬ (isB xs = true ∧ isB ys = true)) :
    Calls Try.prog 44 #[.slice a n ca, .slice b m cb] w (SetPost w 1 []) := by
  rcases is2_no xs ys h with h1 | ⟨h1, h2⟩
  · have H1 := Lib.hid h1
    clear h h1
    go_enter Try.func44, Try.ntmps44
    go_wp2_with fail
    refine (ris_any _ _ _ xs _ ha).mono ?_
    rw [H1.out]
    rintro e w1 ⟨rfl, q, rfl⟩
    go_wp2_with fail
    go_ret2
    exact ⟨_, rfl, OwnI.nil _ _, bdrewN (Below.refl _ _) _⟩
  · have H1 := Lib.hid h1
    have H2 := Lib.hid h2
    clear h h1 h2
    go_enter Try.func44, Try.ntmps44
    go_wp2_with fail
    refine (ris_any _ _ _ xs _ ha).mono ?_
    rw [H1.out]
    rintro e w1 ⟨rfl, q, rfl⟩
    go_wp2_with fail
    refine (ris_any _ _ _ ys _ (hb.drewN _)).mono ?_
    rw [H2.out]
    rintro e w2 ⟨rfl, q2, rfl⟩
    go_wp2_with fail
    go_ret2
    exact ⟨_, rfl, OwnI.nil _ _, by repeat (first | exact Below.refl _ _ | refine bdrewN ?_ _)⟩
theorem putL_len (xs : List Int) (v : Int) : (putL xs v).length ≤ xs.length + 1 := by
  cases h : hasB xs v
  · rw [putL_out h, ins_len]; exact Nat.le_refl _
  · rw [putL_in h]; omega
theorem putAll_len (xs ys : List Int) : (putAll xs ys).length ≤ xs.length + ys.length := by
  induction ys generalizing xs with
  | nil => simp [putAll]
  | cons y ys ih =>
    have h1 := ih (putL xs y)
    have h2 := putL_len xs y
    show (putAll (putL xs y) ys).length ≤ _
    simp only [List.length_cons]; omega
theorem putAll_bd {xs ys : List Int} (hx : ∀ x ∈ xs, -9223372036854775808 ≤ x ∧ x ≤ 9223372036854775807) (hy : ∀ x ∈ ys, -9223372036854775808 ≤ x ∧ x ≤ 9223372036854775807) : ∀ x ∈ putAll xs ys, -9223372036854775808 ≤ x ∧ x ≤ 9223372036854775807 := by
  intro x h
  rcases putAll_mem.1 h with h | h
  · exact hx x h
  · exact hy x h
theorem rboth_yes (a : Option Addr) (n ca : Nat) (xs : List Int) (b : Option Addr) (m cb : Nat) (ys : List Int) (w : World) (ha : IntSl w a n xs) (hb : IntSl w b m ys) (hna : a = none → ca = 0) (hn : n ≤ 1099511627) (hm : m ≤ 1099511627) (h1 : isB xs = true) (h2 : isB ys = true) (code : Int) (l : List Int)
    (hcl : ((putAll xs ys).length ≤ 16 ∧ code = 0 ∧ l = putAll xs ys) ∨ (16 < (putAll xs ys).length ∧ code = 2 ∧ l = [])) :
    Calls Try.prog 43 #[.slice a n ca, .slice b m cb] w (SetPost w code l) := by
  have H1 := Lib.hid h1
  have H2 := Lib.hid h2
  have HC := Lib.hid hcl
  have hbx := ha.bd
  have hby := hb.bd
  have hlx := Lib.hid ha.len
  clear h1 h2 hcl
  go_enter Try.func43, Try.ntmps43
  go_wp2_with fail
  refine (ris_any _ _ _ xs _ ha).mono ?_
  rw [H1.out]
  rintro e w1 ⟨rfl, q, rfl⟩
  go_wp2_with fail
  refine (ris_any _ _ _ ys _ (hb.drewN _)).mono ?_
  rw [H2.out]
  rintro e w2 ⟨rfl, q2, rfl⟩
  generalize hwq : (w.drewN q).drewN q2 = wq
  have hBq : Below w.heap.size w wq := by rw [← hwq]; exact bdrewN (bdrewN (Below.refl _ _) _) _
  have hzq : wq.heap.size = w.heap.size := by rw [← hwq]; rfl
  have haq := Lib.hid (ha.below hBq)
  have HZQ := Lib.hid hzq
  clear hwq hzq
  have hzl : w.heap.size ≤ wq.heap.size := by rw [HZQ.out]; exact Nat.le_refl _
  go_wp2_with (at_builtin; refine wpList_appAny rfl (.tmp 16) (.tmp 17) 27 rfl Try.underlying27 w.heap.size _ [] rfl (OwnI.nil _ _) a n ca xs haq.out hna rfl (by simp; omega) hzl ?_; intro v1 w1 ho1 hg1; have HO1 := Lib.hid ho1; have HB1 := Lib.hid ((OwnI.nil w.heap.size wq).bel hBq hg1 hzl); clear ho1 hg1)
  go_loopw [6, 7] (fun t i wr => ∃ k : Nat, k ≤ m ∧ i = .int .i64 k ∧ OwnI w.heap.size wr t (putAll xs (ys.take k)) ∧ Below w.heap.size w wr) (fun _ i _ => m - (intOf i).toNat)
  case atStart => exact ⟨0, Nat.zero_le _, rfl, by have := HO1.out; rwa [List.nil_append] at this, HB1.out⟩
  case round =>
    obtain ⟨k, hk, rfl, hown, hbel⟩ := hrel
    have hlen := putAll_len xs (ys.take k)
    have hlk : (ys.take k).length ≤ k := List.length_take_le _ _
    have hlx' := hlx.out
    have hbd := putAll_bd hbx (fun x hx => hby x (List.mem_of_mem_take hx) : ∀ x ∈ ys.take k, _)
    obtain ⟨oa, oc, rfl, hos⟩ := hown.sl hbd
    by_cases hlt : k < m
    · have k0 : (0 : Int) ≤ (k : Int) := by omega
      have k1 : (k : Int) < (m : Int) := by omega
      obtain ⟨ba, ob, rfl, hba, hca⟩ := (hb.below hbel).row (by omega)
      have ca := hca k hlt
      have hts : putAll xs (ys.take (k + 1)) = putL (putAll xs (ys.take k)) (el ys k) := by
        rw [take_succ_el (by rw [hb.len]; exact hlt)]; simp [putAll, List.foldl_append]
      have HTS := Lib.hid hts
      have HB := Lib.hid hbel
      have hzw := hbel.size
      generalize hg : putAll xs (ys.take k) = o at *
      have hol : o.length ≤ 1099511627776 := by omega
      clear hca hts hbel hg hlen hlk hlx'
      generalize hgl : o.length = ol at *
      clear hgl
      go_wp2_with fail
      refine (put_any _ _ _ o _ _ hos hol).mono ?_
      rintro e w4 ⟨v4, rfl, ho4, hb4⟩
      go_wp2_with fail
      go_roundw
      case rel => exact ⟨k + 1, by omega, by go_num, by rw [HTS.out]; exact ho4.mono hzw, HB.out.trans (hb4.mono hzw)⟩
      case measure => simp [intOf]; omega
    · have k1 : ¬ (k : Int) < (m : Int) := by omega
      have hmm := hos.mx
      obtain rfl : k = m := by omega
      rw [List.take_of_length_le (by rw [hb.len]; exact Nat.le_refl _)] at *
      have HB := Lib.hid hbel
      have HO := Lib.hid hown
      clear hown hbel hos hlen hlk hbd hlx' hlt hk
      rcases HC.out with ⟨h16, rfl, rfl⟩ | ⟨h16, rfl, rfl⟩
      · have t1 : ¬ (16 : Int) < ((putAll xs ys).length : Int) := by omega
        generalize hml : (putAll xs ys).length = ml at *
        clear hml
        go_wp2_with fail
        go_ret2
        exact ⟨_, rfl, HO.out, HB.out⟩
      · have t1 : (16 : Int) < ((putAll xs ys).length : Int) := by omega
        generalize hml : (putAll xs ys).length = ml at *
        clear hml
        go_wp2_with fail
        go_ret2
        exact ⟨_, rfl, OwnI.nil _ _, HB.out⟩
theorem rcommon_yes (a : Option Addr) (n ca : Nat) (xs : List Int) (b : Option Addr) (m cb : Nat) (ys : List Int) (w : World) (ha : IntSl w a n xs) (hb : IntSl w b m ys) (hn : n ≤ 1099511627776) (h1 : isB xs = true) (h2 : isB ys = true) :
    Calls Try.prog 44 #[.slice a n ca, .slice b m cb] w (SetPost w 0 (xs.filter (hasB ys))) := by
  have H1 := Lib.hid h1
  have H2 := Lib.hid h2
  clear h1 h2
  go_enter Try.func44, Try.ntmps44
  go_wp2_with fail
  refine (ris_any _ _ _ xs _ ha).mono ?_
  rw [H1.out]
  rintro e w1 ⟨rfl, q, rfl⟩
  go_wp2_with fail
  refine (ris_any _ _ _ ys _ (hb.drewN _)).mono ?_
  rw [H2.out]
  rintro e w2 ⟨rfl, q2, rfl⟩
  go_wp2_with fail
  go_loopw [6, 7] (fun t i wr => ∃ k : Nat, k ≤ n ∧ i = .int .i64 k ∧ OwnI w.heap.size wr t ((xs.take k).filter (hasB ys)) ∧ Below w.heap.size w wr) (fun _ i _ => n - (intOf i).toNat)
  case atStart => exact ⟨0, Nat.zero_le _, rfl, OwnI.nil _ _, bdrewN (Below.refl _ _) _⟩
  case round =>
    obtain ⟨k, hk, rfl, hown, hbel⟩ := hrel
    by_cases hlt : k < n
    · have k0 : (0 : Int) ≤ (k : Int) := by omega
      have k1 : (k : Int) < (n : Int) := by omega
      have hbw := hb.below hbel
      obtain ⟨ba, oa, rfl, hba, hca⟩ := (ha.below hbel).row (by omega)
      have ca := hca k hlt
      have hlen : ((xs.take k).filter (hasB ys)).length ≤ k := by
        have h1 := List.length_filter_le (hasB ys) (xs.take k)
        have h2 : (xs.take k).length ≤ k := List.length_take_le _ _
        omega
      have hts := take_succ_el (xs := xs) (j := k) (by rw [ha.len]; exact hlt)
      have hsz := hbel.size
      have HO := Lib.hid hown
      have HB := Lib.hid hbel
      clear hca hown hbel
      cases hv : hasB ys (el xs k)
      case false =>
        have hd : (xs.take (k + 1)).filter (hasB ys) = (xs.take k).filter (hasB ys) := by rw [hts, List.filter_append]; simp [hv]
        have HD := Lib.hid hd
        have HV := Lib.hid hv
        clear hv hd hts hlen
        go_wp2_with fail
        refine (rhas_any _ _ _ ys _ _ hbw).mono ?_
        rw [HV.out]
        rintro e w3 ⟨rfl, rfl⟩
        go_wp2_with fail
        go_roundw
        case rel => exact ⟨k + 1, by omega, by go_num, by rw [HD.out]; exact HO.out, HB.out⟩
        case measure => simp [intOf]; omega
      case true =>
        have hd : (xs.take (k + 1)).filter (hasB ys) = (xs.take k).filter (hasB ys) ++ [el xs k] := by rw [hts, List.filter_append]; simp [hv]
        have HD := Lib.hid hd
        have HV := Lib.hid hv
        generalize hg : (xs.take k).filter (hasB ys) = o at *
        clear hv hd hts hg
        go_wp2_with fail
        refine (rhas_any _ _ _ ys _ _ hbw).mono ?_
        rw [HV.out]
        rintro e w3 ⟨rfl, rfl⟩
        go_wp2_with (at_builtin; refine wpList_app1 rfl (.tmp 28) (.tmp 33) 27 rfl Try.underlying27 w.heap.size _ o rfl HO.out (el xs k) 3 _ rfl rfl (by omega) hsz ?_; intro v2 w2 ho2 hg2; have HO2 := Lib.hid ho2; have HB2 := Lib.hid (HO.out.bel HB.out hg2 hsz); clear ho2 hg2)
        go_roundw
        case rel => exact ⟨k + 1, by omega, by go_num, by rw [HD.out]; exact HO2.out, HB2.out⟩
        case measure => simp [intOf]; omega
    · have k1 : ¬ (k : Int) < (n : Int) := by omega
      obtain rfl : k = n := by omega
      rw [List.take_of_length_le (by rw [ha.len]; exact Nat.le_refl _)] at hown
      go_wp2
      go_ret2
      exact ⟨_, rfl, hown, hbel⟩
theorem rboth_c (a : Option Addr) (n ca : Nat) (xs : List Int) (b : Option Addr) (m cb : Nat) (ys : List Int) (w : World) (ha : IntSl w a n xs) (hb : IntSl w b m ys) (hna : a = none → ca = 0) (hn : n ≤ 1099511627) (hm : m ≤ 1099511627) :
    Calls Try.prog 43 #[.slice a n ca, .slice b m cb] w (SetPost w (bothR xs ys).1 (bothR xs ys).2) := by
  unfold bothR
  by_cases h : isB xs = true ∧ isB ys = true
  · rw [if_pos h]; exact rboth_yes a n ca xs b m cb ys w ha hb hna hn hm h.1 h.2 _ _ (by rw [mergeL_putAll (isB_asc.1 h.1).1]; exact cutR_or _)
  · rw [if_neg h]; exact rboth_no a n ca xs b m cb ys w ha hb h
theorem rcommon_c (a : Option Addr) (n ca : Nat) (xs : List Int) (b : Option Addr) (m cb : Nat) (ys : List Int) (w : World) (ha : IntSl w a n xs) (hb : IntSl w b m ys) (hn : n ≤ 1099511627776) :
    Calls Try.prog 44 #[.slice a n ca, .slice b m cb] w (SetPost w (commonR xs ys).1 (commonR xs ys).2) := by
  unfold commonR
  by_cases h : isB xs = true ∧ isB ys = true
  · rw [if_pos h]; exact rcommon_yes a n ca xs b m cb ys w ha hb hn h.1 h.2
  · rw [if_neg h]; exact rcommon_no a n ca xs b m cb ys w ha hb h
theorem bothR_bd {xs ys : List Int} (hx : ∀ x ∈ xs, -9223372036854775808 ≤ x ∧ x ≤ 9223372036854775807) (hy : ∀ x ∈ ys, -9223372036854775808 ≤ x ∧ x ≤ 9223372036854775807) : ∀ x ∈ (bothR xs ys).2, -9223372036854775808 ≤ x ∧ x ≤ 9223372036854775807 := by
  unfold bothR
  split
  · rcases cutR_or (mergeL (xs ++ ys)) with ⟨_, _, e⟩ | ⟨_, _, e⟩
    · rw [e]
      intro x h
      rcases List.mem_append.1 (mergeL_mem.1 h) with h | h
      · exact hx x h
      · exact hy x h
    · rw [e]; simp
  · simp
theorem commonR_bd {xs ys : List Int} (hx : ∀ x ∈ xs, -9223372036854775808 ≤ x ∧ x ≤ 9223372036854775807) : ∀ x ∈ (commonR xs ys).2, -9223372036854775808 ≤ x ∧ x ≤ 9223372036854775807 := by
  unfold commonR
  split
  · exact fun x h => hx x (List.mem_filter.1 h).1
  · simp
end Go.Proofs.Ytfioogmjhfdjhaa
