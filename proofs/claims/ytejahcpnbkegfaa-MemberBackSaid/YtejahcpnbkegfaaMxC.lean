/- member.Apply. Condition: rows of at most 10^6 numbers. -/
import Derived.Test.YtejahcpnbkegfaaMxB
namespace Go.Proofs.Ytejahcpnbkegfaa
open Go.RowKit Go.ChangeShapes Go.WideShapes Go.Deep
set_option linter.unusedVariables false
set_option linter.unusedSimpArgs false
theorem norm_cfg {S : Nat → Prop} {w : World} {cs : List SV} {c : Config} {m : List Nat} (h : Config.of cs = some (c, m)) {v : Value} (hd : DenV (E0 S) w (.agg cs) v) : DenV (E0 S) w (.agg (c.svs [0])) v := by
  obtain ⟨xs, e, h2⟩ := arg_cfg h hd
  exact ⟨xs, e, Config.svs_of (h2.mono fun b _ hb => ⟨0, by simp, rfl, hb⟩)⟩
theorem FnC.pre {P : Program} {f : FuncId} {ins ins2 : List SV} {out : SV} {mo : List BE} (h : FnC P f ins2 out mo) (hi : ∀ (S : Nat → Prop) (w : World) (vals : List Value), DenL (E0 S) w ins vals → DenL (E0 S) w ins2 vals) : FnC P f ins out mo :=
  ⟨h.1, fun w S vals hS hd => h.2 w S vals hS (hi S w vals hd)⟩
theorem eAsk_ok : EntOk Try.prog ⟨25, goC fun c => ([], .agg (c.svs [0]), D2)⟩ := goC_ok (fnB Try.func25 (by decide) rfl) fun cs c m hc hn => (ask_fn c).pre fun S w vals hd => by
  obtain ⟨v, rfl, h1⟩ := one_arg hd
  exact ⟨norm_cfg hc h1, trivial⟩
def goCK (r : Config → Int → Int → List Prop × SV × List BE) : Go3
  | [.agg cs, .agg [.int .i64 k, .int .i64 n]] => match Config.of cs with | some (c, _) => some (r c k n) | none => none
  | _ => none
theorem goCK_ok {P : Program} {f : FuncId} {r : Config → Int → Int → List Prop × SV × List BE} (hB : FnB P f) (h : ∀ c k n, (∀ p ∈ (r c k n).1, p) → FnC P f [.agg (c.svs [0]), .agg [.int .i64 k, .int .i64 n]] (r c k n).2.1 (r c k n).2.2) : EntOk P ⟨f, goCK r⟩ := by
  refine ⟨hB, fun ins n out mo hg hn => ?_⟩
  change goCK r ins = some (n, out, mo) at hg
  unfold goCK at hg
  split at hg
  case h_2 => simp at hg
  split at hg
  case h_2 => simp at hg
  rename_i cs k n _ c m hc
  simp only [Option.some.injEq] at hg
  have := h c k n (by rw [hg]; exact hn)
  rw [hg] at this
  refine this.pre fun S w vals hd => ?_
  obtain ⟨v, u, rfl, h1, h2⟩ := two_arg hd
  exact ⟨norm_cfg hc h1, h2, trivial⟩
noncomputable def eRApply : Ent := ⟨21, goCK fun c k n => ([SmallC c], .tup [.agg ((applyH c k n).svs [1]), .int .i64 (applyE c k n)], D2)⟩
theorem eRApply_ok : EntOk Try.prog eRApply := goCK_ok (fnB Try.func21 (by decide) rfl) fun c k n hn => rapply_fn c k n (bEach hn)
noncomputable def eAsk : Ent := ⟨25, goC fun c => ([], .agg (c.svs [0]), D2)⟩
noncomputable def tab2 : List Ent := eAsk :: tab1
theorem tab2_ok : ∀ e ∈ tab2, EntOk Try.prog e := by
  intro e he
  rcases List.mem_cons.1 he with rfl | he
  · exact eAsk_ok
  · exact tab1_ok e he
noncomputable def D4 (c : Config) : List BE := [.dead, .dead, .row 3 [] (.rInts c.voters), .row 3 [] (.rInts c.learners)]
theorem mapply_fn (c : Config) (k n : Int) (hs : SmallC c) : FnC Try.prog 20 [.agg (c.svs [0]), .agg [.int .i64 k, .int .i64 n]] (.tup [.agg [.own 2, .own 3], .int .i64 (applyE c k n)]) (D4 (applyH c k n)) := by
  refine FnC.of_vc (fitsT tab2_ok fun _ => none) Try.func20 rfl (by decide) 300 (p := True ∧ True ∧ True ∧ (SmallC c ∧ ((!!mayB c) = true → (!!mayB c) = true) ∧ ((!!mayB c) = true → (!!mayB c) = true) ∧ ((!mayB c) = false → (!!mayB c) = true) ∧ ((!pickB (!mayB c) true (decide (n < (1 : Int)))) = true → (!pickB (!mayB c) true (decide (n < (1 : Int)))) = true) ∧ ((!pickB (!mayB c) true (decide (n < (1 : Int)))) = true → (!pickB (!mayB c) true (decide (n < (1 : Int)))) = true) ∧ (pickB (!mayB c) true (decide (n < (1 : Int))) = false → (!pickB (!mayB c) true (decide (n < (1 : Int)))) = true) ∧ True) ∧ True ∧ (pickB (pickB (!mayB c) true (decide (n < (1 : Int)))) true (decide (n > (5 : Int))) = true → True ∧ (160 : Int) = applyE c k n ∧ RL.nilP (RL.rInts (Config.voters (applyH c k n))) ∧ RL.nilP (RL.rInts (Config.learners (applyH c k n))) ∧ True) ∧ (pickB (pickB (!mayB c) true (decide (n < (1 : Int)))) true (decide (n > (5 : Int))) = false → True ∧ (List.length (Config.voters c) ≤ (1000000 : Nat) ∧ True) ∧ (List.length (Config.learners c) ≤ (1000000 : Nat) ∧ True) ∧ ((hasB (Config.voters c) n = false → (!hasB (Config.voters c) n) = true) ∧ True) ∧ True ∧ True ∧ True ∧ ((k == (1 : Int)) = true → True ∧ (RL.len (RL.rInts (Prod.snd (withoutR (Config.learners c) n))) ≤ (17592186044416 : Nat) ∧ List.length (Prod.snd (withoutR (Config.learners c) n)) ≤ (1000000 : Nat) ∧ True) ∧ True ∧ True ∧ ((!!pickB (hasB (Config.voters c) n) true (hasB (Config.learners c) n)) = true → True ∧ (160 : Int) = applyE c k n ∧ RL.nilP (RL.rInts (Config.voters (applyH c k n))) ∧ RL.nilP (RL.rInts (Config.learners (applyH c k n))) ∧ True) ∧ ((!!pickB (hasB (Config.voters c) n) true (hasB (Config.learners c) n)) = false → True ∧ (0 : Int) = applyE c k n ∧ Prod.snd (withoutR (Config.voters c) n) = Config.voters (applyH c k n) ∧ Prod.snd (withR (Prod.snd (withoutR (Config.learners c) n)) n) = Config.learners (applyH c k n) ∧ True)) ∧ ((k == (1 : Int)) = false → True ∧ True ∧ ((k == (2 : Int)) = true → True ∧ (RL.len (RL.rInts (Prod.snd (withoutR (Config.voters c) n))) ≤ (17592186044416 : Nat) ∧ List.length (Prod.snd (withoutR (Config.voters c) n)) ≤ (1000000 : Nat) ∧ True) ∧ ((hasB (Config.learners c) n = true → hasB (Config.learners c) n = true) ∧ (hasB (Config.learners c) n = true → hasB (Config.learners c) n = true) ∧ (hasB (Config.learners c) n = true → hasB (Config.learners c) n = true) ∧ (hasB (Config.learners c) n = true → hasB (Config.learners c) n = true) ∧ True) ∧ True ∧ True ∧ ((!pickB (hasB (Config.learners c) n) (decide ((↑(RL.len (RL.rInts (Prod.snd (withR (Prod.snd (withoutR (Config.voters c) n)) n)))) : Int) > (0 : Int))) false) = true → True ∧ (160 : Int) = applyE c k n ∧ RL.nilP (RL.rInts (Config.voters (applyH c k n))) ∧ RL.nilP (RL.rInts (Config.learners (applyH c k n))) ∧ True) ∧ ((!pickB (hasB (Config.learners c) n) (decide ((↑(RL.len (RL.rInts (Prod.snd (withR (Prod.snd (withoutR (Config.voters c) n)) n)))) : Int) > (0 : Int))) false) = false → True ∧ (0 : Int) = applyE c k n ∧ Prod.snd (withR (Prod.snd (withoutR (Config.voters c) n)) n) = Config.voters (applyH c k n) ∧ Prod.snd (withoutR (Config.learners c) n) = Config.learners (applyH c k n) ∧ True)) ∧ ((k == (2 : Int)) = false → True ∧ True ∧ ((k == (3 : Int)) = true → ((pickB (hasB (Config.voters c) n) true (hasB (Config.learners c) n) = true → pickB (hasB (Config.voters c) n) true (hasB (Config.learners c) n) = true) ∧ (pickB (hasB (Config.voters c) n) true (hasB (Config.learners c) n) = true → pickB (hasB (Config.voters c) n) true (hasB (Config.learners c) n) = true) ∧ (pickB (hasB (Config.voters c) n) true (hasB (Config.learners c) n) = true → pickB (hasB (Config.voters c) n) true (hasB (Config.learners c) n) = true) ∧ (pickB (hasB (Config.voters c) n) true (hasB (Config.learners c) n) = true → pickB (hasB (Config.voters c) n) true (hasB (Config.learners c) n) = true) ∧ True) ∧ True ∧ True ∧ ((!pickB (pickB (hasB (Config.voters c) n) true (hasB (Config.learners c) n)) (decide ((↑(RL.len (RL.rInts (Prod.snd (withoutR (Config.voters c) n)))) : Int) > (0 : Int))) false) = true → True ∧ (160 : Int) = applyE c k n ∧ RL.nilP (RL.rInts (Config.voters (applyH c k n))) ∧ RL.nilP (RL.rInts (Config.learners (applyH c k n))) ∧ True) ∧ ((!pickB (pickB (hasB (Config.voters c) n) true (hasB (Config.learners c) n)) (decide ((↑(RL.len (RL.rInts (Prod.snd (withoutR (Config.voters c) n)))) : Int) > (0 : Int))) false) = false → True ∧ (0 : Int) = applyE c k n ∧ Prod.snd (withoutR (Config.voters c) n) = Config.voters (applyH c k n) ∧ Prod.snd (withoutR (Config.learners c) n) = Config.learners (applyH c k n) ∧ True)) ∧ ((k == (3 : Int)) = false → True ∧ True ∧ True ∧ ((!false) = true → True ∧ (160 : Int) = applyE c k n ∧ RL.nilP (RL.rInts (Config.voters (applyH c k n))) ∧ RL.nilP (RL.rInts (Config.learners (applyH c k n))) ∧ True) ∧ ((!false) = false → True ∧ (0 : Int) = applyE c k n ∧ Prod.snd (withoutR (Config.voters c) n) = Config.voters (applyH c k n) ∧ Prod.snd (withoutR (Config.learners c) n) = Config.learners (applyH c k n) ∧ True)))))) (by kernel_rfl) ?_
  simp only [imp_self, implies_true, true_and, and_true, pickB_f, pickB_t]
  obtain ⟨hs1, hs2⟩ := hs
  by_cases hg : mayB c = true ∧ 1 ≤ n ∧ n ≤ 5
  · obtain ⟨hm, h1, h5⟩ := hg
    obtain ⟨hi0, hi1⟩ := may_is hm
    have hmi := may_in hm
    have a0 := dropL_asc (n := n) (isB_asc.1 hi0).1
    have a1 := dropL_asc (n := n) (isB_asc.1 hi1).1
    have p0 := (put_in (n := n) a0 (fun x hx => hmi.1 x (dropL_mem.1 hx).1) h1 h5).2
    have p1 := (put_in (n := n) a1 (fun x hx => hmi.2.1 x (dropL_mem.1 hx).1) h1 h5).2
    have w0 : withoutR c.voters n = (0, dropL c.voters n) := by unfold withoutR; rw [if_pos hi0]
    have w1 : withoutR c.learners n = (0, dropL c.learners n) := by unfold withoutR; rw [if_pos hi1]
    have hd0 := dropL_len c.voters n
    have hd1 := dropL_len c.learners n
    have hB : applyB c k n = kindP c k n := by unfold applyB; rw [kind_same k n hm]; simp [hm, h1, h5]
    have g1 : decide (n < 1) = false := by simp; omega
    have g2 : decide (n > 5) = false := by simp; omega
    simp only [w0, w1, p0, p1, hm, g1, g2, RL.len, RL.nilP]
    refine ⟨⟨⟨hs1, hs2⟩, by simp, by simp⟩, fun h => by simp at h, fun _ => ⟨hs1, hs2, by simp, fun e1 => ?_, fun n1 => ⟨fun e2 => ?_, fun n2 => ⟨fun e3 => ?_, fun n3 => ?_⟩⟩⟩⟩
    · have e1 : k = 1 := by simpa using e1
      subst e1
      refine ⟨⟨by omega, by omega⟩, fun h => ?_, fun h => ?_⟩
      · have h : applyB c 1 n = false := by rw [hB, kindP, if_pos rfl]; revert h; cases hasB c.voters n <;> cases hasB c.learners n <;> simp
        simp [applyE, applyH, h]
      · have h : applyB c 1 n = true := by rw [hB, kindP, if_pos rfl]; revert h; cases hasB c.voters n <;> cases hasB c.learners n <;> simp
        simp [applyE, applyH, applyC, h]
    · have e2 : k = 2 := by simpa using e2
      subst e2
      refine ⟨⟨by omega, by omega⟩, fun h => ?_, fun h => ?_⟩
      · have h : applyB c 2 n = false := by rw [hB, kindP, if_neg (by decide), if_pos rfl]; revert h; cases hasB c.voters n <;> cases hasB c.learners n <;> simp
        simp [applyE, applyH, h]
      · have h : applyB c 2 n = true := by rw [hB, kindP, if_neg (by decide), if_pos rfl]; revert h; cases hasB c.voters n <;> cases hasB c.learners n <;> simp
        simp [applyE, applyH, applyC, h]
    · have e3 : k = 3 := by simpa using e3
      subst e3
      refine ⟨fun h => ?_, fun h => ?_⟩
      · have h : applyB c 3 n = false := by rw [hB, kindP, if_neg (by decide), if_neg (by decide), if_pos rfl]; revert h; cases hasB c.voters n <;> cases hasB c.learners n <;> simp
        simp [applyE, applyH, h]
      · have h : applyB c 3 n = true := by rw [hB, kindP, if_neg (by decide), if_neg (by decide), if_pos rfl]; revert h; cases hasB c.voters n <;> cases hasB c.learners n <;> simp
        simp [applyE, applyH, applyC, h]
    · have m1 : ¬ k = 1 := by simpa using n1
      have m2 : ¬ k = 2 := by simpa using n2
      have m3 : ¬ k = 3 := by simpa using n3
      have h : applyB c k n = false := by rw [hB, kindP, if_neg m1, if_neg m2, if_neg m3]
      refine ⟨fun _ => by simp [applyE, applyH, h], fun h => by simp at h⟩
  · have h : applyB c k n = false := by
      unfold applyB
      cases hm : mayB c
      · simp
      · simp only [Bool.true_and]
        by_cases h1 : 1 ≤ n
        · have : ¬ n ≤ 5 := fun h5 => hg ⟨hm, h1, h5⟩
          simp [this]
        · simp [h1]
    have hx : (!mayB c || decide (n < 1) || decide (n > 5)) = true := by
      cases hm : mayB c
      · simp
      · by_cases h1 : 1 ≤ n
        · have : ¬ n ≤ 5 := fun h5 => hg ⟨hm, h1, h5⟩
          simp; omega
        · simp; omega
    refine ⟨⟨⟨hs1, hs2⟩, fun h => by rw [h]; rfl, fun h => by rw [h]; rfl⟩, fun _ => by simp [applyE, applyH, h, RL.nilP], fun h2 => by rw [hx] at h2; cases h2⟩
end Go.Proofs.Ytejahcpnbkegfaa
