/- raftlog.Merge's closure, its search, copies of entries. No condition. -/
import Derived.Test.YteiojclemodhaaaRlA
namespace Go.Proofs.Yteiojclemodhaaa
open Go.RowKit Go.ChangeShapes Go.WideShapes Go.Deep
set_option linter.unusedVariables false
set_option linter.unusedSimpArgs false
set_option maxRecDepth 100000
noncomputable def freshB (k : Kept) (x : Entry) : Bool := decide (k.snap.index < x.index) && (!((termP k x.index).2 == 0) || !((termP k x.index).1 == x.term))
noncomputable def firstF (k : Kept) : List Entry → Int
  | [] => -1
  | x :: l => if freshB k x then 0 else (if firstF k l = -1 then -1 else firstF k l + 1)
def dRpKept : Dec Kept where
  dec := fun s => match s with | .rp _ 30 cs 0 => (match Kept.of cs with | some (x, _) => some x | none => none) | _ => none
  can := fun x => .rp [0] 30 (x.svs [0]) 0
  Okp := fun x => x.Ok
  okp := fun x E w v ⟨_, _, _, _, _, hl⟩ => Kept.ok_of (Kept.svs_rd hl)
  ok := by
    intro s x h E w v hz hd
    split at h
    case h_2 => simp at h
    split at h
    case h_2 => simp at h
    rename_i ls cs _ y m e
    simp only [Option.some.injEq] at h
    subst h
    obtain ⟨b, xs, hv, hb, hh, hl⟩ := hd
    exact ⟨b, xs, hv, hz.set hb, hh, Kept.svs_of (RdL.mono (fun b _ hb => hz.set hb) (Kept.svs_rd (Kept.of_ok e hl)))⟩
/-- Merge's closure -/
def dClo : Dec Kept where
  dec := fun s => match s with | .clo 43 [t] => dRpKept.dec t | _ => none
  can := fun x => .clo 43 [dRpKept.can x]
  Okp := fun x => x.Ok
  okp := fun x E w v h => by
    obtain ⟨xs, _, h⟩ := h
    match xs, h with
    | [u], h => exact dRpKept.okp x E w u h.1
  ok := by
    intro s x h E w v hz hd
    split at h
    case h_2 => simp at h
    obtain ⟨xs, hv, hd⟩ := hd
    match xs, hd with
    | [u], hd => exact ⟨[u], hv, dRpKept.ok _ _ h E w u hz hd.1, trivial⟩
theorem clos_fn (k : Kept) (x : Entry) : FnC Try.prog 43 [.agg (x.svs [0]), .rp [0] 30 (k.svs [0]) 0] (.bool (freshB k x)) D2 := by
  refine FnG.of_vc (fitsT tabA_ok fun _ => none) Try.func43 rfl (by decide) rfl 300 (p := True ∧ True ∧ ((decide (Entry.index x > Snap.index (Kept.snap k)) = true → decide (Entry.index x > Snap.index (Kept.snap k)) = true) ∧ (decide (Entry.index x > Snap.index (Kept.snap k)) = true → decide (Entry.index x > Snap.index (Kept.snap k)) = true) ∧ ((decide (Entry.index x > Snap.index (Kept.snap k)) && !Prod.snd (termP k (Entry.index x)) != (0 : Int)) = true → (decide (Entry.index x > Snap.index (Kept.snap k)) && !Prod.snd (termP k (Entry.index x)) != (0 : Int)) = true) ∧ ((decide (Entry.index x > Snap.index (Kept.snap k)) && !Prod.snd (termP k (Entry.index x)) != (0 : Int)) = true → (decide (Entry.index x > Snap.index (Kept.snap k)) && !Prod.snd (termP k (Entry.index x)) != (0 : Int)) = true) ∧ ((decide (Entry.index x > Snap.index (Kept.snap k)) && !Prod.snd (termP k (Entry.index x)) != (0 : Int)) = true → (decide (Entry.index x > Snap.index (Kept.snap k)) && !Prod.snd (termP k (Entry.index x)) != (0 : Int)) = true) ∧ (decide (Entry.index x > Snap.index (Kept.snap k)) = true → decide (Entry.index x > Snap.index (Kept.snap k)) = true) ∧ (decide (Entry.index x > Snap.index (Kept.snap k)) = true → (Prod.snd (termP k (Entry.index x)) != (0 : Int)) = false → (decide (Entry.index x > Snap.index (Kept.snap k)) && !Prod.snd (termP k (Entry.index x)) != (0 : Int)) = true) ∧ (decide (Entry.index x > Snap.index (Kept.snap k)) = true → decide (Entry.index x > Snap.index (Kept.snap k)) = true) ∧ True) ∧ pickB (decide (Entry.index x > Snap.index (Kept.snap k))) (pickB (Prod.snd (termP k (Entry.index x)) != (0 : Int)) true (Prod.fst (termP k (Entry.index x)) != Entry.term x)) false = freshB k x ∧ True) (by kernel_rfl) ?_
  simp only [imp_self, implies_true, true_and, and_true, pickB_f, pickB_t]
  refine ⟨fun h1 h2 => ?_, ?_⟩
  · rw [h1]; simpa using h2
  · simp only [freshB, GT.gt]
    rcases Bool.eq_false_or_eq_true (decide (k.snap.index < x.index)) with h | h <;> rw [h] <;> simp [bne]
noncomputable def eClos : Ent := ent2 43 dEntry dRpKept fun x k => ([], .bool (freshB k x), D2)
theorem eClos_ok : EntOk Try.prog eClos := ent2_ok (clos_fn default default).1 fun x k _ => clos_fn k x
theorem ownConfig_fn (c : Config) (hc : c.voters.length ≤ 1000000 ∧ c.learners.length ≤ 1000000) : FnC Try.prog 53 [.agg (c.svs [0])] (.agg (c.svs [1])) D2 := by
  refine FnG.of_vc (fitsT tabA_ok fun _ => none) Try.func53 rfl (by decide) rfl 300 (p := True ∧ ((↑(List.length (Config.voters c)) : Int) = (↑(List.length (Config.voters c)) : Int) ∧ (0 : Int) ≤ (↑(List.length (Config.voters c)) : Int) ∧ (↑(List.length (Config.voters c)) : Int) ≤ (274877906944 : Int) ∧ (↑(List.length (Config.learners c)) : Int) = (↑(List.length (Config.learners c)) : Int) ∧ (0 : Int) ≤ (↑(List.length (Config.learners c)) : Int) ∧ (↑(List.length (Config.learners c)) : Int) ≤ (274877906944 : Int) ∧ True) ∧ (List.length (Config.voters c) ≤ (17592186044416 : Nat) ∧ True) ∧ (List.length (Config.learners c) ≤ (17592186044416 : Nat) ∧ True) ∧ True ∧ List.take (List.length (List.replicate (List.length (Config.voters c)) (0 : Int))) (Config.voters c) ++ List.drop (List.length (Config.voters c)) (List.replicate (List.length (Config.voters c)) (0 : Int)) = Config.voters c ∧ List.length (List.take (List.length (List.replicate (List.length (Config.voters c)) (0 : Int))) (Config.voters c) ++ List.drop (List.length (Config.voters c)) (List.replicate (List.length (Config.voters c)) (0 : Int))) ≤ (17592186044416 : Nat) ∧ List.take (List.length (List.replicate (List.length (Config.learners c)) (0 : Int))) (Config.learners c) ++ List.drop (List.length (Config.learners c)) (List.replicate (List.length (Config.learners c)) (0 : Int)) = Config.learners c ∧ List.length (List.take (List.length (List.replicate (List.length (Config.learners c)) (0 : Int))) (Config.learners c) ++ List.drop (List.length (Config.learners c)) (List.replicate (List.length (Config.learners c)) (0 : Int))) ≤ (17592186044416 : Nat) ∧ True) (by kernel_rfl) ?_
  simp only [RL.len, true_and, and_true, List.length_replicate, Int.toNat_natCast, List.take_length, List.drop_replicate, Nat.sub_self, List.replicate_zero, List.append_nil]
  omega
def eOwnC : Ent := ent1 53 dConfig fun c => ([c.voters.length ≤ 1000000, c.learners.length ≤ 1000000], .agg (c.svs [1]), D2)
theorem eOwnC_ok : EntOk Try.prog eOwnC := ent1_ok (ownConfig_fn default (by decide)).1 fun c h => ownConfig_fn c ⟨h _ (by simp), h _ (by simp)⟩
theorem ownE_fn (x : Entry) (hc : x.config.voters.length ≤ 1000000 ∧ x.config.learners.length ≤ 1000000) : FnC Try.prog 40 [.agg (x.svs [0])] (.agg (x.svs [1])) D2 := by
  refine FnG.of_vc (fitsT (tab_cons eOwnC_ok tabA_ok) fun _ => none) Try.func40 rfl (by decide) rfl 300 (p := True ∧ (List.length (Config.voters (Entry.config x)) ≤ (1000000 : Nat) ∧ List.length (Config.learners (Entry.config x)) ≤ (1000000 : Nat) ∧ True) ∧ True ∧ Entry.index x = Entry.index x ∧ Entry.term x = Entry.term x ∧ Entry.kind x = Entry.kind x ∧ Config.voters (Entry.config x) = Config.voters (Entry.config x) ∧ Config.learners (Entry.config x) = Config.learners (Entry.config x) ∧ Entry.data x = Entry.data x ∧ True) (by kernel_rfl) ?_
  simp only [true_and, and_true]
  exact hc
theorem firstF_hit {k : Kept} : ∀ {l : List Entry} {j : Nat}, j < l.length → (∀ i, i < j → freshB k (l.getD i default) = false) → freshB k (l.getD j default) = true → firstF k l = j
  | x :: l, 0, _, _, h => by simp only [List.getD_cons_zero] at h; simp [firstF, h]
  | x :: l, j + 1, hj, h0, h => by
    have hx := h0 0 (by omega)
    simp only [List.getD_cons_zero] at hx
    have := firstF_hit (l := l) (j := j) (by simpa using hj) (fun i hi => by simpa using h0 (i + 1) (by omega)) (by simpa using h)
    simp only [firstF, hx, this]
    split
    · simp at *
    · split <;> omega
theorem firstF_miss {k : Kept} : ∀ {l : List Entry}, (∀ i, i < l.length → freshB k (l.getD i default) = false) → firstF k l = -1
  | [], _ => rfl
  | x :: l, h => by
    have hx := h 0 (by simp)
    simp only [List.getD_cons_zero] at hx
    have := firstF_miss (l := l) (fun i hi => by simpa using h (i + 1) (by simpa using hi))
    simp [firstF, hx, this]
theorem indexF_fn (k : Kept) (l : List Entry) : FnC Try.prog 42 [dEntrys.can l, dClo.can k] (.int .i64 (firstF k l)) D2 := by
  refine FnC.g2 dEntrys dClo l k (fnB Try.func42 (by decide) rfl) fun hl _ => ?_
  refine FnG.of_vc (fitsT (tab_cons eClos_ok tabA_ok) fun _ => none) Try.func42 rfl (by decide) rfl 300 (p := True ∧ True ∧ LoopG Try.prog (Gl.mk Try.f42 (1 : Nat) (List.length D2) (SV.int IntKind.i64 (firstF k l)) D2) (fun (x : Nat) (x_1 : St) => False) (codeAt (bodyOf Try.f42) [(1 : Nat), (0 : Nat), (1 : Nat), (0 : Nat), (0 : Nat)]) [KI.blk (0 : Nat), KI.code (codeAt (bodyOf Try.f42) [(1 : Nat), (1 : Nat)])] (St.mk [((8 : Nat), SV.int IntKind.i64 (0 : Int)), ((7 : Nat), SV.int IntKind.i64 (↑(List.length l) : Int)), ((6 : Nat), SV.sl [(0 : Nat)] (RL.rEntry l)), ((4 : Nat), SV.int IntKind.i64 (0 : Int)), ((0 : Nat), SV.sl [(0 : Nat)] (RL.rEntry l)), ((1 : Nat), SV.clo (43 : Nat) [SV.rp [(0 : Nat)] (30 : Nat) [SV.int IntKind.i64 (Kept.term k), SV.int IntKind.i64 (Kept.vote k), SV.int IntKind.i64 (Snap.index (Kept.snap k)), SV.int IntKind.i64 (Snap.term (Kept.snap k)), SV.sl [(0 : Nat)] (RL.rInts (Config.voters (Snap.config (Kept.snap k)))), SV.sl [(0 : Nat)] (RL.rInts (Config.learners (Snap.config (Kept.snap k)))), SV.str (Snap.data (Kept.snap k)), SV.sl [(0 : Nat)] (RL.rEntry (Kept.entries k))] (0 : Nat)])] (19 : Nat) [((0 : Nat), BE.dead), ((1 : Nat), BE.dead)] (6 : Nat))) (by kernel_rfl) ?_
  simp only [true_and, and_true]
  refine LoopG.head (fitsT (tab_cons eClos_ok tabA_ok) fun _ => none) 0 rfl (A := Nat) (fun j => j ≤ l.length ∧ ∀ i, i < j → freshB k (l.getD i default) = false) (fun j => [(8, .int .i64 j)]) (fun _ => []) (fun j => l.length - j) 0 ⟨Nat.zero_le _, fun i h => absurd h (by omega)⟩ /-0-/ (p0 := (0 : Int) = (↑(0 : Nat) : Int) ∧ (↑(List.length l) : Int) = (↑(List.length l) : Int) ∧ l = l ∧ l = l ∧ Kept.term k = Kept.term k ∧ Kept.vote k = Kept.vote k ∧ Snap.index (Kept.snap k) = Snap.index (Kept.snap k) ∧ Snap.term (Kept.snap k) = Snap.term (Kept.snap k) ∧ Config.voters (Snap.config (Kept.snap k)) = Config.voters (Snap.config (Kept.snap k)) ∧ Config.learners (Snap.config (Kept.snap k)) = Config.learners (Snap.config (Kept.snap k)) ∧ Snap.data (Kept.snap k) = Snap.data (Kept.snap k) ∧ Kept.entries k = Kept.entries k ∧ True) (by kernel_rfl) ?_ 300 (p := fun x => True ∧ True ∧ (decide ((↑x : Int) < (↑(List.length l) : Int)) = true → True ∧ ((0 : Int) ≤ (↑x : Int) ∧ (↑x : Int) < (↑(List.length l) : Int) ∧ True) ∧ True ∧ (freshB k (List.getD l x default) = true → True ∧ (↑x : Int) = firstF k l ∧ True) ∧ (freshB k (List.getD l x default) = false → True ∧ Back (Gl.mk Try.f42 (1 : Nat) (List.length D2) (SV.int IntKind.i64 (firstF k l)) D2) (fun (j : Nat) => j ≤ List.length l ∧ ∀ (i : Nat), i < j → freshB k (List.getD l i default) = false) (fun (x : Nat) => headSt (codeAt (bodyOf Try.f42) [(1 : Nat), (0 : Nat), (1 : Nat), (0 : Nat), (0 : Nat)]) (St.mk [((8 : Nat), SV.int IntKind.i64 (0 : Int)), ((7 : Nat), SV.int IntKind.i64 (↑(List.length l) : Int)), ((6 : Nat), SV.sl [(0 : Nat)] (RL.rEntry l)), ((4 : Nat), SV.int IntKind.i64 (0 : Int)), ((0 : Nat), SV.sl [(0 : Nat)] (RL.rEntry l)), ((1 : Nat), SV.clo (43 : Nat) [SV.rp [(0 : Nat)] (30 : Nat) [SV.int IntKind.i64 (Kept.term k), SV.int IntKind.i64 (Kept.vote k), SV.int IntKind.i64 (Snap.index (Kept.snap k)), SV.int IntKind.i64 (Snap.term (Kept.snap k)), SV.sl [(0 : Nat)] (RL.rInts (Config.voters (Snap.config (Kept.snap k)))), SV.sl [(0 : Nat)] (RL.rInts (Config.learners (Snap.config (Kept.snap k)))), SV.str (Snap.data (Kept.snap k)), SV.sl [(0 : Nat)] (RL.rEntry (Kept.entries k))] (0 : Nat)])] (19 : Nat) [((0 : Nat), BE.dead), ((1 : Nat), BE.dead)] (6 : Nat)) [((8 : Nat), SV.int IntKind.i64 (↑x : Int))] []) (fun (j : Nat) => List.length l - j) x (St.mk [((8 : Nat), SV.int IntKind.i64 (IntKind.wrap IntKind.i64 ((↑x : Int) + (1 : Int)))), ((18 : Nat), SV.int IntKind.i64 (IntKind.wrap IntKind.i64 ((↑x : Int) + (1 : Int)))), ((16 : Nat), SV.bool (freshB k (List.getD l x default))), ((15 : Nat), SV.agg [SV.int IntKind.i64 (Entry.index (List.getD l x default)), SV.int IntKind.i64 (Entry.term (List.getD l x default)), SV.int IntKind.i64 (Entry.kind (List.getD l x default)), SV.sl [(0 : Nat)] (RL.rInts (Config.voters (Entry.config (List.getD l x default)))), SV.sl [(0 : Nat)] (RL.rInts (Config.learners (Entry.config (List.getD l x default)))), SV.str (Entry.data (List.getD l x default))]), ((14 : Nat), SV.el [(0 : Nat)] (RL.rEntry l) x (0 : Nat)), ((13 : Nat), SV.int IntKind.i64 (↑x : Int)), ((12 : Nat), SV.sl [(0 : Nat)] (RL.rEntry l)), ((11 : Nat), SV.clo (43 : Nat) [SV.rp [(0 : Nat)] (30 : Nat) [SV.int IntKind.i64 (Kept.term k), SV.int IntKind.i64 (Kept.vote k), SV.int IntKind.i64 (Snap.index (Kept.snap k)), SV.int IntKind.i64 (Snap.term (Kept.snap k)), SV.sl [(0 : Nat)] (RL.rInts (Config.voters (Snap.config (Kept.snap k)))), SV.sl [(0 : Nat)] (RL.rInts (Config.learners (Snap.config (Kept.snap k)))), SV.str (Snap.data (Kept.snap k)), SV.sl [(0 : Nat)] (RL.rEntry (Kept.entries k))] (0 : Nat)]), ((5 : Nat), SV.int IntKind.i64 (↑x : Int)), ((10 : Nat), SV.int IntKind.i64 (↑x : Int)), ((9 : Nat), SV.bool (decide ((↑x : Int) < (↑(List.length l) : Int)))), ((8 : Nat), SV.int IntKind.i64 (↑x : Int)), ((7 : Nat), SV.int IntKind.i64 (↑(List.length l) : Int)), ((6 : Nat), SV.sl [(0 : Nat)] (RL.rEntry l)), ((0 : Nat), SV.sl [(0 : Nat)] (RL.rEntry l)), ((1 : Nat), SV.clo (43 : Nat) [SV.rp [(0 : Nat)] (30 : Nat) [SV.int IntKind.i64 (Kept.term k), SV.int IntKind.i64 (Kept.vote k), SV.int IntKind.i64 (Snap.index (Kept.snap k)), SV.int IntKind.i64 (Snap.term (Kept.snap k)), SV.sl [(0 : Nat)] (RL.rInts (Config.voters (Snap.config (Kept.snap k)))), SV.sl [(0 : Nat)] (RL.rInts (Config.learners (Snap.config (Kept.snap k)))), SV.str (Snap.data (Kept.snap k)), SV.sl [(0 : Nat)] (RL.rEntry (Kept.entries k))] (0 : Nat)])] (19 : Nat) [((22 : Nat), BE.dead), ((23 : Nat), BE.dead), ((24 : Nat), BE.dead), ((25 : Nat), BE.dead), ((26 : Nat), BE.dead), ((27 : Nat), BE.dead), ((28 : Nat), BE.dead), ((29 : Nat), BE.dead), ((30 : Nat), BE.dead), ((31 : Nat), BE.dead), ((32 : Nat), BE.dead), ((33 : Nat), BE.dead), ((34 : Nat), BE.dead), ((35 : Nat), BE.dead), ((36 : Nat), BE.dead), ((37 : Nat), BE.dead), ((0 : Nat), BE.dead), ((1 : Nat), BE.dead)] (40 : Nat)))) ∧ (decide ((↑x : Int) < (↑(List.length l) : Int)) = false → True ∧ (-1 : Int) = firstF k l ∧ True)) (by intro x; kernel_rfl) ?_
  · simp
  · rintro j ⟨hj, h0⟩
    have hl44 := hl.1
    simp only [true_and, and_true, decide_eq_true_eq, decide_eq_false_iff_not]
    refine ⟨fun h1 => ⟨by omega, fun h2 => ?_, fun h2 => ?_⟩, fun h1 => ?_⟩
    · exact (firstF_hit (by omega) h0 h2).symm
    · refine Back.mk (j + 1) ⟨by omega, fun i hi => ?_⟩ (by omega) /-0-/ (p0 := IntKind.wrap IntKind.i64 ((↑j : Int) + (1 : Int)) = (↑(j + (1 : Nat)) : Int) ∧ (↑(List.length l) : Int) = (↑(List.length l) : Int) ∧ l = l ∧ l = l ∧ Kept.term k = Kept.term k ∧ Kept.vote k = Kept.vote k ∧ Snap.index (Kept.snap k) = Snap.index (Kept.snap k) ∧ Snap.term (Kept.snap k) = Snap.term (Kept.snap k) ∧ Config.voters (Snap.config (Kept.snap k)) = Config.voters (Snap.config (Kept.snap k)) ∧ Config.learners (Snap.config (Kept.snap k)) = Config.learners (Snap.config (Kept.snap k)) ∧ Snap.data (Kept.snap k) = Snap.data (Kept.snap k) ∧ Kept.entries k = Kept.entries k ∧ True) (by kernel_rfl) ?_
      · by_cases h : i = j
        · subst h; exact h2
        · exact h0 i (by omega)
      · simp [wrapN (i := j) (by omega)]
    · exact (firstF_miss fun i hi => h0 i (by omega)).symm
end Go.Proofs.Yteiojclemodhaaa
