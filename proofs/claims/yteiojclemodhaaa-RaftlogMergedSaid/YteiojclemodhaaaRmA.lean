/- How the reference lays a record in bytes: its number of bytes does not matter, its fault does. No condition. -/
import Derived.Test.YteiojclemodhaaaRlF
namespace Go.Proofs.Yteiojclemodhaaa
open Go.RowKit Go.ChangeShapes Go.WideShapes Go.Deep
set_option linter.unusedVariables false
set_option linter.unusedSimpArgs false
set_option maxRecDepth 100000
def dU64 : Dec Int where
  dec := fun s => match s with | .int .u64 n => some n | _ => none
  can := fun n => .int .u64 n
  Okp := fun n => 0 ≤ n ∧ n ≤ 18446744073709551615
  okp := fun n E w v h => by
    have := h.2
    simp only [Lit.wf, Bool.and_eq_true, decide_eq_true_eq] at this
    exact this
  ok := by
    intro s x h E w v _ hd
    split at h
    · simp only [Option.some.injEq] at h; subst h; exact hd
    · simp at h
/-- the n lowest bytes -/
def lowB : Int → Nat → List Int
  | _, 0 => []
  | v, n + 1 => IntKind.u8.wrap (v.tmod 256) :: lowB (IntKind.u64.wrap (v.tdiv 256)) n
theorem low_fn (v n : Int) (hn4 : n ≤ 1000000) : FnC Try.prog 65 [dU64.can v, dInt.can n] (.own 2) [.dead, .dead, .row 5 [] (.rBytes (lowB v n.toNat))] := by
  refine FnC.g2 dU64 dInt v n (fnB Try.func65 (by decide) rfl) fun hv hn => ?_
  refine FnG.of_vc (fitsT tab_nil fun _ => none) Try.func65 rfl (by decide) rfl 300 (p := True ∧ True ∧ True ∧ LoopG Try.prog (Gl.mk Try.f65 (1 : Nat) (List.length D2) (SV.own (2 : Nat)) [BE.dead, BE.dead, BE.row (5 : TypeId) [] (RL.rBytes (lowB v (Int.toNat n)))]) (fun (x : Nat) (x_1 : St) => False) (codeAt (bodyOf Try.f65) [(1 : Nat), (1 : Nat), (0 : Nat), (1 : Nat), (0 : Nat), (0 : Nat)]) [KI.blk (0 : Nat), KI.code (codeAt (bodyOf Try.f65) [(1 : Nat), (1 : Nat), (1 : Nat)])] (St.mk [((6 : Nat), SV.int IntKind.i64 (0 : Int)), ((5 : Nat), SV.nil), ((4 : Nat), SV.nil), ((0 : Nat), SV.int IntKind.u64 v), ((1 : Nat), SV.int IntKind.i64 n)] (21 : Nat) [((0 : Nat), BE.dead), ((1 : Nat), BE.dead)] (5 : Nat))) (by kernel_rfl) ?_
  simp only [imp_self, implies_true, true_and, and_true, pickB_f, pickB_t]
  have hvw : (Lit.int .u64 v).wf = true := by simp only [Lit.wf, Bool.and_eq_true, decide_eq_true_eq]; exact hv
  refine LoopG.head (fitsT tab_nil fun _ => none) 0 rfl (A := Nat × Int × List Int) (fun x => x.1 ≤ n.toNat ∧ x.2.2 ++ lowB x.2.1 (n.toNat - x.1) = lowB v n.toNat ∧ x.2.2.length = x.1 ∧ (Lit.int .u64 x.2.1).wf = true) (fun x => [(6, .int .i64 x.1), (5, .own 2), (0, .int .u64 x.2.1)]) (fun x => [(2, .row 5 [] (.rBytes x.2.2))]) (fun x => n.toNat - x.1) (0, v, []) ⟨Nat.zero_le _, by simp, rfl, hvw⟩ /-0-/ (p0 := (0 : Int) = (↑(0 : Nat) : Int) ∧ v = v ∧ n = n ∧ eqNil Int ∧ True) (by kernel_rfl) ?_ 300 (p := fun x => True ∧ True ∧ (decide ((↑(Prod.fst x) : Int) < n) = true → ((256 : Int) ≠ (0 : Int) ∧ Lit.wf (Lit.int IntKind.u64 (Int.tmod (Prod.fst (Prod.snd x)) (256 : Int))) = true ∧ (List.length (Prod.snd (Prod.snd x)) + List.length [IntKind.wrap IntKind.u8 (Int.tmod (Prod.fst (Prod.snd x)) (256 : Int))]) * (1024 : Nat) ≤ (140737488355328 : Nat) ∧ True) ∧ ((256 : Int) ≠ (0 : Int) ∧ True) ∧ True ∧ Back (Gl.mk Try.f65 (1 : Nat) (List.length D2) (SV.own (2 : Nat)) [BE.dead, BE.dead, BE.row (5 : TypeId) [] (RL.rBytes (lowB v (Int.toNat n)))]) (fun (x : Nat × Int × List Int) => Prod.fst x ≤ Int.toNat n ∧ Prod.snd (Prod.snd x) ++ lowB (Prod.fst (Prod.snd x)) (Int.toNat n - Prod.fst x) = lowB v (Int.toNat n) ∧ List.length (Prod.snd (Prod.snd x)) = Prod.fst x ∧ Lit.wf (Lit.int IntKind.u64 (Prod.fst (Prod.snd x))) = true) (fun (x : Nat × Int × List Int) => headSt (codeAt (bodyOf Try.f65) [(1 : Nat), (1 : Nat), (0 : Nat), (1 : Nat), (0 : Nat), (0 : Nat)]) (St.mk [((6 : Nat), SV.int IntKind.i64 (0 : Int)), ((5 : Nat), SV.nil), ((4 : Nat), SV.nil), ((0 : Nat), SV.int IntKind.u64 v), ((1 : Nat), SV.int IntKind.i64 n)] (21 : Nat) [((0 : Nat), BE.dead), ((1 : Nat), BE.dead)] (5 : Nat)) [((6 : Nat), SV.int IntKind.i64 (↑(Prod.fst x) : Int)), ((5 : Nat), SV.own (2 : Nat)), ((0 : Nat), SV.int IntKind.u64 (Prod.fst (Prod.snd x)))] [((2 : Nat), BE.row (5 : TypeId) [] (RL.rBytes (Prod.snd (Prod.snd x))))]) (fun (x : Nat × Int × List Int) => Int.toNat n - Prod.fst x) x (St.mk [((6 : Nat), SV.int IntKind.i64 (IntKind.wrap IntKind.i64 ((↑(Prod.fst x) : Int) + (1 : Int)))), ((11 : Nat), SV.int IntKind.i64 (IntKind.wrap IntKind.i64 ((↑(Prod.fst x) : Int) + (1 : Int)))), ((10 : Nat), SV.int IntKind.i64 (↑(Prod.fst x) : Int)), ((0 : Nat), SV.int IntKind.u64 (IntKind.wrap IntKind.u64 (Int.tdiv (Prod.fst (Prod.snd x)) (256 : Int)))), ((19 : Nat), SV.int IntKind.u64 (IntKind.wrap IntKind.u64 (Int.tdiv (Prod.fst (Prod.snd x)) (256 : Int)))), ((18 : Nat), SV.int IntKind.u64 (Prod.fst (Prod.snd x))), ((5 : Nat), SV.own (13 : Nat)), ((17 : Nat), SV.own (13 : Nat)), ((16 : Nat), SV.own (12 : Nat)), ((15 : Nat), SV.int IntKind.u8 (IntKind.wrap IntKind.u8 (Int.tmod (Prod.fst (Prod.snd x)) (256 : Int)))), ((14 : Nat), SV.int IntKind.u64 (Int.tmod (Prod.fst (Prod.snd x)) (256 : Int))), ((13 : Nat), SV.int IntKind.u64 (Prod.fst (Prod.snd x))), ((12 : Nat), SV.own (2 : Nat)), ((9 : Nat), SV.bool (decide ((↑(Prod.fst x) : Int) < n))), ((8 : Nat), SV.int IntKind.i64 n), ((7 : Nat), SV.int IntKind.i64 (↑(Prod.fst x) : Int)), ((6 : Nat), SV.int IntKind.i64 (↑(Prod.fst x) : Int)), ((5 : Nat), SV.own (2 : Nat)), ((0 : Nat), SV.int IntKind.u64 (Prod.fst (Prod.snd x))), ((4 : Nat), SV.nil), ((1 : Nat), SV.int IntKind.i64 n)] (21 : Nat) [((2 : Nat), BE.dead), ((13 : Nat), BE.row (5 : Nat) [] (RL.rBytes (Prod.snd (Prod.snd x) ++ [IntKind.wrap IntKind.u8 (Int.tmod (Prod.fst (Prod.snd x)) (256 : Int))]))), ((12 : Nat), BE.row (5 : Nat) [] (RL.rBytes [IntKind.wrap IntKind.u8 (Int.tmod (Prod.fst (Prod.snd x)) (256 : Int))])), ((2 : Nat), BE.row (5 : Nat) [] (RL.rBytes (Prod.snd (Prod.snd x)))), ((0 : Nat), BE.dead), ((1 : Nat), BE.dead)] (21 : Nat))) ∧ (decide ((↑(Prod.fst x) : Int) < n) = false → True ∧ Prod.snd (Prod.snd x) = lowB v (Int.toNat n) ∧ True)) (by intro x; kernel_rfl) ?_
  · simp
  · rintro ⟨j, u, acc⟩ ⟨hj, ha, hl, hw⟩
    dsimp only at hj ha hl hw
    have hnn := hn.2
    simp only [imp_self, implies_true, true_and, and_true, decide_eq_true_eq, decide_eq_false_iff_not]
    have hu : 0 ≤ u ∧ u ≤ 18446744073709551615 := by simp only [Lit.wf, Bool.and_eq_true, decide_eq_true_eq] at hw; exact hw
    have hm : 0 ≤ u.tmod 256 ∧ u.tmod 256 ≤ 255 := by
      rw [Int.tmod_eq_emod_of_nonneg hu.1]; omega
    refine ⟨fun h1 => ⟨⟨by decide, ?_, ?_⟩, by decide, ?_⟩, fun h1 => ?_⟩
    · simp only [Lit.wf, Bool.and_eq_true, decide_eq_true_eq]
      show (0 : Int) ≤ _ ∧ _ ≤ (18446744073709551615 : Int); omega
    · simp only [List.length_cons, List.length_nil]; omega
    · refine Back.mk (j + 1, IntKind.u64.wrap (u.tdiv 256), acc ++ [IntKind.u8.wrap (u.tmod 256)]) ⟨?_, ?_, ?_, wf_wrap _ _⟩ ?_ /-0-/ (p0 := IntKind.wrap IntKind.i64 ((↑j : Int) + (1 : Int)) = (↑(j + (1 : Nat)) : Int) ∧ IntKind.wrap IntKind.u64 (Int.tdiv u (256 : Int)) = IntKind.wrap IntKind.u64 (Int.tdiv u (256 : Int)) ∧ n = n ∧ acc ++ [IntKind.wrap IntKind.u8 (Int.tmod u (256 : Int))] = acc ++ [IntKind.wrap IntKind.u8 (Int.tmod u (256 : Int))] ∧ True) (by kernel_rfl) ?_
      · show j + 1 ≤ _; omega
      · show acc ++ [_] ++ lowB _ (n.toNat - (j + 1)) = _
        rw [← ha, show n.toNat - j = (n.toNat - (j + 1)) + 1 by omega, lowB, List.append_assoc]; rfl
      · simp [hl]
      · show _ - (j + 1) < _ - j; omega
      · simp [wrapN (i := j) (by omega)]
    · rw [← ha, show n.toNat - j = 0 by omega]; simp [lowB]
theorem lowB_len : ∀ (n : Nat) (v : Int), (lowB v n).length = n
  | 0, _ => rfl
  | n + 1, v => by simp [lowB, lowB_len n]
def eLow : Ent := ent2 65 dU64 dInt fun v n => ([n ≤ 1000000], .own 2, [.dead, .dead, .row 5 [] (.rBytes (lowB v n.toNat))])
theorem eLow_ok : EntOk Try.prog eLow := ent2_ok (low_fn 0 0 (by decide)).1 fun v n h => low_fn v n (h _ (by simp))
/-- may a number not be? -/
def badN (n : Int) : Bool := decide (n < 0) || decide (n > 1000000000)
def numB (n : Int) : List Int := if badN n then [] else lowB (IntKind.u64.wrap n) 4
theorem number_fn (n : Int) : FnC Try.prog 62 [dInt.can n] (.tup [.own 2, .bool (!badN n)]) [.dead, .dead, .row 5 [] (.rBytes (numB n))] := by
  refine FnG.of_vc (fitsT (tab_cons eLow_ok tab_nil) fun _ => none) Try.func62 rfl (by decide) rfl 300 (p := True ∧ (((!decide (n < (0 : Int))) = true → (!decide (n < (0 : Int))) = true) ∧ (decide (n < (0 : Int)) = false → (!decide (n < (0 : Int))) = true) ∧ True) ∧ True ∧ (pickB (decide (n < (0 : Int))) true (decide (n > (1000000000 : Int))) = true → True ∧ false = !badN n ∧ numB n = [] ∧ True) ∧ (pickB (decide (n < (0 : Int))) true (decide (n > (1000000000 : Int))) = false → ((4 : Int) ≤ (1000000 : Int) ∧ True) ∧ true = !badN n ∧ lowB (IntKind.wrap IntKind.u64 n) (Int.toNat (4 : Int)) = numB n ∧ True)) (by kernel_rfl) ?_
  simp only [imp_self, implies_true, true_and, and_true, pickB_f, pickB_t]
  refine ⟨by simp, fun h => ?_, fun h => ?_⟩
  · have : badN n = true := h
    simp [numB, this]
  · have : badN n = false := h
    simp [numB, this]
def eNumber : Ent := ent1 62 dInt fun n => ([], .tup [.own 2, .bool (!badN n)], [.dead, .dead, .row 5 [] (.rBytes (numB n))])
theorem eNumber_ok : EntOk Try.prog eNumber := ent1_ok (number_fn 0).1 fun n _ => number_fn n
theorem numB_len (n : Int) : (numB n).length ≤ 4 := by unfold numB; split <;> simp [lowB_len]
def badT (s : ByteArray) : Bool := decide ((s.size : Int) > 65536)
def textB (s : ByteArray) : List Int := if badT s then [] else lowB (IntKind.u64.wrap s.size) 4 ++ bytesOf s
theorem text_fn (s : ByteArray) : FnC Try.prog 64 [dStr.can s] (.tup [.own 2, .bool (!badT s)]) [.dead, .dead, .row 5 [] (.rBytes (textB s))] := by
  refine FnG.of_vc (fitsT (tab_cons eLow_ok tab_nil) fun _ => none) Try.func64 rfl (by decide) rfl 300 (p := True ∧ True ∧ True ∧ (decide ((↑(ByteArray.size s) : Int) > (65536 : Int)) = true → True ∧ false = !badT s ∧ textB s = [] ∧ True) ∧ (decide ((↑(ByteArray.size s) : Int) > (65536 : Int)) = false → ((4 : Int) ≤ (1000000 : Int) ∧ True) ∧ (List.length (lowB (IntKind.wrap IntKind.u64 (↑(ByteArray.size s) : Int)) (Int.toNat (4 : Int))) + ByteArray.size s ≤ (140737488355328 : Nat) ∧ True) ∧ True ∧ true = !badT s ∧ lowB (IntKind.wrap IntKind.u64 (↑(ByteArray.size s) : Int)) (Int.toNat (4 : Int)) ++ bytesOf s = textB s ∧ True)) (by kernel_rfl) ?_
  simp only [imp_self, implies_true, true_and, and_true, pickB_f, pickB_t]
  refine ⟨fun h => ?_, fun h => ?_⟩
  · have : badT s = true := h
    simp [textB, this]
  · have h2 : badT s = false := h
    have h3 : (s.size : Int) ≤ 65536 := by simpa [badT] using h2
    refine ⟨by decide, by rw [lowB_len]; omega, by rw [h2]; rfl, ?_⟩
    simp [textB, h2]
def eText : Ent := ent1 64 dStr fun s => ([], .tup [.own 2, .bool (!badT s)], [.dead, .dead, .row 5 [] (.rBytes (textB s))])
theorem eText_ok : EntOk Try.prog eText := ent1_ok (text_fn default).1 fun s _ => text_fn s
theorem textB_len (s : ByteArray) : (textB s).length ≤ 65540 := by
  unfold textB
  split
  · simp
  · rename_i h
    have : (s.size : Int) ≤ 65536 := by simpa [badT] using h
    simp [lowB_len, bytesOf_len]; omega
/-- what has been laid: bytes, and the first fault -/
structure La where
  b : List Int
  e : Int
def laMi (l : La) : List BE := [.dead, .dead, .cells 86 [.own 3, .int .i64 l.e], .row 5 [0] (.rBytes l.b)]
def laMo (l : La) : List BE := [.dead, .dead, .cells 86 [.own 4, .int .i64 l.e], .dead, .row 5 [0] (.rBytes l.b)]
def mLa : Mem La where
  mi := laMi
  dec := fun m => match m with
    | [.dead, .dead, .cells 86 [.own 3, .int .i64 e], .row 5 [0] (.rBytes b)] => some ⟨b, e⟩
    | _ => none
  ok := by
    intro m x h
    split at h
    · simp only [Option.some.injEq] at h; subst h; rfl
    · simp at h
def vrLa : List (Nat × TypeId × RL) := [(0, 5, .rBytes [])]
def tabM1 : List Ent := [eNumber, eText]
theorem tabM1_ok : ∀ e ∈ tabM1, EntOk Try.prog e := tab_cons eNumber_ok (tab_cons eText_ok tab_nil)
def laNum (l : La) (n : Int) : La := ⟨l.b ++ numB n, if badN n && l.e == 0 then 1 else l.e⟩
def laText (l : La) (s : ByteArray) : La := ⟨l.b ++ textB s, if badT s && l.e == 0 then 2 else l.e⟩
theorem laNum_fn (l : La) (n : Int) (hl : l.b.length ≤ 1000000000) : FnG Try.prog 59 1 (laMi l) [.ptr 2 0, dInt.can n] (.tup []) (laMo (laNum l n)) := by
  refine FnG.of_vc (fitsT tabM1_ok fun _ => none) Try.func59 rfl (by decide) rfl 300 (p := True ∧ (((!!badN n) = true → (!!badN n) = true) ∧ ((!!badN n) = true → (!!badN n) = true) ∧ ((!!badN n) = true → (!!badN n) = true) ∧ ((!!badN n) = true → (!!badN n) = true) ∧ ((!!badN n) = true → (!!badN n) = true) ∧ True) ∧ True ∧ ((List.length (La.b l) + List.length (numB n)) * (1024 : Nat) ≤ (140737488355328 : Nat) ∧ True) ∧ pickI (pickB (!!badN n) (La.e l == (0 : Int)) false) (1 : Int) (La.e l) = La.e (laNum l n) ∧ La.b l ++ numB n = La.b (laNum l n) ∧ True) (by kernel_rfl) ?_
  simp only [imp_self, implies_true, true_and, and_true, pickB_f, pickB_t]
  have := numB_len n
  refine ⟨by omega, ?_, rfl⟩
  simp only [laNum, Bool.not_not]
  cases badN n && l.e == 0 <;> rfl
theorem laText_fn (l : La) (x : ByteArray) (hl : l.b.length ≤ 1000000000) : FnG Try.prog 61 1 (laMi l) [.ptr 2 0, dStr.can x] (.tup []) (laMo (laText l x)) := by
  refine FnG.of_vc (fitsT tabM1_ok fun _ => none) Try.func61 rfl (by decide) rfl 300 (p := True ∧ (((!!badT x) = true → (!!badT x) = true) ∧ ((!!badT x) = true → (!!badT x) = true) ∧ ((!!badT x) = true → (!!badT x) = true) ∧ ((!!badT x) = true → (!!badT x) = true) ∧ ((!!badT x) = true → (!!badT x) = true) ∧ True) ∧ True ∧ ((List.length (La.b l) + List.length (textB x)) * (1024 : Nat) ≤ (140737488355328 : Nat) ∧ True) ∧ pickI (pickB (!!badT x) (La.e l == (0 : Int)) false) (2 : Int) (La.e l) = La.e (laText l x) ∧ La.b l ++ textB x = La.b (laText l x) ∧ True) (by kernel_rfl) ?_
  simp only [imp_self, implies_true, true_and, and_true, pickB_f, pickB_t]
  have := textB_len x
  refine ⟨by omega, ?_, rfl⟩
  simp only [laText, Bool.not_not]
  cases badT x && l.e == 0 <;> rfl
def eLaNum : Ent := entM1 59 mLa dInt vrLa [0, 0] fun l n => ([l.b.length ≤ 1000000000], .tup [], laMo (laNum l n))
theorem eLaNum_ok : EntOk Try.prog eLaNum := entM1_ok (laNum_fn ⟨[], 0⟩ 0 (by decide)).1 fun l n h => laNum_fn l n (h _ (by simp))
def eLaText : Ent := entM1 61 mLa dStr vrLa [0, 0] fun l n => ([l.b.length ≤ 1000000000], .tup [], laMo (laText l n))
theorem eLaText_ok : EntOk Try.prog eLaText := entM1_ok (laText_fn ⟨[], 0⟩ default (by decide)).1 fun l n h => laText_fn l n (h _ (by simp))
def laMany (l : La) (n : Int) : La × Bool := if l.e = 0 then (if n > 4096 then (⟨l.b, 2⟩, false) else (laNum l n, true)) else (l, false)
def tabM2 : List Ent := [eLaNum, eLaText]
theorem tabM2_ok : ∀ e ∈ tabM2, EntOk Try.prog e := tab_cons eLaNum_ok (tab_cons eLaText_ok tab_nil)
theorem laMany_fn (l : La) (n : Int) (hl : l.b.length ≤ 1000000000) : FnG Try.prog 66 1 (laMi l) [.ptr 2 0, dInt.can n] (.bool (laMany l n).2) (laMo (laMany l n).1) := by
  refine FnG.of_vc (fitsT tabM2_ok fun _ => none) Try.func66 rfl (by decide) rfl 300 (p := True ∧ True ∧ True ∧ ((La.e l != (0 : Int)) = true → True ∧ false = Prod.snd (laMany l n) ∧ La.e l = La.e (Prod.fst (laMany l n)) ∧ La.b l = La.b (Prod.fst (laMany l n)) ∧ True) ∧ ((La.e l != (0 : Int)) = false → True ∧ True ∧ (decide (n > (4096 : Int)) = true → True ∧ True ∧ false = Prod.snd (laMany l n) ∧ (2 : Int) = La.e (Prod.fst (laMany l n)) ∧ La.b l = La.b (Prod.fst (laMany l n)) ∧ True) ∧ (decide (n > (4096 : Int)) = false → (List.length (La.b l) ≤ (1000000000 : Nat) ∧ True) ∧ True ∧ true = Prod.snd (laMany l n) ∧ La.e (laNum l n) = La.e (Prod.fst (laMany l n)) ∧ La.b (laNum l n) = La.b (Prod.fst (laMany l n)) ∧ True))) (by kernel_rfl) ?_
  simp only [imp_self, implies_true, true_and, and_true, pickB_f, pickB_t]
  refine ⟨fun h => ?_, fun h => ⟨fun h2 => ?_, fun h2 => ⟨hl, ?_⟩⟩⟩
  · have : ¬ l.e = 0 := by simpa using h
    simp [laMany, this]
  · have h3 : l.e = 0 := by simpa using h
    have h4 : n > 4096 := by simpa using h2
    simp only [laMany, if_pos h3, if_pos h4, and_self]
  · have h3 : l.e = 0 := by simpa using h
    have h4 : ¬ n > 4096 := by simpa using h2
    simp only [laMany, if_pos h3, if_neg h4, and_self]
def eLaMany : Ent := entM1 66 mLa dInt vrLa [0, 0] fun l n => ([l.b.length ≤ 1000000000], .bool (laMany l n).2, laMo (laMany l n).1)
theorem eLaMany_ok : EntOk Try.prog eLaMany := entM1_ok (laMany_fn ⟨[], 0⟩ 0 (by decide)).1 fun l n h => laMany_fn l n (h _ (by simp))
def laSet (l : La) (x : List Int) : La := if (laMany l x.length).2 then x.foldl laNum (laMany l x.length).1 else (laMany l x.length).1
def tabM3 : List Ent := [eLaNum, eLaMany]
theorem tabM3_ok : ∀ e ∈ tabM3, EntOk Try.prog e := tab_cons eLaNum_ok (tab_cons eLaMany_ok tab_nil)
theorem laMany_le {l : La} {n : Nat} (h : (laMany l n).2 = true) : n ≤ 4096 := by
  unfold laMany at h
  split at h
  · split at h
    · cases h
    · omega
  · cases h
theorem laMany_len (l : La) (n : Int) : (laMany l n).1.b.length ≤ l.b.length + 4 := by
  have := numB_len n
  unfold laMany
  split
  · split
    · show l.b.length ≤ _; omega
    · show (l.b ++ numB n).length ≤ _; rw [List.length_append]; omega
  · show l.b.length ≤ _; omega
theorem foldNum_len : ∀ (x : List Int) (a : La), (x.foldl laNum a).b.length ≤ a.b.length + 4 * x.length
  | [], a => by simp
  | n :: x, a => by
    have := foldNum_len x (laNum a n)
    have h2 : (laNum a n).b.length ≤ a.b.length + 4 := by show (a.b ++ numB n).length ≤ _; rw [List.length_append]; have := numB_len n; omega
    rw [List.foldl_cons, List.length_cons]; omega
theorem laSet_fn (l : La) (xs : List Int) (hl : l.b.length ≤ 500000000) : FnG Try.prog 63 1 (laMi l) [.ptr 2 0, dInts.can xs] (.tup []) (laMo (laSet l xs)) := by
  refine FnG.gM1 dInts xs (fnB Try.func63 (by decide) rfl) fun hx => ?_
  refine FnG.of_vc (fitsT tabM3_ok fun _ => none) Try.func63 rfl (by decide) rfl 300 (p := (List.length (La.b l) ≤ (1000000000 : Nat) ∧ True) ∧ True ∧ ((!Prod.snd (laMany l (↑(List.length xs) : Int))) = true → La.e (Prod.fst (laMany l (↑(List.length xs) : Int))) = La.e (laSet l xs) ∧ La.b (Prod.fst (laMany l (↑(List.length xs) : Int))) = La.b (laSet l xs) ∧ True) ∧ ((!Prod.snd (laMany l (↑(List.length xs) : Int))) = false → True ∧ LoopG Try.prog (Gl.mk Try.f63 (1 : Nat) (List.length (laMi l)) (SV.tup []) (laMo (laSet l xs))) (fun (x : Nat) (x_1 : St) => False) (codeAt (bodyOf Try.f63) [(1 : Nat), (1 : Nat), (0 : Nat), (0 : Nat)]) [KI.blk (0 : Nat)] (St.mk [((4 : Nat), SV.int IntKind.i64 (0 : Int)), ((9 : Nat), SV.bool !Prod.snd (laMany l (↑(List.length xs) : Int))), ((8 : Nat), SV.bool (Prod.snd (laMany l (↑(List.length xs) : Int)))), ((7 : Nat), SV.int IntKind.i64 (↑(List.length xs) : Int)), ((6 : Nat), SV.sl [(0 : Nat)] (RL.rInts xs)), ((5 : Nat), SV.ptr (2 : Nat) (0 : Nat)), ((0 : Nat), SV.ptr (2 : Nat) (0 : Nat)), ((1 : Nat), SV.sl [(0 : Nat)] (RL.rInts xs))] (22 : Nat) [((2 : Nat), BE.cells (86 : Nat) [SV.own (15 : Nat), SV.int IntKind.i64 (La.e (Prod.fst (laMany l (↑(List.length xs) : Int))))]), ((3 : Nat), BE.dead), ((15 : Nat), BE.row (5 : Nat) [(0 : Nat)] (RL.rBytes (La.b (Prod.fst (laMany l (↑(List.length xs) : Int)))))), ((16 : Nat), BE.dead), ((17 : Nat), BE.dead), ((18 : Nat), BE.dead), ((19 : Nat), BE.dead), ((20 : Nat), BE.dead), ((21 : Nat), BE.dead), ((22 : Nat), BE.dead), ((23 : Nat), BE.dead), ((24 : Nat), BE.dead), ((25 : Nat), BE.dead), ((26 : Nat), BE.dead), ((27 : Nat), BE.dead), ((28 : Nat), BE.dead), ((29 : Nat), BE.dead), ((30 : Nat), BE.dead), ((0 : Nat), BE.dead), ((1 : Nat), BE.dead), ((2 : Nat), BE.cells (86 : Nat) [SV.own (3 : Nat), SV.int IntKind.i64 (La.e l)]), ((3 : Nat), BE.row (5 : Nat) [(0 : Nat)] (RL.rBytes (La.b l)))] (33 : Nat)))) (by kernel_rfl) ?_
  simp only [imp_self, implies_true, true_and, and_true, pickB_f, pickB_t]
  have hx4 := hx.1
  refine ⟨by omega, fun h => ?_, fun h => ?_⟩
  · have h1 : (laMany l xs.length).2 = false := by simpa using h
    simp only [laSet, h1, Bool.false_eq_true, ↓reduceIte, and_self]
  have h1 : (laMany l xs.length).2 = true := by simpa using h
  have hxs : xs.length ≤ 4096 := laMany_le h1
  have hm := laMany_len l xs.length
  have e1 : laSet l xs = xs.foldl laNum (laMany l xs.length).1 := by simp only [laSet, h1, ↓reduceIte]
  refine LoopG.head (fitsT tabM3_ok fun _ => none) 0 rfl (A := Nat × La) (fun a => a.1 ≤ xs.length ∧ (xs.drop a.1).foldl laNum a.2 = laSet l xs ∧ a.2.b.length ≤ l.b.length + 4 + 4 * a.1) (fun a => [(4, .int .i64 a.1)]) (fun a => [(2, .cells 86 [.own 15, .int .i64 a.2.e]), (15, .row 5 [0] (.rBytes a.2.b))]) (fun a => xs.length - a.1) (0, (laMany l xs.length).1) ⟨Nat.zero_le _, by rw [e1]; rfl, by omega⟩ /-0-/ (p0 := (0 : Int) = (↑(0 : Nat) : Int) ∧ (!Prod.snd (laMany l (↑(List.length xs) : Int))) = !Prod.snd (laMany l (↑(List.length xs) : Int)) ∧ Prod.snd (laMany l (↑(List.length xs) : Int)) = Prod.snd (laMany l (↑(List.length xs) : Int)) ∧ (↑(List.length xs) : Int) = (↑(List.length xs) : Int) ∧ xs = xs ∧ xs = xs ∧ La.e (Prod.fst (laMany l (↑(List.length xs) : Int))) = La.e (Prod.fst (laMany l (↑(List.length xs) : Int))) ∧ La.b (Prod.fst (laMany l (↑(List.length xs) : Int))) = La.b (Prod.fst (laMany l (↑(List.length xs) : Int))) ∧ True) (by kernel_rfl) ?_ 300 (p := fun x => True ∧ True ∧ (decide ((↑(Prod.fst x) : Int) < (↑(List.length xs) : Int)) = true → ((0 : Int) ≤ (↑(Prod.fst x) : Int) ∧ (↑(Prod.fst x) : Int) < (↑(List.length xs) : Int) ∧ List.length (La.b (Prod.snd x)) ≤ (1000000000 : Nat) ∧ True) ∧ True ∧ Back (Gl.mk Try.f63 (1 : Nat) (List.length (laMi l)) (SV.tup []) (laMo (laSet l xs))) (fun (a : Nat × La) => Prod.fst a ≤ List.length xs ∧ List.foldl laNum (Prod.snd a) (List.drop (Prod.fst a) xs) = laSet l xs ∧ List.length (La.b (Prod.snd a)) ≤ List.length (La.b l) + (4 : Nat) + (4 : Nat) * Prod.fst a) (fun (x : Nat × La) => headSt (codeAt (bodyOf Try.f63) [(1 : Nat), (1 : Nat), (0 : Nat), (0 : Nat)]) (St.mk [((4 : Nat), SV.int IntKind.i64 (0 : Int)), ((9 : Nat), SV.bool !Prod.snd (laMany l (↑(List.length xs) : Int))), ((8 : Nat), SV.bool (Prod.snd (laMany l (↑(List.length xs) : Int)))), ((7 : Nat), SV.int IntKind.i64 (↑(List.length xs) : Int)), ((6 : Nat), SV.sl [(0 : Nat)] (RL.rInts xs)), ((5 : Nat), SV.ptr (2 : Nat) (0 : Nat)), ((0 : Nat), SV.ptr (2 : Nat) (0 : Nat)), ((1 : Nat), SV.sl [(0 : Nat)] (RL.rInts xs))] (22 : Nat) [((2 : Nat), BE.cells (86 : Nat) [SV.own (15 : Nat), SV.int IntKind.i64 (La.e (Prod.fst (laMany l (↑(List.length xs) : Int))))]), ((3 : Nat), BE.dead), ((15 : Nat), BE.row (5 : Nat) [(0 : Nat)] (RL.rBytes (La.b (Prod.fst (laMany l (↑(List.length xs) : Int)))))), ((16 : Nat), BE.dead), ((17 : Nat), BE.dead), ((18 : Nat), BE.dead), ((19 : Nat), BE.dead), ((20 : Nat), BE.dead), ((21 : Nat), BE.dead), ((22 : Nat), BE.dead), ((23 : Nat), BE.dead), ((24 : Nat), BE.dead), ((25 : Nat), BE.dead), ((26 : Nat), BE.dead), ((27 : Nat), BE.dead), ((28 : Nat), BE.dead), ((29 : Nat), BE.dead), ((30 : Nat), BE.dead), ((0 : Nat), BE.dead), ((1 : Nat), BE.dead), ((2 : Nat), BE.cells (86 : Nat) [SV.own (3 : Nat), SV.int IntKind.i64 (La.e l)]), ((3 : Nat), BE.row (5 : Nat) [(0 : Nat)] (RL.rBytes (La.b l)))] (33 : Nat)) [((4 : Nat), SV.int IntKind.i64 (↑(Prod.fst x) : Int))] [((2 : Nat), BE.cells (86 : TypeId) [SV.own (15 : Nat), SV.int IntKind.i64 (La.e (Prod.snd x))]), ((15 : Nat), BE.row (5 : TypeId) [(0 : Nat)] (RL.rBytes (La.b (Prod.snd x))))]) (fun (a : Nat × La) => List.length xs - Prod.fst a) x (St.mk [((4 : Nat), SV.int IntKind.i64 (IntKind.wrap IntKind.i64 ((↑(Prod.fst x) : Int) + (1 : Int)))), ((15 : Nat), SV.int IntKind.i64 (IntKind.wrap IntKind.i64 ((↑(Prod.fst x) : Int) + (1 : Int)))), ((14 : Nat), SV.int IntKind.i64 (↑(Prod.fst x) : Int)), ((21 : Nat), SV.tup []), ((20 : Nat), SV.int IntKind.i64 (List.getD xs (Prod.fst x) (0 : Int))), ((19 : Nat), SV.el [(0 : Nat)] (RL.rInts xs) (Prod.fst x) (0 : Nat)), ((18 : Nat), SV.int IntKind.i64 (↑(Prod.fst x) : Int)), ((17 : Nat), SV.sl [(0 : Nat)] (RL.rInts xs)), ((16 : Nat), SV.ptr (2 : Nat) (0 : Nat)), ((13 : Nat), SV.bool (decide ((↑(Prod.fst x) : Int) < (↑(List.length xs) : Int)))), ((12 : Nat), SV.int IntKind.i64 (↑(List.length xs) : Int)), ((11 : Nat), SV.sl [(0 : Nat)] (RL.rInts xs)), ((10 : Nat), SV.int IntKind.i64 (↑(Prod.fst x) : Int)), ((4 : Nat), SV.int IntKind.i64 (↑(Prod.fst x) : Int)), ((9 : Nat), SV.bool !Prod.snd (laMany l (↑(List.length xs) : Int))), ((8 : Nat), SV.bool (Prod.snd (laMany l (↑(List.length xs) : Int)))), ((7 : Nat), SV.int IntKind.i64 (↑(List.length xs) : Int)), ((6 : Nat), SV.sl [(0 : Nat)] (RL.rInts xs)), ((5 : Nat), SV.ptr (2 : Nat) (0 : Nat)), ((0 : Nat), SV.ptr (2 : Nat) (0 : Nat)), ((1 : Nat), SV.sl [(0 : Nat)] (RL.rInts xs))] (22 : Nat) [((2 : Nat), BE.cells (86 : Nat) [SV.own (50 : Nat), SV.int IntKind.i64 (La.e (laNum (Prod.snd x) (List.getD xs (Prod.fst x) (0 : Int))))]), ((15 : Nat), BE.dead), ((50 : Nat), BE.row (5 : Nat) [(0 : Nat)] (RL.rBytes (La.b (laNum (Prod.snd x) (List.getD xs (Prod.fst x) (0 : Int)))))), ((51 : Nat), BE.dead), ((52 : Nat), BE.dead), ((53 : Nat), BE.dead), ((54 : Nat), BE.dead), ((55 : Nat), BE.dead), ((56 : Nat), BE.dead), ((57 : Nat), BE.dead), ((58 : Nat), BE.dead), ((59 : Nat), BE.dead), ((60 : Nat), BE.dead), ((61 : Nat), BE.dead), ((62 : Nat), BE.dead), ((63 : Nat), BE.dead), ((64 : Nat), BE.dead), ((65 : Nat), BE.dead), ((2 : Nat), BE.cells (86 : Nat) [SV.own (15 : Nat), SV.int IntKind.i64 (La.e (Prod.snd x))]), ((15 : Nat), BE.row (5 : Nat) [(0 : Nat)] (RL.rBytes (La.b (Prod.snd x)))), ((3 : Nat), BE.dead), ((16 : Nat), BE.dead), ((17 : Nat), BE.dead), ((18 : Nat), BE.dead), ((19 : Nat), BE.dead), ((20 : Nat), BE.dead), ((21 : Nat), BE.dead), ((22 : Nat), BE.dead), ((23 : Nat), BE.dead), ((24 : Nat), BE.dead), ((25 : Nat), BE.dead), ((26 : Nat), BE.dead), ((27 : Nat), BE.dead), ((28 : Nat), BE.dead), ((29 : Nat), BE.dead), ((30 : Nat), BE.dead), ((0 : Nat), BE.dead), ((1 : Nat), BE.dead)] (69 : Nat))) ∧ (decide ((↑(Prod.fst x) : Int) < (↑(List.length xs) : Int)) = false → La.e (Prod.snd x) = La.e (laSet l xs) ∧ La.b (Prod.snd x) = La.b (laSet l xs) ∧ True)) (by intro x; kernel_rfl) ?_
  · simp
  · rintro ⟨j, a⟩ ⟨hj, ha, hl2⟩
    dsimp only at hj ha hl2
    simp only [imp_self, implies_true, true_and, and_true, decide_eq_true_eq, decide_eq_false_iff_not]
    refine ⟨fun h1 => ⟨⟨by omega, h1, by omega⟩, ?_⟩, fun h1 => ?_⟩
    · have hjl : j < xs.length := by omega
      refine Back.mk (j + 1, laNum a (xs.getD j default)) ⟨by show j + 1 ≤ _; omega, ?_, ?_⟩ (by show _ - (j + 1) < _ - j; omega) /-0-/ (p0 := IntKind.wrap IntKind.i64 ((↑j : Int) + (1 : Int)) = (↑(j + (1 : Nat)) : Int) ∧ (!Prod.snd (laMany l (↑(List.length xs) : Int))) = !Prod.snd (laMany l (↑(List.length xs) : Int)) ∧ Prod.snd (laMany l (↑(List.length xs) : Int)) = Prod.snd (laMany l (↑(List.length xs) : Int)) ∧ (↑(List.length xs) : Int) = (↑(List.length xs) : Int) ∧ xs = xs ∧ xs = xs ∧ La.e (laNum a (List.getD xs j (0 : Int))) = La.e (laNum a (List.getD xs j default)) ∧ La.b (laNum a (List.getD xs j (0 : Int))) = La.b (laNum a (List.getD xs j default)) ∧ True) (by kernel_rfl) ?_
      · show (xs.drop (j + 1)).foldl laNum (laNum a (xs.getD j default)) = _
        rw [← ha, List.drop_eq_getElem_cons hjl, List.foldl_cons]
        simp only [List.getD_eq_getElem?_getD, List.getElem?_eq_getElem hjl, Option.getD_some]
      · have := numB_len (xs.getD j default)
        show (a.b ++ numB (xs.getD j default)).length ≤ _
        rw [List.length_append]; omega
      · simp [wrapN (i := j) (by omega)]
    · have : j = xs.length := by omega
      subst this
      rw [← ha]; simp
theorem laSet_len (l : La) (x : List Int) : (laSet l x).b.length ≤ l.b.length + 20000 := by
  have hm := laMany_len l x.length
  unfold laSet
  split
  · rename_i h
    have := laMany_le h
    have := foldNum_len x (laMany l x.length).1
    omega
  · omega
def eLaSet : Ent := entM1 63 mLa dInts vrLa [0, 0] fun l n => ([l.b.length ≤ 500000000], .tup [], laMo (laSet l n))
theorem eLaSet_ok : EntOk Try.prog eLaSet := entM1_ok (laSet_fn ⟨[], 0⟩ [] (by decide)).1 fun l n h => laSet_fn l n (h _ (by simp))
def laConfig (l : La) (c : Config) : La := laSet (laSet l c.voters) c.learners
def tabM4 : List Ent := [eLaSet]
theorem tabM4_ok : ∀ e ∈ tabM4, EntOk Try.prog e := tab_cons eLaSet_ok tab_nil
theorem laConfig_fn (l : La) (c : Config) (hl : l.b.length ≤ 400000000) : FnG Try.prog 60 1 (laMi l) [.ptr 2 0, dConfig.can c] (.tup []) (laMo (laConfig l c)) := by
  refine FnG.of_vc (fitsT tabM4_ok fun _ => none) Try.func60 rfl (by decide) rfl 300 (p := True ∧ (List.length (La.b l) ≤ (500000000 : Nat) ∧ True) ∧ (List.length (La.b (laSet l (Config.voters c))) ≤ (500000000 : Nat) ∧ True) ∧ La.e (laSet (laSet l (Config.voters c)) (Config.learners c)) = La.e (laConfig l c) ∧ La.b (laSet (laSet l (Config.voters c)) (Config.learners c)) = La.b (laConfig l c) ∧ True) (by kernel_rfl) ?_
  simp only [imp_self, implies_true, true_and, and_true, pickB_f, pickB_t]
  have := laSet_len l c.voters
  exact ⟨by omega, by omega, rfl, rfl⟩
def eLaConfig : Ent := entM1 60 mLa dConfig vrLa [0, 0] fun l n => ([l.b.length ≤ 400000000], .tup [], laMo (laConfig l n))
theorem eLaConfig_ok : EntOk Try.prog eLaConfig := entM1_ok (laConfig_fn ⟨[], 0⟩ default (by decide)).1 fun l n h => laConfig_fn l n (h _ (by simp))
def laRecord (l : La) (r : Record) : La :=
  laText (laConfig (laNum (laNum (laNum (laText (laConfig (laNum (laNum (laNum (laNum (laNum (laNum l r.kind) r.term) r.vote) r.entry.index) r.entry.term) r.entry.kind) r.entry.config) r.entry.data) r.index) r.snap.index) r.snap.term) r.snap.config) r.snap.data
def tabM5 : List Ent := [eLaNum, eLaText, eLaConfig]
theorem tabM5_ok : ∀ e ∈ tabM5, EntOk Try.prog e := tab_cons eLaNum_ok (tab_cons eLaText_ok (tab_cons eLaConfig_ok tab_nil))
theorem le_zero {n N : Nat} (h : n + 0 ≤ N) : n ≤ N := h
theorem le_num {l : La} {n : Int} {c N : Nat} (h : l.b.length + (4 + c) ≤ N) : (laNum l n).b.length + c ≤ N := by
  have : (laNum l n).b.length ≤ l.b.length + 4 := by show (l.b ++ numB n).length ≤ _; rw [List.length_append]; have := numB_len n; omega
  omega
theorem le_text {l : La} {n : ByteArray} {c N : Nat} (h : l.b.length + (65540 + c) ≤ N) : (laText l n).b.length + c ≤ N := by
  have : (laText l n).b.length ≤ l.b.length + 65540 := by show (l.b ++ textB n).length ≤ _; rw [List.length_append]; have := textB_len n; omega
  omega
theorem le_config {l : La} {n : Config} {c N : Nat} (h : l.b.length + (40000 + c) ≤ N) : (laConfig l n).b.length + c ≤ N := by
  have := laSet_len l n.voters
  have := laSet_len (laSet l n.voters) n.learners
  show (laSet (laSet l n.voters) n.learners).b.length + c ≤ N
  omega
theorem laRecord_fn (l : La) (r : Record) (hl : l.b.length ≤ 100000000) : FnG Try.prog 54 1 (laMi l) [.ptr 2 0, dRecord.can r] (.tup []) (laMo (laRecord l r)) := by
  refine FnG.of_vc (fitsT tabM5_ok fun _ => none) Try.func54 rfl (by decide) rfl 300 (p := True ∧ (List.length (La.b l) ≤ (1000000000 : Nat) ∧ True) ∧ (List.length (La.b (laNum l (Record.kind r))) ≤ (1000000000 : Nat) ∧ True) ∧ (List.length (La.b (laNum (laNum l (Record.kind r)) (Record.term r))) ≤ (1000000000 : Nat) ∧ True) ∧ (List.length (La.b (laNum (laNum (laNum l (Record.kind r)) (Record.term r)) (Record.vote r))) ≤ (1000000000 : Nat) ∧ True) ∧ (List.length (La.b (laNum (laNum (laNum (laNum l (Record.kind r)) (Record.term r)) (Record.vote r)) (Entry.index (Record.entry r)))) ≤ (1000000000 : Nat) ∧ True) ∧ (List.length (La.b (laNum (laNum (laNum (laNum (laNum l (Record.kind r)) (Record.term r)) (Record.vote r)) (Entry.index (Record.entry r))) (Entry.term (Record.entry r)))) ≤ (1000000000 : Nat) ∧ True) ∧ (List.length (La.b (laNum (laNum (laNum (laNum (laNum (laNum l (Record.kind r)) (Record.term r)) (Record.vote r)) (Entry.index (Record.entry r))) (Entry.term (Record.entry r))) (Entry.kind (Record.entry r)))) ≤ (400000000 : Nat) ∧ True) ∧ (List.length (La.b (laConfig (laNum (laNum (laNum (laNum (laNum (laNum l (Record.kind r)) (Record.term r)) (Record.vote r)) (Entry.index (Record.entry r))) (Entry.term (Record.entry r))) (Entry.kind (Record.entry r))) (Entry.config (Record.entry r)))) ≤ (1000000000 : Nat) ∧ True) ∧ (List.length (La.b (laText (laConfig (laNum (laNum (laNum (laNum (laNum (laNum l (Record.kind r)) (Record.term r)) (Record.vote r)) (Entry.index (Record.entry r))) (Entry.term (Record.entry r))) (Entry.kind (Record.entry r))) (Entry.config (Record.entry r))) (Entry.data (Record.entry r)))) ≤ (1000000000 : Nat) ∧ True) ∧ (List.length (La.b (laNum (laText (laConfig (laNum (laNum (laNum (laNum (laNum (laNum l (Record.kind r)) (Record.term r)) (Record.vote r)) (Entry.index (Record.entry r))) (Entry.term (Record.entry r))) (Entry.kind (Record.entry r))) (Entry.config (Record.entry r))) (Entry.data (Record.entry r))) (Record.index r))) ≤ (1000000000 : Nat) ∧ True) ∧ (List.length (La.b (laNum (laNum (laText (laConfig (laNum (laNum (laNum (laNum (laNum (laNum l (Record.kind r)) (Record.term r)) (Record.vote r)) (Entry.index (Record.entry r))) (Entry.term (Record.entry r))) (Entry.kind (Record.entry r))) (Entry.config (Record.entry r))) (Entry.data (Record.entry r))) (Record.index r)) (Snap.index (Record.snap r)))) ≤ (1000000000 : Nat) ∧ True) ∧ (List.length (La.b (laNum (laNum (laNum (laText (laConfig (laNum (laNum (laNum (laNum (laNum (laNum l (Record.kind r)) (Record.term r)) (Record.vote r)) (Entry.index (Record.entry r))) (Entry.term (Record.entry r))) (Entry.kind (Record.entry r))) (Entry.config (Record.entry r))) (Entry.data (Record.entry r))) (Record.index r)) (Snap.index (Record.snap r))) (Snap.term (Record.snap r)))) ≤ (400000000 : Nat) ∧ True) ∧ (List.length (La.b (laConfig (laNum (laNum (laNum (laText (laConfig (laNum (laNum (laNum (laNum (laNum (laNum l (Record.kind r)) (Record.term r)) (Record.vote r)) (Entry.index (Record.entry r))) (Entry.term (Record.entry r))) (Entry.kind (Record.entry r))) (Entry.config (Record.entry r))) (Entry.data (Record.entry r))) (Record.index r)) (Snap.index (Record.snap r))) (Snap.term (Record.snap r))) (Snap.config (Record.snap r)))) ≤ (1000000000 : Nat) ∧ True) ∧ La.e (laText (laConfig (laNum (laNum (laNum (laText (laConfig (laNum (laNum (laNum (laNum (laNum (laNum l (Record.kind r)) (Record.term r)) (Record.vote r)) (Entry.index (Record.entry r))) (Entry.term (Record.entry r))) (Entry.kind (Record.entry r))) (Entry.config (Record.entry r))) (Entry.data (Record.entry r))) (Record.index r)) (Snap.index (Record.snap r))) (Snap.term (Record.snap r))) (Snap.config (Record.snap r))) (Snap.data (Record.snap r))) = La.e (laRecord l r) ∧ La.b (laText (laConfig (laNum (laNum (laNum (laText (laConfig (laNum (laNum (laNum (laNum (laNum (laNum l (Record.kind r)) (Record.term r)) (Record.vote r)) (Entry.index (Record.entry r))) (Entry.term (Record.entry r))) (Entry.kind (Record.entry r))) (Entry.config (Record.entry r))) (Entry.data (Record.entry r))) (Record.index r)) (Snap.index (Record.snap r))) (Snap.term (Record.snap r))) (Snap.config (Record.snap r))) (Snap.data (Record.snap r))) = La.b (laRecord l r) ∧ True) (by kernel_rfl) ?_
  simp only [imp_self, implies_true, true_and, and_true, pickB_f, pickB_t]
  refine ⟨?_, ?_, ?_, ?_, ?_, ?_, ?_, ?_, ?_, ?_, ?_, ?_, ?_, rfl, rfl⟩ <;>
  · refine le_zero ?_
    repeat (first | refine le_num ?_ | refine le_text ?_ | refine le_config ?_)
    omega
def eLaRecord : Ent := entM1 54 mLa dRecord vrLa [0, 0] fun l n => ([l.b.length ≤ 100000000], .tup [], laMo (laRecord l n))
theorem eLaRecord_ok : EntOk Try.prog eLaRecord := entM1_ok (laRecord_fn ⟨[], 0⟩ default (by decide)).1 fun l n h => laRecord_fn l n (h _ (by simp))
theorem laOut_fn (l : La) : FnG Try.prog 55 1 (laMi l) [.ptr 2 0] (.tup [.any, .int .i64 l.e]) [.dead, .dead, .dead, .dead] := by
  refine FnG.of_vc (fitsT tab_nil fun _ => none) Try.func55 rfl (by decide) rfl 300 (p := True ∧ True ∧ True ∧ ((La.e l != (0 : Int)) = true → True ∧ La.e l = La.e l ∧ True) ∧ ((La.e l != (0 : Int)) = false → True ∧ (0 : Int) = La.e l ∧ True)) (by kernel_rfl) ?_
  simp only [imp_self, implies_true, true_and, and_true, pickB_f, pickB_t]
  intro h
  have : l.e = 0 := by simpa using h
  omega
def eLaOut : Ent := entM0 55 mLa vrLa [0, 0] fun l => ([], .tup [.any, .int .i64 l.e], [.dead, .dead, .dead, .dead])
theorem eLaOut_ok : EntOk Try.prog eLaOut := entM0_ok (laOut_fn ⟨[], 0⟩).1 fun l h => laOut_fn l
def putE (r : Record) : Int := (laRecord ⟨[], 0⟩ r).e
def tabM6 : List Ent := [eLaRecord, eLaOut]
theorem tabM6_ok : ∀ e ∈ tabM6, EntOk Try.prog e := tab_cons eLaRecord_ok (tab_cons eLaOut_ok tab_nil)
theorem put_fn (r : Record) : FnC Try.prog 46 [dRecord.can r] (.tup [.any, .int .i64 (putE r)]) D2 := by
  refine FnG.of_vc (fitsT tabM6_ok fun _ => none) Try.func46 rfl (by decide) rfl 300 (p := True ∧ True ∧ ((0 : Nat) ≤ (100000000 : Nat) ∧ True) ∧ True ∧ La.e (laRecord (La.mk [] (0 : Int)) r) = putE r ∧ True) (by kernel_rfl) ?_
  simp only [imp_self, implies_true, true_and, and_true, pickB_f, pickB_t]
  simp [putE]
def ePut : Ent := ent1 46 dRecord fun r => ([], .tup [.any, .int .i64 (putE r)], D2)
theorem ePut_ok : EntOk Try.prog ePut := ent1_ok (put_fn default).1 fun r _ => put_fn r
end Go.Proofs.Yteiojclemodhaaa
