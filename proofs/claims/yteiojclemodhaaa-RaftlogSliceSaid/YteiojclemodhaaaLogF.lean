/- The law's examples of a log. No condition. -/
import Derived.Test.YteiojclemodhaaaLogE
import Derived.Test.YteiojclemodhaaaRdOwn
namespace Go.Proofs.Yteiojclemodhaaa
open Go.RowKit
set_option linter.unusedVariables false
set_option linter.unusedSimpArgs false
def zs : ByteArray := ⟨#[]⟩
def oneK : Kept := ⟨0, 0, ⟨2, 1, ⟨[], []⟩, zs⟩, [⟨3, 1, 0, ⟨[], []⟩, zs⟩, ⟨4, 2, 0, ⟨[], []⟩, zs⟩]⟩
def KPost (w : World) (k : Kept) (e : Ending) (w' : World) : Prop := ∃ vs : List Value, e = .returned (.agg vs.toArray) ∧ RdL w' (fun b => w.heap.size ≤ b) Kept.ty vs k.enc ∧ Below w.heap.size w w'
set_option maxHeartbeats 1000000 in
theorem one_any (w : World) : Calls Try.prog 37 #[] w (KPost w oneK) := by
  go_enter Try.func37, Try.ntmps37
  go_wp2_with fail
  refine bodyPost_ret (v := .agg #[.int .i64 0, .int .i64 0, .int .i64 2, .int .i64 1, .slice none 0 0, .slice none 0 0, .string ⟨#[]⟩, .slice (some ⟨w.heap.size + 1, 0, none⟩) 2 2]) (by simp [results, Try.results37, go_sem]) rfl ⟨[_, _, _, _, _, _, _, _], rfl, ?_, ((Below.refl _ _).alloc (Nat.le_refl _) _).alloc (by simp) _⟩
  have hs : ∀ (b : Nat), w.heap.size + 1 = b → (fun b => w.heap.size ≤ b) b := fun b h => by show w.heap.size ≤ b; omega
  refine Kept.shuts oneK (a4 := none) (c4 := 0) (a5 := none) (c5 := 0) (a7 := some ⟨w.heap.size + 1, 0, none⟩) (c7 := 2) ⟨by decide, by decide⟩ ⟨by decide, by decide⟩ ⟨by decide, by decide⟩ ⟨by decide, by decide⟩ (.emp (fun _ => rfl) (by simp [maxLen])) (.emp (fun _ => rfl) (by simp [maxLen])) (by decide) ?_
  refine Sl.mk (rows := oneK.entries.map Entry.enc) [.int .i64 3, .int .i64 1, .int .i64 0, .slice none 0 0, .slice none 0 0, .string ⟨#[]⟩, .int .i64 4, .int .i64 2, .int .i64 0, .slice none 0 0, .slice none 0 0, .string ⟨#[]⟩] (by decide) (by decide) (by simp [maxLen]) (by decide) (hs _ rfl) (by simp) rfl (fun m v hm => ?_) (fun i hi => ?_) (fun m => (Blk.newAt _ _ _ _ (by simp)).frozen _)
  · rw [World.cell?_alloc_at _ _ _ _ (by simp)]
    rw [Nat.zero_add]
    simpa using hm
  · have hi2 : i < 2 := hi
    match i, hi2 with
    | 0, _ => exact Entry.shuts ⟨3, 1, 0, ⟨[], []⟩, zs⟩ ⟨by decide, by decide⟩ ⟨by decide, by decide⟩ ⟨by decide, by decide⟩ (.emp (fun _ => rfl) (by simp [maxLen])) (.emp (fun _ => rfl) (by simp [maxLen])) (by decide)
    | 1, _ => exact Entry.shuts ⟨4, 2, 0, ⟨[], []⟩, zs⟩ ⟨by decide, by decide⟩ ⟨by decide, by decide⟩ ⟨by decide, by decide⟩ (.emp (fun _ => rfl) (by simp [maxLen])) (.emp (fun _ => rfl) (by simp [maxLen])) (by decide)
theorem one_on : onB oneK = true := by
  refine onB_iff.2 ⟨by decide, by decide, fun i hi => ?_⟩
  have hi2 : i < 2 := hi
  match i, hi2 with
  | 0, _ => exact ⟨by decide, by decide⟩
  | 1, _ => exact ⟨by decide, by decide⟩
theorem one_last : lastP oneK = (4, 2) := by rw [lastP_eq, one_on]; rfl
theorem one_term4 : termP oneK 4 = (2, 0) := termP_at one_on (j := 1) (by decide)
theorem one_term1 : termP oneK 1 = (0, 150) := termP_none one_on (by decide) (fun j hj => by
  have hi2 : j < 2 := hj
  match j, hi2 with
  | 0, _ => decide
  | 1, _ => decide)
def SPost (w : World) (e : Ending) (w' : World) : Prop := e = .returned (.bool true) ∧ Below w.heap.size w w'
set_option maxHeartbeats 1000000 in
theorem lasts_any (w : World) : Calls Try.prog 13 #[] w (SPost w) := by
  have HL := Lib.hid one_last
  have HO := Lib.hid one_on
  go_enter Try.func13, Try.ntmps13
  go_wp2_with fail
  refine (one_any w).mono ?_
  rintro e w1 ⟨vs, rfl, hr, B1⟩
  go_wp2_with fail
  refine (last_any vs oneK _ _ hr).mono ?_
  rw [HL.out]
  rintro e w2 ⟨rfl, B2⟩
  go_wp2_with fail
  refine (one_any w2).mono ?_
  rintro e w3 ⟨vs2, rfl, hr2, B3⟩
  go_wp2_with fail
  refine (check_any vs2 oneK _ _ hr2).mono ?_
  rw [HO.out, err_t]
  rintro e w4 ⟨rfl, B4⟩
  have B := ((B1.trans (B2.mono B1.size)).trans (B3.mono (Nat.le_trans B1.size B2.size))).trans (B4.mono (Nat.le_trans B1.size (Nat.le_trans B2.size B3.size)))
  clear B1 B2 B3 B4
  go_wp2_with fail
  go_ret
  exact ⟨rfl, B⟩
set_option maxHeartbeats 1000000 in
theorem terms_any (w : World) : Calls Try.prog 17 #[] w (SPost w) := by
  have HL := Lib.hid one_term4
  have HO := Lib.hid one_term1
  go_enter Try.func17, Try.ntmps17
  go_wp2_with fail
  refine (one_any w).mono ?_
  rintro e w1 ⟨vs, rfl, hr, B1⟩
  go_wp2_with fail
  refine (term_any vs oneK 4 _ _ hr).mono ?_
  rw [HL.out]
  rintro e w2 ⟨rfl, B2⟩
  go_wp2_with fail
  refine (one_any w2).mono ?_
  rintro e w3 ⟨vs2, rfl, hr2, B3⟩
  go_wp2_with fail
  refine (term_any vs2 oneK 1 _ _ hr2).mono ?_
  rw [HO.out]
  rintro e w4 ⟨rfl, B4⟩
  have B := ((B1.trans (B2.mono B1.size)).trans (B3.mono (Nat.le_trans B1.size B2.size))).trans (B4.mono (Nat.le_trans B1.size (Nat.le_trans B2.size B3.size)))
  clear B1 B2 B3 B4
  go_wp2_with fail
  go_ret
  exact ⟨rfl, B⟩
theorem one_newer3 : newerB oneK 3 3 = true := by unfold newerB; rw [one_on, one_last]; decide
theorem one_newer2 : newerB oneK 3 2 = false := by unfold newerB; rw [one_on, one_last]; decide
set_option maxHeartbeats 1000000 in
theorem newers_any (w : World) : Calls Try.prog 18 #[] w (SPost w) := by
  have HL := Lib.hid one_newer3
  have HO := Lib.hid one_newer2
  go_enter Try.func18, Try.ntmps18
  go_wp2_with fail
  refine (one_any w).mono ?_
  rintro e w1 ⟨vs, rfl, hr, B1⟩
  go_wp2_with fail
  refine (newer_any vs oneK 3 3 _ _ hr).mono ?_
  rw [HL.out]
  rintro e w2 ⟨rfl, B2⟩
  go_wp2_with fail
  refine (one_any w2).mono ?_
  rintro e w3 ⟨vs2, rfl, hr2, B3⟩
  go_wp2_with fail
  refine (newer_any vs2 oneK 3 2 _ _ hr2).mono ?_
  rw [HO.out]
  rintro e w4 ⟨rfl, B4⟩
  have B := ((B1.trans (B2.mono B1.size)).trans (B3.mono (Nat.le_trans B1.size B2.size))).trans (B4.mono (Nat.le_trans B1.size (Nat.le_trans B2.size B3.size)))
  clear B1 B2 B3 B4
  go_wp2_with fail
  go_ret
  exact ⟨rfl, B⟩
end Go.Proofs.Yteiojclemodhaaa
