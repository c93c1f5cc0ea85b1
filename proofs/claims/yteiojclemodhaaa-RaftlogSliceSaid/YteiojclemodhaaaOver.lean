/- The law's over: writes over a list's own entries. No condition. -/
import Derived.Test.YteiojclemodhaaaSliceB
namespace Go.Proofs.Yteiojclemodhaaa
open Go.RowKit
set_option linter.unusedVariables false
set_option linter.unusedSimpArgs false
/-- every slice stays as it stands, every cell stays a cell -/
def Keep (w w' : World) : Prop := ∀ p v, w.cell? p = some v → ∃ v', w'.cell? p = some v' ∧ ((∃ a n c, v = .slice a n c) → v' = v) ∧ (w.frozen? p = false → w'.frozen? p = false)
theorem Keep.refl (w : World) : Keep w w := fun p v h => ⟨v, h, fun _ => rfl, fun h => h⟩
theorem Keep.drew {w w' : World} (h : Keep w w') : Keep w w'.drew := h
theorem Keep.sl {w w' : World} (h : Keep w w') {p : Addr} {a : Option Addr} {n c : Nat} (hp : w.cell? p = some (.slice a n c)) : w'.cell? p = some (.slice a n c) := by
  obtain ⟨v', h1, h2, _⟩ := h p _ hp
  rw [h1, h2 ⟨a, n, c, rfl⟩]
theorem Keep.cell {w w' : World} (h : Keep w w') {p : Addr} {v : Value} (hp : w.cell? p = some v) (hf : w.frozen? p = false) : (∃ v', w'.cell? p = some v') ∧ w'.frozen? p = false := by
  obtain ⟨v', h1, _, h3⟩ := h p _ hp
  exact ⟨⟨v', h1⟩, h3 hf⟩
theorem Keep.set {w w' : World} (h : Keep w w') {q : Addr} {x : Value} (hq : w.cell? q = some x) (hx : ¬ ∃ a n c, x = .slice a n c) (u : Value) : Keep w (w'.setCell q u) := by
  intro p v hp
  by_cases e : p = q
  · subst e
    rw [hq] at hp
    cases hp
    obtain ⟨v', h1, h2, h3⟩ := h p x hq
    exact ⟨u, World.cell?_setCell_same' _ _ _ (by rw [h1]; rfl), fun h => absurd h hx, fun hf => by have := h3 hf; simpa using this⟩
  · obtain ⟨v', h1, h2, h3⟩ := h p v hp
    exact ⟨v', (World.cell?_setCell_other w' q p u (fun h => e (by first | exact h | exact h.symm))).trans h1, h2, fun hf => by have := h3 hf; simpa using this⟩
set_option maxHeartbeats 2000000 in
theorem over_any (al : Option Addr) (cl : Nat) (l : List Entry) (B : Nat) (w : World) (hB : B ≤ w.heap.size) (h : Sl w (fun b => B ≤ b) Entry.ty al l.length cl (l.map Entry.enc)) :
    Calls Try.prog 25 #[.slice al l.length cl] w (fun e w' => e = .returned (.tuple #[]) ∧ Below B w w') := by
  have n7 := h.bd.2.2.1
  have H7 := Lib.hid h
  clear h
  go_enter Try.func25, Try.ntmps25
  go_wp2_with fail
  go_loopw [2] (fun i wr => ∃ j : Nat, j ≤ l.length ∧ i = .int .i64 j ∧ Keep w wr ∧ Below B w wr) (fun i _ => l.length - (intOf i).toNat)
  case atStart => exact ⟨0, Nat.zero_le _, rfl, Keep.refl _, Below.refl _ _⟩
  case round =>
    obtain ⟨j, hj, rfl, hk, hb⟩ := hrel
    by_cases hlt : j < l.length
    · obtain ⟨b, off, rfl⟩ := H7.out.addr (by omega)
      obtain ⟨hS, hb1, a3e, c3e, a4e, c4e, e0, e1, e2, e3, e4, e5, f0, f1, f2, f3, f4, f5⟩ := Entry.row H7.out hlt
      have t5 := H7.out.thaw (j := 5) hlt (by decide)
      rw [show Entry.ty.length = 6 from rfl] at t5
      generalize l.getD j default = e at *
      have k0 : (0 : Int) ≤ (j : Int) := by omega
      have k1 : (j : Int) < (l.length : Int) := by omega
      obtain ⟨⟨x5, q5⟩, t5'⟩ := hk.cell e5 t5
      have F3 := Lib.hid f3
      have HK := Lib.hid (hk.set e5 (by rintro ⟨_, _, _, e⟩; cases e) (.string ⟨#[111, 118, 101, 114]⟩))
      have HB := Lib.hid (hb.setCell (p := ⟨b, off + j * 6 + 5, none⟩) hS (.string ⟨#[111, 118, 101, 114]⟩))
      have E3 := Lib.hid e3
      have n3 := f3.bd.2.2.1
      clear e0 e1 e2 e3 e4 e5 f0 f1 f2 f3 f4 f5 hk hb t5
      go_wp2_with fail
      go_loopw [3] (fun i wr2 => ∃ m : Nat, m ≤ e.config.voters.length ∧ i = .int .i64 m ∧ Keep w wr2 ∧ Below B w wr2) (fun i _ => e.config.voters.length - (intOf i).toNat)
      case atStart => exact ⟨0, Nat.zero_le _, rfl, HK.out, HB.out⟩
      case round =>
        obtain ⟨m, hm, rfl, hk2, hb2⟩ := hrel
        rename World => wr2
        have q3 := hk2.sl E3.out
        by_cases hlm : m < e.config.voters.length
        · obtain ⟨b3, off3, rfl⟩ := F3.out.addr (by omega)
          obtain ⟨hb3, c3, _⟩ := SlI.cell F3.out hlm
          have t3 := F3.out.thaw (j := 0) hlm (by decide)
          simp only [List.length_cons, List.length_nil, Nat.zero_add, Nat.mul_one, Nat.add_zero] at t3
          have hS3 : B ≤ b3 := by
            obtain ⟨b4, off4, e4, h4, _⟩ := F3.out.rowAt (by omega)
            cases e4; exact h4
          have m0 : (0 : Int) ≤ (m : Int) := by omega
          have m1 : (m : Int) < (e.config.voters.length : Int) := by omega
          obtain ⟨⟨y3, g3⟩, t3'⟩ := hk2.cell c3 t3
          have HK2 := Lib.hid (hk2.set c3 (by rintro ⟨_, _, _, e⟩; cases e) (.int .i64 77))
          have HB2 := Lib.hid (hb2.setCell (p := ⟨b3, off3 + m, none⟩) hS3 (.int .i64 77))
          clear c3 t3 hk2 hb2
          go_wp2_with fail
          go_roundw
          case rel => exact ⟨m + 1, by omega, by go_num, HK2.out, HB2.out⟩
          case measure => simp [intOf]; omega
        · have hmn : m = e.config.voters.length := by omega
          subst hmn
          have HK2 := Lib.hid hk2
          have HB2 := Lib.hid hb2
          have m1 : ¬ ((e.config.voters.length : Nat) : Int) < (e.config.voters.length : Int) := by omega
          clear hk2 hb2 hlm
          go_wp2_with fail
          go_roundw
          case rel => exact ⟨j + 1, by omega, by go_num, HK2.out, HB2.out⟩
          case measure => simp [intOf]; omega
    · have k1 : ¬ (j : Int) < (l.length : Int) := by omega
      have HB := Lib.hid hb
      clear hk hb
      go_wp2_with fail
      go_end0
      exact ⟨rfl, HB.out⟩
end Go.Proofs.Yteiojclemodhaaa
