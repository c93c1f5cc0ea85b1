/- Sets as readings; member.ask, may. Condition: a struct that reads as a configuration, of at most 10^6 numbers in each. -/
import Derived.Test.YtejahcpnbkegfaaBoth
import Derived.Test.YtejahcpnbkegfaaQuorumA
import Derived.Test.YtejahcpnbkegfaaPuts
import Derived.Test.YtejahcpnbkegfaaTyM
namespace Go.Proofs.Ytejahcpnbkegfaa
open Go.RowKit
set_option linter.unusedVariables false
set_option linter.unusedSimpArgs false
theorem IntSl.ofSl {w : World} {S : Nat → Prop} {a : Option Addr} {n c : Nat} {xs : List Int} (h : SlI w S a n c xs) : IntSl w a n xs := by
  have hl := h.len
  rw [ints_len] at hl
  have hb := h.bd
  have hx := SlI.i64 h
  have hi : ∀ i, I64 (el xs i) := fun i => by
    by_cases hi : i < xs.length
    · have e : el xs i = xs[i] := by simp [el, hi]
      rw [e]; exact hx _ (List.getElem_mem hi)
    · have e : el xs i = 0 := by simp [el, List.getElem?_eq_none (Nat.not_lt.1 hi)]
      rw [e]; exact ⟨by decide, by decide⟩
  refine ⟨hl, by omega, fun hp => ?_, fun i => (hi i).1, fun i => (hi i).2⟩
  obtain ⟨b, off, rfl⟩ := h.addr hp
  obtain ⟨hlt, _⟩ := SlI.cell h hp
  exact ⟨b, off, rfl, hlt, fun i hi => (SlI.cell h hi).2.1⟩
theorem nil_cap {w : World} {S : Nat → Prop} {a : Option Addr} {n c : Nat} {xs : List Int} (h : SlI w S a n c xs) : a = none → c = 0 := fun e => (h.bd.2.2.2 e).2
end Go.Proofs.Ytejahcpnbkegfaa
