/-
  No cell of these rows narrows 'for every input' (looked for: loops, veiled, ifaces, maps, wideKeys, modest, calm, conditions, laid).
  DERIVED. THE GIVEN ROWS OF THIS SEAT. 4 by the template 'for every input the law returns true; each argument reads behind the call as it read before'; 0 by the template 'total and deterministic' (their statements: YtclnelpefnkjlaaTotals.lean).
  GIVEN WITH THE SEED: the statements are not yours to turn. If you find one false, say at which input.
  Laid BY PROGRAM, IN A SANDBOX (cutbox-rows.mjs): the forced cells as the released guide's own fill.sh prints them over the translation 9b35e3ee808b5695… (all of the seat's roots in one cut). By AI agents, Wed Nov 11 2026. No macro, syntax, notation, axiom, sorry.
-/
import Derived.Test.YtclnelpefnkjlaaChecked
import GoSem.Claim
import GoSem.ClaimJoined
import GoSem.ClaimMapViews
import Derived.JoinedTies
import Derived.KernelRfl
namespace Go.Proofs.Ytclnelpefnkjlaa
/- THE CELL 'sum', in the pinned program and in every row, IS THE sha256 OF THE DUMP (.gsa) THAT YtclnelpefnkjlaaProg.lean LOADS. Nothing in Lean hashes anything: it is a label: what it is worth is what the hold of that sum in a sandbox is worth. -/
noncomputable def Try.pinned : Pinned := { name := "ytclnelpefnkjlaa", sum := "9b35e3ee808b5695b2a32eef0a87731efe6a8402e533d61ea756a005e2a41128", checked := Try.checked }
namespace Rows
def none {H : Type} : Left H := { results := [], args := [] }

/-- 'folkmootlaw06.AlarmRuns': WHATEVER THE INPUT: true; the input reads as it did. -/
def alarmRunsSpec : ChangeSpec := { name := "alarmRuns", fn := fun _ => fun
  | [d] => { results := [.lit (.bool true)], args := [d] }
  | _ => none }
def alarmRunsRow : OpenClaim := { program := "ytclnelpefnkjlaa", sum := "9b35e3ee808b5695b2a32eef0a87731efe6a8402e533d61ea756a005e2a41128", func := "folkmoot/folkmootlaw06.AlarmRuns", spec := "alarmRuns", unfollowed := true, recurses := true, apart := false }
def AlarmRunsSaid : Prop := alarmRunsRow.holds Try.pinned (OpenSpec.ofChange alarmRunsSpec)

/-- ITS FALSE NEIGHBOUR: 'it returns false'. Refute it at one input. -/
def alarmRunsWrong : ChangeSpec := { name := "alarmRuns", fn := fun _ => fun
  | [d] => { results := [.lit (.bool false)], args := [d] }
  | _ => none }
def AlarmRunsWrongFalsely : Prop := alarmRunsRow.holds Try.pinned (OpenSpec.ofChange alarmRunsWrong)

/-- 'folkmootlaw06.AlarmOnce': WHATEVER THE INPUT: true; the input reads as it did. -/
def alarmOnceSpec : ChangeSpec := { name := "alarmOnce", fn := fun _ => fun
  | [d1, d2] => { results := [.lit (.bool true)], args := [d1, d2] }
  | _ => none }
def alarmOnceRow : OpenClaim := { program := "ytclnelpefnkjlaa", sum := "9b35e3ee808b5695b2a32eef0a87731efe6a8402e533d61ea756a005e2a41128", func := "folkmoot/folkmootlaw06.AlarmOnce", spec := "alarmOnce", unfollowed := true, recurses := true, apart := false }
def AlarmOnceSaid : Prop := alarmOnceRow.holds Try.pinned (OpenSpec.ofChange alarmOnceSpec)

/-- ITS FALSE NEIGHBOUR: 'it returns false'. Refute it at one input. -/
def alarmOnceWrong : ChangeSpec := { name := "alarmOnce", fn := fun _ => fun
  | [d1, d2] => { results := [.lit (.bool false)], args := [d1, d2] }
  | _ => none }
def AlarmOnceWrongFalsely : Prop := alarmOnceRow.holds Try.pinned (OpenSpec.ofChange alarmOnceWrong)

/-- 'folkmootlaw06.AlarmForgets': WHATEVER THE INPUT: true; the input reads as it did. -/
def alarmForgetsSpec : ChangeSpec := { name := "alarmForgets", fn := fun _ => fun
  | [d1, d2, d3, d4] => { results := [.lit (.bool true)], args := [d1, d2, d3, d4] }
  | _ => none }
def alarmForgetsRow : OpenClaim := { program := "ytclnelpefnkjlaa", sum := "9b35e3ee808b5695b2a32eef0a87731efe6a8402e533d61ea756a005e2a41128", func := "folkmoot/folkmootlaw06.AlarmForgets", spec := "alarmForgets", unfollowed := true, recurses := true, apart := false }
def AlarmForgetsSaid : Prop := alarmForgetsRow.holds Try.pinned (OpenSpec.ofChange alarmForgetsSpec)

/-- ITS FALSE NEIGHBOUR: 'it returns false'. Refute it at one input. -/
def alarmForgetsWrong : ChangeSpec := { name := "alarmForgets", fn := fun _ => fun
  | [d1, d2, d3, d4] => { results := [.lit (.bool false)], args := [d1, d2, d3, d4] }
  | _ => none }
def AlarmForgetsWrongFalsely : Prop := alarmForgetsRow.holds Try.pinned (OpenSpec.ofChange alarmForgetsWrong)

/-- 'folkmootlaw06.AlarmNil': WHATEVER THE INPUT: true; the input reads as it did. -/
def alarmNilSpec : ChangeSpec := { name := "alarmNil", fn := fun _ => fun
  | [d1, d2] => { results := [.lit (.bool true)], args := [d1, d2] }
  | _ => none }
def alarmNilRow : OpenClaim := { program := "ytclnelpefnkjlaa", sum := "9b35e3ee808b5695b2a32eef0a87731efe6a8402e533d61ea756a005e2a41128", func := "folkmoot/folkmootlaw06.AlarmNil", spec := "alarmNil", unfollowed := true, recurses := true, apart := false }
def AlarmNilSaid : Prop := alarmNilRow.holds Try.pinned (OpenSpec.ofChange alarmNilSpec)

/-- ITS FALSE NEIGHBOUR: 'it returns false'. Refute it at one input. -/
def alarmNilWrong : ChangeSpec := { name := "alarmNil", fn := fun _ => fun
  | [d1, d2] => { results := [.lit (.bool false)], args := [d1, d2] }
  | _ => none }
def AlarmNilWrongFalsely : Prop := alarmNilRow.holds Try.pinned (OpenSpec.ofChange alarmNilWrong)

/- THE SECOND FORM. 'bulk': how many values and letters a reading holds, each counted each time it is reached (what is shared counts as often as it is met; a slice's spare places count too). A statement '..UptoSaid' is the law's where the arguments, and the package variables that the reading takes, are together of bulk at most 1048576: NARROWER than '..Said'. Prove '..Said' where nothing that the law and all that it calls make is longer than what came in: it says more and counts as full. Else prove '..UptoSaid'. A law counts once. -/
mutual
def uptoBulk {H : Type} : DataW H → Nat
  | .lit (.string bytes) => bytes.length + 1
  | .lit _ => 1
  | .nil => 1
  | .ptr d => uptoBulk d + 1
  | .slice elems spare => uptoBulkAll elems + uptoBulkAll spare + 1
  | .agg parts => uptoBulkAll parts + 1
  | .iface _ d => uptoBulk d + 1
  | .map entries => uptoBulkEntries entries + 1
  | .held _ => 1
def uptoBulkAll {H : Type} : List (DataW H) → Nat
  | [] => 0
  | d :: r => uptoBulk d + uptoBulkAll r
def uptoBulkEntries {H : Type} : List (Lit × DataW H) → Nat
  | [] => 0
  | x :: r => uptoBulkEntry x + uptoBulkEntries r
def uptoBulkEntry {H : Type} : Lit × DataW H → Nat
  | (.string bytes, d) => bytes.length + uptoBulk d + 1
  | (_, d) => uptoBulk d + 1
 end
def uptoSmall : (H : Type) → List (DataW H) → Bool := fun _ ds => decide (uptoBulkAll ds ≤ 1048576)
def OpenSpec.upto (s : _root_.Go.ChangeSpec) : _root_.Go.OpenSpec := { _root_.Go.OpenSpec.ofChange s with cond := some uptoSmall }

/-- 'folkmootlaw06.AlarmRuns', WHERE WHAT IT READS IS OF BULK AT MOST 1048576: true; the input reads as it did. -/
def alarmRunsUptoRow : OpenClaim := { program := "ytclnelpefnkjlaa", sum := "9b35e3ee808b5695b2a32eef0a87731efe6a8402e533d61ea756a005e2a41128", func := "folkmoot/folkmootlaw06.AlarmRuns", spec := "alarmRuns", unfollowed := true, recurses := true, apart := false, narrowed := true }
def AlarmRunsUptoSaid : Prop := alarmRunsUptoRow.holds Try.pinned (OpenSpec.upto alarmRunsSpec)

/-- 'folkmootlaw06.AlarmOnce', WHERE WHAT IT READS IS OF BULK AT MOST 1048576: true; the input reads as it did. -/
def alarmOnceUptoRow : OpenClaim := { program := "ytclnelpefnkjlaa", sum := "9b35e3ee808b5695b2a32eef0a87731efe6a8402e533d61ea756a005e2a41128", func := "folkmoot/folkmootlaw06.AlarmOnce", spec := "alarmOnce", unfollowed := true, recurses := true, apart := false, narrowed := true }
def AlarmOnceUptoSaid : Prop := alarmOnceUptoRow.holds Try.pinned (OpenSpec.upto alarmOnceSpec)

/-- 'folkmootlaw06.AlarmForgets', WHERE WHAT IT READS IS OF BULK AT MOST 1048576: true; the input reads as it did. -/
def alarmForgetsUptoRow : OpenClaim := { program := "ytclnelpefnkjlaa", sum := "9b35e3ee808b5695b2a32eef0a87731efe6a8402e533d61ea756a005e2a41128", func := "folkmoot/folkmootlaw06.AlarmForgets", spec := "alarmForgets", unfollowed := true, recurses := true, apart := false, narrowed := true }
def AlarmForgetsUptoSaid : Prop := alarmForgetsUptoRow.holds Try.pinned (OpenSpec.upto alarmForgetsSpec)

/-- 'folkmootlaw06.AlarmNil', WHERE WHAT IT READS IS OF BULK AT MOST 1048576: true; the input reads as it did. -/
def alarmNilUptoRow : OpenClaim := { program := "ytclnelpefnkjlaa", sum := "9b35e3ee808b5695b2a32eef0a87731efe6a8402e533d61ea756a005e2a41128", func := "folkmoot/folkmootlaw06.AlarmNil", spec := "alarmNil", unfollowed := true, recurses := true, apart := false, narrowed := true }
def AlarmNilUptoSaid : Prop := alarmNilUptoRow.holds Try.pinned (OpenSpec.upto alarmNilSpec)

end Rows
end Go.Proofs.Ytclnelpefnkjlaa
