/-
  No cell of these rows narrows 'for every input' (looked for: loops, veiled, ifaces, maps, wideKeys, modest, calm, conditions, laid).
  DERIVED. THE GIVEN ROWS OF THIS SEAT. 6 by the template 'for every input the law returns true; each argument reads behind the call as it read before'; 0 by the template 'total and deterministic' (their statements: YteiojclemodhaaaTotals.lean).
  GIVEN WITH THE SEED: the statements are not yours to turn. If you find one false, say at which input.
  Laid BY PROGRAM, IN A SANDBOX (cutbox-rows.mjs): the forced cells as the released guide's own fill.sh prints them over the translation 59f4329dfd47f93f… (all of the seat's roots in one cut). By AI agents, Wed Nov 11 2026. No macro, syntax, notation, axiom, sorry.
-/
import Derived.Test.YteiojclemodhaaaChecked
import GoSem.Claim
import GoSem.ClaimJoined
import GoSem.ClaimMapViews
import Derived.JoinedTies
import Derived.KernelRfl
namespace Go.Proofs.Yteiojclemodhaaa
/- THE CELL 'sum', in the pinned program and in every row, IS THE sha256 OF THE DUMP (.gsa) THAT YteiojclemodhaaaProg.lean LOADS. Nothing in Lean hashes anything: it is a label: what it is worth is what the hold of that sum in a sandbox is worth. -/
noncomputable def Try.pinned : Pinned := { name := "yteiojclemodhaaa", sum := "59f4329dfd47f93fdcc8a9c1bc6dece6855f0f465da26bdae5028c6626251d97", checked := Try.checked }
namespace Rows
def none {H : Type} : Left H := { results := [], args := [] }

/-- 'folkmootlaw16.RaftlogLast': WHATEVER THE INPUT: true; the input reads as it did. -/
def raftlogLastSpec : ChangeSpec := { name := "raftlogLast", fn := fun _ => fun
  | [d] => { results := [.lit (.bool true)], args := [d] }
  | _ => none }
def raftlogLastRow : OpenClaim := { program := "yteiojclemodhaaa", sum := "59f4329dfd47f93fdcc8a9c1bc6dece6855f0f465da26bdae5028c6626251d97", func := "folkmoot/folkmootlaw16.RaftlogLast", spec := "raftlogLast", unfollowed := true, recurses := true, apart := false }
def RaftlogLastSaid : Prop := raftlogLastRow.holds Try.pinned (OpenSpec.ofChange raftlogLastSpec)

/-- ITS FALSE NEIGHBOUR: 'it returns false'. Refute it at one input. -/
def raftlogLastWrong : ChangeSpec := { name := "raftlogLast", fn := fun _ => fun
  | [d] => { results := [.lit (.bool false)], args := [d] }
  | _ => none }
def RaftlogLastWrongFalsely : Prop := raftlogLastRow.holds Try.pinned (OpenSpec.ofChange raftlogLastWrong)

/-- 'folkmootlaw16.RaftlogTerm': WHATEVER THE INPUT: true; the input reads as it did. -/
def raftlogTermSpec : ChangeSpec := { name := "raftlogTerm", fn := fun _ => fun
  | [d1, d2] => { results := [.lit (.bool true)], args := [d1, d2] }
  | _ => none }
def raftlogTermRow : OpenClaim := { program := "yteiojclemodhaaa", sum := "59f4329dfd47f93fdcc8a9c1bc6dece6855f0f465da26bdae5028c6626251d97", func := "folkmoot/folkmootlaw16.RaftlogTerm", spec := "raftlogTerm", unfollowed := true, recurses := true, apart := false }
def RaftlogTermSaid : Prop := raftlogTermRow.holds Try.pinned (OpenSpec.ofChange raftlogTermSpec)

/-- ITS FALSE NEIGHBOUR: 'it returns false'. Refute it at one input. -/
def raftlogTermWrong : ChangeSpec := { name := "raftlogTerm", fn := fun _ => fun
  | [d1, d2] => { results := [.lit (.bool false)], args := [d1, d2] }
  | _ => none }
def RaftlogTermWrongFalsely : Prop := raftlogTermRow.holds Try.pinned (OpenSpec.ofChange raftlogTermWrong)

/-- 'folkmootlaw16.RaftlogNewer': WHATEVER THE INPUT: true; the input reads as it did. -/
def raftlogNewerSpec : ChangeSpec := { name := "raftlogNewer", fn := fun _ => fun
  | [d1, d2, d3] => { results := [.lit (.bool true)], args := [d1, d2, d3] }
  | _ => none }
def raftlogNewerRow : OpenClaim := { program := "yteiojclemodhaaa", sum := "59f4329dfd47f93fdcc8a9c1bc6dece6855f0f465da26bdae5028c6626251d97", func := "folkmoot/folkmootlaw16.RaftlogNewer", spec := "raftlogNewer", unfollowed := true, recurses := true, apart := false }
def RaftlogNewerSaid : Prop := raftlogNewerRow.holds Try.pinned (OpenSpec.ofChange raftlogNewerSpec)

/-- ITS FALSE NEIGHBOUR: 'it returns false'. Refute it at one input. -/
def raftlogNewerWrong : ChangeSpec := { name := "raftlogNewer", fn := fun _ => fun
  | [d1, d2, d3] => { results := [.lit (.bool false)], args := [d1, d2, d3] }
  | _ => none }
def RaftlogNewerWrongFalsely : Prop := raftlogNewerRow.holds Try.pinned (OpenSpec.ofChange raftlogNewerWrong)

/-- 'folkmootlaw16.RaftlogSlice': WHATEVER THE INPUT: true; the input reads as it did. -/
def raftlogSliceSpec : ChangeSpec := { name := "raftlogSlice", fn := fun _ => fun
  | [d1, d2, d3] => { results := [.lit (.bool true)], args := [d1, d2, d3] }
  | _ => none }
def raftlogSliceRow : OpenClaim := { program := "yteiojclemodhaaa", sum := "59f4329dfd47f93fdcc8a9c1bc6dece6855f0f465da26bdae5028c6626251d97", func := "folkmoot/folkmootlaw16.RaftlogSlice", spec := "raftlogSlice", unfollowed := true, recurses := true, apart := false }
def RaftlogSliceSaid : Prop := raftlogSliceRow.holds Try.pinned (OpenSpec.ofChange raftlogSliceSpec)

/-- ITS FALSE NEIGHBOUR: 'it returns false'. Refute it at one input. -/
def raftlogSliceWrong : ChangeSpec := { name := "raftlogSlice", fn := fun _ => fun
  | [d1, d2, d3] => { results := [.lit (.bool false)], args := [d1, d2, d3] }
  | _ => none }
def RaftlogSliceWrongFalsely : Prop := raftlogSliceRow.holds Try.pinned (OpenSpec.ofChange raftlogSliceWrong)

/-- 'folkmootlaw16.RaftlogMerge': WHATEVER THE INPUT: true; the input reads as it did. -/
def raftlogMergeSpec : ChangeSpec := { name := "raftlogMerge", fn := fun _ => fun
  | [d1, d2, d3, d4] => { results := [.lit (.bool true)], args := [d1, d2, d3, d4] }
  | _ => none }
def raftlogMergeRow : OpenClaim := { program := "yteiojclemodhaaa", sum := "59f4329dfd47f93fdcc8a9c1bc6dece6855f0f465da26bdae5028c6626251d97", func := "folkmoot/folkmootlaw16.RaftlogMerge", spec := "raftlogMerge", unfollowed := true, recurses := true, apart := false }
def RaftlogMergeSaid : Prop := raftlogMergeRow.holds Try.pinned (OpenSpec.ofChange raftlogMergeSpec)

/-- ITS FALSE NEIGHBOUR: 'it returns false'. Refute it at one input. -/
def raftlogMergeWrong : ChangeSpec := { name := "raftlogMerge", fn := fun _ => fun
  | [d1, d2, d3, d4] => { results := [.lit (.bool false)], args := [d1, d2, d3, d4] }
  | _ => none }
def RaftlogMergeWrongFalsely : Prop := raftlogMergeRow.holds Try.pinned (OpenSpec.ofChange raftlogMergeWrong)

/-- 'folkmootlaw16.RaftlogMerged': WHATEVER THE INPUT: true; the input reads as it did. -/
def raftlogMergedSpec : ChangeSpec := { name := "raftlogMerged", fn := fun _ => fun
  | [d1, d2, d3, d4] => { results := [.lit (.bool true)], args := [d1, d2, d3, d4] }
  | _ => none }
def raftlogMergedRow : OpenClaim := { program := "yteiojclemodhaaa", sum := "59f4329dfd47f93fdcc8a9c1bc6dece6855f0f465da26bdae5028c6626251d97", func := "folkmoot/folkmootlaw16.RaftlogMerged", spec := "raftlogMerged", unfollowed := true, recurses := true, apart := false }
def RaftlogMergedSaid : Prop := raftlogMergedRow.holds Try.pinned (OpenSpec.ofChange raftlogMergedSpec)

/-- ITS FALSE NEIGHBOUR: 'it returns false'. Refute it at one input. -/
def raftlogMergedWrong : ChangeSpec := { name := "raftlogMerged", fn := fun _ => fun
  | [d1, d2, d3, d4] => { results := [.lit (.bool false)], args := [d1, d2, d3, d4] }
  | _ => none }
def RaftlogMergedWrongFalsely : Prop := raftlogMergedRow.holds Try.pinned (OpenSpec.ofChange raftlogMergedWrong)

/- THE SECOND FORM. 'bulk': how many values and letters a reading holds, each counted each time it is reached (what is shared counts as often as it is met; a slice's spare places count too). A statement '..UptoSaid' is the law's where the arguments, and the package variables that the reading takes, are together of bulk at most 1048576: NARROWER than '..Said'. Prove '..Said' where nothing that the law and all that it calls make is longer than what came in: it says more and counts as full. Else prove '..UptoSaid'. A law counts once. -/
mutual
def uptoBulk {H : Type} : DataW H → Nat
  | .lit (.string bytes) => bytes.length + 1
  | .lit _ => 1
  | .nil => 1
  | .ptr d => uptoBulk d + 1
  | .slice elems spare => uptoBulkAll elems + uptoBulkAll spare + 1
  | .agg parts => uptoBulkAll parts + 1
  | .iface _ d => uptoBulk d + 1
  | .map entries => uptoBulkEntries entries + 1
  | .held _ => 1
def uptoBulkAll {H : Type} : List (DataW H) → Nat
  | [] => 0
  | d :: r => uptoBulk d + uptoBulkAll r
def uptoBulkEntries {H : Type} : List (Lit × DataW H) → Nat
  | [] => 0
  | x :: r => uptoBulkEntry x + uptoBulkEntries r
def uptoBulkEntry {H : Type} : Lit × DataW H → Nat
  | (.string bytes, d) => bytes.length + uptoBulk d + 1
  | (_, d) => uptoBulk d + 1
 end
def uptoSmall : (H : Type) → List (DataW H) → Bool := fun _ ds => decide (uptoBulkAll ds ≤ 1048576)
def OpenSpec.upto (s : _root_.Go.ChangeSpec) : _root_.Go.OpenSpec := { _root_.Go.OpenSpec.ofChange s with cond := some uptoSmall }

/-- 'folkmootlaw16.RaftlogLast', WHERE WHAT IT READS IS OF BULK AT MOST 1048576: true; the input reads as it did. -/
def raftlogLastUptoRow : OpenClaim := { program := "yteiojclemodhaaa", sum := "59f4329dfd47f93fdcc8a9c1bc6dece6855f0f465da26bdae5028c6626251d97", func := "folkmoot/folkmootlaw16.RaftlogLast", spec := "raftlogLast", unfollowed := true, recurses := true, apart := false, narrowed := true }
def RaftlogLastUptoSaid : Prop := raftlogLastUptoRow.holds Try.pinned (OpenSpec.upto raftlogLastSpec)

/-- 'folkmootlaw16.RaftlogTerm', WHERE WHAT IT READS IS OF BULK AT MOST 1048576: true; the input reads as it did. -/
def raftlogTermUptoRow : OpenClaim := { program := "yteiojclemodhaaa", sum := "59f4329dfd47f93fdcc8a9c1bc6dece6855f0f465da26bdae5028c6626251d97", func := "folkmoot/folkmootlaw16.RaftlogTerm", spec := "raftlogTerm", unfollowed := true, recurses := true, apart := false, narrowed := true }
def RaftlogTermUptoSaid : Prop := raftlogTermUptoRow.holds Try.pinned (OpenSpec.upto raftlogTermSpec)

/-- 'folkmootlaw16.RaftlogNewer', WHERE WHAT IT READS IS OF BULK AT MOST 1048576: true; the input reads as it did. -/
def raftlogNewerUptoRow : OpenClaim := { program := "yteiojclemodhaaa", sum := "59f4329dfd47f93fdcc8a9c1bc6dece6855f0f465da26bdae5028c6626251d97", func := "folkmoot/folkmootlaw16.RaftlogNewer", spec := "raftlogNewer", unfollowed := true, recurses := true, apart := false, narrowed := true }
def RaftlogNewerUptoSaid : Prop := raftlogNewerUptoRow.holds Try.pinned (OpenSpec.upto raftlogNewerSpec)

/-- 'folkmootlaw16.RaftlogSlice', WHERE WHAT IT READS IS OF BULK AT MOST 1048576: true; the input reads as it did. -/
def raftlogSliceUptoRow : OpenClaim := { program := "yteiojclemodhaaa", sum := "59f4329dfd47f93fdcc8a9c1bc6dece6855f0f465da26bdae5028c6626251d97", func := "folkmoot/folkmootlaw16.RaftlogSlice", spec := "raftlogSlice", unfollowed := true, recurses := true, apart := false, narrowed := true }
def RaftlogSliceUptoSaid : Prop := raftlogSliceUptoRow.holds Try.pinned (OpenSpec.upto raftlogSliceSpec)

/-- 'folkmootlaw16.RaftlogMerge', WHERE WHAT IT READS IS OF BULK AT MOST 1048576: true; the input reads as it did. -/
def raftlogMergeUptoRow : OpenClaim := { program := "yteiojclemodhaaa", sum := "59f4329dfd47f93fdcc8a9c1bc6dece6855f0f465da26bdae5028c6626251d97", func := "folkmoot/folkmootlaw16.RaftlogMerge", spec := "raftlogMerge", unfollowed := true, recurses := true, apart := false, narrowed := true }
def RaftlogMergeUptoSaid : Prop := raftlogMergeUptoRow.holds Try.pinned (OpenSpec.upto raftlogMergeSpec)

/-- 'folkmootlaw16.RaftlogMerged', WHERE WHAT IT READS IS OF BULK AT MOST 1048576: true; the input reads as it did. -/
def raftlogMergedUptoRow : OpenClaim := { program := "yteiojclemodhaaa", sum := "59f4329dfd47f93fdcc8a9c1bc6dece6855f0f465da26bdae5028c6626251d97", func := "folkmoot/folkmootlaw16.RaftlogMerged", spec := "raftlogMerged", unfollowed := true, recurses := true, apart := false, narrowed := true }
def RaftlogMergedUptoSaid : Prop := raftlogMergedUptoRow.holds Try.pinned (OpenSpec.upto raftlogMergedSpec)

end Rows
end Go.Proofs.Yteiojclemodhaaa
