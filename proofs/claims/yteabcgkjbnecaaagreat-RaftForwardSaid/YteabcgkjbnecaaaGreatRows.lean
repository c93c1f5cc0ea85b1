/-
  No cell of these rows narrows 'for every input' (looked for: loops, veiled, ifaces, maps, wideKeys, modest, calm, conditions, laid).
  DERIVED. THE GIVEN ROWS OF THIS SEAT. 9 by the template 'for every input the law returns true; each argument reads behind the call as it read before'; 0 by the template 'total and deterministic' (their statements: YteabcgkjbnecaaaGreatTotals.lean).
  GIVEN WITH THE SEED: the statements are not yours to turn. If you find one false, say at which input.
  Laid BY PROGRAM, IN A SANDBOX (cutbox-rows.mjs): the forced cells as the released guide's own fill.sh prints them over the translation 7c3c475487eee0e7… (all of the seat's roots in one cut). By AI agents, Wed Nov 11 2026. No macro, syntax, notation, axiom, sorry.
-/
import Derived.Test.YteabcgkjbnecaaaGreatChecked
import GoSem.Claim
import GoSem.ClaimJoined
import GoSem.ClaimMapViews
import Derived.JoinedTies
import Derived.KernelRfl
namespace Go.Proofs.YteabcgkjbnecaaaGreat
/- THE CELL 'sum', in the pinned program and in every row, IS THE sha256 OF THE DUMP (.gsa) THAT YteabcgkjbnecaaaGreatProg.lean LOADS. Nothing in Lean hashes anything: it is a label: what it is worth is what the hold of that sum in a sandbox is worth. -/
noncomputable def Tryz.pinned : Pinned := { name := "yteabcgkjbnecaaagreat", sum := "7c3c475487eee0e7419498c0ea2cb1f64ab35d6a696a88af4ea91284bd789586", checked := Tryz.checked }
namespace Rows
def none {H : Type} : Left H := { results := [], args := [] }

/-- 'folkmootlaw18.RaftNew': WHATEVER THE INPUT: true; the input reads as it did. -/
def raftNewSpec : ChangeSpec := { name := "raftNew", fn := fun _ => fun
  | [d1, d2, d3] => { results := [.lit (.bool true)], args := [d1, d2, d3] }
  | _ => none }
def raftNewRow : OpenClaim := { program := "yteabcgkjbnecaaagreat", sum := "7c3c475487eee0e7419498c0ea2cb1f64ab35d6a696a88af4ea91284bd789586", func := "folkmoot/folkmootlaw18.RaftNew", spec := "raftNew", unfollowed := true, recurses := true, apart := false }
def RaftNewSaid : Prop := raftNewRow.holds Tryz.pinned (OpenSpec.ofChange raftNewSpec)

/-- ITS FALSE NEIGHBOUR: 'it returns false'. Refute it at one input. -/
def raftNewWrong : ChangeSpec := { name := "raftNew", fn := fun _ => fun
  | [d1, d2, d3] => { results := [.lit (.bool false)], args := [d1, d2, d3] }
  | _ => none }
def RaftNewWrongFalsely : Prop := raftNewRow.holds Tryz.pinned (OpenSpec.ofChange raftNewWrong)

/-- 'folkmootlaw18.RaftTicks': WHATEVER THE INPUT: true; the input reads as it did. -/
def raftTicksSpec : ChangeSpec := { name := "raftTicks", fn := fun _ => fun
  | [d] => { results := [.lit (.bool true)], args := [d] }
  | _ => none }
def raftTicksRow : OpenClaim := { program := "yteabcgkjbnecaaagreat", sum := "7c3c475487eee0e7419498c0ea2cb1f64ab35d6a696a88af4ea91284bd789586", func := "folkmoot/folkmootlaw18.RaftTicks", spec := "raftTicks", unfollowed := true, recurses := true, apart := false }
def RaftTicksSaid : Prop := raftTicksRow.holds Tryz.pinned (OpenSpec.ofChange raftTicksSpec)

/-- ITS FALSE NEIGHBOUR: 'it returns false'. Refute it at one input. -/
def raftTicksWrong : ChangeSpec := { name := "raftTicks", fn := fun _ => fun
  | [d] => { results := [.lit (.bool false)], args := [d] }
  | _ => none }
def RaftTicksWrongFalsely : Prop := raftTicksRow.holds Tryz.pinned (OpenSpec.ofChange raftTicksWrong)

/-- 'folkmootlaw18.RaftHears': WHATEVER THE INPUT: true; the input reads as it did. -/
def raftHearsSpec : ChangeSpec := { name := "raftHears", fn := fun _ => fun
  | [d1, d2] => { results := [.lit (.bool true)], args := [d1, d2] }
  | _ => none }
def raftHearsRow : OpenClaim := { program := "yteabcgkjbnecaaagreat", sum := "7c3c475487eee0e7419498c0ea2cb1f64ab35d6a696a88af4ea91284bd789586", func := "folkmoot/folkmootlaw18.RaftHears", spec := "raftHears", unfollowed := true, recurses := true, apart := false }
def RaftHearsSaid : Prop := raftHearsRow.holds Tryz.pinned (OpenSpec.ofChange raftHearsSpec)

/-- ITS FALSE NEIGHBOUR: 'it returns false'. Refute it at one input. -/
def raftHearsWrong : ChangeSpec := { name := "raftHears", fn := fun _ => fun
  | [d1, d2] => { results := [.lit (.bool false)], args := [d1, d2] }
  | _ => none }
def RaftHearsWrongFalsely : Prop := raftHearsRow.holds Tryz.pinned (OpenSpec.ofChange raftHearsWrong)

/-- 'folkmootlaw18.RaftCompacts': WHATEVER THE INPUT: true; the input reads as it did. -/
def raftCompactsSpec : ChangeSpec := { name := "raftCompacts", fn := fun _ => fun
  | [d1, d2, d3] => { results := [.lit (.bool true)], args := [d1, d2, d3] }
  | _ => none }
def raftCompactsRow : OpenClaim := { program := "yteabcgkjbnecaaagreat", sum := "7c3c475487eee0e7419498c0ea2cb1f64ab35d6a696a88af4ea91284bd789586", func := "folkmoot/folkmootlaw18.RaftCompacts", spec := "raftCompacts", unfollowed := true, recurses := true, apart := false }
def RaftCompactsSaid : Prop := raftCompactsRow.holds Tryz.pinned (OpenSpec.ofChange raftCompactsSpec)

/-- ITS FALSE NEIGHBOUR: 'it returns false'. Refute it at one input. -/
def raftCompactsWrong : ChangeSpec := { name := "raftCompacts", fn := fun _ => fun
  | [d1, d2, d3] => { results := [.lit (.bool false)], args := [d1, d2, d3] }
  | _ => none }
def RaftCompactsWrongFalsely : Prop := raftCompactsRow.holds Tryz.pinned (OpenSpec.ofChange raftCompactsWrong)

/-- 'folkmootlaw18.RaftProposes': WHATEVER THE INPUT: true; the input reads as it did. -/
def raftProposesSpec : ChangeSpec := { name := "raftProposes", fn := fun _ => fun
  | [d1, d2] => { results := [.lit (.bool true)], args := [d1, d2] }
  | _ => none }
def raftProposesRow : OpenClaim := { program := "yteabcgkjbnecaaagreat", sum := "7c3c475487eee0e7419498c0ea2cb1f64ab35d6a696a88af4ea91284bd789586", func := "folkmoot/folkmootlaw18.RaftProposes", spec := "raftProposes", unfollowed := true, recurses := true, apart := false }
def RaftProposesSaid : Prop := raftProposesRow.holds Tryz.pinned (OpenSpec.ofChange raftProposesSpec)

/-- ITS FALSE NEIGHBOUR: 'it returns false'. Refute it at one input. -/
def raftProposesWrong : ChangeSpec := { name := "raftProposes", fn := fun _ => fun
  | [d1, d2] => { results := [.lit (.bool false)], args := [d1, d2] }
  | _ => none }
def RaftProposesWrongFalsely : Prop := raftProposesRow.holds Tryz.pinned (OpenSpec.ofChange raftProposesWrong)

/-- 'folkmootlaw18.RaftReads': WHATEVER THE INPUT: true; the input reads as it did. -/
def raftReadsSpec : ChangeSpec := { name := "raftReads", fn := fun _ => fun
  | [d1, d2] => { results := [.lit (.bool true)], args := [d1, d2] }
  | _ => none }
def raftReadsRow : OpenClaim := { program := "yteabcgkjbnecaaagreat", sum := "7c3c475487eee0e7419498c0ea2cb1f64ab35d6a696a88af4ea91284bd789586", func := "folkmoot/folkmootlaw18.RaftReads", spec := "raftReads", unfollowed := true, recurses := true, apart := false }
def RaftReadsSaid : Prop := raftReadsRow.holds Tryz.pinned (OpenSpec.ofChange raftReadsSpec)

/-- ITS FALSE NEIGHBOUR: 'it returns false'. Refute it at one input. -/
def raftReadsWrong : ChangeSpec := { name := "raftReads", fn := fun _ => fun
  | [d1, d2] => { results := [.lit (.bool false)], args := [d1, d2] }
  | _ => none }
def RaftReadsWrongFalsely : Prop := raftReadsRow.holds Tryz.pinned (OpenSpec.ofChange raftReadsWrong)

/-- 'folkmootlaw18.RaftChanges': WHATEVER THE INPUT: true; the input reads as it did. -/
def raftChangesSpec : ChangeSpec := { name := "raftChanges", fn := fun _ => fun
  | [d1, d2] => { results := [.lit (.bool true)], args := [d1, d2] }
  | _ => none }
def raftChangesRow : OpenClaim := { program := "yteabcgkjbnecaaagreat", sum := "7c3c475487eee0e7419498c0ea2cb1f64ab35d6a696a88af4ea91284bd789586", func := "folkmoot/folkmootlaw18.RaftChanges", spec := "raftChanges", unfollowed := true, recurses := true, apart := false }
def RaftChangesSaid : Prop := raftChangesRow.holds Tryz.pinned (OpenSpec.ofChange raftChangesSpec)

/-- ITS FALSE NEIGHBOUR: 'it returns false'. Refute it at one input. -/
def raftChangesWrong : ChangeSpec := { name := "raftChanges", fn := fun _ => fun
  | [d1, d2] => { results := [.lit (.bool false)], args := [d1, d2] }
  | _ => none }
def RaftChangesWrongFalsely : Prop := raftChangesRow.holds Tryz.pinned (OpenSpec.ofChange raftChangesWrong)

/-- 'folkmootlaw18.RaftAgrees': WHATEVER THE INPUT: true; the input reads as it did. -/
def raftAgreesSpec : ChangeSpec := { name := "raftAgrees", fn := fun _ => fun
  | [d1, d2] => { results := [.lit (.bool true)], args := [d1, d2] }
  | _ => none }
def raftAgreesRow : OpenClaim := { program := "yteabcgkjbnecaaagreat", sum := "7c3c475487eee0e7419498c0ea2cb1f64ab35d6a696a88af4ea91284bd789586", func := "folkmoot/folkmootlaw18.RaftAgrees", spec := "raftAgrees", unfollowed := true, recurses := true, apart := false }
def RaftAgreesSaid : Prop := raftAgreesRow.holds Tryz.pinned (OpenSpec.ofChange raftAgreesSpec)

/-- ITS FALSE NEIGHBOUR: 'it returns false'. Refute it at one input. -/
def raftAgreesWrong : ChangeSpec := { name := "raftAgrees", fn := fun _ => fun
  | [d1, d2] => { results := [.lit (.bool false)], args := [d1, d2] }
  | _ => none }
def RaftAgreesWrongFalsely : Prop := raftAgreesRow.holds Tryz.pinned (OpenSpec.ofChange raftAgreesWrong)

/-- 'folkmootlaw18.RaftForward': WHATEVER THE INPUT: true; the input reads as it did. -/
def raftForwardSpec : ChangeSpec := { name := "raftForward", fn := fun _ => fun
  | [d1, d2, d3, d4] => { results := [.lit (.bool true)], args := [d1, d2, d3, d4] }
  | _ => none }
def raftForwardRow : OpenClaim := { program := "yteabcgkjbnecaaagreat", sum := "7c3c475487eee0e7419498c0ea2cb1f64ab35d6a696a88af4ea91284bd789586", func := "folkmoot/folkmootlaw18.RaftForward", spec := "raftForward", unfollowed := true, recurses := true, apart := false }
def RaftForwardSaid : Prop := raftForwardRow.holds Tryz.pinned (OpenSpec.ofChange raftForwardSpec)

/-- ITS FALSE NEIGHBOUR: 'it returns false'. Refute it at one input. -/
def raftForwardWrong : ChangeSpec := { name := "raftForward", fn := fun _ => fun
  | [d1, d2, d3, d4] => { results := [.lit (.bool false)], args := [d1, d2, d3, d4] }
  | _ => none }
def RaftForwardWrongFalsely : Prop := raftForwardRow.holds Tryz.pinned (OpenSpec.ofChange raftForwardWrong)

/- THE SECOND FORM. 'bulk': how many values and letters a reading holds, each counted each time it is reached (what is shared counts as often as it is met; a slice's spare places count too). A statement '..UptoSaid' is the law's where the arguments, and the package variables that the reading takes, are together of bulk at most 1048576: NARROWER than '..Said'. Prove '..Said' where nothing that the law and all that it calls make is longer than what came in: it says more and counts as full. Else prove '..UptoSaid'. A law counts once. -/
mutual
def uptoBulk {H : Type} : DataW H → Nat
  | .lit (.string bytes) => bytes.length + 1
  | .lit _ => 1
  | .nil => 1
  | .ptr d => uptoBulk d + 1
  | .slice elems spare => uptoBulkAll elems + uptoBulkAll spare + 1
  | .agg parts => uptoBulkAll parts + 1
  | .iface _ d => uptoBulk d + 1
  | .map entries => uptoBulkEntries entries + 1
  | .held _ => 1
def uptoBulkAll {H : Type} : List (DataW H) → Nat
  | [] => 0
  | d :: r => uptoBulk d + uptoBulkAll r
def uptoBulkEntries {H : Type} : List (Lit × DataW H) → Nat
  | [] => 0
  | x :: r => uptoBulkEntry x + uptoBulkEntries r
def uptoBulkEntry {H : Type} : Lit × DataW H → Nat
  | (.string bytes, d) => bytes.length + uptoBulk d + 1
  | (_, d) => uptoBulk d + 1
 end
def uptoSmall : (H : Type) → List (DataW H) → Bool := fun _ ds => decide (uptoBulkAll ds ≤ 1048576)
def OpenSpec.upto (s : _root_.Go.ChangeSpec) : _root_.Go.OpenSpec := { _root_.Go.OpenSpec.ofChange s with cond := some uptoSmall }

/-- 'folkmootlaw18.RaftNew', WHERE WHAT IT READS IS OF BULK AT MOST 1048576: true; the input reads as it did. -/
def raftNewUptoRow : OpenClaim := { program := "yteabcgkjbnecaaagreat", sum := "7c3c475487eee0e7419498c0ea2cb1f64ab35d6a696a88af4ea91284bd789586", func := "folkmoot/folkmootlaw18.RaftNew", spec := "raftNew", unfollowed := true, recurses := true, apart := false, narrowed := true }
def RaftNewUptoSaid : Prop := raftNewUptoRow.holds Tryz.pinned (OpenSpec.upto raftNewSpec)

/-- 'folkmootlaw18.RaftTicks', WHERE WHAT IT READS IS OF BULK AT MOST 1048576: true; the input reads as it did. -/
def raftTicksUptoRow : OpenClaim := { program := "yteabcgkjbnecaaagreat", sum := "7c3c475487eee0e7419498c0ea2cb1f64ab35d6a696a88af4ea91284bd789586", func := "folkmoot/folkmootlaw18.RaftTicks", spec := "raftTicks", unfollowed := true, recurses := true, apart := false, narrowed := true }
def RaftTicksUptoSaid : Prop := raftTicksUptoRow.holds Tryz.pinned (OpenSpec.upto raftTicksSpec)

/-- 'folkmootlaw18.RaftHears', WHERE WHAT IT READS IS OF BULK AT MOST 1048576: true; the input reads as it did. -/
def raftHearsUptoRow : OpenClaim := { program := "yteabcgkjbnecaaagreat", sum := "7c3c475487eee0e7419498c0ea2cb1f64ab35d6a696a88af4ea91284bd789586", func := "folkmoot/folkmootlaw18.RaftHears", spec := "raftHears", unfollowed := true, recurses := true, apart := false, narrowed := true }
def RaftHearsUptoSaid : Prop := raftHearsUptoRow.holds Tryz.pinned (OpenSpec.upto raftHearsSpec)

/-- 'folkmootlaw18.RaftCompacts', WHERE WHAT IT READS IS OF BULK AT MOST 1048576: true; the input reads as it did. -/
def raftCompactsUptoRow : OpenClaim := { program := "yteabcgkjbnecaaagreat", sum := "7c3c475487eee0e7419498c0ea2cb1f64ab35d6a696a88af4ea91284bd789586", func := "folkmoot/folkmootlaw18.RaftCompacts", spec := "raftCompacts", unfollowed := true, recurses := true, apart := false, narrowed := true }
def RaftCompactsUptoSaid : Prop := raftCompactsUptoRow.holds Tryz.pinned (OpenSpec.upto raftCompactsSpec)

/-- 'folkmootlaw18.RaftProposes', WHERE WHAT IT READS IS OF BULK AT MOST 1048576: true; the input reads as it did. -/
def raftProposesUptoRow : OpenClaim := { program := "yteabcgkjbnecaaagreat", sum := "7c3c475487eee0e7419498c0ea2cb1f64ab35d6a696a88af4ea91284bd789586", func := "folkmoot/folkmootlaw18.RaftProposes", spec := "raftProposes", unfollowed := true, recurses := true, apart := false, narrowed := true }
def RaftProposesUptoSaid : Prop := raftProposesUptoRow.holds Tryz.pinned (OpenSpec.upto raftProposesSpec)

/-- 'folkmootlaw18.RaftReads', WHERE WHAT IT READS IS OF BULK AT MOST 1048576: true; the input reads as it did. -/
def raftReadsUptoRow : OpenClaim := { program := "yteabcgkjbnecaaagreat", sum := "7c3c475487eee0e7419498c0ea2cb1f64ab35d6a696a88af4ea91284bd789586", func := "folkmoot/folkmootlaw18.RaftReads", spec := "raftReads", unfollowed := true, recurses := true, apart := false, narrowed := true }
def RaftReadsUptoSaid : Prop := raftReadsUptoRow.holds Tryz.pinned (OpenSpec.upto raftReadsSpec)

/-- 'folkmootlaw18.RaftChanges', WHERE WHAT IT READS IS OF BULK AT MOST 1048576: true; the input reads as it did. -/
def raftChangesUptoRow : OpenClaim := { program := "yteabcgkjbnecaaagreat", sum := "7c3c475487eee0e7419498c0ea2cb1f64ab35d6a696a88af4ea91284bd789586", func := "folkmoot/folkmootlaw18.RaftChanges", spec := "raftChanges", unfollowed := true, recurses := true, apart := false, narrowed := true }
def RaftChangesUptoSaid : Prop := raftChangesUptoRow.holds Tryz.pinned (OpenSpec.upto raftChangesSpec)

/-- 'folkmootlaw18.RaftAgrees', WHERE WHAT IT READS IS OF BULK AT MOST 1048576: true; the input reads as it did. -/
def raftAgreesUptoRow : OpenClaim := { program := "yteabcgkjbnecaaagreat", sum := "7c3c475487eee0e7419498c0ea2cb1f64ab35d6a696a88af4ea91284bd789586", func := "folkmoot/folkmootlaw18.RaftAgrees", spec := "raftAgrees", unfollowed := true, recurses := true, apart := false, narrowed := true }
def RaftAgreesUptoSaid : Prop := raftAgreesUptoRow.holds Tryz.pinned (OpenSpec.upto raftAgreesSpec)

/-- 'folkmootlaw18.RaftForward', WHERE WHAT IT READS IS OF BULK AT MOST 1048576: true; the input reads as it did. -/
def raftForwardUptoRow : OpenClaim := { program := "yteabcgkjbnecaaagreat", sum := "7c3c475487eee0e7419498c0ea2cb1f64ab35d6a696a88af4ea91284bd789586", func := "folkmoot/folkmootlaw18.RaftForward", spec := "raftForward", unfollowed := true, recurses := true, apart := false, narrowed := true }
def RaftForwardUptoSaid : Prop := raftForwardUptoRow.holds Tryz.pinned (OpenSpec.upto raftForwardSpec)

end Rows
end Go.Proofs.YteabcgkjbnecaaaGreat
