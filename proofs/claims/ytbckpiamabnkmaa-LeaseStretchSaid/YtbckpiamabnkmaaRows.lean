/-
  No cell of these rows narrows 'for every input' (looked for: loops, veiled, ifaces, maps, wideKeys, modest, calm, conditions, laid).
  DERIVED. THE GIVEN ROWS OF THIS SEAT. 25 by the template 'for every input the law returns true; each argument reads behind the call as it read before'; 0 by the template 'total and deterministic' (their statements: YtbckpiamabnkmaaTotals.lean).
  GIVEN WITH THE SEED: the statements are not yours to turn. If you find one false, say at which input.
  Laid BY PROGRAM, IN A SANDBOX (cutbox-rows.mjs): the forced cells as the released guide's own fill.sh prints them over the translation db8b54d21f705933… (all of the seat's roots in one cut). By AI agents, Wed Nov 11 2026. No macro, syntax, notation, axiom, sorry.
-/
import Derived.Test.YtbckpiamabnkmaaChecked
import GoSem.Claim
import GoSem.ClaimJoined
import GoSem.ClaimMapViews
import Derived.JoinedTies
import Derived.KernelRfl
namespace Go.Proofs.Ytbckpiamabnkmaa
/- THE CELL 'sum', in the pinned program and in every row, IS THE sha256 OF THE DUMP (.gsa) THAT YtbckpiamabnkmaaProg.lean LOADS. Nothing in Lean hashes anything: it is a label: what it is worth is what the hold of that sum in a sandbox is worth. -/
noncomputable def Try.pinned : Pinned := { name := "ytbckpiamabnkmaa", sum := "db8b54d21f7059334a41a27247107079759f94743496c797dadc4f9c0a556cd0", checked := Try.checked }
namespace Rows
def none {H : Type} : Left H := { results := [], args := [] }

/-- 'folkmootlaw16.RaftlogLast': WHATEVER THE INPUT: true; the input reads as it did. -/
def raftlogLastSpec : ChangeSpec := { name := "raftlogLast", fn := fun _ => fun
  | [d] => { results := [.lit (.bool true)], args := [d] }
  | _ => none }
def raftlogLastRow : OpenClaim := { program := "ytbckpiamabnkmaa", sum := "db8b54d21f7059334a41a27247107079759f94743496c797dadc4f9c0a556cd0", func := "folkmoot/folkmootlaw16.RaftlogLast", spec := "raftlogLast", unfollowed := true, recurses := true, apart := false }
def RaftlogLastSaid : Prop := raftlogLastRow.holds Try.pinned (OpenSpec.ofChange raftlogLastSpec)

/-- ITS FALSE NEIGHBOUR: 'it returns false'. Refute it at one input. -/
def raftlogLastWrong : ChangeSpec := { name := "raftlogLast", fn := fun _ => fun
  | [d] => { results := [.lit (.bool false)], args := [d] }
  | _ => none }
def RaftlogLastWrongFalsely : Prop := raftlogLastRow.holds Try.pinned (OpenSpec.ofChange raftlogLastWrong)

/-- 'folkmootlaw16.RaftlogTerm': WHATEVER THE INPUT: true; the input reads as it did. -/
def raftlogTermSpec : ChangeSpec := { name := "raftlogTerm", fn := fun _ => fun
  | [d1, d2] => { results := [.lit (.bool true)], args := [d1, d2] }
  | _ => none }
def raftlogTermRow : OpenClaim := { program := "ytbckpiamabnkmaa", sum := "db8b54d21f7059334a41a27247107079759f94743496c797dadc4f9c0a556cd0", func := "folkmoot/folkmootlaw16.RaftlogTerm", spec := "raftlogTerm", unfollowed := true, recurses := true, apart := false }
def RaftlogTermSaid : Prop := raftlogTermRow.holds Try.pinned (OpenSpec.ofChange raftlogTermSpec)

/-- ITS FALSE NEIGHBOUR: 'it returns false'. Refute it at one input. -/
def raftlogTermWrong : ChangeSpec := { name := "raftlogTerm", fn := fun _ => fun
  | [d1, d2] => { results := [.lit (.bool false)], args := [d1, d2] }
  | _ => none }
def RaftlogTermWrongFalsely : Prop := raftlogTermRow.holds Try.pinned (OpenSpec.ofChange raftlogTermWrong)

/-- 'folkmootlaw20.LeaseSteady': WHATEVER THE INPUT: true; the input reads as it did. -/
def leaseSteadySpec : ChangeSpec := { name := "leaseSteady", fn := fun _ => fun
  | [d1, d2] => { results := [.lit (.bool true)], args := [d1, d2] }
  | _ => none }
def leaseSteadyRow : OpenClaim := { program := "ytbckpiamabnkmaa", sum := "db8b54d21f7059334a41a27247107079759f94743496c797dadc4f9c0a556cd0", func := "folkmoot/folkmootlaw20.LeaseSteady", spec := "leaseSteady", unfollowed := true, recurses := true, apart := false }
def LeaseSteadySaid : Prop := leaseSteadyRow.holds Try.pinned (OpenSpec.ofChange leaseSteadySpec)

/-- ITS FALSE NEIGHBOUR: 'it returns false'. Refute it at one input. -/
def leaseSteadyWrong : ChangeSpec := { name := "leaseSteady", fn := fun _ => fun
  | [d1, d2] => { results := [.lit (.bool false)], args := [d1, d2] }
  | _ => none }
def LeaseSteadyWrongFalsely : Prop := leaseSteadyRow.holds Try.pinned (OpenSpec.ofChange leaseSteadyWrong)

/-- 'folkmootlaw20.LeaseStretch': WHATEVER THE INPUT: true; the input reads as it did. -/
def leaseStretchSpec : ChangeSpec := { name := "leaseStretch", fn := fun _ => fun
  | [d1, d2, d3, d4] => { results := [.lit (.bool true)], args := [d1, d2, d3, d4] }
  | _ => none }
def leaseStretchRow : OpenClaim := { program := "ytbckpiamabnkmaa", sum := "db8b54d21f7059334a41a27247107079759f94743496c797dadc4f9c0a556cd0", func := "folkmoot/folkmootlaw20.LeaseStretch", spec := "leaseStretch", unfollowed := true, recurses := true, apart := false }
def LeaseStretchSaid : Prop := leaseStretchRow.holds Try.pinned (OpenSpec.ofChange leaseStretchSpec)

/-- ITS FALSE NEIGHBOUR: 'it returns false'. Refute it at one input. -/
def leaseStretchWrong : ChangeSpec := { name := "leaseStretch", fn := fun _ => fun
  | [d1, d2, d3, d4] => { results := [.lit (.bool false)], args := [d1, d2, d3, d4] }
  | _ => none }
def LeaseStretchWrongFalsely : Prop := leaseStretchRow.holds Try.pinned (OpenSpec.ofChange leaseStretchWrong)

/-- 'folkmootlaw16.RaftlogNewer': WHATEVER THE INPUT: true; the input reads as it did. -/
def raftlogNewerSpec : ChangeSpec := { name := "raftlogNewer", fn := fun _ => fun
  | [d1, d2, d3] => { results := [.lit (.bool true)], args := [d1, d2, d3] }
  | _ => none }
def raftlogNewerRow : OpenClaim := { program := "ytbckpiamabnkmaa", sum := "db8b54d21f7059334a41a27247107079759f94743496c797dadc4f9c0a556cd0", func := "folkmoot/folkmootlaw16.RaftlogNewer", spec := "raftlogNewer", unfollowed := true, recurses := true, apart := false }
def RaftlogNewerSaid : Prop := raftlogNewerRow.holds Try.pinned (OpenSpec.ofChange raftlogNewerSpec)

/-- ITS FALSE NEIGHBOUR: 'it returns false'. Refute it at one input. -/
def raftlogNewerWrong : ChangeSpec := { name := "raftlogNewer", fn := fun _ => fun
  | [d1, d2, d3] => { results := [.lit (.bool false)], args := [d1, d2, d3] }
  | _ => none }
def RaftlogNewerWrongFalsely : Prop := raftlogNewerRow.holds Try.pinned (OpenSpec.ofChange raftlogNewerWrong)

/-- 'folkmootlaw16.RaftlogSlice': WHATEVER THE INPUT: true; the input reads as it did. -/
def raftlogSliceSpec : ChangeSpec := { name := "raftlogSlice", fn := fun _ => fun
  | [d1, d2, d3] => { results := [.lit (.bool true)], args := [d1, d2, d3] }
  | _ => none }
def raftlogSliceRow : OpenClaim := { program := "ytbckpiamabnkmaa", sum := "db8b54d21f7059334a41a27247107079759f94743496c797dadc4f9c0a556cd0", func := "folkmoot/folkmootlaw16.RaftlogSlice", spec := "raftlogSlice", unfollowed := true, recurses := true, apart := false }
def RaftlogSliceSaid : Prop := raftlogSliceRow.holds Try.pinned (OpenSpec.ofChange raftlogSliceSpec)

/-- ITS FALSE NEIGHBOUR: 'it returns false'. Refute it at one input. -/
def raftlogSliceWrong : ChangeSpec := { name := "raftlogSlice", fn := fun _ => fun
  | [d1, d2, d3] => { results := [.lit (.bool false)], args := [d1, d2, d3] }
  | _ => none }
def RaftlogSliceWrongFalsely : Prop := raftlogSliceRow.holds Try.pinned (OpenSpec.ofChange raftlogSliceWrong)

/-- 'folkmootlaw20.LeaseChecks': WHATEVER THE INPUT: true; the input reads as it did. -/
def leaseChecksSpec : ChangeSpec := { name := "leaseChecks", fn := fun _ => fun
  | [d] => { results := [.lit (.bool true)], args := [d] }
  | _ => none }
def leaseChecksRow : OpenClaim := { program := "ytbckpiamabnkmaa", sum := "db8b54d21f7059334a41a27247107079759f94743496c797dadc4f9c0a556cd0", func := "folkmoot/folkmootlaw20.LeaseChecks", spec := "leaseChecks", unfollowed := true, recurses := true, apart := false }
def LeaseChecksSaid : Prop := leaseChecksRow.holds Try.pinned (OpenSpec.ofChange leaseChecksSpec)

/-- ITS FALSE NEIGHBOUR: 'it returns false'. Refute it at one input. -/
def leaseChecksWrong : ChangeSpec := { name := "leaseChecks", fn := fun _ => fun
  | [d] => { results := [.lit (.bool false)], args := [d] }
  | _ => none }
def LeaseChecksWrongFalsely : Prop := leaseChecksRow.holds Try.pinned (OpenSpec.ofChange leaseChecksWrong)

/-- 'folkmootlaw20.LeaseAsks': WHATEVER THE INPUT: true; the input reads as it did. -/
def leaseAsksSpec : ChangeSpec := { name := "leaseAsks", fn := fun _ => fun
  | [d] => { results := [.lit (.bool true)], args := [d] }
  | _ => none }
def leaseAsksRow : OpenClaim := { program := "ytbckpiamabnkmaa", sum := "db8b54d21f7059334a41a27247107079759f94743496c797dadc4f9c0a556cd0", func := "folkmoot/folkmootlaw20.LeaseAsks", spec := "leaseAsks", unfollowed := true, recurses := true, apart := false }
def LeaseAsksSaid : Prop := leaseAsksRow.holds Try.pinned (OpenSpec.ofChange leaseAsksSpec)

/-- ITS FALSE NEIGHBOUR: 'it returns false'. Refute it at one input. -/
def leaseAsksWrong : ChangeSpec := { name := "leaseAsks", fn := fun _ => fun
  | [d] => { results := [.lit (.bool false)], args := [d] }
  | _ => none }
def LeaseAsksWrongFalsely : Prop := leaseAsksRow.holds Try.pinned (OpenSpec.ofChange leaseAsksWrong)

/-- 'folkmootlaw20.LeaseTakes': WHATEVER THE INPUT: true; the input reads as it did. -/
def leaseTakesSpec : ChangeSpec := { name := "leaseTakes", fn := fun _ => fun
  | [d1, d2, d3] => { results := [.lit (.bool true)], args := [d1, d2, d3] }
  | _ => none }
def leaseTakesRow : OpenClaim := { program := "ytbckpiamabnkmaa", sum := "db8b54d21f7059334a41a27247107079759f94743496c797dadc4f9c0a556cd0", func := "folkmoot/folkmootlaw20.LeaseTakes", spec := "leaseTakes", unfollowed := true, recurses := true, apart := false }
def LeaseTakesSaid : Prop := leaseTakesRow.holds Try.pinned (OpenSpec.ofChange leaseTakesSpec)

/-- ITS FALSE NEIGHBOUR: 'it returns false'. Refute it at one input. -/
def leaseTakesWrong : ChangeSpec := { name := "leaseTakes", fn := fun _ => fun
  | [d1, d2, d3] => { results := [.lit (.bool false)], args := [d1, d2, d3] }
  | _ => none }
def LeaseTakesWrongFalsely : Prop := leaseTakesRow.holds Try.pinned (OpenSpec.ofChange leaseTakesWrong)

/-- 'folkmootlaw16.RaftlogMerge': WHATEVER THE INPUT: true; the input reads as it did. -/
def raftlogMergeSpec : ChangeSpec := { name := "raftlogMerge", fn := fun _ => fun
  | [d1, d2, d3, d4] => { results := [.lit (.bool true)], args := [d1, d2, d3, d4] }
  | _ => none }
def raftlogMergeRow : OpenClaim := { program := "ytbckpiamabnkmaa", sum := "db8b54d21f7059334a41a27247107079759f94743496c797dadc4f9c0a556cd0", func := "folkmoot/folkmootlaw16.RaftlogMerge", spec := "raftlogMerge", unfollowed := true, recurses := true, apart := false }
def RaftlogMergeSaid : Prop := raftlogMergeRow.holds Try.pinned (OpenSpec.ofChange raftlogMergeSpec)

/-- ITS FALSE NEIGHBOUR: 'it returns false'. Refute it at one input. -/
def raftlogMergeWrong : ChangeSpec := { name := "raftlogMerge", fn := fun _ => fun
  | [d1, d2, d3, d4] => { results := [.lit (.bool false)], args := [d1, d2, d3, d4] }
  | _ => none }
def RaftlogMergeWrongFalsely : Prop := raftlogMergeRow.holds Try.pinned (OpenSpec.ofChange raftlogMergeWrong)

/-- 'folkmootlaw16.RaftlogMerged': WHATEVER THE INPUT: true; the input reads as it did. -/
def raftlogMergedSpec : ChangeSpec := { name := "raftlogMerged", fn := fun _ => fun
  | [d1, d2, d3, d4] => { results := [.lit (.bool true)], args := [d1, d2, d3, d4] }
  | _ => none }
def raftlogMergedRow : OpenClaim := { program := "ytbckpiamabnkmaa", sum := "db8b54d21f7059334a41a27247107079759f94743496c797dadc4f9c0a556cd0", func := "folkmoot/folkmootlaw16.RaftlogMerged", spec := "raftlogMerged", unfollowed := true, recurses := true, apart := false }
def RaftlogMergedSaid : Prop := raftlogMergedRow.holds Try.pinned (OpenSpec.ofChange raftlogMergedSpec)

/-- ITS FALSE NEIGHBOUR: 'it returns false'. Refute it at one input. -/
def raftlogMergedWrong : ChangeSpec := { name := "raftlogMerged", fn := fun _ => fun
  | [d1, d2, d3, d4] => { results := [.lit (.bool false)], args := [d1, d2, d3, d4] }
  | _ => none }
def RaftlogMergedWrongFalsely : Prop := raftlogMergedRow.holds Try.pinned (OpenSpec.ofChange raftlogMergedWrong)

/-- 'folkmootlaw06.AlarmRuns': WHATEVER THE INPUT: true; the input reads as it did. -/
def alarmRunsSpec : ChangeSpec := { name := "alarmRuns", fn := fun _ => fun
  | [d] => { results := [.lit (.bool true)], args := [d] }
  | _ => none }
def alarmRunsRow : OpenClaim := { program := "ytbckpiamabnkmaa", sum := "db8b54d21f7059334a41a27247107079759f94743496c797dadc4f9c0a556cd0", func := "folkmoot/folkmootlaw06.AlarmRuns", spec := "alarmRuns", unfollowed := true, recurses := true, apart := false }
def AlarmRunsSaid : Prop := alarmRunsRow.holds Try.pinned (OpenSpec.ofChange alarmRunsSpec)

/-- ITS FALSE NEIGHBOUR: 'it returns false'. Refute it at one input. -/
def alarmRunsWrong : ChangeSpec := { name := "alarmRuns", fn := fun _ => fun
  | [d] => { results := [.lit (.bool false)], args := [d] }
  | _ => none }
def AlarmRunsWrongFalsely : Prop := alarmRunsRow.holds Try.pinned (OpenSpec.ofChange alarmRunsWrong)

/-- 'folkmootlaw06.AlarmOnce': WHATEVER THE INPUT: true; the input reads as it did. -/
def alarmOnceSpec : ChangeSpec := { name := "alarmOnce", fn := fun _ => fun
  | [d1, d2] => { results := [.lit (.bool true)], args := [d1, d2] }
  | _ => none }
def alarmOnceRow : OpenClaim := { program := "ytbckpiamabnkmaa", sum := "db8b54d21f7059334a41a27247107079759f94743496c797dadc4f9c0a556cd0", func := "folkmoot/folkmootlaw06.AlarmOnce", spec := "alarmOnce", unfollowed := true, recurses := true, apart := false }
def AlarmOnceSaid : Prop := alarmOnceRow.holds Try.pinned (OpenSpec.ofChange alarmOnceSpec)

/-- ITS FALSE NEIGHBOUR: 'it returns false'. Refute it at one input. -/
def alarmOnceWrong : ChangeSpec := { name := "alarmOnce", fn := fun _ => fun
  | [d1, d2] => { results := [.lit (.bool false)], args := [d1, d2] }
  | _ => none }
def AlarmOnceWrongFalsely : Prop := alarmOnceRow.holds Try.pinned (OpenSpec.ofChange alarmOnceWrong)

/-- 'folkmootlaw06.AlarmForgets': WHATEVER THE INPUT: true; the input reads as it did. -/
def alarmForgetsSpec : ChangeSpec := { name := "alarmForgets", fn := fun _ => fun
  | [d1, d2, d3, d4] => { results := [.lit (.bool true)], args := [d1, d2, d3, d4] }
  | _ => none }
def alarmForgetsRow : OpenClaim := { program := "ytbckpiamabnkmaa", sum := "db8b54d21f7059334a41a27247107079759f94743496c797dadc4f9c0a556cd0", func := "folkmoot/folkmootlaw06.AlarmForgets", spec := "alarmForgets", unfollowed := true, recurses := true, apart := false }
def AlarmForgetsSaid : Prop := alarmForgetsRow.holds Try.pinned (OpenSpec.ofChange alarmForgetsSpec)

/-- ITS FALSE NEIGHBOUR: 'it returns false'. Refute it at one input. -/
def alarmForgetsWrong : ChangeSpec := { name := "alarmForgets", fn := fun _ => fun
  | [d1, d2, d3, d4] => { results := [.lit (.bool false)], args := [d1, d2, d3, d4] }
  | _ => none }
def AlarmForgetsWrongFalsely : Prop := alarmForgetsRow.holds Try.pinned (OpenSpec.ofChange alarmForgetsWrong)

/-- 'folkmootlaw06.AlarmNil': WHATEVER THE INPUT: true; the input reads as it did. -/
def alarmNilSpec : ChangeSpec := { name := "alarmNil", fn := fun _ => fun
  | [d1, d2] => { results := [.lit (.bool true)], args := [d1, d2] }
  | _ => none }
def alarmNilRow : OpenClaim := { program := "ytbckpiamabnkmaa", sum := "db8b54d21f7059334a41a27247107079759f94743496c797dadc4f9c0a556cd0", func := "folkmoot/folkmootlaw06.AlarmNil", spec := "alarmNil", unfollowed := true, recurses := true, apart := false }
def AlarmNilSaid : Prop := alarmNilRow.holds Try.pinned (OpenSpec.ofChange alarmNilSpec)

/-- ITS FALSE NEIGHBOUR: 'it returns false'. Refute it at one input. -/
def alarmNilWrong : ChangeSpec := { name := "alarmNil", fn := fun _ => fun
  | [d1, d2] => { results := [.lit (.bool false)], args := [d1, d2] }
  | _ => none }
def AlarmNilWrongFalsely : Prop := alarmNilRow.holds Try.pinned (OpenSpec.ofChange alarmNilWrong)

/-- 'folkmootlaw13.DiskSynced': WHATEVER THE INPUT: true; the input reads as it did. -/
def diskSyncedSpec : ChangeSpec := { name := "diskSynced", fn := fun _ => fun
  | [d1, d2, d3, d4] => { results := [.lit (.bool true)], args := [d1, d2, d3, d4] }
  | _ => none }
def diskSyncedRow : OpenClaim := { program := "ytbckpiamabnkmaa", sum := "db8b54d21f7059334a41a27247107079759f94743496c797dadc4f9c0a556cd0", func := "folkmoot/folkmootlaw13.DiskSynced", spec := "diskSynced", inPlace := ["internal/bytealg.IndexByteString", "maps.clone"], unfollowed := true, recurses := true, apart := false }
def DiskSyncedSaid : Prop := diskSyncedRow.holds Try.pinned (OpenSpec.ofChange diskSyncedSpec)

/-- ITS FALSE NEIGHBOUR: 'it returns false'. Refute it at one input. -/
def diskSyncedWrong : ChangeSpec := { name := "diskSynced", fn := fun _ => fun
  | [d1, d2, d3, d4] => { results := [.lit (.bool false)], args := [d1, d2, d3, d4] }
  | _ => none }
def DiskSyncedWrongFalsely : Prop := diskSyncedRow.holds Try.pinned (OpenSpec.ofChange diskSyncedWrong)

/-- 'folkmootlaw17.MemberAsks': WHATEVER THE INPUT: true; the input reads as it did. -/
def memberAsksSpec : ChangeSpec := { name := "memberAsks", fn := fun _ => fun
  | [d1, d2, d3] => { results := [.lit (.bool true)], args := [d1, d2, d3] }
  | _ => none }
def memberAsksRow : OpenClaim := { program := "ytbckpiamabnkmaa", sum := "db8b54d21f7059334a41a27247107079759f94743496c797dadc4f9c0a556cd0", func := "folkmoot/folkmootlaw17.MemberAsks", spec := "memberAsks", unfollowed := true, recurses := true, apart := false }
def MemberAsksSaid : Prop := memberAsksRow.holds Try.pinned (OpenSpec.ofChange memberAsksSpec)

/-- ITS FALSE NEIGHBOUR: 'it returns false'. Refute it at one input. -/
def memberAsksWrong : ChangeSpec := { name := "memberAsks", fn := fun _ => fun
  | [d1, d2, d3] => { results := [.lit (.bool false)], args := [d1, d2, d3] }
  | _ => none }
def MemberAsksWrongFalsely : Prop := memberAsksRow.holds Try.pinned (OpenSpec.ofChange memberAsksWrong)

/-- 'folkmootlaw17.MemberApplies': WHATEVER THE INPUT: true; the input reads as it did. -/
def memberAppliesSpec : ChangeSpec := { name := "memberApplies", fn := fun _ => fun
  | [d1, d2] => { results := [.lit (.bool true)], args := [d1, d2] }
  | _ => none }
def memberAppliesRow : OpenClaim := { program := "ytbckpiamabnkmaa", sum := "db8b54d21f7059334a41a27247107079759f94743496c797dadc4f9c0a556cd0", func := "folkmoot/folkmootlaw17.MemberApplies", spec := "memberApplies", unfollowed := true, recurses := true, apart := false }
def MemberAppliesSaid : Prop := memberAppliesRow.holds Try.pinned (OpenSpec.ofChange memberAppliesSpec)

/-- ITS FALSE NEIGHBOUR: 'it returns false'. Refute it at one input. -/
def memberAppliesWrong : ChangeSpec := { name := "memberApplies", fn := fun _ => fun
  | [d1, d2] => { results := [.lit (.bool false)], args := [d1, d2] }
  | _ => none }
def MemberAppliesWrongFalsely : Prop := memberAppliesRow.holds Try.pinned (OpenSpec.ofChange memberAppliesWrong)

/-- 'folkmootlaw17.MemberMeets': WHATEVER THE INPUT: true; the input reads as it did. -/
def memberMeetsSpec : ChangeSpec := { name := "memberMeets", fn := fun _ => fun
  | [d1, d2, d3, d4] => { results := [.lit (.bool true)], args := [d1, d2, d3, d4] }
  | _ => none }
def memberMeetsRow : OpenClaim := { program := "ytbckpiamabnkmaa", sum := "db8b54d21f7059334a41a27247107079759f94743496c797dadc4f9c0a556cd0", func := "folkmoot/folkmootlaw17.MemberMeets", spec := "memberMeets", unfollowed := true, recurses := true, apart := false }
def MemberMeetsSaid : Prop := memberMeetsRow.holds Try.pinned (OpenSpec.ofChange memberMeetsSpec)

/-- ITS FALSE NEIGHBOUR: 'it returns false'. Refute it at one input. -/
def memberMeetsWrong : ChangeSpec := { name := "memberMeets", fn := fun _ => fun
  | [d1, d2, d3, d4] => { results := [.lit (.bool false)], args := [d1, d2, d3, d4] }
  | _ => none }
def MemberMeetsWrongFalsely : Prop := memberMeetsRow.holds Try.pinned (OpenSpec.ofChange memberMeetsWrong)

/-- 'folkmootlaw17.MemberBack': WHATEVER THE INPUT: true; the input reads as it did. -/
def memberBackSpec : ChangeSpec := { name := "memberBack", fn := fun _ => fun
  | [d1, d2] => { results := [.lit (.bool true)], args := [d1, d2] }
  | _ => none }
def memberBackRow : OpenClaim := { program := "ytbckpiamabnkmaa", sum := "db8b54d21f7059334a41a27247107079759f94743496c797dadc4f9c0a556cd0", func := "folkmoot/folkmootlaw17.MemberBack", spec := "memberBack", unfollowed := true, recurses := true, apart := false }
def MemberBackSaid : Prop := memberBackRow.holds Try.pinned (OpenSpec.ofChange memberBackSpec)

/-- ITS FALSE NEIGHBOUR: 'it returns false'. Refute it at one input. -/
def memberBackWrong : ChangeSpec := { name := "memberBack", fn := fun _ => fun
  | [d1, d2] => { results := [.lit (.bool false)], args := [d1, d2] }
  | _ => none }
def MemberBackWrongFalsely : Prop := memberBackRow.holds Try.pinned (OpenSpec.ofChange memberBackWrong)

/-- 'folkmootlaw13.DiskQuiet': WHATEVER THE INPUT: true; the input reads as it did. -/
def diskQuietSpec : ChangeSpec := { name := "diskQuiet", fn := fun _ => fun
  | [d] => { results := [.lit (.bool true)], args := [d] }
  | _ => none }
def diskQuietRow : OpenClaim := { program := "ytbckpiamabnkmaa", sum := "db8b54d21f7059334a41a27247107079759f94743496c797dadc4f9c0a556cd0", func := "folkmoot/folkmootlaw13.DiskQuiet", spec := "diskQuiet", inPlace := ["internal/bytealg.IndexByteString", "maps.clone"], unfollowed := true, recurses := true, apart := false }
def DiskQuietSaid : Prop := diskQuietRow.holds Try.pinned (OpenSpec.ofChange diskQuietSpec)

/-- ITS FALSE NEIGHBOUR: 'it returns false'. Refute it at one input. -/
def diskQuietWrong : ChangeSpec := { name := "diskQuiet", fn := fun _ => fun
  | [d] => { results := [.lit (.bool false)], args := [d] }
  | _ => none }
def DiskQuietWrongFalsely : Prop := diskQuietRow.holds Try.pinned (OpenSpec.ofChange diskQuietWrong)

/-- 'folkmootlaw13.DiskRuns': WHATEVER THE INPUT: true; the input reads as it did. -/
def diskRunsSpec : ChangeSpec := { name := "diskRuns", fn := fun _ => fun
  | [d1, d2] => { results := [.lit (.bool true)], args := [d1, d2] }
  | _ => none }
def diskRunsRow : OpenClaim := { program := "ytbckpiamabnkmaa", sum := "db8b54d21f7059334a41a27247107079759f94743496c797dadc4f9c0a556cd0", func := "folkmoot/folkmootlaw13.DiskRuns", spec := "diskRuns", inPlace := ["internal/bytealg.IndexByteString", "maps.clone"], unfollowed := true, recurses := true, apart := false }
def DiskRunsSaid : Prop := diskRunsRow.holds Try.pinned (OpenSpec.ofChange diskRunsSpec)

/-- ITS FALSE NEIGHBOUR: 'it returns false'. Refute it at one input. -/
def diskRunsWrong : ChangeSpec := { name := "diskRuns", fn := fun _ => fun
  | [d1, d2] => { results := [.lit (.bool false)], args := [d1, d2] }
  | _ => none }
def DiskRunsWrongFalsely : Prop := diskRunsRow.holds Try.pinned (OpenSpec.ofChange diskRunsWrong)

/-- 'folkmootlaw13.DiskStops': WHATEVER THE INPUT: true; the input reads as it did. -/
def diskStopsSpec : ChangeSpec := { name := "diskStops", fn := fun _ => fun
  | [d1, d2] => { results := [.lit (.bool true)], args := [d1, d2] }
  | _ => none }
def diskStopsRow : OpenClaim := { program := "ytbckpiamabnkmaa", sum := "db8b54d21f7059334a41a27247107079759f94743496c797dadc4f9c0a556cd0", func := "folkmoot/folkmootlaw13.DiskStops", spec := "diskStops", inPlace := ["internal/bytealg.IndexByteString", "maps.clone"], unfollowed := true, recurses := true, apart := false }
def DiskStopsSaid : Prop := diskStopsRow.holds Try.pinned (OpenSpec.ofChange diskStopsSpec)

/-- ITS FALSE NEIGHBOUR: 'it returns false'. Refute it at one input. -/
def diskStopsWrong : ChangeSpec := { name := "diskStops", fn := fun _ => fun
  | [d1, d2] => { results := [.lit (.bool false)], args := [d1, d2] }
  | _ => none }
def DiskStopsWrongFalsely : Prop := diskStopsRow.holds Try.pinned (OpenSpec.ofChange diskStopsWrong)

/-- 'folkmootlaw13.DiskNil': WHATEVER THE INPUT: true; the input reads as it did. -/
def diskNilSpec : ChangeSpec := { name := "diskNil", fn := fun _ => fun
  | [d] => { results := [.lit (.bool true)], args := [d] }
  | _ => none }
def diskNilRow : OpenClaim := { program := "ytbckpiamabnkmaa", sum := "db8b54d21f7059334a41a27247107079759f94743496c797dadc4f9c0a556cd0", func := "folkmoot/folkmootlaw13.DiskNil", spec := "diskNil", inPlace := ["internal/bytealg.IndexByteString", "maps.clone"], unfollowed := true, recurses := true, apart := false }
def DiskNilSaid : Prop := diskNilRow.holds Try.pinned (OpenSpec.ofChange diskNilSpec)

/-- ITS FALSE NEIGHBOUR: 'it returns false'. Refute it at one input. -/
def diskNilWrong : ChangeSpec := { name := "diskNil", fn := fun _ => fun
  | [d] => { results := [.lit (.bool false)], args := [d] }
  | _ => none }
def DiskNilWrongFalsely : Prop := diskNilRow.holds Try.pinned (OpenSpec.ofChange diskNilWrong)

/-- 'folkmootlaw20.LeaseOver': WHATEVER THE INPUT: true; the input reads as it did. -/
def leaseOverSpec : ChangeSpec := { name := "leaseOver", fn := fun _ => fun
  | [d1, d2, d3, d4] => { results := [.lit (.bool true)], args := [d1, d2, d3, d4] }
  | _ => none }
def leaseOverRow : OpenClaim := { program := "ytbckpiamabnkmaa", sum := "db8b54d21f7059334a41a27247107079759f94743496c797dadc4f9c0a556cd0", func := "folkmoot/folkmootlaw20.LeaseOver", spec := "leaseOver", unfollowed := true, recurses := true, apart := false }
def LeaseOverSaid : Prop := leaseOverRow.holds Try.pinned (OpenSpec.ofChange leaseOverSpec)

/-- ITS FALSE NEIGHBOUR: 'it returns false'. Refute it at one input. -/
def leaseOverWrong : ChangeSpec := { name := "leaseOver", fn := fun _ => fun
  | [d1, d2, d3, d4] => { results := [.lit (.bool false)], args := [d1, d2, d3, d4] }
  | _ => none }
def LeaseOverWrongFalsely : Prop := leaseOverRow.holds Try.pinned (OpenSpec.ofChange leaseOverWrong)

/- THE SECOND FORM. 'bulk': how many values and letters a reading holds, each counted each time it is reached (what is shared counts as often as it is met; a slice's spare places count too). A statement '..UptoSaid' is the law's where the arguments, and the package variables that the reading takes, are together of bulk at most 1048576: NARROWER than '..Said'. Prove '..Said' where nothing that the law and all that it calls make is longer than what came in: it says more and counts as full. Else prove '..UptoSaid'. A law counts once. -/
mutual
def uptoBulk {H : Type} : DataW H → Nat
  | .lit (.string bytes) => bytes.length + 1
  | .lit _ => 1
  | .nil => 1
  | .ptr d => uptoBulk d + 1
  | .slice elems spare => uptoBulkAll elems + uptoBulkAll spare + 1
  | .agg parts => uptoBulkAll parts + 1
  | .iface _ d => uptoBulk d + 1
  | .map entries => uptoBulkEntries entries + 1
  | .held _ => 1
def uptoBulkAll {H : Type} : List (DataW H) → Nat
  | [] => 0
  | d :: r => uptoBulk d + uptoBulkAll r
def uptoBulkEntries {H : Type} : List (Lit × DataW H) → Nat
  | [] => 0
  | x :: r => uptoBulkEntry x + uptoBulkEntries r
def uptoBulkEntry {H : Type} : Lit × DataW H → Nat
  | (.string bytes, d) => bytes.length + uptoBulk d + 1
  | (_, d) => uptoBulk d + 1
 end
def uptoSmall : (H : Type) → List (DataW H) → Bool := fun _ ds => decide (uptoBulkAll ds ≤ 1048576)
def OpenSpec.upto (s : _root_.Go.ChangeSpec) : _root_.Go.OpenSpec := { _root_.Go.OpenSpec.ofChange s with cond := some uptoSmall }

/-- 'folkmootlaw16.RaftlogLast', WHERE WHAT IT READS IS OF BULK AT MOST 1048576: true; the input reads as it did. -/
def raftlogLastUptoRow : OpenClaim := { program := "ytbckpiamabnkmaa", sum := "db8b54d21f7059334a41a27247107079759f94743496c797dadc4f9c0a556cd0", func := "folkmoot/folkmootlaw16.RaftlogLast", spec := "raftlogLast", unfollowed := true, recurses := true, apart := false, narrowed := true }
def RaftlogLastUptoSaid : Prop := raftlogLastUptoRow.holds Try.pinned (OpenSpec.upto raftlogLastSpec)

/-- 'folkmootlaw16.RaftlogTerm', WHERE WHAT IT READS IS OF BULK AT MOST 1048576: true; the input reads as it did. -/
def raftlogTermUptoRow : OpenClaim := { program := "ytbckpiamabnkmaa", sum := "db8b54d21f7059334a41a27247107079759f94743496c797dadc4f9c0a556cd0", func := "folkmoot/folkmootlaw16.RaftlogTerm", spec := "raftlogTerm", unfollowed := true, recurses := true, apart := false, narrowed := true }
def RaftlogTermUptoSaid : Prop := raftlogTermUptoRow.holds Try.pinned (OpenSpec.upto raftlogTermSpec)

/-- 'folkmootlaw20.LeaseSteady', WHERE WHAT IT READS IS OF BULK AT MOST 1048576: true; the input reads as it did. -/
def leaseSteadyUptoRow : OpenClaim := { program := "ytbckpiamabnkmaa", sum := "db8b54d21f7059334a41a27247107079759f94743496c797dadc4f9c0a556cd0", func := "folkmoot/folkmootlaw20.LeaseSteady", spec := "leaseSteady", unfollowed := true, recurses := true, apart := false, narrowed := true }
def LeaseSteadyUptoSaid : Prop := leaseSteadyUptoRow.holds Try.pinned (OpenSpec.upto leaseSteadySpec)

/-- 'folkmootlaw20.LeaseStretch', WHERE WHAT IT READS IS OF BULK AT MOST 1048576: true; the input reads as it did. -/
def leaseStretchUptoRow : OpenClaim := { program := "ytbckpiamabnkmaa", sum := "db8b54d21f7059334a41a27247107079759f94743496c797dadc4f9c0a556cd0", func := "folkmoot/folkmootlaw20.LeaseStretch", spec := "leaseStretch", unfollowed := true, recurses := true, apart := false, narrowed := true }
def LeaseStretchUptoSaid : Prop := leaseStretchUptoRow.holds Try.pinned (OpenSpec.upto leaseStretchSpec)

/-- 'folkmootlaw16.RaftlogNewer', WHERE WHAT IT READS IS OF BULK AT MOST 1048576: true; the input reads as it did. -/
def raftlogNewerUptoRow : OpenClaim := { program := "ytbckpiamabnkmaa", sum := "db8b54d21f7059334a41a27247107079759f94743496c797dadc4f9c0a556cd0", func := "folkmoot/folkmootlaw16.RaftlogNewer", spec := "raftlogNewer", unfollowed := true, recurses := true, apart := false, narrowed := true }
def RaftlogNewerUptoSaid : Prop := raftlogNewerUptoRow.holds Try.pinned (OpenSpec.upto raftlogNewerSpec)

/-- 'folkmootlaw16.RaftlogSlice', WHERE WHAT IT READS IS OF BULK AT MOST 1048576: true; the input reads as it did. -/
def raftlogSliceUptoRow : OpenClaim := { program := "ytbckpiamabnkmaa", sum := "db8b54d21f7059334a41a27247107079759f94743496c797dadc4f9c0a556cd0", func := "folkmoot/folkmootlaw16.RaftlogSlice", spec := "raftlogSlice", unfollowed := true, recurses := true, apart := false, narrowed := true }
def RaftlogSliceUptoSaid : Prop := raftlogSliceUptoRow.holds Try.pinned (OpenSpec.upto raftlogSliceSpec)

/-- 'folkmootlaw20.LeaseChecks', WHERE WHAT IT READS IS OF BULK AT MOST 1048576: true; the input reads as it did. -/
def leaseChecksUptoRow : OpenClaim := { program := "ytbckpiamabnkmaa", sum := "db8b54d21f7059334a41a27247107079759f94743496c797dadc4f9c0a556cd0", func := "folkmoot/folkmootlaw20.LeaseChecks", spec := "leaseChecks", unfollowed := true, recurses := true, apart := false, narrowed := true }
def LeaseChecksUptoSaid : Prop := leaseChecksUptoRow.holds Try.pinned (OpenSpec.upto leaseChecksSpec)

/-- 'folkmootlaw20.LeaseAsks', WHERE WHAT IT READS IS OF BULK AT MOST 1048576: true; the input reads as it did. -/
def leaseAsksUptoRow : OpenClaim := { program := "ytbckpiamabnkmaa", sum := "db8b54d21f7059334a41a27247107079759f94743496c797dadc4f9c0a556cd0", func := "folkmoot/folkmootlaw20.LeaseAsks", spec := "leaseAsks", unfollowed := true, recurses := true, apart := false, narrowed := true }
def LeaseAsksUptoSaid : Prop := leaseAsksUptoRow.holds Try.pinned (OpenSpec.upto leaseAsksSpec)

/-- 'folkmootlaw20.LeaseTakes', WHERE WHAT IT READS IS OF BULK AT MOST 1048576: true; the input reads as it did. -/
def leaseTakesUptoRow : OpenClaim := { program := "ytbckpiamabnkmaa", sum := "db8b54d21f7059334a41a27247107079759f94743496c797dadc4f9c0a556cd0", func := "folkmoot/folkmootlaw20.LeaseTakes", spec := "leaseTakes", unfollowed := true, recurses := true, apart := false, narrowed := true }
def LeaseTakesUptoSaid : Prop := leaseTakesUptoRow.holds Try.pinned (OpenSpec.upto leaseTakesSpec)

/-- 'folkmootlaw16.RaftlogMerge', WHERE WHAT IT READS IS OF BULK AT MOST 1048576: true; the input reads as it did. -/
def raftlogMergeUptoRow : OpenClaim := { program := "ytbckpiamabnkmaa", sum := "db8b54d21f7059334a41a27247107079759f94743496c797dadc4f9c0a556cd0", func := "folkmoot/folkmootlaw16.RaftlogMerge", spec := "raftlogMerge", unfollowed := true, recurses := true, apart := false, narrowed := true }
def RaftlogMergeUptoSaid : Prop := raftlogMergeUptoRow.holds Try.pinned (OpenSpec.upto raftlogMergeSpec)

/-- 'folkmootlaw16.RaftlogMerged', WHERE WHAT IT READS IS OF BULK AT MOST 1048576: true; the input reads as it did. -/
def raftlogMergedUptoRow : OpenClaim := { program := "ytbckpiamabnkmaa", sum := "db8b54d21f7059334a41a27247107079759f94743496c797dadc4f9c0a556cd0", func := "folkmoot/folkmootlaw16.RaftlogMerged", spec := "raftlogMerged", unfollowed := true, recurses := true, apart := false, narrowed := true }
def RaftlogMergedUptoSaid : Prop := raftlogMergedUptoRow.holds Try.pinned (OpenSpec.upto raftlogMergedSpec)

/-- 'folkmootlaw06.AlarmRuns', WHERE WHAT IT READS IS OF BULK AT MOST 1048576: true; the input reads as it did. -/
def alarmRunsUptoRow : OpenClaim := { program := "ytbckpiamabnkmaa", sum := "db8b54d21f7059334a41a27247107079759f94743496c797dadc4f9c0a556cd0", func := "folkmoot/folkmootlaw06.AlarmRuns", spec := "alarmRuns", unfollowed := true, recurses := true, apart := false, narrowed := true }
def AlarmRunsUptoSaid : Prop := alarmRunsUptoRow.holds Try.pinned (OpenSpec.upto alarmRunsSpec)

/-- 'folkmootlaw06.AlarmOnce', WHERE WHAT IT READS IS OF BULK AT MOST 1048576: true; the input reads as it did. -/
def alarmOnceUptoRow : OpenClaim := { program := "ytbckpiamabnkmaa", sum := "db8b54d21f7059334a41a27247107079759f94743496c797dadc4f9c0a556cd0", func := "folkmoot/folkmootlaw06.AlarmOnce", spec := "alarmOnce", unfollowed := true, recurses := true, apart := false, narrowed := true }
def AlarmOnceUptoSaid : Prop := alarmOnceUptoRow.holds Try.pinned (OpenSpec.upto alarmOnceSpec)

/-- 'folkmootlaw06.AlarmForgets', WHERE WHAT IT READS IS OF BULK AT MOST 1048576: true; the input reads as it did. -/
def alarmForgetsUptoRow : OpenClaim := { program := "ytbckpiamabnkmaa", sum := "db8b54d21f7059334a41a27247107079759f94743496c797dadc4f9c0a556cd0", func := "folkmoot/folkmootlaw06.AlarmForgets", spec := "alarmForgets", unfollowed := true, recurses := true, apart := false, narrowed := true }
def AlarmForgetsUptoSaid : Prop := alarmForgetsUptoRow.holds Try.pinned (OpenSpec.upto alarmForgetsSpec)

/-- 'folkmootlaw06.AlarmNil', WHERE WHAT IT READS IS OF BULK AT MOST 1048576: true; the input reads as it did. -/
def alarmNilUptoRow : OpenClaim := { program := "ytbckpiamabnkmaa", sum := "db8b54d21f7059334a41a27247107079759f94743496c797dadc4f9c0a556cd0", func := "folkmoot/folkmootlaw06.AlarmNil", spec := "alarmNil", unfollowed := true, recurses := true, apart := false, narrowed := true }
def AlarmNilUptoSaid : Prop := alarmNilUptoRow.holds Try.pinned (OpenSpec.upto alarmNilSpec)

/-- 'folkmootlaw13.DiskSynced', WHERE WHAT IT READS IS OF BULK AT MOST 1048576: true; the input reads as it did. -/
def diskSyncedUptoRow : OpenClaim := { program := "ytbckpiamabnkmaa", sum := "db8b54d21f7059334a41a27247107079759f94743496c797dadc4f9c0a556cd0", func := "folkmoot/folkmootlaw13.DiskSynced", spec := "diskSynced", inPlace := ["internal/bytealg.IndexByteString", "maps.clone"], unfollowed := true, recurses := true, apart := false, narrowed := true }
def DiskSyncedUptoSaid : Prop := diskSyncedUptoRow.holds Try.pinned (OpenSpec.upto diskSyncedSpec)

/-- 'folkmootlaw17.MemberAsks', WHERE WHAT IT READS IS OF BULK AT MOST 1048576: true; the input reads as it did. -/
def memberAsksUptoRow : OpenClaim := { program := "ytbckpiamabnkmaa", sum := "db8b54d21f7059334a41a27247107079759f94743496c797dadc4f9c0a556cd0", func := "folkmoot/folkmootlaw17.MemberAsks", spec := "memberAsks", unfollowed := true, recurses := true, apart := false, narrowed := true }
def MemberAsksUptoSaid : Prop := memberAsksUptoRow.holds Try.pinned (OpenSpec.upto memberAsksSpec)

/-- 'folkmootlaw17.MemberApplies', WHERE WHAT IT READS IS OF BULK AT MOST 1048576: true; the input reads as it did. -/
def memberAppliesUptoRow : OpenClaim := { program := "ytbckpiamabnkmaa", sum := "db8b54d21f7059334a41a27247107079759f94743496c797dadc4f9c0a556cd0", func := "folkmoot/folkmootlaw17.MemberApplies", spec := "memberApplies", unfollowed := true, recurses := true, apart := false, narrowed := true }
def MemberAppliesUptoSaid : Prop := memberAppliesUptoRow.holds Try.pinned (OpenSpec.upto memberAppliesSpec)

/-- 'folkmootlaw17.MemberMeets', WHERE WHAT IT READS IS OF BULK AT MOST 1048576: true; the input reads as it did. -/
def memberMeetsUptoRow : OpenClaim := { program := "ytbckpiamabnkmaa", sum := "db8b54d21f7059334a41a27247107079759f94743496c797dadc4f9c0a556cd0", func := "folkmoot/folkmootlaw17.MemberMeets", spec := "memberMeets", unfollowed := true, recurses := true, apart := false, narrowed := true }
def MemberMeetsUptoSaid : Prop := memberMeetsUptoRow.holds Try.pinned (OpenSpec.upto memberMeetsSpec)

/-- 'folkmootlaw17.MemberBack', WHERE WHAT IT READS IS OF BULK AT MOST 1048576: true; the input reads as it did. -/
def memberBackUptoRow : OpenClaim := { program := "ytbckpiamabnkmaa", sum := "db8b54d21f7059334a41a27247107079759f94743496c797dadc4f9c0a556cd0", func := "folkmoot/folkmootlaw17.MemberBack", spec := "memberBack", unfollowed := true, recurses := true, apart := false, narrowed := true }
def MemberBackUptoSaid : Prop := memberBackUptoRow.holds Try.pinned (OpenSpec.upto memberBackSpec)

/-- 'folkmootlaw13.DiskQuiet', WHERE WHAT IT READS IS OF BULK AT MOST 1048576: true; the input reads as it did. -/
def diskQuietUptoRow : OpenClaim := { program := "ytbckpiamabnkmaa", sum := "db8b54d21f7059334a41a27247107079759f94743496c797dadc4f9c0a556cd0", func := "folkmoot/folkmootlaw13.DiskQuiet", spec := "diskQuiet", inPlace := ["internal/bytealg.IndexByteString", "maps.clone"], unfollowed := true, recurses := true, apart := false, narrowed := true }
def DiskQuietUptoSaid : Prop := diskQuietUptoRow.holds Try.pinned (OpenSpec.upto diskQuietSpec)

/-- 'folkmootlaw13.DiskRuns', WHERE WHAT IT READS IS OF BULK AT MOST 1048576: true; the input reads as it did. -/
def diskRunsUptoRow : OpenClaim := { program := "ytbckpiamabnkmaa", sum := "db8b54d21f7059334a41a27247107079759f94743496c797dadc4f9c0a556cd0", func := "folkmoot/folkmootlaw13.DiskRuns", spec := "diskRuns", inPlace := ["internal/bytealg.IndexByteString", "maps.clone"], unfollowed := true, recurses := true, apart := false, narrowed := true }
def DiskRunsUptoSaid : Prop := diskRunsUptoRow.holds Try.pinned (OpenSpec.upto diskRunsSpec)

/-- 'folkmootlaw13.DiskStops', WHERE WHAT IT READS IS OF BULK AT MOST 1048576: true; the input reads as it did. -/
def diskStopsUptoRow : OpenClaim := { program := "ytbckpiamabnkmaa", sum := "db8b54d21f7059334a41a27247107079759f94743496c797dadc4f9c0a556cd0", func := "folkmoot/folkmootlaw13.DiskStops", spec := "diskStops", inPlace := ["internal/bytealg.IndexByteString", "maps.clone"], unfollowed := true, recurses := true, apart := false, narrowed := true }
def DiskStopsUptoSaid : Prop := diskStopsUptoRow.holds Try.pinned (OpenSpec.upto diskStopsSpec)

/-- 'folkmootlaw13.DiskNil', WHERE WHAT IT READS IS OF BULK AT MOST 1048576: true; the input reads as it did. -/
def diskNilUptoRow : OpenClaim := { program := "ytbckpiamabnkmaa", sum := "db8b54d21f7059334a41a27247107079759f94743496c797dadc4f9c0a556cd0", func := "folkmoot/folkmootlaw13.DiskNil", spec := "diskNil", inPlace := ["internal/bytealg.IndexByteString", "maps.clone"], unfollowed := true, recurses := true, apart := false, narrowed := true }
def DiskNilUptoSaid : Prop := diskNilUptoRow.holds Try.pinned (OpenSpec.upto diskNilSpec)

/-- 'folkmootlaw20.LeaseOver', WHERE WHAT IT READS IS OF BULK AT MOST 1048576: true; the input reads as it did. -/
def leaseOverUptoRow : OpenClaim := { program := "ytbckpiamabnkmaa", sum := "db8b54d21f7059334a41a27247107079759f94743496c797dadc4f9c0a556cd0", func := "folkmoot/folkmootlaw20.LeaseOver", spec := "leaseOver", unfollowed := true, recurses := true, apart := false, narrowed := true }
def LeaseOverUptoSaid : Prop := leaseOverUptoRow.holds Try.pinned (OpenSpec.upto leaseOverSpec)

end Rows
end Go.Proofs.Ytbckpiamabnkmaa
