/-
  No cell of these rows narrows 'for every input' (looked for: loops, veiled, ifaces, maps, wideKeys, modest, calm, conditions, laid).
  DERIVED. THE GIVEN ROWS OF THIS SEAT. 13 by the template 'for every input the law returns true; each argument reads behind the call as it read before'; 0 by the template 'total and deterministic' (their statements: YtfioogmjhfdjhaaTotals.lean).
  GIVEN WITH THE SEED: the statements are not yours to turn. If you find one false, say at which input.
  Laid BY PROGRAM, IN A SANDBOX (cutbox-rows.mjs): the forced cells as the released guide's own fill.sh prints them over the translation c1f1406e469a744e… (all of the seat's roots in one cut). By AI agents, Wed Nov 11 2026. No macro, syntax, notation, axiom, sorry.
-/
import Derived.Test.YtfioogmjhfdjhaaChecked
import GoSem.Claim
import GoSem.ClaimJoined
import GoSem.ClaimMapViews
import Derived.JoinedTies
import Derived.KernelRfl
namespace Go.Proofs.Ytfioogmjhfdjhaa
/- THE CELL 'sum', in the pinned program and in every row, IS THE sha256 OF THE DUMP (.gsa) THAT YtfioogmjhfdjhaaProg.lean LOADS. Nothing in Lean hashes anything: it is a label: what it is worth is what the hold of that sum in a sandbox is worth. -/
noncomputable def Try.pinned : Pinned := { name := "ytfioogmjhfdjhaa", sum := "c1f1406e469a744e0473c9af7aaa466dbd2dd2fe600249f7417ad86b98e6d696", checked := Try.checked }
namespace Rows
def none {H : Type} : Left H := { results := [], args := [] }

/-- 'folkmootlaw05.QuorumMajority': WHATEVER THE INPUT: true; the input reads as it did. -/
def quorumMajoritySpec : ChangeSpec := { name := "quorumMajority", fn := fun _ => fun
  | [d] => { results := [.lit (.bool true)], args := [d] }
  | _ => none }
def quorumMajorityRow : OpenClaim := { program := "ytfioogmjhfdjhaa", sum := "c1f1406e469a744e0473c9af7aaa466dbd2dd2fe600249f7417ad86b98e6d696", func := "folkmoot/folkmootlaw05.QuorumMajority", spec := "quorumMajority", apart := false }
def QuorumMajoritySaid : Prop := quorumMajorityRow.holds Try.pinned (OpenSpec.ofChange quorumMajoritySpec)

/-- ITS FALSE NEIGHBOUR: 'it returns false'. Refute it at one input. -/
def quorumMajorityWrong : ChangeSpec := { name := "quorumMajority", fn := fun _ => fun
  | [d] => { results := [.lit (.bool false)], args := [d] }
  | _ => none }
def QuorumMajorityWrongFalsely : Prop := quorumMajorityRow.holds Try.pinned (OpenSpec.ofChange quorumMajorityWrong)

/-- 'folkmootlaw04.SetsSame': WHATEVER THE INPUT: true; the input reads as it did. -/
def setsSameSpec : ChangeSpec := { name := "setsSame", fn := fun _ => fun
  | [d1, d2] => { results := [.lit (.bool true)], args := [d1, d2] }
  | _ => none }
def setsSameRow : OpenClaim := { program := "ytfioogmjhfdjhaa", sum := "c1f1406e469a744e0473c9af7aaa466dbd2dd2fe600249f7417ad86b98e6d696", func := "folkmoot/folkmootlaw04.SetsSame", spec := "setsSame", apart := false }
def SetsSameSaid : Prop := setsSameRow.holds Try.pinned (OpenSpec.ofChange setsSameSpec)

/-- ITS FALSE NEIGHBOUR: 'it returns false'. Refute it at one input. -/
def setsSameWrong : ChangeSpec := { name := "setsSame", fn := fun _ => fun
  | [d1, d2] => { results := [.lit (.bool false)], args := [d1, d2] }
  | _ => none }
def SetsSameWrongFalsely : Prop := setsSameRow.holds Try.pinned (OpenSpec.ofChange setsSameWrong)

/-- 'folkmootlaw04.SetsIs': WHATEVER THE INPUT: true; the input reads as it did. -/
def setsIsSpec : ChangeSpec := { name := "setsIs", fn := fun _ => fun
  | [d1, d2] => { results := [.lit (.bool true)], args := [d1, d2] }
  | _ => none }
def setsIsRow : OpenClaim := { program := "ytfioogmjhfdjhaa", sum := "c1f1406e469a744e0473c9af7aaa466dbd2dd2fe600249f7417ad86b98e6d696", func := "folkmoot/folkmootlaw04.SetsIs", spec := "setsIs", apart := false }
def SetsIsSaid : Prop := setsIsRow.holds Try.pinned (OpenSpec.ofChange setsIsSpec)

/-- ITS FALSE NEIGHBOUR: 'it returns false'. Refute it at one input. -/
def setsIsWrong : ChangeSpec := { name := "setsIs", fn := fun _ => fun
  | [d1, d2] => { results := [.lit (.bool false)], args := [d1, d2] }
  | _ => none }
def SetsIsWrongFalsely : Prop := setsIsRow.holds Try.pinned (OpenSpec.ofChange setsIsWrong)

/-- 'folkmootlaw05.QuorumReached': WHATEVER THE INPUT: true; the input reads as it did. -/
def quorumReachedSpec : ChangeSpec := { name := "quorumReached", fn := fun _ => fun
  | [d1, d2] => { results := [.lit (.bool true)], args := [d1, d2] }
  | _ => none }
def quorumReachedRow : OpenClaim := { program := "ytfioogmjhfdjhaa", sum := "c1f1406e469a744e0473c9af7aaa466dbd2dd2fe600249f7417ad86b98e6d696", func := "folkmoot/folkmootlaw05.QuorumReached", spec := "quorumReached", unfollowed := true, recurses := true, apart := false }
def QuorumReachedSaid : Prop := quorumReachedRow.holds Try.pinned (OpenSpec.ofChange quorumReachedSpec)

/-- ITS FALSE NEIGHBOUR: 'it returns false'. Refute it at one input. -/
def quorumReachedWrong : ChangeSpec := { name := "quorumReached", fn := fun _ => fun
  | [d1, d2] => { results := [.lit (.bool false)], args := [d1, d2] }
  | _ => none }
def QuorumReachedWrongFalsely : Prop := quorumReachedRow.holds Try.pinned (OpenSpec.ofChange quorumReachedWrong)

/-- 'folkmootlaw05.QuorumMeets': WHATEVER THE INPUT: true; the input reads as it did. -/
def quorumMeetsSpec : ChangeSpec := { name := "quorumMeets", fn := fun _ => fun
  | [d1, d2, d3] => { results := [.lit (.bool true)], args := [d1, d2, d3] }
  | _ => none }
def quorumMeetsRow : OpenClaim := { program := "ytfioogmjhfdjhaa", sum := "c1f1406e469a744e0473c9af7aaa466dbd2dd2fe600249f7417ad86b98e6d696", func := "folkmoot/folkmootlaw05.QuorumMeets", spec := "quorumMeets", unfollowed := true, recurses := true, apart := false }
def QuorumMeetsSaid : Prop := quorumMeetsRow.holds Try.pinned (OpenSpec.ofChange quorumMeetsSpec)

/-- ITS FALSE NEIGHBOUR: 'it returns false'. Refute it at one input. -/
def quorumMeetsWrong : ChangeSpec := { name := "quorumMeets", fn := fun _ => fun
  | [d1, d2, d3] => { results := [.lit (.bool false)], args := [d1, d2, d3] }
  | _ => none }
def QuorumMeetsWrongFalsely : Prop := quorumMeetsRow.holds Try.pinned (OpenSpec.ofChange quorumMeetsWrong)

/-- 'folkmootlaw05.QuorumNext': WHATEVER THE INPUT: true; the input reads as it did. -/
def quorumNextSpec : ChangeSpec := { name := "quorumNext", fn := fun _ => fun
  | [d1, d2, d3, d4] => { results := [.lit (.bool true)], args := [d1, d2, d3, d4] }
  | _ => none }
def quorumNextRow : OpenClaim := { program := "ytfioogmjhfdjhaa", sum := "c1f1406e469a744e0473c9af7aaa466dbd2dd2fe600249f7417ad86b98e6d696", func := "folkmoot/folkmootlaw05.QuorumNext", spec := "quorumNext", unfollowed := true, recurses := true, apart := false }
def QuorumNextSaid : Prop := quorumNextRow.holds Try.pinned (OpenSpec.ofChange quorumNextSpec)

/-- ITS FALSE NEIGHBOUR: 'it returns false'. Refute it at one input. -/
def quorumNextWrong : ChangeSpec := { name := "quorumNext", fn := fun _ => fun
  | [d1, d2, d3, d4] => { results := [.lit (.bool false)], args := [d1, d2, d3, d4] }
  | _ => none }
def QuorumNextWrongFalsely : Prop := quorumNextRow.holds Try.pinned (OpenSpec.ofChange quorumNextWrong)

/-- 'folkmootlaw04.SetsWithout': WHATEVER THE INPUT: true; the input reads as it did. -/
def setsWithoutSpec : ChangeSpec := { name := "setsWithout", fn := fun _ => fun
  | [d1, d2] => { results := [.lit (.bool true)], args := [d1, d2] }
  | _ => none }
def setsWithoutRow : OpenClaim := { program := "ytfioogmjhfdjhaa", sum := "c1f1406e469a744e0473c9af7aaa466dbd2dd2fe600249f7417ad86b98e6d696", func := "folkmoot/folkmootlaw04.SetsWithout", spec := "setsWithout", unfollowed := true, recurses := true, apart := false }
def SetsWithoutSaid : Prop := setsWithoutRow.holds Try.pinned (OpenSpec.ofChange setsWithoutSpec)

/-- ITS FALSE NEIGHBOUR: 'it returns false'. Refute it at one input. -/
def setsWithoutWrong : ChangeSpec := { name := "setsWithout", fn := fun _ => fun
  | [d1, d2] => { results := [.lit (.bool false)], args := [d1, d2] }
  | _ => none }
def SetsWithoutWrongFalsely : Prop := setsWithoutRow.holds Try.pinned (OpenSpec.ofChange setsWithoutWrong)

/-- 'folkmootlaw05.QuorumSure': WHATEVER THE INPUT: true; the input reads as it did. -/
def quorumSureSpec : ChangeSpec := { name := "quorumSure", fn := fun _ => fun
  | [d] => { results := [.lit (.bool true)], args := [d] }
  | _ => none }
def quorumSureRow : OpenClaim := { program := "ytfioogmjhfdjhaa", sum := "c1f1406e469a744e0473c9af7aaa466dbd2dd2fe600249f7417ad86b98e6d696", func := "folkmoot/folkmootlaw05.QuorumSure", spec := "quorumSure", unfollowed := true, recurses := true, apart := false }
def QuorumSureSaid : Prop := quorumSureRow.holds Try.pinned (OpenSpec.ofChange quorumSureSpec)

/-- ITS FALSE NEIGHBOUR: 'it returns false'. Refute it at one input. -/
def quorumSureWrong : ChangeSpec := { name := "quorumSure", fn := fun _ => fun
  | [d] => { results := [.lit (.bool false)], args := [d] }
  | _ => none }
def QuorumSureWrongFalsely : Prop := quorumSureRow.holds Try.pinned (OpenSpec.ofChange quorumSureWrong)

/-- 'folkmootlaw05.QuorumGrows': WHATEVER THE INPUT: true; the input reads as it did. -/
def quorumGrowsSpec : ChangeSpec := { name := "quorumGrows", fn := fun _ => fun
  | [d1, d2, d3] => { results := [.lit (.bool true)], args := [d1, d2, d3] }
  | _ => none }
def quorumGrowsRow : OpenClaim := { program := "ytfioogmjhfdjhaa", sum := "c1f1406e469a744e0473c9af7aaa466dbd2dd2fe600249f7417ad86b98e6d696", func := "folkmoot/folkmootlaw05.QuorumGrows", spec := "quorumGrows", unfollowed := true, recurses := true, apart := false }
def QuorumGrowsSaid : Prop := quorumGrowsRow.holds Try.pinned (OpenSpec.ofChange quorumGrowsSpec)

/-- ITS FALSE NEIGHBOUR: 'it returns false'. Refute it at one input. -/
def quorumGrowsWrong : ChangeSpec := { name := "quorumGrows", fn := fun _ => fun
  | [d1, d2, d3] => { results := [.lit (.bool false)], args := [d1, d2, d3] }
  | _ => none }
def QuorumGrowsWrongFalsely : Prop := quorumGrowsRow.holds Try.pinned (OpenSpec.ofChange quorumGrowsWrong)

/-- 'folkmootlaw04.SetsWith': WHATEVER THE INPUT: true; the input reads as it did. -/
def setsWithSpec : ChangeSpec := { name := "setsWith", fn := fun _ => fun
  | [d1, d2] => { results := [.lit (.bool true)], args := [d1, d2] }
  | _ => none }
def setsWithRow : OpenClaim := { program := "ytfioogmjhfdjhaa", sum := "c1f1406e469a744e0473c9af7aaa466dbd2dd2fe600249f7417ad86b98e6d696", func := "folkmoot/folkmootlaw04.SetsWith", spec := "setsWith", recurses := true, apart := false }
def SetsWithSaid : Prop := setsWithRow.holds Try.pinned (OpenSpec.ofChange setsWithSpec)

/-- ITS FALSE NEIGHBOUR: 'it returns false'. Refute it at one input. -/
def setsWithWrong : ChangeSpec := { name := "setsWith", fn := fun _ => fun
  | [d1, d2] => { results := [.lit (.bool false)], args := [d1, d2] }
  | _ => none }
def SetsWithWrongFalsely : Prop := setsWithRow.holds Try.pinned (OpenSpec.ofChange setsWithWrong)

/-- 'folkmootlaw04.SetsOrder': WHATEVER THE INPUT: true; the input reads as it did. -/
def setsOrderSpec : ChangeSpec := { name := "setsOrder", fn := fun _ => fun
  | [d] => { results := [.lit (.bool true)], args := [d] }
  | _ => none }
def setsOrderRow : OpenClaim := { program := "ytfioogmjhfdjhaa", sum := "c1f1406e469a744e0473c9af7aaa466dbd2dd2fe600249f7417ad86b98e6d696", func := "folkmoot/folkmootlaw04.SetsOrder", spec := "setsOrder", recurses := true, apart := false }
def SetsOrderSaid : Prop := setsOrderRow.holds Try.pinned (OpenSpec.ofChange setsOrderSpec)

/-- ITS FALSE NEIGHBOUR: 'it returns false'. Refute it at one input. -/
def setsOrderWrong : ChangeSpec := { name := "setsOrder", fn := fun _ => fun
  | [d] => { results := [.lit (.bool false)], args := [d] }
  | _ => none }
def SetsOrderWrongFalsely : Prop := setsOrderRow.holds Try.pinned (OpenSpec.ofChange setsOrderWrong)

/-- 'folkmootlaw04.SetsBoth': WHATEVER THE INPUT: true; the input reads as it did. -/
def setsBothSpec : ChangeSpec := { name := "setsBoth", fn := fun _ => fun
  | [d1, d2] => { results := [.lit (.bool true)], args := [d1, d2] }
  | _ => none }
def setsBothRow : OpenClaim := { program := "ytfioogmjhfdjhaa", sum := "c1f1406e469a744e0473c9af7aaa466dbd2dd2fe600249f7417ad86b98e6d696", func := "folkmoot/folkmootlaw04.SetsBoth", spec := "setsBoth", unfollowed := true, recurses := true, apart := false }
def SetsBothSaid : Prop := setsBothRow.holds Try.pinned (OpenSpec.ofChange setsBothSpec)

/-- ITS FALSE NEIGHBOUR: 'it returns false'. Refute it at one input. -/
def setsBothWrong : ChangeSpec := { name := "setsBoth", fn := fun _ => fun
  | [d1, d2] => { results := [.lit (.bool false)], args := [d1, d2] }
  | _ => none }
def SetsBothWrongFalsely : Prop := setsBothRow.holds Try.pinned (OpenSpec.ofChange setsBothWrong)

/-- 'folkmootlaw04.SetsBack': WHATEVER THE INPUT: true; the input reads as it did. -/
def setsBackSpec : ChangeSpec := { name := "setsBack", fn := fun _ => fun
  | [d1, d2] => { results := [.lit (.bool true)], args := [d1, d2] }
  | _ => none }
def setsBackRow : OpenClaim := { program := "ytfioogmjhfdjhaa", sum := "c1f1406e469a744e0473c9af7aaa466dbd2dd2fe600249f7417ad86b98e6d696", func := "folkmoot/folkmootlaw04.SetsBack", spec := "setsBack", unfollowed := true, recurses := true, apart := false }
def SetsBackSaid : Prop := setsBackRow.holds Try.pinned (OpenSpec.ofChange setsBackSpec)

/-- ITS FALSE NEIGHBOUR: 'it returns false'. Refute it at one input. -/
def setsBackWrong : ChangeSpec := { name := "setsBack", fn := fun _ => fun
  | [d1, d2] => { results := [.lit (.bool false)], args := [d1, d2] }
  | _ => none }
def SetsBackWrongFalsely : Prop := setsBackRow.holds Try.pinned (OpenSpec.ofChange setsBackWrong)

/- THE SECOND FORM. 'bulk': how many values and letters a reading holds, each counted each time it is reached (what is shared counts as often as it is met; a slice's spare places count too). A statement '..UptoSaid' is the law's where the arguments, and the package variables that the reading takes, are together of bulk at most 1048576: NARROWER than '..Said'. Prove '..Said' where nothing that the law and all that it calls make is longer than what came in: it says more and counts as full. Else prove '..UptoSaid'. A law counts once. -/
mutual
def uptoBulk {H : Type} : DataW H → Nat
  | .lit (.string bytes) => bytes.length + 1
  | .lit _ => 1
  | .nil => 1
  | .ptr d => uptoBulk d + 1
  | .slice elems spare => uptoBulkAll elems + uptoBulkAll spare + 1
  | .agg parts => uptoBulkAll parts + 1
  | .iface _ d => uptoBulk d + 1
  | .map entries => uptoBulkEntries entries + 1
  | .held _ => 1
def uptoBulkAll {H : Type} : List (DataW H) → Nat
  | [] => 0
  | d :: r => uptoBulk d + uptoBulkAll r
def uptoBulkEntries {H : Type} : List (Lit × DataW H) → Nat
  | [] => 0
  | x :: r => uptoBulkEntry x + uptoBulkEntries r
def uptoBulkEntry {H : Type} : Lit × DataW H → Nat
  | (.string bytes, d) => bytes.length + uptoBulk d + 1
  | (_, d) => uptoBulk d + 1
 end
def uptoSmall : (H : Type) → List (DataW H) → Bool := fun _ ds => decide (uptoBulkAll ds ≤ 1048576)
def OpenSpec.upto (s : _root_.Go.ChangeSpec) : _root_.Go.OpenSpec := { _root_.Go.OpenSpec.ofChange s with cond := some uptoSmall }

/-- 'folkmootlaw05.QuorumMajority', WHERE WHAT IT READS IS OF BULK AT MOST 1048576: true; the input reads as it did. -/
def quorumMajorityUptoRow : OpenClaim := { program := "ytfioogmjhfdjhaa", sum := "c1f1406e469a744e0473c9af7aaa466dbd2dd2fe600249f7417ad86b98e6d696", func := "folkmoot/folkmootlaw05.QuorumMajority", spec := "quorumMajority", apart := false, narrowed := true }
def QuorumMajorityUptoSaid : Prop := quorumMajorityUptoRow.holds Try.pinned (OpenSpec.upto quorumMajoritySpec)

/-- 'folkmootlaw04.SetsSame', WHERE WHAT IT READS IS OF BULK AT MOST 1048576: true; the input reads as it did. -/
def setsSameUptoRow : OpenClaim := { program := "ytfioogmjhfdjhaa", sum := "c1f1406e469a744e0473c9af7aaa466dbd2dd2fe600249f7417ad86b98e6d696", func := "folkmoot/folkmootlaw04.SetsSame", spec := "setsSame", apart := false, narrowed := true }
def SetsSameUptoSaid : Prop := setsSameUptoRow.holds Try.pinned (OpenSpec.upto setsSameSpec)

/-- 'folkmootlaw04.SetsIs', WHERE WHAT IT READS IS OF BULK AT MOST 1048576: true; the input reads as it did. -/
def setsIsUptoRow : OpenClaim := { program := "ytfioogmjhfdjhaa", sum := "c1f1406e469a744e0473c9af7aaa466dbd2dd2fe600249f7417ad86b98e6d696", func := "folkmoot/folkmootlaw04.SetsIs", spec := "setsIs", apart := false, narrowed := true }
def SetsIsUptoSaid : Prop := setsIsUptoRow.holds Try.pinned (OpenSpec.upto setsIsSpec)

/-- 'folkmootlaw05.QuorumReached', WHERE WHAT IT READS IS OF BULK AT MOST 1048576: true; the input reads as it did. -/
def quorumReachedUptoRow : OpenClaim := { program := "ytfioogmjhfdjhaa", sum := "c1f1406e469a744e0473c9af7aaa466dbd2dd2fe600249f7417ad86b98e6d696", func := "folkmoot/folkmootlaw05.QuorumReached", spec := "quorumReached", unfollowed := true, recurses := true, apart := false, narrowed := true }
def QuorumReachedUptoSaid : Prop := quorumReachedUptoRow.holds Try.pinned (OpenSpec.upto quorumReachedSpec)

/-- 'folkmootlaw05.QuorumMeets', WHERE WHAT IT READS IS OF BULK AT MOST 1048576: true; the input reads as it did. -/
def quorumMeetsUptoRow : OpenClaim := { program := "ytfioogmjhfdjhaa", sum := "c1f1406e469a744e0473c9af7aaa466dbd2dd2fe600249f7417ad86b98e6d696", func := "folkmoot/folkmootlaw05.QuorumMeets", spec := "quorumMeets", unfollowed := true, recurses := true, apart := false, narrowed := true }
def QuorumMeetsUptoSaid : Prop := quorumMeetsUptoRow.holds Try.pinned (OpenSpec.upto quorumMeetsSpec)

/-- 'folkmootlaw05.QuorumNext', WHERE WHAT IT READS IS OF BULK AT MOST 1048576: true; the input reads as it did. -/
def quorumNextUptoRow : OpenClaim := { program := "ytfioogmjhfdjhaa", sum := "c1f1406e469a744e0473c9af7aaa466dbd2dd2fe600249f7417ad86b98e6d696", func := "folkmoot/folkmootlaw05.QuorumNext", spec := "quorumNext", unfollowed := true, recurses := true, apart := false, narrowed := true }
def QuorumNextUptoSaid : Prop := quorumNextUptoRow.holds Try.pinned (OpenSpec.upto quorumNextSpec)

/-- 'folkmootlaw04.SetsWithout', WHERE WHAT IT READS IS OF BULK AT MOST 1048576: true; the input reads as it did. -/
def setsWithoutUptoRow : OpenClaim := { program := "ytfioogmjhfdjhaa", sum := "c1f1406e469a744e0473c9af7aaa466dbd2dd2fe600249f7417ad86b98e6d696", func := "folkmoot/folkmootlaw04.SetsWithout", spec := "setsWithout", unfollowed := true, recurses := true, apart := false, narrowed := true }
def SetsWithoutUptoSaid : Prop := setsWithoutUptoRow.holds Try.pinned (OpenSpec.upto setsWithoutSpec)

/-- 'folkmootlaw05.QuorumSure', WHERE WHAT IT READS IS OF BULK AT MOST 1048576: true; the input reads as it did. -/
def quorumSureUptoRow : OpenClaim := { program := "ytfioogmjhfdjhaa", sum := "c1f1406e469a744e0473c9af7aaa466dbd2dd2fe600249f7417ad86b98e6d696", func := "folkmoot/folkmootlaw05.QuorumSure", spec := "quorumSure", unfollowed := true, recurses := true, apart := false, narrowed := true }
def QuorumSureUptoSaid : Prop := quorumSureUptoRow.holds Try.pinned (OpenSpec.upto quorumSureSpec)

/-- 'folkmootlaw05.QuorumGrows', WHERE WHAT IT READS IS OF BULK AT MOST 1048576: true; the input reads as it did. -/
def quorumGrowsUptoRow : OpenClaim := { program := "ytfioogmjhfdjhaa", sum := "c1f1406e469a744e0473c9af7aaa466dbd2dd2fe600249f7417ad86b98e6d696", func := "folkmoot/folkmootlaw05.QuorumGrows", spec := "quorumGrows", unfollowed := true, recurses := true, apart := false, narrowed := true }
def QuorumGrowsUptoSaid : Prop := quorumGrowsUptoRow.holds Try.pinned (OpenSpec.upto quorumGrowsSpec)

/-- 'folkmootlaw04.SetsWith', WHERE WHAT IT READS IS OF BULK AT MOST 1048576: true; the input reads as it did. -/
def setsWithUptoRow : OpenClaim := { program := "ytfioogmjhfdjhaa", sum := "c1f1406e469a744e0473c9af7aaa466dbd2dd2fe600249f7417ad86b98e6d696", func := "folkmoot/folkmootlaw04.SetsWith", spec := "setsWith", recurses := true, apart := false, narrowed := true }
def SetsWithUptoSaid : Prop := setsWithUptoRow.holds Try.pinned (OpenSpec.upto setsWithSpec)

/-- 'folkmootlaw04.SetsOrder', WHERE WHAT IT READS IS OF BULK AT MOST 1048576: true; the input reads as it did. -/
def setsOrderUptoRow : OpenClaim := { program := "ytfioogmjhfdjhaa", sum := "c1f1406e469a744e0473c9af7aaa466dbd2dd2fe600249f7417ad86b98e6d696", func := "folkmoot/folkmootlaw04.SetsOrder", spec := "setsOrder", recurses := true, apart := false, narrowed := true }
def SetsOrderUptoSaid : Prop := setsOrderUptoRow.holds Try.pinned (OpenSpec.upto setsOrderSpec)

/-- 'folkmootlaw04.SetsBoth', WHERE WHAT IT READS IS OF BULK AT MOST 1048576: true; the input reads as it did. -/
def setsBothUptoRow : OpenClaim := { program := "ytfioogmjhfdjhaa", sum := "c1f1406e469a744e0473c9af7aaa466dbd2dd2fe600249f7417ad86b98e6d696", func := "folkmoot/folkmootlaw04.SetsBoth", spec := "setsBoth", unfollowed := true, recurses := true, apart := false, narrowed := true }
def SetsBothUptoSaid : Prop := setsBothUptoRow.holds Try.pinned (OpenSpec.upto setsBothSpec)

/-- 'folkmootlaw04.SetsBack', WHERE WHAT IT READS IS OF BULK AT MOST 1048576: true; the input reads as it did. -/
def setsBackUptoRow : OpenClaim := { program := "ytfioogmjhfdjhaa", sum := "c1f1406e469a744e0473c9af7aaa466dbd2dd2fe600249f7417ad86b98e6d696", func := "folkmoot/folkmootlaw04.SetsBack", spec := "setsBack", unfollowed := true, recurses := true, apart := false, narrowed := true }
def SetsBackUptoSaid : Prop := setsBackUptoRow.holds Try.pinned (OpenSpec.upto setsBackSpec)

end Rows
end Go.Proofs.Ytfioogmjhfdjhaa
