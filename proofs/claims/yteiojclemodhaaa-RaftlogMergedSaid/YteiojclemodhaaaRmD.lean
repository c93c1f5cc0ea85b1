/- The walk of the law RaftlogMerged: true for every structs. No condition. -/
import Derived.Test.YteiojclemodhaaaRmC
namespace Go.Proofs.Yteiojclemodhaaa
open Go.RowKit Go.ChangeShapes Go.WideShapes Go.Deep
set_option linter.unusedVariables false
theorem den_kept {w : World} {vs : List Value} {x : Kept} (h : RdL w (fun b => b < w.heap.size) Kept.ty vs x.enc) : DenV (E0 fun b => b < w.heap.size) w (.agg (x.svs [0])) (.agg vs.toArray) :=
  ⟨vs, rfl, Kept.svs_of (h.mono fun b _ hb => E0_set hb)⟩
theorem den_entries {w : World} {a : Option Addr} {n m : Nat} {l : List Entry} (h : Sl w (fun b => b < w.heap.size) Entry.ty a n m (l.map Entry.enc)) : DenV (E0 fun b => b < w.heap.size) w (.sl [0] (.rEntry l)) (.slice a n m) :=
  Rd.mono h fun b _ hb => E0_set hb
theorem law_raftlogMerged (vs : List Value) (k : Kept) (index term : Int) (a : Option Addr) (n m : Nat) (l : List Entry) (w : World) (h : RdL w (fun b => b < w.heap.size) Kept.ty vs k.enc) (hx : I64 index) (hy : I64 term) (hl : Sl w (fun b => b < w.heap.size) Entry.ty a n m (l.map Entry.enc)) :
    Calls Try.prog 8 #[.agg vs.toArray, .int .i64 index, .int .i64 term, .slice a n m] w fun e w' => e = .returned (.bool true) ∧ Below w.heap.size w w' :=
  law_of_fn (merged_fn k index term l) w (fun b => b < w.heap.size) (fun _ hb => hb) [.agg vs.toArray, .int .i64 index, .int .i64 term, .slice a n m] ⟨den_kept h, ⟨rfl, bd_lit hx⟩, ⟨rfl, bd_lit hy⟩, den_entries hl, trivial⟩
end Go.Proofs.Yteiojclemodhaaa
