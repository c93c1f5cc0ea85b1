/- The walk of the law MemberApplies: true for every structs. No condition. -/
import Derived.Test.YtejahcpnbkegfaaMxD
namespace Go.Proofs.Ytejahcpnbkegfaa
open Go.RowKit Go.ChangeShapes Go.WideShapes Go.Deep
set_option linter.unusedVariables false
theorem law_of_fn {f : FuncId} {ins : List SV} (h : FnC Try.prog f ins (.bool true) D2) (w : World) (vals : List Value) (hd : DenL (E0 (All w)) w ins vals) : Calls Try.prog f vals.toArray w fun e w' => e = .returned (.bool true) ∧ Below w.heap.size w w' :=
  (h.2 w (All w) vals (fun b hb => hb) hd).mono (by
    rintro e w' ⟨v, E', rfl, hv, hm⟩
    exact ⟨by rw [show v = .bool true from hv], hm.below.below⟩)
theorem den_cfg {w : World} {vs : List Value} {c : Config} (h : RdL w (All w) Config.ty vs c.enc) : DenV (E0 (All w)) w (.agg (c.svs [0])) (.agg vs.toArray) :=
  ⟨vs, rfl, Config.svs_of (h.mono fun b _ hb => ⟨0, by simp, rfl, hb⟩)⟩
theorem law_memberApplies (vs : List Value) (c : Config) (us : List Value) (d : Change) (w : World) (h : RdL w (All w) Config.ty vs c.enc) (hd : RdL w (All w) Change.ty us d.enc) :
    Calls Try.prog 4 #[.agg vs.toArray, .agg us.toArray] w fun e w' => e = .returned (.bool true) ∧ Below w.heap.size w w' :=
  law_of_fn (memberApplies_fn c d.kind d.node) w [.agg vs.toArray, .agg us.toArray] ⟨den_cfg h, ⟨us, rfl, Change.svs_of (ls := [0]) (h := hd.mono fun b _ hb => ⟨0, by simp, rfl, hb⟩)⟩, trivial⟩
end Go.Proofs.Ytejahcpnbkegfaa
