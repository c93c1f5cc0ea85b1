/- The walks of the laws MemberMeets and MemberBack: true for every structs. No condition. -/
import Derived.Test.YtejahcpnbkegfaaMxE
import Derived.Test.YtejahcpnbkegfaaMxL
namespace Go.Proofs.Ytejahcpnbkegfaa
open Go.RowKit Go.ChangeShapes Go.WideShapes Go.Deep
set_option linter.unusedVariables false
theorem den_ints {w : World} {a : Option Addr} {n m : Nat} {l : List Int} (h : Sl w (All w) [.int .i64] a n m (ints l)) : DenV (E0 (All w)) w (.sl [0] (.rInts l)) (.slice a n m) :=
  Rd.mono h fun b _ hb => ⟨0, by simp, rfl, hb⟩
theorem law_memberMeets (vs : List Value) (c : Config) (us : List Value) (d : Change) (a : Option Addr) (n m : Nat) (x : List Int) (b : Option Addr) (i j : Nat) (y : List Int) (w : World) (h : RdL w (All w) Config.ty vs c.enc) (hd : RdL w (All w) Change.ty us d.enc)
    (hx : Sl w (All w) [.int .i64] a n m (ints x)) (hy : Sl w (All w) [.int .i64] b i j (ints y)) :
    Calls Try.prog 5 #[.agg vs.toArray, .agg us.toArray, .slice a n m, .slice b i j] w fun e w' => e = .returned (.bool true) ∧ Below w.heap.size w w' :=
  law_of_fn (memberMeets_fn c d.kind d.node x y) w [.agg vs.toArray, .agg us.toArray, .slice a n m, .slice b i j] ⟨den_cfg h, ⟨us, rfl, Change.svs_of (ls := [0]) (h := hd.mono fun b _ hb => ⟨0, by simp, rfl, hb⟩)⟩, den_ints hx, den_ints hy, trivial⟩
theorem law_memberBack (vs : List Value) (c : Config) (n : Int) (w : World) (h : RdL w (All w) Config.ty vs c.enc) (hn : I64 n) :
    Calls Try.prog 6 #[.agg vs.toArray, .int .i64 n] w fun e w' => e = .returned (.bool true) ∧ Below w.heap.size w w' :=
  law_of_fn (memberBack_fn c n) w [.agg vs.toArray, .int .i64 n] ⟨den_cfg h, ⟨rfl, bd_lit hn⟩, trivial⟩
end Go.Proofs.Ytejahcpnbkegfaa
