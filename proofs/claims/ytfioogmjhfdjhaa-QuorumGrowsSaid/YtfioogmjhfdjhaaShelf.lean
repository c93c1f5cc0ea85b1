/- The shelf of contracts at this translation, in plain words: slices.Sort, slices.Compact, slices.SortFunc at rows of int. -/
import Derived.Shelf.Sort.Plain
import Derived.Shelf.Slices.CompactI
import Derived.Shelf.Slices.In.SortNone
import Derived.Ground.SlsfProg
import Derived.Shelf.SlSortCmp.Whole1
import Derived.Shelf.SlSortCmp.NoneTotal
import Derived.Test.YtfioogmjhfdjhaaProg
namespace Go.Proofs
open Go.Shelf
def Try.lays189_ren : Go.Shelf.Ren := ⟨fun | 189 => 64 | 125 => 61 | 257 => 77 | 128 => 74 | 129 => 75 | 294 => 83 | 295 => 84 | 296 => 85 | 297 => 86 | 298 => 87 | 299 => 88 | 216 => 89 | 300 => 90 | 301 => 91 | 328 => 93 | 329 => 79 | 330 => 80 | 331 => 94 | 332 => 95 | 215 => 96 | 343 => 97 | n => n, fun | 28 => 25 | 3 => 3 | 46 => 60 | 0 => 0 | 51 => 73 | 53 => 75 | 4 => 4 | 183 => 66 | 182 => 65 | 131 => 70 | 5 => 5 | 9 => 9 | 218 => 78 | 222 => 82 | 228 => 88 | 229 => 89 | n => n, fun | n => n⟩
theorem Try.lays189 : Go.Proofs.Lays.n189 Try.prog Try.lays189_ren := {
  mixed := by kernel_rfl
  f125 := Try.func61.trans (congrArg some (by kernel_rfl))
  f128 := Try.func74.trans (congrArg some (by kernel_rfl))
  f129 := Try.func75.trans (congrArg some (by kernel_rfl))
  f189 := Try.func64.trans (congrArg some (by kernel_rfl))
  f215 := Try.func96.trans (congrArg some (by kernel_rfl))
  f216 := Try.func89.trans (congrArg some (by kernel_rfl))
  f257 := Try.func77.trans (congrArg some (by kernel_rfl))
  f294 := Try.func83.trans (congrArg some (by kernel_rfl))
  f295 := Try.func84.trans (congrArg some (by kernel_rfl))
  f296 := Try.func85.trans (congrArg some (by kernel_rfl))
  f297 := Try.func86.trans (congrArg some (by kernel_rfl))
  f298 := Try.func87.trans (congrArg some (by kernel_rfl))
  f299 := Try.func88.trans (congrArg some (by kernel_rfl))
  f300 := Try.func90.trans (congrArg some (by kernel_rfl))
  f301 := Try.func91.trans (congrArg some (by kernel_rfl))
  f328 := Try.func93.trans (congrArg some (by kernel_rfl))
  f329 := Try.func79.trans (congrArg some (by kernel_rfl))
  f330 := Try.func80.trans (congrArg some (by kernel_rfl))
  f331 := Try.func94.trans (congrArg some (by kernel_rfl))
  f332 := Try.func95.trans (congrArg some (by kernel_rfl))
  f343 := Try.func97.trans (congrArg some (by kernel_rfl))
  t0 := Try.underlying0
  a0 := Try.isAgg0
  z0 := Try.sizeOf0
  v0 := Try.zeroValue0
  t3 := Try.underlying3
  a3 := Try.isAgg3
  z3 := Try.sizeOf3
  v3 := Try.zeroValue3
  t4 := Try.underlying4
  a4 := Try.isAgg4
  z4 := Try.sizeOf4
  v4 := Try.zeroValue4
  t5 := Try.underlying5
  a5 := Try.isAgg5
  z5 := Try.sizeOf5
  v5 := Try.zeroValue5
  t9 := Try.underlying9
  a9 := Try.isAgg9
  z9 := Try.sizeOf9
  v9 := Try.zeroValue9
  t28 := Try.underlying25
  a28 := Try.isAgg25
  z28 := Try.sizeOf25
  v28 := Try.zeroValue25
  t46 := Try.underlying60
  a46 := Try.isAgg60
  z46 := Try.sizeOf60
  v46 := Try.zeroValue60
  t51 := Try.underlying73
  a51 := Try.isAgg73
  z51 := Try.sizeOf73
  v51 := Try.zeroValue73
  t53 := Try.underlying75
  a53 := Try.isAgg75
  z53 := Try.sizeOf75
  v53 := Try.zeroValue75
  t131 := Try.underlying70
  a131 := Try.isAgg70
  z131 := Try.sizeOf70
  v131 := Try.zeroValue70
  t182 := Try.underlying65
  a182 := Try.isAgg65
  z182 := Try.sizeOf65
  v182 := Try.zeroValue65
  t183 := Try.underlying66
  a183 := Try.isAgg66
  z183 := Try.sizeOf66
  v183 := Try.zeroValue66
  t218 := Try.underlying78
  a218 := Try.isAgg78
  z218 := Try.sizeOf78
  v218 := Try.zeroValue78
  t222 := Try.underlying82
  a222 := Try.isAgg82
  z222 := Try.sizeOf82
  v222 := Try.zeroValue82
  t228 := Try.underlying88
  a228 := Try.isAgg88
  z228 := Try.sizeOf88
  v228 := Try.zeroValue88
  t229 := Try.underlying89
  a229 := Try.isAgg89
  z229 := Try.sizeOf89
  v229 := Try.zeroValue89 }
open Go.Sort Go.RowKit in
theorem Try.slices_Sort_int (blk off cap : Nat) (zs : List Int) (w : World) (hH : Holds (Value.int .i64) w blk off zs.toArray) (hblk : blk < w.heap.size) (hsz : zs.length < 4611686018427387904) :
    Calls Try.prog 64 #[.slice (some ⟨blk, off, none⟩) zs.length cap] w fun e w' =>
      e = .returned (.tuple #[]) ∧ ∃ n os, w' = grow (putRow (Value.int .i64) (Sort.ahead w n) blk off (zs.mergeSort fun x y => decide (x ≤ y)).toArray) os := Any.slices_Sort_int Try.lays189 blk off cap zs w hH hblk hsz
def Try.laysNm220_ren : Go.Shelf.Ren := ⟨fun | 20 => 65 | n => n, fun | 22 => 25 | 3 => 3 | 4 => 4 | 0 => 0 | n => n, fun | n => n⟩
theorem Try.laysNm220 : Go.Proofs.Lays2.n20 Try.prog Try.laysNm220_ren := {
  mixed := by kernel_rfl
  f20 := Try.func65.trans (congrArg some (by kernel_rfl))
  t0 := Try.underlying0
  a0 := Try.isAgg0
  z0 := Try.sizeOf0
  v0 := Try.zeroValue0
  t3 := Try.underlying3
  a3 := Try.isAgg3
  z3 := Try.sizeOf3
  v3 := Try.zeroValue3
  t4 := Try.underlying4
  a4 := Try.isAgg4
  z4 := Try.sizeOf4
  v4 := Try.zeroValue4
  t22 := Try.underlying25
  a22 := Try.isAgg25
  z22 := Try.sizeOf25
  v22 := Try.zeroValue25
  i3 := by kernel_rfl }
open Go.RowKit Go.Lib Go.Sort in
/-- slices.Compact at []int: "Compact replaces consecutive runs of equal elements with a single copy. This is like the uniq command found on Unix. Compact modifies the contents of the slice s and returns the modified slice, which may have a smaller length. Compact zeroes the elements between the new length and the original length. The result preserves the nilness of s.": IT RETURNS THE SLICE CUT TO 'Lib.compact zs'; ITS CELLS HOLD 'Lib.compact zs', THEN ZERO VALUES up to the old length; all else is as it was, but for the count of draws. IN THE WORDS OF slices.Sort's CONTRACT ('Holds', 'putRow'): so the everyday 'slices.Sort(xs); xs = slices.Compact(xs)' goes from the one contract to the other. It asks 'zs.length ≤ cap' (every slice's: the reslicing 's[:k]' looks at it). Length 0, nil: '.._empty'. (LAID: no walk: one application.) -/
theorem Try.slices_Compact_int (blk off cap : Nat) (zs : List Int) (w : World) (hH : Holds (Value.int .i64) w blk off zs.toArray) (hsz : zs.length ≤ 9223372036854775807) (hcap : zs.length ≤ cap) :
    Calls Try.prog 65 #[.slice (some ⟨blk, off, none⟩) zs.length cap] w fun e w' => e = .returned (.slice (some ⟨blk, off, none⟩) (Lib.compact zs).length cap) ∧ ∃ q, w' = putRow (Value.int .i64) (Sort.ahead w q) blk off (Lib.compact zs ++ List.replicate (zs.length - (Lib.compact zs).length) 0).toArray := Any.slices_Compact_int Try.laysNm220 blk off cap zs w hH hsz hcap
open Go.RowKit Go.Lib Go.Sort in
/-- The same at a slice of length 0, a nil one too: it comes back as it is. (LAID: no walk: one application.) -/
theorem Try.slices_Compact_int_empty (a : Option Addr) (cap : Nat) (w : World) :
    Calls Try.prog 65 #[.slice a 0 cap] w fun e w' => e = .returned (.slice a 0 cap) ∧ w' = w := Any.slices_Compact_int_empty Try.laysNm220 a cap w
open Go.RowKit Go.Sort in
/-- .. and plain. (LAID: no walk: one application.) -/
theorem Try.slices_Sort_int_none (p : Option Addr) (cap : Nat) (w : World) :
    Calls Try.prog 64 #[.slice p 0 cap] w fun e w' => e = .returned (.tuple #[]) ∧ w' = w := Any.slices_Sort_int_none Try.lays189 p cap w
def Try.laysSortF_ren : Go.Shelf.Ren := ⟨fun | 6 => 54 | 15 => 61 | 14 => 60 | 28 => 74 | 29 => 75 | 20 => 66 | 21 => 67 | 22 => 68 | 23 => 69 | 24 => 70 | 25 => 71 | 26 => 72 | 27 => 73 | 46 => 78 | 47 => 79 | 48 => 80 | 49 => 81 | 50 => 82 | 57 => 92 | n => n, fun | 22 => 25 | 24 => 3 | 25 => 51 | 3 => 3 | 39 => 60 | 0 => 0 | 53 => 73 | 55 => 75 | 4 => 4 | 46 => 66 | 45 => 65 | 50 => 70 | 5 => 5 | 9 => 9 | 66 => 78 | 70 => 82 | 76 => 88 | 77 => 89 | n => n, fun | n => n⟩
theorem Try.laysSortF : Go.Proofs.SlLaysF.n6 Try.prog Try.laysSortF_ren := {
  mixed := by kernel_rfl
  f6 := ⟨Try.f54.name, by decide, Try.func54.trans (congrArg some (by kernel_rfl))⟩
  f14 := ⟨Try.f60.name, by decide, Try.func60.trans (congrArg some (by kernel_rfl))⟩
  f15 := Try.func61.trans (congrArg some (by kernel_rfl))
  f20 := ⟨Try.f66.name, by decide, Try.func66.trans (congrArg some (by kernel_rfl))⟩
  f21 := ⟨Try.f67.name, by decide, Try.func67.trans (congrArg some (by kernel_rfl))⟩
  f22 := ⟨Try.f68.name, by decide, Try.func68.trans (congrArg some (by kernel_rfl))⟩
  f23 := ⟨Try.f69.name, by decide, Try.func69.trans (congrArg some (by kernel_rfl))⟩
  f24 := ⟨Try.f70.name, by decide, Try.func70.trans (congrArg some (by kernel_rfl))⟩
  f25 := ⟨Try.f71.name, by decide, Try.func71.trans (congrArg some (by kernel_rfl))⟩
  f26 := ⟨Try.f72.name, by decide, Try.func72.trans (congrArg some (by kernel_rfl))⟩
  f27 := ⟨Try.f73.name, by decide, Try.func73.trans (congrArg some (by kernel_rfl))⟩
  f28 := Try.func74.trans (congrArg some (by kernel_rfl))
  f29 := Try.func75.trans (congrArg some (by kernel_rfl))
  f46 := ⟨Try.f78.name, by decide, Try.func78.trans (congrArg some (by kernel_rfl))⟩
  f47 := Try.func79.trans (congrArg some (by kernel_rfl))
  f48 := Try.func80.trans (congrArg some (by kernel_rfl))
  f49 := ⟨Try.f81.name, by decide, Try.func81.trans (congrArg some (by kernel_rfl))⟩
  f50 := ⟨Try.f82.name, by decide, Try.func82.trans (congrArg some (by kernel_rfl))⟩
  f57 := ⟨Try.f92.name, by decide, Try.func92.trans (congrArg some (by kernel_rfl))⟩
  t0 := Try.underlying0
  a0 := Try.isAgg0
  z0 := Try.sizeOf0
  v0 := Try.zeroValue0
  t3 := Try.underlying3
  a3 := Try.isAgg3
  z3 := Try.sizeOf3
  v3 := Try.zeroValue3
  t4 := Try.underlying4
  a4 := Try.isAgg4
  z4 := Try.sizeOf4
  v4 := Try.zeroValue4
  t5 := Try.underlying5
  a5 := Try.isAgg5
  z5 := Try.sizeOf5
  v5 := Try.zeroValue5
  t9 := Try.underlying9
  a9 := Try.isAgg9
  z9 := Try.sizeOf9
  v9 := Try.zeroValue9
  t22 := Try.underlying25
  a22 := Try.isAgg25
  z22 := Try.sizeOf25
  v22 := Try.zeroValue25
  a24 := Try.isAgg3
  z24 := Try.sizeOf3
  t25 := Try.underlying51
  a25 := Try.isAgg51
  z25 := Try.sizeOf51
  v25 := Try.zeroValue51
  t39 := Try.underlying60
  a39 := Try.isAgg60
  z39 := Try.sizeOf60
  v39 := Try.zeroValue60
  t45 := Try.underlying65
  a45 := Try.isAgg65
  z45 := Try.sizeOf65
  v45 := Try.zeroValue65
  t46 := Try.underlying66
  a46 := Try.isAgg66
  z46 := Try.sizeOf66
  v46 := Try.zeroValue66
  t50 := Try.underlying70
  a50 := Try.isAgg70
  z50 := Try.sizeOf70
  v50 := Try.zeroValue70
  t53 := Try.underlying73
  a53 := Try.isAgg73
  z53 := Try.sizeOf73
  v53 := Try.zeroValue73
  t55 := Try.underlying75
  a55 := Try.isAgg75
  z55 := Try.sizeOf75
  v55 := Try.zeroValue75
  t66 := Try.underlying78
  a66 := Try.isAgg78
  z66 := Try.sizeOf78
  v66 := Try.zeroValue78
  t70 := Try.underlying82
  a70 := Try.isAgg82
  z70 := Try.sizeOf82
  v70 := Try.zeroValue82
  t76 := Try.underlying88
  a76 := Try.isAgg88
  z76 := Try.sizeOf88
  v76 := Try.zeroValue88
  t77 := Try.underlying89
  a77 := Try.isAgg89
  z77 := Try.sizeOf89
  v77 := Try.zeroValue89 }
end Go.Proofs
