/- The contract of slices.Sort at this seat (the kit's tools wrote it). -/
import Derived.Shelf.Sort.Plain
import Derived.KernelRfl
import Derived.Test.YtlmmgblghgmgeaaGreatDoorProg
namespace Go.Proofs
open Go.Shelf
def Tryz.lays190_ren : Go.Shelf.Ren := ⟨fun | 190 => 61 | 125 => 80 | 258 => 79 | 128 => 116 | 129 => 117 | 302 => 107 | 303 => 108 | 304 => 109 | 305 => 110 | 306 => 111 | 307 => 112 | 308 => 113 | 309 => 114 | 310 => 115 | 333 => 137 | 329 => 138 | 330 => 139 | 334 => 140 | 335 => 141 | 336 => 142 | 344 => 150 | n => n, fun | 31 => 31 | 9 => 9 | 3 => 3 | 46 => 110 | 0 => 0 | 51 => 132 | 53 => 135 | 4 => 4 | 183 => 151 | 182 => 150 | 131 => 155 | 5 => 5 | 218 => 166 | 222 => 170 | 228 => 176 | 229 => 77 | n => n, fun | n => n⟩
theorem Tryz.lays190 : Go.Proofs.Lays.n190 Tryz.prog Tryz.lays190_ren := {
  mixed := by kernel_rfl
  f125 := Tryz.func80.trans (congrArg some (by kernel_rfl))
  f128 := Tryz.func116.trans (congrArg some (by kernel_rfl))
  f129 := Tryz.func117.trans (congrArg some (by kernel_rfl))
  f190 := Tryz.func61.trans (congrArg some (by kernel_rfl))
  f258 := Tryz.func79.trans (congrArg some (by kernel_rfl))
  f302 := Tryz.func107.trans (congrArg some (by kernel_rfl))
  f303 := Tryz.func108.trans (congrArg some (by kernel_rfl))
  f304 := Tryz.func109.trans (congrArg some (by kernel_rfl))
  f305 := Tryz.func110.trans (congrArg some (by kernel_rfl))
  f306 := Tryz.func111.trans (congrArg some (by kernel_rfl))
  f307 := Tryz.func112.trans (congrArg some (by kernel_rfl))
  f308 := Tryz.func113.trans (congrArg some (by kernel_rfl))
  f309 := Tryz.func114.trans (congrArg some (by kernel_rfl))
  f310 := Tryz.func115.trans (congrArg some (by kernel_rfl))
  f329 := Tryz.func138.trans (congrArg some (by kernel_rfl))
  f330 := Tryz.func139.trans (congrArg some (by kernel_rfl))
  f333 := Tryz.func137.trans (congrArg some (by kernel_rfl))
  f334 := Tryz.func140.trans (congrArg some (by kernel_rfl))
  f335 := Tryz.func141.trans (congrArg some (by kernel_rfl))
  f336 := Tryz.func142.trans (congrArg some (by kernel_rfl))
  f344 := Tryz.func150.trans (congrArg some (by kernel_rfl))
  t0 := Tryz.underlying0
  a0 := Tryz.isAgg0
  z0 := Tryz.sizeOf0
  v0 := Tryz.zeroValue0
  t3 := Tryz.underlying3
  a3 := Tryz.isAgg3
  z3 := Tryz.sizeOf3
  v3 := Tryz.zeroValue3
  t4 := Tryz.underlying4
  a4 := Tryz.isAgg4
  z4 := Tryz.sizeOf4
  v4 := Tryz.zeroValue4
  t5 := Tryz.underlying5
  a5 := Tryz.isAgg5
  z5 := Tryz.sizeOf5
  v5 := Tryz.zeroValue5
  t9 := Tryz.underlying9
  a9 := Tryz.isAgg9
  z9 := Tryz.sizeOf9
  v9 := Tryz.zeroValue9
  t31 := Tryz.underlying31
  a31 := Tryz.isAgg31
  z31 := Tryz.sizeOf31
  v31 := Tryz.zeroValue31
  t46 := Tryz.underlying110
  a46 := Tryz.isAgg110
  z46 := Tryz.sizeOf110
  v46 := Tryz.zeroValue110
  t51 := Tryz.underlying132
  a51 := Tryz.isAgg132
  z51 := Tryz.sizeOf132
  v51 := Tryz.zeroValue132
  t53 := Tryz.underlying135
  a53 := Tryz.isAgg135
  z53 := Tryz.sizeOf135
  v53 := Tryz.zeroValue135
  t131 := Tryz.underlying155
  a131 := Tryz.isAgg155
  z131 := Tryz.sizeOf155
  v131 := Tryz.zeroValue155
  t182 := Tryz.underlying150
  a182 := Tryz.isAgg150
  z182 := Tryz.sizeOf150
  v182 := Tryz.zeroValue150
  t183 := Tryz.underlying151
  a183 := Tryz.isAgg151
  z183 := Tryz.sizeOf151
  v183 := Tryz.zeroValue151
  t218 := Tryz.underlying166
  a218 := Tryz.isAgg166
  z218 := Tryz.sizeOf166
  v218 := Tryz.zeroValue166
  t222 := Tryz.underlying170
  a222 := Tryz.isAgg170
  z222 := Tryz.sizeOf170
  v222 := Tryz.zeroValue170
  t228 := Tryz.underlying176
  a228 := Tryz.isAgg176
  z228 := Tryz.sizeOf176
  v228 := Tryz.zeroValue176
  t229 := Tryz.underlying77
  a229 := Tryz.isAgg77
  z229 := Tryz.sizeOf77
  v229 := Tryz.zeroValue77 }
open Go.Sort Go.RowKit in
theorem Tryz.slices_Sort_string (blk off cap : Nat) (ss : List (List UInt8)) (w : World) (hH : Holds encStr w blk off ss.toArray) (hblk : blk < w.heap.size) (hsz : ss.length < 4611686018427387904) :
    Calls Tryz.prog 61 #[.slice (some ⟨blk, off, none⟩) ss.length cap] w fun e w' =>
      e = .returned (.tuple #[]) ∧ ∃ n os, w' = grow (putRow encStr (Sort.ahead w n) blk off (ss.mergeSort fun x y => decide (x ≤ y)).toArray) os := Any.slices_Sort_string Tryz.lays190 blk off cap ss w hH hblk hsz
end Go.Proofs

