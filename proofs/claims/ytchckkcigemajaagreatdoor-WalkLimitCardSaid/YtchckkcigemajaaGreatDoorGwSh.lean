/-
  DERIVED: THE SHELF's CONTRACTS AT THIS DUMP, IN PLAIN WORDS (tools/lay-plain.mjs out of 'GwSh0.lean', which tools/lay-shelf.mjs wrote): THE SAME DECLARATIONS UNDER THE SAME NAMES: 'import', 'namespace', 'open', 'def', 'theorem' AND NOTHING ELSE: no command of the shelf's: FOR A HAND-IN. Each laying: the table of numbers ('.._ren') and one theorem, a field a fact of the dump's own or the kernel's comparison; each contract: ONE APPLICATION.
-/
import Derived.Shelf.LaysM
import Derived.Shelf.Sort.Plain
import Derived.Test.YtchckkcigemajaaGreatDoorProg
namespace Go.Proofs
open Go.Shelf
def Tryz.lays190_ren : Go.Shelf.Ren := ⟨fun | 190 => 82 | 125 => 118 | 258 => 117 | 128 => 156 | 129 => 157 | 302 => 147 | 303 => 148 | 304 => 149 | 305 => 150 | 306 => 151 | 307 => 152 | 308 => 153 | 309 => 154 | 310 => 155 | 333 => 187 | 329 => 188 | 330 => 189 | 334 => 190 | 335 => 191 | 336 => 192 | 344 => 209 | n => n, fun | 31 => 56 | 9 => 9 | 3 => 3 | 46 => 168 | 0 => 0 | 51 => 199 | 53 => 38 | 4 => 4 | 183 => 206 | 182 => 205 | 131 => 143 | 5 => 5 | 218 => 237 | 222 => 241 | 228 => 260 | 229 => 217 | n => n, fun | n => n⟩
theorem Tryz.lays190 : Go.Proofs.Lays.n190 Tryz.prog Tryz.lays190_ren := {
  mixed := by kernel_rfl
  f125 := Tryz.func118.trans (congrArg some (by kernel_rfl))
  f128 := Tryz.func156.trans (congrArg some (by kernel_rfl))
  f129 := Tryz.func157.trans (congrArg some (by kernel_rfl))
  f190 := Tryz.func82.trans (congrArg some (by kernel_rfl))
  f258 := Tryz.func117.trans (congrArg some (by kernel_rfl))
  f302 := Tryz.func147.trans (congrArg some (by kernel_rfl))
  f303 := Tryz.func148.trans (congrArg some (by kernel_rfl))
  f304 := Tryz.func149.trans (congrArg some (by kernel_rfl))
  f305 := Tryz.func150.trans (congrArg some (by kernel_rfl))
  f306 := Tryz.func151.trans (congrArg some (by kernel_rfl))
  f307 := Tryz.func152.trans (congrArg some (by kernel_rfl))
  f308 := Tryz.func153.trans (congrArg some (by kernel_rfl))
  f309 := Tryz.func154.trans (congrArg some (by kernel_rfl))
  f310 := Tryz.func155.trans (congrArg some (by kernel_rfl))
  f329 := Tryz.func188.trans (congrArg some (by kernel_rfl))
  f330 := Tryz.func189.trans (congrArg some (by kernel_rfl))
  f333 := Tryz.func187.trans (congrArg some (by kernel_rfl))
  f334 := Tryz.func190.trans (congrArg some (by kernel_rfl))
  f335 := Tryz.func191.trans (congrArg some (by kernel_rfl))
  f336 := Tryz.func192.trans (congrArg some (by kernel_rfl))
  f344 := Tryz.func209.trans (congrArg some (by kernel_rfl))
  t0 := Tryz.underlying0
  a0 := Tryz.isAgg0
  z0 := Tryz.sizeOf0
  v0 := Tryz.zeroValue0
  t3 := Tryz.underlying3
  a3 := Tryz.isAgg3
  z3 := Tryz.sizeOf3
  v3 := Tryz.zeroValue3
  t4 := Tryz.underlying4
  a4 := Tryz.isAgg4
  z4 := Tryz.sizeOf4
  v4 := Tryz.zeroValue4
  t5 := Tryz.underlying5
  a5 := Tryz.isAgg5
  z5 := Tryz.sizeOf5
  v5 := Tryz.zeroValue5
  t9 := Tryz.underlying9
  a9 := Tryz.isAgg9
  z9 := Tryz.sizeOf9
  v9 := Tryz.zeroValue9
  t31 := Tryz.underlying56
  a31 := Tryz.isAgg56
  z31 := Tryz.sizeOf56
  v31 := Tryz.zeroValue56
  t46 := Tryz.underlying168
  a46 := Tryz.isAgg168
  z46 := Tryz.sizeOf168
  v46 := Tryz.zeroValue168
  t51 := Tryz.underlying199
  a51 := Tryz.isAgg199
  z51 := Tryz.sizeOf199
  v51 := Tryz.zeroValue199
  t53 := Tryz.underlying38
  a53 := Tryz.isAgg38
  z53 := Tryz.sizeOf38
  v53 := Tryz.zeroValue38
  t131 := Tryz.underlying143
  a131 := Tryz.isAgg143
  z131 := Tryz.sizeOf143
  v131 := Tryz.zeroValue143
  t182 := Tryz.underlying205
  a182 := Tryz.isAgg205
  z182 := Tryz.sizeOf205
  v182 := Tryz.zeroValue205
  t183 := Tryz.underlying206
  a183 := Tryz.isAgg206
  z183 := Tryz.sizeOf206
  v183 := Tryz.zeroValue206
  t218 := Tryz.underlying237
  a218 := Tryz.isAgg237
  z218 := Tryz.sizeOf237
  v218 := Tryz.zeroValue237
  t222 := Tryz.underlying241
  a222 := Tryz.isAgg241
  z222 := Tryz.sizeOf241
  v222 := Tryz.zeroValue241
  t228 := Tryz.underlying260
  a228 := Tryz.isAgg260
  z228 := Tryz.sizeOf260
  v228 := Tryz.zeroValue260
  t229 := Tryz.underlying217
  a229 := Tryz.isAgg217
  z229 := Tryz.sizeOf217
  v229 := Tryz.zeroValue217 }
open Go.Sort Go.RowKit in
theorem Tryz.slices_Sort_string (blk off cap : Nat) (ss : List (List UInt8)) (w : World) (hH : Holds encStr w blk off ss.toArray) (hblk : blk < w.heap.size) (hsz : ss.length < 4611686018427387904) :
    Calls Tryz.prog 82 #[.slice (some ⟨blk, off, none⟩) ss.length cap] w fun e w' =>
      e = .returned (.tuple #[]) ∧ ∃ n os, w' = grow (putRow encStr (Sort.ahead w n) blk off (ss.mergeSort fun x y => decide (x ≤ y)).toArray) os := Any.slices_Sort_string Tryz.lays190 blk off cap ss w hH hblk hsz
end Go.Proofs
