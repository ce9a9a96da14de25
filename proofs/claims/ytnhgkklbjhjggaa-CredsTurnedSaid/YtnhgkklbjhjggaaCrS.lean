/- The library's sort at this program, laid (the shelf's plain text). -/
import Derived.Shelf.Sort.Plain
import Derived.Shelf.Slices.In.SortNone
import Derived.Test.YtnhgkklbjhjggaaCrN
namespace Go.Proofs.Ytnhgkklbjhjggaa
open Go.Sort Go.RowKit
open Go.Shelf
def lays190_ren : Go.Shelf.Ren := ⟨fun | 190 => 25 | 125 => 33 | 258 => 32 | 128 => 45 | 129 => 46 | 302 => 36 | 303 => 37 | 304 => 38 | 305 => 39 | 306 => 40 | 307 => 41 | 308 => 42 | 309 => 43 | 310 => 44 | 333 => 47 | 329 => 48 | 330 => 49 | 334 => 50 | 335 => 51 | 336 => 52 | 344 => 53 | n => n, fun | 31 => 23 | 9 => 9 | 3 => 3 | 46 => 62 | 0 => 0 | 51 => 74 | 53 => 76 | 4 => 4 | 183 => 67 | 182 => 66 | 131 => 71 | 5 => 5 | 218 => 77 | 222 => 81 | 228 => 83 | 229 => 84 | n => n, fun | n => n⟩
theorem lays190 : Go.Proofs.Lays.n190 Try.prog lays190_ren := {
  mixed := by kernel_rfl
  f125 := Try.func33.trans (congrArg some (by kernel_rfl))
  f128 := Try.func45.trans (congrArg some (by kernel_rfl))
  f129 := Try.func46.trans (congrArg some (by kernel_rfl))
  f190 := Try.func25.trans (congrArg some (by kernel_rfl))
  f258 := Try.func32.trans (congrArg some (by kernel_rfl))
  f302 := Try.func36.trans (congrArg some (by kernel_rfl))
  f303 := Try.func37.trans (congrArg some (by kernel_rfl))
  f304 := Try.func38.trans (congrArg some (by kernel_rfl))
  f305 := Try.func39.trans (congrArg some (by kernel_rfl))
  f306 := Try.func40.trans (congrArg some (by kernel_rfl))
  f307 := Try.func41.trans (congrArg some (by kernel_rfl))
  f308 := Try.func42.trans (congrArg some (by kernel_rfl))
  f309 := Try.func43.trans (congrArg some (by kernel_rfl))
  f310 := Try.func44.trans (congrArg some (by kernel_rfl))
  f329 := Try.func48.trans (congrArg some (by kernel_rfl))
  f330 := Try.func49.trans (congrArg some (by kernel_rfl))
  f333 := Try.func47.trans (congrArg some (by kernel_rfl))
  f334 := Try.func50.trans (congrArg some (by kernel_rfl))
  f335 := Try.func51.trans (congrArg some (by kernel_rfl))
  f336 := Try.func52.trans (congrArg some (by kernel_rfl))
  f344 := Try.func53.trans (congrArg some (by kernel_rfl))
  t0 := Try.underlying0
  a0 := Try.isAgg0
  z0 := Try.sizeOf0
  v0 := Try.zeroValue0
  t3 := Try.underlying3
  a3 := Try.isAgg3
  z3 := Try.sizeOf3
  v3 := Try.zeroValue3
  t4 := Try.underlying4
  a4 := Try.isAgg4
  z4 := Try.sizeOf4
  v4 := Try.zeroValue4
  t5 := Try.underlying5
  a5 := Try.isAgg5
  z5 := Try.sizeOf5
  v5 := Try.zeroValue5
  t9 := Try.underlying9
  a9 := Try.isAgg9
  z9 := Try.sizeOf9
  v9 := Try.zeroValue9
  t31 := Try.underlying23
  a31 := Try.isAgg23
  z31 := Try.sizeOf23
  v31 := Try.zeroValue23
  t46 := Try.underlying62
  a46 := Try.isAgg62
  z46 := Try.sizeOf62
  v46 := Try.zeroValue62
  t51 := Try.underlying74
  a51 := Try.isAgg74
  z51 := Try.sizeOf74
  v51 := Try.zeroValue74
  t53 := Try.underlying76
  a53 := Try.isAgg76
  z53 := Try.sizeOf76
  v53 := Try.zeroValue76
  t131 := Try.underlying71
  a131 := Try.isAgg71
  z131 := Try.sizeOf71
  v131 := Try.zeroValue71
  t182 := Try.underlying66
  a182 := Try.isAgg66
  z182 := Try.sizeOf66
  v182 := Try.zeroValue66
  t183 := Try.underlying67
  a183 := Try.isAgg67
  z183 := Try.sizeOf67
  v183 := Try.zeroValue67
  t218 := Try.underlying77
  a218 := Try.isAgg77
  z218 := Try.sizeOf77
  v218 := Try.zeroValue77
  t222 := Try.underlying81
  a222 := Try.isAgg81
  z222 := Try.sizeOf81
  v222 := Try.zeroValue81
  t228 := Try.underlying83
  a228 := Try.isAgg83
  z228 := Try.sizeOf83
  v228 := Try.zeroValue83
  t229 := Try.underlying84
  a229 := Try.isAgg84
  z229 := Try.sizeOf84
  v229 := Try.zeroValue84 }

theorem sort_strings (blk off cap : Nat) (ss : List (List UInt8)) (w : World) (hH : Holds encStr w blk off ss.toArray) (hblk : blk < w.heap.size) (hsz : ss.length < 4611686018427387904) :
    Calls Try.prog 25 #[.slice (some ⟨blk, off, none⟩) ss.length cap] w fun e w' =>
      e = .returned (.tuple #[]) ∧ ∃ n os, w' = grow (putRow encStr (Sort.ahead w n) blk off (ss.mergeSort fun x y => decide (x ≤ y)).toArray) os := Any.slices_Sort_string lays190 blk off cap ss w hH hblk hsz
theorem sort_none (p : Option Addr) (cap : Nat) (w : World) : Calls Try.prog 25 #[.slice p 0 cap] w fun e w' => e = .returned (.tuple #[]) ∧ w' = w := Any.slices_Sort_string_none lays190 p cap w
end Go.Proofs.Ytnhgkklbjhjggaa
