/-
  DERIVED: THE SHELF's CONTRACTS AT THIS DUMP, IN PLAIN WORDS (tools/lay-plain.mjs out of 'TryShelf.lean', which tools/lay-shelf.mjs wrote): THE SAME DECLARATIONS UNDER THE SAME NAMES: 'import', 'namespace', 'open', 'def', 'theorem' AND NOTHING ELSE: no command of the shelf's: FOR A HAND-IN. Each laying: the table of numbers ('.._ren') and one theorem, a field a fact of the dump's own or the kernel's comparison; each contract: ONE APPLICATION.
-/
import Derived.Shelf.Sort.Plain
import Derived.Shelf.Slices.In.SortNone
import Derived.Shelf.Slices.In.SortNone2
import Derived.Test.YtjhkmmpgjiciiaaProg
namespace Go.Proofs
open Go.Shelf
def Try.lays189_ren : Go.Shelf.Ren := ⟨fun | 189 => 104 | 125 => 111 | 257 => 110 | 128 => 122 | 129 => 123 | 294 => 113 | 295 => 114 | 296 => 115 | 297 => 116 | 298 => 117 | 299 => 118 | 216 => 119 | 300 => 120 | 301 => 121 | 328 => 133 | 329 => 134 | 330 => 135 | 331 => 136 | 332 => 137 | 215 => 138 | 343 => 143 | n => n, fun | 28 => 22 | 3 => 3 | 46 => 149 | 0 => 0 | 51 => 160 | 53 => 162 | 4 => 4 | 183 => 153 | 182 => 152 | 131 => 37 | 5 => 5 | 9 => 9 | 218 => 169 | 222 => 173 | 228 => 177 | 229 => 178 | n => n, fun | n => n⟩
theorem Try.lays189 : Go.Proofs.Lays.n189 Try.prog Try.lays189_ren := {
  mixed := by kernel_rfl
  f125 := Try.func111.trans (congrArg some (by kernel_rfl))
  f128 := Try.func122.trans (congrArg some (by kernel_rfl))
  f129 := Try.func123.trans (congrArg some (by kernel_rfl))
  f189 := Try.func104.trans (congrArg some (by kernel_rfl))
  f215 := Try.func138.trans (congrArg some (by kernel_rfl))
  f216 := Try.func119.trans (congrArg some (by kernel_rfl))
  f257 := Try.func110.trans (congrArg some (by kernel_rfl))
  f294 := Try.func113.trans (congrArg some (by kernel_rfl))
  f295 := Try.func114.trans (congrArg some (by kernel_rfl))
  f296 := Try.func115.trans (congrArg some (by kernel_rfl))
  f297 := Try.func116.trans (congrArg some (by kernel_rfl))
  f298 := Try.func117.trans (congrArg some (by kernel_rfl))
  f299 := Try.func118.trans (congrArg some (by kernel_rfl))
  f300 := Try.func120.trans (congrArg some (by kernel_rfl))
  f301 := Try.func121.trans (congrArg some (by kernel_rfl))
  f328 := Try.func133.trans (congrArg some (by kernel_rfl))
  f329 := Try.func134.trans (congrArg some (by kernel_rfl))
  f330 := Try.func135.trans (congrArg some (by kernel_rfl))
  f331 := Try.func136.trans (congrArg some (by kernel_rfl))
  f332 := Try.func137.trans (congrArg some (by kernel_rfl))
  f343 := Try.func143.trans (congrArg some (by kernel_rfl))
  t0 := Try.underlying0
  a0 := Try.isAgg0
  z0 := Try.sizeOf0
  v0 := Try.zeroValue0
  t3 := Try.underlying3
  a3 := Try.isAgg3
  z3 := Try.sizeOf3
  v3 := Try.zeroValue3
  t4 := Try.underlying4
  a4 := Try.isAgg4
  z4 := Try.sizeOf4
  v4 := Try.zeroValue4
  t5 := Try.underlying5
  a5 := Try.isAgg5
  z5 := Try.sizeOf5
  v5 := Try.zeroValue5
  t9 := Try.underlying9
  a9 := Try.isAgg9
  z9 := Try.sizeOf9
  v9 := Try.zeroValue9
  t28 := Try.underlying22
  a28 := Try.isAgg22
  z28 := Try.sizeOf22
  v28 := Try.zeroValue22
  t46 := Try.underlying149
  a46 := Try.isAgg149
  z46 := Try.sizeOf149
  v46 := Try.zeroValue149
  t51 := Try.underlying160
  a51 := Try.isAgg160
  z51 := Try.sizeOf160
  v51 := Try.zeroValue160
  t53 := Try.underlying162
  a53 := Try.isAgg162
  z53 := Try.sizeOf162
  v53 := Try.zeroValue162
  t131 := Try.underlying37
  a131 := Try.isAgg37
  z131 := Try.sizeOf37
  v131 := Try.zeroValue37
  t182 := Try.underlying152
  a182 := Try.isAgg152
  z182 := Try.sizeOf152
  v182 := Try.zeroValue152
  t183 := Try.underlying153
  a183 := Try.isAgg153
  z183 := Try.sizeOf153
  v183 := Try.zeroValue153
  t218 := Try.underlying169
  a218 := Try.isAgg169
  z218 := Try.sizeOf169
  v218 := Try.zeroValue169
  t222 := Try.underlying173
  a222 := Try.isAgg173
  z222 := Try.sizeOf173
  v222 := Try.zeroValue173
  t228 := Try.underlying177
  a228 := Try.isAgg177
  z228 := Try.sizeOf177
  v228 := Try.zeroValue177
  t229 := Try.underlying178
  a229 := Try.isAgg178
  z229 := Try.sizeOf178
  v229 := Try.zeroValue178 }
open Go.Sort Go.RowKit in
theorem Try.slices_Sort_int (blk off cap : Nat) (zs : List Int) (w : World) (hH : Holds (Value.int .i64) w blk off zs.toArray) (hblk : blk < w.heap.size) (hsz : zs.length < 4611686018427387904) :
    Calls Try.prog 104 #[.slice (some ⟨blk, off, none⟩) zs.length cap] w fun e w' =>
      e = .returned (.tuple #[]) ∧ ∃ n os, w' = grow (putRow (Value.int .i64) (Sort.ahead w n) blk off (zs.mergeSort fun x y => decide (x ≤ y)).toArray) os := Any.slices_Sort_int Try.lays189 blk off cap zs w hH hblk hsz
def Try.lays191_ren : Go.Shelf.Ren := ⟨fun | 191 => 85 | 189 => 104 | 125 => 111 | 257 => 110 | 128 => 122 | 129 => 123 | 294 => 113 | 295 => 114 | 296 => 115 | 297 => 116 | 298 => 117 | 299 => 118 | 216 => 119 | 300 => 120 | 301 => 121 | 328 => 133 | 329 => 134 | 330 => 135 | 331 => 136 | 332 => 137 | 215 => 138 | 343 => 143 | n => n, fun | 28 => 22 | 0 => 0 | 3 => 3 | 46 => 149 | 51 => 160 | 53 => 162 | 4 => 4 | 183 => 153 | 182 => 152 | 131 => 37 | 5 => 5 | 9 => 9 | 218 => 169 | 222 => 173 | 228 => 177 | 229 => 178 | n => n, fun | n => n⟩
theorem Try.lays191 : Go.Proofs.Lays.n191 Try.prog Try.lays191_ren := {
  mixed := by kernel_rfl
  f125 := Try.func111.trans (congrArg some (by kernel_rfl))
  f128 := Try.func122.trans (congrArg some (by kernel_rfl))
  f129 := Try.func123.trans (congrArg some (by kernel_rfl))
  f189 := Try.func104.trans (congrArg some (by kernel_rfl))
  f191 := Try.func85.trans (congrArg some (by kernel_rfl))
  f215 := Try.func138.trans (congrArg some (by kernel_rfl))
  f216 := Try.func119.trans (congrArg some (by kernel_rfl))
  f257 := Try.func110.trans (congrArg some (by kernel_rfl))
  f294 := Try.func113.trans (congrArg some (by kernel_rfl))
  f295 := Try.func114.trans (congrArg some (by kernel_rfl))
  f296 := Try.func115.trans (congrArg some (by kernel_rfl))
  f297 := Try.func116.trans (congrArg some (by kernel_rfl))
  f298 := Try.func117.trans (congrArg some (by kernel_rfl))
  f299 := Try.func118.trans (congrArg some (by kernel_rfl))
  f300 := Try.func120.trans (congrArg some (by kernel_rfl))
  f301 := Try.func121.trans (congrArg some (by kernel_rfl))
  f328 := Try.func133.trans (congrArg some (by kernel_rfl))
  f329 := Try.func134.trans (congrArg some (by kernel_rfl))
  f330 := Try.func135.trans (congrArg some (by kernel_rfl))
  f331 := Try.func136.trans (congrArg some (by kernel_rfl))
  f332 := Try.func137.trans (congrArg some (by kernel_rfl))
  f343 := Try.func143.trans (congrArg some (by kernel_rfl))
  t0 := Try.underlying0
  a0 := Try.isAgg0
  z0 := Try.sizeOf0
  v0 := Try.zeroValue0
  t3 := Try.underlying3
  a3 := Try.isAgg3
  z3 := Try.sizeOf3
  v3 := Try.zeroValue3
  t4 := Try.underlying4
  a4 := Try.isAgg4
  z4 := Try.sizeOf4
  v4 := Try.zeroValue4
  t5 := Try.underlying5
  a5 := Try.isAgg5
  z5 := Try.sizeOf5
  v5 := Try.zeroValue5
  t9 := Try.underlying9
  a9 := Try.isAgg9
  z9 := Try.sizeOf9
  v9 := Try.zeroValue9
  t28 := Try.underlying22
  a28 := Try.isAgg22
  z28 := Try.sizeOf22
  v28 := Try.zeroValue22
  t46 := Try.underlying149
  a46 := Try.isAgg149
  z46 := Try.sizeOf149
  v46 := Try.zeroValue149
  t51 := Try.underlying160
  a51 := Try.isAgg160
  z51 := Try.sizeOf160
  v51 := Try.zeroValue160
  t53 := Try.underlying162
  a53 := Try.isAgg162
  z53 := Try.sizeOf162
  v53 := Try.zeroValue162
  t131 := Try.underlying37
  a131 := Try.isAgg37
  z131 := Try.sizeOf37
  v131 := Try.zeroValue37
  t182 := Try.underlying152
  a182 := Try.isAgg152
  z182 := Try.sizeOf152
  v182 := Try.zeroValue152
  t183 := Try.underlying153
  a183 := Try.isAgg153
  z183 := Try.sizeOf153
  v183 := Try.zeroValue153
  t218 := Try.underlying169
  a218 := Try.isAgg169
  z218 := Try.sizeOf169
  v218 := Try.zeroValue169
  t222 := Try.underlying173
  a222 := Try.isAgg173
  z222 := Try.sizeOf173
  v222 := Try.zeroValue173
  t228 := Try.underlying177
  a228 := Try.isAgg177
  z228 := Try.sizeOf177
  v228 := Try.zeroValue177
  t229 := Try.underlying178
  a229 := Try.isAgg178
  z229 := Try.sizeOf178
  v229 := Try.zeroValue178 }
open Go.Sort Go.RowKit in
theorem Try.sort_Ints (blk off cap : Nat) (zs : List Int) (w : World) (hH : Holds (Value.int .i64) w blk off zs.toArray) (hblk : blk < w.heap.size) (hsz : zs.length < 4611686018427387904) :
    Calls Try.prog 85 #[.slice (some ⟨blk, off, none⟩) zs.length cap] w fun e w' =>
      e = .returned (.tuple #[]) ∧ ∃ n os, w' = grow (putRow (Value.int .i64) (Sort.ahead w n) blk off (zs.mergeSort fun x y => decide (x ≤ y)).toArray) os := Any.sort_Ints Try.lays191 blk off cap zs w hH hblk hsz
def Try.lays190_ren : Go.Shelf.Ren := ⟨fun | 190 => 106 | 125 => 111 | 258 => 112 | 128 => 122 | 129 => 123 | 302 => 124 | 303 => 125 | 304 => 126 | 305 => 127 | 306 => 128 | 307 => 129 | 308 => 130 | 309 => 131 | 310 => 132 | 333 => 139 | 329 => 134 | 330 => 135 | 334 => 140 | 335 => 141 | 336 => 142 | 344 => 144 | n => n, fun | 31 => 83 | 9 => 9 | 3 => 3 | 46 => 149 | 0 => 0 | 51 => 160 | 53 => 162 | 4 => 4 | 183 => 153 | 182 => 152 | 131 => 37 | 5 => 5 | 218 => 169 | 222 => 173 | 228 => 177 | 229 => 178 | n => n, fun | n => n⟩
theorem Try.lays190 : Go.Proofs.Lays.n190 Try.prog Try.lays190_ren := {
  mixed := by kernel_rfl
  f125 := Try.func111.trans (congrArg some (by kernel_rfl))
  f128 := Try.func122.trans (congrArg some (by kernel_rfl))
  f129 := Try.func123.trans (congrArg some (by kernel_rfl))
  f190 := Try.func106.trans (congrArg some (by kernel_rfl))
  f258 := Try.func112.trans (congrArg some (by kernel_rfl))
  f302 := Try.func124.trans (congrArg some (by kernel_rfl))
  f303 := Try.func125.trans (congrArg some (by kernel_rfl))
  f304 := Try.func126.trans (congrArg some (by kernel_rfl))
  f305 := Try.func127.trans (congrArg some (by kernel_rfl))
  f306 := Try.func128.trans (congrArg some (by kernel_rfl))
  f307 := Try.func129.trans (congrArg some (by kernel_rfl))
  f308 := Try.func130.trans (congrArg some (by kernel_rfl))
  f309 := Try.func131.trans (congrArg some (by kernel_rfl))
  f310 := Try.func132.trans (congrArg some (by kernel_rfl))
  f329 := Try.func134.trans (congrArg some (by kernel_rfl))
  f330 := Try.func135.trans (congrArg some (by kernel_rfl))
  f333 := Try.func139.trans (congrArg some (by kernel_rfl))
  f334 := Try.func140.trans (congrArg some (by kernel_rfl))
  f335 := Try.func141.trans (congrArg some (by kernel_rfl))
  f336 := Try.func142.trans (congrArg some (by kernel_rfl))
  f344 := Try.func144.trans (congrArg some (by kernel_rfl))
  t0 := Try.underlying0
  a0 := Try.isAgg0
  z0 := Try.sizeOf0
  v0 := Try.zeroValue0
  t3 := Try.underlying3
  a3 := Try.isAgg3
  z3 := Try.sizeOf3
  v3 := Try.zeroValue3
  t4 := Try.underlying4
  a4 := Try.isAgg4
  z4 := Try.sizeOf4
  v4 := Try.zeroValue4
  t5 := Try.underlying5
  a5 := Try.isAgg5
  z5 := Try.sizeOf5
  v5 := Try.zeroValue5
  t9 := Try.underlying9
  a9 := Try.isAgg9
  z9 := Try.sizeOf9
  v9 := Try.zeroValue9
  t31 := Try.underlying83
  a31 := Try.isAgg83
  z31 := Try.sizeOf83
  v31 := Try.zeroValue83
  t46 := Try.underlying149
  a46 := Try.isAgg149
  z46 := Try.sizeOf149
  v46 := Try.zeroValue149
  t51 := Try.underlying160
  a51 := Try.isAgg160
  z51 := Try.sizeOf160
  v51 := Try.zeroValue160
  t53 := Try.underlying162
  a53 := Try.isAgg162
  z53 := Try.sizeOf162
  v53 := Try.zeroValue162
  t131 := Try.underlying37
  a131 := Try.isAgg37
  z131 := Try.sizeOf37
  v131 := Try.zeroValue37
  t182 := Try.underlying152
  a182 := Try.isAgg152
  z182 := Try.sizeOf152
  v182 := Try.zeroValue152
  t183 := Try.underlying153
  a183 := Try.isAgg153
  z183 := Try.sizeOf153
  v183 := Try.zeroValue153
  t218 := Try.underlying169
  a218 := Try.isAgg169
  z218 := Try.sizeOf169
  v218 := Try.zeroValue169
  t222 := Try.underlying173
  a222 := Try.isAgg173
  z222 := Try.sizeOf173
  v222 := Try.zeroValue173
  t228 := Try.underlying177
  a228 := Try.isAgg177
  z228 := Try.sizeOf177
  v228 := Try.zeroValue177
  t229 := Try.underlying178
  a229 := Try.isAgg178
  z229 := Try.sizeOf178
  v229 := Try.zeroValue178 }
open Go.Sort Go.RowKit in
theorem Try.slices_Sort_string (blk off cap : Nat) (ss : List (List UInt8)) (w : World) (hH : Holds encStr w blk off ss.toArray) (hblk : blk < w.heap.size) (hsz : ss.length < 4611686018427387904) :
    Calls Try.prog 106 #[.slice (some ⟨blk, off, none⟩) ss.length cap] w fun e w' =>
      e = .returned (.tuple #[]) ∧ ∃ n os, w' = grow (putRow encStr (Sort.ahead w n) blk off (ss.mergeSort fun x y => decide (x ≤ y)).toArray) os := Any.slices_Sort_string Try.lays190 blk off cap ss w hH hblk hsz
def Try.lays192_ren : Go.Shelf.Ren := ⟨fun | 192 => 91 | 190 => 106 | 125 => 111 | 258 => 112 | 128 => 122 | 129 => 123 | 302 => 124 | 303 => 125 | 304 => 126 | 305 => 127 | 306 => 128 | 307 => 129 | 308 => 130 | 309 => 131 | 310 => 132 | 333 => 139 | 329 => 134 | 330 => 135 | 334 => 140 | 335 => 141 | 336 => 142 | 344 => 144 | n => n, fun | 31 => 83 | 0 => 0 | 9 => 9 | 3 => 3 | 46 => 149 | 51 => 160 | 53 => 162 | 4 => 4 | 183 => 153 | 182 => 152 | 131 => 37 | 5 => 5 | 218 => 169 | 222 => 173 | 228 => 177 | 229 => 178 | n => n, fun | n => n⟩
theorem Try.lays192 : Go.Proofs.Lays.n192 Try.prog Try.lays192_ren := {
  mixed := by kernel_rfl
  f125 := Try.func111.trans (congrArg some (by kernel_rfl))
  f128 := Try.func122.trans (congrArg some (by kernel_rfl))
  f129 := Try.func123.trans (congrArg some (by kernel_rfl))
  f190 := Try.func106.trans (congrArg some (by kernel_rfl))
  f192 := Try.func91.trans (congrArg some (by kernel_rfl))
  f258 := Try.func112.trans (congrArg some (by kernel_rfl))
  f302 := Try.func124.trans (congrArg some (by kernel_rfl))
  f303 := Try.func125.trans (congrArg some (by kernel_rfl))
  f304 := Try.func126.trans (congrArg some (by kernel_rfl))
  f305 := Try.func127.trans (congrArg some (by kernel_rfl))
  f306 := Try.func128.trans (congrArg some (by kernel_rfl))
  f307 := Try.func129.trans (congrArg some (by kernel_rfl))
  f308 := Try.func130.trans (congrArg some (by kernel_rfl))
  f309 := Try.func131.trans (congrArg some (by kernel_rfl))
  f310 := Try.func132.trans (congrArg some (by kernel_rfl))
  f329 := Try.func134.trans (congrArg some (by kernel_rfl))
  f330 := Try.func135.trans (congrArg some (by kernel_rfl))
  f333 := Try.func139.trans (congrArg some (by kernel_rfl))
  f334 := Try.func140.trans (congrArg some (by kernel_rfl))
  f335 := Try.func141.trans (congrArg some (by kernel_rfl))
  f336 := Try.func142.trans (congrArg some (by kernel_rfl))
  f344 := Try.func144.trans (congrArg some (by kernel_rfl))
  t0 := Try.underlying0
  a0 := Try.isAgg0
  z0 := Try.sizeOf0
  v0 := Try.zeroValue0
  t3 := Try.underlying3
  a3 := Try.isAgg3
  z3 := Try.sizeOf3
  v3 := Try.zeroValue3
  t4 := Try.underlying4
  a4 := Try.isAgg4
  z4 := Try.sizeOf4
  v4 := Try.zeroValue4
  t5 := Try.underlying5
  a5 := Try.isAgg5
  z5 := Try.sizeOf5
  v5 := Try.zeroValue5
  t9 := Try.underlying9
  a9 := Try.isAgg9
  z9 := Try.sizeOf9
  v9 := Try.zeroValue9
  t31 := Try.underlying83
  a31 := Try.isAgg83
  z31 := Try.sizeOf83
  v31 := Try.zeroValue83
  t46 := Try.underlying149
  a46 := Try.isAgg149
  z46 := Try.sizeOf149
  v46 := Try.zeroValue149
  t51 := Try.underlying160
  a51 := Try.isAgg160
  z51 := Try.sizeOf160
  v51 := Try.zeroValue160
  t53 := Try.underlying162
  a53 := Try.isAgg162
  z53 := Try.sizeOf162
  v53 := Try.zeroValue162
  t131 := Try.underlying37
  a131 := Try.isAgg37
  z131 := Try.sizeOf37
  v131 := Try.zeroValue37
  t182 := Try.underlying152
  a182 := Try.isAgg152
  z182 := Try.sizeOf152
  v182 := Try.zeroValue152
  t183 := Try.underlying153
  a183 := Try.isAgg153
  z183 := Try.sizeOf153
  v183 := Try.zeroValue153
  t218 := Try.underlying169
  a218 := Try.isAgg169
  z218 := Try.sizeOf169
  v218 := Try.zeroValue169
  t222 := Try.underlying173
  a222 := Try.isAgg173
  z222 := Try.sizeOf173
  v222 := Try.zeroValue173
  t228 := Try.underlying177
  a228 := Try.isAgg177
  z228 := Try.sizeOf177
  v228 := Try.zeroValue177
  t229 := Try.underlying178
  a229 := Try.isAgg178
  z229 := Try.sizeOf178
  v229 := Try.zeroValue178 }
open Go.Sort Go.RowKit in
theorem Try.sort_Strings (blk off cap : Nat) (ss : List (List UInt8)) (w : World) (hH : Holds encStr w blk off ss.toArray) (hblk : blk < w.heap.size) (hsz : ss.length < 4611686018427387904) :
    Calls Try.prog 91 #[.slice (some ⟨blk, off, none⟩) ss.length cap] w fun e w' =>
      e = .returned (.tuple #[]) ∧ ∃ n os, w' = grow (putRow encStr (Sort.ahead w n) blk off (ss.mergeSort fun x y => decide (x ≤ y)).toArray) os := Any.sort_Strings Try.lays192 blk off cap ss w hH hblk hsz
open Go.RowKit Go.Sort in
/-- .. and plain. (LAID: no walk: one application.) -/
theorem Try.slices_Sort_string_none (p : Option Addr) (cap : Nat) (w : World) :
    Calls Try.prog 106 #[.slice p 0 cap] w fun e w' => e = .returned (.tuple #[]) ∧ w' = w := Any.slices_Sort_string_none Try.lays190 p cap w
open Go.RowKit Go.Sort in
/-- .. and plain. (LAID: no walk: one application.) -/
theorem Try.slices_Sort_int_none (p : Option Addr) (cap : Nat) (w : World) :
    Calls Try.prog 104 #[.slice p 0 cap] w fun e w' => e = .returned (.tuple #[]) ∧ w' = w := Any.slices_Sort_int_none Try.lays189 p cap w
open Go.RowKit Go.Sort in
/-- .. and plain. (LAID: no walk: one application.) -/
theorem Try.sort_Strings_none (p : Option Addr) (cap : Nat) (w : World) :
    Calls Try.prog 91 #[.slice p 0 cap] w fun e w' => e = .returned (.tuple #[]) ∧ w' = w := Any.sort_Strings_none Try.lays192 p cap w
open Go.RowKit Go.Sort in
/-- .. and plain. (LAID: no walk: one application.) -/
theorem Try.sort_Ints_none (p : Option Addr) (cap : Nat) (w : World) :
    Calls Try.prog 85 #[.slice p 0 cap] w fun e w' => e = .returned (.tuple #[]) ∧ w' = w := Any.sort_Ints_none Try.lays191 p cap w
end Go.Proofs
