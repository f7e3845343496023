/- The shelf's contracts laid at this program by the shelf's tool. Conditions: as each says. -/
import Derived.Shelf.Strings.Builder1
import Derived.Shelf.Strings.Builder2
import Derived.Shelf.Strings.OnBuilder
import Derived.Shelf.Small.Bits
import Derived.Shelf.Strings.BuilderF
import Derived.Shelf.Strconv.Itoa0
import Derived.Shelf.Sort.Plain
import Derived.Shelf.Strings.Prefix
import Derived.Shelf.Bits.Mul64
import Derived.Shelf.Strings.Repeat
import Derived.Shelf.Slices.In.SortNone
import Derived.Test.YtdinbpdpalgohaaGreatDoorSh
namespace Go.Proofs
open Go.Shelf
def Tryz.lays156_ren : Go.Shelf.Ren := ⟨fun | 156 => 145 | 165 => 129 | 166 => 130 | 169 => 132 | 240 => 156 | 241 => 157 | 276 => 166 | 277 => 167 | n => n, fun | 31 => 37 | 9 => 9 | 3 => 3 | 4 => 4 | 0 => 0 | 20 => 20 | 72 => 198 | 76 => 202 | 70 => 196 | 37 => 99 | 75 => 201 | 127 => 226 | 164 => 235 | 5 => 5 | 80 => 143 | n => n, fun | n => n⟩
theorem Tryz.lays156 : Go.Proofs.Lays.n156 Tryz.prog Tryz.lays156_ren := {
  mixed := by kernel_rfl
  f156 := Tryz.func145.trans (congrArg some (by kernel_rfl))
  f165 := Tryz.func129.trans (congrArg some (by kernel_rfl))
  f166 := Tryz.func130.trans (congrArg some (by kernel_rfl))
  f169 := Tryz.func132.trans (congrArg some (by kernel_rfl))
  f240 := Tryz.func156.trans (congrArg some (by kernel_rfl))
  f241 := Tryz.func157.trans (congrArg some (by kernel_rfl))
  f276 := Tryz.func166.trans (congrArg some (by kernel_rfl))
  f277 := Tryz.func167.trans (congrArg some (by kernel_rfl))
  t0 := Tryz.underlying0
  a0 := Tryz.isAgg0
  z0 := Tryz.sizeOf0
  v0 := Tryz.zeroValue0
  t3 := Tryz.underlying3
  a3 := Tryz.isAgg3
  z3 := Tryz.sizeOf3
  v3 := Tryz.zeroValue3
  t4 := Tryz.underlying4
  a4 := Tryz.isAgg4
  z4 := Tryz.sizeOf4
  v4 := Tryz.zeroValue4
  t9 := Tryz.underlying9
  a9 := Tryz.isAgg9
  z9 := Tryz.sizeOf9
  v9 := Tryz.zeroValue9
  t20 := Tryz.underlying20
  a20 := Tryz.isAgg20
  z20 := Tryz.sizeOf20
  v20 := Tryz.zeroValue20
  t31 := Tryz.underlying37
  a31 := Tryz.isAgg37
  z31 := Tryz.sizeOf37
  v31 := Tryz.zeroValue37
  t37 := Tryz.underlying99
  a37 := Tryz.isAgg99
  z37 := Tryz.sizeOf99
  v37 := Tryz.zeroValue99
  t70 := Tryz.underlying196
  a70 := Tryz.isAgg196
  z70 := Tryz.sizeOf196
  v70 := Tryz.zeroValue196
  t72 := Tryz.underlying198
  a72 := Tryz.isAgg198
  z72 := Tryz.sizeOf198
  v72 := Tryz.zeroValue198
  t75 := Tryz.underlying201
  a75 := Tryz.isAgg201
  z75 := Tryz.sizeOf201
  v75 := Tryz.zeroValue201
  t76 := Tryz.underlying202
  a76 := Tryz.isAgg202
  z76 := Tryz.sizeOf202
  v76 := Tryz.zeroValue202
  t127 := Tryz.underlying226
  a127 := Tryz.isAgg226
  z127 := Tryz.sizeOf226
  v127 := Tryz.zeroValue226
  t164 := Tryz.underlying235
  a164 := Tryz.isAgg235
  z164 := Tryz.sizeOf235
  v164 := Tryz.zeroValue235 }
theorem Tryz.Builder_Extra_156 : Builder.Extra Tryz.prog Tryz.lays156_ren := {
  sizeBuilder := by kernel_rfl
  liesBuilder := by kernel_rfl
  t5 := Tryz.underlying5
  a5 := Tryz.isAgg5
  z5 := Tryz.sizeOf5
  v5 := Tryz.zeroValue5
  infoByte := by kernel_rfl
  cellsByte := by kernel_rfl
  sizeByte := by kernel_rfl
  neB5 := by decide }
open Go.RowKit in
theorem Tryz.strings_Join_none (a : Option Addr) (c : Nat) (sep : ByteArray) (w : World) :
    Calls Tryz.prog 145 #[.slice a 0 c, .string sep] w fun e w' => e = .returned (.string ⟨#[]⟩) ∧ w' = w := Any.strings_Join_none Tryz.lays156 Tryz.Builder_Extra_156 a c sep w
open Go.RowKit in
theorem Tryz.strings_Join (bk o c : Nat) (xs : List ByteArray) (sep : ByteArray) (w : World) (hcells : ∀ (j : Nat) x, xs[j]? = some x → w.cell? ⟨bk, o + j, none⟩ = some (.string x)) (hbk : bk < w.heap.size) (hN : xs.length ≤ 140737488355328) (hcap : xs.length ≤ c) (hlen : (Lib.join (xs.map (·.data.toList)) sep.data.toList).length ≤ 140737488355328) :
    Calls Tryz.prog 145 #[.slice (some ⟨bk, o, none⟩) xs.length c, .string sep] w fun e w' => e = .returned (.string ⟨(Lib.join (xs.map (·.data.toList)) sep.data.toList).toArray⟩) ∧ Below w.heap.size w w' := Any.strings_Join Tryz.lays156 Tryz.Builder_Extra_156 bk o c xs sep w hcells hbk hN hcap hlen
def Tryz.lays190_ren : Go.Shelf.Ren := ⟨fun | 190 => 169 | 125 => 173 | 258 => 172 | 128 => 183 | 129 => 184 | 302 => 174 | 303 => 175 | 304 => 176 | 305 => 177 | 306 => 178 | 307 => 179 | 308 => 180 | 309 => 181 | 310 => 182 | 333 => 185 | 329 => 186 | 330 => 187 | 334 => 188 | 335 => 189 | 336 => 190 | 344 => 191 | n => n, fun | 31 => 37 | 9 => 9 | 3 => 3 | 46 => 107 | 0 => 0 | 51 => 110 | 53 => 112 | 4 => 4 | 183 => 244 | 182 => 243 | 131 => 248 | 5 => 5 | 218 => 252 | 222 => 256 | 228 => 258 | 229 => 259 | n => n, fun | n => n⟩
theorem Tryz.lays190 : Go.Proofs.Lays.n190 Tryz.prog Tryz.lays190_ren := {
  mixed := by kernel_rfl
  f125 := Tryz.func173.trans (congrArg some (by kernel_rfl))
  f128 := Tryz.func183.trans (congrArg some (by kernel_rfl))
  f129 := Tryz.func184.trans (congrArg some (by kernel_rfl))
  f190 := Tryz.func169.trans (congrArg some (by kernel_rfl))
  f258 := Tryz.func172.trans (congrArg some (by kernel_rfl))
  f302 := Tryz.func174.trans (congrArg some (by kernel_rfl))
  f303 := Tryz.func175.trans (congrArg some (by kernel_rfl))
  f304 := Tryz.func176.trans (congrArg some (by kernel_rfl))
  f305 := Tryz.func177.trans (congrArg some (by kernel_rfl))
  f306 := Tryz.func178.trans (congrArg some (by kernel_rfl))
  f307 := Tryz.func179.trans (congrArg some (by kernel_rfl))
  f308 := Tryz.func180.trans (congrArg some (by kernel_rfl))
  f309 := Tryz.func181.trans (congrArg some (by kernel_rfl))
  f310 := Tryz.func182.trans (congrArg some (by kernel_rfl))
  f329 := Tryz.func186.trans (congrArg some (by kernel_rfl))
  f330 := Tryz.func187.trans (congrArg some (by kernel_rfl))
  f333 := Tryz.func185.trans (congrArg some (by kernel_rfl))
  f334 := Tryz.func188.trans (congrArg some (by kernel_rfl))
  f335 := Tryz.func189.trans (congrArg some (by kernel_rfl))
  f336 := Tryz.func190.trans (congrArg some (by kernel_rfl))
  f344 := Tryz.func191.trans (congrArg some (by kernel_rfl))
  t0 := Tryz.underlying0
  a0 := Tryz.isAgg0
  z0 := Tryz.sizeOf0
  v0 := Tryz.zeroValue0
  t3 := Tryz.underlying3
  a3 := Tryz.isAgg3
  z3 := Tryz.sizeOf3
  v3 := Tryz.zeroValue3
  t4 := Tryz.underlying4
  a4 := Tryz.isAgg4
  z4 := Tryz.sizeOf4
  v4 := Tryz.zeroValue4
  t5 := Tryz.underlying5
  a5 := Tryz.isAgg5
  z5 := Tryz.sizeOf5
  v5 := Tryz.zeroValue5
  t9 := Tryz.underlying9
  a9 := Tryz.isAgg9
  z9 := Tryz.sizeOf9
  v9 := Tryz.zeroValue9
  t31 := Tryz.underlying37
  a31 := Tryz.isAgg37
  z31 := Tryz.sizeOf37
  v31 := Tryz.zeroValue37
  t46 := Tryz.underlying107
  a46 := Tryz.isAgg107
  z46 := Tryz.sizeOf107
  v46 := Tryz.zeroValue107
  t51 := Tryz.underlying110
  a51 := Tryz.isAgg110
  z51 := Tryz.sizeOf110
  v51 := Tryz.zeroValue110
  t53 := Tryz.underlying112
  a53 := Tryz.isAgg112
  z53 := Tryz.sizeOf112
  v53 := Tryz.zeroValue112
  t131 := Tryz.underlying248
  a131 := Tryz.isAgg248
  z131 := Tryz.sizeOf248
  v131 := Tryz.zeroValue248
  t182 := Tryz.underlying243
  a182 := Tryz.isAgg243
  z182 := Tryz.sizeOf243
  v182 := Tryz.zeroValue243
  t183 := Tryz.underlying244
  a183 := Tryz.isAgg244
  z183 := Tryz.sizeOf244
  v183 := Tryz.zeroValue244
  t218 := Tryz.underlying252
  a218 := Tryz.isAgg252
  z218 := Tryz.sizeOf252
  v218 := Tryz.zeroValue252
  t222 := Tryz.underlying256
  a222 := Tryz.isAgg256
  z222 := Tryz.sizeOf256
  v222 := Tryz.zeroValue256
  t228 := Tryz.underlying258
  a228 := Tryz.isAgg258
  z228 := Tryz.sizeOf258
  v228 := Tryz.zeroValue258
  t229 := Tryz.underlying259
  a229 := Tryz.isAgg259
  z229 := Tryz.sizeOf259
  v229 := Tryz.zeroValue259 }
open Go.Sort Go.RowKit in
theorem Tryz.slices_Sort_string (blk off cap : Nat) (ss : List (List UInt8)) (w : World) (hH : Holds encStr w blk off ss.toArray) (hblk : blk < w.heap.size) (hsz : ss.length < 4611686018427387904) :
    Calls Tryz.prog 169 #[.slice (some ⟨blk, off, none⟩) ss.length cap] w fun e w' =>
      e = .returned (.tuple #[]) ∧ ∃ n os, w' = grow (putRow encStr (Sort.ahead w n) blk off (ss.mergeSort fun x y => decide (x ≤ y)).toArray) os := Any.slices_Sort_string Tryz.lays190 blk off cap ss w hH hblk hsz
def Tryz.lays212_ren : Go.Shelf.Ren := ⟨fun | 212 => 127 | 263 => 153 | 264 => 154 | n => n, fun | 46 => 107 | 51 => 110 | 146 => 222 | 53 => 112 | 148 => 224 | n => n, fun | n => n⟩
theorem Tryz.lays212 : Go.Proofs.Lays.n212 Tryz.prog Tryz.lays212_ren := {
  mixed := by kernel_rfl
  f212 := Tryz.func127.trans (congrArg some (by kernel_rfl))
  f263 := Tryz.func153.trans (congrArg some (by kernel_rfl))
  f264 := Tryz.func154.trans (congrArg some (by kernel_rfl))
  t46 := Tryz.underlying107
  a46 := Tryz.isAgg107
  z46 := Tryz.sizeOf107
  v46 := Tryz.zeroValue107
  t51 := Tryz.underlying110
  a51 := Tryz.isAgg110
  z51 := Tryz.sizeOf110
  v51 := Tryz.zeroValue110
  t53 := Tryz.underlying112
  a53 := Tryz.isAgg112
  z53 := Tryz.sizeOf112
  v53 := Tryz.zeroValue112
  t146 := Tryz.underlying222
  a146 := Tryz.isAgg222
  z146 := Tryz.sizeOf222
  v146 := Tryz.zeroValue222
  t148 := Tryz.underlying224
  a148 := Tryz.isAgg224
  z148 := Tryz.sizeOf224
  v148 := Tryz.zeroValue224 }
open Go.RowKit Go.Lib in
theorem Tryz.bits_Mul (x y : Nat) (hx : x < 18446744073709551616) (hy : y < 18446744073709551616) (w : World) :
    Calls Tryz.prog 127 #[.int .u64 x, .int .u64 y] w fun e w' => e = .returned (.tuple #[.int .u64 ((x * y / 18446744073709551616 : Nat) : Int), .int .u64 ((x * y % 18446744073709551616 : Nat) : Int)]) ∧ w' = w := Any.bits_Mul Tryz.lays212 x y hx hy w
def Tryz.lays105_ren : Go.Shelf.Ren := ⟨fun | 105 => 81 | 212 => 127 | 99 => 128 | 165 => 129 | 166 => 130 | 170 => 131 | 169 => 132 | 263 => 153 | 264 => 154 | 206 => 155 | 240 => 156 | 241 => 157 | 276 => 166 | 277 => 167 | n => n, fun | 9 => 9 | 3 => 3 | 4 => 4 | 20 => 20 | 0 => 0 | 46 => 107 | 109 => 193 | 5 => 5 | 72 => 198 | 76 => 202 | 51 => 110 | 146 => 222 | 53 => 112 | 148 => 224 | 70 => 196 | 37 => 99 | 75 => 201 | 127 => 226 | 164 => 235 | 80 => 143 | n => n, fun | n => n⟩
theorem Tryz.lays105 : Go.Proofs.Lays.n105 Tryz.prog Tryz.lays105_ren := {
  mixed := by kernel_rfl
  f99 := Tryz.func128.trans (congrArg some (by kernel_rfl))
  f105 := Tryz.func81.trans (congrArg some (by kernel_rfl))
  f165 := Tryz.func129.trans (congrArg some (by kernel_rfl))
  f166 := Tryz.func130.trans (congrArg some (by kernel_rfl))
  f169 := Tryz.func132.trans (congrArg some (by kernel_rfl))
  f170 := Tryz.func131.trans (congrArg some (by kernel_rfl))
  f206 := Tryz.func155.trans (congrArg some (by kernel_rfl))
  f212 := Tryz.func127.trans (congrArg some (by kernel_rfl))
  f240 := Tryz.func156.trans (congrArg some (by kernel_rfl))
  f241 := Tryz.func157.trans (congrArg some (by kernel_rfl))
  f263 := Tryz.func153.trans (congrArg some (by kernel_rfl))
  f264 := Tryz.func154.trans (congrArg some (by kernel_rfl))
  f276 := Tryz.func166.trans (congrArg some (by kernel_rfl))
  f277 := Tryz.func167.trans (congrArg some (by kernel_rfl))
  t0 := Tryz.underlying0
  a0 := Tryz.isAgg0
  z0 := Tryz.sizeOf0
  v0 := Tryz.zeroValue0
  t3 := Tryz.underlying3
  a3 := Tryz.isAgg3
  z3 := Tryz.sizeOf3
  v3 := Tryz.zeroValue3
  t4 := Tryz.underlying4
  a4 := Tryz.isAgg4
  z4 := Tryz.sizeOf4
  v4 := Tryz.zeroValue4
  t5 := Tryz.underlying5
  a5 := Tryz.isAgg5
  z5 := Tryz.sizeOf5
  v5 := Tryz.zeroValue5
  t9 := Tryz.underlying9
  a9 := Tryz.isAgg9
  z9 := Tryz.sizeOf9
  v9 := Tryz.zeroValue9
  t20 := Tryz.underlying20
  a20 := Tryz.isAgg20
  z20 := Tryz.sizeOf20
  v20 := Tryz.zeroValue20
  t37 := Tryz.underlying99
  a37 := Tryz.isAgg99
  z37 := Tryz.sizeOf99
  v37 := Tryz.zeroValue99
  t46 := Tryz.underlying107
  a46 := Tryz.isAgg107
  z46 := Tryz.sizeOf107
  v46 := Tryz.zeroValue107
  t51 := Tryz.underlying110
  a51 := Tryz.isAgg110
  z51 := Tryz.sizeOf110
  v51 := Tryz.zeroValue110
  t53 := Tryz.underlying112
  a53 := Tryz.isAgg112
  z53 := Tryz.sizeOf112
  v53 := Tryz.zeroValue112
  t70 := Tryz.underlying196
  a70 := Tryz.isAgg196
  z70 := Tryz.sizeOf196
  v70 := Tryz.zeroValue196
  t72 := Tryz.underlying198
  a72 := Tryz.isAgg198
  z72 := Tryz.sizeOf198
  v72 := Tryz.zeroValue198
  t75 := Tryz.underlying201
  a75 := Tryz.isAgg201
  z75 := Tryz.sizeOf201
  v75 := Tryz.zeroValue201
  t76 := Tryz.underlying202
  a76 := Tryz.isAgg202
  z76 := Tryz.sizeOf202
  v76 := Tryz.zeroValue202
  t109 := Tryz.underlying193
  a109 := Tryz.isAgg193
  z109 := Tryz.sizeOf193
  v109 := Tryz.zeroValue193
  t127 := Tryz.underlying226
  a127 := Tryz.isAgg226
  z127 := Tryz.sizeOf226
  v127 := Tryz.zeroValue226
  t146 := Tryz.underlying222
  a146 := Tryz.isAgg222
  z146 := Tryz.sizeOf222
  v146 := Tryz.zeroValue222
  t148 := Tryz.underlying224
  a148 := Tryz.isAgg224
  z148 := Tryz.sizeOf224
  v148 := Tryz.zeroValue224
  t164 := Tryz.underlying235
  a164 := Tryz.isAgg235
  z164 := Tryz.sizeOf235
  v164 := Tryz.zeroValue235 }
theorem Tryz.Builder_Extra_105 : Builder.Extra Tryz.prog Tryz.lays105_ren := {
  sizeBuilder := by kernel_rfl
  liesBuilder := by kernel_rfl
  t5 := Tryz.underlying5
  a5 := Tryz.isAgg5
  z5 := Tryz.sizeOf5
  v5 := Tryz.zeroValue5
  infoByte := by kernel_rfl
  cellsByte := by kernel_rfl
  sizeByte := by kernel_rfl
  neB5 := by decide }
open Go.RowKit Go.Lib in
theorem Tryz.strings_Repeat (s : ByteArray) (c : Nat) (w : World) (hc : c ≤ 9223372036854775807) (hlen : s.size * c ≤ 140737488355328) :
    Calls Tryz.prog 81 #[.string s, .int .i64 c] w fun e w' => e = .returned (.string ⟨(Lib.repeatL s.data.toList c).toArray⟩) ∧ Below w.heap.size w w' := Any.strings_Repeat Tryz.lays105 Tryz.Builder_Extra_105 s c w hc hlen
open Go.RowKit Go.Sort in
theorem Tryz.slices_Sort_string_none (p : Option Addr) (cap : Nat) (w : World) :
    Calls Tryz.prog 169 #[.slice p 0 cap] w fun e w' => e = .returned (.tuple #[]) ∧ w' = w := Any.slices_Sort_string_none Tryz.lays190 p cap w
end Go.Proofs
