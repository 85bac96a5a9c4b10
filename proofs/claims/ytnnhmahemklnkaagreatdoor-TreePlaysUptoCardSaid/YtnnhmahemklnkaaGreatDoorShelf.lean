/-
  DERIVED: THE SHELF's CONTRACTS AT THIS DUMP, IN PLAIN WORDS (tools/lay-plain.mjs out of 'TryzShelf.lean', which tools/lay-shelf.mjs wrote): THE SAME DECLARATIONS UNDER THE SAME NAMES: 'import', 'namespace', 'open', 'def', 'theorem' AND NOTHING ELSE: no command of the shelf's: FOR A HAND-IN. Each laying: the table of numbers ('.._ren') and one theorem, a field a fact of the dump's own or the kernel's comparison; each contract: ONE APPLICATION.
-/
import Derived.Shelf.Strings.Builder1
import Derived.Shelf.Strings.Builder2
import Derived.Shelf.Strings.OnBuilder
import Derived.Shelf.Small.Bits
import Derived.Shelf.Strings.BuilderF
import Derived.Shelf.Strings.BuilderK
import Derived.Shelf.Strings.Builder2Cap
import Derived.Shelf.Strconv.Itoa0
import Derived.Shelf.Strings.Search1
import Derived.Shelf.Strings.Search2
import Derived.Shelf.Strings.Search3
import Derived.Shelf.LaysM
import Derived.Shelf.Strings.Shaped
import Derived.Shelf.Sort.Plain
import Derived.Shelf.Strings.LastIndex
import Derived.Shelf.Strings.Prefix
import Derived.Shelf.Unicode.Decode
import Derived.Shelf.Unicode.DecodeSlow
import Derived.Shelf.Unicode.DecodeAny
import Derived.Shelf.Strings.BuilderCap
import Derived.Shelf.Slices.Turned
import Derived.Shelf.Slices.Equal
import Derived.Ground.Names2Prog
import Derived.Shelf.Slices.Clone
import Derived.Shelf.Slices.CompactS
import Derived.Shelf.Slices.Cells
import Derived.Shelf.Slices.In.SortNone
import Derived.Shelf.Slices.Empties2
import Derived.Test.YtnnhmahemklnkaaGreatDoorProg
namespace Go.Proofs
open Go.Shelf
def Tryz.lays156_ren : Go.Shelf.Ren := ⟨fun | 156 => 59 | 165 => 115 | 166 => 116 | 169 => 117 | 240 => 153 | 241 => 154 | 276 => 169 | 277 => 170 | n => n, fun | 31 => 26 | 9 => 9 | 3 => 3 | 4 => 4 | 0 => 0 | 20 => 20 | 72 => 193 | 76 => 196 | 70 => 191 | 37 => 127 | 75 => 195 | 127 => 227 | 164 => 237 | 5 => 5 | 80 => 154 | n => n, fun | n => n⟩
theorem Tryz.lays156 : Go.Proofs.Lays.n156 Tryz.prog Tryz.lays156_ren := {
  mixed := by kernel_rfl
  f156 := Tryz.func59.trans (congrArg some (by kernel_rfl))
  f165 := Tryz.func115.trans (congrArg some (by kernel_rfl))
  f166 := Tryz.func116.trans (congrArg some (by kernel_rfl))
  f169 := Tryz.func117.trans (congrArg some (by kernel_rfl))
  f240 := Tryz.func153.trans (congrArg some (by kernel_rfl))
  f241 := Tryz.func154.trans (congrArg some (by kernel_rfl))
  f276 := Tryz.func169.trans (congrArg some (by kernel_rfl))
  f277 := Tryz.func170.trans (congrArg some (by kernel_rfl))
  t0 := Tryz.underlying0
  a0 := Tryz.isAgg0
  z0 := Tryz.sizeOf0
  v0 := Tryz.zeroValue0
  t3 := Tryz.underlying3
  a3 := Tryz.isAgg3
  z3 := Tryz.sizeOf3
  v3 := Tryz.zeroValue3
  t4 := Tryz.underlying4
  a4 := Tryz.isAgg4
  z4 := Tryz.sizeOf4
  v4 := Tryz.zeroValue4
  t9 := Tryz.underlying9
  a9 := Tryz.isAgg9
  z9 := Tryz.sizeOf9
  v9 := Tryz.zeroValue9
  t20 := Tryz.underlying20
  a20 := Tryz.isAgg20
  z20 := Tryz.sizeOf20
  v20 := Tryz.zeroValue20
  t31 := Tryz.underlying26
  a31 := Tryz.isAgg26
  z31 := Tryz.sizeOf26
  v31 := Tryz.zeroValue26
  t37 := Tryz.underlying127
  a37 := Tryz.isAgg127
  z37 := Tryz.sizeOf127
  v37 := Tryz.zeroValue127
  t70 := Tryz.underlying191
  a70 := Tryz.isAgg191
  z70 := Tryz.sizeOf191
  v70 := Tryz.zeroValue191
  t72 := Tryz.underlying193
  a72 := Tryz.isAgg193
  z72 := Tryz.sizeOf193
  v72 := Tryz.zeroValue193
  t75 := Tryz.underlying195
  a75 := Tryz.isAgg195
  z75 := Tryz.sizeOf195
  v75 := Tryz.zeroValue195
  t76 := Tryz.underlying196
  a76 := Tryz.isAgg196
  z76 := Tryz.sizeOf196
  v76 := Tryz.zeroValue196
  t127 := Tryz.underlying227
  a127 := Tryz.isAgg227
  z127 := Tryz.sizeOf227
  v127 := Tryz.zeroValue227
  t164 := Tryz.underlying237
  a164 := Tryz.isAgg237
  z164 := Tryz.sizeOf237
  v164 := Tryz.zeroValue237 }
theorem Tryz.Builder_Extra_156 : Builder.Extra Tryz.prog Tryz.lays156_ren := {
  sizeBuilder := by kernel_rfl
  liesBuilder := by kernel_rfl
  t5 := Tryz.underlying5
  a5 := Tryz.isAgg5
  z5 := Tryz.sizeOf5
  v5 := Tryz.zeroValue5
  infoByte := by kernel_rfl
  cellsByte := by kernel_rfl
  sizeByte := by kernel_rfl
  neB5 := by decide }
open Go.RowKit in
/-- No element: the empty string; the world is as it was. (Whatever the slice's address and capacity: a nil slice too.) (LAID: no walk: one application.) -/
theorem Tryz.strings_Join_none (a : Option Addr) (c : Nat) (sep : ByteArray) (w : World) :
    Calls Tryz.prog 59 #[.slice a 0 c, .string sep] w fun e w' => e = .returned (.string ⟨#[]⟩) ∧ w' = w := Any.strings_Join_none Tryz.lays156 Tryz.Builder_Extra_156 a c sep w
open Go.RowKit in
/-- strings.Join: "Join concatenates the elements of its first argument to create a single string. The separator string sep is placed between elements in the resulting string.": HOWEVER MANY ELEMENTS. Below the heap's end the world is as it was. (LAID: no walk: one application.) -/
theorem Tryz.strings_Join (bk o c : Nat) (xs : List ByteArray) (sep : ByteArray) (w : World) (hcells : ∀ (j : Nat) x, xs[j]? = some x → w.cell? ⟨bk, o + j, none⟩ = some (.string x)) (hbk : bk < w.heap.size) (hN : xs.length ≤ 140737488355328) (hcap : xs.length ≤ c) (hlen : (Lib.join (xs.map (·.data.toList)) sep.data.toList).length ≤ 140737488355328) :
    Calls Tryz.prog 59 #[.slice (some ⟨bk, o, none⟩) xs.length c, .string sep] w fun e w' => e = .returned (.string ⟨(Lib.join (xs.map (·.data.toList)) sep.data.toList).toArray⟩) ∧ Below w.heap.size w w' := Any.strings_Join Tryz.lays156 Tryz.Builder_Extra_156 bk o c xs sep w hcells hbk hN hcap hlen
def Tryz.lays143_ren : Go.Shelf.Ren := ⟨fun | 143 => 152 | 219 => 168 | 217 => 187 | 225 => 188 | 224 => 189 | 267 => 190 | 266 => 199 | 314 => 200 | n => n, fun | 9 => 9 | 3 => 3 | 4 => 4 | 5 => 5 | 46 => 231 | 146 => 266 | 51 => 252 | n => n, fun | 1 => 0 | n => n⟩
theorem Tryz.lays143 : Go.Proofs.Lays.n143 Tryz.prog Tryz.lays143_ren := {
  mixed := by kernel_rfl
  f143 := Tryz.func152.trans (congrArg some (by kernel_rfl))
  f217 := Tryz.func187.trans (congrArg some (by kernel_rfl))
  f219 := Tryz.func168.trans (congrArg some (by kernel_rfl))
  f224 := Tryz.func189.trans (congrArg some (by kernel_rfl))
  f225 := Tryz.func188.trans (congrArg some (by kernel_rfl))
  f266 := Tryz.func199.trans (congrArg some (by kernel_rfl))
  f267 := Tryz.func190.trans (congrArg some (by kernel_rfl))
  f314 := Tryz.func200.trans (congrArg some (by kernel_rfl))
  t3 := Tryz.underlying3
  a3 := Tryz.isAgg3
  z3 := Tryz.sizeOf3
  v3 := Tryz.zeroValue3
  t4 := Tryz.underlying4
  a4 := Tryz.isAgg4
  z4 := Tryz.sizeOf4
  v4 := Tryz.zeroValue4
  t5 := Tryz.underlying5
  a5 := Tryz.isAgg5
  z5 := Tryz.sizeOf5
  v5 := Tryz.zeroValue5
  t9 := Tryz.underlying9
  a9 := Tryz.isAgg9
  z9 := Tryz.sizeOf9
  v9 := Tryz.zeroValue9
  t46 := Tryz.underlying231
  a46 := Tryz.isAgg231
  z46 := Tryz.sizeOf231
  v46 := Tryz.zeroValue231
  t51 := Tryz.underlying252
  a51 := Tryz.isAgg252
  z51 := Tryz.sizeOf252
  v51 := Tryz.zeroValue252
  t146 := Tryz.underlying266
  a146 := Tryz.isAgg266
  z146 := Tryz.sizeOf266
  v146 := Tryz.zeroValue266
  g1 := by kernel_rfl }
open Go.RowKit Go.Lib in
/-- strings.Index: "Index returns the index of the first instance of substr in s, or -1 if substr is not present in s.": AT A substr OF ONE BYTE c: IT RETURNS 'Lib.indexByte s c'; the world is as it was. (LAID: no walk: one application.) -/
theorem Tryz.strings_Index_one (s : ByteArray) (c : UInt8) (w : World) :
    Calls Tryz.prog 152 #[.string s, .string ⟨#[c]⟩] w fun e w' => e = .returned (.int .i64 (Lib.indexByte s.data.toList c)) ∧ w' = w := Any.strings_Index_one Tryz.lays143 s c w
def Tryz.lays189_ren : Go.Shelf.Ren := ⟨fun | 189 => 127 | 125 => 164 | 257 => 163 | 128 => 185 | 129 => 186 | 294 => 176 | 295 => 177 | 296 => 178 | 297 => 179 | 298 => 180 | 299 => 181 | 216 => 182 | 300 => 183 | 301 => 184 | 328 => 193 | 329 => 194 | 330 => 195 | 331 => 196 | 332 => 197 | 215 => 198 | 343 => 210 | n => n, fun | 28 => 74 | 3 => 3 | 46 => 231 | 0 => 0 | 51 => 252 | 53 => 183 | 4 => 4 | 183 => 244 | 182 => 243 | 131 => 249 | 5 => 5 | 9 => 9 | 218 => 260 | 222 => 264 | 228 => 273 | 229 => 274 | n => n, fun | n => n⟩
theorem Tryz.lays189 : Go.Proofs.Lays.n189 Tryz.prog Tryz.lays189_ren := {
  mixed := by kernel_rfl
  f125 := Tryz.func164.trans (congrArg some (by kernel_rfl))
  f128 := Tryz.func185.trans (congrArg some (by kernel_rfl))
  f129 := Tryz.func186.trans (congrArg some (by kernel_rfl))
  f189 := Tryz.func127.trans (congrArg some (by kernel_rfl))
  f215 := Tryz.func198.trans (congrArg some (by kernel_rfl))
  f216 := Tryz.func182.trans (congrArg some (by kernel_rfl))
  f257 := Tryz.func163.trans (congrArg some (by kernel_rfl))
  f294 := Tryz.func176.trans (congrArg some (by kernel_rfl))
  f295 := Tryz.func177.trans (congrArg some (by kernel_rfl))
  f296 := Tryz.func178.trans (congrArg some (by kernel_rfl))
  f297 := Tryz.func179.trans (congrArg some (by kernel_rfl))
  f298 := Tryz.func180.trans (congrArg some (by kernel_rfl))
  f299 := Tryz.func181.trans (congrArg some (by kernel_rfl))
  f300 := Tryz.func183.trans (congrArg some (by kernel_rfl))
  f301 := Tryz.func184.trans (congrArg some (by kernel_rfl))
  f328 := Tryz.func193.trans (congrArg some (by kernel_rfl))
  f329 := Tryz.func194.trans (congrArg some (by kernel_rfl))
  f330 := Tryz.func195.trans (congrArg some (by kernel_rfl))
  f331 := Tryz.func196.trans (congrArg some (by kernel_rfl))
  f332 := Tryz.func197.trans (congrArg some (by kernel_rfl))
  f343 := Tryz.func210.trans (congrArg some (by kernel_rfl))
  t0 := Tryz.underlying0
  a0 := Tryz.isAgg0
  z0 := Tryz.sizeOf0
  v0 := Tryz.zeroValue0
  t3 := Tryz.underlying3
  a3 := Tryz.isAgg3
  z3 := Tryz.sizeOf3
  v3 := Tryz.zeroValue3
  t4 := Tryz.underlying4
  a4 := Tryz.isAgg4
  z4 := Tryz.sizeOf4
  v4 := Tryz.zeroValue4
  t5 := Tryz.underlying5
  a5 := Tryz.isAgg5
  z5 := Tryz.sizeOf5
  v5 := Tryz.zeroValue5
  t9 := Tryz.underlying9
  a9 := Tryz.isAgg9
  z9 := Tryz.sizeOf9
  v9 := Tryz.zeroValue9
  t28 := Tryz.underlying74
  a28 := Tryz.isAgg74
  z28 := Tryz.sizeOf74
  v28 := Tryz.zeroValue74
  t46 := Tryz.underlying231
  a46 := Tryz.isAgg231
  z46 := Tryz.sizeOf231
  v46 := Tryz.zeroValue231
  t51 := Tryz.underlying252
  a51 := Tryz.isAgg252
  z51 := Tryz.sizeOf252
  v51 := Tryz.zeroValue252
  t53 := Tryz.underlying183
  a53 := Tryz.isAgg183
  z53 := Tryz.sizeOf183
  v53 := Tryz.zeroValue183
  t131 := Tryz.underlying249
  a131 := Tryz.isAgg249
  z131 := Tryz.sizeOf249
  v131 := Tryz.zeroValue249
  t182 := Tryz.underlying243
  a182 := Tryz.isAgg243
  z182 := Tryz.sizeOf243
  v182 := Tryz.zeroValue243
  t183 := Tryz.underlying244
  a183 := Tryz.isAgg244
  z183 := Tryz.sizeOf244
  v183 := Tryz.zeroValue244
  t218 := Tryz.underlying260
  a218 := Tryz.isAgg260
  z218 := Tryz.sizeOf260
  v218 := Tryz.zeroValue260
  t222 := Tryz.underlying264
  a222 := Tryz.isAgg264
  z222 := Tryz.sizeOf264
  v222 := Tryz.zeroValue264
  t228 := Tryz.underlying273
  a228 := Tryz.isAgg273
  z228 := Tryz.sizeOf273
  v228 := Tryz.zeroValue273
  t229 := Tryz.underlying274
  a229 := Tryz.isAgg274
  z229 := Tryz.sizeOf274
  v229 := Tryz.zeroValue274 }
open Go.Sort Go.RowKit in
theorem Tryz.slices_Sort_int (blk off cap : Nat) (zs : List Int) (w : World) (hH : Holds (Value.int .i64) w blk off zs.toArray) (hblk : blk < w.heap.size) (hsz : zs.length < 4611686018427387904) :
    Calls Tryz.prog 127 #[.slice (some ⟨blk, off, none⟩) zs.length cap] w fun e w' =>
      e = .returned (.tuple #[]) ∧ ∃ n os, w' = grow (putRow (Value.int .i64) (Sort.ahead w n) blk off (zs.mergeSort fun x y => decide (x ≤ y)).toArray) os := Any.slices_Sort_int Tryz.lays189 blk off cap zs w hH hblk hsz
def Tryz.lays190_ren : Go.Shelf.Ren := ⟨fun | 190 => 172 | 125 => 164 | 258 => 192 | 128 => 185 | 129 => 186 | 302 => 201 | 303 => 202 | 304 => 203 | 305 => 204 | 306 => 205 | 307 => 206 | 308 => 207 | 309 => 208 | 310 => 209 | 333 => 211 | 329 => 194 | 330 => 195 | 334 => 212 | 335 => 213 | 336 => 214 | 344 => 215 | n => n, fun | 31 => 26 | 9 => 9 | 3 => 3 | 46 => 231 | 0 => 0 | 51 => 252 | 53 => 183 | 4 => 4 | 183 => 244 | 182 => 243 | 131 => 249 | 5 => 5 | 218 => 260 | 222 => 264 | 228 => 273 | 229 => 274 | n => n, fun | n => n⟩
theorem Tryz.lays190 : Go.Proofs.Lays.n190 Tryz.prog Tryz.lays190_ren := {
  mixed := by kernel_rfl
  f125 := Tryz.func164.trans (congrArg some (by kernel_rfl))
  f128 := Tryz.func185.trans (congrArg some (by kernel_rfl))
  f129 := Tryz.func186.trans (congrArg some (by kernel_rfl))
  f190 := Tryz.func172.trans (congrArg some (by kernel_rfl))
  f258 := Tryz.func192.trans (congrArg some (by kernel_rfl))
  f302 := Tryz.func201.trans (congrArg some (by kernel_rfl))
  f303 := Tryz.func202.trans (congrArg some (by kernel_rfl))
  f304 := Tryz.func203.trans (congrArg some (by kernel_rfl))
  f305 := Tryz.func204.trans (congrArg some (by kernel_rfl))
  f306 := Tryz.func205.trans (congrArg some (by kernel_rfl))
  f307 := Tryz.func206.trans (congrArg some (by kernel_rfl))
  f308 := Tryz.func207.trans (congrArg some (by kernel_rfl))
  f309 := Tryz.func208.trans (congrArg some (by kernel_rfl))
  f310 := Tryz.func209.trans (congrArg some (by kernel_rfl))
  f329 := Tryz.func194.trans (congrArg some (by kernel_rfl))
  f330 := Tryz.func195.trans (congrArg some (by kernel_rfl))
  f333 := Tryz.func211.trans (congrArg some (by kernel_rfl))
  f334 := Tryz.func212.trans (congrArg some (by kernel_rfl))
  f335 := Tryz.func213.trans (congrArg some (by kernel_rfl))
  f336 := Tryz.func214.trans (congrArg some (by kernel_rfl))
  f344 := Tryz.func215.trans (congrArg some (by kernel_rfl))
  t0 := Tryz.underlying0
  a0 := Tryz.isAgg0
  z0 := Tryz.sizeOf0
  v0 := Tryz.zeroValue0
  t3 := Tryz.underlying3
  a3 := Tryz.isAgg3
  z3 := Tryz.sizeOf3
  v3 := Tryz.zeroValue3
  t4 := Tryz.underlying4
  a4 := Tryz.isAgg4
  z4 := Tryz.sizeOf4
  v4 := Tryz.zeroValue4
  t5 := Tryz.underlying5
  a5 := Tryz.isAgg5
  z5 := Tryz.sizeOf5
  v5 := Tryz.zeroValue5
  t9 := Tryz.underlying9
  a9 := Tryz.isAgg9
  z9 := Tryz.sizeOf9
  v9 := Tryz.zeroValue9
  t31 := Tryz.underlying26
  a31 := Tryz.isAgg26
  z31 := Tryz.sizeOf26
  v31 := Tryz.zeroValue26
  t46 := Tryz.underlying231
  a46 := Tryz.isAgg231
  z46 := Tryz.sizeOf231
  v46 := Tryz.zeroValue231
  t51 := Tryz.underlying252
  a51 := Tryz.isAgg252
  z51 := Tryz.sizeOf252
  v51 := Tryz.zeroValue252
  t53 := Tryz.underlying183
  a53 := Tryz.isAgg183
  z53 := Tryz.sizeOf183
  v53 := Tryz.zeroValue183
  t131 := Tryz.underlying249
  a131 := Tryz.isAgg249
  z131 := Tryz.sizeOf249
  v131 := Tryz.zeroValue249
  t182 := Tryz.underlying243
  a182 := Tryz.isAgg243
  z182 := Tryz.sizeOf243
  v182 := Tryz.zeroValue243
  t183 := Tryz.underlying244
  a183 := Tryz.isAgg244
  z183 := Tryz.sizeOf244
  v183 := Tryz.zeroValue244
  t218 := Tryz.underlying260
  a218 := Tryz.isAgg260
  z218 := Tryz.sizeOf260
  v218 := Tryz.zeroValue260
  t222 := Tryz.underlying264
  a222 := Tryz.isAgg264
  z222 := Tryz.sizeOf264
  v222 := Tryz.zeroValue264
  t228 := Tryz.underlying273
  a228 := Tryz.isAgg273
  z228 := Tryz.sizeOf273
  v228 := Tryz.zeroValue273
  t229 := Tryz.underlying274
  a229 := Tryz.isAgg274
  z229 := Tryz.sizeOf274
  v229 := Tryz.zeroValue274 }
open Go.Sort Go.RowKit in
theorem Tryz.slices_Sort_string (blk off cap : Nat) (ss : List (List UInt8)) (w : World) (hH : Holds encStr w blk off ss.toArray) (hblk : blk < w.heap.size) (hsz : ss.length < 4611686018427387904) :
    Calls Tryz.prog 172 #[.slice (some ⟨blk, off, none⟩) ss.length cap] w fun e w' =>
      e = .returned (.tuple #[]) ∧ ∃ n os, w' = grow (putRow encStr (Sort.ahead w n) blk off (ss.mergeSort fun x y => decide (x ≤ y)).toArray) os := Any.slices_Sort_string Tryz.lays190 blk off cap ss w hH hblk hsz
def Tryz.lays99_ren : Go.Shelf.Ren := ⟨fun | 99 => 57 | 206 => 113 | n => n, fun | 9 => 9 | 4 => 4 | 3 => 3 | n => n, fun | n => n⟩
theorem Tryz.lays99 : Go.Proofs.Lays.n99 Tryz.prog Tryz.lays99_ren := {
  mixed := by kernel_rfl
  f99 := Tryz.func57.trans (congrArg some (by kernel_rfl))
  f206 := Tryz.func113.trans (congrArg some (by kernel_rfl))
  t3 := Tryz.underlying3
  a3 := Tryz.isAgg3
  z3 := Tryz.sizeOf3
  v3 := Tryz.zeroValue3
  t4 := Tryz.underlying4
  a4 := Tryz.isAgg4
  z4 := Tryz.sizeOf4
  v4 := Tryz.zeroValue4
  t9 := Tryz.underlying9
  a9 := Tryz.isAgg9
  z9 := Tryz.sizeOf9
  v9 := Tryz.zeroValue9 }
open Go.RowKit Go.Lib in
/-- strings.HasPrefix: "HasPrefix reports whether the string s begins with prefix.": IT RETURNS 'Lib.hasPrefix s prefix'; the world is as it was. (LAID: no walk: one application.) -/
theorem Tryz.strings_HasPrefix (s p : ByteArray) (w : World) :
    Calls Tryz.prog 57 #[.string s, .string p] w fun e w' => e = .returned (.bool (Lib.hasPrefix s.data.toList p.data.toList)) ∧ w' = w := Any.strings_HasPrefix Tryz.lays99 s p w
def Tryz.lays101_ren : Go.Shelf.Ren := ⟨fun | 101 => 60 | 208 => 118 | 206 => 113 | n => n, fun | 9 => 9 | 4 => 4 | 3 => 3 | n => n, fun | n => n⟩
theorem Tryz.lays101 : Go.Proofs.Lays.n101 Tryz.prog Tryz.lays101_ren := {
  mixed := by kernel_rfl
  f101 := Tryz.func60.trans (congrArg some (by kernel_rfl))
  f206 := Tryz.func113.trans (congrArg some (by kernel_rfl))
  f208 := Tryz.func118.trans (congrArg some (by kernel_rfl))
  t3 := Tryz.underlying3
  a3 := Tryz.isAgg3
  z3 := Tryz.sizeOf3
  v3 := Tryz.zeroValue3
  t4 := Tryz.underlying4
  a4 := Tryz.isAgg4
  z4 := Tryz.sizeOf4
  v4 := Tryz.zeroValue4
  t9 := Tryz.underlying9
  a9 := Tryz.isAgg9
  z9 := Tryz.sizeOf9
  v9 := Tryz.zeroValue9 }
open Go.RowKit Go.Lib in
/-- strings.TrimPrefix: "TrimPrefix returns s without the provided leading prefix string. If s doesn't start with prefix, s is returned unchanged.": IT RETURNS 'Lib.trimPrefix s prefix'; the world is as it was. (LAID: no walk: one application.) -/
theorem Tryz.strings_TrimPrefix (s p : ByteArray) (w : World) :
    Calls Tryz.prog 60 #[.string s, .string p] w fun e w' => e = .returned (.string ⟨(Lib.trimPrefix s.data.toList p.data.toList).toArray⟩) ∧ w' = w := Any.strings_TrimPrefix Tryz.lays101 s p w
def Tryz.lays194_ren : Go.Shelf.Ren := ⟨fun | 194 => 157 | n => n, fun | 31 => 26 | 9 => 9 | 3 => 3 | 4 => 4 | 0 => 0 | n => n, fun | n => n⟩
theorem Tryz.lays194 : Go.Proofs.Lays.n194 Tryz.prog Tryz.lays194_ren := {
  mixed := by kernel_rfl
  f194 := Tryz.func157.trans (congrArg some (by kernel_rfl))
  t0 := Tryz.underlying0
  a0 := Tryz.isAgg0
  z0 := Tryz.sizeOf0
  v0 := Tryz.zeroValue0
  t3 := Tryz.underlying3
  a3 := Tryz.isAgg3
  z3 := Tryz.sizeOf3
  v3 := Tryz.zeroValue3
  t4 := Tryz.underlying4
  a4 := Tryz.isAgg4
  z4 := Tryz.sizeOf4
  v4 := Tryz.zeroValue4
  t9 := Tryz.underlying9
  a9 := Tryz.isAgg9
  z9 := Tryz.sizeOf9
  v9 := Tryz.zeroValue9
  t31 := Tryz.underlying26
  a31 := Tryz.isAgg26
  z31 := Tryz.sizeOf26
  v31 := Tryz.zeroValue26 }
open Go.RowKit Go.Lib Go.Sort in
/-- slices.Compact at []string: "Compact replaces consecutive runs of equal elements with a single copy. This is like the uniq command found on Unix. Compact modifies the contents of the slice s and returns the modified slice, which may have a smaller length. Compact zeroes the elements between the new length and the original length. The result preserves the nilness of s.": IT RETURNS THE SLICE CUT TO 'Lib.compact zs'; ITS CELLS HOLD 'Lib.compact zs', THEN ZERO VALUES up to the old length; all else is as it was, but for the count of draws. IN THE WORDS OF slices.Sort's CONTRACT ('Holds', 'putRow'): so the everyday 'slices.Sort(xs); xs = slices.Compact(xs)' goes from the one contract to the other. It asks 'zs.length ≤ cap' (every slice's: the reslicing 's[:k]' looks at it). Length 0, nil: '.._empty'. (LAID: no walk: one application.) -/
theorem Tryz.slices_Compact_string (blk off cap : Nat) (zs : List (List UInt8)) (w : World) (hH : Holds encStr w blk off zs.toArray) (hsz : zs.length ≤ 9223372036854775807) (hcap : zs.length ≤ cap) :
    Calls Tryz.prog 157 #[.slice (some ⟨blk, off, none⟩) zs.length cap] w fun e w' => e = .returned (.slice (some ⟨blk, off, none⟩) (Lib.compact zs).length cap) ∧ ∃ q, w' = putRow encStr (Sort.ahead w q) blk off (Lib.compact zs ++ List.replicate (zs.length - (Lib.compact zs).length) []).toArray := Any.slices_Compact_string Tryz.lays194 blk off cap zs w hH hsz hcap
open Go.RowKit Go.Lib Go.Sort in
/-- The same at a slice of length 0, a nil one too: it comes back as it is. (LAID: no walk: one application.) -/
theorem Tryz.slices_Compact_string_empty (a : Option Addr) (cap : Nat) (w : World) :
    Calls Tryz.prog 157 #[.slice a 0 cap] w fun e w' => e = .returned (.slice a 0 cap) ∧ w' = w := Any.slices_Compact_string_empty Tryz.lays194 a cap w
open Go.RowKit Go.Sort in
/-- .. and plain. (LAID: no walk: one application.) -/
theorem Tryz.slices_Sort_string_none (p : Option Addr) (cap : Nat) (w : World) :
    Calls Tryz.prog 172 #[.slice p 0 cap] w fun e w' => e = .returned (.tuple #[]) ∧ w' = w := Any.slices_Sort_string_none Tryz.lays190 p cap w
open Go.RowKit Go.Sort in
/-- .. and plain. (LAID: no walk: one application.) -/
theorem Tryz.slices_Sort_int_none (p : Option Addr) (cap : Nat) (w : World) :
    Calls Tryz.prog 127 #[.slice p 0 cap] w fun e w' => e = .returned (.tuple #[]) ∧ w' = w := Any.slices_Sort_int_none Tryz.lays189 p cap w
end Go.Proofs
