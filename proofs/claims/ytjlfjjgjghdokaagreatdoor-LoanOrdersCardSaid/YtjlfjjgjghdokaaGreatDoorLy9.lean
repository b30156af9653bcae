/- Contracts of library functions, laid by the kit's program at this seat. -/
import Derived.Test.YtjlfjjgjghdokaaGreatDoorLy8
import Derived.Shelf.Strings.Builder1
import Derived.Shelf.Strings.Builder2
import Derived.Shelf.Strings.OnBuilder
import Derived.Shelf.Small.Bits
import Derived.Shelf.Utf8.RuneCount
import Derived.Shelf.Strconv.Atoi
import Derived.Shelf.Strconv.Itoa0
import Derived.Shelf.Strconv.Itoa1
import Derived.Shelf.LaysM
import Derived.Shelf.Strconv.Itoa2
import Derived.Shelf.Strconv.Itoa3
import Derived.Shelf.Strconv.AtoiErrFast
import Derived.Shelf.Strconv.ParseIntEmpty
import Derived.Shelf.Strconv.AtoiFail
import Derived.Shelf.Strconv.Clone
import Derived.Shelf.Strconv.SyntaxError
import Derived.Shelf.LaysC
import Derived.Shelf.Strconv.ToError
import Derived.Shelf.Strconv.AtoiErr
import Derived.Shelf.Strconv.ErrVar
import Derived.Shelf.Strconv.Lower
import Derived.Shelf.Strconv.ParseUint10
import Derived.Shelf.Strconv.ParseUint10Empty
import Derived.Shelf.Strconv.ParseUint10Any
import Derived.Shelf.Strconv.ParseInt10
import Derived.Shelf.Strconv.AtoiLong
import Derived.Shelf.Strconv.AtoiInnerAll
import Derived.Shelf.Strconv.RangeError
import Derived.Shelf.Strconv.ToErrorRange
import Derived.Shelf.Strconv.AtoiAll
import Derived.Shelf.Strconv.ErrVarAll
import Derived.Shelf.Strconv.ParseUintEmpty
import Derived.Shelf.Strconv.ParseUint10b64
import Derived.Shelf.Strconv.ParseUint10b32
import Derived.Shelf.Strconv.ParseUint10b16
import Derived.Shelf.Strconv.ParseUint10b8
import Derived.Shelf.Strconv.ParseUint10At
import Derived.Shelf.Strconv.ParseInt10At64
import Derived.Shelf.Strconv.ParseInt10At32
import Derived.Shelf.Strconv.ParseInt10At16
import Derived.Shelf.Strconv.ParseInt10At8
import Derived.Shelf.Strconv.ParseInt10All
import Derived.Shelf.Strconv.ParseIntPublic10
import Derived.Shelf.Strconv.ErrVarParseInt
import Derived.Ground.MpProg
import Derived.Shelf.Pu.ParseUintPublic10
import Derived.Shelf.Pu.ErrVarParseUint
import Derived.Shelf.Strings.Search1
import Derived.Shelf.Strings.Search2
import Derived.Shelf.Strings.Search3
import Derived.Shelf.Strings.Cut
import Derived.Shelf.Strings.Count
import Derived.Shelf.Strings.Shaped
import Derived.Shelf.Strings.Prefix
import Derived.Shelf.Strings.Split
import Derived.Shelf.Strings.SplitShaped
import Derived.Shelf.Unicode.Decode
import Derived.Shelf.Strings.RuneCount
import Derived.Shelf.Strings.Explode
import Derived.Shelf.Bits.Mul64
import Derived.Shelf.Unicode.DecodeSlow
import Derived.Shelf.Unicode.DecodeAny
import Derived.Test.YtjlfjjgjghdokaaGreatDoorProg
namespace Go.Proofs
open Go.Shelf
def Tryz.lays156_ren : Go.Shelf.Ren := ⟨fun | 156 => 145 | 165 => 202 | 166 => 203 | 169 => 204 | 240 => 238 | 241 => 239 | 276 => 261 | 277 => 262 | n => n, fun | 31 => 175 | 9 => 9 | 3 => 3 | 4 => 4 | 0 => 0 | 20 => 20 | 72 => 335 | 76 => 180 | 70 => 333 | 37 => 59 | 75 => 37 | 127 => 372 | 164 => 237 | 5 => 5 | 80 => 186 | n => n, fun | n => n⟩
theorem Tryz.lays156 : Go.Proofs.Lays.n156 Tryz.prog Tryz.lays156_ren := {
  mixed := by kernel_rfl
  f156 := Tryz.func145.trans (congrArg some (by kernel_rfl))
  f165 := Tryz.func202.trans (congrArg some (by kernel_rfl))
  f166 := Tryz.func203.trans (congrArg some (by kernel_rfl))
  f169 := Tryz.func204.trans (congrArg some (by kernel_rfl))
  f240 := Tryz.func238.trans (congrArg some (by kernel_rfl))
  f241 := Tryz.func239.trans (congrArg some (by kernel_rfl))
  f276 := Tryz.func261.trans (congrArg some (by kernel_rfl))
  f277 := Tryz.func262.trans (congrArg some (by kernel_rfl))
  t0 := Tryz.underlying0
  a0 := Tryz.isAgg0
  z0 := Tryz.sizeOf0
  v0 := Tryz.zeroValue0
  t3 := Tryz.underlying3
  a3 := Tryz.isAgg3
  z3 := Tryz.sizeOf3
  v3 := Tryz.zeroValue3
  t4 := Tryz.underlying4
  a4 := Tryz.isAgg4
  z4 := Tryz.sizeOf4
  v4 := Tryz.zeroValue4
  t9 := Tryz.underlying9
  a9 := Tryz.isAgg9
  z9 := Tryz.sizeOf9
  v9 := Tryz.zeroValue9
  t20 := Tryz.underlying20
  a20 := Tryz.isAgg20
  z20 := Tryz.sizeOf20
  v20 := Tryz.zeroValue20
  t31 := Tryz.underlying175
  a31 := Tryz.isAgg175
  z31 := Tryz.sizeOf175
  v31 := Tryz.zeroValue175
  t37 := Tryz.underlying59
  a37 := Tryz.isAgg59
  z37 := Tryz.sizeOf59
  v37 := Tryz.zeroValue59
  t70 := Tryz.underlying333
  a70 := Tryz.isAgg333
  z70 := Tryz.sizeOf333
  v70 := Tryz.zeroValue333
  t72 := Tryz.underlying335
  a72 := Tryz.isAgg335
  z72 := Tryz.sizeOf335
  v72 := Tryz.zeroValue335
  t75 := Tryz.underlying37
  a75 := Tryz.isAgg37
  z75 := Tryz.sizeOf37
  v75 := Tryz.zeroValue37
  t76 := Tryz.underlying180
  a76 := Tryz.isAgg180
  z76 := Tryz.sizeOf180
  v76 := Tryz.zeroValue180
  t127 := Tryz.underlying372
  a127 := Tryz.isAgg372
  z127 := Tryz.sizeOf372
  v127 := Tryz.zeroValue372
  t164 := Tryz.underlying237
  a164 := Tryz.isAgg237
  z164 := Tryz.sizeOf237
  v164 := Tryz.zeroValue237 }
theorem Tryz.Builder_Extra_156 : Builder.Extra Tryz.prog Tryz.lays156_ren := {
  sizeBuilder := by kernel_rfl
  liesBuilder := by kernel_rfl
  t5 := Tryz.underlying5
  a5 := Tryz.isAgg5
  z5 := Tryz.sizeOf5
  v5 := Tryz.zeroValue5
  infoByte := by kernel_rfl
  cellsByte := by kernel_rfl
  sizeByte := by kernel_rfl
  neB5 := by decide }
open Go.RowKit in
theorem Tryz.strings_Join (bk o c : Nat) (xs : List ByteArray) (sep : ByteArray) (w : World) (hcells : ∀ (j : Nat) x, xs[j]? = some x → w.cell? ⟨bk, o + j, none⟩ = some (.string x)) (hbk : bk < w.heap.size) (hN : xs.length ≤ 140737488355328) (hcap : xs.length ≤ c) (hlen : (Lib.join (xs.map (·.data.toList)) sep.data.toList).length ≤ 140737488355328) :
    Calls Tryz.prog 145 #[.slice (some ⟨bk, o, none⟩) xs.length c, .string sep] w fun e w' => e = .returned (.string ⟨(Lib.join (xs.map (·.data.toList)) sep.data.toList).toArray⟩) ∧ Below w.heap.size w w' := Any.strings_Join Tryz.lays156 Tryz.Builder_Extra_156 bk o c xs sep w hcells hbk hN hcap hlen
def Tryz.lays134_ren : Go.Shelf.Ren := ⟨fun | 134 => 274 | 129 => 177 | n => n, fun | 53 => 42 | 3 => 3 | 4 => 4 | 46 => 229 | 5 => 5 | 9 => 9 | n => n, fun | n => n⟩
theorem Tryz.lays134 : Go.Proofs.Lays.n134 Tryz.prog Tryz.lays134_ren := {
  mixed := by kernel_rfl
  f129 := Tryz.func177.trans (congrArg some (by kernel_rfl))
  f134 := Tryz.func274.trans (congrArg some (by kernel_rfl))
  t3 := Tryz.underlying3
  a3 := Tryz.isAgg3
  z3 := Tryz.sizeOf3
  v3 := Tryz.zeroValue3
  t4 := Tryz.underlying4
  a4 := Tryz.isAgg4
  z4 := Tryz.sizeOf4
  v4 := Tryz.zeroValue4
  t5 := Tryz.underlying5
  a5 := Tryz.isAgg5
  z5 := Tryz.sizeOf5
  v5 := Tryz.zeroValue5
  t9 := Tryz.underlying9
  a9 := Tryz.isAgg9
  z9 := Tryz.sizeOf9
  v9 := Tryz.zeroValue9
  t46 := Tryz.underlying229
  a46 := Tryz.isAgg229
  z46 := Tryz.sizeOf229
  v46 := Tryz.zeroValue229
  t53 := Tryz.underlying42
  a53 := Tryz.isAgg42
  z53 := Tryz.sizeOf42
  v53 := Tryz.zeroValue42 }
theorem Tryz.bits_LeadingZeros64 (x : Int) (w : World) (h0 : 0 ≤ x) (h1 : x ≤ 18446744073709551615) :
    Calls Tryz.prog 274 #[.int .u64 x] w fun e w' => e = .returned (.int .i64 (64 - (Lib.bitLen x.toNat : Int))) ∧ w' = w := Any.bits_LeadingZeros64 Tryz.lays134 x w h0 h1
def Tryz.lays283_ren : Go.Shelf.Ren := ⟨fun | 283 => 257 | n => n, fun | 3 => 3 | 9 => 9 | 4 => 4 | n => n, fun | n => n⟩
theorem Tryz.lays283 : Go.Proofs.Lays.n283 Tryz.prog Tryz.lays283_ren := {
  mixed := by kernel_rfl
  f283 := Tryz.func257.trans (congrArg some (by kernel_rfl))
  t3 := Tryz.underlying3
  a3 := Tryz.isAgg3
  z3 := Tryz.sizeOf3
  v3 := Tryz.zeroValue3
  t4 := Tryz.underlying4
  a4 := Tryz.isAgg4
  z4 := Tryz.sizeOf4
  v4 := Tryz.zeroValue4
  t9 := Tryz.underlying9
  a9 := Tryz.isAgg9
  z9 := Tryz.sizeOf9
  v9 := Tryz.zeroValue9 }
open Go.Lib in
theorem Tryz.internal_strconv_small (i : Nat) (h : i < 100) (w : World) :
    Calls Tryz.prog 257 #[.int .i64 i] w fun e w' => e = .returned (.string ⟨(Lib.decDigits i).toArray⟩) ∧ w' = w := Any.internal_strconv_small Tryz.lays283 i h w
def Tryz.laysM284_ren : Go.Shelf.Ren := ⟨fun | 284 => 258 | 129 => 177 | 317 => 277 | 318 => 278 | n => n, fun | 53 => 42 | 3 => 3 | 212 => 409 | 0 => 0 | 4 => 4 | 46 => 229 | 5 => 5 | 9 => 9 | n => n, fun | 17 => 8 | n => n⟩
theorem Tryz.laysM284 : Go.Proofs.LaysM.n284 Tryz.prog Tryz.laysM284_ren := {
  mixed := by kernel_rfl
  f129 := Tryz.func177.trans (congrArg some (by kernel_rfl))
  f284 := Tryz.func258.trans (congrArg some (by kernel_rfl))
  f317 := Tryz.func277.trans (congrArg some (by kernel_rfl))
  f318 := Tryz.func278.trans (congrArg some (by kernel_rfl))
  t0 := Tryz.underlying0
  a0 := Tryz.isAgg0
  z0 := Tryz.sizeOf0
  v0 := Tryz.zeroValue0
  t3 := Tryz.underlying3
  a3 := Tryz.isAgg3
  z3 := Tryz.sizeOf3
  v3 := Tryz.zeroValue3
  t4 := Tryz.underlying4
  a4 := Tryz.isAgg4
  z4 := Tryz.sizeOf4
  v4 := Tryz.zeroValue4
  t5 := Tryz.underlying5
  a5 := Tryz.isAgg5
  z5 := Tryz.sizeOf5
  v5 := Tryz.zeroValue5
  t9 := Tryz.underlying9
  a9 := Tryz.isAgg9
  z9 := Tryz.sizeOf9
  v9 := Tryz.zeroValue9
  t46 := Tryz.underlying229
  a46 := Tryz.isAgg229
  z46 := Tryz.sizeOf229
  v46 := Tryz.zeroValue229
  t53 := Tryz.underlying42
  a53 := Tryz.isAgg42
  z53 := Tryz.sizeOf42
  v53 := Tryz.zeroValue42
  t212 := Tryz.underlying409
  a212 := Tryz.isAgg409
  z212 := Tryz.sizeOf409
  v212 := Tryz.zeroValue409
  g17 := by kernel_rfl
  i0 := by kernel_rfl
  i3 := by kernel_rfl
  i4 := by kernel_rfl
  i5 := by kernel_rfl
  i9 := by kernel_rfl
  i46 := by kernel_rfl
  i53 := by kernel_rfl
  i212 := by kernel_rfl
  m17 := by kernel_rfl }
open Go.Lib in
theorem Tryz.internal_strconv_numDigits (u : Nat) (h1 : 1 ≤ u) (h2 : u < 18446744073709551616) (w : World) (htab : Lib.TabIs Tryz.prog w "internal/strconv.uint64pow10" .u64 Lib.pow10Tab) :
    Calls Tryz.prog 258 #[.int .u64 u] w fun e w' => e = .returned (.int .i64 (Lib.nDigits u)) ∧ w' = w := Any.internal_strconv_numDigits Tryz.laysM284 u h1 h2 w htab
def Tryz.lays285_ren : Go.Shelf.Ren := ⟨fun | 285 => 259 | n => n, fun | 37 => 59 | 53 => 42 | 3 => 3 | 4 => 4 | 51 => 23 | 9 => 9 | 5 => 5 | 0 => 0 | n => n, fun | n => n⟩
theorem Tryz.lays285 : Go.Proofs.Lays.n285 Tryz.prog Tryz.lays285_ren := {
  mixed := by kernel_rfl
  f285 := Tryz.func259.trans (congrArg some (by kernel_rfl))
  t0 := Tryz.underlying0
  a0 := Tryz.isAgg0
  z0 := Tryz.sizeOf0
  v0 := Tryz.zeroValue0
  t3 := Tryz.underlying3
  a3 := Tryz.isAgg3
  z3 := Tryz.sizeOf3
  v3 := Tryz.zeroValue3
  t4 := Tryz.underlying4
  a4 := Tryz.isAgg4
  z4 := Tryz.sizeOf4
  v4 := Tryz.zeroValue4
  t5 := Tryz.underlying5
  a5 := Tryz.isAgg5
  z5 := Tryz.sizeOf5
  v5 := Tryz.zeroValue5
  t9 := Tryz.underlying9
  a9 := Tryz.isAgg9
  z9 := Tryz.sizeOf9
  v9 := Tryz.zeroValue9
  t37 := Tryz.underlying59
  a37 := Tryz.isAgg59
  z37 := Tryz.sizeOf59
  v37 := Tryz.zeroValue59
  t51 := Tryz.underlying23
  a51 := Tryz.isAgg23
  z51 := Tryz.sizeOf23
  v51 := Tryz.zeroValue23
  t53 := Tryz.underlying42
  a53 := Tryz.isAgg42
  z53 := Tryz.sizeOf42
  v53 := Tryz.zeroValue42 }
open Go.RowKit Go.Sort Go.Lib in
theorem Tryz.internal_strconv_formatBase10 (blk off cap : Nat) (u : Nat) (d : Array UInt8) (w : World) (hH : Holds (fun (b : UInt8) => Value.int .u8 (b.toNat : Int)) w blk off d) (hu : u < 10 ^ d.size) (hu64 : u < 18446744073709551616) (hsz : d.size < 4611686018427387904) :
    Calls Tryz.prog 259 #[.slice (some ⟨blk, off, none⟩) d.size cap, .int .u64 u] w fun e w' =>
      e = .returned (.tuple #[]) ∧ ∃ (n v' : Nat) (dk : Array UInt8), w' = (putRow (fun (b : UInt8) => Value.int .u8 (b.toNat : Int)) w blk off dk).drewN n ∧ FmtInv d.size u 0 v' dk := Any.internal_strconv_formatBase10 Tryz.lays285 blk off cap u d w hH hu hu64 hsz
def Tryz.laysM171_ren : Go.Shelf.Ren := ⟨fun | 171 => 146 | 243 => 205 | 246 => 240 | 283 => 257 | 284 => 258 | 285 => 259 | 286 => 260 | 129 => 177 | 317 => 277 | 318 => 278 | 319 => 279 | 320 => 280 | 337 => 284 | 338 => 285 | n => n, fun | 3 => 3 | 9 => 9 | 2 => 2 | 4 => 4 | 171 => 387 | 0 => 0 | 53 => 42 | 37 => 59 | 5 => 5 | 173 => 389 | 212 => 409 | 51 => 23 | 20 => 20 | 213 => 410 | 46 => 229 | 232 => 414 | 233 => 415 | n => n, fun | 17 => 8 | 18 => 9 | 19 => 10 | n => n⟩
theorem Tryz.laysM171 : Go.Proofs.LaysM.n171 Tryz.prog Tryz.laysM171_ren := {
  mixed := by kernel_rfl
  f129 := Tryz.func177.trans (congrArg some (by kernel_rfl))
  f171 := Tryz.func146.trans (congrArg some (by kernel_rfl))
  f243 := Tryz.func205.trans (congrArg some (by kernel_rfl))
  f246 := Tryz.func240.trans (congrArg some (by kernel_rfl))
  f283 := Tryz.func257.trans (congrArg some (by kernel_rfl))
  f284 := Tryz.func258.trans (congrArg some (by kernel_rfl))
  f285 := Tryz.func259.trans (congrArg some (by kernel_rfl))
  f286 := Tryz.func260.trans (congrArg some (by kernel_rfl))
  f317 := Tryz.func277.trans (congrArg some (by kernel_rfl))
  f318 := Tryz.func278.trans (congrArg some (by kernel_rfl))
  f319 := Tryz.func279.trans (congrArg some (by kernel_rfl))
  f320 := Tryz.func280.trans (congrArg some (by kernel_rfl))
  f337 := Tryz.func284.trans (congrArg some (by kernel_rfl))
  f338 := Tryz.func285.trans (congrArg some (by kernel_rfl))
  t0 := Tryz.underlying0
  a0 := Tryz.isAgg0
  z0 := Tryz.sizeOf0
  v0 := Tryz.zeroValue0
  t2 := Tryz.underlying2
  a2 := Tryz.isAgg2
  z2 := Tryz.sizeOf2
  v2 := Tryz.zeroValue2
  t3 := Tryz.underlying3
  a3 := Tryz.isAgg3
  z3 := Tryz.sizeOf3
  v3 := Tryz.zeroValue3
  t4 := Tryz.underlying4
  a4 := Tryz.isAgg4
  z4 := Tryz.sizeOf4
  v4 := Tryz.zeroValue4
  t5 := Tryz.underlying5
  a5 := Tryz.isAgg5
  z5 := Tryz.sizeOf5
  v5 := Tryz.zeroValue5
  t9 := Tryz.underlying9
  a9 := Tryz.isAgg9
  z9 := Tryz.sizeOf9
  v9 := Tryz.zeroValue9
  t20 := Tryz.underlying20
  a20 := Tryz.isAgg20
  z20 := Tryz.sizeOf20
  v20 := Tryz.zeroValue20
  t37 := Tryz.underlying59
  a37 := Tryz.isAgg59
  z37 := Tryz.sizeOf59
  v37 := Tryz.zeroValue59
  t46 := Tryz.underlying229
  a46 := Tryz.isAgg229
  z46 := Tryz.sizeOf229
  v46 := Tryz.zeroValue229
  t51 := Tryz.underlying23
  a51 := Tryz.isAgg23
  z51 := Tryz.sizeOf23
  v51 := Tryz.zeroValue23
  t53 := Tryz.underlying42
  a53 := Tryz.isAgg42
  z53 := Tryz.sizeOf42
  v53 := Tryz.zeroValue42
  t171 := Tryz.underlying387
  a171 := Tryz.isAgg387
  z171 := Tryz.sizeOf387
  v171 := Tryz.zeroValue387
  t173 := Tryz.underlying389
  a173 := Tryz.isAgg389
  z173 := Tryz.sizeOf389
  v173 := Tryz.zeroValue389
  t212 := Tryz.underlying409
  a212 := Tryz.isAgg409
  z212 := Tryz.sizeOf409
  v212 := Tryz.zeroValue409
  t213 := Tryz.underlying410
  a213 := Tryz.isAgg410
  z213 := Tryz.sizeOf410
  t232 := Tryz.underlying414
  a232 := Tryz.isAgg414
  z232 := Tryz.sizeOf414
  v232 := Tryz.zeroValue414
  t233 := Tryz.underlying415
  a233 := Tryz.isAgg415
  z233 := Tryz.sizeOf415
  v233 := Tryz.zeroValue415
  g17 := by kernel_rfl
  g18 := by kernel_rfl
  g19 := by kernel_rfl
  i0 := by kernel_rfl
  i2 := by kernel_rfl
  i3 := by kernel_rfl
  i4 := by kernel_rfl
  i5 := by kernel_rfl
  i9 := by kernel_rfl
  i20 := by kernel_rfl
  i37 := by kernel_rfl
  i46 := by kernel_rfl
  i51 := by kernel_rfl
  i53 := by kernel_rfl
  i171 := by kernel_rfl
  i173 := by kernel_rfl
  i212 := by kernel_rfl
  i232 := by kernel_rfl
  i233 := by kernel_rfl
  m17 := by kernel_rfl
  m18 := by kernel_rfl
  m19 := by kernel_rfl }
open Go.RowKit Go.Sort Go.Lib in
theorem Tryz.strconv_Itoa (n : Int) (h0 : -9223372036854775808 ≤ n) (h1 : n ≤ 9223372036854775807) (w : World) (htab : Lib.TabIs Tryz.prog w "internal/strconv.uint64pow10" .u64 Lib.pow10Tab) :
    Calls Tryz.prog 146 #[.int .i64 n] w fun e w' => e = .returned (.string ⟨(Lib.itoa n).toArray⟩) ∧ ∃ k os, w' = grow (w.drewN k) os := Any.strconv_Itoa Tryz.laysM171 n h0 h1 w htab
def Tryz.laysC172_ren : Go.Shelf.Ren := ⟨fun | 172 => 79 | 244 => 140 | 245 => 139 | 247 => 189 | 279 => 193 | 280 => 194 | 281 => 195 | 282 => 196 | 287 => 138 | 316 => 235 | 171 => 146 | 205 => 236 | 321 => 191 | 322 => 192 | 243 => 205 | 246 => 240 | 283 => 257 | 284 => 258 | 285 => 259 | 286 => 260 | 129 => 177 | 317 => 277 | 318 => 278 | 319 => 279 | 320 => 280 | 337 => 284 | 338 => 285 | n => n, fun | 9 => 9 | 3 => 3 | 75 => 37 | 76 => 180 | 4 => 4 | 5 => 5 | 167 => 323 | 37 => 59 | 0 => 0 | 85 => 251 | 2 => 2 | 168 => 326 | 53 => 42 | 175 => 178 | 46 => 229 | 210 => 370 | 127 => 372 | 145 => 393 | 143 => 391 | 21 => 21 | 171 => 387 | 173 => 389 | 212 => 409 | 51 => 23 | 20 => 20 | 213 => 410 | 232 => 414 | 233 => 415 | 80 => 186 | n => n, fun | 15 => 2 | 16 => 1 | 17 => 8 | 18 => 9 | 19 => 10 | n => n⟩
theorem Tryz.laysC172 : Go.Proofs.LaysC.n172 Tryz.prog Tryz.laysC172_ren := {
  mixed := by kernel_rfl
  f129 := Tryz.func177.trans (congrArg some (by kernel_rfl))
  f171 := Tryz.func146.trans (congrArg some (by kernel_rfl))
  f172 := Tryz.func79.trans (congrArg some (by kernel_rfl))
  f205 := Tryz.func236.trans (congrArg some (by kernel_rfl))
  f243 := Tryz.func205.trans (congrArg some (by kernel_rfl))
  f244 := Tryz.func140.trans (congrArg some (by kernel_rfl))
  f245 := Tryz.func139.trans (congrArg some (by kernel_rfl))
  f246 := Tryz.func240.trans (congrArg some (by kernel_rfl))
  f247 := Tryz.func189.trans (congrArg some (by kernel_rfl))
  f279 := Tryz.func193.trans (congrArg some (by kernel_rfl))
  f280 := Tryz.func194.trans (congrArg some (by kernel_rfl))
  f281 := Tryz.func195.trans (congrArg some (by kernel_rfl))
  f282 := Tryz.func196.trans (congrArg some (by kernel_rfl))
  f283 := Tryz.func257.trans (congrArg some (by kernel_rfl))
  f284 := Tryz.func258.trans (congrArg some (by kernel_rfl))
  f285 := Tryz.func259.trans (congrArg some (by kernel_rfl))
  f286 := Tryz.func260.trans (congrArg some (by kernel_rfl))
  f287 := Tryz.func138.trans (congrArg some (by kernel_rfl))
  f316 := Tryz.func235.trans (congrArg some (by kernel_rfl))
  f317 := Tryz.func277.trans (congrArg some (by kernel_rfl))
  f318 := Tryz.func278.trans (congrArg some (by kernel_rfl))
  f319 := Tryz.func279.trans (congrArg some (by kernel_rfl))
  f320 := Tryz.func280.trans (congrArg some (by kernel_rfl))
  f321 := Tryz.func191.trans (congrArg some (by kernel_rfl))
  f322 := Tryz.func192.trans (congrArg some (by kernel_rfl))
  f337 := Tryz.func284.trans (congrArg some (by kernel_rfl))
  f338 := Tryz.func285.trans (congrArg some (by kernel_rfl))
  t0 := Tryz.underlying0
  a0 := Tryz.isAgg0
  z0 := Tryz.sizeOf0
  v0 := Tryz.zeroValue0
  t2 := Tryz.underlying2
  a2 := Tryz.isAgg2
  z2 := Tryz.sizeOf2
  v2 := Tryz.zeroValue2
  t3 := Tryz.underlying3
  a3 := Tryz.isAgg3
  z3 := Tryz.sizeOf3
  v3 := Tryz.zeroValue3
  t4 := Tryz.underlying4
  a4 := Tryz.isAgg4
  z4 := Tryz.sizeOf4
  v4 := Tryz.zeroValue4
  t5 := Tryz.underlying5
  a5 := Tryz.isAgg5
  z5 := Tryz.sizeOf5
  v5 := Tryz.zeroValue5
  t9 := Tryz.underlying9
  a9 := Tryz.isAgg9
  z9 := Tryz.sizeOf9
  v9 := Tryz.zeroValue9
  t20 := Tryz.underlying20
  a20 := Tryz.isAgg20
  z20 := Tryz.sizeOf20
  v20 := Tryz.zeroValue20
  t21 := Tryz.underlying21
  a21 := Tryz.isAgg21
  z21 := Tryz.sizeOf21
  v21 := Tryz.zeroValue21
  t37 := Tryz.underlying59
  a37 := Tryz.isAgg59
  z37 := Tryz.sizeOf59
  v37 := Tryz.zeroValue59
  t46 := Tryz.underlying229
  a46 := Tryz.isAgg229
  z46 := Tryz.sizeOf229
  v46 := Tryz.zeroValue229
  t51 := Tryz.underlying23
  a51 := Tryz.isAgg23
  z51 := Tryz.sizeOf23
  v51 := Tryz.zeroValue23
  t53 := Tryz.underlying42
  a53 := Tryz.isAgg42
  z53 := Tryz.sizeOf42
  v53 := Tryz.zeroValue42
  t75 := Tryz.underlying37
  a75 := Tryz.isAgg37
  z75 := Tryz.sizeOf37
  v75 := Tryz.zeroValue37
  t76 := Tryz.underlying180
  a76 := Tryz.isAgg180
  z76 := Tryz.sizeOf180
  v76 := Tryz.zeroValue180
  t85 := Tryz.underlying251
  a85 := Tryz.isAgg251
  z85 := Tryz.sizeOf251
  v85 := Tryz.zeroValue251
  t127 := Tryz.underlying372
  a127 := Tryz.isAgg372
  z127 := Tryz.sizeOf372
  v127 := Tryz.zeroValue372
  t143 := Tryz.underlying391
  a143 := Tryz.isAgg391
  z143 := Tryz.sizeOf391
  v143 := Tryz.zeroValue391
  t145 := Tryz.underlying393
  a145 := Tryz.isAgg393
  z145 := Tryz.sizeOf393
  v145 := Tryz.zeroValue393
  t167 := Tryz.underlying323
  a167 := Tryz.isAgg323
  z167 := Tryz.sizeOf323
  v167 := Tryz.zeroValue323
  t168 := Tryz.underlying326
  a168 := Tryz.isAgg326
  z168 := Tryz.sizeOf326
  v168 := Tryz.zeroValue326
  t171 := Tryz.underlying387
  a171 := Tryz.isAgg387
  z171 := Tryz.sizeOf387
  v171 := Tryz.zeroValue387
  t173 := Tryz.underlying389
  a173 := Tryz.isAgg389
  z173 := Tryz.sizeOf389
  v173 := Tryz.zeroValue389
  t175 := Tryz.underlying178
  a175 := Tryz.isAgg178
  z175 := Tryz.sizeOf178
  v175 := Tryz.zeroValue178
  t210 := Tryz.underlying370
  a210 := Tryz.isAgg370
  z210 := Tryz.sizeOf370
  v210 := Tryz.zeroValue370
  t212 := Tryz.underlying409
  a212 := Tryz.isAgg409
  z212 := Tryz.sizeOf409
  v212 := Tryz.zeroValue409
  t213 := Tryz.underlying410
  a213 := Tryz.isAgg410
  z213 := Tryz.sizeOf410
  t232 := Tryz.underlying414
  a232 := Tryz.isAgg414
  z232 := Tryz.sizeOf414
  v232 := Tryz.zeroValue414
  t233 := Tryz.underlying415
  a233 := Tryz.isAgg415
  z233 := Tryz.sizeOf415
  v233 := Tryz.zeroValue415
  g15 := by kernel_rfl
  g16 := by kernel_rfl
  g17 := by kernel_rfl
  g18 := by kernel_rfl
  g19 := by kernel_rfl
  t80 := Tryz.underlying186
  a80 := Tryz.isAgg186
  z80 := Tryz.sizeOf186
  v80 := Tryz.zeroValue186
  i0 := by kernel_rfl
  i2 := by kernel_rfl
  i3 := by kernel_rfl
  i4 := by kernel_rfl
  i5 := by kernel_rfl
  i9 := by kernel_rfl
  i20 := by kernel_rfl
  i21 := by kernel_rfl
  i37 := by kernel_rfl
  i46 := by kernel_rfl
  i51 := by kernel_rfl
  i53 := by kernel_rfl
  i75 := by kernel_rfl
  i76 := by kernel_rfl
  i80 := by kernel_rfl
  i85 := by kernel_rfl
  i127 := by kernel_rfl
  i143 := by kernel_rfl
  i145 := by kernel_rfl
  i167 := by kernel_rfl
  i168 := by kernel_rfl
  i171 := by kernel_rfl
  i173 := by kernel_rfl
  i175 := by kernel_rfl
  i210 := by kernel_rfl
  i212 := by kernel_rfl
  i232 := by kernel_rfl
  i233 := by kernel_rfl
  m15 := by kernel_rfl
  m16 := by kernel_rfl
  m17 := by kernel_rfl
  m18 := by kernel_rfl
  m19 := by kernel_rfl
  c0 := by kernel_rfl
  c2 := by kernel_rfl
  c3 := by kernel_rfl
  c4 := by kernel_rfl
  c5 := by kernel_rfl
  c9 := by kernel_rfl
  c20 := by kernel_rfl
  c21 := by kernel_rfl
  c37 := by kernel_rfl
  c46 := by kernel_rfl
  c51 := by kernel_rfl
  c53 := by kernel_rfl
  c75 := by kernel_rfl
  c76 := by kernel_rfl
  c80 := by kernel_rfl
  c85 := by kernel_rfl
  c127 := by kernel_rfl
  c143 := by kernel_rfl
  c145 := by kernel_rfl
  c167 := by kernel_rfl
  c168 := by kernel_rfl
  c171 := by kernel_rfl
  c173 := by kernel_rfl
  c175 := by kernel_rfl
  c210 := by kernel_rfl
  c212 := by kernel_rfl
  c213 := by kernel_rfl
  c232 := by kernel_rfl
  c233 := by kernel_rfl }
open Go.RowKit in
theorem Tryz.strconv_Atoi_ok (s : ByteArray) (hmax : s.size ≤ 9223372036854775806) (v : Int) (h : Lib.atoiAll s.data.toList = .ok v) (w : World) :
    Calls Tryz.prog 79 #[.string s] w fun e w' => e = .returned (.tuple #[.int .i64 v, .nilIface]) ∧ (w' = w ∨ ∃ t, w' = Lib.bytesWorld w 5 t) := Any.strconv_Atoi_ok Tryz.laysC172 s hmax v h w
open Go.RowKit in
theorem Tryz.strconv_Atoi_syntax (s : ByteArray) (hlim : s.size ≤ 281474976710656) (h : Lib.atoiAll s.data.toList = Lib.atoiAll []) (ev : Value) (w : World) (hv : w.cell? ⟨2, 0, none⟩ = some ev) (hev : ev = .nilIface ∨ ∃ te pe, ev = .iface te pe) :
    Calls Tryz.prog 79 #[.string s] w fun e w' => ∃ N, e = .returned (.tuple #[.int .i64 (0), .iface 326 (.pointer (some ⟨N, 0, none⟩))]) ∧ w.heap.size ≤ N ∧ w'.heap[N]? = some (.cells #[.string ⟨#[65, 116, 111, 105]⟩, .string s, ev] 370 (0, 0)) ∧ Below w.heap.size w w' := Any.strconv_Atoi_syntax Tryz.laysC172 s hlim h ev w hv hev
open Go.RowKit in
theorem Tryz.strconv_Atoi_range (s : ByteArray) (hlim : s.size ≤ 281474976710656) (h : Lib.atoiAll s.data.toList = .range) (ev : Value) (w : World) (hv : w.cell? ⟨1, 0, none⟩ = some ev) (hev : ev = .nilIface ∨ ∃ te pe, ev = .iface te pe) :
    Calls Tryz.prog 79 #[.string s] w fun e w' => ∃ N, e = .returned (.tuple #[.int .i64 (Lib.atoiSat s.data.toList), .iface 326 (.pointer (some ⟨N, 0, none⟩))]) ∧ w.heap.size ≤ N ∧ w'.heap[N]? = some (.cells #[.string ⟨#[65, 116, 111, 105]⟩, .string s, ev] 370 (0, 0)) ∧ Below w.heap.size w w' := Any.strconv_Atoi_range Tryz.laysC172 s hlim h ev w hv hev
def Tryz.laysC174_ren : Go.Shelf.Ren := ⟨fun | 174 => 136 | 247 => 189 | 245 => 139 | 287 => 138 | 279 => 193 | 280 => 194 | 281 => 195 | 282 => 196 | 321 => 191 | 322 => 192 | 316 => 235 | 171 => 146 | 205 => 236 | 243 => 205 | 246 => 240 | 283 => 257 | 284 => 258 | 285 => 259 | 286 => 260 | 129 => 177 | 317 => 277 | 318 => 278 | 319 => 279 | 320 => 280 | 337 => 284 | 338 => 285 | n => n, fun | 9 => 9 | 3 => 3 | 2 => 2 | 75 => 37 | 85 => 251 | 4 => 4 | 167 => 323 | 5 => 5 | 53 => 42 | 175 => 178 | 46 => 229 | 168 => 326 | 37 => 59 | 0 => 0 | 210 => 370 | 21 => 21 | 127 => 372 | 145 => 393 | 143 => 391 | 171 => 387 | 173 => 389 | 212 => 409 | 51 => 23 | 20 => 20 | 213 => 410 | 232 => 414 | 233 => 415 | 80 => 186 | n => n, fun | 15 => 2 | 16 => 1 | 17 => 8 | 18 => 9 | 19 => 10 | n => n⟩
theorem Tryz.laysC174 : Go.Proofs.LaysC.n174 Tryz.prog Tryz.laysC174_ren := {
  mixed := by kernel_rfl
  f129 := Tryz.func177.trans (congrArg some (by kernel_rfl))
  f171 := Tryz.func146.trans (congrArg some (by kernel_rfl))
  f174 := Tryz.func136.trans (congrArg some (by kernel_rfl))
  f205 := Tryz.func236.trans (congrArg some (by kernel_rfl))
  f243 := Tryz.func205.trans (congrArg some (by kernel_rfl))
  f245 := Tryz.func139.trans (congrArg some (by kernel_rfl))
  f246 := Tryz.func240.trans (congrArg some (by kernel_rfl))
  f247 := Tryz.func189.trans (congrArg some (by kernel_rfl))
  f279 := Tryz.func193.trans (congrArg some (by kernel_rfl))
  f280 := Tryz.func194.trans (congrArg some (by kernel_rfl))
  f281 := Tryz.func195.trans (congrArg some (by kernel_rfl))
  f282 := Tryz.func196.trans (congrArg some (by kernel_rfl))
  f283 := Tryz.func257.trans (congrArg some (by kernel_rfl))
  f284 := Tryz.func258.trans (congrArg some (by kernel_rfl))
  f285 := Tryz.func259.trans (congrArg some (by kernel_rfl))
  f286 := Tryz.func260.trans (congrArg some (by kernel_rfl))
  f287 := Tryz.func138.trans (congrArg some (by kernel_rfl))
  f316 := Tryz.func235.trans (congrArg some (by kernel_rfl))
  f317 := Tryz.func277.trans (congrArg some (by kernel_rfl))
  f318 := Tryz.func278.trans (congrArg some (by kernel_rfl))
  f319 := Tryz.func279.trans (congrArg some (by kernel_rfl))
  f320 := Tryz.func280.trans (congrArg some (by kernel_rfl))
  f321 := Tryz.func191.trans (congrArg some (by kernel_rfl))
  f322 := Tryz.func192.trans (congrArg some (by kernel_rfl))
  f337 := Tryz.func284.trans (congrArg some (by kernel_rfl))
  f338 := Tryz.func285.trans (congrArg some (by kernel_rfl))
  t0 := Tryz.underlying0
  a0 := Tryz.isAgg0
  z0 := Tryz.sizeOf0
  v0 := Tryz.zeroValue0
  t2 := Tryz.underlying2
  a2 := Tryz.isAgg2
  z2 := Tryz.sizeOf2
  v2 := Tryz.zeroValue2
  t3 := Tryz.underlying3
  a3 := Tryz.isAgg3
  z3 := Tryz.sizeOf3
  v3 := Tryz.zeroValue3
  t4 := Tryz.underlying4
  a4 := Tryz.isAgg4
  z4 := Tryz.sizeOf4
  v4 := Tryz.zeroValue4
  t5 := Tryz.underlying5
  a5 := Tryz.isAgg5
  z5 := Tryz.sizeOf5
  v5 := Tryz.zeroValue5
  t9 := Tryz.underlying9
  a9 := Tryz.isAgg9
  z9 := Tryz.sizeOf9
  v9 := Tryz.zeroValue9
  t20 := Tryz.underlying20
  a20 := Tryz.isAgg20
  z20 := Tryz.sizeOf20
  v20 := Tryz.zeroValue20
  t21 := Tryz.underlying21
  a21 := Tryz.isAgg21
  z21 := Tryz.sizeOf21
  v21 := Tryz.zeroValue21
  t37 := Tryz.underlying59
  a37 := Tryz.isAgg59
  z37 := Tryz.sizeOf59
  v37 := Tryz.zeroValue59
  t46 := Tryz.underlying229
  a46 := Tryz.isAgg229
  z46 := Tryz.sizeOf229
  v46 := Tryz.zeroValue229
  t51 := Tryz.underlying23
  a51 := Tryz.isAgg23
  z51 := Tryz.sizeOf23
  v51 := Tryz.zeroValue23
  t53 := Tryz.underlying42
  a53 := Tryz.isAgg42
  z53 := Tryz.sizeOf42
  v53 := Tryz.zeroValue42
  t75 := Tryz.underlying37
  a75 := Tryz.isAgg37
  z75 := Tryz.sizeOf37
  v75 := Tryz.zeroValue37
  t85 := Tryz.underlying251
  a85 := Tryz.isAgg251
  z85 := Tryz.sizeOf251
  v85 := Tryz.zeroValue251
  t127 := Tryz.underlying372
  a127 := Tryz.isAgg372
  z127 := Tryz.sizeOf372
  v127 := Tryz.zeroValue372
  t143 := Tryz.underlying391
  a143 := Tryz.isAgg391
  z143 := Tryz.sizeOf391
  v143 := Tryz.zeroValue391
  t145 := Tryz.underlying393
  a145 := Tryz.isAgg393
  z145 := Tryz.sizeOf393
  v145 := Tryz.zeroValue393
  t167 := Tryz.underlying323
  a167 := Tryz.isAgg323
  z167 := Tryz.sizeOf323
  v167 := Tryz.zeroValue323
  t168 := Tryz.underlying326
  a168 := Tryz.isAgg326
  z168 := Tryz.sizeOf326
  v168 := Tryz.zeroValue326
  t171 := Tryz.underlying387
  a171 := Tryz.isAgg387
  z171 := Tryz.sizeOf387
  v171 := Tryz.zeroValue387
  t173 := Tryz.underlying389
  a173 := Tryz.isAgg389
  z173 := Tryz.sizeOf389
  v173 := Tryz.zeroValue389
  t175 := Tryz.underlying178
  a175 := Tryz.isAgg178
  z175 := Tryz.sizeOf178
  v175 := Tryz.zeroValue178
  t210 := Tryz.underlying370
  a210 := Tryz.isAgg370
  z210 := Tryz.sizeOf370
  v210 := Tryz.zeroValue370
  t212 := Tryz.underlying409
  a212 := Tryz.isAgg409
  z212 := Tryz.sizeOf409
  v212 := Tryz.zeroValue409
  t213 := Tryz.underlying410
  a213 := Tryz.isAgg410
  z213 := Tryz.sizeOf410
  t232 := Tryz.underlying414
  a232 := Tryz.isAgg414
  z232 := Tryz.sizeOf414
  v232 := Tryz.zeroValue414
  t233 := Tryz.underlying415
  a233 := Tryz.isAgg415
  z233 := Tryz.sizeOf415
  v233 := Tryz.zeroValue415
  g15 := by kernel_rfl
  g16 := by kernel_rfl
  g17 := by kernel_rfl
  g18 := by kernel_rfl
  g19 := by kernel_rfl
  t80 := Tryz.underlying186
  a80 := Tryz.isAgg186
  z80 := Tryz.sizeOf186
  v80 := Tryz.zeroValue186
  i0 := by kernel_rfl
  i2 := by kernel_rfl
  i3 := by kernel_rfl
  i4 := by kernel_rfl
  i5 := by kernel_rfl
  i9 := by kernel_rfl
  i20 := by kernel_rfl
  i21 := by kernel_rfl
  i37 := by kernel_rfl
  i46 := by kernel_rfl
  i51 := by kernel_rfl
  i53 := by kernel_rfl
  i75 := by kernel_rfl
  i80 := by kernel_rfl
  i85 := by kernel_rfl
  i127 := by kernel_rfl
  i143 := by kernel_rfl
  i145 := by kernel_rfl
  i167 := by kernel_rfl
  i168 := by kernel_rfl
  i171 := by kernel_rfl
  i173 := by kernel_rfl
  i175 := by kernel_rfl
  i210 := by kernel_rfl
  i212 := by kernel_rfl
  i232 := by kernel_rfl
  i233 := by kernel_rfl
  m15 := by kernel_rfl
  m16 := by kernel_rfl
  m17 := by kernel_rfl
  m18 := by kernel_rfl
  m19 := by kernel_rfl
  c0 := by kernel_rfl
  c2 := by kernel_rfl
  c3 := by kernel_rfl
  c4 := by kernel_rfl
  c5 := by kernel_rfl
  c9 := by kernel_rfl
  c20 := by kernel_rfl
  c21 := by kernel_rfl
  c37 := by kernel_rfl
  c46 := by kernel_rfl
  c51 := by kernel_rfl
  c53 := by kernel_rfl
  c75 := by kernel_rfl
  c80 := by kernel_rfl
  c85 := by kernel_rfl
  c127 := by kernel_rfl
  c143 := by kernel_rfl
  c145 := by kernel_rfl
  c167 := by kernel_rfl
  c168 := by kernel_rfl
  c171 := by kernel_rfl
  c173 := by kernel_rfl
  c175 := by kernel_rfl
  c210 := by kernel_rfl
  c212 := by kernel_rfl
  c213 := by kernel_rfl
  c232 := by kernel_rfl
  c233 := by kernel_rfl }
open Go.RowKit in
theorem Tryz.strconv_ParseInt_10_at64_ok (s : ByteArray) (hmax : s.size ≤ 9223372036854775806) (v : Int) (h : Lib.parseIntB 64 s.data.toList = .ok v) (w : World) :
    Calls Tryz.prog 136 #[.string s, .int .i64 10, .int .i64 64] w fun e w' => e = .returned (.tuple #[.int .i64 v, .nilIface]) ∧ (w' = w ∨ ∃ t, w' = Lib.bytesWorld w 5 t) := Any.strconv_ParseInt_10_at64_ok Tryz.laysC174 s hmax v h w
open Go.RowKit in
theorem Tryz.strconv_ParseInt_10_at64_range (s : ByteArray) (hlim : s.size ≤ 281474976710656) (h : Lib.parseIntB 64 s.data.toList = .range) (ev : Value) (w : World) (hv : w.cell? ⟨1, 0, none⟩ = some ev) (hev : ev = .nilIface ∨ ∃ te pe, ev = .iface te pe) :
    Calls Tryz.prog 136 #[.string s, .int .i64 10, .int .i64 64] w fun e w' => ∃ N, e = .returned (.tuple #[.int .i64 (Lib.intSat 64 s.data.toList), .iface 326 (.pointer (some ⟨N, 0, none⟩))]) ∧ w.heap.size ≤ N ∧ w'.heap[N]? = some (.cells #[.string ⟨#[80, 97, 114, 115, 101, 73, 110, 116]⟩, .string s, ev] 370 (0, 0)) ∧ Below w.heap.size w w' := Any.strconv_ParseInt_10_at64_range Tryz.laysC174 s hlim h ev w hv hev
def Tryz.laysPu14_ren : Go.Shelf.Ren := ⟨fun | 14 => 78 | 16 => 138 | 17 => 139 | 19 => 191 | 20 => 192 | 21 => 193 | 22 => 194 | 23 => 195 | 24 => 196 | 25 => 235 | 27 => 146 | 26 => 236 | 28 => 205 | 29 => 240 | 30 => 257 | 31 => 258 | 32 => 259 | 33 => 260 | 35 => 177 | 34 => 277 | 36 => 278 | 37 => 279 | 38 => 280 | 39 => 284 | 40 => 285 | n => n, fun | 9 => 9 | 3 => 3 | 22 => 42 | 24 => 37 | 25 => 178 | 4 => 4 | 34 => 323 | 5 => 5 | 36 => 229 | 37 => 59 | 0 => 0 | 39 => 326 | 21 => 21 | 44 => 370 | 47 => 372 | 50 => 393 | 48 => 391 | 2 => 2 | 52 => 387 | 55 => 389 | 59 => 409 | 60 => 23 | 20 => 20 | 61 => 410 | 65 => 414 | 66 => 415 | 67 => 186 | n => n, fun | 0 => 2 | 1 => 1 | 2 => 8 | 3 => 9 | 4 => 10 | n => n⟩
theorem Tryz.laysPu14 : Go.Proofs.LaysPu.n14 Tryz.prog Tryz.laysPu14_ren := {
  mixed := by kernel_rfl
  f14 := Tryz.func78.trans (congrArg some (by kernel_rfl))
  f16 := Tryz.func138.trans (congrArg some (by kernel_rfl))
  f17 := Tryz.func139.trans (congrArg some (by kernel_rfl))
  f19 := Tryz.func191.trans (congrArg some (by kernel_rfl))
  f20 := Tryz.func192.trans (congrArg some (by kernel_rfl))
  f21 := Tryz.func193.trans (congrArg some (by kernel_rfl))
  f22 := Tryz.func194.trans (congrArg some (by kernel_rfl))
  f23 := Tryz.func195.trans (congrArg some (by kernel_rfl))
  f24 := Tryz.func196.trans (congrArg some (by kernel_rfl))
  f25 := Tryz.func235.trans (congrArg some (by kernel_rfl))
  f26 := Tryz.func236.trans (congrArg some (by kernel_rfl))
  f27 := Tryz.func146.trans (congrArg some (by kernel_rfl))
  f28 := Tryz.func205.trans (congrArg some (by kernel_rfl))
  f29 := Tryz.func240.trans (congrArg some (by kernel_rfl))
  f30 := Tryz.func257.trans (congrArg some (by kernel_rfl))
  f31 := Tryz.func258.trans (congrArg some (by kernel_rfl))
  f32 := Tryz.func259.trans (congrArg some (by kernel_rfl))
  f33 := Tryz.func260.trans (congrArg some (by kernel_rfl))
  f34 := Tryz.func277.trans (congrArg some (by kernel_rfl))
  f35 := Tryz.func177.trans (congrArg some (by kernel_rfl))
  f36 := Tryz.func278.trans (congrArg some (by kernel_rfl))
  f37 := Tryz.func279.trans (congrArg some (by kernel_rfl))
  f38 := Tryz.func280.trans (congrArg some (by kernel_rfl))
  f39 := Tryz.func284.trans (congrArg some (by kernel_rfl))
  f40 := Tryz.func285.trans (congrArg some (by kernel_rfl))
  t0 := Tryz.underlying0
  a0 := Tryz.isAgg0
  z0 := Tryz.sizeOf0
  v0 := Tryz.zeroValue0
  i0 := by kernel_rfl
  t2 := Tryz.underlying2
  a2 := Tryz.isAgg2
  z2 := Tryz.sizeOf2
  v2 := Tryz.zeroValue2
  i2 := by kernel_rfl
  t3 := Tryz.underlying3
  a3 := Tryz.isAgg3
  z3 := Tryz.sizeOf3
  v3 := Tryz.zeroValue3
  i3 := by kernel_rfl
  t4 := Tryz.underlying4
  a4 := Tryz.isAgg4
  z4 := Tryz.sizeOf4
  v4 := Tryz.zeroValue4
  i4 := by kernel_rfl
  t5 := Tryz.underlying5
  a5 := Tryz.isAgg5
  z5 := Tryz.sizeOf5
  v5 := Tryz.zeroValue5
  i5 := by kernel_rfl
  t9 := Tryz.underlying9
  a9 := Tryz.isAgg9
  z9 := Tryz.sizeOf9
  v9 := Tryz.zeroValue9
  i9 := by kernel_rfl
  t20 := Tryz.underlying20
  a20 := Tryz.isAgg20
  z20 := Tryz.sizeOf20
  v20 := Tryz.zeroValue20
  i20 := by kernel_rfl
  t21 := Tryz.underlying21
  a21 := Tryz.isAgg21
  z21 := Tryz.sizeOf21
  v21 := Tryz.zeroValue21
  i21 := by kernel_rfl
  t22 := Tryz.underlying42
  a22 := Tryz.isAgg42
  z22 := Tryz.sizeOf42
  v22 := Tryz.zeroValue42
  i22 := by kernel_rfl
  t24 := Tryz.underlying37
  a24 := Tryz.isAgg37
  z24 := Tryz.sizeOf37
  v24 := Tryz.zeroValue37
  i24 := by kernel_rfl
  t25 := Tryz.underlying178
  a25 := Tryz.isAgg178
  z25 := Tryz.sizeOf178
  v25 := Tryz.zeroValue178
  i25 := by kernel_rfl
  t34 := Tryz.underlying323
  a34 := Tryz.isAgg323
  z34 := Tryz.sizeOf323
  v34 := Tryz.zeroValue323
  i34 := by kernel_rfl
  c34 := by kernel_rfl
  t36 := Tryz.underlying229
  a36 := Tryz.isAgg229
  z36 := Tryz.sizeOf229
  v36 := Tryz.zeroValue229
  i36 := by kernel_rfl
  t37 := Tryz.underlying59
  a37 := Tryz.isAgg59
  z37 := Tryz.sizeOf59
  v37 := Tryz.zeroValue59
  i37 := by kernel_rfl
  t39 := Tryz.underlying326
  a39 := Tryz.isAgg326
  z39 := Tryz.sizeOf326
  v39 := Tryz.zeroValue326
  i39 := by kernel_rfl
  t44 := Tryz.underlying370
  a44 := Tryz.isAgg370
  z44 := Tryz.sizeOf370
  v44 := Tryz.zeroValue370
  i44 := by kernel_rfl
  t47 := Tryz.underlying372
  a47 := Tryz.isAgg372
  z47 := Tryz.sizeOf372
  v47 := Tryz.zeroValue372
  i47 := by kernel_rfl
  t48 := Tryz.underlying391
  a48 := Tryz.isAgg391
  z48 := Tryz.sizeOf391
  v48 := Tryz.zeroValue391
  i48 := by kernel_rfl
  t50 := Tryz.underlying393
  a50 := Tryz.isAgg393
  z50 := Tryz.sizeOf393
  v50 := Tryz.zeroValue393
  i50 := by kernel_rfl
  t52 := Tryz.underlying387
  a52 := Tryz.isAgg387
  z52 := Tryz.sizeOf387
  v52 := Tryz.zeroValue387
  i52 := by kernel_rfl
  t55 := Tryz.underlying389
  a55 := Tryz.isAgg389
  z55 := Tryz.sizeOf389
  v55 := Tryz.zeroValue389
  i55 := by kernel_rfl
  t59 := Tryz.underlying409
  a59 := Tryz.isAgg409
  z59 := Tryz.sizeOf409
  v59 := Tryz.zeroValue409
  i59 := by kernel_rfl
  t60 := Tryz.underlying23
  a60 := Tryz.isAgg23
  z60 := Tryz.sizeOf23
  v60 := Tryz.zeroValue23
  i60 := by kernel_rfl
  t61 := Tryz.underlying410
  a61 := Tryz.isAgg410
  z61 := Tryz.sizeOf410
  t65 := Tryz.underlying414
  a65 := Tryz.isAgg414
  z65 := Tryz.sizeOf414
  v65 := Tryz.zeroValue414
  i65 := by kernel_rfl
  t66 := Tryz.underlying415
  a66 := Tryz.isAgg415
  z66 := Tryz.sizeOf415
  v66 := Tryz.zeroValue415
  i66 := by kernel_rfl
  t67 := Tryz.underlying186
  a67 := Tryz.isAgg186
  z67 := Tryz.sizeOf186
  v67 := Tryz.zeroValue186
  i67 := by kernel_rfl
  g0 := by kernel_rfl
  m0 := by kernel_rfl
  g1 := by kernel_rfl
  m1 := by kernel_rfl
  g2 := by kernel_rfl
  m2 := by kernel_rfl
  g3 := by kernel_rfl
  m3 := by kernel_rfl
  g4 := by kernel_rfl
  m4 := by kernel_rfl }
open Go.RowKit in
theorem Tryz.strconv_ParseUint_10_at32_ok (s : ByteArray) (hmax : s.size ≤ 9223372036854775806) (u : Nat) (h : Lib.parseUintB 32 s.data.toList = .ok u) (w : World) :
    Calls Tryz.prog 78 #[.string s, .int .i64 10, .int .i64 32] w fun e w' => e = .returned (.tuple #[.int .u64 u, .nilIface]) ∧ (w' = w ∨ w' = Lib.bytesWorld w 5 s) := Any.strconv_ParseUint_10_at32_ok Tryz.laysPu14 s hmax u h w
open Go.RowKit in
theorem Tryz.strconv_ParseUint_10_at32_syntax (s : ByteArray) (hlim : s.size ≤ 281474976710656) (h : Lib.parseUintB 32 s.data.toList = Lib.parseUintB 32 []) (ev : Value) (w : World) (hv : w.cell? ⟨2, 0, none⟩ = some ev) (hev : ev = .nilIface ∨ ∃ te pe, ev = .iface te pe) :
    Calls Tryz.prog 78 #[.string s, .int .i64 10, .int .i64 32] w fun e w' => ∃ N, e = .returned (.tuple #[.int .u64 0, .iface 326 (.pointer (some ⟨N, 0, none⟩))]) ∧ w.heap.size ≤ N ∧ w'.heap[N]? = some (.cells #[.string ⟨#[80, 97, 114, 115, 101, 85, 105, 110, 116]⟩, .string s, ev] 370 (0, 0)) ∧ Below w.heap.size w w' := Any.strconv_ParseUint_10_at32_syntax Tryz.laysPu14 s hlim h ev w hv hev
open Go.RowKit in
theorem Tryz.strconv_ParseUint_10_at32_range (s : ByteArray) (hlim : s.size ≤ 281474976710656) (h : Lib.parseUintB 32 s.data.toList = .range) (ev : Value) (w : World) (hv : w.cell? ⟨1, 0, none⟩ = some ev) (hev : ev = .nilIface ∨ ∃ te pe, ev = .iface te pe) :
    Calls Tryz.prog 78 #[.string s, .int .i64 10, .int .i64 32] w fun e w' => ∃ N, e = .returned (.tuple #[.int .u64 4294967295, .iface 326 (.pointer (some ⟨N, 0, none⟩))]) ∧ w.heap.size ≤ N ∧ w'.heap[N]? = some (.cells #[.string ⟨#[80, 97, 114, 115, 101, 85, 105, 110, 116]⟩, .string s, ev] 370 (0, 0)) ∧ Below w.heap.size w w' := Any.strconv_ParseUint_10_at32_range Tryz.laysPu14 s hlim h ev w hv hev
def Tryz.lays145_ren : Go.Shelf.Ren := ⟨fun | 145 => 134 | 220 => 187 | 219 => 232 | 217 => 253 | 225 => 254 | 224 => 255 | 267 => 256 | 266 => 275 | 314 => 276 | n => n, fun | 9 => 9 | 4 => 4 | 59 => 248 | 3 => 3 | 5 => 5 | 46 => 229 | 146 => 406 | 51 => 23 | n => n, fun | 1 => 3 | n => n⟩
theorem Tryz.lays145 : Go.Proofs.Lays.n145 Tryz.prog Tryz.lays145_ren := {
  mixed := by kernel_rfl
  f145 := Tryz.func134.trans (congrArg some (by kernel_rfl))
  f217 := Tryz.func253.trans (congrArg some (by kernel_rfl))
  f219 := Tryz.func232.trans (congrArg some (by kernel_rfl))
  f220 := Tryz.func187.trans (congrArg some (by kernel_rfl))
  f224 := Tryz.func255.trans (congrArg some (by kernel_rfl))
  f225 := Tryz.func254.trans (congrArg some (by kernel_rfl))
  f266 := Tryz.func275.trans (congrArg some (by kernel_rfl))
  f267 := Tryz.func256.trans (congrArg some (by kernel_rfl))
  f314 := Tryz.func276.trans (congrArg some (by kernel_rfl))
  t3 := Tryz.underlying3
  a3 := Tryz.isAgg3
  z3 := Tryz.sizeOf3
  v3 := Tryz.zeroValue3
  t4 := Tryz.underlying4
  a4 := Tryz.isAgg4
  z4 := Tryz.sizeOf4
  v4 := Tryz.zeroValue4
  t5 := Tryz.underlying5
  a5 := Tryz.isAgg5
  z5 := Tryz.sizeOf5
  v5 := Tryz.zeroValue5
  t9 := Tryz.underlying9
  a9 := Tryz.isAgg9
  z9 := Tryz.sizeOf9
  v9 := Tryz.zeroValue9
  t46 := Tryz.underlying229
  a46 := Tryz.isAgg229
  z46 := Tryz.sizeOf229
  v46 := Tryz.zeroValue229
  t51 := Tryz.underlying23
  a51 := Tryz.isAgg23
  z51 := Tryz.sizeOf23
  v51 := Tryz.zeroValue23
  t59 := Tryz.underlying248
  a59 := Tryz.isAgg248
  z59 := Tryz.sizeOf248
  v59 := Tryz.zeroValue248
  t146 := Tryz.underlying406
  a146 := Tryz.isAgg406
  z146 := Tryz.sizeOf406
  v146 := Tryz.zeroValue406
  g1 := by kernel_rfl }
open Go.RowKit Go.Lib in
theorem Tryz.strings_Cut (s sep : ByteArray) (m : Int) (w : World) (hs : s.size < 4294967281) (hm : w.cell? ⟨3, 0, none⟩ = some (.int .i64 m)) :
    Calls Tryz.prog 134 #[.string s, .string sep] w fun e w' => e = .returned (.tuple #[.string ⟨(Lib.cut s.data.toList sep.data.toList).1.toArray⟩, .string ⟨(Lib.cut s.data.toList sep.data.toList).2.1.toArray⟩, .bool (Lib.cut s.data.toList sep.data.toList).2.2]) ∧ ∃ n, w' = w.drewN n := Any.strings_Cut Tryz.lays145 s sep m w hs hm
def Tryz.lays101_ren : Go.Shelf.Ren := ⟨fun | 101 => 135 | 208 => 188 | 206 => 233 | n => n, fun | 9 => 9 | 4 => 4 | 3 => 3 | n => n, fun | n => n⟩
theorem Tryz.lays101 : Go.Proofs.Lays.n101 Tryz.prog Tryz.lays101_ren := {
  mixed := by kernel_rfl
  f101 := Tryz.func135.trans (congrArg some (by kernel_rfl))
  f206 := Tryz.func233.trans (congrArg some (by kernel_rfl))
  f208 := Tryz.func188.trans (congrArg some (by kernel_rfl))
  t3 := Tryz.underlying3
  a3 := Tryz.isAgg3
  z3 := Tryz.sizeOf3
  v3 := Tryz.zeroValue3
  t4 := Tryz.underlying4
  a4 := Tryz.isAgg4
  z4 := Tryz.sizeOf4
  v4 := Tryz.zeroValue4
  t9 := Tryz.underlying9
  a9 := Tryz.isAgg9
  z9 := Tryz.sizeOf9
  v9 := Tryz.zeroValue9 }
open Go.RowKit Go.Lib in
theorem Tryz.strings_TrimPrefix (s p : ByteArray) (w : World) :
    Calls Tryz.prog 135 #[.string s, .string p] w fun e w' => e = .returned (.string ⟨(Lib.trimPrefix s.data.toList p.data.toList).toArray⟩) ∧ w' = w := Any.strings_TrimPrefix Tryz.lays101 s p w
def Tryz.lays146_ren : Go.Shelf.Ren := ⟨fun | 146 => 76 | 221 => 133 | 268 => 184 | 138 => 185 | 143 => 186 | 195 => 229 | 197 => 230 | 218 => 231 | 219 => 232 | 260 => 252 | 217 => 253 | 225 => 254 | 224 => 255 | 267 => 256 | 266 => 275 | 314 => 276 | n => n, fun | 9 => 9 | 31 => 175 | 3 => 3 | 4 => 4 | 0 => 0 | 105 => 364 | 21 => 21 | 5 => 5 | 46 => 229 | 119 => 402 | 139 => 405 | 138 => 404 | 146 => 406 | 51 => 23 | n => n, fun | 1 => 3 | 3 => 6 | 4 => 7 | n => n⟩
theorem Tryz.lays146 : Go.Proofs.Lays.n146 Tryz.prog Tryz.lays146_ren := {
  mixed := by kernel_rfl
  f138 := Tryz.func185.trans (congrArg some (by kernel_rfl))
  f143 := Tryz.func186.trans (congrArg some (by kernel_rfl))
  f146 := Tryz.func76.trans (congrArg some (by kernel_rfl))
  f195 := Tryz.func229.trans (congrArg some (by kernel_rfl))
  f197 := Tryz.func230.trans (congrArg some (by kernel_rfl))
  f217 := Tryz.func253.trans (congrArg some (by kernel_rfl))
  f218 := Tryz.func231.trans (congrArg some (by kernel_rfl))
  f219 := Tryz.func232.trans (congrArg some (by kernel_rfl))
  f221 := Tryz.func133.trans (congrArg some (by kernel_rfl))
  f224 := Tryz.func255.trans (congrArg some (by kernel_rfl))
  f225 := Tryz.func254.trans (congrArg some (by kernel_rfl))
  f260 := Tryz.func252.trans (congrArg some (by kernel_rfl))
  f266 := Tryz.func275.trans (congrArg some (by kernel_rfl))
  f267 := Tryz.func256.trans (congrArg some (by kernel_rfl))
  f268 := Tryz.func184.trans (congrArg some (by kernel_rfl))
  f314 := Tryz.func276.trans (congrArg some (by kernel_rfl))
  t0 := Tryz.underlying0
  a0 := Tryz.isAgg0
  z0 := Tryz.sizeOf0
  v0 := Tryz.zeroValue0
  t3 := Tryz.underlying3
  a3 := Tryz.isAgg3
  z3 := Tryz.sizeOf3
  v3 := Tryz.zeroValue3
  t4 := Tryz.underlying4
  a4 := Tryz.isAgg4
  z4 := Tryz.sizeOf4
  v4 := Tryz.zeroValue4
  t5 := Tryz.underlying5
  a5 := Tryz.isAgg5
  z5 := Tryz.sizeOf5
  v5 := Tryz.zeroValue5
  t9 := Tryz.underlying9
  a9 := Tryz.isAgg9
  z9 := Tryz.sizeOf9
  v9 := Tryz.zeroValue9
  t21 := Tryz.underlying21
  a21 := Tryz.isAgg21
  z21 := Tryz.sizeOf21
  v21 := Tryz.zeroValue21
  t31 := Tryz.underlying175
  a31 := Tryz.isAgg175
  z31 := Tryz.sizeOf175
  v31 := Tryz.zeroValue175
  t46 := Tryz.underlying229
  a46 := Tryz.isAgg229
  z46 := Tryz.sizeOf229
  v46 := Tryz.zeroValue229
  t51 := Tryz.underlying23
  a51 := Tryz.isAgg23
  z51 := Tryz.sizeOf23
  v51 := Tryz.zeroValue23
  t105 := Tryz.underlying364
  a105 := Tryz.isAgg364
  z105 := Tryz.sizeOf364
  v105 := Tryz.zeroValue364
  t119 := Tryz.underlying402
  a119 := Tryz.isAgg402
  z119 := Tryz.sizeOf402
  t138 := Tryz.underlying404
  a138 := Tryz.isAgg404
  z138 := Tryz.sizeOf404
  v138 := Tryz.zeroValue404
  t139 := Tryz.underlying405
  a139 := Tryz.isAgg405
  z139 := Tryz.sizeOf405
  v139 := Tryz.zeroValue405
  t146 := Tryz.underlying406
  a146 := Tryz.isAgg406
  z146 := Tryz.sizeOf406
  v146 := Tryz.zeroValue406
  g1 := by kernel_rfl
  g3 := by kernel_rfl
  g4 := by kernel_rfl }
open Go.RowKit Go.Lib in
theorem Tryz.strings_Split (s sep : ByteArray) (m : Int) (w : World) (hs : s.size < 4294967281) (hm : w.cell? ⟨3, 0, none⟩ = some (.int .i64 m)) (h1 : 1 ≤ sep.size) :
    Calls Tryz.prog 76 #[.string s, .string sep] w fun e w' =>
      e = .returned (.slice (some ⟨w.heap.size, 0, none⟩) (Lib.countB s sep + 1) (Lib.countB s sep + 1)) ∧ w' = w.alloc (.cells ((Lib.splitB sep 0 (Lib.countB s sep) s).map Value.string).toArray 9) := Any.strings_Split Tryz.lays146 (by kernel_rfl) s sep m w hs hm h1
def Tryz.lays264_ren : Go.Shelf.Ren := ⟨fun | 264 => 247 | n => n, fun | 53 => 42 | 46 => 229 | n => n, fun | n => n⟩
theorem Tryz.lays264 : Go.Proofs.Lays.n264 Tryz.prog Tryz.lays264_ren := {
  mixed := by kernel_rfl
  f264 := Tryz.func247.trans (congrArg some (by kernel_rfl))
  t46 := Tryz.underlying229
  a46 := Tryz.isAgg229
  z46 := Tryz.sizeOf229
  v46 := Tryz.zeroValue229
  t53 := Tryz.underlying42
  a53 := Tryz.isAgg42
  z53 := Tryz.sizeOf42
  v53 := Tryz.zeroValue42 }
open Go.RowKit Go.Lib in
theorem Tryz.bits_Mul64 (x y : Nat) (hx : x < 18446744073709551616) (hy : y < 18446744073709551616) (w : World) :
    Calls Tryz.prog 247 #[.int .u64 x, .int .u64 y] w fun e w' => e = .returned (.tuple #[.int .u64 ((x * y / 18446744073709551616 : Nat) : Int), .int .u64 ((x * y % 18446744073709551616 : Nat) : Int)]) ∧ w' = w := Any.bits_Mul64 Tryz.lays264 x y hx hy w
end Go.Proofs
set_option linter.unusedVariables false
set_option linter.unusedSimpArgs false
namespace Go.Wk
section
variable {α : Type} {f : α → List Value} {sz : Nat}
def flatL (f : α → List Value) : List α → List Value
  | [] => []
  | x :: r => f x ++ flatL f r
theorem flatL_len (h : ∀ x, (f x).length = sz) : ∀ xs : List α, (flatL f xs).length = xs.length * sz
  | [] => by simp [flatL]
  | x :: r => by rw [flatL, List.length_append, h, flatL_len h r, List.length_cons, Nat.add_mul, Nat.one_mul, Nat.add_comm]
theorem flatL_app : ∀ a b : List α, flatL f (a ++ b) = flatL f a ++ flatL f b
  | [], _ => rfl
  | x :: a, b => by simp [flatL, flatL_app a b]
theorem flatL_snoc (a : List α) (x : α) : flatL f (a ++ [x]) = flatL f a ++ f x := by rw [flatL_app]; simp [flatL]
theorem flatL_at (h : ∀ x, (f x).length = sz) : ∀ {xs : List α} {i : Nat} {x : α}, xs[i]? = some x → ((flatL f xs).drop (i * sz)).take sz = f x
  | [], i, x, e => by simp at e
  | y :: r, 0, x, e => by
    simp only [List.getElem?_cons_zero, Option.some.injEq] at e
    subst e
    rw [Nat.zero_mul, List.drop_zero, flatL, ← h y, List.take_left]
  | y :: r, i + 1, x, e => by
    rw [flatL, Nat.add_mul, Nat.one_mul, Nat.add_comm (i * sz), ← List.drop_drop, ← h y, List.drop_left, h y]
    exact flatL_at h (by simpa using e)
end
section
variable {B : Base} {S S' : List Asn} {F : List Fact} {w : World}
/-- A row of plain structs that nobody turns any more reads asx a list. -/
theorem Hp.frzFlat {α : Type} (H : Hp B S F w) (sz : Nat) (f : α → List Value) (hf : ∀ x, (f x).length = sz) (ok : α → Prop) {v : Value} {e n : Nat} {xs : List α} [h1 : TakeR S v e sz n (flatL f xs) S'] (hM : ∀ b, ¬ B.M b) (hp : 0 < sz) (hok : ∀ x, x ∈ xs → ok x) :
    Hp B S' (Sl (⟨sz, Unit, fun x _ => f x, fun x _ => ok x, fun _ _ => [], fun x _ => hf x⟩ : Rp α) v xs :: F) w := by
  have h := H.addCl (⟨sz, Unit, fun x _ => f x, fun x _ => ok x, fun _ _ => [], fun x _ => hf x⟩ : Rp α) (cs := flatL f xs) (xs := xs) (flatL_len hf xs) (fun i x hx => ⟨(), hok x (List.mem_of_getElem? hx), flatL_at hf hx, rfl⟩)
  have h2 := Hp.frzRow (v := v) (xs := xs) h (⟨sz, Unit, fun x _ => f x, fun x _ => ok x, fun _ _ => [], fun x _ => hf x⟩ : Rp α) hM rfl hp
  exact h2.facts fun I ha g hg => by
    rcases List.mem_cons.1 hg with rfl | hg
    · exact ha _ List.mem_cons_self
    · exact ha _ (List.mem_cons_of_mem _ (List.mem_cons_of_mem _ hg))
end
end Go.Wk
