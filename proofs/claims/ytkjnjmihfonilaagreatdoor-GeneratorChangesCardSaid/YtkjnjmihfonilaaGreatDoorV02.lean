/- Part 2 of the proof of the claim: contracts of the functions that it reaches, and plain laws; no condition. -/
import Derived.Shelf.Strconv.Atoi
import Derived.Shelf.Strconv.Itoa0
import Derived.Shelf.Strconv.Itoa1
import Derived.Shelf.LaysM
import Derived.Shelf.Strconv.Itoa2
import Derived.Shelf.Strconv.Itoa3
import Derived.Shelf.Strconv.AtoiErrFast
import Derived.Shelf.Strconv.ParseIntEmpty
import Derived.Shelf.Strconv.AtoiFail
import Derived.Shelf.Strconv.Clone
import Derived.Shelf.Strconv.SyntaxError
import Derived.Shelf.LaysC
import Derived.Shelf.Strconv.ToError
import Derived.Shelf.Strconv.Lower
import Derived.Shelf.Strconv.ParseUint10
import Derived.Shelf.Strconv.ParseUint10Empty
import Derived.Shelf.Strconv.ParseUint10Any
import Derived.Shelf.Strconv.ParseInt10
import Derived.Shelf.Strconv.AtoiLong
import Derived.Shelf.Strconv.AtoiInnerAll
import Derived.Shelf.Strconv.RangeError
import Derived.Shelf.Strconv.ToErrorRange
import Derived.Shelf.Strconv.AtoiAll
import Derived.Shelf.Strconv.ErrVarAll
import Derived.Shelf.Strconv.ParseUintEmpty
import Derived.Shelf.Strconv.ParseUint10b64
import Derived.Shelf.Strconv.ParseUint10b32
import Derived.Shelf.Strconv.ParseUint10b16
import Derived.Shelf.Strconv.ParseUint10b8
import Derived.Shelf.Strconv.ParseUint10At
import Derived.Shelf.Strconv.ParseInt10At64
import Derived.Shelf.Strconv.ParseInt10At32
import Derived.Shelf.Strconv.ParseInt10At16
import Derived.Shelf.Strconv.ParseInt10At8
import Derived.Shelf.Strconv.ParseInt10All
import Derived.Shelf.Strconv.ParseIntPublic10
import Derived.Shelf.Strconv.ErrVarParseInt
import Derived.Ground.MpProg
import Derived.Shelf.Pu.ParseUintPublic10
import Derived.Shelf.Pu.ErrVarParseUint
import Derived.Shelf.Bits.Mul64
import Derived.Test.YtkjnjmihfonilaaGreatDoorProg
import Derived.Test.YtkjnjmihfonilaaGreatDoorV01
namespace Go.Proofs
open Go.Shelf Go.RowKit Go.Sort Go.Lib
def Tryz.lays283_ren : Go.Shelf.Ren := ⟨fun | 283 => 188 | n => n, fun | 3 => 3 | 9 => 9 | 4 => 4 | n => n, fun | n => n⟩
theorem Tryz.lays283 : Go.Proofs.Lays.n283 Tryz.prog Tryz.lays283_ren := {
  mixed := by kernel_rfl
  f283 := Tryz.func188.trans (congrArg some (by kernel_rfl))
  t3 := Tryz.underlying3
  a3 := Tryz.isAgg3
  z3 := Tryz.sizeOf3
  v3 := Tryz.zeroValue3
  t4 := Tryz.underlying4
  a4 := Tryz.isAgg4
  z4 := Tryz.sizeOf4
  v4 := Tryz.zeroValue4
  t9 := Tryz.underlying9
  a9 := Tryz.isAgg9
  z9 := Tryz.sizeOf9
  v9 := Tryz.zeroValue9 }
theorem Tryz.internal_strconv_small (i : Nat) (h : i < 100) (w : World) :
    Calls Tryz.prog 188 #[.int .i64 i] w fun e w' => e = .returned (.string ⟨(Lib.decDigits i).toArray⟩) ∧ w' = w := Any.internal_strconv_small Tryz.lays283 i h w
def Tryz.laysM284_ren : Go.Shelf.Ren := ⟨fun | 284 => 189 | 129 => 159 | 317 => 203 | 318 => 204 | n => n, fun | 53 => 126 | 3 => 3 | 212 => 260 | 0 => 0 | 4 => 4 | 46 => 175 | 5 => 5 | 9 => 9 | n => n, fun | 17 => 2 | n => n⟩
theorem Tryz.laysM284 : Go.Proofs.LaysM.n284 Tryz.prog Tryz.laysM284_ren := {
  mixed := by kernel_rfl
  f129 := Tryz.func159.trans (congrArg some (by kernel_rfl))
  f284 := Tryz.func189.trans (congrArg some (by kernel_rfl))
  f317 := Tryz.func203.trans (congrArg some (by kernel_rfl))
  f318 := Tryz.func204.trans (congrArg some (by kernel_rfl))
  t0 := Tryz.underlying0
  a0 := Tryz.isAgg0
  z0 := Tryz.sizeOf0
  v0 := Tryz.zeroValue0
  t3 := Tryz.underlying3
  a3 := Tryz.isAgg3
  z3 := Tryz.sizeOf3
  v3 := Tryz.zeroValue3
  t4 := Tryz.underlying4
  a4 := Tryz.isAgg4
  z4 := Tryz.sizeOf4
  v4 := Tryz.zeroValue4
  t5 := Tryz.underlying5
  a5 := Tryz.isAgg5
  z5 := Tryz.sizeOf5
  v5 := Tryz.zeroValue5
  t9 := Tryz.underlying9
  a9 := Tryz.isAgg9
  z9 := Tryz.sizeOf9
  v9 := Tryz.zeroValue9
  t46 := Tryz.underlying175
  a46 := Tryz.isAgg175
  z46 := Tryz.sizeOf175
  v46 := Tryz.zeroValue175
  t53 := Tryz.underlying126
  a53 := Tryz.isAgg126
  z53 := Tryz.sizeOf126
  v53 := Tryz.zeroValue126
  t212 := Tryz.underlying260
  a212 := Tryz.isAgg260
  z212 := Tryz.sizeOf260
  v212 := Tryz.zeroValue260
  g17 := by kernel_rfl
  i0 := by kernel_rfl
  i3 := by kernel_rfl
  i4 := by kernel_rfl
  i5 := by kernel_rfl
  i9 := by kernel_rfl
  i46 := by kernel_rfl
  i53 := by kernel_rfl
  i212 := by kernel_rfl
  m17 := by kernel_rfl }
theorem Tryz.internal_strconv_numDigits (u : Nat) (h1 : 1 ≤ u) (h2 : u < 18446744073709551616) (w : World) (htab : Lib.TabIs Tryz.prog w "internal/strconv.uint64pow10" .u64 Lib.pow10Tab) :
    Calls Tryz.prog 189 #[.int .u64 u] w fun e w' => e = .returned (.int .i64 (Lib.nDigits u)) ∧ w' = w := Any.internal_strconv_numDigits Tryz.laysM284 u h1 h2 w htab
def Tryz.lays285_ren : Go.Shelf.Ren := ⟨fun | 285 => 190 | n => n, fun | 37 => 212 | 53 => 126 | 3 => 3 | 4 => 4 | 51 => 229 | 9 => 9 | 5 => 5 | 0 => 0 | n => n, fun | n => n⟩
theorem Tryz.lays285 : Go.Proofs.Lays.n285 Tryz.prog Tryz.lays285_ren := {
  mixed := by kernel_rfl
  f285 := Tryz.func190.trans (congrArg some (by kernel_rfl))
  t0 := Tryz.underlying0
  a0 := Tryz.isAgg0
  z0 := Tryz.sizeOf0
  v0 := Tryz.zeroValue0
  t3 := Tryz.underlying3
  a3 := Tryz.isAgg3
  z3 := Tryz.sizeOf3
  v3 := Tryz.zeroValue3
  t4 := Tryz.underlying4
  a4 := Tryz.isAgg4
  z4 := Tryz.sizeOf4
  v4 := Tryz.zeroValue4
  t5 := Tryz.underlying5
  a5 := Tryz.isAgg5
  z5 := Tryz.sizeOf5
  v5 := Tryz.zeroValue5
  t9 := Tryz.underlying9
  a9 := Tryz.isAgg9
  z9 := Tryz.sizeOf9
  v9 := Tryz.zeroValue9
  t37 := Tryz.underlying212
  a37 := Tryz.isAgg212
  z37 := Tryz.sizeOf212
  v37 := Tryz.zeroValue212
  t51 := Tryz.underlying229
  a51 := Tryz.isAgg229
  z51 := Tryz.sizeOf229
  v51 := Tryz.zeroValue229
  t53 := Tryz.underlying126
  a53 := Tryz.isAgg126
  z53 := Tryz.sizeOf126
  v53 := Tryz.zeroValue126 }
theorem Tryz.internal_strconv_formatBase10 (blk off cap : Nat) (u : Nat) (d : Array UInt8) (w : World) (hH : Holds (fun (b : UInt8) => Value.int .u8 (b.toNat : Int)) w blk off d) (hu : u < 10 ^ d.size) (hu64 : u < 18446744073709551616) (hsz : d.size < 4611686018427387904) :
    Calls Tryz.prog 190 #[.slice (some ⟨blk, off, none⟩) d.size cap, .int .u64 u] w fun e w' =>
      e = .returned (.tuple #[]) ∧ ∃ (n v' : Nat) (dk : Array UInt8), w' = (putRow (fun (b : UInt8) => Value.int .u8 (b.toNat : Int)) w blk off dk).drewN n ∧ FmtInv d.size u 0 v' dk := Any.internal_strconv_formatBase10 Tryz.lays285 blk off cap u d w hH hu hu64 hsz
def Tryz.laysM171_ren : Go.Shelf.Ren := ⟨fun | 171 => 130 | 243 => 163 | 246 => 192 | 283 => 188 | 284 => 189 | 285 => 190 | 286 => 191 | 129 => 159 | 317 => 203 | 318 => 204 | 319 => 205 | 320 => 206 | 337 => 207 | 338 => 208 | n => n, fun | 3 => 3 | 9 => 9 | 2 => 2 | 4 => 4 | 171 => 242 | 0 => 0 | 53 => 126 | 37 => 212 | 5 => 5 | 173 => 244 | 212 => 260 | 51 => 229 | 20 => 20 | 213 => 261 | 46 => 175 | 232 => 268 | 233 => 269 | n => n, fun | 17 => 2 | 18 => 3 | 19 => 4 | n => n⟩
theorem Tryz.laysM171 : Go.Proofs.LaysM.n171 Tryz.prog Tryz.laysM171_ren := {
  mixed := by kernel_rfl
  f129 := Tryz.func159.trans (congrArg some (by kernel_rfl))
  f171 := Tryz.func130.trans (congrArg some (by kernel_rfl))
  f243 := Tryz.func163.trans (congrArg some (by kernel_rfl))
  f246 := Tryz.func192.trans (congrArg some (by kernel_rfl))
  f283 := Tryz.func188.trans (congrArg some (by kernel_rfl))
  f284 := Tryz.func189.trans (congrArg some (by kernel_rfl))
  f285 := Tryz.func190.trans (congrArg some (by kernel_rfl))
  f286 := Tryz.func191.trans (congrArg some (by kernel_rfl))
  f317 := Tryz.func203.trans (congrArg some (by kernel_rfl))
  f318 := Tryz.func204.trans (congrArg some (by kernel_rfl))
  f319 := Tryz.func205.trans (congrArg some (by kernel_rfl))
  f320 := Tryz.func206.trans (congrArg some (by kernel_rfl))
  f337 := Tryz.func207.trans (congrArg some (by kernel_rfl))
  f338 := Tryz.func208.trans (congrArg some (by kernel_rfl))
  t0 := Tryz.underlying0
  a0 := Tryz.isAgg0
  z0 := Tryz.sizeOf0
  v0 := Tryz.zeroValue0
  t2 := Tryz.underlying2
  a2 := Tryz.isAgg2
  z2 := Tryz.sizeOf2
  v2 := Tryz.zeroValue2
  t3 := Tryz.underlying3
  a3 := Tryz.isAgg3
  z3 := Tryz.sizeOf3
  v3 := Tryz.zeroValue3
  t4 := Tryz.underlying4
  a4 := Tryz.isAgg4
  z4 := Tryz.sizeOf4
  v4 := Tryz.zeroValue4
  t5 := Tryz.underlying5
  a5 := Tryz.isAgg5
  z5 := Tryz.sizeOf5
  v5 := Tryz.zeroValue5
  t9 := Tryz.underlying9
  a9 := Tryz.isAgg9
  z9 := Tryz.sizeOf9
  v9 := Tryz.zeroValue9
  t20 := Tryz.underlying20
  a20 := Tryz.isAgg20
  z20 := Tryz.sizeOf20
  v20 := Tryz.zeroValue20
  t37 := Tryz.underlying212
  a37 := Tryz.isAgg212
  z37 := Tryz.sizeOf212
  v37 := Tryz.zeroValue212
  t46 := Tryz.underlying175
  a46 := Tryz.isAgg175
  z46 := Tryz.sizeOf175
  v46 := Tryz.zeroValue175
  t51 := Tryz.underlying229
  a51 := Tryz.isAgg229
  z51 := Tryz.sizeOf229
  v51 := Tryz.zeroValue229
  t53 := Tryz.underlying126
  a53 := Tryz.isAgg126
  z53 := Tryz.sizeOf126
  v53 := Tryz.zeroValue126
  t171 := Tryz.underlying242
  a171 := Tryz.isAgg242
  z171 := Tryz.sizeOf242
  v171 := Tryz.zeroValue242
  t173 := Tryz.underlying244
  a173 := Tryz.isAgg244
  z173 := Tryz.sizeOf244
  v173 := Tryz.zeroValue244
  t212 := Tryz.underlying260
  a212 := Tryz.isAgg260
  z212 := Tryz.sizeOf260
  v212 := Tryz.zeroValue260
  t213 := Tryz.underlying261
  a213 := Tryz.isAgg261
  z213 := Tryz.sizeOf261
  t232 := Tryz.underlying268
  a232 := Tryz.isAgg268
  z232 := Tryz.sizeOf268
  v232 := Tryz.zeroValue268
  t233 := Tryz.underlying269
  a233 := Tryz.isAgg269
  z233 := Tryz.sizeOf269
  v233 := Tryz.zeroValue269
  g17 := by kernel_rfl
  g18 := by kernel_rfl
  g19 := by kernel_rfl
  i0 := by kernel_rfl
  i2 := by kernel_rfl
  i3 := by kernel_rfl
  i4 := by kernel_rfl
  i5 := by kernel_rfl
  i9 := by kernel_rfl
  i20 := by kernel_rfl
  i37 := by kernel_rfl
  i46 := by kernel_rfl
  i51 := by kernel_rfl
  i53 := by kernel_rfl
  i171 := by kernel_rfl
  i173 := by kernel_rfl
  i212 := by kernel_rfl
  i232 := by kernel_rfl
  i233 := by kernel_rfl
  m17 := by kernel_rfl
  m18 := by kernel_rfl
  m19 := by kernel_rfl }
theorem Tryz.strconv_Itoa (n : Int) (h0 : -9223372036854775808 ≤ n) (h1 : n ≤ 9223372036854775807) (w : World) (htab : Lib.TabIs Tryz.prog w "internal/strconv.uint64pow10" .u64 Lib.pow10Tab) :
    Calls Tryz.prog 130 #[.int .i64 n] w fun e w' => e = .returned (.string ⟨(Lib.itoa n).toArray⟩) ∧ ∃ k os, w' = grow (w.drewN k) os := Any.strconv_Itoa Tryz.laysM171 n h0 h1 w htab
def Tryz.laysC172_ren : Go.Shelf.Ren := ⟨fun | 172 => 131 | 244 => 164 | 245 => 135 | 247 => 134 | 279 => 168 | 280 => 169 | 281 => 170 | 282 => 171 | 287 => 167 | 316 => 195 | 171 => 130 | 205 => 196 | 321 => 193 | 322 => 194 | 243 => 163 | 246 => 192 | 283 => 188 | 284 => 189 | 285 => 190 | 286 => 191 | 129 => 159 | 317 => 203 | 318 => 204 | 319 => 205 | 320 => 206 | 337 => 207 | 338 => 208 | n => n, fun | 9 => 9 | 3 => 3 | 75 => 134 | 76 => 182 | 4 => 4 | 5 => 5 | 167 => 217 | 37 => 212 | 0 => 0 | 85 => 135 | 2 => 2 | 168 => 220 | 53 => 126 | 175 => 218 | 46 => 175 | 210 => 251 | 127 => 263 | 145 => 266 | 143 => 264 | 21 => 21 | 171 => 242 | 173 => 244 | 212 => 260 | 51 => 229 | 20 => 20 | 213 => 261 | 232 => 268 | 233 => 269 | 80 => 270 | n => n, fun | 15 => 0 | 16 => 1 | 17 => 2 | 18 => 3 | 19 => 4 | n => n⟩
theorem Tryz.laysC172 : Go.Proofs.LaysC.n172 Tryz.prog Tryz.laysC172_ren := {
  mixed := by kernel_rfl
  f129 := Tryz.func159.trans (congrArg some (by kernel_rfl))
  f171 := Tryz.func130.trans (congrArg some (by kernel_rfl))
  f172 := Tryz.func131.trans (congrArg some (by kernel_rfl))
  f205 := Tryz.func196.trans (congrArg some (by kernel_rfl))
  f243 := Tryz.func163.trans (congrArg some (by kernel_rfl))
  f244 := Tryz.func164.trans (congrArg some (by kernel_rfl))
  f245 := Tryz.func135.trans (congrArg some (by kernel_rfl))
  f246 := Tryz.func192.trans (congrArg some (by kernel_rfl))
  f247 := Tryz.func134.trans (congrArg some (by kernel_rfl))
  f279 := Tryz.func168.trans (congrArg some (by kernel_rfl))
  f280 := Tryz.func169.trans (congrArg some (by kernel_rfl))
  f281 := Tryz.func170.trans (congrArg some (by kernel_rfl))
  f282 := Tryz.func171.trans (congrArg some (by kernel_rfl))
  f283 := Tryz.func188.trans (congrArg some (by kernel_rfl))
  f284 := Tryz.func189.trans (congrArg some (by kernel_rfl))
  f285 := Tryz.func190.trans (congrArg some (by kernel_rfl))
  f286 := Tryz.func191.trans (congrArg some (by kernel_rfl))
  f287 := Tryz.func167.trans (congrArg some (by kernel_rfl))
  f316 := Tryz.func195.trans (congrArg some (by kernel_rfl))
  f317 := Tryz.func203.trans (congrArg some (by kernel_rfl))
  f318 := Tryz.func204.trans (congrArg some (by kernel_rfl))
  f319 := Tryz.func205.trans (congrArg some (by kernel_rfl))
  f320 := Tryz.func206.trans (congrArg some (by kernel_rfl))
  f321 := Tryz.func193.trans (congrArg some (by kernel_rfl))
  f322 := Tryz.func194.trans (congrArg some (by kernel_rfl))
  f337 := Tryz.func207.trans (congrArg some (by kernel_rfl))
  f338 := Tryz.func208.trans (congrArg some (by kernel_rfl))
  t0 := Tryz.underlying0
  a0 := Tryz.isAgg0
  z0 := Tryz.sizeOf0
  v0 := Tryz.zeroValue0
  t2 := Tryz.underlying2
  a2 := Tryz.isAgg2
  z2 := Tryz.sizeOf2
  v2 := Tryz.zeroValue2
  t3 := Tryz.underlying3
  a3 := Tryz.isAgg3
  z3 := Tryz.sizeOf3
  v3 := Tryz.zeroValue3
  t4 := Tryz.underlying4
  a4 := Tryz.isAgg4
  z4 := Tryz.sizeOf4
  v4 := Tryz.zeroValue4
  t5 := Tryz.underlying5
  a5 := Tryz.isAgg5
  z5 := Tryz.sizeOf5
  v5 := Tryz.zeroValue5
  t9 := Tryz.underlying9
  a9 := Tryz.isAgg9
  z9 := Tryz.sizeOf9
  v9 := Tryz.zeroValue9
  t20 := Tryz.underlying20
  a20 := Tryz.isAgg20
  z20 := Tryz.sizeOf20
  v20 := Tryz.zeroValue20
  t21 := Tryz.underlying21
  a21 := Tryz.isAgg21
  z21 := Tryz.sizeOf21
  v21 := Tryz.zeroValue21
  t37 := Tryz.underlying212
  a37 := Tryz.isAgg212
  z37 := Tryz.sizeOf212
  v37 := Tryz.zeroValue212
  t46 := Tryz.underlying175
  a46 := Tryz.isAgg175
  z46 := Tryz.sizeOf175
  v46 := Tryz.zeroValue175
  t51 := Tryz.underlying229
  a51 := Tryz.isAgg229
  z51 := Tryz.sizeOf229
  v51 := Tryz.zeroValue229
  t53 := Tryz.underlying126
  a53 := Tryz.isAgg126
  z53 := Tryz.sizeOf126
  v53 := Tryz.zeroValue126
  t75 := Tryz.underlying134
  a75 := Tryz.isAgg134
  z75 := Tryz.sizeOf134
  v75 := Tryz.zeroValue134
  t76 := Tryz.underlying182
  a76 := Tryz.isAgg182
  z76 := Tryz.sizeOf182
  v76 := Tryz.zeroValue182
  t85 := Tryz.underlying135
  a85 := Tryz.isAgg135
  z85 := Tryz.sizeOf135
  v85 := Tryz.zeroValue135
  t127 := Tryz.underlying263
  a127 := Tryz.isAgg263
  z127 := Tryz.sizeOf263
  v127 := Tryz.zeroValue263
  t143 := Tryz.underlying264
  a143 := Tryz.isAgg264
  z143 := Tryz.sizeOf264
  v143 := Tryz.zeroValue264
  t145 := Tryz.underlying266
  a145 := Tryz.isAgg266
  z145 := Tryz.sizeOf266
  v145 := Tryz.zeroValue266
  t167 := Tryz.underlying217
  a167 := Tryz.isAgg217
  z167 := Tryz.sizeOf217
  v167 := Tryz.zeroValue217
  t168 := Tryz.underlying220
  a168 := Tryz.isAgg220
  z168 := Tryz.sizeOf220
  v168 := Tryz.zeroValue220
  t171 := Tryz.underlying242
  a171 := Tryz.isAgg242
  z171 := Tryz.sizeOf242
  v171 := Tryz.zeroValue242
  t173 := Tryz.underlying244
  a173 := Tryz.isAgg244
  z173 := Tryz.sizeOf244
  v173 := Tryz.zeroValue244
  t175 := Tryz.underlying218
  a175 := Tryz.isAgg218
  z175 := Tryz.sizeOf218
  v175 := Tryz.zeroValue218
  t210 := Tryz.underlying251
  a210 := Tryz.isAgg251
  z210 := Tryz.sizeOf251
  v210 := Tryz.zeroValue251
  t212 := Tryz.underlying260
  a212 := Tryz.isAgg260
  z212 := Tryz.sizeOf260
  v212 := Tryz.zeroValue260
  t213 := Tryz.underlying261
  a213 := Tryz.isAgg261
  z213 := Tryz.sizeOf261
  t232 := Tryz.underlying268
  a232 := Tryz.isAgg268
  z232 := Tryz.sizeOf268
  v232 := Tryz.zeroValue268
  t233 := Tryz.underlying269
  a233 := Tryz.isAgg269
  z233 := Tryz.sizeOf269
  v233 := Tryz.zeroValue269
  g15 := by kernel_rfl
  g16 := by kernel_rfl
  g17 := by kernel_rfl
  g18 := by kernel_rfl
  g19 := by kernel_rfl
  t80 := Tryz.underlying270
  a80 := Tryz.isAgg270
  z80 := Tryz.sizeOf270
  v80 := Tryz.zeroValue270
  i0 := by kernel_rfl
  i2 := by kernel_rfl
  i3 := by kernel_rfl
  i4 := by kernel_rfl
  i5 := by kernel_rfl
  i9 := by kernel_rfl
  i20 := by kernel_rfl
  i21 := by kernel_rfl
  i37 := by kernel_rfl
  i46 := by kernel_rfl
  i51 := by kernel_rfl
  i53 := by kernel_rfl
  i75 := by kernel_rfl
  i76 := by kernel_rfl
  i80 := by kernel_rfl
  i85 := by kernel_rfl
  i127 := by kernel_rfl
  i143 := by kernel_rfl
  i145 := by kernel_rfl
  i167 := by kernel_rfl
  i168 := by kernel_rfl
  i171 := by kernel_rfl
  i173 := by kernel_rfl
  i175 := by kernel_rfl
  i210 := by kernel_rfl
  i212 := by kernel_rfl
  i232 := by kernel_rfl
  i233 := by kernel_rfl
  m15 := by kernel_rfl
  m16 := by kernel_rfl
  m17 := by kernel_rfl
  m18 := by kernel_rfl
  m19 := by kernel_rfl
  c0 := by kernel_rfl
  c2 := by kernel_rfl
  c3 := by kernel_rfl
  c4 := by kernel_rfl
  c5 := by kernel_rfl
  c9 := by kernel_rfl
  c20 := by kernel_rfl
  c21 := by kernel_rfl
  c37 := by kernel_rfl
  c46 := by kernel_rfl
  c51 := by kernel_rfl
  c53 := by kernel_rfl
  c75 := by kernel_rfl
  c76 := by kernel_rfl
  c80 := by kernel_rfl
  c85 := by kernel_rfl
  c127 := by kernel_rfl
  c143 := by kernel_rfl
  c145 := by kernel_rfl
  c167 := by kernel_rfl
  c168 := by kernel_rfl
  c171 := by kernel_rfl
  c173 := by kernel_rfl
  c175 := by kernel_rfl
  c210 := by kernel_rfl
  c212 := by kernel_rfl
  c213 := by kernel_rfl
  c232 := by kernel_rfl
  c233 := by kernel_rfl }
theorem Tryz.strconv_Atoi_ok (s : ByteArray) (hmax : s.size ≤ 9223372036854775806) (v : Int) (h : Lib.atoiAll s.data.toList = .ok v) (w : World) :
    Calls Tryz.prog 131 #[.string s] w fun e w' => e = .returned (.tuple #[.int .i64 v, .nilIface]) ∧ (w' = w ∨ ∃ t, w' = Lib.bytesWorld w 5 t) := Any.strconv_Atoi_ok Tryz.laysC172 s hmax v h w
def Tryz.laysC174_ren : Go.Shelf.Ren := ⟨fun | 174 => 89 | 247 => 134 | 245 => 135 | 287 => 167 | 279 => 168 | 280 => 169 | 281 => 170 | 282 => 171 | 321 => 193 | 322 => 194 | 316 => 195 | 171 => 130 | 205 => 196 | 243 => 163 | 246 => 192 | 283 => 188 | 284 => 189 | 285 => 190 | 286 => 191 | 129 => 159 | 317 => 203 | 318 => 204 | 319 => 205 | 320 => 206 | 337 => 207 | 338 => 208 | n => n, fun | 9 => 9 | 3 => 3 | 2 => 2 | 75 => 134 | 85 => 135 | 4 => 4 | 167 => 217 | 5 => 5 | 53 => 126 | 175 => 218 | 46 => 175 | 168 => 220 | 37 => 212 | 0 => 0 | 210 => 251 | 21 => 21 | 127 => 263 | 145 => 266 | 143 => 264 | 171 => 242 | 173 => 244 | 212 => 260 | 51 => 229 | 20 => 20 | 213 => 261 | 232 => 268 | 233 => 269 | 80 => 270 | n => n, fun | 15 => 0 | 16 => 1 | 17 => 2 | 18 => 3 | 19 => 4 | n => n⟩
theorem Tryz.laysC174 : Go.Proofs.LaysC.n174 Tryz.prog Tryz.laysC174_ren := {
  mixed := by kernel_rfl
  f129 := Tryz.func159.trans (congrArg some (by kernel_rfl))
  f171 := Tryz.func130.trans (congrArg some (by kernel_rfl))
  f174 := Tryz.func89.trans (congrArg some (by kernel_rfl))
  f205 := Tryz.func196.trans (congrArg some (by kernel_rfl))
  f243 := Tryz.func163.trans (congrArg some (by kernel_rfl))
  f245 := Tryz.func135.trans (congrArg some (by kernel_rfl))
  f246 := Tryz.func192.trans (congrArg some (by kernel_rfl))
  f247 := Tryz.func134.trans (congrArg some (by kernel_rfl))
  f279 := Tryz.func168.trans (congrArg some (by kernel_rfl))
  f280 := Tryz.func169.trans (congrArg some (by kernel_rfl))
  f281 := Tryz.func170.trans (congrArg some (by kernel_rfl))
  f282 := Tryz.func171.trans (congrArg some (by kernel_rfl))
  f283 := Tryz.func188.trans (congrArg some (by kernel_rfl))
  f284 := Tryz.func189.trans (congrArg some (by kernel_rfl))
  f285 := Tryz.func190.trans (congrArg some (by kernel_rfl))
  f286 := Tryz.func191.trans (congrArg some (by kernel_rfl))
  f287 := Tryz.func167.trans (congrArg some (by kernel_rfl))
  f316 := Tryz.func195.trans (congrArg some (by kernel_rfl))
  f317 := Tryz.func203.trans (congrArg some (by kernel_rfl))
  f318 := Tryz.func204.trans (congrArg some (by kernel_rfl))
  f319 := Tryz.func205.trans (congrArg some (by kernel_rfl))
  f320 := Tryz.func206.trans (congrArg some (by kernel_rfl))
  f321 := Tryz.func193.trans (congrArg some (by kernel_rfl))
  f322 := Tryz.func194.trans (congrArg some (by kernel_rfl))
  f337 := Tryz.func207.trans (congrArg some (by kernel_rfl))
  f338 := Tryz.func208.trans (congrArg some (by kernel_rfl))
  t0 := Tryz.underlying0
  a0 := Tryz.isAgg0
  z0 := Tryz.sizeOf0
  v0 := Tryz.zeroValue0
  t2 := Tryz.underlying2
  a2 := Tryz.isAgg2
  z2 := Tryz.sizeOf2
  v2 := Tryz.zeroValue2
  t3 := Tryz.underlying3
  a3 := Tryz.isAgg3
  z3 := Tryz.sizeOf3
  v3 := Tryz.zeroValue3
  t4 := Tryz.underlying4
  a4 := Tryz.isAgg4
  z4 := Tryz.sizeOf4
  v4 := Tryz.zeroValue4
  t5 := Tryz.underlying5
  a5 := Tryz.isAgg5
  z5 := Tryz.sizeOf5
  v5 := Tryz.zeroValue5
  t9 := Tryz.underlying9
  a9 := Tryz.isAgg9
  z9 := Tryz.sizeOf9
  v9 := Tryz.zeroValue9
  t20 := Tryz.underlying20
  a20 := Tryz.isAgg20
  z20 := Tryz.sizeOf20
  v20 := Tryz.zeroValue20
  t21 := Tryz.underlying21
  a21 := Tryz.isAgg21
  z21 := Tryz.sizeOf21
  v21 := Tryz.zeroValue21
  t37 := Tryz.underlying212
  a37 := Tryz.isAgg212
  z37 := Tryz.sizeOf212
  v37 := Tryz.zeroValue212
  t46 := Tryz.underlying175
  a46 := Tryz.isAgg175
  z46 := Tryz.sizeOf175
  v46 := Tryz.zeroValue175
  t51 := Tryz.underlying229
  a51 := Tryz.isAgg229
  z51 := Tryz.sizeOf229
  v51 := Tryz.zeroValue229
  t53 := Tryz.underlying126
  a53 := Tryz.isAgg126
  z53 := Tryz.sizeOf126
  v53 := Tryz.zeroValue126
  t75 := Tryz.underlying134
  a75 := Tryz.isAgg134
  z75 := Tryz.sizeOf134
  v75 := Tryz.zeroValue134
  t85 := Tryz.underlying135
  a85 := Tryz.isAgg135
  z85 := Tryz.sizeOf135
  v85 := Tryz.zeroValue135
  t127 := Tryz.underlying263
  a127 := Tryz.isAgg263
  z127 := Tryz.sizeOf263
  v127 := Tryz.zeroValue263
  t143 := Tryz.underlying264
  a143 := Tryz.isAgg264
  z143 := Tryz.sizeOf264
  v143 := Tryz.zeroValue264
  t145 := Tryz.underlying266
  a145 := Tryz.isAgg266
  z145 := Tryz.sizeOf266
  v145 := Tryz.zeroValue266
  t167 := Tryz.underlying217
  a167 := Tryz.isAgg217
  z167 := Tryz.sizeOf217
  v167 := Tryz.zeroValue217
  t168 := Tryz.underlying220
  a168 := Tryz.isAgg220
  z168 := Tryz.sizeOf220
  v168 := Tryz.zeroValue220
  t171 := Tryz.underlying242
  a171 := Tryz.isAgg242
  z171 := Tryz.sizeOf242
  v171 := Tryz.zeroValue242
  t173 := Tryz.underlying244
  a173 := Tryz.isAgg244
  z173 := Tryz.sizeOf244
  v173 := Tryz.zeroValue244
  t175 := Tryz.underlying218
  a175 := Tryz.isAgg218
  z175 := Tryz.sizeOf218
  v175 := Tryz.zeroValue218
  t210 := Tryz.underlying251
  a210 := Tryz.isAgg251
  z210 := Tryz.sizeOf251
  v210 := Tryz.zeroValue251
  t212 := Tryz.underlying260
  a212 := Tryz.isAgg260
  z212 := Tryz.sizeOf260
  v212 := Tryz.zeroValue260
  t213 := Tryz.underlying261
  a213 := Tryz.isAgg261
  z213 := Tryz.sizeOf261
  t232 := Tryz.underlying268
  a232 := Tryz.isAgg268
  z232 := Tryz.sizeOf268
  v232 := Tryz.zeroValue268
  t233 := Tryz.underlying269
  a233 := Tryz.isAgg269
  z233 := Tryz.sizeOf269
  v233 := Tryz.zeroValue269
  g15 := by kernel_rfl
  g16 := by kernel_rfl
  g17 := by kernel_rfl
  g18 := by kernel_rfl
  g19 := by kernel_rfl
  t80 := Tryz.underlying270
  a80 := Tryz.isAgg270
  z80 := Tryz.sizeOf270
  v80 := Tryz.zeroValue270
  i0 := by kernel_rfl
  i2 := by kernel_rfl
  i3 := by kernel_rfl
  i4 := by kernel_rfl
  i5 := by kernel_rfl
  i9 := by kernel_rfl
  i20 := by kernel_rfl
  i21 := by kernel_rfl
  i37 := by kernel_rfl
  i46 := by kernel_rfl
  i51 := by kernel_rfl
  i53 := by kernel_rfl
  i75 := by kernel_rfl
  i80 := by kernel_rfl
  i85 := by kernel_rfl
  i127 := by kernel_rfl
  i143 := by kernel_rfl
  i145 := by kernel_rfl
  i167 := by kernel_rfl
  i168 := by kernel_rfl
  i171 := by kernel_rfl
  i173 := by kernel_rfl
  i175 := by kernel_rfl
  i210 := by kernel_rfl
  i212 := by kernel_rfl
  i232 := by kernel_rfl
  i233 := by kernel_rfl
  m15 := by kernel_rfl
  m16 := by kernel_rfl
  m17 := by kernel_rfl
  m18 := by kernel_rfl
  m19 := by kernel_rfl
  c0 := by kernel_rfl
  c2 := by kernel_rfl
  c3 := by kernel_rfl
  c4 := by kernel_rfl
  c5 := by kernel_rfl
  c9 := by kernel_rfl
  c20 := by kernel_rfl
  c21 := by kernel_rfl
  c37 := by kernel_rfl
  c46 := by kernel_rfl
  c51 := by kernel_rfl
  c53 := by kernel_rfl
  c75 := by kernel_rfl
  c80 := by kernel_rfl
  c85 := by kernel_rfl
  c127 := by kernel_rfl
  c143 := by kernel_rfl
  c145 := by kernel_rfl
  c167 := by kernel_rfl
  c168 := by kernel_rfl
  c171 := by kernel_rfl
  c173 := by kernel_rfl
  c175 := by kernel_rfl
  c210 := by kernel_rfl
  c212 := by kernel_rfl
  c213 := by kernel_rfl
  c232 := by kernel_rfl
  c233 := by kernel_rfl }
theorem Tryz.strconv_ParseInt_10_at64_ok (s : ByteArray) (hmax : s.size ≤ 9223372036854775806) (v : Int) (h : Lib.parseIntB 64 s.data.toList = .ok v) (w : World) :
    Calls Tryz.prog 89 #[.string s, .int .i64 10, .int .i64 64] w fun e w' => e = .returned (.tuple #[.int .i64 v, .nilIface]) ∧ (w' = w ∨ ∃ t, w' = Lib.bytesWorld w 5 t) := Any.strconv_ParseInt_10_at64_ok Tryz.laysC174 s hmax v h w
theorem Tryz.strconv_ParseInt_10_at64_range_var (s : ByteArray) (hlim : s.size ≤ 281474976710656) (h : Lib.parseIntB 64 s.data.toList = .range) (tp : TypeId) (p : Value) (w : World) (hvar : w.var? Tryz.prog "strconv.ErrRange" = some #[.iface tp p]) :
    Calls Tryz.prog 89 #[.string s, .int .i64 10, .int .i64 64] w fun e w' => ∃ N, e = .returned (.tuple #[.int .i64 (Lib.intSat 64 s.data.toList), .iface 220 (.pointer (some ⟨N, 0, none⟩))]) ∧ w.heap.size ≤ N ∧ w'.heap[N]? = some (.cells #[.string ⟨#[80, 97, 114, 115, 101, 73, 110, 116]⟩, .string s, .iface tp p] 251 (0, 0)) ∧ Below w.heap.size w w' := Any.strconv_ParseInt_10_at64_range_var Tryz.laysC174 s hlim h tp p w hvar
def Tryz.laysPu14_ren : Go.Shelf.Ren := ⟨fun | 14 => 187 | 16 => 167 | 17 => 135 | 19 => 193 | 20 => 194 | 21 => 168 | 22 => 169 | 23 => 170 | 24 => 171 | 25 => 195 | 27 => 130 | 26 => 196 | 28 => 163 | 29 => 192 | 30 => 188 | 31 => 189 | 32 => 190 | 33 => 191 | 35 => 159 | 34 => 203 | 36 => 204 | 37 => 205 | 38 => 206 | 39 => 207 | 40 => 208 | n => n, fun | 9 => 9 | 3 => 3 | 22 => 126 | 24 => 134 | 25 => 218 | 4 => 4 | 34 => 217 | 5 => 5 | 36 => 175 | 37 => 212 | 0 => 0 | 39 => 220 | 21 => 21 | 44 => 251 | 47 => 263 | 50 => 266 | 48 => 264 | 2 => 2 | 52 => 242 | 55 => 244 | 59 => 260 | 60 => 229 | 20 => 20 | 61 => 261 | 65 => 268 | 66 => 269 | 67 => 270 | n => n, fun | 0 => 0 | 1 => 1 | 2 => 2 | 3 => 3 | 4 => 4 | n => n⟩
theorem Tryz.laysPu14 : Go.Proofs.LaysPu.n14 Tryz.prog Tryz.laysPu14_ren := {
  mixed := by kernel_rfl
  f14 := Tryz.func187.trans (congrArg some (by kernel_rfl))
  f16 := Tryz.func167.trans (congrArg some (by kernel_rfl))
  f17 := Tryz.func135.trans (congrArg some (by kernel_rfl))
  f19 := Tryz.func193.trans (congrArg some (by kernel_rfl))
  f20 := Tryz.func194.trans (congrArg some (by kernel_rfl))
  f21 := Tryz.func168.trans (congrArg some (by kernel_rfl))
  f22 := Tryz.func169.trans (congrArg some (by kernel_rfl))
  f23 := Tryz.func170.trans (congrArg some (by kernel_rfl))
  f24 := Tryz.func171.trans (congrArg some (by kernel_rfl))
  f25 := Tryz.func195.trans (congrArg some (by kernel_rfl))
  f26 := Tryz.func196.trans (congrArg some (by kernel_rfl))
  f27 := Tryz.func130.trans (congrArg some (by kernel_rfl))
  f28 := Tryz.func163.trans (congrArg some (by kernel_rfl))
  f29 := Tryz.func192.trans (congrArg some (by kernel_rfl))
  f30 := Tryz.func188.trans (congrArg some (by kernel_rfl))
  f31 := Tryz.func189.trans (congrArg some (by kernel_rfl))
  f32 := Tryz.func190.trans (congrArg some (by kernel_rfl))
  f33 := Tryz.func191.trans (congrArg some (by kernel_rfl))
  f34 := Tryz.func203.trans (congrArg some (by kernel_rfl))
  f35 := Tryz.func159.trans (congrArg some (by kernel_rfl))
  f36 := Tryz.func204.trans (congrArg some (by kernel_rfl))
  f37 := Tryz.func205.trans (congrArg some (by kernel_rfl))
  f38 := Tryz.func206.trans (congrArg some (by kernel_rfl))
  f39 := Tryz.func207.trans (congrArg some (by kernel_rfl))
  f40 := Tryz.func208.trans (congrArg some (by kernel_rfl))
  t0 := Tryz.underlying0
  a0 := Tryz.isAgg0
  z0 := Tryz.sizeOf0
  v0 := Tryz.zeroValue0
  i0 := by kernel_rfl
  t2 := Tryz.underlying2
  a2 := Tryz.isAgg2
  z2 := Tryz.sizeOf2
  v2 := Tryz.zeroValue2
  i2 := by kernel_rfl
  t3 := Tryz.underlying3
  a3 := Tryz.isAgg3
  z3 := Tryz.sizeOf3
  v3 := Tryz.zeroValue3
  i3 := by kernel_rfl
  t4 := Tryz.underlying4
  a4 := Tryz.isAgg4
  z4 := Tryz.sizeOf4
  v4 := Tryz.zeroValue4
  i4 := by kernel_rfl
  t5 := Tryz.underlying5
  a5 := Tryz.isAgg5
  z5 := Tryz.sizeOf5
  v5 := Tryz.zeroValue5
  i5 := by kernel_rfl
  t9 := Tryz.underlying9
  a9 := Tryz.isAgg9
  z9 := Tryz.sizeOf9
  v9 := Tryz.zeroValue9
  i9 := by kernel_rfl
  t20 := Tryz.underlying20
  a20 := Tryz.isAgg20
  z20 := Tryz.sizeOf20
  v20 := Tryz.zeroValue20
  i20 := by kernel_rfl
  t21 := Tryz.underlying21
  a21 := Tryz.isAgg21
  z21 := Tryz.sizeOf21
  v21 := Tryz.zeroValue21
  i21 := by kernel_rfl
  t22 := Tryz.underlying126
  a22 := Tryz.isAgg126
  z22 := Tryz.sizeOf126
  v22 := Tryz.zeroValue126
  i22 := by kernel_rfl
  t24 := Tryz.underlying134
  a24 := Tryz.isAgg134
  z24 := Tryz.sizeOf134
  v24 := Tryz.zeroValue134
  i24 := by kernel_rfl
  t25 := Tryz.underlying218
  a25 := Tryz.isAgg218
  z25 := Tryz.sizeOf218
  v25 := Tryz.zeroValue218
  i25 := by kernel_rfl
  t34 := Tryz.underlying217
  a34 := Tryz.isAgg217
  z34 := Tryz.sizeOf217
  v34 := Tryz.zeroValue217
  i34 := by kernel_rfl
  c34 := by kernel_rfl
  t36 := Tryz.underlying175
  a36 := Tryz.isAgg175
  z36 := Tryz.sizeOf175
  v36 := Tryz.zeroValue175
  i36 := by kernel_rfl
  t37 := Tryz.underlying212
  a37 := Tryz.isAgg212
  z37 := Tryz.sizeOf212
  v37 := Tryz.zeroValue212
  i37 := by kernel_rfl
  t39 := Tryz.underlying220
  a39 := Tryz.isAgg220
  z39 := Tryz.sizeOf220
  v39 := Tryz.zeroValue220
  i39 := by kernel_rfl
  t44 := Tryz.underlying251
  a44 := Tryz.isAgg251
  z44 := Tryz.sizeOf251
  v44 := Tryz.zeroValue251
  i44 := by kernel_rfl
  t47 := Tryz.underlying263
  a47 := Tryz.isAgg263
  z47 := Tryz.sizeOf263
  v47 := Tryz.zeroValue263
  i47 := by kernel_rfl
  t48 := Tryz.underlying264
  a48 := Tryz.isAgg264
  z48 := Tryz.sizeOf264
  v48 := Tryz.zeroValue264
  i48 := by kernel_rfl
  t50 := Tryz.underlying266
  a50 := Tryz.isAgg266
  z50 := Tryz.sizeOf266
  v50 := Tryz.zeroValue266
  i50 := by kernel_rfl
  t52 := Tryz.underlying242
  a52 := Tryz.isAgg242
  z52 := Tryz.sizeOf242
  v52 := Tryz.zeroValue242
  i52 := by kernel_rfl
  t55 := Tryz.underlying244
  a55 := Tryz.isAgg244
  z55 := Tryz.sizeOf244
  v55 := Tryz.zeroValue244
  i55 := by kernel_rfl
  t59 := Tryz.underlying260
  a59 := Tryz.isAgg260
  z59 := Tryz.sizeOf260
  v59 := Tryz.zeroValue260
  i59 := by kernel_rfl
  t60 := Tryz.underlying229
  a60 := Tryz.isAgg229
  z60 := Tryz.sizeOf229
  v60 := Tryz.zeroValue229
  i60 := by kernel_rfl
  t61 := Tryz.underlying261
  a61 := Tryz.isAgg261
  z61 := Tryz.sizeOf261
  t65 := Tryz.underlying268
  a65 := Tryz.isAgg268
  z65 := Tryz.sizeOf268
  v65 := Tryz.zeroValue268
  i65 := by kernel_rfl
  t66 := Tryz.underlying269
  a66 := Tryz.isAgg269
  z66 := Tryz.sizeOf269
  v66 := Tryz.zeroValue269
  i66 := by kernel_rfl
  t67 := Tryz.underlying270
  a67 := Tryz.isAgg270
  z67 := Tryz.sizeOf270
  v67 := Tryz.zeroValue270
  i67 := by kernel_rfl
  g0 := by kernel_rfl
  m0 := by kernel_rfl
  g1 := by kernel_rfl
  m1 := by kernel_rfl
  g2 := by kernel_rfl
  m2 := by kernel_rfl
  g3 := by kernel_rfl
  m3 := by kernel_rfl
  g4 := by kernel_rfl
  m4 := by kernel_rfl }
theorem Tryz.strconv_ParseUint_10_at64_ok (s : ByteArray) (hmax : s.size ≤ 9223372036854775806) (u : Nat) (h : Lib.parseUintB 64 s.data.toList = .ok u) (w : World) :
    Calls Tryz.prog 187 #[.string s, .int .i64 10, .int .i64 64] w fun e w' => e = .returned (.tuple #[.int .u64 u, .nilIface]) ∧ (w' = w ∨ w' = Lib.bytesWorld w 5 s) := Any.strconv_ParseUint_10_at64_ok Tryz.laysPu14 s hmax u h w
def Tryz.lays212_ren : Go.Shelf.Ren := ⟨fun | 212 => 140 | 263 => 178 | 264 => 179 | n => n, fun | 46 => 175 | 51 => 229 | 146 => 230 | 53 => 126 | 148 => 232 | n => n, fun | n => n⟩
theorem Tryz.lays212 : Go.Proofs.Lays.n212 Tryz.prog Tryz.lays212_ren := {
  mixed := by kernel_rfl
  f212 := Tryz.func140.trans (congrArg some (by kernel_rfl))
  f263 := Tryz.func178.trans (congrArg some (by kernel_rfl))
  f264 := Tryz.func179.trans (congrArg some (by kernel_rfl))
  t46 := Tryz.underlying175
  a46 := Tryz.isAgg175
  z46 := Tryz.sizeOf175
  v46 := Tryz.zeroValue175
  t51 := Tryz.underlying229
  a51 := Tryz.isAgg229
  z51 := Tryz.sizeOf229
  v51 := Tryz.zeroValue229
  t53 := Tryz.underlying126
  a53 := Tryz.isAgg126
  z53 := Tryz.sizeOf126
  v53 := Tryz.zeroValue126
  t146 := Tryz.underlying230
  a146 := Tryz.isAgg230
  z146 := Tryz.sizeOf230
  v146 := Tryz.zeroValue230
  t148 := Tryz.underlying232
  a148 := Tryz.isAgg232
  z148 := Tryz.sizeOf232
  v148 := Tryz.zeroValue232 }
theorem Tryz.bits_Mul (x y : Nat) (hx : x < 18446744073709551616) (hy : y < 18446744073709551616) (w : World) :
    Calls Tryz.prog 140 #[.int .u64 x, .int .u64 y] w fun e w' => e = .returned (.tuple #[.int .u64 ((x * y / 18446744073709551616 : Nat) : Int), .int .u64 ((x * y % 18446744073709551616 : Nat) : Int)]) ∧ w' = w := Any.bits_Mul Tryz.lays212 x y hx hy w
end Go.Proofs
namespace Go.Proofs.YtkjnjmihfonilaaGreatDoor
open Go.RowKit Go.Sort Go.Lib
structure Laid (w : World) : Prop where
  tab : Lib.TabIs Tryz.prog w "internal/strconv.uint64pow10" .u64 Lib.pow10Tab
  rng : ∃ tp p, w.var? Tryz.prog "strconv.ErrRange" = some #[.iface tp p]
theorem var_ext {P : Program} {w w' : World} {n : String} {cs : Array Value} (he : Ext w w') (h : w.var? P n = some cs) : w'.var? P n = some cs := by
  unfold World.var? at *
  cases hg : P.globalNamed n with
  | none => rw [hg] at h; cases h
  | some g =>
    rw [hg] at h
    simp only [Option.bind_some] at *
    by_cases hlt : g < w.heap.size
    · rw [he.block g hlt]; exact h
    · rw [Array.getElem?_eq_none (by omega)] at h; cases h
theorem Laid.ext {w w' : World} (h : Laid w) (he : Ext w w') : Laid w' := by
  refine ⟨?_, ?_⟩
  · have := h.tab; unfold Lib.TabIs at *; exact var_ext he this
  · obtain ⟨tp, p, hv⟩ := h.rng; exact ⟨tp, p, var_ext he hv⟩
theorem ext_grow (w : World) (k : Nat) (os : Array Obj) : Ext w (grow (w.drewN k) os) :=
  Ext.mk' ⟨rfl, rfl, rfl, by simp [grow, World.drewN], fun i hi => by
    show (w.heap ++ os)[i]? = _
    rw [Array.getElem?_append_left hi]⟩
theorem ext_bytesWorld (w : World) (t : TypeId) (s : ByteArray) : Ext w (Lib.bytesWorld w t s) := by
  refine Ext.mk' ⟨?_, ?_, ?_, ?_, ?_⟩
  all_goals unfold Lib.bytesWorld World.freeze
  all_goals split
  · rfl
  · rfl
  · rfl
  · rfl
  · rfl
  · rfl
  · simp
  · simp
  · intro k hk; exact Below.heap_alloc _ _ _ hk
  · intro k hk
    simp only [Array.getElem?_modify]
    rw [if_neg (by show ¬ w.heap.size = k; omega)]
    exact Below.heap_alloc _ _ _ hk
theorem Itoa_any {n : Int} (h0 : -9223372036854775808 ≤ n) (h1 : n ≤ 9223372036854775807) {w : World} (hL : Laid w) :
    Calls Tryz.prog 130 #[.int .i64 n] w fun e w' => e = .returned (I n) ∧ Ext w w' := by
  refine (Tryz.strconv_Itoa n h0 h1 w hL.tab).mono ?_
  rintro e w' ⟨rfl, k, os, rfl⟩
  exact ⟨rfl, ext_grow _ _ _⟩
theorem wholeOf_any {n : Int} (h0 : -9223372036854775808 ≤ n) (h1 : n ≤ 9223372036854775807) {w : World} (hL : Laid w) :
    Calls Tryz.prog 82 #[.int .i64 n] w fun e w' => e = .returned (I n) ∧ Ext w w' := by
  have H := Lib.hid (Itoa_any h0 h1 hL)
  clear h0 h1 hL
  go_enter Tryz.func82, Tryz.ntmps82
  go_wp2_with (first | (go_at_call 130; refine H.out.mono ?_; rintro e w1 ⟨rfl, hb1⟩))
  go_ret
  exact ⟨rfl, hb1⟩
theorem I_size (z : Int) : (⟨(Lib.itoa z).toArray⟩ : ByteArray).size = (Lib.itoa z).length := by
  show (Lib.itoa z).toArray.size = _; simp
theorem D_size (u : Nat) : (⟨(Lib.decDigits u).toArray⟩ : ByteArray).size = Lib.nDigits u := by
  show (Lib.decDigits u).toArray.size = _; simp [Lib.decDigits_length]
theorem wholeSmall_ok {z : Int} (h1 : -9223372036854775808 ≤ z) (h2 : z ≤ 9223372036854775807) (hn : nd z ≤ LIM) (w : World) :
    Calls Tryz.prog 50 #[I z] w fun e w' => e = .returned (.tuple #[.int .i64 z, .bool true]) ∧ Ext w w' := by
  have hs : (⟨(Lib.itoa z).toArray⟩ : ByteArray).size ≤ 9223372036854775806 := by
    rw [I_size, itoa_length]; unfold LIM at hn; split <;> omega
  have H := Lib.hid (Tryz.strconv_ParseInt_10_at64_ok ⟨(Lib.itoa z).toArray⟩ hs z (parseInt_itoa h1 h2))
  clear hs hn h1 h2
  go_enter Tryz.func50, Tryz.ntmps50
  go_wp2_with (first | (go_at_call 89; refine (H.out _).mono ?_; rintro e w1 ⟨rfl, hb1⟩))
  go_ret2
  refine ⟨rfl, ?_⟩
  rcases hb1 with rfl | ⟨t, rfl⟩
  · exact Ext.refl _
  · exact ext_bytesWorld _ _ _
theorem wholeSmall_no {z : Int} (h : z < -9223372036854775808 ∨ 9223372036854775807 < z) (hn : nd z ≤ LIM) {w : World} (hL : Laid w) :
    Calls Tryz.prog 50 #[I z] w fun e w' => e = .returned (.tuple #[.int .i64 0, .bool false]) ∧ Ext w w' := by
  have hs : (⟨(Lib.itoa z).toArray⟩ : ByteArray).size ≤ 281474976710656 := by
    rw [I_size, itoa_length]; unfold LIM at hn; split <;> omega
  obtain ⟨tp, p, hv⟩ := hL.rng
  have H := Lib.hid (Tryz.strconv_ParseInt_10_at64_range_var ⟨(Lib.itoa z).toArray⟩ hs (parseInt_range h) tp p w hv)
  clear hs hn h hL hv
  go_enter Tryz.func50, Tryz.ntmps50
  go_wp2_with (first | (go_at_call 89; refine H.out.mono ?_; rintro e w1 ⟨N, rfl, _, _, hb1⟩))
  go_ret2
  exact ⟨rfl, hb1⟩
def inI64 (z : Int) : Bool := decide (-9223372036854775808 ≤ z ∧ z ≤ 9223372036854775807)
theorem wholeSmall_any {z : Int} (hn : nd z ≤ LIM) {w : World} (hL : Laid w) :
    Calls Tryz.prog 50 #[I z] w fun e w' => e = .returned (.tuple #[.int .i64 (if inI64 z then z else 0), .bool (inI64 z)]) ∧ Ext w w' := by
  by_cases h : -9223372036854775808 ≤ z ∧ z ≤ 9223372036854775807
  · have e : inI64 z = true := decide_eq_true h
    rw [e]; exact wholeSmall_ok h.1 h.2 hn w
  · have e : inI64 z = false := decide_eq_false h
    rw [e]; exact wholeSmall_no (by omega) hn hL
theorem little_no {z : Int} {m : Nat} (hn : nd z ≤ LIM) (h : m < (Lib.itoa z).length) (_hm : m ≤ 18) (w : World) :
    Calls Tryz.prog 83 #[I z, .int .i64 m] w fun e w' => e = .returned (.tuple #[.int .i64 0, .bool false]) ∧ Ext w w' := by
  have hl : (Lib.itoa z).length ≤ 1000000000001 := by rw [itoa_length]; unfold LIM at hn; split <;> omega
  have ht : (m : Int) < ((Lib.itoa z).length : Int) := by omega
  clear hn h
  unfold I
  generalize Lib.itoa z = l at *
  go_enter Tryz.func83, Tryz.ntmps83
  go_wp2
  go_ret2
  exact ⟨rfl, Ext.refl _⟩
theorem little_yes {z : Int} {m : Nat} (h : (Lib.itoa z).length ≤ m) (_hm : m ≤ 18) (w : World) :
    Calls Tryz.prog 83 #[I z, .int .i64 m] w fun e w' => e = .returned (.tuple #[.int .i64 z, .bool true]) ∧ Ext w w' := by
  have hb : z.natAbs < 10 ^ 18 := by
    refine lt_pow_of_nd (k := 18) ?_
    have := itoa_length z; unfold nd at this; split at this <;> omega
  have hs : (⟨(Lib.itoa z).toArray⟩ : ByteArray).size ≤ 9223372036854775806 := by rw [I_size]; omega
  have H := Lib.hid (Tryz.strconv_Atoi_ok ⟨(Lib.itoa z).toArray⟩ hs z (atoi_itoa (by omega) (by omega)))
  have ht : ¬ (m : Int) < ((Lib.itoa z).length : Int) := by omega
  clear hb hs h
  go_enter Tryz.func83, Tryz.ntmps83
  go_wp2_with (first | (go_at_call 131; refine (H.out _).mono ?_; rintro e w1 ⟨rfl, hb1⟩))
  go_quiet (fail)
  go_wp2
  go_ret2
  refine ⟨rfl, ?_⟩
  rcases hb1 with rfl | ⟨t, rfl⟩
  · exact (Ext.refl _).drewN _
  · exact (ext_bytesWorld _ _ _).drewN _
theorem dSmall_ok {u : Nat} (h : u < 18446744073709551616) (w : World) :
    Calls Tryz.prog 158 #[D u] w fun e w' => e = .returned (.tuple #[.int .u64 u, .bool true]) ∧ Ext w w' := by
  have hs : (⟨(Lib.decDigits u).toArray⟩ : ByteArray).size ≤ 9223372036854775806 := by
    rw [D_size]; have := nDigits_le (u := u) (k := 20) (by omega) (by omega); omega
  have H := Lib.hid (Tryz.strconv_ParseUint_10_at64_ok ⟨(Lib.decDigits u).toArray⟩ hs u (parseUint_dec h))
  clear hs h
  go_enter Tryz.func158, Tryz.ntmps158
  go_wp2_with (first | (go_at_call 187; refine (H.out _).mono ?_; rintro e w1 ⟨rfl, hb1⟩))
  go_ret2
  refine ⟨rfl, ?_⟩
  rcases hb1 with rfl | rfl
  · exact Ext.refl _
  · exact ext_bytesWorld _ _ _
end Go.Proofs.YtkjnjmihfonilaaGreatDoor
