/- Part 2 of the proof of the claim: contracts of the functions that it reaches, and plain laws; no condition. -/
import Derived.Shelf.Strings.Builder1
import Derived.Shelf.Strings.Builder2
import Derived.Shelf.Strings.OnBuilder
import Derived.Shelf.Strings.BuilderF
import Derived.Shelf.Strings.Builder2Cap
import Derived.Shelf.Strconv.Atoi
import Derived.Shelf.Strconv.Itoa0
import Derived.Shelf.Strconv.Itoa1
import Derived.Shelf.LaysM
import Derived.Shelf.Strconv.Itoa2
import Derived.Shelf.Strconv.Itoa3
import Derived.Shelf.Strconv.AtoiErrFast
import Derived.Shelf.Strconv.ParseIntEmpty
import Derived.Shelf.Strconv.AtoiFail
import Derived.Shelf.Strconv.Clone
import Derived.Shelf.Strconv.SyntaxError
import Derived.Shelf.LaysC
import Derived.Shelf.Strconv.ToError
import Derived.Shelf.Strconv.Lower
import Derived.Shelf.Strconv.ParseUint10
import Derived.Shelf.Strconv.ParseUint10Empty
import Derived.Shelf.Strconv.ParseUint10Any
import Derived.Shelf.Strconv.ParseInt10
import Derived.Shelf.Strconv.AtoiLong
import Derived.Shelf.Strconv.AtoiInnerAll
import Derived.Shelf.Strconv.RangeError
import Derived.Shelf.Strconv.ToErrorRange
import Derived.Shelf.Strconv.AtoiAll
import Derived.Shelf.Strconv.ErrVarAll
import Derived.Shelf.Strconv.ParseUintEmpty
import Derived.Shelf.Strconv.ParseUint10b64
import Derived.Shelf.Strconv.ParseUint10b32
import Derived.Shelf.Strconv.ParseUint10b16
import Derived.Shelf.Strconv.ParseUint10b8
import Derived.Shelf.Strconv.ParseUint10At
import Derived.Shelf.Strconv.ParseInt10At64
import Derived.Shelf.Strconv.ParseInt10At32
import Derived.Shelf.Strconv.ParseInt10At16
import Derived.Shelf.Strconv.ParseInt10At8
import Derived.Shelf.Strconv.ParseInt10All
import Derived.Shelf.Strconv.ParseIntPublic10
import Derived.Shelf.Strconv.ErrVarParseInt
import Derived.Ground.MpProg
import Derived.Shelf.Pu.ParseUintPublic10
import Derived.Shelf.Pu.ErrVarParseUint
import Derived.Shelf.Bits.Mul64
import Derived.Test.YtmhfccigejcphaaGreatDoorProg
import Derived.Test.YtmhfccigejcphaaGreatDoorQ01
set_option maxRecDepth 100000
set_option maxHeartbeats 20000000
namespace Go.Proofs
open Go.Shelf Go.RowKit Go.Sort Go.Lib
def Tryz.lays283_ren:Go.Shelf.Ren:=⟨fun | 283=>270 | n=>n,fun | 3=>3 | 9=>9 | 4=>4 | n=>n,fun | n=>n⟩
theorem Tryz.lays283:Go.Proofs.Lays.n283 Tryz.prog Tryz.lays283_ren := {
 mixed:=by kernel_rfl
 f283:=Tryz.func270.trans (congrArg some (by kernel_rfl))
 t3:=Tryz.underlying3
 a3:=Tryz.isAgg3
 z3:=Tryz.sizeOf3
 v3:=Tryz.zeroValue3
 t4:=Tryz.underlying4
 a4:=Tryz.isAgg4
 z4:=Tryz.sizeOf4
 v4:=Tryz.zeroValue4
 t9:=Tryz.underlying9
 a9:=Tryz.isAgg9
 z9:=Tryz.sizeOf9
 v9:=Tryz.zeroValue9 }
theorem Tryz.internal_strconv_small (i:Nat) (h:i<100) (w:World) :
  Calls Tryz.prog 270 #[.int .i64 i] w λe w'=>e = .returned (.string ⟨(Lib.decDigits i).toArray⟩)/\w'=w:=Any.internal_strconv_small Tryz.lays283 i h w
def Tryz.laysM284_ren:Go.Shelf.Ren:=⟨fun | 284=>271 | 129=>255 | 317=>283 | 318=>284 | n=>n,fun | 53=>213 | 3=>3 | 212=>353 | 0=>0 | 4=>4 | 46=>274 | 5=>5 | 9=>9 | n=>n,fun | 17=>2 | n=>n⟩
theorem Tryz.laysM284:Go.Proofs.LaysM.n284 Tryz.prog Tryz.laysM284_ren := {
 mixed:=by kernel_rfl
 f129:=Tryz.func255.trans (congrArg some (by kernel_rfl))
 f284:=Tryz.func271.trans (congrArg some (by kernel_rfl))
 f317:=Tryz.func283.trans (congrArg some (by kernel_rfl))
 f318:=Tryz.func284.trans (congrArg some (by kernel_rfl))
 t0:=Tryz.underlying0
 a0:=Tryz.isAgg0
 z0:=Tryz.sizeOf0
 v0:=Tryz.zeroValue0
 t3:=Tryz.underlying3
 a3:=Tryz.isAgg3
 z3:=Tryz.sizeOf3
 v3:=Tryz.zeroValue3
 t4:=Tryz.underlying4
 a4:=Tryz.isAgg4
 z4:=Tryz.sizeOf4
 v4:=Tryz.zeroValue4
 t5:=Tryz.underlying5
 a5:=Tryz.isAgg5
 z5:=Tryz.sizeOf5
 v5:=Tryz.zeroValue5
 t9:=Tryz.underlying9
 a9:=Tryz.isAgg9
 z9:=Tryz.sizeOf9
 v9:=Tryz.zeroValue9
 t46:=Tryz.underlying274
 a46:=Tryz.isAgg274
 z46:=Tryz.sizeOf274
 v46:=Tryz.zeroValue274
 t53:=Tryz.underlying213
 a53:=Tryz.isAgg213
 z53:=Tryz.sizeOf213
 v53:=Tryz.zeroValue213
 t212:=Tryz.underlying353
 a212:=Tryz.isAgg353
 z212:=Tryz.sizeOf353
 v212:=Tryz.zeroValue353
 g17:=by kernel_rfl
 i0:=by kernel_rfl
 i3:=by kernel_rfl
 i4:=by kernel_rfl
 i5:=by kernel_rfl
 i9:=by kernel_rfl
 i46:=by kernel_rfl
 i53:=by kernel_rfl
 i212:=by kernel_rfl
 m17:=by kernel_rfl }
theorem Tryz.internal_strconv_numDigits (u : Nat) (h1 : 1 ≤ u) (h2 : u < 18446744073709551616) (w : World) (htab : Lib.TabIs Tryz.prog w "internal/strconv.uint64pow10" .u64 Lib.pow10Tab) :
  Calls Tryz.prog 271 #[.int .u64 u] w λe w'=>e = .returned (.int .i64 (Lib.nDigits u))/\w'=w:=Any.internal_strconv_numDigits Tryz.laysM284 u h1 h2 w htab
def Tryz.lays285_ren:Go.Shelf.Ren:=⟨fun | 285=>272 | n=>n,fun | 37=>252 | 53=>213 | 3=>3 | 4=>4 | 51=>323 | 9=>9 | 5=>5 | 0=>0 | n=>n,fun | n=>n⟩
theorem Tryz.lays285:Go.Proofs.Lays.n285 Tryz.prog Tryz.lays285_ren := {
 mixed:=by kernel_rfl
 f285:=Tryz.func272.trans (congrArg some (by kernel_rfl))
 t0:=Tryz.underlying0
 a0:=Tryz.isAgg0
 z0:=Tryz.sizeOf0
 v0:=Tryz.zeroValue0
 t3:=Tryz.underlying3
 a3:=Tryz.isAgg3
 z3:=Tryz.sizeOf3
 v3:=Tryz.zeroValue3
 t4:=Tryz.underlying4
 a4:=Tryz.isAgg4
 z4:=Tryz.sizeOf4
 v4:=Tryz.zeroValue4
 t5:=Tryz.underlying5
 a5:=Tryz.isAgg5
 z5:=Tryz.sizeOf5
 v5:=Tryz.zeroValue5
 t9:=Tryz.underlying9
 a9:=Tryz.isAgg9
 z9:=Tryz.sizeOf9
 v9:=Tryz.zeroValue9
 t37:=Tryz.underlying252
 a37:=Tryz.isAgg252
 z37:=Tryz.sizeOf252
 v37:=Tryz.zeroValue252
 t51:=Tryz.underlying323
 a51:=Tryz.isAgg323
 z51:=Tryz.sizeOf323
 v51:=Tryz.zeroValue323
 t53:=Tryz.underlying213
 a53:=Tryz.isAgg213
 z53:=Tryz.sizeOf213
 v53:=Tryz.zeroValue213 }
theorem Tryz.internal_strconv_formatBase10 (blk off cap:Nat) (u:Nat) (d:Array UInt8) (w:World) (hH:Holds (λ(b:UInt8)=>Value.int .u8 (b.toNat:Int)) w blk off d) (hu:u<10^d.size) (hu64:u<18446744073709551616) (hsz:d.size<4611686018427387904) :
  Calls Tryz.prog 272 #[.slice (some ⟨blk,off,none⟩) d.size cap,.int .u64 u] w λe w' =>
   e = .returned (.tuple #[]) /\ ∃(n v':Nat) (dk:Array UInt8),w'=(putRow (λ(b:UInt8)=>Value.int .u8 (b.toNat:Int)) w blk off dk).drewN n/\FmtInv d.size u 0 v' dk:=Any.internal_strconv_formatBase10 Tryz.lays285 blk off cap u d w hH hu hu64 hsz
def Tryz.laysM171_ren:Go.Shelf.Ren:=⟨fun | 171=>131 | 243=>186 | 246=>246 | 283=>270 | 284=>271 | 285=>272 | 286=>273 | 129=>255 | 317=>283 | 318=>284 | 319=>285 | 320=>286 | 337=>290 | 338=>291 | n=>n,fun | 3=>3 | 9=>9 | 2=>2 | 4=>4 | 171=>337 | 0=>0 | 53=>213 | 37=>252 | 5=>5 | 173=>339 | 212=>353 | 51=>323 | 20=>20 | 213=>354 | 46=>274 | 232=>357 | 233=>358 | n=>n,fun | 17=>2 | 18=>4 | 19=>5 | n=>n⟩
theorem Tryz.laysM171:Go.Proofs.LaysM.n171 Tryz.prog Tryz.laysM171_ren := {
 mixed:=by kernel_rfl
 f129:=Tryz.func255.trans (congrArg some (by kernel_rfl))
 f171:=Tryz.func131.trans (congrArg some (by kernel_rfl))
 f243:=Tryz.func186.trans (congrArg some (by kernel_rfl))
 f246:=Tryz.func246.trans (congrArg some (by kernel_rfl))
 f283:=Tryz.func270.trans (congrArg some (by kernel_rfl))
 f284:=Tryz.func271.trans (congrArg some (by kernel_rfl))
 f285:=Tryz.func272.trans (congrArg some (by kernel_rfl))
 f286:=Tryz.func273.trans (congrArg some (by kernel_rfl))
 f317:=Tryz.func283.trans (congrArg some (by kernel_rfl))
 f318:=Tryz.func284.trans (congrArg some (by kernel_rfl))
 f319:=Tryz.func285.trans (congrArg some (by kernel_rfl))
 f320:=Tryz.func286.trans (congrArg some (by kernel_rfl))
 f337:=Tryz.func290.trans (congrArg some (by kernel_rfl))
 f338:=Tryz.func291.trans (congrArg some (by kernel_rfl))
 t0:=Tryz.underlying0
 a0:=Tryz.isAgg0
 z0:=Tryz.sizeOf0
 v0:=Tryz.zeroValue0
 t2:=Tryz.underlying2
 a2:=Tryz.isAgg2
 z2:=Tryz.sizeOf2
 v2:=Tryz.zeroValue2
 t3:=Tryz.underlying3
 a3:=Tryz.isAgg3
 z3:=Tryz.sizeOf3
 v3:=Tryz.zeroValue3
 t4:=Tryz.underlying4
 a4:=Tryz.isAgg4
 z4:=Tryz.sizeOf4
 v4:=Tryz.zeroValue4
 t5:=Tryz.underlying5
 a5:=Tryz.isAgg5
 z5:=Tryz.sizeOf5
 v5:=Tryz.zeroValue5
 t9:=Tryz.underlying9
 a9:=Tryz.isAgg9
 z9:=Tryz.sizeOf9
 v9:=Tryz.zeroValue9
 t20:=Tryz.underlying20
 a20:=Tryz.isAgg20
 z20:=Tryz.sizeOf20
 v20:=Tryz.zeroValue20
 t37:=Tryz.underlying252
 a37:=Tryz.isAgg252
 z37:=Tryz.sizeOf252
 v37:=Tryz.zeroValue252
 t46:=Tryz.underlying274
 a46:=Tryz.isAgg274
 z46:=Tryz.sizeOf274
 v46:=Tryz.zeroValue274
 t51:=Tryz.underlying323
 a51:=Tryz.isAgg323
 z51:=Tryz.sizeOf323
 v51:=Tryz.zeroValue323
 t53:=Tryz.underlying213
 a53:=Tryz.isAgg213
 z53:=Tryz.sizeOf213
 v53:=Tryz.zeroValue213
 t171:=Tryz.underlying337
 a171:=Tryz.isAgg337
 z171:=Tryz.sizeOf337
 v171:=Tryz.zeroValue337
 t173:=Tryz.underlying339
 a173:=Tryz.isAgg339
 z173:=Tryz.sizeOf339
 v173:=Tryz.zeroValue339
 t212:=Tryz.underlying353
 a212:=Tryz.isAgg353
 z212:=Tryz.sizeOf353
 v212:=Tryz.zeroValue353
 t213:=Tryz.underlying354
 a213:=Tryz.isAgg354
 z213:=Tryz.sizeOf354
 t232:=Tryz.underlying357
 a232:=Tryz.isAgg357
 z232:=Tryz.sizeOf357
 v232:=Tryz.zeroValue357
 t233:=Tryz.underlying358
 a233:=Tryz.isAgg358
 z233:=Tryz.sizeOf358
 v233:=Tryz.zeroValue358
 g17:=by kernel_rfl
 g18:=by kernel_rfl
 g19:=by kernel_rfl
 i0:=by kernel_rfl
 i2:=by kernel_rfl
 i3:=by kernel_rfl
 i4:=by kernel_rfl
 i5:=by kernel_rfl
 i9:=by kernel_rfl
 i20:=by kernel_rfl
 i37:=by kernel_rfl
 i46:=by kernel_rfl
 i51:=by kernel_rfl
 i53:=by kernel_rfl
 i171:=by kernel_rfl
 i173:=by kernel_rfl
 i212:=by kernel_rfl
 i232:=by kernel_rfl
 i233:=by kernel_rfl
 m17:=by kernel_rfl
 m18:=by kernel_rfl
 m19:=by kernel_rfl }
theorem Tryz.strconv_Itoa (n : Int) (h0 : -9223372036854775808 ≤ n) (h1 : n ≤ 9223372036854775807) (w : World) (htab : Lib.TabIs Tryz.prog w "internal/strconv.uint64pow10" .u64 Lib.pow10Tab) :
  Calls Tryz.prog 131 #[.int .i64 n] w λe w'=>e = .returned (.string ⟨(Lib.itoa n).toArray⟩) /\ ∃k os,w'=grow (w.drewN k) os:=Any.strconv_Itoa Tryz.laysM171 n h0 h1 w htab
def Tryz.laysC172_ren:Go.Shelf.Ren:=⟨fun | 172=>224 | 244=>262 | 245=>175 | 247=>174 | 279=>229 | 280=>230 | 281=>231 | 282=>232 | 287=>228 | 316=>265 | 171=>131 | 205=>266 | 321=>263 | 322=>264 | 243=>186 | 246=>246 | 283=>270 | 284=>271 | 285=>272 | 286=>273 | 129=>255 | 317=>283 | 318=>284 | 319=>285 | 320=>286 | 337=>290 | 338=>291 | n=>n,fun | 9=>9 | 3=>3 | 75=>182 | 76=>256 | 4=>4 | 5=>5 | 167=>297 | 37=>252 | 0=>0 | 85=>183 | 2=>2 | 168=>300 | 53=>213 | 175=>298 | 46=>274 | 210=>332 | 127=>313 | 145=>350 | 143=>348 | 21=>21 | 171=>337 | 173=>339 | 212=>353 | 51=>323 | 20=>20 | 213=>354 | 232=>357 | 233=>358 | 80=>258 | n=>n,fun | 15=>0 | 16=>1 | 17=>2 | 18=>4 | 19=>5 | n=>n⟩
theorem Tryz.laysC172:Go.Proofs.LaysC.n172 Tryz.prog Tryz.laysC172_ren := {
 mixed:=by kernel_rfl
 f129:=Tryz.func255.trans (congrArg some (by kernel_rfl))
 f171:=Tryz.func131.trans (congrArg some (by kernel_rfl))
 f172:=Tryz.func224.trans (congrArg some (by kernel_rfl))
 f205:=Tryz.func266.trans (congrArg some (by kernel_rfl))
 f243:=Tryz.func186.trans (congrArg some (by kernel_rfl))
 f244:=Tryz.func262.trans (congrArg some (by kernel_rfl))
 f245:=Tryz.func175.trans (congrArg some (by kernel_rfl))
 f246:=Tryz.func246.trans (congrArg some (by kernel_rfl))
 f247:=Tryz.func174.trans (congrArg some (by kernel_rfl))
 f279:=Tryz.func229.trans (congrArg some (by kernel_rfl))
 f280:=Tryz.func230.trans (congrArg some (by kernel_rfl))
 f281:=Tryz.func231.trans (congrArg some (by kernel_rfl))
 f282:=Tryz.func232.trans (congrArg some (by kernel_rfl))
 f283:=Tryz.func270.trans (congrArg some (by kernel_rfl))
 f284:=Tryz.func271.trans (congrArg some (by kernel_rfl))
 f285:=Tryz.func272.trans (congrArg some (by kernel_rfl))
 f286:=Tryz.func273.trans (congrArg some (by kernel_rfl))
 f287:=Tryz.func228.trans (congrArg some (by kernel_rfl))
 f316:=Tryz.func265.trans (congrArg some (by kernel_rfl))
 f317:=Tryz.func283.trans (congrArg some (by kernel_rfl))
 f318:=Tryz.func284.trans (congrArg some (by kernel_rfl))
 f319:=Tryz.func285.trans (congrArg some (by kernel_rfl))
 f320:=Tryz.func286.trans (congrArg some (by kernel_rfl))
 f321:=Tryz.func263.trans (congrArg some (by kernel_rfl))
 f322:=Tryz.func264.trans (congrArg some (by kernel_rfl))
 f337:=Tryz.func290.trans (congrArg some (by kernel_rfl))
 f338:=Tryz.func291.trans (congrArg some (by kernel_rfl))
 t0:=Tryz.underlying0
 a0:=Tryz.isAgg0
 z0:=Tryz.sizeOf0
 v0:=Tryz.zeroValue0
 t2:=Tryz.underlying2
 a2:=Tryz.isAgg2
 z2:=Tryz.sizeOf2
 v2:=Tryz.zeroValue2
 t3:=Tryz.underlying3
 a3:=Tryz.isAgg3
 z3:=Tryz.sizeOf3
 v3:=Tryz.zeroValue3
 t4:=Tryz.underlying4
 a4:=Tryz.isAgg4
 z4:=Tryz.sizeOf4
 v4:=Tryz.zeroValue4
 t5:=Tryz.underlying5
 a5:=Tryz.isAgg5
 z5:=Tryz.sizeOf5
 v5:=Tryz.zeroValue5
 t9:=Tryz.underlying9
 a9:=Tryz.isAgg9
 z9:=Tryz.sizeOf9
 v9:=Tryz.zeroValue9
 t20:=Tryz.underlying20
 a20:=Tryz.isAgg20
 z20:=Tryz.sizeOf20
 v20:=Tryz.zeroValue20
 t21:=Tryz.underlying21
 a21:=Tryz.isAgg21
 z21:=Tryz.sizeOf21
 v21:=Tryz.zeroValue21
 t37:=Tryz.underlying252
 a37:=Tryz.isAgg252
 z37:=Tryz.sizeOf252
 v37:=Tryz.zeroValue252
 t46:=Tryz.underlying274
 a46:=Tryz.isAgg274
 z46:=Tryz.sizeOf274
 v46:=Tryz.zeroValue274
 t51:=Tryz.underlying323
 a51:=Tryz.isAgg323
 z51:=Tryz.sizeOf323
 v51:=Tryz.zeroValue323
 t53:=Tryz.underlying213
 a53:=Tryz.isAgg213
 z53:=Tryz.sizeOf213
 v53:=Tryz.zeroValue213
 t75:=Tryz.underlying182
 a75:=Tryz.isAgg182
 z75:=Tryz.sizeOf182
 v75:=Tryz.zeroValue182
 t76:=Tryz.underlying256
 a76:=Tryz.isAgg256
 z76:=Tryz.sizeOf256
 v76:=Tryz.zeroValue256
 t85:=Tryz.underlying183
 a85:=Tryz.isAgg183
 z85:=Tryz.sizeOf183
 v85:=Tryz.zeroValue183
 t127:=Tryz.underlying313
 a127:=Tryz.isAgg313
 z127:=Tryz.sizeOf313
 v127:=Tryz.zeroValue313
 t143:=Tryz.underlying348
 a143:=Tryz.isAgg348
 z143:=Tryz.sizeOf348
 v143:=Tryz.zeroValue348
 t145:=Tryz.underlying350
 a145:=Tryz.isAgg350
 z145:=Tryz.sizeOf350
 v145:=Tryz.zeroValue350
 t167:=Tryz.underlying297
 a167:=Tryz.isAgg297
 z167:=Tryz.sizeOf297
 v167:=Tryz.zeroValue297
 t168:=Tryz.underlying300
 a168:=Tryz.isAgg300
 z168:=Tryz.sizeOf300
 v168:=Tryz.zeroValue300
 t171:=Tryz.underlying337
 a171:=Tryz.isAgg337
 z171:=Tryz.sizeOf337
 v171:=Tryz.zeroValue337
 t173:=Tryz.underlying339
 a173:=Tryz.isAgg339
 z173:=Tryz.sizeOf339
 v173:=Tryz.zeroValue339
 t175:=Tryz.underlying298
 a175:=Tryz.isAgg298
 z175:=Tryz.sizeOf298
 v175:=Tryz.zeroValue298
 t210:=Tryz.underlying332
 a210:=Tryz.isAgg332
 z210:=Tryz.sizeOf332
 v210:=Tryz.zeroValue332
 t212:=Tryz.underlying353
 a212:=Tryz.isAgg353
 z212:=Tryz.sizeOf353
 v212:=Tryz.zeroValue353
 t213:=Tryz.underlying354
 a213:=Tryz.isAgg354
 z213:=Tryz.sizeOf354
 t232:=Tryz.underlying357
 a232:=Tryz.isAgg357
 z232:=Tryz.sizeOf357
 v232:=Tryz.zeroValue357
 t233:=Tryz.underlying358
 a233:=Tryz.isAgg358
 z233:=Tryz.sizeOf358
 v233:=Tryz.zeroValue358
 g15:=by kernel_rfl
 g16:=by kernel_rfl
 g17:=by kernel_rfl
 g18:=by kernel_rfl
 g19:=by kernel_rfl
 t80:=Tryz.underlying258
 a80:=Tryz.isAgg258
 z80:=Tryz.sizeOf258
 v80:=Tryz.zeroValue258
 i0:=by kernel_rfl
 i2:=by kernel_rfl
 i3:=by kernel_rfl
 i4:=by kernel_rfl
 i5:=by kernel_rfl
 i9:=by kernel_rfl
 i20:=by kernel_rfl
 i21:=by kernel_rfl
 i37:=by kernel_rfl
 i46:=by kernel_rfl
 i51:=by kernel_rfl
 i53:=by kernel_rfl
 i75:=by kernel_rfl
 i76:=by kernel_rfl
 i80:=by kernel_rfl
 i85:=by kernel_rfl
 i127:=by kernel_rfl
 i143:=by kernel_rfl
 i145:=by kernel_rfl
 i167:=by kernel_rfl
 i168:=by kernel_rfl
 i171:=by kernel_rfl
 i173:=by kernel_rfl
 i175:=by kernel_rfl
 i210:=by kernel_rfl
 i212:=by kernel_rfl
 i232:=by kernel_rfl
 i233:=by kernel_rfl
 m15:=by kernel_rfl
 m16:=by kernel_rfl
 m17:=by kernel_rfl
 m18:=by kernel_rfl
 m19:=by kernel_rfl
 c0:=by kernel_rfl
 c2:=by kernel_rfl
 c3:=by kernel_rfl
 c4:=by kernel_rfl
 c5:=by kernel_rfl
 c9:=by kernel_rfl
 c20:=by kernel_rfl
 c21:=by kernel_rfl
 c37:=by kernel_rfl
 c46:=by kernel_rfl
 c51:=by kernel_rfl
 c53:=by kernel_rfl
 c75:=by kernel_rfl
 c76:=by kernel_rfl
 c80:=by kernel_rfl
 c85:=by kernel_rfl
 c127:=by kernel_rfl
 c143:=by kernel_rfl
 c145:=by kernel_rfl
 c167:=by kernel_rfl
 c168:=by kernel_rfl
 c171:=by kernel_rfl
 c173:=by kernel_rfl
 c175:=by kernel_rfl
 c210:=by kernel_rfl
 c212:=by kernel_rfl
 c213:=by kernel_rfl
 c232:=by kernel_rfl
 c233:=by kernel_rfl }
theorem Tryz.strconv_Atoi_ok (s:ByteArray) (hmax:s.size<=9223372036854775806) (v:Int) (h:Lib.atoiAll s.data.toList = .ok v) (w:World) :
  Calls Tryz.prog 224 #[.string s] w λe w'=>e = .returned (.tuple #[.int .i64 v,.nilIface])/\(w'=w \/ ∃t,w'=Lib.bytesWorld w 5 t):=Any.strconv_Atoi_ok Tryz.laysC172 s hmax v h w
def Tryz.laysC174_ren:Go.Shelf.Ren:=⟨fun | 174=>115 | 247=>174 | 245=>175 | 287=>228 | 279=>229 | 280=>230 | 281=>231 | 282=>232 | 321=>263 | 322=>264 | 316=>265 | 171=>131 | 205=>266 | 243=>186 | 246=>246 | 283=>270 | 284=>271 | 285=>272 | 286=>273 | 129=>255 | 317=>283 | 318=>284 | 319=>285 | 320=>286 | 337=>290 | 338=>291 | n=>n,fun | 9=>9 | 3=>3 | 2=>2 | 75=>182 | 85=>183 | 4=>4 | 167=>297 | 5=>5 | 53=>213 | 175=>298 | 46=>274 | 168=>300 | 37=>252 | 0=>0 | 210=>332 | 21=>21 | 127=>313 | 145=>350 | 143=>348 | 171=>337 | 173=>339 | 212=>353 | 51=>323 | 20=>20 | 213=>354 | 232=>357 | 233=>358 | 80=>258 | n=>n,fun | 15=>0 | 16=>1 | 17=>2 | 18=>4 | 19=>5 | n=>n⟩
theorem Tryz.laysC174:Go.Proofs.LaysC.n174 Tryz.prog Tryz.laysC174_ren := {
 mixed:=by kernel_rfl
 f129:=Tryz.func255.trans (congrArg some (by kernel_rfl))
 f171:=Tryz.func131.trans (congrArg some (by kernel_rfl))
 f174:=Tryz.func115.trans (congrArg some (by kernel_rfl))
 f205:=Tryz.func266.trans (congrArg some (by kernel_rfl))
 f243:=Tryz.func186.trans (congrArg some (by kernel_rfl))
 f245:=Tryz.func175.trans (congrArg some (by kernel_rfl))
 f246:=Tryz.func246.trans (congrArg some (by kernel_rfl))
 f247:=Tryz.func174.trans (congrArg some (by kernel_rfl))
 f279:=Tryz.func229.trans (congrArg some (by kernel_rfl))
 f280:=Tryz.func230.trans (congrArg some (by kernel_rfl))
 f281:=Tryz.func231.trans (congrArg some (by kernel_rfl))
 f282:=Tryz.func232.trans (congrArg some (by kernel_rfl))
 f283:=Tryz.func270.trans (congrArg some (by kernel_rfl))
 f284:=Tryz.func271.trans (congrArg some (by kernel_rfl))
 f285:=Tryz.func272.trans (congrArg some (by kernel_rfl))
 f286:=Tryz.func273.trans (congrArg some (by kernel_rfl))
 f287:=Tryz.func228.trans (congrArg some (by kernel_rfl))
 f316:=Tryz.func265.trans (congrArg some (by kernel_rfl))
 f317:=Tryz.func283.trans (congrArg some (by kernel_rfl))
 f318:=Tryz.func284.trans (congrArg some (by kernel_rfl))
 f319:=Tryz.func285.trans (congrArg some (by kernel_rfl))
 f320:=Tryz.func286.trans (congrArg some (by kernel_rfl))
 f321:=Tryz.func263.trans (congrArg some (by kernel_rfl))
 f322:=Tryz.func264.trans (congrArg some (by kernel_rfl))
 f337:=Tryz.func290.trans (congrArg some (by kernel_rfl))
 f338:=Tryz.func291.trans (congrArg some (by kernel_rfl))
 t0:=Tryz.underlying0
 a0:=Tryz.isAgg0
 z0:=Tryz.sizeOf0
 v0:=Tryz.zeroValue0
 t2:=Tryz.underlying2
 a2:=Tryz.isAgg2
 z2:=Tryz.sizeOf2
 v2:=Tryz.zeroValue2
 t3:=Tryz.underlying3
 a3:=Tryz.isAgg3
 z3:=Tryz.sizeOf3
 v3:=Tryz.zeroValue3
 t4:=Tryz.underlying4
 a4:=Tryz.isAgg4
 z4:=Tryz.sizeOf4
 v4:=Tryz.zeroValue4
 t5:=Tryz.underlying5
 a5:=Tryz.isAgg5
 z5:=Tryz.sizeOf5
 v5:=Tryz.zeroValue5
 t9:=Tryz.underlying9
 a9:=Tryz.isAgg9
 z9:=Tryz.sizeOf9
 v9:=Tryz.zeroValue9
 t20:=Tryz.underlying20
 a20:=Tryz.isAgg20
 z20:=Tryz.sizeOf20
 v20:=Tryz.zeroValue20
 t21:=Tryz.underlying21
 a21:=Tryz.isAgg21
 z21:=Tryz.sizeOf21
 v21:=Tryz.zeroValue21
 t37:=Tryz.underlying252
 a37:=Tryz.isAgg252
 z37:=Tryz.sizeOf252
 v37:=Tryz.zeroValue252
 t46:=Tryz.underlying274
 a46:=Tryz.isAgg274
 z46:=Tryz.sizeOf274
 v46:=Tryz.zeroValue274
 t51:=Tryz.underlying323
 a51:=Tryz.isAgg323
 z51:=Tryz.sizeOf323
 v51:=Tryz.zeroValue323
 t53:=Tryz.underlying213
 a53:=Tryz.isAgg213
 z53:=Tryz.sizeOf213
 v53:=Tryz.zeroValue213
 t75:=Tryz.underlying182
 a75:=Tryz.isAgg182
 z75:=Tryz.sizeOf182
 v75:=Tryz.zeroValue182
 t85:=Tryz.underlying183
 a85:=Tryz.isAgg183
 z85:=Tryz.sizeOf183
 v85:=Tryz.zeroValue183
 t127:=Tryz.underlying313
 a127:=Tryz.isAgg313
 z127:=Tryz.sizeOf313
 v127:=Tryz.zeroValue313
 t143:=Tryz.underlying348
 a143:=Tryz.isAgg348
 z143:=Tryz.sizeOf348
 v143:=Tryz.zeroValue348
 t145:=Tryz.underlying350
 a145:=Tryz.isAgg350
 z145:=Tryz.sizeOf350
 v145:=Tryz.zeroValue350
 t167:=Tryz.underlying297
 a167:=Tryz.isAgg297
 z167:=Tryz.sizeOf297
 v167:=Tryz.zeroValue297
 t168:=Tryz.underlying300
 a168:=Tryz.isAgg300
 z168:=Tryz.sizeOf300
 v168:=Tryz.zeroValue300
 t171:=Tryz.underlying337
 a171:=Tryz.isAgg337
 z171:=Tryz.sizeOf337
 v171:=Tryz.zeroValue337
 t173:=Tryz.underlying339
 a173:=Tryz.isAgg339
 z173:=Tryz.sizeOf339
 v173:=Tryz.zeroValue339
 t175:=Tryz.underlying298
 a175:=Tryz.isAgg298
 z175:=Tryz.sizeOf298
 v175:=Tryz.zeroValue298
 t210:=Tryz.underlying332
 a210:=Tryz.isAgg332
 z210:=Tryz.sizeOf332
 v210:=Tryz.zeroValue332
 t212:=Tryz.underlying353
 a212:=Tryz.isAgg353
 z212:=Tryz.sizeOf353
 v212:=Tryz.zeroValue353
 t213:=Tryz.underlying354
 a213:=Tryz.isAgg354
 z213:=Tryz.sizeOf354
 t232:=Tryz.underlying357
 a232:=Tryz.isAgg357
 z232:=Tryz.sizeOf357
 v232:=Tryz.zeroValue357
 t233:=Tryz.underlying358
 a233:=Tryz.isAgg358
 z233:=Tryz.sizeOf358
 v233:=Tryz.zeroValue358
 g15:=by kernel_rfl
 g16:=by kernel_rfl
 g17:=by kernel_rfl
 g18:=by kernel_rfl
 g19:=by kernel_rfl
 t80:=Tryz.underlying258
 a80:=Tryz.isAgg258
 z80:=Tryz.sizeOf258
 v80:=Tryz.zeroValue258
 i0:=by kernel_rfl
 i2:=by kernel_rfl
 i3:=by kernel_rfl
 i4:=by kernel_rfl
 i5:=by kernel_rfl
 i9:=by kernel_rfl
 i20:=by kernel_rfl
 i21:=by kernel_rfl
 i37:=by kernel_rfl
 i46:=by kernel_rfl
 i51:=by kernel_rfl
 i53:=by kernel_rfl
 i75:=by kernel_rfl
 i80:=by kernel_rfl
 i85:=by kernel_rfl
 i127:=by kernel_rfl
 i143:=by kernel_rfl
 i145:=by kernel_rfl
 i167:=by kernel_rfl
 i168:=by kernel_rfl
 i171:=by kernel_rfl
 i173:=by kernel_rfl
 i175:=by kernel_rfl
 i210:=by kernel_rfl
 i212:=by kernel_rfl
 i232:=by kernel_rfl
 i233:=by kernel_rfl
 m15:=by kernel_rfl
 m16:=by kernel_rfl
 m17:=by kernel_rfl
 m18:=by kernel_rfl
 m19:=by kernel_rfl
 c0:=by kernel_rfl
 c2:=by kernel_rfl
 c3:=by kernel_rfl
 c4:=by kernel_rfl
 c5:=by kernel_rfl
 c9:=by kernel_rfl
 c20:=by kernel_rfl
 c21:=by kernel_rfl
 c37:=by kernel_rfl
 c46:=by kernel_rfl
 c51:=by kernel_rfl
 c53:=by kernel_rfl
 c75:=by kernel_rfl
 c80:=by kernel_rfl
 c85:=by kernel_rfl
 c127:=by kernel_rfl
 c143:=by kernel_rfl
 c145:=by kernel_rfl
 c167:=by kernel_rfl
 c168:=by kernel_rfl
 c171:=by kernel_rfl
 c173:=by kernel_rfl
 c175:=by kernel_rfl
 c210:=by kernel_rfl
 c212:=by kernel_rfl
 c213:=by kernel_rfl
 c232:=by kernel_rfl
 c233:=by kernel_rfl }
theorem Tryz.strconv_ParseInt_10_at64_ok (s:ByteArray) (hmax:s.size<=9223372036854775806) (v:Int) (h:Lib.parseIntB 64 s.data.toList = .ok v) (w:World) :
  Calls Tryz.prog 115 #[.string s,.int .i64 10,.int .i64 64] w λe w'=>e = .returned (.tuple #[.int .i64 v,.nilIface])/\(w'=w \/ ∃t,w'=Lib.bytesWorld w 5 t):=Any.strconv_ParseInt_10_at64_ok Tryz.laysC174 s hmax v h w
theorem Tryz.strconv_ParseInt_10_at64_range_var (s : ByteArray) (hlim : s.size ≤ 281474976710656) (h : Lib.parseIntB 64 s.data.toList = .range) (tp : TypeId) (p : Value) (w : World) (hvar : w.var? Tryz.prog "strconv.ErrRange" = some #[.iface tp p]) :
  Calls Tryz.prog 115 #[.string s,.int .i64 10,.int .i64 64] w λe w' => ∃N,e = .returned (.tuple #[.int .i64 (Lib.intSat 64 s.data.toList),.iface 300 (.pointer (some ⟨N,0,none⟩))])/\w.heap.size<=N/\w'.heap[N]? = some (.cells #[.string ⟨#[80,97,114,115,101,73,110,116]⟩,.string s,.iface tp p] 332 (0,0))/\Below w.heap.size w w':=Any.strconv_ParseInt_10_at64_range_var Tryz.laysC174 s hlim h tp p w hvar
def Tryz.laysPu14_ren:Go.Shelf.Ren:=⟨fun | 14=>280 | 16=>228 | 17=>175 | 19=>263 | 20=>264 | 21=>229 | 22=>230 | 23=>231 | 24=>232 | 25=>265 | 27=>131 | 26=>266 | 28=>186 | 29=>246 | 30=>270 | 31=>271 | 32=>272 | 33=>273 | 35=>255 | 34=>283 | 36=>284 | 37=>285 | 38=>286 | 39=>290 | 40=>291 | n=>n,fun | 9=>9 | 3=>3 | 22=>213 | 24=>182 | 25=>298 | 4=>4 | 34=>297 | 5=>5 | 36=>274 | 37=>252 | 0=>0 | 39=>300 | 21=>21 | 44=>332 | 47=>313 | 50=>350 | 48=>348 | 2=>2 | 52=>337 | 55=>339 | 59=>353 | 60=>323 | 20=>20 | 61=>354 | 65=>357 | 66=>358 | 67=>258 | n=>n,fun | 0=>0 | 1=>1 | 2=>2 | 3=>4 | 4=>5 | n=>n⟩
theorem Tryz.laysPu14:Go.Proofs.LaysPu.n14 Tryz.prog Tryz.laysPu14_ren := {
 mixed:=by kernel_rfl
 f14:=Tryz.func280.trans (congrArg some (by kernel_rfl))
 f16:=Tryz.func228.trans (congrArg some (by kernel_rfl))
 f17:=Tryz.func175.trans (congrArg some (by kernel_rfl))
 f19:=Tryz.func263.trans (congrArg some (by kernel_rfl))
 f20:=Tryz.func264.trans (congrArg some (by kernel_rfl))
 f21:=Tryz.func229.trans (congrArg some (by kernel_rfl))
 f22:=Tryz.func230.trans (congrArg some (by kernel_rfl))
 f23:=Tryz.func231.trans (congrArg some (by kernel_rfl))
 f24:=Tryz.func232.trans (congrArg some (by kernel_rfl))
 f25:=Tryz.func265.trans (congrArg some (by kernel_rfl))
 f26:=Tryz.func266.trans (congrArg some (by kernel_rfl))
 f27:=Tryz.func131.trans (congrArg some (by kernel_rfl))
 f28:=Tryz.func186.trans (congrArg some (by kernel_rfl))
 f29:=Tryz.func246.trans (congrArg some (by kernel_rfl))
 f30:=Tryz.func270.trans (congrArg some (by kernel_rfl))
 f31:=Tryz.func271.trans (congrArg some (by kernel_rfl))
 f32:=Tryz.func272.trans (congrArg some (by kernel_rfl))
 f33:=Tryz.func273.trans (congrArg some (by kernel_rfl))
 f34:=Tryz.func283.trans (congrArg some (by kernel_rfl))
 f35:=Tryz.func255.trans (congrArg some (by kernel_rfl))
 f36:=Tryz.func284.trans (congrArg some (by kernel_rfl))
 f37:=Tryz.func285.trans (congrArg some (by kernel_rfl))
 f38:=Tryz.func286.trans (congrArg some (by kernel_rfl))
 f39:=Tryz.func290.trans (congrArg some (by kernel_rfl))
 f40:=Tryz.func291.trans (congrArg some (by kernel_rfl))
 t0:=Tryz.underlying0
 a0:=Tryz.isAgg0
 z0:=Tryz.sizeOf0
 v0:=Tryz.zeroValue0
 i0:=by kernel_rfl
 t2:=Tryz.underlying2
 a2:=Tryz.isAgg2
 z2:=Tryz.sizeOf2
 v2:=Tryz.zeroValue2
 i2:=by kernel_rfl
 t3:=Tryz.underlying3
 a3:=Tryz.isAgg3
 z3:=Tryz.sizeOf3
 v3:=Tryz.zeroValue3
 i3:=by kernel_rfl
 t4:=Tryz.underlying4
 a4:=Tryz.isAgg4
 z4:=Tryz.sizeOf4
 v4:=Tryz.zeroValue4
 i4:=by kernel_rfl
 t5:=Tryz.underlying5
 a5:=Tryz.isAgg5
 z5:=Tryz.sizeOf5
 v5:=Tryz.zeroValue5
 i5:=by kernel_rfl
 t9:=Tryz.underlying9
 a9:=Tryz.isAgg9
 z9:=Tryz.sizeOf9
 v9:=Tryz.zeroValue9
 i9:=by kernel_rfl
 t20:=Tryz.underlying20
 a20:=Tryz.isAgg20
 z20:=Tryz.sizeOf20
 v20:=Tryz.zeroValue20
 i20:=by kernel_rfl
 t21:=Tryz.underlying21
 a21:=Tryz.isAgg21
 z21:=Tryz.sizeOf21
 v21:=Tryz.zeroValue21
 i21:=by kernel_rfl
 t22:=Tryz.underlying213
 a22:=Tryz.isAgg213
 z22:=Tryz.sizeOf213
 v22:=Tryz.zeroValue213
 i22:=by kernel_rfl
 t24:=Tryz.underlying182
 a24:=Tryz.isAgg182
 z24:=Tryz.sizeOf182
 v24:=Tryz.zeroValue182
 i24:=by kernel_rfl
 t25:=Tryz.underlying298
 a25:=Tryz.isAgg298
 z25:=Tryz.sizeOf298
 v25:=Tryz.zeroValue298
 i25:=by kernel_rfl
 t34:=Tryz.underlying297
 a34:=Tryz.isAgg297
 z34:=Tryz.sizeOf297
 v34:=Tryz.zeroValue297
 i34:=by kernel_rfl
 c34:=by kernel_rfl
 t36:=Tryz.underlying274
 a36:=Tryz.isAgg274
 z36:=Tryz.sizeOf274
 v36:=Tryz.zeroValue274
 i36:=by kernel_rfl
 t37:=Tryz.underlying252
 a37:=Tryz.isAgg252
 z37:=Tryz.sizeOf252
 v37:=Tryz.zeroValue252
 i37:=by kernel_rfl
 t39:=Tryz.underlying300
 a39:=Tryz.isAgg300
 z39:=Tryz.sizeOf300
 v39:=Tryz.zeroValue300
 i39:=by kernel_rfl
 t44:=Tryz.underlying332
 a44:=Tryz.isAgg332
 z44:=Tryz.sizeOf332
 v44:=Tryz.zeroValue332
 i44:=by kernel_rfl
 t47:=Tryz.underlying313
 a47:=Tryz.isAgg313
 z47:=Tryz.sizeOf313
 v47:=Tryz.zeroValue313
 i47:=by kernel_rfl
 t48:=Tryz.underlying348
 a48:=Tryz.isAgg348
 z48:=Tryz.sizeOf348
 v48:=Tryz.zeroValue348
 i48:=by kernel_rfl
 t50:=Tryz.underlying350
 a50:=Tryz.isAgg350
 z50:=Tryz.sizeOf350
 v50:=Tryz.zeroValue350
 i50:=by kernel_rfl
 t52:=Tryz.underlying337
 a52:=Tryz.isAgg337
 z52:=Tryz.sizeOf337
 v52:=Tryz.zeroValue337
 i52:=by kernel_rfl
 t55:=Tryz.underlying339
 a55:=Tryz.isAgg339
 z55:=Tryz.sizeOf339
 v55:=Tryz.zeroValue339
 i55:=by kernel_rfl
 t59:=Tryz.underlying353
 a59:=Tryz.isAgg353
 z59:=Tryz.sizeOf353
 v59:=Tryz.zeroValue353
 i59:=by kernel_rfl
 t60:=Tryz.underlying323
 a60:=Tryz.isAgg323
 z60:=Tryz.sizeOf323
 v60:=Tryz.zeroValue323
 i60:=by kernel_rfl
 t61:=Tryz.underlying354
 a61:=Tryz.isAgg354
 z61:=Tryz.sizeOf354
 t65:=Tryz.underlying357
 a65:=Tryz.isAgg357
 z65:=Tryz.sizeOf357
 v65:=Tryz.zeroValue357
 i65:=by kernel_rfl
 t66:=Tryz.underlying358
 a66:=Tryz.isAgg358
 z66:=Tryz.sizeOf358
 v66:=Tryz.zeroValue358
 i66:=by kernel_rfl
 t67:=Tryz.underlying258
 a67:=Tryz.isAgg258
 z67:=Tryz.sizeOf258
 v67:=Tryz.zeroValue258
 i67:=by kernel_rfl
 g0:=by kernel_rfl
 m0:=by kernel_rfl
 g1:=by kernel_rfl
 m1:=by kernel_rfl
 g2:=by kernel_rfl
 m2:=by kernel_rfl
 g3:=by kernel_rfl
 m3:=by kernel_rfl
 g4:=by kernel_rfl
 m4:=by kernel_rfl }
theorem Tryz.strconv_ParseUint_10_at64_ok (s:ByteArray) (hmax:s.size<=9223372036854775806) (u:Nat) (h:Lib.parseUintB 64 s.data.toList = .ok u) (w:World) :
  Calls Tryz.prog 280 #[.string s,.int .i64 10,.int .i64 64] w λe w'=>e = .returned (.tuple #[.int .u64 u,.nilIface])/\(w'=w\/w'=Lib.bytesWorld w 5 s):=Any.strconv_ParseUint_10_at64_ok Tryz.laysPu14 s hmax u h w
def Tryz.lays212_ren:Go.Shelf.Ren:=⟨fun | 212=>212 | 263=>259 | 264=>260 | n=>n,fun | 46=>274 | 51=>323 | 146=>324 | 53=>213 | 148=>326 | n=>n,fun | n=>n⟩
theorem Tryz.lays212:Go.Proofs.Lays.n212 Tryz.prog Tryz.lays212_ren := {
 mixed:=by kernel_rfl
 f212:=Tryz.func212.trans (congrArg some (by kernel_rfl))
 f263:=Tryz.func259.trans (congrArg some (by kernel_rfl))
 f264:=Tryz.func260.trans (congrArg some (by kernel_rfl))
 t46:=Tryz.underlying274
 a46:=Tryz.isAgg274
 z46:=Tryz.sizeOf274
 v46:=Tryz.zeroValue274
 t51:=Tryz.underlying323
 a51:=Tryz.isAgg323
 z51:=Tryz.sizeOf323
 v51:=Tryz.zeroValue323
 t53:=Tryz.underlying213
 a53:=Tryz.isAgg213
 z53:=Tryz.sizeOf213
 v53:=Tryz.zeroValue213
 t146:=Tryz.underlying324
 a146:=Tryz.isAgg324
 z146:=Tryz.sizeOf324
 v146:=Tryz.zeroValue324
 t148:=Tryz.underlying326
 a148:=Tryz.isAgg326
 z148:=Tryz.sizeOf326
 v148:=Tryz.zeroValue326 }
theorem Tryz.bits_Mul (x y:Nat) (hx:x<18446744073709551616) (hy:y<18446744073709551616) (w:World) :
  Calls Tryz.prog 212 #[.int .u64 x,.int .u64 y] w λe w'=>e = .returned (.tuple #[.int .u64 ((x*y/18446744073709551616:Nat):Int),.int .u64 ((x*y%18446744073709551616:Nat):Int)])/\w'=w:=Any.bits_Mul Tryz.lays212 x y hx hy w
end Go.Proofs
namespace Go.Proofs.YtmhfccigejcphaaGreatDoor
section
open Go.RowKit Go.Sort Go.Lib
open Lib (hid)
structure Laid (w:World):Prop where
 tab : Lib.TabIs Tryz.prog w "internal/strconv.uint64pow10" .u64 Lib.pow10Tab
 rng : ∃ tp p, w.var? Tryz.prog "strconv.ErrRange" = some #[.iface tp p]
theorem Kj2 {P:Program} {w w':World} {n:String} {cs:Array Value} (he:Ext w w') (h:w.var? P n=some cs):w'.var? P n=some cs:=by
 unfold World.var? at *
 cases hg:P.globalNamed n with
 | none=>rw [hg] at h;cases h
 | some g =>
  rw [hg] at h;simp only [Option.bind_some] at *
  by_cases hlt:g<w.heap.size
  ·rw [he.block g hlt];exact h
  ·rw [Array.getElem?_eq_none (by omega)] at h;cases h
theorem Laid.ext {w w':World} (h:Laid w) (he:Ext w w'):Laid w':=by
 refine ⟨?_,?_⟩
 ·have:=h.tab;unfold Lib.TabIs at *;exact Kj2 he this
 ·obtain ⟨tp,p,hv⟩:=h.rng;exact ⟨tp,p,Kj2 he hv⟩
theorem KgN (w:World) (k:Nat) (os:Array Obj):Ext w (grow (w.drewN k) os) :=
 Ext.mk' ⟨rfl,rfl,rfl,by simp [grow,World.drewN],λi hi=>by
  show (w.heap++os)[i]? = _
  rw [Array.getElem?_append_left hi]⟩
theorem QY (w:World) (t:TypeId) (s:ByteArray):Ext w (Lib.bytesWorld w t s):=by
 refine Ext.mk' ⟨?_,?_,?_,?_,?_⟩
 all_goals unfold Lib.bytesWorld World.freeze
 all_goals split
 ·rfl
 ·rfl
 ·rfl
 ·rfl
 ·rfl
 ·rfl
 ·simp
 ·simp
 ·intro k hk;exact Below.heap_alloc _ _ _ hk
 ·intro k hk;simp only [Array.getElem?_modify];rw [if_neg (by show ¬w.heap.size=k;omega)];exact Below.heap_alloc _ _ _ hk
theorem Kc6 {n:Int} (h0 : -9223372036854775808<=n) (h1:n<=9223372036854775807) {w:World} (hL:Laid w) :
  Calls Tryz.prog 131 #[.int .i64 n] w λe w'=>e = .returned (I n)/\Ext w w':=by
 refine (Tryz.strconv_Itoa n h0 h1 w hL.tab).mono ?_;rintro e w' ⟨rfl,k,os,rfl⟩;exact ⟨rfl,KgN _ _ _⟩
theorem Qa {n:Int} (h0 : -9223372036854775808<=n) (h1:n<=9223372036854775807) {w:World} (hL:Laid w) :
  Calls Tryz.prog 77 #[.int .i64 n] w λe w'=>e = .returned (I n)/\Ext w w':=by
 have H:=hid (Kc6 h0 h1 hL);clear h0 h1 hL
 go_enter Tryz.func77,Tryz.ntmps77
 go_wp2_with (first | (go_at_call 131;refine H.out.mono ?_;rintro e w1 ⟨rfl,hb1⟩))
 go_ret;exact ⟨rfl,hb1⟩
theorem KfE (z:Int):(⟨(Lib.itoa z).toArray⟩:ByteArray).size=(Lib.itoa z).length:=by
 show (Lib.itoa z).toArray.size=_;simp
theorem Ko9 (u:Nat):(⟨(Lib.decDigits u).toArray⟩:ByteArray).size=Lib.nDigits u:=by
 show (Lib.decDigits u).toArray.size=_;simp [Lib.decDigits_length]
theorem Xu {z:Int} (h1 : -9223372036854775808<=z) (h2:z<=9223372036854775807) (hn:nd z<=LIM) (w:World) :
  Calls Tryz.prog 61 #[I z] w λe w'=>e = .returned (.tuple #[.int .i64 z,.bool true])/\Ext w w':=by
 have hs:(⟨(Lib.itoa z).toArray⟩:ByteArray).size<=9223372036854775806:=by
  rw [KfE,QO];unfold LIM at hn;split<;>omega
 have H:=hid (Tryz.strconv_ParseInt_10_at64_ok ⟨(Lib.itoa z).toArray⟩ hs z (KeH h1 h2));clear hs hn h1 h2
 go_enter Tryz.func61,Tryz.ntmps61
 go_wp2_with (first | (go_at_call 115;refine (H.out _).mono ?_;rintro e w1 ⟨rfl,hb1⟩))
 go_ret2;refine ⟨rfl,?_⟩
 rcases hb1 with rfl | ⟨t,rfl⟩
 ·exact Ext.refl _
 ·exact QY _ _ _
theorem KeL {z:Int} (h:z < -9223372036854775808\/9223372036854775807<z) (hn:nd z<=LIM) {w:World} (hL:Laid w) :
  Calls Tryz.prog 61 #[I z] w λe w'=>e = .returned (.tuple #[.int .i64 0,.bool false])/\Ext w w':=by
 have hs:(⟨(Lib.itoa z).toArray⟩:ByteArray).size<=281474976710656:=by
  rw [KfE,QO];unfold LIM at hn;split<;>omega
 obtain ⟨tp,p,hv⟩:=hL.rng;have H:=hid (Tryz.strconv_ParseInt_10_at64_range_var ⟨(Lib.itoa z).toArray⟩ hs (KdO h) tp p w hv);clear hs hn h hL hv
 go_enter Tryz.func61,Tryz.ntmps61
 go_wp2_with (first | (go_at_call 115;refine H.out.mono ?_;rintro e w1 ⟨N,rfl,_,_,hb1⟩))
 go_ret2;exact ⟨rfl,hb1⟩
def Kcp (z:Int):Bool:=decide (-9223372036854775808<=z/\z<=9223372036854775807)
theorem JX {z:Int} (hn:nd z<=LIM) {w:World} (hL:Laid w) :
  Calls Tryz.prog 61 #[I z] w λe w'=>e = .returned (.tuple #[.int .i64 (if Kcp z then z else 0),.bool (Kcp z)])/\Ext w w':=by
 by_cases h : -9223372036854775808<=z/\z<=9223372036854775807
 ·have e:Kcp z=true:=decide_eq_true h;rw [e];exact Xu h.1 h.2 hn w
 ·have e:Kcp z=false:=decide_eq_false h;rw [e];exact KeL (by omega) hn hL
theorem KkG {z:Int} {m:Nat} (hn:nd z<=LIM) (h:m<(Lib.itoa z).length) (_hm:m<=18) (w:World) :
  Calls Tryz.prog 169 #[I z,.int .i64 m] w λe w'=>e = .returned (.tuple #[.int .i64 0,.bool false])/\Ext w w':=by
 have hl:(Lib.itoa z).length<=1000000000001:=by rw [QO];unfold LIM at hn;split<;>omega
 have ht:(m:Int)<((Lib.itoa z).length:Int):=by omega
 clear hn h;unfold I;generalize Lib.itoa z=l at *
 go_enter Tryz.func169,Tryz.ntmps169
 go_wp2
 go_ret2;exact ⟨rfl,Ext.refl _⟩
theorem Kik {z:Int} {m:Nat} (h:(Lib.itoa z).length<=m) (_hm:m<=18) (w:World) :
  Calls Tryz.prog 169 #[I z,.int .i64 m] w λe w'=>e = .returned (.tuple #[.int .i64 z,.bool true])/\Ext w w':=by
 have hb:z.natAbs<10^18:=by
  refine KA (k:=18) ?_;have:=QO z;unfold nd at this;split at this<;>omega
 have hs:(⟨(Lib.itoa z).toArray⟩:ByteArray).size<=9223372036854775806:=by rw [KfE];omega
 have H:=hid (Tryz.strconv_Atoi_ok ⟨(Lib.itoa z).toArray⟩ hs z (KeR (by omega) (by omega)));have ht : ¬(m:Int)<((Lib.itoa z).length:Int):=by omega
 clear hb hs h
 go_enter Tryz.func169,Tryz.ntmps169
 go_wp2_with (first | (go_at_call 224;refine (H.out _).mono ?_;rintro e w1 ⟨rfl,hb1⟩))
 go_quiet (fail)
 go_wp2
 go_ret2;refine ⟨rfl,?_⟩
 rcases hb1 with rfl | ⟨t,rfl⟩
 ·exact (Ext.refl _).drewN _
 ·exact (QY _ _ _).drewN _
theorem KeX {u:Nat} (h:u<18446744073709551616) (w:World) :
  Calls Tryz.prog 254 #[D u] w λe w'=>e = .returned (.tuple #[.int .u64 u,.bool true])/\Ext w w':=by
 have hs:(⟨(Lib.decDigits u).toArray⟩:ByteArray).size<=9223372036854775806:=by
  rw [Ko9];have:=KM (u:=u) (k:=20) (by omega) (by omega);omega
 have H:=hid (Tryz.strconv_ParseUint_10_at64_ok ⟨(Lib.decDigits u).toArray⟩ hs u (ZN h));clear hs h
 go_enter Tryz.func254,Tryz.ntmps254
 go_wp2_with (first | (go_at_call 280;refine (H.out _).mono ?_;rintro e w1 ⟨rfl,hb1⟩))
 go_ret2;refine ⟨rfl,?_⟩
 rcases hb1 with rfl | rfl
 ·exact Ext.refl _
 ·exact QY _ _ _
end
end Go.Proofs.YtmhfccigejcphaaGreatDoor
