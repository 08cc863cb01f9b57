/- Part 2 of the proof of the claim: contracts of the functions that it reaches, and plain laws; no condition. -/
import Derived.Shelf.Strings.Builder1
import Derived.Shelf.Strings.Builder2
import Derived.Shelf.Strings.OnBuilder
import Derived.Shelf.Strings.BuilderF
import Derived.Shelf.Strings.Builder2Cap
import Derived.Shelf.Strconv.Atoi
import Derived.Shelf.Strconv.Itoa0
import Derived.Shelf.Strconv.Itoa1
import Derived.Shelf.LaysM
import Derived.Shelf.Strconv.Itoa2
import Derived.Shelf.Strconv.Itoa3
import Derived.Shelf.Strconv.AtoiErrFast
import Derived.Shelf.Strconv.ParseIntEmpty
import Derived.Shelf.Strconv.AtoiFail
import Derived.Shelf.Strconv.Clone
import Derived.Shelf.Strconv.SyntaxError
import Derived.Shelf.LaysC
import Derived.Shelf.Strconv.ToError
import Derived.Shelf.Strconv.Lower
import Derived.Shelf.Strconv.ParseUint10
import Derived.Shelf.Strconv.ParseUint10Empty
import Derived.Shelf.Strconv.ParseUint10Any
import Derived.Shelf.Strconv.ParseInt10
import Derived.Shelf.Strconv.AtoiLong
import Derived.Shelf.Strconv.AtoiInnerAll
import Derived.Shelf.Strconv.RangeError
import Derived.Shelf.Strconv.ToErrorRange
import Derived.Shelf.Strconv.AtoiAll
import Derived.Shelf.Strconv.ErrVarAll
import Derived.Shelf.Strconv.ParseUintEmpty
import Derived.Shelf.Strconv.ParseUint10b64
import Derived.Shelf.Strconv.ParseUint10b32
import Derived.Shelf.Strconv.ParseUint10b16
import Derived.Shelf.Strconv.ParseUint10b8
import Derived.Shelf.Strconv.ParseUint10At
import Derived.Shelf.Strconv.ParseInt10At64
import Derived.Shelf.Strconv.ParseInt10At32
import Derived.Shelf.Strconv.ParseInt10At16
import Derived.Shelf.Strconv.ParseInt10At8
import Derived.Shelf.Strconv.ParseInt10All
import Derived.Shelf.Strconv.ParseIntPublic10
import Derived.Shelf.Strconv.ErrVarParseInt
import Derived.Ground.MpProg
import Derived.Shelf.Pu.ParseUintPublic10
import Derived.Shelf.Pu.ErrVarParseUint
import Derived.Shelf.Bits.Mul64
import Derived.Test.YtjnpakablgommaaGreatDoorProg
import Derived.Test.YtjnpakablgommaaGreatDoorV01
set_option maxRecDepth 100000
namespace Go.Proofs
open Go.Shelf Go.RowKit Go.Sort Go.Lib
def Tryz.lays156_ren:Go.Shelf.Ren:=⟨fun | 156=>96 | 165=>155 | 166=>156 | 169=>157 | 240=>216 | 241=>217 | 276=>265 | 277=>266 | n=>n,fun | 31=>160 | 9=>9 | 3=>3 | 4=>4 | 0=>0 | 20=>20 | 72=>229 | 76=>231 | 70=>226 | 37=>227 | 75=>211 | 127=>279 | 164=>328 | 5=>5 | 80=>233 | n=>n,fun | n=>n⟩
theorem Tryz.lays156:Go.Proofs.Lays.n156 Tryz.prog Tryz.lays156_ren := {
 mixed:=by kernel_rfl
 f156:=Tryz.func96.trans (congrArg some (by kernel_rfl))
 f165:=Tryz.func155.trans (congrArg some (by kernel_rfl))
 f166:=Tryz.func156.trans (congrArg some (by kernel_rfl))
 f169:=Tryz.func157.trans (congrArg some (by kernel_rfl))
 f240:=Tryz.func216.trans (congrArg some (by kernel_rfl))
 f241:=Tryz.func217.trans (congrArg some (by kernel_rfl))
 f276:=Tryz.func265.trans (congrArg some (by kernel_rfl))
 f277:=Tryz.func266.trans (congrArg some (by kernel_rfl))
 t0:=Tryz.underlying0
 a0:=Tryz.isAgg0
 z0:=Tryz.sizeOf0
 v0:=Tryz.zeroValue0
 t3:=Tryz.underlying3
 a3:=Tryz.isAgg3
 z3:=Tryz.sizeOf3
 v3:=Tryz.zeroValue3
 t4:=Tryz.underlying4
 a4:=Tryz.isAgg4
 z4:=Tryz.sizeOf4
 v4:=Tryz.zeroValue4
 t9:=Tryz.underlying9
 a9:=Tryz.isAgg9
 z9:=Tryz.sizeOf9
 v9:=Tryz.zeroValue9
 t20:=Tryz.underlying20
 a20:=Tryz.isAgg20
 z20:=Tryz.sizeOf20
 v20:=Tryz.zeroValue20
 t31:=Tryz.underlying160
 a31:=Tryz.isAgg160
 z31:=Tryz.sizeOf160
 v31:=Tryz.zeroValue160
 t37:=Tryz.underlying227
 a37:=Tryz.isAgg227
 z37:=Tryz.sizeOf227
 v37:=Tryz.zeroValue227
 t70:=Tryz.underlying226
 a70:=Tryz.isAgg226
 z70:=Tryz.sizeOf226
 v70:=Tryz.zeroValue226
 t72:=Tryz.underlying229
 a72:=Tryz.isAgg229
 z72:=Tryz.sizeOf229
 v72:=Tryz.zeroValue229
 t75:=Tryz.underlying211
 a75:=Tryz.isAgg211
 z75:=Tryz.sizeOf211
 v75:=Tryz.zeroValue211
 t76:=Tryz.underlying231
 a76:=Tryz.isAgg231
 z76:=Tryz.sizeOf231
 v76:=Tryz.zeroValue231
 t127:=Tryz.underlying279
 a127:=Tryz.isAgg279
 z127:=Tryz.sizeOf279
 v127:=Tryz.zeroValue279
 t164:=Tryz.underlying328
 a164:=Tryz.isAgg328
 z164:=Tryz.sizeOf328
 v164:=Tryz.zeroValue328 }
theorem Tryz.Builder_Extra_156:Builder.Extra Tryz.prog Tryz.lays156_ren := {
 sizeBuilder:=by kernel_rfl
 liesBuilder:=by kernel_rfl
 t5:=Tryz.underlying5
 a5:=Tryz.isAgg5
 z5:=Tryz.sizeOf5
 v5:=Tryz.zeroValue5
 infoByte:=by kernel_rfl
 cellsByte:=by kernel_rfl
 sizeByte:=by kernel_rfl
 neB5:=by decide }
theorem Tryz.strings_Join (bk o c:Nat) (xs:List ByteArray) (sep:ByteArray) (w:World) (hcells : ∀ (j:Nat) x,xs[j]? = some x→w.cell? ⟨bk,o+j,none⟩=some (.string x)) (hbk:bk<w.heap.size) (hN:xs.length≤140737488355328) (hcap:xs.length≤c) (hlen:(Lib.join (xs.map (·.data.toList)) sep.data.toList).length≤140737488355328) :
  Calls Tryz.prog 96 #[.slice (some ⟨bk,o,none⟩) xs.length c,.string sep] w fun e w'=>e = .returned (.string ⟨(Lib.join (xs.map (·.data.toList)) sep.data.toList).toArray⟩)∧Below w.heap.size w w':=Any.strings_Join Tryz.lays156 Tryz.Builder_Extra_156 bk o c xs sep w hcells hbk hN hcap hlen
def Tryz.lays283_ren:Go.Shelf.Ren:=⟨fun | 283=>296 | n=>n,fun | 3=>3 | 9=>9 | 4=>4 | n=>n,fun | n=>n⟩
theorem Tryz.lays283:Go.Proofs.Lays.n283 Tryz.prog Tryz.lays283_ren := {
 mixed:=by kernel_rfl
 f283:=Tryz.func296.trans (congrArg some (by kernel_rfl))
 t3:=Tryz.underlying3
 a3:=Tryz.isAgg3
 z3:=Tryz.sizeOf3
 v3:=Tryz.zeroValue3
 t4:=Tryz.underlying4
 a4:=Tryz.isAgg4
 z4:=Tryz.sizeOf4
 v4:=Tryz.zeroValue4
 t9:=Tryz.underlying9
 a9:=Tryz.isAgg9
 z9:=Tryz.sizeOf9
 v9:=Tryz.zeroValue9 }
theorem Tryz.internal_strconv_small (i:Nat) (h:i<100) (w:World) :
  Calls Tryz.prog 296 #[.int .i64 i] w fun e w'=>e = .returned (.string ⟨(Lib.decDigits i).toArray⟩)∧w'=w:=Any.internal_strconv_small Tryz.lays283 i h w
def Tryz.laysM284_ren:Go.Shelf.Ren:=⟨fun | 284=>297 | 129=>282 | 317=>314 | 318=>315 | n=>n,fun | 53=>247 | 3=>3 | 212=>383 | 0=>0 | 4=>4 | 46=>275 | 5=>5 | 9=>9 | n=>n,fun | 17=>3 | n=>n⟩
theorem Tryz.laysM284:Go.Proofs.LaysM.n284 Tryz.prog Tryz.laysM284_ren := {
 mixed:=by kernel_rfl
 f129:=Tryz.func282.trans (congrArg some (by kernel_rfl))
 f284:=Tryz.func297.trans (congrArg some (by kernel_rfl))
 f317:=Tryz.func314.trans (congrArg some (by kernel_rfl))
 f318:=Tryz.func315.trans (congrArg some (by kernel_rfl))
 t0:=Tryz.underlying0
 a0:=Tryz.isAgg0
 z0:=Tryz.sizeOf0
 v0:=Tryz.zeroValue0
 t3:=Tryz.underlying3
 a3:=Tryz.isAgg3
 z3:=Tryz.sizeOf3
 v3:=Tryz.zeroValue3
 t4:=Tryz.underlying4
 a4:=Tryz.isAgg4
 z4:=Tryz.sizeOf4
 v4:=Tryz.zeroValue4
 t5:=Tryz.underlying5
 a5:=Tryz.isAgg5
 z5:=Tryz.sizeOf5
 v5:=Tryz.zeroValue5
 t9:=Tryz.underlying9
 a9:=Tryz.isAgg9
 z9:=Tryz.sizeOf9
 v9:=Tryz.zeroValue9
 t46:=Tryz.underlying275
 a46:=Tryz.isAgg275
 z46:=Tryz.sizeOf275
 v46:=Tryz.zeroValue275
 t53:=Tryz.underlying247
 a53:=Tryz.isAgg247
 z53:=Tryz.sizeOf247
 v53:=Tryz.zeroValue247
 t212:=Tryz.underlying383
 a212:=Tryz.isAgg383
 z212:=Tryz.sizeOf383
 v212:=Tryz.zeroValue383
 g17:=by kernel_rfl
 i0:=by kernel_rfl
 i3:=by kernel_rfl
 i4:=by kernel_rfl
 i5:=by kernel_rfl
 i9:=by kernel_rfl
 i46:=by kernel_rfl
 i53:=by kernel_rfl
 i212:=by kernel_rfl
 m17:=by kernel_rfl }
theorem Tryz.internal_strconv_numDigits (u : Nat) (h1 : 1 ≤ u) (h2 : u < 18446744073709551616) (w : World) (htab : Lib.TabIs Tryz.prog w "internal/strconv.uint64pow10" .u64 Lib.pow10Tab) :
  Calls Tryz.prog 297 #[.int .u64 u] w fun e w'=>e = .returned (.int .i64 (Lib.nDigits u))∧w'=w:=Any.internal_strconv_numDigits Tryz.laysM284 u h1 h2 w htab
def Tryz.lays285_ren:Go.Shelf.Ren:=⟨fun | 285=>298 | n=>n,fun | 37=>227 | 53=>247 | 3=>3 | 4=>4 | 51=>322 | 9=>9 | 5=>5 | 0=>0 | n=>n,fun | n=>n⟩
theorem Tryz.lays285:Go.Proofs.Lays.n285 Tryz.prog Tryz.lays285_ren := {
 mixed:=by kernel_rfl
 f285:=Tryz.func298.trans (congrArg some (by kernel_rfl))
 t0:=Tryz.underlying0
 a0:=Tryz.isAgg0
 z0:=Tryz.sizeOf0
 v0:=Tryz.zeroValue0
 t3:=Tryz.underlying3
 a3:=Tryz.isAgg3
 z3:=Tryz.sizeOf3
 v3:=Tryz.zeroValue3
 t4:=Tryz.underlying4
 a4:=Tryz.isAgg4
 z4:=Tryz.sizeOf4
 v4:=Tryz.zeroValue4
 t5:=Tryz.underlying5
 a5:=Tryz.isAgg5
 z5:=Tryz.sizeOf5
 v5:=Tryz.zeroValue5
 t9:=Tryz.underlying9
 a9:=Tryz.isAgg9
 z9:=Tryz.sizeOf9
 v9:=Tryz.zeroValue9
 t37:=Tryz.underlying227
 a37:=Tryz.isAgg227
 z37:=Tryz.sizeOf227
 v37:=Tryz.zeroValue227
 t51:=Tryz.underlying322
 a51:=Tryz.isAgg322
 z51:=Tryz.sizeOf322
 v51:=Tryz.zeroValue322
 t53:=Tryz.underlying247
 a53:=Tryz.isAgg247
 z53:=Tryz.sizeOf247
 v53:=Tryz.zeroValue247 }
theorem Tryz.internal_strconv_formatBase10 (blk off cap:Nat) (u:Nat) (d:Array UInt8) (w:World) (hH:Holds (fun (b:UInt8)=>Value.int .u8 (b.toNat:Int)) w blk off d) (hu:u<10^d.size) (hu64:u<18446744073709551616) (hsz:d.size<4611686018427387904) :
  Calls Tryz.prog 298 #[.slice (some ⟨blk,off,none⟩) d.size cap,.int .u64 u] w fun e w' =>
   e = .returned (.tuple #[]) ∧ ∃ (n v':Nat) (dk:Array UInt8),w'=(putRow (fun (b:UInt8)=>Value.int .u8 (b.toNat:Int)) w blk off dk).drewN n∧FmtInv d.size u 0 v' dk:=Any.internal_strconv_formatBase10 Tryz.lays285 blk off cap u d w hH hu hu64 hsz
def Tryz.laysM171_ren:Go.Shelf.Ren:=⟨fun | 171=>152 | 243=>215 | 246=>264 | 283=>296 | 284=>297 | 285=>298 | 286=>299 | 129=>282 | 317=>314 | 318=>315 | 319=>316 | 320=>317 | 337=>321 | 338=>322 | n=>n,fun | 3=>3 | 9=>9 | 2=>2 | 4=>4 | 171=>365 | 0=>0 | 53=>247 | 37=>227 | 5=>5 | 173=>367 | 212=>383 | 51=>322 | 20=>20 | 213=>384 | 46=>275 | 232=>389 | 233=>390 | n=>n,fun | 17=>3 | 18=>4 | 19=>5 | n=>n⟩
theorem Tryz.laysM171:Go.Proofs.LaysM.n171 Tryz.prog Tryz.laysM171_ren := {
 mixed:=by kernel_rfl
 f129:=Tryz.func282.trans (congrArg some (by kernel_rfl))
 f171:=Tryz.func152.trans (congrArg some (by kernel_rfl))
 f243:=Tryz.func215.trans (congrArg some (by kernel_rfl))
 f246:=Tryz.func264.trans (congrArg some (by kernel_rfl))
 f283:=Tryz.func296.trans (congrArg some (by kernel_rfl))
 f284:=Tryz.func297.trans (congrArg some (by kernel_rfl))
 f285:=Tryz.func298.trans (congrArg some (by kernel_rfl))
 f286:=Tryz.func299.trans (congrArg some (by kernel_rfl))
 f317:=Tryz.func314.trans (congrArg some (by kernel_rfl))
 f318:=Tryz.func315.trans (congrArg some (by kernel_rfl))
 f319:=Tryz.func316.trans (congrArg some (by kernel_rfl))
 f320:=Tryz.func317.trans (congrArg some (by kernel_rfl))
 f337:=Tryz.func321.trans (congrArg some (by kernel_rfl))
 f338:=Tryz.func322.trans (congrArg some (by kernel_rfl))
 t0:=Tryz.underlying0
 a0:=Tryz.isAgg0
 z0:=Tryz.sizeOf0
 v0:=Tryz.zeroValue0
 t2:=Tryz.underlying2
 a2:=Tryz.isAgg2
 z2:=Tryz.sizeOf2
 v2:=Tryz.zeroValue2
 t3:=Tryz.underlying3
 a3:=Tryz.isAgg3
 z3:=Tryz.sizeOf3
 v3:=Tryz.zeroValue3
 t4:=Tryz.underlying4
 a4:=Tryz.isAgg4
 z4:=Tryz.sizeOf4
 v4:=Tryz.zeroValue4
 t5:=Tryz.underlying5
 a5:=Tryz.isAgg5
 z5:=Tryz.sizeOf5
 v5:=Tryz.zeroValue5
 t9:=Tryz.underlying9
 a9:=Tryz.isAgg9
 z9:=Tryz.sizeOf9
 v9:=Tryz.zeroValue9
 t20:=Tryz.underlying20
 a20:=Tryz.isAgg20
 z20:=Tryz.sizeOf20
 v20:=Tryz.zeroValue20
 t37:=Tryz.underlying227
 a37:=Tryz.isAgg227
 z37:=Tryz.sizeOf227
 v37:=Tryz.zeroValue227
 t46:=Tryz.underlying275
 a46:=Tryz.isAgg275
 z46:=Tryz.sizeOf275
 v46:=Tryz.zeroValue275
 t51:=Tryz.underlying322
 a51:=Tryz.isAgg322
 z51:=Tryz.sizeOf322
 v51:=Tryz.zeroValue322
 t53:=Tryz.underlying247
 a53:=Tryz.isAgg247
 z53:=Tryz.sizeOf247
 v53:=Tryz.zeroValue247
 t171:=Tryz.underlying365
 a171:=Tryz.isAgg365
 z171:=Tryz.sizeOf365
 v171:=Tryz.zeroValue365
 t173:=Tryz.underlying367
 a173:=Tryz.isAgg367
 z173:=Tryz.sizeOf367
 v173:=Tryz.zeroValue367
 t212:=Tryz.underlying383
 a212:=Tryz.isAgg383
 z212:=Tryz.sizeOf383
 v212:=Tryz.zeroValue383
 t213:=Tryz.underlying384
 a213:=Tryz.isAgg384
 z213:=Tryz.sizeOf384
 t232:=Tryz.underlying389
 a232:=Tryz.isAgg389
 z232:=Tryz.sizeOf389
 v232:=Tryz.zeroValue389
 t233:=Tryz.underlying390
 a233:=Tryz.isAgg390
 z233:=Tryz.sizeOf390
 v233:=Tryz.zeroValue390
 g17:=by kernel_rfl
 g18:=by kernel_rfl
 g19:=by kernel_rfl
 i0:=by kernel_rfl
 i2:=by kernel_rfl
 i3:=by kernel_rfl
 i4:=by kernel_rfl
 i5:=by kernel_rfl
 i9:=by kernel_rfl
 i20:=by kernel_rfl
 i37:=by kernel_rfl
 i46:=by kernel_rfl
 i51:=by kernel_rfl
 i53:=by kernel_rfl
 i171:=by kernel_rfl
 i173:=by kernel_rfl
 i212:=by kernel_rfl
 i232:=by kernel_rfl
 i233:=by kernel_rfl
 m17:=by kernel_rfl
 m18:=by kernel_rfl
 m19:=by kernel_rfl }
theorem Tryz.strconv_Itoa (n : Int) (h0 : -9223372036854775808 ≤ n) (h1 : n ≤ 9223372036854775807) (w : World) (htab : Lib.TabIs Tryz.prog w "internal/strconv.uint64pow10" .u64 Lib.pow10Tab) :
  Calls Tryz.prog 152 #[.int .i64 n] w fun e w'=>e = .returned (.string ⟨(Lib.itoa n).toArray⟩) ∧ ∃ k os,w'=grow (w.drewN k) os:=Any.strconv_Itoa Tryz.laysM171 n h0 h1 w htab
def Tryz.laysC172_ren:Go.Shelf.Ren:=⟨fun | 172=>251 | 244=>288 | 245=>204 | 247=>203 | 279=>256 | 280=>257 | 281=>258 | 282=>259 | 287=>255 | 316=>291 | 171=>152 | 205=>292 | 321=>289 | 322=>290 | 243=>215 | 246=>264 | 283=>296 | 284=>297 | 285=>298 | 286=>299 | 129=>282 | 317=>314 | 318=>315 | 319=>316 | 320=>317 | 337=>321 | 338=>322 | n=>n,fun | 9=>9 | 3=>3 | 75=>211 | 76=>231 | 4=>4 | 5=>5 | 167=>315 | 37=>227 | 0=>0 | 85=>212 | 2=>2 | 168=>318 | 53=>247 | 175=>316 | 46=>275 | 210=>361 | 127=>279 | 145=>379 | 143=>377 | 21=>21 | 171=>365 | 173=>367 | 212=>383 | 51=>322 | 20=>20 | 213=>384 | 232=>389 | 233=>390 | 80=>233 | n=>n,fun | 15=>0 | 16=>1 | 17=>3 | 18=>4 | 19=>5 | n=>n⟩
theorem Tryz.laysC172:Go.Proofs.LaysC.n172 Tryz.prog Tryz.laysC172_ren := {
 mixed:=by kernel_rfl
 f129:=Tryz.func282.trans (congrArg some (by kernel_rfl))
 f171:=Tryz.func152.trans (congrArg some (by kernel_rfl))
 f172:=Tryz.func251.trans (congrArg some (by kernel_rfl))
 f205:=Tryz.func292.trans (congrArg some (by kernel_rfl))
 f243:=Tryz.func215.trans (congrArg some (by kernel_rfl))
 f244:=Tryz.func288.trans (congrArg some (by kernel_rfl))
 f245:=Tryz.func204.trans (congrArg some (by kernel_rfl))
 f246:=Tryz.func264.trans (congrArg some (by kernel_rfl))
 f247:=Tryz.func203.trans (congrArg some (by kernel_rfl))
 f279:=Tryz.func256.trans (congrArg some (by kernel_rfl))
 f280:=Tryz.func257.trans (congrArg some (by kernel_rfl))
 f281:=Tryz.func258.trans (congrArg some (by kernel_rfl))
 f282:=Tryz.func259.trans (congrArg some (by kernel_rfl))
 f283:=Tryz.func296.trans (congrArg some (by kernel_rfl))
 f284:=Tryz.func297.trans (congrArg some (by kernel_rfl))
 f285:=Tryz.func298.trans (congrArg some (by kernel_rfl))
 f286:=Tryz.func299.trans (congrArg some (by kernel_rfl))
 f287:=Tryz.func255.trans (congrArg some (by kernel_rfl))
 f316:=Tryz.func291.trans (congrArg some (by kernel_rfl))
 f317:=Tryz.func314.trans (congrArg some (by kernel_rfl))
 f318:=Tryz.func315.trans (congrArg some (by kernel_rfl))
 f319:=Tryz.func316.trans (congrArg some (by kernel_rfl))
 f320:=Tryz.func317.trans (congrArg some (by kernel_rfl))
 f321:=Tryz.func289.trans (congrArg some (by kernel_rfl))
 f322:=Tryz.func290.trans (congrArg some (by kernel_rfl))
 f337:=Tryz.func321.trans (congrArg some (by kernel_rfl))
 f338:=Tryz.func322.trans (congrArg some (by kernel_rfl))
 t0:=Tryz.underlying0
 a0:=Tryz.isAgg0
 z0:=Tryz.sizeOf0
 v0:=Tryz.zeroValue0
 t2:=Tryz.underlying2
 a2:=Tryz.isAgg2
 z2:=Tryz.sizeOf2
 v2:=Tryz.zeroValue2
 t3:=Tryz.underlying3
 a3:=Tryz.isAgg3
 z3:=Tryz.sizeOf3
 v3:=Tryz.zeroValue3
 t4:=Tryz.underlying4
 a4:=Tryz.isAgg4
 z4:=Tryz.sizeOf4
 v4:=Tryz.zeroValue4
 t5:=Tryz.underlying5
 a5:=Tryz.isAgg5
 z5:=Tryz.sizeOf5
 v5:=Tryz.zeroValue5
 t9:=Tryz.underlying9
 a9:=Tryz.isAgg9
 z9:=Tryz.sizeOf9
 v9:=Tryz.zeroValue9
 t20:=Tryz.underlying20
 a20:=Tryz.isAgg20
 z20:=Tryz.sizeOf20
 v20:=Tryz.zeroValue20
 t21:=Tryz.underlying21
 a21:=Tryz.isAgg21
 z21:=Tryz.sizeOf21
 v21:=Tryz.zeroValue21
 t37:=Tryz.underlying227
 a37:=Tryz.isAgg227
 z37:=Tryz.sizeOf227
 v37:=Tryz.zeroValue227
 t46:=Tryz.underlying275
 a46:=Tryz.isAgg275
 z46:=Tryz.sizeOf275
 v46:=Tryz.zeroValue275
 t51:=Tryz.underlying322
 a51:=Tryz.isAgg322
 z51:=Tryz.sizeOf322
 v51:=Tryz.zeroValue322
 t53:=Tryz.underlying247
 a53:=Tryz.isAgg247
 z53:=Tryz.sizeOf247
 v53:=Tryz.zeroValue247
 t75:=Tryz.underlying211
 a75:=Tryz.isAgg211
 z75:=Tryz.sizeOf211
 v75:=Tryz.zeroValue211
 t76:=Tryz.underlying231
 a76:=Tryz.isAgg231
 z76:=Tryz.sizeOf231
 v76:=Tryz.zeroValue231
 t85:=Tryz.underlying212
 a85:=Tryz.isAgg212
 z85:=Tryz.sizeOf212
 v85:=Tryz.zeroValue212
 t127:=Tryz.underlying279
 a127:=Tryz.isAgg279
 z127:=Tryz.sizeOf279
 v127:=Tryz.zeroValue279
 t143:=Tryz.underlying377
 a143:=Tryz.isAgg377
 z143:=Tryz.sizeOf377
 v143:=Tryz.zeroValue377
 t145:=Tryz.underlying379
 a145:=Tryz.isAgg379
 z145:=Tryz.sizeOf379
 v145:=Tryz.zeroValue379
 t167:=Tryz.underlying315
 a167:=Tryz.isAgg315
 z167:=Tryz.sizeOf315
 v167:=Tryz.zeroValue315
 t168:=Tryz.underlying318
 a168:=Tryz.isAgg318
 z168:=Tryz.sizeOf318
 v168:=Tryz.zeroValue318
 t171:=Tryz.underlying365
 a171:=Tryz.isAgg365
 z171:=Tryz.sizeOf365
 v171:=Tryz.zeroValue365
 t173:=Tryz.underlying367
 a173:=Tryz.isAgg367
 z173:=Tryz.sizeOf367
 v173:=Tryz.zeroValue367
 t175:=Tryz.underlying316
 a175:=Tryz.isAgg316
 z175:=Tryz.sizeOf316
 v175:=Tryz.zeroValue316
 t210:=Tryz.underlying361
 a210:=Tryz.isAgg361
 z210:=Tryz.sizeOf361
 v210:=Tryz.zeroValue361
 t212:=Tryz.underlying383
 a212:=Tryz.isAgg383
 z212:=Tryz.sizeOf383
 v212:=Tryz.zeroValue383
 t213:=Tryz.underlying384
 a213:=Tryz.isAgg384
 z213:=Tryz.sizeOf384
 t232:=Tryz.underlying389
 a232:=Tryz.isAgg389
 z232:=Tryz.sizeOf389
 v232:=Tryz.zeroValue389
 t233:=Tryz.underlying390
 a233:=Tryz.isAgg390
 z233:=Tryz.sizeOf390
 v233:=Tryz.zeroValue390
 g15:=by kernel_rfl
 g16:=by kernel_rfl
 g17:=by kernel_rfl
 g18:=by kernel_rfl
 g19:=by kernel_rfl
 t80:=Tryz.underlying233
 a80:=Tryz.isAgg233
 z80:=Tryz.sizeOf233
 v80:=Tryz.zeroValue233
 i0:=by kernel_rfl
 i2:=by kernel_rfl
 i3:=by kernel_rfl
 i4:=by kernel_rfl
 i5:=by kernel_rfl
 i9:=by kernel_rfl
 i20:=by kernel_rfl
 i21:=by kernel_rfl
 i37:=by kernel_rfl
 i46:=by kernel_rfl
 i51:=by kernel_rfl
 i53:=by kernel_rfl
 i75:=by kernel_rfl
 i76:=by kernel_rfl
 i80:=by kernel_rfl
 i85:=by kernel_rfl
 i127:=by kernel_rfl
 i143:=by kernel_rfl
 i145:=by kernel_rfl
 i167:=by kernel_rfl
 i168:=by kernel_rfl
 i171:=by kernel_rfl
 i173:=by kernel_rfl
 i175:=by kernel_rfl
 i210:=by kernel_rfl
 i212:=by kernel_rfl
 i232:=by kernel_rfl
 i233:=by kernel_rfl
 m15:=by kernel_rfl
 m16:=by kernel_rfl
 m17:=by kernel_rfl
 m18:=by kernel_rfl
 m19:=by kernel_rfl
 c0:=by kernel_rfl
 c2:=by kernel_rfl
 c3:=by kernel_rfl
 c4:=by kernel_rfl
 c5:=by kernel_rfl
 c9:=by kernel_rfl
 c20:=by kernel_rfl
 c21:=by kernel_rfl
 c37:=by kernel_rfl
 c46:=by kernel_rfl
 c51:=by kernel_rfl
 c53:=by kernel_rfl
 c75:=by kernel_rfl
 c76:=by kernel_rfl
 c80:=by kernel_rfl
 c85:=by kernel_rfl
 c127:=by kernel_rfl
 c143:=by kernel_rfl
 c145:=by kernel_rfl
 c167:=by kernel_rfl
 c168:=by kernel_rfl
 c171:=by kernel_rfl
 c173:=by kernel_rfl
 c175:=by kernel_rfl
 c210:=by kernel_rfl
 c212:=by kernel_rfl
 c213:=by kernel_rfl
 c232:=by kernel_rfl
 c233:=by kernel_rfl }
theorem Tryz.strconv_Atoi_ok (s:ByteArray) (hmax:s.size≤9223372036854775806) (v:Int) (h:Lib.atoiAll s.data.toList = .ok v) (w:World) :
  Calls Tryz.prog 251 #[.string s] w fun e w'=>e = .returned (.tuple #[.int .i64 v,.nilIface])∧(w'=w ∨ ∃ t,w'=Lib.bytesWorld w 5 t):=Any.strconv_Atoi_ok Tryz.laysC172 s hmax v h w
def Tryz.laysC174_ren:Go.Shelf.Ren:=⟨fun | 174=>138 | 247=>203 | 245=>204 | 287=>255 | 279=>256 | 280=>257 | 281=>258 | 282=>259 | 321=>289 | 322=>290 | 316=>291 | 171=>152 | 205=>292 | 243=>215 | 246=>264 | 283=>296 | 284=>297 | 285=>298 | 286=>299 | 129=>282 | 317=>314 | 318=>315 | 319=>316 | 320=>317 | 337=>321 | 338=>322 | n=>n,fun | 9=>9 | 3=>3 | 2=>2 | 75=>211 | 85=>212 | 4=>4 | 167=>315 | 5=>5 | 53=>247 | 175=>316 | 46=>275 | 168=>318 | 37=>227 | 0=>0 | 210=>361 | 21=>21 | 127=>279 | 145=>379 | 143=>377 | 171=>365 | 173=>367 | 212=>383 | 51=>322 | 20=>20 | 213=>384 | 232=>389 | 233=>390 | 80=>233 | n=>n,fun | 15=>0 | 16=>1 | 17=>3 | 18=>4 | 19=>5 | n=>n⟩
theorem Tryz.laysC174:Go.Proofs.LaysC.n174 Tryz.prog Tryz.laysC174_ren := {
 mixed:=by kernel_rfl
 f129:=Tryz.func282.trans (congrArg some (by kernel_rfl))
 f171:=Tryz.func152.trans (congrArg some (by kernel_rfl))
 f174:=Tryz.func138.trans (congrArg some (by kernel_rfl))
 f205:=Tryz.func292.trans (congrArg some (by kernel_rfl))
 f243:=Tryz.func215.trans (congrArg some (by kernel_rfl))
 f245:=Tryz.func204.trans (congrArg some (by kernel_rfl))
 f246:=Tryz.func264.trans (congrArg some (by kernel_rfl))
 f247:=Tryz.func203.trans (congrArg some (by kernel_rfl))
 f279:=Tryz.func256.trans (congrArg some (by kernel_rfl))
 f280:=Tryz.func257.trans (congrArg some (by kernel_rfl))
 f281:=Tryz.func258.trans (congrArg some (by kernel_rfl))
 f282:=Tryz.func259.trans (congrArg some (by kernel_rfl))
 f283:=Tryz.func296.trans (congrArg some (by kernel_rfl))
 f284:=Tryz.func297.trans (congrArg some (by kernel_rfl))
 f285:=Tryz.func298.trans (congrArg some (by kernel_rfl))
 f286:=Tryz.func299.trans (congrArg some (by kernel_rfl))
 f287:=Tryz.func255.trans (congrArg some (by kernel_rfl))
 f316:=Tryz.func291.trans (congrArg some (by kernel_rfl))
 f317:=Tryz.func314.trans (congrArg some (by kernel_rfl))
 f318:=Tryz.func315.trans (congrArg some (by kernel_rfl))
 f319:=Tryz.func316.trans (congrArg some (by kernel_rfl))
 f320:=Tryz.func317.trans (congrArg some (by kernel_rfl))
 f321:=Tryz.func289.trans (congrArg some (by kernel_rfl))
 f322:=Tryz.func290.trans (congrArg some (by kernel_rfl))
 f337:=Tryz.func321.trans (congrArg some (by kernel_rfl))
 f338:=Tryz.func322.trans (congrArg some (by kernel_rfl))
 t0:=Tryz.underlying0
 a0:=Tryz.isAgg0
 z0:=Tryz.sizeOf0
 v0:=Tryz.zeroValue0
 t2:=Tryz.underlying2
 a2:=Tryz.isAgg2
 z2:=Tryz.sizeOf2
 v2:=Tryz.zeroValue2
 t3:=Tryz.underlying3
 a3:=Tryz.isAgg3
 z3:=Tryz.sizeOf3
 v3:=Tryz.zeroValue3
 t4:=Tryz.underlying4
 a4:=Tryz.isAgg4
 z4:=Tryz.sizeOf4
 v4:=Tryz.zeroValue4
 t5:=Tryz.underlying5
 a5:=Tryz.isAgg5
 z5:=Tryz.sizeOf5
 v5:=Tryz.zeroValue5
 t9:=Tryz.underlying9
 a9:=Tryz.isAgg9
 z9:=Tryz.sizeOf9
 v9:=Tryz.zeroValue9
 t20:=Tryz.underlying20
 a20:=Tryz.isAgg20
 z20:=Tryz.sizeOf20
 v20:=Tryz.zeroValue20
 t21:=Tryz.underlying21
 a21:=Tryz.isAgg21
 z21:=Tryz.sizeOf21
 v21:=Tryz.zeroValue21
 t37:=Tryz.underlying227
 a37:=Tryz.isAgg227
 z37:=Tryz.sizeOf227
 v37:=Tryz.zeroValue227
 t46:=Tryz.underlying275
 a46:=Tryz.isAgg275
 z46:=Tryz.sizeOf275
 v46:=Tryz.zeroValue275
 t51:=Tryz.underlying322
 a51:=Tryz.isAgg322
 z51:=Tryz.sizeOf322
 v51:=Tryz.zeroValue322
 t53:=Tryz.underlying247
 a53:=Tryz.isAgg247
 z53:=Tryz.sizeOf247
 v53:=Tryz.zeroValue247
 t75:=Tryz.underlying211
 a75:=Tryz.isAgg211
 z75:=Tryz.sizeOf211
 v75:=Tryz.zeroValue211
 t85:=Tryz.underlying212
 a85:=Tryz.isAgg212
 z85:=Tryz.sizeOf212
 v85:=Tryz.zeroValue212
 t127:=Tryz.underlying279
 a127:=Tryz.isAgg279
 z127:=Tryz.sizeOf279
 v127:=Tryz.zeroValue279
 t143:=Tryz.underlying377
 a143:=Tryz.isAgg377
 z143:=Tryz.sizeOf377
 v143:=Tryz.zeroValue377
 t145:=Tryz.underlying379
 a145:=Tryz.isAgg379
 z145:=Tryz.sizeOf379
 v145:=Tryz.zeroValue379
 t167:=Tryz.underlying315
 a167:=Tryz.isAgg315
 z167:=Tryz.sizeOf315
 v167:=Tryz.zeroValue315
 t168:=Tryz.underlying318
 a168:=Tryz.isAgg318
 z168:=Tryz.sizeOf318
 v168:=Tryz.zeroValue318
 t171:=Tryz.underlying365
 a171:=Tryz.isAgg365
 z171:=Tryz.sizeOf365
 v171:=Tryz.zeroValue365
 t173:=Tryz.underlying367
 a173:=Tryz.isAgg367
 z173:=Tryz.sizeOf367
 v173:=Tryz.zeroValue367
 t175:=Tryz.underlying316
 a175:=Tryz.isAgg316
 z175:=Tryz.sizeOf316
 v175:=Tryz.zeroValue316
 t210:=Tryz.underlying361
 a210:=Tryz.isAgg361
 z210:=Tryz.sizeOf361
 v210:=Tryz.zeroValue361
 t212:=Tryz.underlying383
 a212:=Tryz.isAgg383
 z212:=Tryz.sizeOf383
 v212:=Tryz.zeroValue383
 t213:=Tryz.underlying384
 a213:=Tryz.isAgg384
 z213:=Tryz.sizeOf384
 t232:=Tryz.underlying389
 a232:=Tryz.isAgg389
 z232:=Tryz.sizeOf389
 v232:=Tryz.zeroValue389
 t233:=Tryz.underlying390
 a233:=Tryz.isAgg390
 z233:=Tryz.sizeOf390
 v233:=Tryz.zeroValue390
 g15:=by kernel_rfl
 g16:=by kernel_rfl
 g17:=by kernel_rfl
 g18:=by kernel_rfl
 g19:=by kernel_rfl
 t80:=Tryz.underlying233
 a80:=Tryz.isAgg233
 z80:=Tryz.sizeOf233
 v80:=Tryz.zeroValue233
 i0:=by kernel_rfl
 i2:=by kernel_rfl
 i3:=by kernel_rfl
 i4:=by kernel_rfl
 i5:=by kernel_rfl
 i9:=by kernel_rfl
 i20:=by kernel_rfl
 i21:=by kernel_rfl
 i37:=by kernel_rfl
 i46:=by kernel_rfl
 i51:=by kernel_rfl
 i53:=by kernel_rfl
 i75:=by kernel_rfl
 i80:=by kernel_rfl
 i85:=by kernel_rfl
 i127:=by kernel_rfl
 i143:=by kernel_rfl
 i145:=by kernel_rfl
 i167:=by kernel_rfl
 i168:=by kernel_rfl
 i171:=by kernel_rfl
 i173:=by kernel_rfl
 i175:=by kernel_rfl
 i210:=by kernel_rfl
 i212:=by kernel_rfl
 i232:=by kernel_rfl
 i233:=by kernel_rfl
 m15:=by kernel_rfl
 m16:=by kernel_rfl
 m17:=by kernel_rfl
 m18:=by kernel_rfl
 m19:=by kernel_rfl
 c0:=by kernel_rfl
 c2:=by kernel_rfl
 c3:=by kernel_rfl
 c4:=by kernel_rfl
 c5:=by kernel_rfl
 c9:=by kernel_rfl
 c20:=by kernel_rfl
 c21:=by kernel_rfl
 c37:=by kernel_rfl
 c46:=by kernel_rfl
 c51:=by kernel_rfl
 c53:=by kernel_rfl
 c75:=by kernel_rfl
 c80:=by kernel_rfl
 c85:=by kernel_rfl
 c127:=by kernel_rfl
 c143:=by kernel_rfl
 c145:=by kernel_rfl
 c167:=by kernel_rfl
 c168:=by kernel_rfl
 c171:=by kernel_rfl
 c173:=by kernel_rfl
 c175:=by kernel_rfl
 c210:=by kernel_rfl
 c212:=by kernel_rfl
 c213:=by kernel_rfl
 c232:=by kernel_rfl
 c233:=by kernel_rfl }
theorem Tryz.strconv_ParseInt_10_at64_ok (s:ByteArray) (hmax:s.size≤9223372036854775806) (v:Int) (h:Lib.parseIntB 64 s.data.toList = .ok v) (w:World) :
  Calls Tryz.prog 138 #[.string s,.int .i64 10,.int .i64 64] w fun e w'=>e = .returned (.tuple #[.int .i64 v,.nilIface])∧(w'=w ∨ ∃ t,w'=Lib.bytesWorld w 5 t):=Any.strconv_ParseInt_10_at64_ok Tryz.laysC174 s hmax v h w
theorem Tryz.strconv_ParseInt_10_at64_range_var (s : ByteArray) (hlim : s.size ≤ 281474976710656) (h : Lib.parseIntB 64 s.data.toList = .range) (tp : TypeId) (p : Value) (w : World) (hvar : w.var? Tryz.prog "strconv.ErrRange" = some #[.iface tp p]) :
  Calls Tryz.prog 138 #[.string s,.int .i64 10,.int .i64 64] w fun e w' => ∃ N,e = .returned (.tuple #[.int .i64 (Lib.intSat 64 s.data.toList),.iface 318 (.pointer (some ⟨N,0,none⟩))])∧w.heap.size≤N∧w'.heap[N]? = some (.cells #[.string ⟨#[80,97,114,115,101,73,110,116]⟩,.string s,.iface tp p] 361 (0,0))∧Below w.heap.size w w':=Any.strconv_ParseInt_10_at64_range_var Tryz.laysC174 s hlim h tp p w hvar
def Tryz.laysPu14_ren:Go.Shelf.Ren:=⟨fun | 14=>309 | 16=>255 | 17=>204 | 19=>289 | 20=>290 | 21=>256 | 22=>257 | 23=>258 | 24=>259 | 25=>291 | 27=>152 | 26=>292 | 28=>215 | 29=>264 | 30=>296 | 31=>297 | 32=>298 | 33=>299 | 35=>282 | 34=>314 | 36=>315 | 37=>316 | 38=>317 | 39=>321 | 40=>322 | n=>n,fun | 9=>9 | 3=>3 | 22=>247 | 24=>211 | 25=>316 | 4=>4 | 34=>315 | 5=>5 | 36=>275 | 37=>227 | 0=>0 | 39=>318 | 21=>21 | 44=>361 | 47=>279 | 50=>379 | 48=>377 | 2=>2 | 52=>365 | 55=>367 | 59=>383 | 60=>322 | 20=>20 | 61=>384 | 65=>389 | 66=>390 | 67=>233 | n=>n,fun | 0=>0 | 1=>1 | 2=>3 | 3=>4 | 4=>5 | n=>n⟩
theorem Tryz.laysPu14:Go.Proofs.LaysPu.n14 Tryz.prog Tryz.laysPu14_ren := {
 mixed:=by kernel_rfl
 f14:=Tryz.func309.trans (congrArg some (by kernel_rfl))
 f16:=Tryz.func255.trans (congrArg some (by kernel_rfl))
 f17:=Tryz.func204.trans (congrArg some (by kernel_rfl))
 f19:=Tryz.func289.trans (congrArg some (by kernel_rfl))
 f20:=Tryz.func290.trans (congrArg some (by kernel_rfl))
 f21:=Tryz.func256.trans (congrArg some (by kernel_rfl))
 f22:=Tryz.func257.trans (congrArg some (by kernel_rfl))
 f23:=Tryz.func258.trans (congrArg some (by kernel_rfl))
 f24:=Tryz.func259.trans (congrArg some (by kernel_rfl))
 f25:=Tryz.func291.trans (congrArg some (by kernel_rfl))
 f26:=Tryz.func292.trans (congrArg some (by kernel_rfl))
 f27:=Tryz.func152.trans (congrArg some (by kernel_rfl))
 f28:=Tryz.func215.trans (congrArg some (by kernel_rfl))
 f29:=Tryz.func264.trans (congrArg some (by kernel_rfl))
 f30:=Tryz.func296.trans (congrArg some (by kernel_rfl))
 f31:=Tryz.func297.trans (congrArg some (by kernel_rfl))
 f32:=Tryz.func298.trans (congrArg some (by kernel_rfl))
 f33:=Tryz.func299.trans (congrArg some (by kernel_rfl))
 f34:=Tryz.func314.trans (congrArg some (by kernel_rfl))
 f35:=Tryz.func282.trans (congrArg some (by kernel_rfl))
 f36:=Tryz.func315.trans (congrArg some (by kernel_rfl))
 f37:=Tryz.func316.trans (congrArg some (by kernel_rfl))
 f38:=Tryz.func317.trans (congrArg some (by kernel_rfl))
 f39:=Tryz.func321.trans (congrArg some (by kernel_rfl))
 f40:=Tryz.func322.trans (congrArg some (by kernel_rfl))
 t0:=Tryz.underlying0
 a0:=Tryz.isAgg0
 z0:=Tryz.sizeOf0
 v0:=Tryz.zeroValue0
 i0:=by kernel_rfl
 t2:=Tryz.underlying2
 a2:=Tryz.isAgg2
 z2:=Tryz.sizeOf2
 v2:=Tryz.zeroValue2
 i2:=by kernel_rfl
 t3:=Tryz.underlying3
 a3:=Tryz.isAgg3
 z3:=Tryz.sizeOf3
 v3:=Tryz.zeroValue3
 i3:=by kernel_rfl
 t4:=Tryz.underlying4
 a4:=Tryz.isAgg4
 z4:=Tryz.sizeOf4
 v4:=Tryz.zeroValue4
 i4:=by kernel_rfl
 t5:=Tryz.underlying5
 a5:=Tryz.isAgg5
 z5:=Tryz.sizeOf5
 v5:=Tryz.zeroValue5
 i5:=by kernel_rfl
 t9:=Tryz.underlying9
 a9:=Tryz.isAgg9
 z9:=Tryz.sizeOf9
 v9:=Tryz.zeroValue9
 i9:=by kernel_rfl
 t20:=Tryz.underlying20
 a20:=Tryz.isAgg20
 z20:=Tryz.sizeOf20
 v20:=Tryz.zeroValue20
 i20:=by kernel_rfl
 t21:=Tryz.underlying21
 a21:=Tryz.isAgg21
 z21:=Tryz.sizeOf21
 v21:=Tryz.zeroValue21
 i21:=by kernel_rfl
 t22:=Tryz.underlying247
 a22:=Tryz.isAgg247
 z22:=Tryz.sizeOf247
 v22:=Tryz.zeroValue247
 i22:=by kernel_rfl
 t24:=Tryz.underlying211
 a24:=Tryz.isAgg211
 z24:=Tryz.sizeOf211
 v24:=Tryz.zeroValue211
 i24:=by kernel_rfl
 t25:=Tryz.underlying316
 a25:=Tryz.isAgg316
 z25:=Tryz.sizeOf316
 v25:=Tryz.zeroValue316
 i25:=by kernel_rfl
 t34:=Tryz.underlying315
 a34:=Tryz.isAgg315
 z34:=Tryz.sizeOf315
 v34:=Tryz.zeroValue315
 i34:=by kernel_rfl
 c34:=by kernel_rfl
 t36:=Tryz.underlying275
 a36:=Tryz.isAgg275
 z36:=Tryz.sizeOf275
 v36:=Tryz.zeroValue275
 i36:=by kernel_rfl
 t37:=Tryz.underlying227
 a37:=Tryz.isAgg227
 z37:=Tryz.sizeOf227
 v37:=Tryz.zeroValue227
 i37:=by kernel_rfl
 t39:=Tryz.underlying318
 a39:=Tryz.isAgg318
 z39:=Tryz.sizeOf318
 v39:=Tryz.zeroValue318
 i39:=by kernel_rfl
 t44:=Tryz.underlying361
 a44:=Tryz.isAgg361
 z44:=Tryz.sizeOf361
 v44:=Tryz.zeroValue361
 i44:=by kernel_rfl
 t47:=Tryz.underlying279
 a47:=Tryz.isAgg279
 z47:=Tryz.sizeOf279
 v47:=Tryz.zeroValue279
 i47:=by kernel_rfl
 t48:=Tryz.underlying377
 a48:=Tryz.isAgg377
 z48:=Tryz.sizeOf377
 v48:=Tryz.zeroValue377
 i48:=by kernel_rfl
 t50:=Tryz.underlying379
 a50:=Tryz.isAgg379
 z50:=Tryz.sizeOf379
 v50:=Tryz.zeroValue379
 i50:=by kernel_rfl
 t52:=Tryz.underlying365
 a52:=Tryz.isAgg365
 z52:=Tryz.sizeOf365
 v52:=Tryz.zeroValue365
 i52:=by kernel_rfl
 t55:=Tryz.underlying367
 a55:=Tryz.isAgg367
 z55:=Tryz.sizeOf367
 v55:=Tryz.zeroValue367
 i55:=by kernel_rfl
 t59:=Tryz.underlying383
 a59:=Tryz.isAgg383
 z59:=Tryz.sizeOf383
 v59:=Tryz.zeroValue383
 i59:=by kernel_rfl
 t60:=Tryz.underlying322
 a60:=Tryz.isAgg322
 z60:=Tryz.sizeOf322
 v60:=Tryz.zeroValue322
 i60:=by kernel_rfl
 t61:=Tryz.underlying384
 a61:=Tryz.isAgg384
 z61:=Tryz.sizeOf384
 t65:=Tryz.underlying389
 a65:=Tryz.isAgg389
 z65:=Tryz.sizeOf389
 v65:=Tryz.zeroValue389
 i65:=by kernel_rfl
 t66:=Tryz.underlying390
 a66:=Tryz.isAgg390
 z66:=Tryz.sizeOf390
 v66:=Tryz.zeroValue390
 i66:=by kernel_rfl
 t67:=Tryz.underlying233
 a67:=Tryz.isAgg233
 z67:=Tryz.sizeOf233
 v67:=Tryz.zeroValue233
 i67:=by kernel_rfl
 g0:=by kernel_rfl
 m0:=by kernel_rfl
 g1:=by kernel_rfl
 m1:=by kernel_rfl
 g2:=by kernel_rfl
 m2:=by kernel_rfl
 g3:=by kernel_rfl
 m3:=by kernel_rfl
 g4:=by kernel_rfl
 m4:=by kernel_rfl }
theorem Tryz.strconv_ParseUint_10_at64_ok (s:ByteArray) (hmax:s.size≤9223372036854775806) (u:Nat) (h:Lib.parseUintB 64 s.data.toList = .ok u) (w:World) :
  Calls Tryz.prog 309 #[.string s,.int .i64 10,.int .i64 64] w fun e w'=>e = .returned (.tuple #[.int .u64 u,.nilIface])∧(w'=w∨w'=Lib.bytesWorld w 5 s):=Any.strconv_ParseUint_10_at64_ok Tryz.laysPu14 s hmax u h w
def Tryz.lays212_ren:Go.Shelf.Ren:=⟨fun | 212=>210 | 263=>261 | 264=>262 | n=>n,fun | 46=>275 | 51=>322 | 146=>323 | 53=>247 | 148=>325 | n=>n,fun | n=>n⟩
theorem Tryz.lays212:Go.Proofs.Lays.n212 Tryz.prog Tryz.lays212_ren := {
 mixed:=by kernel_rfl
 f212:=Tryz.func210.trans (congrArg some (by kernel_rfl))
 f263:=Tryz.func261.trans (congrArg some (by kernel_rfl))
 f264:=Tryz.func262.trans (congrArg some (by kernel_rfl))
 t46:=Tryz.underlying275
 a46:=Tryz.isAgg275
 z46:=Tryz.sizeOf275
 v46:=Tryz.zeroValue275
 t51:=Tryz.underlying322
 a51:=Tryz.isAgg322
 z51:=Tryz.sizeOf322
 v51:=Tryz.zeroValue322
 t53:=Tryz.underlying247
 a53:=Tryz.isAgg247
 z53:=Tryz.sizeOf247
 v53:=Tryz.zeroValue247
 t146:=Tryz.underlying323
 a146:=Tryz.isAgg323
 z146:=Tryz.sizeOf323
 v146:=Tryz.zeroValue323
 t148:=Tryz.underlying325
 a148:=Tryz.isAgg325
 z148:=Tryz.sizeOf325
 v148:=Tryz.zeroValue325 }
theorem Tryz.bits_Mul (x y:Nat) (hx:x<18446744073709551616) (hy:y<18446744073709551616) (w:World) :
  Calls Tryz.prog 210 #[.int .u64 x,.int .u64 y] w fun e w'=>e = .returned (.tuple #[.int .u64 ((x*y/18446744073709551616:Nat):Int),.int .u64 ((x*y%18446744073709551616:Nat):Int)])∧w'=w:=Any.bits_Mul Tryz.lays212 x y hx hy w
end Go.Proofs
namespace Go.Proofs.YtjnpakablgommaaGreatDoor
open Go.RowKit Go.Sort Go.Lib
structure Laid (w:World):Prop where
 tab : Lib.TabIs Tryz.prog w "internal/strconv.uint64pow10" .u64 Lib.pow10Tab
 rng : ∃ tp p, w.var? Tryz.prog "strconv.ErrRange" = some #[.iface tp p]
theorem var_ext {P:Program} {w w':World} {n:String} {cs:Array Value} (he:Ext w w') (h:w.var? P n=some cs):w'.var? P n=some cs:=by
 unfold World.var? at *
 cases hg:P.globalNamed n with
 | none=>rw [hg] at h; cases h
 | some g =>
  rw [hg] at h
  simp only [Option.bind_some] at *
  by_cases hlt:g<w.heap.size
  ·rw [he.block g hlt]; exact h
  ·rw [Array.getElem?_eq_none (by omega)] at h; cases h
theorem Laid.ext {w w':World} (h:Laid w) (he:Ext w w'):Laid w':=by
 refine ⟨?_,?_⟩
 ·have:=h.tab; unfold Lib.TabIs at *; exact var_ext he this
 ·obtain ⟨tp,p,hv⟩:=h.rng; exact ⟨tp,p,var_ext he hv⟩
theorem ext_grow (w:World) (k:Nat) (os:Array Obj):Ext w (grow (w.drewN k) os) :=
 Ext.mk' ⟨rfl,rfl,rfl,by simp [grow,World.drewN],fun i hi=>by
  show (w.heap++os)[i]? = _
  rw [Array.getElem?_append_left hi]⟩
theorem ext_bytesWorld (w:World) (t:TypeId) (s:ByteArray):Ext w (Lib.bytesWorld w t s):=by
 refine Ext.mk' ⟨?_,?_,?_,?_,?_⟩
 all_goals unfold Lib.bytesWorld World.freeze
 all_goals split
 ·rfl
 ·rfl
 ·rfl
 ·rfl
 ·rfl
 ·rfl
 ·simp
 ·simp
 ·intro k hk; exact Below.heap_alloc _ _ _ hk
 ·intro k hk
  simp only [Array.getElem?_modify]
  rw [if_neg (by show ¬ w.heap.size=k; omega)]
  exact Below.heap_alloc _ _ _ hk
theorem Itoa_any {n:Int} (h0 : -9223372036854775808≤n) (h1:n≤9223372036854775807) {w:World} (hL:Laid w) :
  Calls Tryz.prog 152 #[.int .i64 n] w fun e w'=>e = .returned (I n)∧Ext w w':=by
 refine (Tryz.strconv_Itoa n h0 h1 w hL.tab).mono ?_
 rintro e w' ⟨rfl,k,os,rfl⟩
 exact ⟨rfl,ext_grow _ _ _⟩
theorem wholeOf_any {n:Int} (h0 : -9223372036854775808≤n) (h1:n≤9223372036854775807) {w:World} (hL:Laid w) :
  Calls Tryz.prog 137 #[.int .i64 n] w fun e w'=>e = .returned (I n)∧Ext w w':=by
 have H:=Lib.hid (Itoa_any h0 h1 hL)
 clear h0 h1 hL
 go_enter Tryz.func137,Tryz.ntmps137
 go_wp2_with (first | (go_at_call 152; refine H.out.mono ?_; rintro e w1 ⟨rfl,hb1⟩))
 go_ret
 exact ⟨rfl,hb1⟩
theorem I_size (z:Int):(⟨(Lib.itoa z).toArray⟩:ByteArray).size=(Lib.itoa z).length:=by
 show (Lib.itoa z).toArray.size=_; simp
theorem D_size (u:Nat):(⟨(Lib.decDigits u).toArray⟩:ByteArray).size=Lib.nDigits u:=by
 show (Lib.decDigits u).toArray.size=_; simp [Lib.decDigits_length]
theorem wholeSmall_ok {z:Int} (h1 : -9223372036854775808≤z) (h2:z≤9223372036854775807) (hn:nd z≤LIM) (w:World) :
  Calls Tryz.prog 78 #[I z] w fun e w'=>e = .returned (.tuple #[.int .i64 z,.bool true])∧Ext w w':=by
 have hs:(⟨(Lib.itoa z).toArray⟩:ByteArray).size≤9223372036854775806:=by
  rw [I_size,itoa_length]; unfold LIM at hn; split <;> omega
 have H:=Lib.hid (Tryz.strconv_ParseInt_10_at64_ok ⟨(Lib.itoa z).toArray⟩ hs z (parseInt_itoa h1 h2))
 clear hs hn h1 h2
 go_enter Tryz.func78,Tryz.ntmps78
 go_wp2_with (first | (go_at_call 138; refine (H.out _).mono ?_; rintro e w1 ⟨rfl,hb1⟩))
 go_ret2
 refine ⟨rfl,?_⟩
 rcases hb1 with rfl | ⟨t,rfl⟩
 ·exact Ext.refl _
 ·exact ext_bytesWorld _ _ _
theorem wholeSmall_no {z:Int} (h:z < -9223372036854775808∨9223372036854775807<z) (hn:nd z≤LIM) {w:World} (hL:Laid w) :
  Calls Tryz.prog 78 #[I z] w fun e w'=>e = .returned (.tuple #[.int .i64 0,.bool false])∧Ext w w':=by
 have hs:(⟨(Lib.itoa z).toArray⟩:ByteArray).size≤281474976710656:=by
  rw [I_size,itoa_length]; unfold LIM at hn; split <;> omega
 obtain ⟨tp,p,hv⟩:=hL.rng
 have H:=Lib.hid (Tryz.strconv_ParseInt_10_at64_range_var ⟨(Lib.itoa z).toArray⟩ hs (parseInt_range h) tp p w hv)
 clear hs hn h hL hv
 go_enter Tryz.func78,Tryz.ntmps78
 go_wp2_with (first | (go_at_call 138; refine H.out.mono ?_; rintro e w1 ⟨N,rfl,_,_,hb1⟩))
 go_ret2
 exact ⟨rfl,hb1⟩
def inI64 (z:Int):Bool:=decide (-9223372036854775808≤z∧z≤9223372036854775807)
theorem wholeSmall_any {z:Int} (hn:nd z≤LIM) {w:World} (hL:Laid w) :
  Calls Tryz.prog 78 #[I z] w fun e w'=>e = .returned (.tuple #[.int .i64 (if inI64 z then z else 0),.bool (inI64 z)])∧Ext w w':=by
 by_cases h : -9223372036854775808≤z∧z≤9223372036854775807
 ·have e:inI64 z=true:=decide_eq_true h
  rw [e]; exact wholeSmall_ok h.1 h.2 hn w
 ·have e:inI64 z=false:=decide_eq_false h
  rw [e]; exact wholeSmall_no (by omega) hn hL
theorem little_no {z:Int} {m:Nat} (hn:nd z≤LIM) (h:m<(Lib.itoa z).length) (_hm:m≤18) (w:World) :
  Calls Tryz.prog 198 #[I z,.int .i64 m] w fun e w'=>e = .returned (.tuple #[.int .i64 0,.bool false])∧Ext w w':=by
 have hl:(Lib.itoa z).length≤1000000000001:=by rw [itoa_length]; unfold LIM at hn; split <;> omega
 have ht:(m:Int)<((Lib.itoa z).length:Int):=by omega
 clear hn h
 unfold I
 generalize Lib.itoa z=l at *
 go_enter Tryz.func198,Tryz.ntmps198
 go_wp2
 go_ret2
 exact ⟨rfl,Ext.refl _⟩
theorem little_yes {z:Int} {m:Nat} (h:(Lib.itoa z).length≤m) (_hm:m≤18) (w:World) :
  Calls Tryz.prog 198 #[I z,.int .i64 m] w fun e w'=>e = .returned (.tuple #[.int .i64 z,.bool true])∧Ext w w':=by
 have hb:z.natAbs<10^18:=by
  refine lt_pow_of_nd (k:=18) ?_
  have:=itoa_length z; unfold nd at this; split at this <;> omega
 have hs:(⟨(Lib.itoa z).toArray⟩:ByteArray).size≤9223372036854775806:=by rw [I_size]; omega
 have H:=Lib.hid (Tryz.strconv_Atoi_ok ⟨(Lib.itoa z).toArray⟩ hs z (atoi_itoa (by omega) (by omega)))
 have ht : ¬ (m:Int)<((Lib.itoa z).length:Int):=by omega
 clear hb hs h
 go_enter Tryz.func198,Tryz.ntmps198
 go_wp2_with (first | (go_at_call 251; refine (H.out _).mono ?_; rintro e w1 ⟨rfl,hb1⟩))
 go_quiet (fail)
 go_wp2
 go_ret2
 refine ⟨rfl,?_⟩
 rcases hb1 with rfl | ⟨t,rfl⟩
 ·exact (Ext.refl _).drewN _
 ·exact (ext_bytesWorld _ _ _).drewN _
theorem dSmall_ok {u:Nat} (h:u<18446744073709551616) (w:World) :
  Calls Tryz.prog 281 #[D u] w fun e w'=>e = .returned (.tuple #[.int .u64 u,.bool true])∧Ext w w':=by
 have hs:(⟨(Lib.decDigits u).toArray⟩:ByteArray).size≤9223372036854775806:=by
  rw [D_size]; have:=nDigits_le (u:=u) (k:=20) (by omega) (by omega); omega
 have H:=Lib.hid (Tryz.strconv_ParseUint_10_at64_ok ⟨(Lib.decDigits u).toArray⟩ hs u (parseUint_dec h))
 clear hs h
 go_enter Tryz.func281,Tryz.ntmps281
 go_wp2_with (first | (go_at_call 309; refine (H.out _).mono ?_; rintro e w1 ⟨rfl,hb1⟩))
 go_ret2
 refine ⟨rfl,?_⟩
 rcases hb1 with rfl | rfl
 ·exact Ext.refl _
 ·exact ext_bytesWorld _ _ _
end Go.Proofs.YtjnpakablgommaaGreatDoor
