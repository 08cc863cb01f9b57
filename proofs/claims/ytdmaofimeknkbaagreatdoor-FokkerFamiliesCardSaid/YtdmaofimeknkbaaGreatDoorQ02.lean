/- Part 2 of the proof of the claim: contracts of the functions that it reaches, and plain laws; no condition. -/
import Derived.Shelf.Strconv.Atoi
import Derived.Shelf.Strconv.Itoa0
import Derived.Shelf.Strconv.Itoa1
import Derived.Shelf.LaysM
import Derived.Shelf.Strconv.Itoa2
import Derived.Shelf.Strconv.Itoa3
import Derived.Shelf.Strconv.AtoiErrFast
import Derived.Shelf.Strconv.ParseIntEmpty
import Derived.Shelf.Strconv.AtoiFail
import Derived.Shelf.Strconv.Clone
import Derived.Shelf.Strconv.SyntaxError
import Derived.Shelf.LaysC
import Derived.Shelf.Strconv.ToError
import Derived.Shelf.Strconv.Lower
import Derived.Shelf.Strconv.ParseUint10
import Derived.Shelf.Strconv.ParseUint10Empty
import Derived.Shelf.Strconv.ParseUint10Any
import Derived.Shelf.Strconv.ParseInt10
import Derived.Shelf.Strconv.AtoiLong
import Derived.Shelf.Strconv.AtoiInnerAll
import Derived.Shelf.Strconv.RangeError
import Derived.Shelf.Strconv.ToErrorRange
import Derived.Shelf.Strconv.AtoiAll
import Derived.Shelf.Strconv.ErrVarAll
import Derived.Shelf.Strconv.ParseUintEmpty
import Derived.Shelf.Strconv.ParseUint10b64
import Derived.Shelf.Strconv.ParseUint10b32
import Derived.Shelf.Strconv.ParseUint10b16
import Derived.Shelf.Strconv.ParseUint10b8
import Derived.Shelf.Strconv.ParseUint10At
import Derived.Shelf.Strconv.ParseInt10At64
import Derived.Shelf.Strconv.ParseInt10At32
import Derived.Shelf.Strconv.ParseInt10At16
import Derived.Shelf.Strconv.ParseInt10At8
import Derived.Shelf.Strconv.ParseInt10All
import Derived.Shelf.Strconv.ParseIntPublic10
import Derived.Shelf.Strconv.ErrVarParseInt
import Derived.Ground.MpProg
import Derived.Shelf.Pu.ParseUintPublic10
import Derived.Shelf.Pu.ErrVarParseUint
import Derived.Shelf.Bits.Mul64
import Derived.Test.YtdmaofimeknkbaaGreatDoorProg
import Derived.Test.YtdmaofimeknkbaaGreatDoorQ01
set_option maxRecDepth 100000
set_option maxHeartbeats 20000000
namespace Go.Proofs
open Go.Shelf Go.RowKit Go.Sort Go.Lib
def Tryz.lays283_ren:Go.Shelf.Ren:=⟨fun | 283=>152 | n=>n,fun | 3=>3 | 9=>9 | 4=>4 | n=>n,fun | n=>n⟩
theorem Tryz.lays283:Go.Proofs.Lays.n283 Tryz.prog Tryz.lays283_ren := {
 mixed:=by kernel_rfl
 f283:=Tryz.func152.trans (congrArg some (by kernel_rfl))
 t3:=Tryz.underlying3
 a3:=Tryz.isAgg3
 z3:=Tryz.sizeOf3
 v3:=Tryz.zeroValue3
 t4:=Tryz.underlying4
 a4:=Tryz.isAgg4
 z4:=Tryz.sizeOf4
 v4:=Tryz.zeroValue4
 t9:=Tryz.underlying9
 a9:=Tryz.isAgg9
 z9:=Tryz.sizeOf9
 v9:=Tryz.zeroValue9 }
theorem Tryz.internal_strconv_small (i:Nat) (h:i<100) (w:World) :
  Calls Tryz.prog 152 #[.int .i64 i] w λe w'=>e = .returned (.string ⟨(Lib.decDigits i).toArray⟩)/\w'=w:=Any.internal_strconv_small Tryz.lays283 i h w
def Tryz.laysM284_ren:Go.Shelf.Ren:=⟨fun | 284=>153 | 129=>174 | 317=>173 | 318=>175 | n=>n,fun | 53=>191 | 3=>3 | 212=>235 | 0=>0 | 4=>4 | 46=>162 | 5=>5 | 9=>9 | n=>n,fun | 17=>0 | n=>n⟩
theorem Tryz.laysM284:Go.Proofs.LaysM.n284 Tryz.prog Tryz.laysM284_ren := {
 mixed:=by kernel_rfl
 f129:=Tryz.func174.trans (congrArg some (by kernel_rfl))
 f284:=Tryz.func153.trans (congrArg some (by kernel_rfl))
 f317:=Tryz.func173.trans (congrArg some (by kernel_rfl))
 f318:=Tryz.func175.trans (congrArg some (by kernel_rfl))
 t0:=Tryz.underlying0
 a0:=Tryz.isAgg0
 z0:=Tryz.sizeOf0
 v0:=Tryz.zeroValue0
 t3:=Tryz.underlying3
 a3:=Tryz.isAgg3
 z3:=Tryz.sizeOf3
 v3:=Tryz.zeroValue3
 t4:=Tryz.underlying4
 a4:=Tryz.isAgg4
 z4:=Tryz.sizeOf4
 v4:=Tryz.zeroValue4
 t5:=Tryz.underlying5
 a5:=Tryz.isAgg5
 z5:=Tryz.sizeOf5
 v5:=Tryz.zeroValue5
 t9:=Tryz.underlying9
 a9:=Tryz.isAgg9
 z9:=Tryz.sizeOf9
 v9:=Tryz.zeroValue9
 t46:=Tryz.underlying162
 a46:=Tryz.isAgg162
 z46:=Tryz.sizeOf162
 v46:=Tryz.zeroValue162
 t53:=Tryz.underlying191
 a53:=Tryz.isAgg191
 z53:=Tryz.sizeOf191
 v53:=Tryz.zeroValue191
 t212:=Tryz.underlying235
 a212:=Tryz.isAgg235
 z212:=Tryz.sizeOf235
 v212:=Tryz.zeroValue235
 g17:=by kernel_rfl
 i0:=by kernel_rfl
 i3:=by kernel_rfl
 i4:=by kernel_rfl
 i5:=by kernel_rfl
 i9:=by kernel_rfl
 i46:=by kernel_rfl
 i53:=by kernel_rfl
 i212:=by kernel_rfl
 m17:=by kernel_rfl }
theorem Tryz.internal_strconv_numDigits (u : Nat) (h1 : 1 ≤ u) (h2 : u < 18446744073709551616) (w : World) (htab : Lib.TabIs Tryz.prog w "internal/strconv.uint64pow10" .u64 Lib.pow10Tab) :
  Calls Tryz.prog 153 #[.int .u64 u] w λe w'=>e = .returned (.int .i64 (Lib.nDigits u))/\w'=w:=Any.internal_strconv_numDigits Tryz.laysM284 u h1 h2 w htab
def Tryz.lays285_ren:Go.Shelf.Ren:=⟨fun | 285=>154 | n=>n,fun | 37=>216 | 53=>191 | 3=>3 | 4=>4 | 51=>188 | 9=>9 | 5=>5 | 0=>0 | n=>n,fun | n=>n⟩
theorem Tryz.lays285:Go.Proofs.Lays.n285 Tryz.prog Tryz.lays285_ren := {
 mixed:=by kernel_rfl
 f285:=Tryz.func154.trans (congrArg some (by kernel_rfl))
 t0:=Tryz.underlying0
 a0:=Tryz.isAgg0
 z0:=Tryz.sizeOf0
 v0:=Tryz.zeroValue0
 t3:=Tryz.underlying3
 a3:=Tryz.isAgg3
 z3:=Tryz.sizeOf3
 v3:=Tryz.zeroValue3
 t4:=Tryz.underlying4
 a4:=Tryz.isAgg4
 z4:=Tryz.sizeOf4
 v4:=Tryz.zeroValue4
 t5:=Tryz.underlying5
 a5:=Tryz.isAgg5
 z5:=Tryz.sizeOf5
 v5:=Tryz.zeroValue5
 t9:=Tryz.underlying9
 a9:=Tryz.isAgg9
 z9:=Tryz.sizeOf9
 v9:=Tryz.zeroValue9
 t37:=Tryz.underlying216
 a37:=Tryz.isAgg216
 z37:=Tryz.sizeOf216
 v37:=Tryz.zeroValue216
 t51:=Tryz.underlying188
 a51:=Tryz.isAgg188
 z51:=Tryz.sizeOf188
 v51:=Tryz.zeroValue188
 t53:=Tryz.underlying191
 a53:=Tryz.isAgg191
 z53:=Tryz.sizeOf191
 v53:=Tryz.zeroValue191 }
theorem Tryz.internal_strconv_formatBase10 (blk off cap:Nat) (u:Nat) (d:Array UInt8) (w:World) (hH:Holds (λ(b:UInt8)=>Value.int .u8 (b.toNat:Int)) w blk off d) (hu:u<10^d.size) (hu64:u<18446744073709551616) (hsz:d.size<4611686018427387904) :
  Calls Tryz.prog 154 #[.slice (some ⟨blk,off,none⟩) d.size cap,.int .u64 u] w λe w' =>
   e = .returned (.tuple #[]) /\ ∃(n v':Nat) (dk:Array UInt8),w'=(putRow (λ(b:UInt8)=>Value.int .u8 (b.toNat:Int)) w blk off dk).drewN n/\FmtInv d.size u 0 v' dk:=Any.internal_strconv_formatBase10 Tryz.lays285 blk off cap u d w hH hu hu64 hsz
def Tryz.laysM171_ren:Go.Shelf.Ren:=⟨fun | 171=>40 | 243=>78 | 246=>125 | 283=>152 | 284=>153 | 285=>154 | 286=>155 | 129=>174 | 317=>173 | 318=>175 | 319=>176 | 320=>177 | 337=>186 | 338=>187 | n=>n,fun | 3=>3 | 9=>9 | 2=>2 | 4=>4 | 171=>213 | 0=>0 | 53=>191 | 37=>216 | 5=>5 | 173=>217 | 212=>235 | 51=>188 | 20=>20 | 213=>236 | 46=>162 | 232=>250 | 233=>251 | n=>n,fun | 17=>0 | 18=>3 | 19=>4 | n=>n⟩
theorem Tryz.laysM171:Go.Proofs.LaysM.n171 Tryz.prog Tryz.laysM171_ren := {
 mixed:=by kernel_rfl
 f129:=Tryz.func174.trans (congrArg some (by kernel_rfl))
 f171:=Tryz.func40.trans (congrArg some (by kernel_rfl))
 f243:=Tryz.func78.trans (congrArg some (by kernel_rfl))
 f246:=Tryz.func125.trans (congrArg some (by kernel_rfl))
 f283:=Tryz.func152.trans (congrArg some (by kernel_rfl))
 f284:=Tryz.func153.trans (congrArg some (by kernel_rfl))
 f285:=Tryz.func154.trans (congrArg some (by kernel_rfl))
 f286:=Tryz.func155.trans (congrArg some (by kernel_rfl))
 f317:=Tryz.func173.trans (congrArg some (by kernel_rfl))
 f318:=Tryz.func175.trans (congrArg some (by kernel_rfl))
 f319:=Tryz.func176.trans (congrArg some (by kernel_rfl))
 f320:=Tryz.func177.trans (congrArg some (by kernel_rfl))
 f337:=Tryz.func186.trans (congrArg some (by kernel_rfl))
 f338:=Tryz.func187.trans (congrArg some (by kernel_rfl))
 t0:=Tryz.underlying0
 a0:=Tryz.isAgg0
 z0:=Tryz.sizeOf0
 v0:=Tryz.zeroValue0
 t2:=Tryz.underlying2
 a2:=Tryz.isAgg2
 z2:=Tryz.sizeOf2
 v2:=Tryz.zeroValue2
 t3:=Tryz.underlying3
 a3:=Tryz.isAgg3
 z3:=Tryz.sizeOf3
 v3:=Tryz.zeroValue3
 t4:=Tryz.underlying4
 a4:=Tryz.isAgg4
 z4:=Tryz.sizeOf4
 v4:=Tryz.zeroValue4
 t5:=Tryz.underlying5
 a5:=Tryz.isAgg5
 z5:=Tryz.sizeOf5
 v5:=Tryz.zeroValue5
 t9:=Tryz.underlying9
 a9:=Tryz.isAgg9
 z9:=Tryz.sizeOf9
 v9:=Tryz.zeroValue9
 t20:=Tryz.underlying20
 a20:=Tryz.isAgg20
 z20:=Tryz.sizeOf20
 v20:=Tryz.zeroValue20
 t37:=Tryz.underlying216
 a37:=Tryz.isAgg216
 z37:=Tryz.sizeOf216
 v37:=Tryz.zeroValue216
 t46:=Tryz.underlying162
 a46:=Tryz.isAgg162
 z46:=Tryz.sizeOf162
 v46:=Tryz.zeroValue162
 t51:=Tryz.underlying188
 a51:=Tryz.isAgg188
 z51:=Tryz.sizeOf188
 v51:=Tryz.zeroValue188
 t53:=Tryz.underlying191
 a53:=Tryz.isAgg191
 z53:=Tryz.sizeOf191
 v53:=Tryz.zeroValue191
 t171:=Tryz.underlying213
 a171:=Tryz.isAgg213
 z171:=Tryz.sizeOf213
 v171:=Tryz.zeroValue213
 t173:=Tryz.underlying217
 a173:=Tryz.isAgg217
 z173:=Tryz.sizeOf217
 v173:=Tryz.zeroValue217
 t212:=Tryz.underlying235
 a212:=Tryz.isAgg235
 z212:=Tryz.sizeOf235
 v212:=Tryz.zeroValue235
 t213:=Tryz.underlying236
 a213:=Tryz.isAgg236
 z213:=Tryz.sizeOf236
 t232:=Tryz.underlying250
 a232:=Tryz.isAgg250
 z232:=Tryz.sizeOf250
 v232:=Tryz.zeroValue250
 t233:=Tryz.underlying251
 a233:=Tryz.isAgg251
 z233:=Tryz.sizeOf251
 v233:=Tryz.zeroValue251
 g17:=by kernel_rfl
 g18:=by kernel_rfl
 g19:=by kernel_rfl
 i0:=by kernel_rfl
 i2:=by kernel_rfl
 i3:=by kernel_rfl
 i4:=by kernel_rfl
 i5:=by kernel_rfl
 i9:=by kernel_rfl
 i20:=by kernel_rfl
 i37:=by kernel_rfl
 i46:=by kernel_rfl
 i51:=by kernel_rfl
 i53:=by kernel_rfl
 i171:=by kernel_rfl
 i173:=by kernel_rfl
 i212:=by kernel_rfl
 i232:=by kernel_rfl
 i233:=by kernel_rfl
 m17:=by kernel_rfl
 m18:=by kernel_rfl
 m19:=by kernel_rfl }
theorem Tryz.strconv_Itoa (n : Int) (h0 : -9223372036854775808 ≤ n) (h1 : n ≤ 9223372036854775807) (w : World) (htab : Lib.TabIs Tryz.prog w "internal/strconv.uint64pow10" .u64 Lib.pow10Tab) :
  Calls Tryz.prog 40 #[.int .i64 n] w λe w'=>e = .returned (.string ⟨(Lib.itoa n).toArray⟩) /\ ∃k os,w'=grow (w.drewN k) os:=Any.strconv_Itoa Tryz.laysM171 n h0 h1 w htab
def Tryz.laysC172_ren:Go.Shelf.Ren:=⟨fun | 172=>138 | 244=>163 | 245=>145 | 247=>144 | 279=>168 | 280=>169 | 281=>170 | 282=>171 | 287=>167 | 316=>184 | 171=>40 | 205=>185 | 321=>182 | 322=>183 | 243=>78 | 246=>125 | 283=>152 | 284=>153 | 285=>154 | 286=>155 | 129=>174 | 317=>173 | 318=>175 | 319=>176 | 320=>177 | 337=>186 | 338=>187 | n=>n,fun | 9=>9 | 3=>3 | 75=>175 | 76=>194 | 4=>4 | 5=>5 | 167=>226 | 37=>216 | 0=>0 | 85=>176 | 2=>2 | 168=>229 | 53=>191 | 175=>227 | 46=>162 | 210=>243 | 127=>246 | 145=>249 | 143=>247 | 21=>21 | 171=>213 | 173=>217 | 212=>235 | 51=>188 | 20=>20 | 213=>236 | 232=>250 | 233=>251 | 80=>252 | n=>n,fun | 15=>1 | 16=>2 | 17=>0 | 18=>3 | 19=>4 | n=>n⟩
theorem Tryz.laysC172:Go.Proofs.LaysC.n172 Tryz.prog Tryz.laysC172_ren := {
 mixed:=by kernel_rfl
 f129:=Tryz.func174.trans (congrArg some (by kernel_rfl))
 f171:=Tryz.func40.trans (congrArg some (by kernel_rfl))
 f172:=Tryz.func138.trans (congrArg some (by kernel_rfl))
 f205:=Tryz.func185.trans (congrArg some (by kernel_rfl))
 f243:=Tryz.func78.trans (congrArg some (by kernel_rfl))
 f244:=Tryz.func163.trans (congrArg some (by kernel_rfl))
 f245:=Tryz.func145.trans (congrArg some (by kernel_rfl))
 f246:=Tryz.func125.trans (congrArg some (by kernel_rfl))
 f247:=Tryz.func144.trans (congrArg some (by kernel_rfl))
 f279:=Tryz.func168.trans (congrArg some (by kernel_rfl))
 f280:=Tryz.func169.trans (congrArg some (by kernel_rfl))
 f281:=Tryz.func170.trans (congrArg some (by kernel_rfl))
 f282:=Tryz.func171.trans (congrArg some (by kernel_rfl))
 f283:=Tryz.func152.trans (congrArg some (by kernel_rfl))
 f284:=Tryz.func153.trans (congrArg some (by kernel_rfl))
 f285:=Tryz.func154.trans (congrArg some (by kernel_rfl))
 f286:=Tryz.func155.trans (congrArg some (by kernel_rfl))
 f287:=Tryz.func167.trans (congrArg some (by kernel_rfl))
 f316:=Tryz.func184.trans (congrArg some (by kernel_rfl))
 f317:=Tryz.func173.trans (congrArg some (by kernel_rfl))
 f318:=Tryz.func175.trans (congrArg some (by kernel_rfl))
 f319:=Tryz.func176.trans (congrArg some (by kernel_rfl))
 f320:=Tryz.func177.trans (congrArg some (by kernel_rfl))
 f321:=Tryz.func182.trans (congrArg some (by kernel_rfl))
 f322:=Tryz.func183.trans (congrArg some (by kernel_rfl))
 f337:=Tryz.func186.trans (congrArg some (by kernel_rfl))
 f338:=Tryz.func187.trans (congrArg some (by kernel_rfl))
 t0:=Tryz.underlying0
 a0:=Tryz.isAgg0
 z0:=Tryz.sizeOf0
 v0:=Tryz.zeroValue0
 t2:=Tryz.underlying2
 a2:=Tryz.isAgg2
 z2:=Tryz.sizeOf2
 v2:=Tryz.zeroValue2
 t3:=Tryz.underlying3
 a3:=Tryz.isAgg3
 z3:=Tryz.sizeOf3
 v3:=Tryz.zeroValue3
 t4:=Tryz.underlying4
 a4:=Tryz.isAgg4
 z4:=Tryz.sizeOf4
 v4:=Tryz.zeroValue4
 t5:=Tryz.underlying5
 a5:=Tryz.isAgg5
 z5:=Tryz.sizeOf5
 v5:=Tryz.zeroValue5
 t9:=Tryz.underlying9
 a9:=Tryz.isAgg9
 z9:=Tryz.sizeOf9
 v9:=Tryz.zeroValue9
 t20:=Tryz.underlying20
 a20:=Tryz.isAgg20
 z20:=Tryz.sizeOf20
 v20:=Tryz.zeroValue20
 t21:=Tryz.underlying21
 a21:=Tryz.isAgg21
 z21:=Tryz.sizeOf21
 v21:=Tryz.zeroValue21
 t37:=Tryz.underlying216
 a37:=Tryz.isAgg216
 z37:=Tryz.sizeOf216
 v37:=Tryz.zeroValue216
 t46:=Tryz.underlying162
 a46:=Tryz.isAgg162
 z46:=Tryz.sizeOf162
 v46:=Tryz.zeroValue162
 t51:=Tryz.underlying188
 a51:=Tryz.isAgg188
 z51:=Tryz.sizeOf188
 v51:=Tryz.zeroValue188
 t53:=Tryz.underlying191
 a53:=Tryz.isAgg191
 z53:=Tryz.sizeOf191
 v53:=Tryz.zeroValue191
 t75:=Tryz.underlying175
 a75:=Tryz.isAgg175
 z75:=Tryz.sizeOf175
 v75:=Tryz.zeroValue175
 t76:=Tryz.underlying194
 a76:=Tryz.isAgg194
 z76:=Tryz.sizeOf194
 v76:=Tryz.zeroValue194
 t85:=Tryz.underlying176
 a85:=Tryz.isAgg176
 z85:=Tryz.sizeOf176
 v85:=Tryz.zeroValue176
 t127:=Tryz.underlying246
 a127:=Tryz.isAgg246
 z127:=Tryz.sizeOf246
 v127:=Tryz.zeroValue246
 t143:=Tryz.underlying247
 a143:=Tryz.isAgg247
 z143:=Tryz.sizeOf247
 v143:=Tryz.zeroValue247
 t145:=Tryz.underlying249
 a145:=Tryz.isAgg249
 z145:=Tryz.sizeOf249
 v145:=Tryz.zeroValue249
 t167:=Tryz.underlying226
 a167:=Tryz.isAgg226
 z167:=Tryz.sizeOf226
 v167:=Tryz.zeroValue226
 t168:=Tryz.underlying229
 a168:=Tryz.isAgg229
 z168:=Tryz.sizeOf229
 v168:=Tryz.zeroValue229
 t171:=Tryz.underlying213
 a171:=Tryz.isAgg213
 z171:=Tryz.sizeOf213
 v171:=Tryz.zeroValue213
 t173:=Tryz.underlying217
 a173:=Tryz.isAgg217
 z173:=Tryz.sizeOf217
 v173:=Tryz.zeroValue217
 t175:=Tryz.underlying227
 a175:=Tryz.isAgg227
 z175:=Tryz.sizeOf227
 v175:=Tryz.zeroValue227
 t210:=Tryz.underlying243
 a210:=Tryz.isAgg243
 z210:=Tryz.sizeOf243
 v210:=Tryz.zeroValue243
 t212:=Tryz.underlying235
 a212:=Tryz.isAgg235
 z212:=Tryz.sizeOf235
 v212:=Tryz.zeroValue235
 t213:=Tryz.underlying236
 a213:=Tryz.isAgg236
 z213:=Tryz.sizeOf236
 t232:=Tryz.underlying250
 a232:=Tryz.isAgg250
 z232:=Tryz.sizeOf250
 v232:=Tryz.zeroValue250
 t233:=Tryz.underlying251
 a233:=Tryz.isAgg251
 z233:=Tryz.sizeOf251
 v233:=Tryz.zeroValue251
 g15:=by kernel_rfl
 g16:=by kernel_rfl
 g17:=by kernel_rfl
 g18:=by kernel_rfl
 g19:=by kernel_rfl
 t80:=Tryz.underlying252
 a80:=Tryz.isAgg252
 z80:=Tryz.sizeOf252
 v80:=Tryz.zeroValue252
 i0:=by kernel_rfl
 i2:=by kernel_rfl
 i3:=by kernel_rfl
 i4:=by kernel_rfl
 i5:=by kernel_rfl
 i9:=by kernel_rfl
 i20:=by kernel_rfl
 i21:=by kernel_rfl
 i37:=by kernel_rfl
 i46:=by kernel_rfl
 i51:=by kernel_rfl
 i53:=by kernel_rfl
 i75:=by kernel_rfl
 i76:=by kernel_rfl
 i80:=by kernel_rfl
 i85:=by kernel_rfl
 i127:=by kernel_rfl
 i143:=by kernel_rfl
 i145:=by kernel_rfl
 i167:=by kernel_rfl
 i168:=by kernel_rfl
 i171:=by kernel_rfl
 i173:=by kernel_rfl
 i175:=by kernel_rfl
 i210:=by kernel_rfl
 i212:=by kernel_rfl
 i232:=by kernel_rfl
 i233:=by kernel_rfl
 m15:=by kernel_rfl
 m16:=by kernel_rfl
 m17:=by kernel_rfl
 m18:=by kernel_rfl
 m19:=by kernel_rfl
 c0:=by kernel_rfl
 c2:=by kernel_rfl
 c3:=by kernel_rfl
 c4:=by kernel_rfl
 c5:=by kernel_rfl
 c9:=by kernel_rfl
 c20:=by kernel_rfl
 c21:=by kernel_rfl
 c37:=by kernel_rfl
 c46:=by kernel_rfl
 c51:=by kernel_rfl
 c53:=by kernel_rfl
 c75:=by kernel_rfl
 c76:=by kernel_rfl
 c80:=by kernel_rfl
 c85:=by kernel_rfl
 c127:=by kernel_rfl
 c143:=by kernel_rfl
 c145:=by kernel_rfl
 c167:=by kernel_rfl
 c168:=by kernel_rfl
 c171:=by kernel_rfl
 c173:=by kernel_rfl
 c175:=by kernel_rfl
 c210:=by kernel_rfl
 c212:=by kernel_rfl
 c213:=by kernel_rfl
 c232:=by kernel_rfl
 c233:=by kernel_rfl }
theorem Tryz.strconv_Atoi_ok (s:ByteArray) (hmax:s.size<=9223372036854775806) (v:Int) (h:Lib.atoiAll s.data.toList = .ok v) (w:World) :
  Calls Tryz.prog 138 #[.string s] w λe w'=>e = .returned (.tuple #[.int .i64 v,.nilIface])/\(w'=w \/ ∃t,w'=Lib.bytesWorld w 5 t):=Any.strconv_Atoi_ok Tryz.laysC172 s hmax v h w
def Tryz.laysC174_ren:Go.Shelf.Ren:=⟨fun | 174=>119 | 247=>144 | 245=>145 | 287=>167 | 279=>168 | 280=>169 | 281=>170 | 282=>171 | 321=>182 | 322=>183 | 316=>184 | 171=>40 | 205=>185 | 243=>78 | 246=>125 | 283=>152 | 284=>153 | 285=>154 | 286=>155 | 129=>174 | 317=>173 | 318=>175 | 319=>176 | 320=>177 | 337=>186 | 338=>187 | n=>n,fun | 9=>9 | 3=>3 | 2=>2 | 75=>175 | 85=>176 | 4=>4 | 167=>226 | 5=>5 | 53=>191 | 175=>227 | 46=>162 | 168=>229 | 37=>216 | 0=>0 | 210=>243 | 21=>21 | 127=>246 | 145=>249 | 143=>247 | 171=>213 | 173=>217 | 212=>235 | 51=>188 | 20=>20 | 213=>236 | 232=>250 | 233=>251 | 80=>252 | n=>n,fun | 15=>1 | 16=>2 | 17=>0 | 18=>3 | 19=>4 | n=>n⟩
theorem Tryz.laysC174:Go.Proofs.LaysC.n174 Tryz.prog Tryz.laysC174_ren := {
 mixed:=by kernel_rfl
 f129:=Tryz.func174.trans (congrArg some (by kernel_rfl))
 f171:=Tryz.func40.trans (congrArg some (by kernel_rfl))
 f174:=Tryz.func119.trans (congrArg some (by kernel_rfl))
 f205:=Tryz.func185.trans (congrArg some (by kernel_rfl))
 f243:=Tryz.func78.trans (congrArg some (by kernel_rfl))
 f245:=Tryz.func145.trans (congrArg some (by kernel_rfl))
 f246:=Tryz.func125.trans (congrArg some (by kernel_rfl))
 f247:=Tryz.func144.trans (congrArg some (by kernel_rfl))
 f279:=Tryz.func168.trans (congrArg some (by kernel_rfl))
 f280:=Tryz.func169.trans (congrArg some (by kernel_rfl))
 f281:=Tryz.func170.trans (congrArg some (by kernel_rfl))
 f282:=Tryz.func171.trans (congrArg some (by kernel_rfl))
 f283:=Tryz.func152.trans (congrArg some (by kernel_rfl))
 f284:=Tryz.func153.trans (congrArg some (by kernel_rfl))
 f285:=Tryz.func154.trans (congrArg some (by kernel_rfl))
 f286:=Tryz.func155.trans (congrArg some (by kernel_rfl))
 f287:=Tryz.func167.trans (congrArg some (by kernel_rfl))
 f316:=Tryz.func184.trans (congrArg some (by kernel_rfl))
 f317:=Tryz.func173.trans (congrArg some (by kernel_rfl))
 f318:=Tryz.func175.trans (congrArg some (by kernel_rfl))
 f319:=Tryz.func176.trans (congrArg some (by kernel_rfl))
 f320:=Tryz.func177.trans (congrArg some (by kernel_rfl))
 f321:=Tryz.func182.trans (congrArg some (by kernel_rfl))
 f322:=Tryz.func183.trans (congrArg some (by kernel_rfl))
 f337:=Tryz.func186.trans (congrArg some (by kernel_rfl))
 f338:=Tryz.func187.trans (congrArg some (by kernel_rfl))
 t0:=Tryz.underlying0
 a0:=Tryz.isAgg0
 z0:=Tryz.sizeOf0
 v0:=Tryz.zeroValue0
 t2:=Tryz.underlying2
 a2:=Tryz.isAgg2
 z2:=Tryz.sizeOf2
 v2:=Tryz.zeroValue2
 t3:=Tryz.underlying3
 a3:=Tryz.isAgg3
 z3:=Tryz.sizeOf3
 v3:=Tryz.zeroValue3
 t4:=Tryz.underlying4
 a4:=Tryz.isAgg4
 z4:=Tryz.sizeOf4
 v4:=Tryz.zeroValue4
 t5:=Tryz.underlying5
 a5:=Tryz.isAgg5
 z5:=Tryz.sizeOf5
 v5:=Tryz.zeroValue5
 t9:=Tryz.underlying9
 a9:=Tryz.isAgg9
 z9:=Tryz.sizeOf9
 v9:=Tryz.zeroValue9
 t20:=Tryz.underlying20
 a20:=Tryz.isAgg20
 z20:=Tryz.sizeOf20
 v20:=Tryz.zeroValue20
 t21:=Tryz.underlying21
 a21:=Tryz.isAgg21
 z21:=Tryz.sizeOf21
 v21:=Tryz.zeroValue21
 t37:=Tryz.underlying216
 a37:=Tryz.isAgg216
 z37:=Tryz.sizeOf216
 v37:=Tryz.zeroValue216
 t46:=Tryz.underlying162
 a46:=Tryz.isAgg162
 z46:=Tryz.sizeOf162
 v46:=Tryz.zeroValue162
 t51:=Tryz.underlying188
 a51:=Tryz.isAgg188
 z51:=Tryz.sizeOf188
 v51:=Tryz.zeroValue188
 t53:=Tryz.underlying191
 a53:=Tryz.isAgg191
 z53:=Tryz.sizeOf191
 v53:=Tryz.zeroValue191
 t75:=Tryz.underlying175
 a75:=Tryz.isAgg175
 z75:=Tryz.sizeOf175
 v75:=Tryz.zeroValue175
 t85:=Tryz.underlying176
 a85:=Tryz.isAgg176
 z85:=Tryz.sizeOf176
 v85:=Tryz.zeroValue176
 t127:=Tryz.underlying246
 a127:=Tryz.isAgg246
 z127:=Tryz.sizeOf246
 v127:=Tryz.zeroValue246
 t143:=Tryz.underlying247
 a143:=Tryz.isAgg247
 z143:=Tryz.sizeOf247
 v143:=Tryz.zeroValue247
 t145:=Tryz.underlying249
 a145:=Tryz.isAgg249
 z145:=Tryz.sizeOf249
 v145:=Tryz.zeroValue249
 t167:=Tryz.underlying226
 a167:=Tryz.isAgg226
 z167:=Tryz.sizeOf226
 v167:=Tryz.zeroValue226
 t168:=Tryz.underlying229
 a168:=Tryz.isAgg229
 z168:=Tryz.sizeOf229
 v168:=Tryz.zeroValue229
 t171:=Tryz.underlying213
 a171:=Tryz.isAgg213
 z171:=Tryz.sizeOf213
 v171:=Tryz.zeroValue213
 t173:=Tryz.underlying217
 a173:=Tryz.isAgg217
 z173:=Tryz.sizeOf217
 v173:=Tryz.zeroValue217
 t175:=Tryz.underlying227
 a175:=Tryz.isAgg227
 z175:=Tryz.sizeOf227
 v175:=Tryz.zeroValue227
 t210:=Tryz.underlying243
 a210:=Tryz.isAgg243
 z210:=Tryz.sizeOf243
 v210:=Tryz.zeroValue243
 t212:=Tryz.underlying235
 a212:=Tryz.isAgg235
 z212:=Tryz.sizeOf235
 v212:=Tryz.zeroValue235
 t213:=Tryz.underlying236
 a213:=Tryz.isAgg236
 z213:=Tryz.sizeOf236
 t232:=Tryz.underlying250
 a232:=Tryz.isAgg250
 z232:=Tryz.sizeOf250
 v232:=Tryz.zeroValue250
 t233:=Tryz.underlying251
 a233:=Tryz.isAgg251
 z233:=Tryz.sizeOf251
 v233:=Tryz.zeroValue251
 g15:=by kernel_rfl
 g16:=by kernel_rfl
 g17:=by kernel_rfl
 g18:=by kernel_rfl
 g19:=by kernel_rfl
 t80:=Tryz.underlying252
 a80:=Tryz.isAgg252
 z80:=Tryz.sizeOf252
 v80:=Tryz.zeroValue252
 i0:=by kernel_rfl
 i2:=by kernel_rfl
 i3:=by kernel_rfl
 i4:=by kernel_rfl
 i5:=by kernel_rfl
 i9:=by kernel_rfl
 i20:=by kernel_rfl
 i21:=by kernel_rfl
 i37:=by kernel_rfl
 i46:=by kernel_rfl
 i51:=by kernel_rfl
 i53:=by kernel_rfl
 i75:=by kernel_rfl
 i80:=by kernel_rfl
 i85:=by kernel_rfl
 i127:=by kernel_rfl
 i143:=by kernel_rfl
 i145:=by kernel_rfl
 i167:=by kernel_rfl
 i168:=by kernel_rfl
 i171:=by kernel_rfl
 i173:=by kernel_rfl
 i175:=by kernel_rfl
 i210:=by kernel_rfl
 i212:=by kernel_rfl
 i232:=by kernel_rfl
 i233:=by kernel_rfl
 m15:=by kernel_rfl
 m16:=by kernel_rfl
 m17:=by kernel_rfl
 m18:=by kernel_rfl
 m19:=by kernel_rfl
 c0:=by kernel_rfl
 c2:=by kernel_rfl
 c3:=by kernel_rfl
 c4:=by kernel_rfl
 c5:=by kernel_rfl
 c9:=by kernel_rfl
 c20:=by kernel_rfl
 c21:=by kernel_rfl
 c37:=by kernel_rfl
 c46:=by kernel_rfl
 c51:=by kernel_rfl
 c53:=by kernel_rfl
 c75:=by kernel_rfl
 c80:=by kernel_rfl
 c85:=by kernel_rfl
 c127:=by kernel_rfl
 c143:=by kernel_rfl
 c145:=by kernel_rfl
 c167:=by kernel_rfl
 c168:=by kernel_rfl
 c171:=by kernel_rfl
 c173:=by kernel_rfl
 c175:=by kernel_rfl
 c210:=by kernel_rfl
 c212:=by kernel_rfl
 c213:=by kernel_rfl
 c232:=by kernel_rfl
 c233:=by kernel_rfl }
theorem Tryz.strconv_ParseInt_10_at64_ok (s:ByteArray) (hmax:s.size<=9223372036854775806) (v:Int) (h:Lib.parseIntB 64 s.data.toList = .ok v) (w:World) :
  Calls Tryz.prog 119 #[.string s,.int .i64 10,.int .i64 64] w λe w'=>e = .returned (.tuple #[.int .i64 v,.nilIface])/\(w'=w \/ ∃t,w'=Lib.bytesWorld w 5 t):=Any.strconv_ParseInt_10_at64_ok Tryz.laysC174 s hmax v h w
theorem Tryz.strconv_ParseInt_10_at64_range_var (s : ByteArray) (hlim : s.size ≤ 281474976710656) (h : Lib.parseIntB 64 s.data.toList = .range) (tp : TypeId) (p : Value) (w : World) (hvar : w.var? Tryz.prog "strconv.ErrRange" = some #[.iface tp p]) :
  Calls Tryz.prog 119 #[.string s,.int .i64 10,.int .i64 64] w λe w' => ∃N,e = .returned (.tuple #[.int .i64 (Lib.intSat 64 s.data.toList),.iface 229 (.pointer (some ⟨N,0,none⟩))])/\w.heap.size<=N/\w'.heap[N]? = some (.cells #[.string ⟨#[80,97,114,115,101,73,110,116]⟩,.string s,.iface tp p] 243 (0,0))/\Below w.heap.size w w':=Any.strconv_ParseInt_10_at64_range_var Tryz.laysC174 s hlim h tp p w hvar
def Tryz.laysPu14_ren:Go.Shelf.Ren:=⟨fun | 14=>180 | 16=>167 | 17=>145 | 19=>182 | 20=>183 | 21=>168 | 22=>169 | 23=>170 | 24=>171 | 25=>184 | 27=>40 | 26=>185 | 28=>78 | 29=>125 | 30=>152 | 31=>153 | 32=>154 | 33=>155 | 35=>174 | 34=>173 | 36=>175 | 37=>176 | 38=>177 | 39=>186 | 40=>187 | n=>n,fun | 9=>9 | 3=>3 | 22=>191 | 24=>175 | 25=>227 | 4=>4 | 34=>226 | 5=>5 | 36=>162 | 37=>216 | 0=>0 | 39=>229 | 21=>21 | 44=>243 | 47=>246 | 50=>249 | 48=>247 | 2=>2 | 52=>213 | 55=>217 | 59=>235 | 60=>188 | 20=>20 | 61=>236 | 65=>250 | 66=>251 | 67=>252 | n=>n,fun | 0=>1 | 1=>2 | 2=>0 | 3=>3 | 4=>4 | n=>n⟩
theorem Tryz.laysPu14:Go.Proofs.LaysPu.n14 Tryz.prog Tryz.laysPu14_ren := {
 mixed:=by kernel_rfl
 f14:=Tryz.func180.trans (congrArg some (by kernel_rfl))
 f16:=Tryz.func167.trans (congrArg some (by kernel_rfl))
 f17:=Tryz.func145.trans (congrArg some (by kernel_rfl))
 f19:=Tryz.func182.trans (congrArg some (by kernel_rfl))
 f20:=Tryz.func183.trans (congrArg some (by kernel_rfl))
 f21:=Tryz.func168.trans (congrArg some (by kernel_rfl))
 f22:=Tryz.func169.trans (congrArg some (by kernel_rfl))
 f23:=Tryz.func170.trans (congrArg some (by kernel_rfl))
 f24:=Tryz.func171.trans (congrArg some (by kernel_rfl))
 f25:=Tryz.func184.trans (congrArg some (by kernel_rfl))
 f26:=Tryz.func185.trans (congrArg some (by kernel_rfl))
 f27:=Tryz.func40.trans (congrArg some (by kernel_rfl))
 f28:=Tryz.func78.trans (congrArg some (by kernel_rfl))
 f29:=Tryz.func125.trans (congrArg some (by kernel_rfl))
 f30:=Tryz.func152.trans (congrArg some (by kernel_rfl))
 f31:=Tryz.func153.trans (congrArg some (by kernel_rfl))
 f32:=Tryz.func154.trans (congrArg some (by kernel_rfl))
 f33:=Tryz.func155.trans (congrArg some (by kernel_rfl))
 f34:=Tryz.func173.trans (congrArg some (by kernel_rfl))
 f35:=Tryz.func174.trans (congrArg some (by kernel_rfl))
 f36:=Tryz.func175.trans (congrArg some (by kernel_rfl))
 f37:=Tryz.func176.trans (congrArg some (by kernel_rfl))
 f38:=Tryz.func177.trans (congrArg some (by kernel_rfl))
 f39:=Tryz.func186.trans (congrArg some (by kernel_rfl))
 f40:=Tryz.func187.trans (congrArg some (by kernel_rfl))
 t0:=Tryz.underlying0
 a0:=Tryz.isAgg0
 z0:=Tryz.sizeOf0
 v0:=Tryz.zeroValue0
 i0:=by kernel_rfl
 t2:=Tryz.underlying2
 a2:=Tryz.isAgg2
 z2:=Tryz.sizeOf2
 v2:=Tryz.zeroValue2
 i2:=by kernel_rfl
 t3:=Tryz.underlying3
 a3:=Tryz.isAgg3
 z3:=Tryz.sizeOf3
 v3:=Tryz.zeroValue3
 i3:=by kernel_rfl
 t4:=Tryz.underlying4
 a4:=Tryz.isAgg4
 z4:=Tryz.sizeOf4
 v4:=Tryz.zeroValue4
 i4:=by kernel_rfl
 t5:=Tryz.underlying5
 a5:=Tryz.isAgg5
 z5:=Tryz.sizeOf5
 v5:=Tryz.zeroValue5
 i5:=by kernel_rfl
 t9:=Tryz.underlying9
 a9:=Tryz.isAgg9
 z9:=Tryz.sizeOf9
 v9:=Tryz.zeroValue9
 i9:=by kernel_rfl
 t20:=Tryz.underlying20
 a20:=Tryz.isAgg20
 z20:=Tryz.sizeOf20
 v20:=Tryz.zeroValue20
 i20:=by kernel_rfl
 t21:=Tryz.underlying21
 a21:=Tryz.isAgg21
 z21:=Tryz.sizeOf21
 v21:=Tryz.zeroValue21
 i21:=by kernel_rfl
 t22:=Tryz.underlying191
 a22:=Tryz.isAgg191
 z22:=Tryz.sizeOf191
 v22:=Tryz.zeroValue191
 i22:=by kernel_rfl
 t24:=Tryz.underlying175
 a24:=Tryz.isAgg175
 z24:=Tryz.sizeOf175
 v24:=Tryz.zeroValue175
 i24:=by kernel_rfl
 t25:=Tryz.underlying227
 a25:=Tryz.isAgg227
 z25:=Tryz.sizeOf227
 v25:=Tryz.zeroValue227
 i25:=by kernel_rfl
 t34:=Tryz.underlying226
 a34:=Tryz.isAgg226
 z34:=Tryz.sizeOf226
 v34:=Tryz.zeroValue226
 i34:=by kernel_rfl
 c34:=by kernel_rfl
 t36:=Tryz.underlying162
 a36:=Tryz.isAgg162
 z36:=Tryz.sizeOf162
 v36:=Tryz.zeroValue162
 i36:=by kernel_rfl
 t37:=Tryz.underlying216
 a37:=Tryz.isAgg216
 z37:=Tryz.sizeOf216
 v37:=Tryz.zeroValue216
 i37:=by kernel_rfl
 t39:=Tryz.underlying229
 a39:=Tryz.isAgg229
 z39:=Tryz.sizeOf229
 v39:=Tryz.zeroValue229
 i39:=by kernel_rfl
 t44:=Tryz.underlying243
 a44:=Tryz.isAgg243
 z44:=Tryz.sizeOf243
 v44:=Tryz.zeroValue243
 i44:=by kernel_rfl
 t47:=Tryz.underlying246
 a47:=Tryz.isAgg246
 z47:=Tryz.sizeOf246
 v47:=Tryz.zeroValue246
 i47:=by kernel_rfl
 t48:=Tryz.underlying247
 a48:=Tryz.isAgg247
 z48:=Tryz.sizeOf247
 v48:=Tryz.zeroValue247
 i48:=by kernel_rfl
 t50:=Tryz.underlying249
 a50:=Tryz.isAgg249
 z50:=Tryz.sizeOf249
 v50:=Tryz.zeroValue249
 i50:=by kernel_rfl
 t52:=Tryz.underlying213
 a52:=Tryz.isAgg213
 z52:=Tryz.sizeOf213
 v52:=Tryz.zeroValue213
 i52:=by kernel_rfl
 t55:=Tryz.underlying217
 a55:=Tryz.isAgg217
 z55:=Tryz.sizeOf217
 v55:=Tryz.zeroValue217
 i55:=by kernel_rfl
 t59:=Tryz.underlying235
 a59:=Tryz.isAgg235
 z59:=Tryz.sizeOf235
 v59:=Tryz.zeroValue235
 i59:=by kernel_rfl
 t60:=Tryz.underlying188
 a60:=Tryz.isAgg188
 z60:=Tryz.sizeOf188
 v60:=Tryz.zeroValue188
 i60:=by kernel_rfl
 t61:=Tryz.underlying236
 a61:=Tryz.isAgg236
 z61:=Tryz.sizeOf236
 t65:=Tryz.underlying250
 a65:=Tryz.isAgg250
 z65:=Tryz.sizeOf250
 v65:=Tryz.zeroValue250
 i65:=by kernel_rfl
 t66:=Tryz.underlying251
 a66:=Tryz.isAgg251
 z66:=Tryz.sizeOf251
 v66:=Tryz.zeroValue251
 i66:=by kernel_rfl
 t67:=Tryz.underlying252
 a67:=Tryz.isAgg252
 z67:=Tryz.sizeOf252
 v67:=Tryz.zeroValue252
 i67:=by kernel_rfl
 g0:=by kernel_rfl
 m0:=by kernel_rfl
 g1:=by kernel_rfl
 m1:=by kernel_rfl
 g2:=by kernel_rfl
 m2:=by kernel_rfl
 g3:=by kernel_rfl
 m3:=by kernel_rfl
 g4:=by kernel_rfl
 m4:=by kernel_rfl }
theorem Tryz.strconv_ParseUint_10_at64_ok (s:ByteArray) (hmax:s.size<=9223372036854775806) (u:Nat) (h:Lib.parseUintB 64 s.data.toList = .ok u) (w:World) :
  Calls Tryz.prog 180 #[.string s,.int .i64 10,.int .i64 64] w λe w'=>e = .returned (.tuple #[.int .u64 u,.nilIface])/\(w'=w\/w'=Lib.bytesWorld w 5 s):=Any.strconv_ParseUint_10_at64_ok Tryz.laysPu14 s hmax u h w
def Tryz.lays212_ren:Go.Shelf.Ren:=⟨fun | 212=>108 | 263=>136 | 264=>137 | n=>n,fun | 46=>162 | 51=>188 | 146=>189 | 53=>191 | 148=>192 | n=>n,fun | n=>n⟩
theorem Tryz.lays212:Go.Proofs.Lays.n212 Tryz.prog Tryz.lays212_ren := {
 mixed:=by kernel_rfl
 f212:=Tryz.func108.trans (congrArg some (by kernel_rfl))
 f263:=Tryz.func136.trans (congrArg some (by kernel_rfl))
 f264:=Tryz.func137.trans (congrArg some (by kernel_rfl))
 t46:=Tryz.underlying162
 a46:=Tryz.isAgg162
 z46:=Tryz.sizeOf162
 v46:=Tryz.zeroValue162
 t51:=Tryz.underlying188
 a51:=Tryz.isAgg188
 z51:=Tryz.sizeOf188
 v51:=Tryz.zeroValue188
 t53:=Tryz.underlying191
 a53:=Tryz.isAgg191
 z53:=Tryz.sizeOf191
 v53:=Tryz.zeroValue191
 t146:=Tryz.underlying189
 a146:=Tryz.isAgg189
 z146:=Tryz.sizeOf189
 v146:=Tryz.zeroValue189
 t148:=Tryz.underlying192
 a148:=Tryz.isAgg192
 z148:=Tryz.sizeOf192
 v148:=Tryz.zeroValue192 }
theorem Tryz.bits_Mul (x y:Nat) (hx:x<18446744073709551616) (hy:y<18446744073709551616) (w:World) :
  Calls Tryz.prog 108 #[.int .u64 x,.int .u64 y] w λe w'=>e = .returned (.tuple #[.int .u64 ((x*y/18446744073709551616:Nat):Int),.int .u64 ((x*y%18446744073709551616:Nat):Int)])/\w'=w:=Any.bits_Mul Tryz.lays212 x y hx hy w
end Go.Proofs
namespace Go.Proofs.YtdmaofimeknkbaaGreatDoor
section
open Go.RowKit Go.Sort Go.Lib
open Lib (hid)
structure Laid (w:World):Prop where
 tab : Lib.TabIs Tryz.prog w "internal/strconv.uint64pow10" .u64 Lib.pow10Tab
 rng : ∃ tp p, w.var? Tryz.prog "strconv.ErrRange" = some #[.iface tp p]
theorem Kkn {P:Program} {w w':World} {n:String} {cs:Array Value} (he:Ext w w') (h:w.var? P n=some cs):w'.var? P n=some cs:=by
 unfold World.var? at *
 cases hg:P.globalNamed n with
 | none=>rw [hg] at h;cases h
 | some g =>
  rw [hg] at h;simp only [Option.bind_some] at *
  by_cases hlt:g<w.heap.size
  ·rw [he.block g hlt];exact h
  ·rw [Array.getElem?_eq_none (by omega)] at h;cases h
theorem Laid.ext {w w':World} (h:Laid w) (he:Ext w w'):Laid w':=by
 refine ⟨?_,?_⟩
 ·have:=h.tab;unfold Lib.TabIs at *;exact Kkn he this
 ·obtain ⟨tp,p,hv⟩:=h.rng;exact ⟨tp,p,Kkn he hv⟩
theorem Kg6 (w:World) (k:Nat) (os:Array Obj):Ext w (grow (w.drewN k) os) :=
 Ext.mk' ⟨rfl,rfl,rfl,by simp [grow,World.drewN],λi hi=>by
  show (w.heap++os)[i]? = _
  rw [Array.getElem?_append_left hi]⟩
theorem Q3 (w:World) (t:TypeId) (s:ByteArray):Ext w (Lib.bytesWorld w t s):=by
 refine Ext.mk' ⟨?_,?_,?_,?_,?_⟩
 all_goals unfold Lib.bytesWorld World.freeze
 all_goals split
 ·rfl
 ·rfl
 ·rfl
 ·rfl
 ·rfl
 ·rfl
 ·simp
 ·simp
 ·intro k hk;exact Below.heap_alloc _ _ _ hk
 ·intro k hk;simp only [Array.getElem?_modify];rw [if_neg (by show ¬w.heap.size=k;omega)];exact Below.heap_alloc _ _ _ hk
theorem Kdl {n:Int} (h0 : -9223372036854775808<=n) (h1:n<=9223372036854775807) {w:World} (hL:Laid w) :
  Calls Tryz.prog 40 #[.int .i64 n] w λe w'=>e = .returned (I n)/\Ext w w':=by
 refine (Tryz.strconv_Itoa n h0 h1 w hL.tab).mono ?_;rintro e w' ⟨rfl,k,os,rfl⟩;exact ⟨rfl,Kg6 _ _ _⟩
theorem Qb {n:Int} (h0 : -9223372036854775808<=n) (h1:n<=9223372036854775807) {w:World} (hL:Laid w) :
  Calls Tryz.prog 22 #[.int .i64 n] w λe w'=>e = .returned (I n)/\Ext w w':=by
 have H:=hid (Kdl h0 h1 hL);clear h0 h1 hL
 go_enter Tryz.func22,Tryz.ntmps22
 go_wp2_with (first | (go_at_call 40;refine H.out.mono ?_;rintro e w1 ⟨rfl,hb1⟩))
 go_ret;exact ⟨rfl,hb1⟩
theorem KfV (z:Int):(⟨(Lib.itoa z).toArray⟩:ByteArray).size=(Lib.itoa z).length:=by
 show (Lib.itoa z).toArray.size=_;simp
theorem KpB (u:Nat):(⟨(Lib.decDigits u).toArray⟩:ByteArray).size=Lib.nDigits u:=by
 show (Lib.decDigits u).toArray.size=_;simp [Lib.decDigits_length]
theorem Xy {z:Int} (h1 : -9223372036854775808<=z) (h2:z<=9223372036854775807) (hn:nd z<=LIM) (w:World) :
  Calls Tryz.prog 74 #[I z] w λe w'=>e = .returned (.tuple #[.int .i64 z,.bool true])/\Ext w w':=by
 have hs:(⟨(Lib.itoa z).toArray⟩:ByteArray).size<=9223372036854775806:=by
  rw [KfV,Zb];unfold LIM at hn;split<;>omega
 have H:=hid (Tryz.strconv_ParseInt_10_at64_ok ⟨(Lib.itoa z).toArray⟩ hs z (KeW h1 h2));clear hs hn h1 h2
 go_enter Tryz.func74,Tryz.ntmps74
 go_wp2_with (first | (go_at_call 119;refine (H.out _).mono ?_;rintro e w1 ⟨rfl,hb1⟩))
 go_ret2;refine ⟨rfl,?_⟩
 rcases hb1 with rfl | ⟨t,rfl⟩
 ·exact Ext.refl _
 ·exact Q3 _ _ _
theorem Ke0 {z:Int} (h:z < -9223372036854775808\/9223372036854775807<z) (hn:nd z<=LIM) {w:World} (hL:Laid w) :
  Calls Tryz.prog 74 #[I z] w λe w'=>e = .returned (.tuple #[.int .i64 0,.bool false])/\Ext w w':=by
 have hs:(⟨(Lib.itoa z).toArray⟩:ByteArray).size<=281474976710656:=by
  rw [KfV,Zb];unfold LIM at hn;split<;>omega
 obtain ⟨tp,p,hv⟩:=hL.rng;have H:=hid (Tryz.strconv_ParseInt_10_at64_range_var ⟨(Lib.itoa z).toArray⟩ hs (Kd3 h) tp p w hv);clear hs hn h hL hv
 go_enter Tryz.func74,Tryz.ntmps74
 go_wp2_with (first | (go_at_call 119;refine H.out.mono ?_;rintro e w1 ⟨N,rfl,_,_,hb1⟩))
 go_ret2;exact ⟨rfl,hb1⟩
def KcD (z:Int):Bool:=decide (-9223372036854775808<=z/\z<=9223372036854775807)
theorem Kad {z:Int} (hn:nd z<=LIM) {w:World} (hL:Laid w) :
  Calls Tryz.prog 74 #[I z] w λe w'=>e = .returned (.tuple #[.int .i64 (if KcD z then z else 0),.bool (KcD z)])/\Ext w w':=by
 by_cases h : -9223372036854775808<=z/\z<=9223372036854775807
 ·have e:KcD z=true:=decide_eq_true h;rw [e];exact Xy h.1 h.2 hn w
 ·have e:KcD z=false:=decide_eq_false h;rw [e];exact Ke0 (by omega) hn hL
theorem KkZ {z:Int} {m:Nat} (hn:nd z<=LIM) (h:m<(Lib.itoa z).length) (_hm:m<=18) (w:World) :
  Calls Tryz.prog 115 #[I z,.int .i64 m] w λe w'=>e = .returned (.tuple #[.int .i64 0,.bool false])/\Ext w w':=by
 have hl:(Lib.itoa z).length<=1000000000001:=by rw [Zb];unfold LIM at hn;split<;>omega
 have ht:(m:Int)<((Lib.itoa z).length:Int):=by omega
 clear hn h;unfold I;generalize Lib.itoa z=l at *
 go_enter Tryz.func115,Tryz.ntmps115
 go_wp2
 go_ret2;exact ⟨rfl,Ext.refl _⟩
theorem KiL {z:Int} {m:Nat} (h:(Lib.itoa z).length<=m) (_hm:m<=18) (w:World) :
  Calls Tryz.prog 115 #[I z,.int .i64 m] w λe w'=>e = .returned (.tuple #[.int .i64 z,.bool true])/\Ext w w':=by
 have hb:z.natAbs<10^18:=by
  refine KE (k:=18) ?_;have:=Zb z;unfold nd at this;split at this<;>omega
 have hs:(⟨(Lib.itoa z).toArray⟩:ByteArray).size<=9223372036854775806:=by rw [KfV];omega
 have H:=hid (Tryz.strconv_Atoi_ok ⟨(Lib.itoa z).toArray⟩ hs z (Ke6 (by omega) (by omega)));have ht : ¬(m:Int)<((Lib.itoa z).length:Int):=by omega
 clear hb hs h
 go_enter Tryz.func115,Tryz.ntmps115
 go_wp2_with (first | (go_at_call 138;refine (H.out _).mono ?_;rintro e w1 ⟨rfl,hb1⟩))
 go_quiet (fail)
 go_wp2
 go_ret2;refine ⟨rfl,?_⟩
 rcases hb1 with rfl | ⟨t,rfl⟩
 ·exact (Ext.refl _).drewN _
 ·exact (Q3 _ _ _).drewN _
theorem Kfc {u:Nat} (h:u<18446744073709551616) (w:World) :
  Calls Tryz.prog 164 #[D u] w λe w'=>e = .returned (.tuple #[.int .u64 u,.bool true])/\Ext w w':=by
 have hs:(⟨(Lib.decDigits u).toArray⟩:ByteArray).size<=9223372036854775806:=by
  rw [KpB];have:=KP (u:=u) (k:=20) (by omega) (by omega);omega
 have H:=hid (Tryz.strconv_ParseUint_10_at64_ok ⟨(Lib.decDigits u).toArray⟩ hs u (ZN h));clear hs h
 go_enter Tryz.func164,Tryz.ntmps164
 go_wp2_with (first | (go_at_call 180;refine (H.out _).mono ?_;rintro e w1 ⟨rfl,hb1⟩))
 go_ret2;refine ⟨rfl,?_⟩
 rcases hb1 with rfl | rfl
 ·exact Ext.refl _
 ·exact Q3 _ _ _
end
end Go.Proofs.YtdmaofimeknkbaaGreatDoor
