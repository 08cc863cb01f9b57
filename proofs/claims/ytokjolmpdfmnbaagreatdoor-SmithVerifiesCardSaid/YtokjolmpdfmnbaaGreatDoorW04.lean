/- Part 4 of the proof of the claim: contracts of the functions that it reaches, and plain laws; no condition. -/
import Derived.Test.YtokjolmpdfmnbaaGreatDoorW03
import Derived.Lib.AtoiAll
import Derived.Lib.ParseIntB
import Derived.Shelf.Strings.Builder1
import Derived.Shelf.Strings.Builder2
import Derived.Shelf.Strings.OnBuilder
import Derived.Shelf.Strings.BuilderF
import Derived.Shelf.Strings.Builder2Cap
import Derived.Shelf.Strconv.Atoi
import Derived.Shelf.Strconv.Itoa0
import Derived.Shelf.Strconv.Itoa1
import Derived.Shelf.LaysM
import Derived.Shelf.Strconv.Itoa2
import Derived.Shelf.Strconv.Itoa3
import Derived.Shelf.Strconv.AtoiErrFast
import Derived.Shelf.Strconv.ParseIntEmpty
import Derived.Shelf.Strconv.AtoiFail
import Derived.Shelf.Strconv.Clone
import Derived.Shelf.Strconv.SyntaxError
import Derived.Shelf.LaysC
import Derived.Shelf.Strconv.ToError
import Derived.Shelf.Strconv.Lower
import Derived.Shelf.Strconv.ParseUint10
import Derived.Shelf.Strconv.ParseUint10Empty
import Derived.Shelf.Strconv.ParseUint10Any
import Derived.Shelf.Strconv.ParseInt10
import Derived.Shelf.Strconv.AtoiLong
import Derived.Shelf.Strconv.AtoiInnerAll
import Derived.Shelf.Strconv.RangeError
import Derived.Shelf.Strconv.ToErrorRange
import Derived.Shelf.Strconv.AtoiAll
import Derived.Shelf.Strconv.ErrVarAll
import Derived.Shelf.Strconv.ParseUintEmpty
import Derived.Shelf.Strconv.ParseUint10b64
import Derived.Shelf.Strconv.ParseUint10b32
import Derived.Shelf.Strconv.ParseUint10b16
import Derived.Shelf.Strconv.ParseUint10b8
import Derived.Shelf.Strconv.ParseUint10At
import Derived.Shelf.Strconv.ParseInt10At64
import Derived.Shelf.Strconv.ParseInt10At32
import Derived.Shelf.Strconv.ParseInt10At16
import Derived.Shelf.Strconv.ParseInt10At8
import Derived.Shelf.Strconv.ParseInt10All
import Derived.Shelf.Strconv.ParseIntPublic10
import Derived.Shelf.Strconv.ErrVarParseInt
import Derived.Ground.MpProg
import Derived.Shelf.Pu.ParseUintPublic10
import Derived.Shelf.Pu.ErrVarParseUint
import Derived.Shelf.Strings.Prefix
import Derived.Shelf.Bits.Mul64
import Derived.Shelf.Strings.Repeat
import Derived.Test.YtokjolmpdfmnbaaGreatDoorProg
namespace Go.Proofs.YtokjolmpdfmnbaaGreatDoor
theorem valB_ge (l : List UInt8) : ∀ n, n ≤ valB n l := by
  intro n
  rw [valB_acc l n]
  have : 1 ≤ 10 ^ l.length := Nat.one_le_pow _ _ (by omega)
  have := Nat.mul_le_mul_left n this
  omega
theorem pU_ok : ∀ (l : List UInt8) (acc : Nat), (∀ c ∈ l, isDig c) → valB acc l < 18446744073709551616 → Lib.parseUint10 acc l = .ok (valB acc l)
  | [], acc, _, _ => rfl
  | c :: r, acc, hd, hv => by
    have hc := hd c (by simp)
    obtain ⟨e, e2, e3⟩ := dv_eq hc
    rw [valB_cons] at hv
    have := valB_ge r (10 * acc + dv c)
    rw [Lib.parseUint10, if_pos ⟨hc.1, hc.2⟩, if_neg (by omega), if_neg (by omega), valB_cons, ← e, Nat.mul_comm acc 10]
    exact pU_ok r _ (fun x hx => hd x (by simp [hx])) hv
theorem pM_ok : ∀ (l : List UInt8) (M acc : Nat), M < 18446744073709551616 → (∀ c ∈ l, isDig c) → valB acc l ≤ M → Lib.parseUintM M acc l = .ok (valB acc l)
  | [], M, acc, _, _, _ => rfl
  | c :: r, M, acc, hM, hd, hv => by
    have hc := hd c (by simp)
    obtain ⟨e, e2, e3⟩ := dv_eq hc
    rw [valB_cons] at hv
    have := valB_ge r (10 * acc + dv c)
    rw [Lib.parseUintM, if_pos ⟨hc.1, hc.2⟩, if_neg (by omega), if_neg (by omega), valB_cons, ← e, Nat.mul_comm acc 10]
    exact pM_ok r M _ hM (fun x hx => hd x (by simp [hx])) hv
theorem pM_range : ∀ (l : List UInt8) (M acc : Nat), (∀ c ∈ l, isDig c) → acc ≤ M → M < valB acc l → Lib.parseUintM M acc l = .range
  | [], M, acc, _, h1, h2 => by rw [valB_nil] at h2; omega
  | c :: r, M, acc, hd, h1, hv => by
    have hc := hd c (by simp)
    obtain ⟨e, e2, e3⟩ := dv_eq hc
    rw [valB_cons] at hv
    rw [Lib.parseUintM, if_pos ⟨hc.1, hc.2⟩]
    by_cases h3 : 1844674407370955162 ≤ acc
    · rw [if_pos h3]
    · rw [if_neg h3]
      by_cases h4 : M < acc * 10 + (c.toNat - 48)
      · rw [if_pos h4]
      · rw [if_neg h4, ← e, Nat.mul_comm acc 10]
        exact pM_range r M _ (fun x hx => hd x (by simp [hx])) (by omega) hv
theorem parseUint_dec {u : Nat} (h : u < 18446744073709551616) : Lib.parseUintB 64 (Lib.decDigits u) = .ok u := by
  unfold Lib.parseUintB
  rw [if_neg (dec_ne_nil u), pM_ok _ _ 0 (by decide) (dec_dig u) (by rw [valB_dec]; omega), valB_dec]
theorem parseUint_big {u : Nat} (h : 18446744073709551616 ≤ u) : Lib.parseUintB 64 (Lib.decDigits u) = .range := by
  unfold Lib.parseUintB
  rw [if_neg (dec_ne_nil u), pM_range _ _ 0 (dec_dig u) (by omega) (by rw [valB_dec]; omega)]
theorem head_not_sign {u : Nat} {c : UInt8} {t : List UInt8} (e : Lib.decDigits u = c :: t) : ¬ (c.toNat = 43 ∨ c.toNat = 45) ∧ ¬ c.toNat = 45 := by
  have := dec_dig u c (by rw [e]; simp)
  unfold isDig at this
  omega
theorem parseInt_itoa {z : Int} (h1 : -9223372036854775808 ≤ z) (h2 : z ≤ 9223372036854775807) : Lib.parseIntB 64 (Lib.itoa z) = .ok z := by
  by_cases hz : z < 0
  · rw [itoa_neg hz]
    unfold Lib.parseIntB
    have e : (45 : UInt8).toNat = 45 := rfl
    simp only [e, or_true, if_true]
    rw [parseUint_dec (by omega)]
    simp only [not_true, false_and, if_false, true_and]
    rw [if_neg (by omega)]
    simp; omega
  · rw [itoa_pos (by omega)]
    obtain ⟨c, t, e, _⟩ := dec_head z.natAbs
    obtain ⟨hs1, hs2⟩ := head_not_sign e
    have hp := parseUint_dec (u := z.natAbs) (by omega)
    rw [e] at hp ⊢
    unfold Lib.parseIntB
    simp only [if_neg hs1, hp]; simp only [hs2, not_false_iff, true_and, false_and, if_false]
    rw [if_neg (by omega)]
    simp; omega
theorem parseInt_range {z : Int} (h : z < -9223372036854775808 ∨ 9223372036854775807 < z) : Lib.parseIntB 64 (Lib.itoa z) = .range := by
  by_cases hz : z < 0
  · rw [itoa_neg hz]
    unfold Lib.parseIntB
    have e : (45 : UInt8).toNat = 45 := rfl
    simp only [e, or_true, if_true]
    by_cases hb : z.natAbs < 18446744073709551616
    · rw [parseUint_dec hb]
      simp only [not_true, false_and, if_false, true_and]
      rw [if_pos (by omega)]
    · rw [parseUint_big (by omega)]
  · rw [itoa_pos (by omega)]
    obtain ⟨c, t, e, _⟩ := dec_head z.natAbs
    obtain ⟨hs1, hs2⟩ := head_not_sign e
    by_cases hb : z.natAbs < 18446744073709551616
    · have hp := parseUint_dec (u := z.natAbs) hb
      rw [e] at hp ⊢
      unfold Lib.parseIntB
      simp only [if_neg hs1, hp]; simp only [hs2, not_false_iff, true_and]
      rw [if_pos (by omega)]
    · have hp := parseUint_big (u := z.natAbs) (by omega)
      rw [e] at hp ⊢
      unfold Lib.parseIntB
      simp only [if_neg hs1, hp]
theorem atoi_itoa {z : Int} (h1 : -9223372036854775808 ≤ z) (h2 : z ≤ 9223372036854775807) : Lib.atoiAll (Lib.itoa z) = .ok z := by
  have hpU : ∀ u : Nat, u < 18446744073709551616 → Lib.parseMag (Lib.decDigits u) = .ok u := fun u hu => by
    unfold Lib.parseMag
    rw [if_neg (dec_ne_nil u), pU_ok _ 0 (dec_dig u) (by rw [valB_dec]; omega), valB_dec]
  by_cases hz : z < 0
  · rw [itoa_neg hz]
    unfold Lib.atoiAll
    have e : (45 : UInt8).toNat = 45 := rfl
    simp only [e, or_true, if_true]
    rw [hpU _ (by omega)]
    simp only [not_true, false_and, if_false, true_and]
    rw [if_neg (by omega)]
    simp; omega
  · rw [itoa_pos (by omega)]
    obtain ⟨c, t, e, _⟩ := dec_head z.natAbs
    obtain ⟨hs1, hs2⟩ := head_not_sign e
    have hp := hpU z.natAbs (by omega)
    rw [e] at hp ⊢
    unfold Lib.atoiAll
    simp only [if_neg hs1, hp]; simp only [hs2, not_false_iff, true_and, false_and, if_false]
    rw [if_neg (by omega)]
    simp; omega
end Go.Proofs.YtokjolmpdfmnbaaGreatDoor
namespace Go.Proofs
open Go.Shelf Go.RowKit Go.Sort Go.Lib
def Tryz.lays283_ren : Go.Shelf.Ren := ⟨fun | 283 => 196 | n => n, fun | 3 => 3 | 9 => 9 | 4 => 4 | n => n, fun | n => n⟩
theorem Tryz.lays283 : Go.Proofs.Lays.n283 Tryz.prog Tryz.lays283_ren := {
  mixed := by kernel_rfl
  f283 := Tryz.func196.trans (congrArg some (by kernel_rfl))
  t3 := Tryz.underlying3
  a3 := Tryz.isAgg3
  z3 := Tryz.sizeOf3
  v3 := Tryz.zeroValue3
  t4 := Tryz.underlying4
  a4 := Tryz.isAgg4
  z4 := Tryz.sizeOf4
  v4 := Tryz.zeroValue4
  t9 := Tryz.underlying9
  a9 := Tryz.isAgg9
  z9 := Tryz.sizeOf9
  v9 := Tryz.zeroValue9 }
theorem Tryz.internal_strconv_small (i : Nat) (h : i < 100) (w : World) :
    Calls Tryz.prog 196 #[.int .i64 i] w fun e w' => e = .returned (.string ⟨(Lib.decDigits i).toArray⟩) ∧ w' = w := Any.internal_strconv_small Tryz.lays283 i h w
def Tryz.laysM284_ren : Go.Shelf.Ren := ⟨fun | 284 => 197 | 129 => 205 | 317 => 204 | 318 => 206 | n => n, fun | 53 => 214 | 3 => 3 | 212 => 265 | 0 => 0 | 4 => 4 | 46 => 173 | 5 => 5 | 9 => 9 | n => n, fun | 17 => 3 | n => n⟩
theorem Tryz.laysM284 : Go.Proofs.LaysM.n284 Tryz.prog Tryz.laysM284_ren := {
  mixed := by kernel_rfl
  f129 := Tryz.func205.trans (congrArg some (by kernel_rfl))
  f284 := Tryz.func197.trans (congrArg some (by kernel_rfl))
  f317 := Tryz.func204.trans (congrArg some (by kernel_rfl))
  f318 := Tryz.func206.trans (congrArg some (by kernel_rfl))
  t0 := Tryz.underlying0
  a0 := Tryz.isAgg0
  z0 := Tryz.sizeOf0
  v0 := Tryz.zeroValue0
  t3 := Tryz.underlying3
  a3 := Tryz.isAgg3
  z3 := Tryz.sizeOf3
  v3 := Tryz.zeroValue3
  t4 := Tryz.underlying4
  a4 := Tryz.isAgg4
  z4 := Tryz.sizeOf4
  v4 := Tryz.zeroValue4
  t5 := Tryz.underlying5
  a5 := Tryz.isAgg5
  z5 := Tryz.sizeOf5
  v5 := Tryz.zeroValue5
  t9 := Tryz.underlying9
  a9 := Tryz.isAgg9
  z9 := Tryz.sizeOf9
  v9 := Tryz.zeroValue9
  t46 := Tryz.underlying173
  a46 := Tryz.isAgg173
  z46 := Tryz.sizeOf173
  v46 := Tryz.zeroValue173
  t53 := Tryz.underlying214
  a53 := Tryz.isAgg214
  z53 := Tryz.sizeOf214
  v53 := Tryz.zeroValue214
  t212 := Tryz.underlying265
  a212 := Tryz.isAgg265
  z212 := Tryz.sizeOf265
  v212 := Tryz.zeroValue265
  g17 := by kernel_rfl
  i0 := by kernel_rfl
  i3 := by kernel_rfl
  i4 := by kernel_rfl
  i5 := by kernel_rfl
  i9 := by kernel_rfl
  i46 := by kernel_rfl
  i53 := by kernel_rfl
  i212 := by kernel_rfl
  m17 := by kernel_rfl }
theorem Tryz.internal_strconv_numDigits (u : Nat) (h1 : 1 ≤ u) (h2 : u < 18446744073709551616) (w : World) (htab : Lib.TabIs Tryz.prog w "internal/strconv.uint64pow10" .u64 Lib.pow10Tab) :
    Calls Tryz.prog 197 #[.int .u64 u] w fun e w' => e = .returned (.int .i64 (Lib.nDigits u)) ∧ w' = w := Any.internal_strconv_numDigits Tryz.laysM284 u h1 h2 w htab
def Tryz.lays285_ren : Go.Shelf.Ren := ⟨fun | 285 => 198 | n => n, fun | 37 => 178 | 53 => 214 | 3 => 3 | 4 => 4 | 51 => 211 | 9 => 9 | 5 => 5 | 0 => 0 | n => n, fun | n => n⟩
theorem Tryz.lays285 : Go.Proofs.Lays.n285 Tryz.prog Tryz.lays285_ren := {
  mixed := by kernel_rfl
  f285 := Tryz.func198.trans (congrArg some (by kernel_rfl))
  t0 := Tryz.underlying0
  a0 := Tryz.isAgg0
  z0 := Tryz.sizeOf0
  v0 := Tryz.zeroValue0
  t3 := Tryz.underlying3
  a3 := Tryz.isAgg3
  z3 := Tryz.sizeOf3
  v3 := Tryz.zeroValue3
  t4 := Tryz.underlying4
  a4 := Tryz.isAgg4
  z4 := Tryz.sizeOf4
  v4 := Tryz.zeroValue4
  t5 := Tryz.underlying5
  a5 := Tryz.isAgg5
  z5 := Tryz.sizeOf5
  v5 := Tryz.zeroValue5
  t9 := Tryz.underlying9
  a9 := Tryz.isAgg9
  z9 := Tryz.sizeOf9
  v9 := Tryz.zeroValue9
  t37 := Tryz.underlying178
  a37 := Tryz.isAgg178
  z37 := Tryz.sizeOf178
  v37 := Tryz.zeroValue178
  t51 := Tryz.underlying211
  a51 := Tryz.isAgg211
  z51 := Tryz.sizeOf211
  v51 := Tryz.zeroValue211
  t53 := Tryz.underlying214
  a53 := Tryz.isAgg214
  z53 := Tryz.sizeOf214
  v53 := Tryz.zeroValue214 }
theorem Tryz.internal_strconv_formatBase10 (blk off cap : Nat) (u : Nat) (d : Array UInt8) (w : World) (hH : Holds (fun (b : UInt8) => Value.int .u8 (b.toNat : Int)) w blk off d) (hu : u < 10 ^ d.size) (hu64 : u < 18446744073709551616) (hsz : d.size < 4611686018427387904) :
    Calls Tryz.prog 198 #[.slice (some ⟨blk, off, none⟩) d.size cap, .int .u64 u] w fun e w' =>
      e = .returned (.tuple #[]) ∧ ∃ (n v' : Nat) (dk : Array UInt8), w' = (putRow (fun (b : UInt8) => Value.int .u8 (b.toNat : Int)) w blk off dk).drewN n ∧ FmtInv d.size u 0 v' dk := Any.internal_strconv_formatBase10 Tryz.lays285 blk off cap u d w hH hu hu64 hsz
def Tryz.laysM171_ren : Go.Shelf.Ren := ⟨fun | 171 => 146 | 243 => 175 | 246 => 188 | 283 => 196 | 284 => 197 | 285 => 198 | 286 => 199 | 129 => 205 | 317 => 204 | 318 => 206 | 319 => 207 | 320 => 208 | 337 => 209 | 338 => 210 | n => n, fun | 3 => 3 | 9 => 9 | 2 => 2 | 4 => 4 | 171 => 252 | 0 => 0 | 53 => 214 | 37 => 178 | 5 => 5 | 173 => 255 | 212 => 265 | 51 => 211 | 20 => 20 | 213 => 266 | 46 => 173 | 232 => 272 | 233 => 273 | n => n, fun | 17 => 3 | 18 => 4 | 19 => 5 | n => n⟩
theorem Tryz.laysM171 : Go.Proofs.LaysM.n171 Tryz.prog Tryz.laysM171_ren := {
  mixed := by kernel_rfl
  f129 := Tryz.func205.trans (congrArg some (by kernel_rfl))
  f171 := Tryz.func146.trans (congrArg some (by kernel_rfl))
  f243 := Tryz.func175.trans (congrArg some (by kernel_rfl))
  f246 := Tryz.func188.trans (congrArg some (by kernel_rfl))
  f283 := Tryz.func196.trans (congrArg some (by kernel_rfl))
  f284 := Tryz.func197.trans (congrArg some (by kernel_rfl))
  f285 := Tryz.func198.trans (congrArg some (by kernel_rfl))
  f286 := Tryz.func199.trans (congrArg some (by kernel_rfl))
  f317 := Tryz.func204.trans (congrArg some (by kernel_rfl))
  f318 := Tryz.func206.trans (congrArg some (by kernel_rfl))
  f319 := Tryz.func207.trans (congrArg some (by kernel_rfl))
  f320 := Tryz.func208.trans (congrArg some (by kernel_rfl))
  f337 := Tryz.func209.trans (congrArg some (by kernel_rfl))
  f338 := Tryz.func210.trans (congrArg some (by kernel_rfl))
  t0 := Tryz.underlying0
  a0 := Tryz.isAgg0
  z0 := Tryz.sizeOf0
  v0 := Tryz.zeroValue0
  t2 := Tryz.underlying2
  a2 := Tryz.isAgg2
  z2 := Tryz.sizeOf2
  v2 := Tryz.zeroValue2
  t3 := Tryz.underlying3
  a3 := Tryz.isAgg3
  z3 := Tryz.sizeOf3
  v3 := Tryz.zeroValue3
  t4 := Tryz.underlying4
  a4 := Tryz.isAgg4
  z4 := Tryz.sizeOf4
  v4 := Tryz.zeroValue4
  t5 := Tryz.underlying5
  a5 := Tryz.isAgg5
  z5 := Tryz.sizeOf5
  v5 := Tryz.zeroValue5
  t9 := Tryz.underlying9
  a9 := Tryz.isAgg9
  z9 := Tryz.sizeOf9
  v9 := Tryz.zeroValue9
  t20 := Tryz.underlying20
  a20 := Tryz.isAgg20
  z20 := Tryz.sizeOf20
  v20 := Tryz.zeroValue20
  t37 := Tryz.underlying178
  a37 := Tryz.isAgg178
  z37 := Tryz.sizeOf178
  v37 := Tryz.zeroValue178
  t46 := Tryz.underlying173
  a46 := Tryz.isAgg173
  z46 := Tryz.sizeOf173
  v46 := Tryz.zeroValue173
  t51 := Tryz.underlying211
  a51 := Tryz.isAgg211
  z51 := Tryz.sizeOf211
  v51 := Tryz.zeroValue211
  t53 := Tryz.underlying214
  a53 := Tryz.isAgg214
  z53 := Tryz.sizeOf214
  v53 := Tryz.zeroValue214
  t171 := Tryz.underlying252
  a171 := Tryz.isAgg252
  z171 := Tryz.sizeOf252
  v171 := Tryz.zeroValue252
  t173 := Tryz.underlying255
  a173 := Tryz.isAgg255
  z173 := Tryz.sizeOf255
  v173 := Tryz.zeroValue255
  t212 := Tryz.underlying265
  a212 := Tryz.isAgg265
  z212 := Tryz.sizeOf265
  v212 := Tryz.zeroValue265
  t213 := Tryz.underlying266
  a213 := Tryz.isAgg266
  z213 := Tryz.sizeOf266
  t232 := Tryz.underlying272
  a232 := Tryz.isAgg272
  z232 := Tryz.sizeOf272
  v232 := Tryz.zeroValue272
  t233 := Tryz.underlying273
  a233 := Tryz.isAgg273
  z233 := Tryz.sizeOf273
  v233 := Tryz.zeroValue273
  g17 := by kernel_rfl
  g18 := by kernel_rfl
  g19 := by kernel_rfl
  i0 := by kernel_rfl
  i2 := by kernel_rfl
  i3 := by kernel_rfl
  i4 := by kernel_rfl
  i5 := by kernel_rfl
  i9 := by kernel_rfl
  i20 := by kernel_rfl
  i37 := by kernel_rfl
  i46 := by kernel_rfl
  i51 := by kernel_rfl
  i53 := by kernel_rfl
  i171 := by kernel_rfl
  i173 := by kernel_rfl
  i212 := by kernel_rfl
  i232 := by kernel_rfl
  i233 := by kernel_rfl
  m17 := by kernel_rfl
  m18 := by kernel_rfl
  m19 := by kernel_rfl }
theorem Tryz.strconv_Itoa (n : Int) (h0 : -9223372036854775808 ≤ n) (h1 : n ≤ 9223372036854775807) (w : World) (htab : Lib.TabIs Tryz.prog w "internal/strconv.uint64pow10" .u64 Lib.pow10Tab) :
    Calls Tryz.prog 146 #[.int .i64 n] w fun e w' => e = .returned (.string ⟨(Lib.itoa n).toArray⟩) ∧ ∃ k os, w' = grow (w.drewN k) os := Any.strconv_Itoa Tryz.laysM171 n h0 h1 w htab
def Tryz.laysC172_ren : Go.Shelf.Ren := ⟨fun | 172 => 164 | 244 => 183 | 245 => 179 | 247 => 178 | 279 => 190 | 280 => 191 | 281 => 192 | 282 => 193 | 287 => 189 | 316 => 202 | 171 => 146 | 205 => 203 | 321 => 200 | 322 => 201 | 243 => 175 | 246 => 188 | 283 => 196 | 284 => 197 | 285 => 198 | 286 => 199 | 129 => 205 | 317 => 204 | 318 => 206 | 319 => 207 | 320 => 208 | 337 => 209 | 338 => 210 | n => n, fun | 9 => 9 | 3 => 3 | 75 => 183 | 76 => 184 | 4 => 4 | 5 => 5 | 167 => 246 | 37 => 178 | 0 => 0 | 85 => 204 | 2 => 2 | 168 => 249 | 53 => 214 | 175 => 247 | 46 => 173 | 210 => 261 | 127 => 217 | 145 => 270 | 143 => 268 | 21 => 21 | 171 => 252 | 173 => 255 | 212 => 265 | 51 => 211 | 20 => 20 | 213 => 266 | 232 => 272 | 233 => 273 | 80 => 187 | n => n, fun | 15 => 1 | 16 => 2 | 17 => 3 | 18 => 4 | 19 => 5 | n => n⟩
theorem Tryz.laysC172 : Go.Proofs.LaysC.n172 Tryz.prog Tryz.laysC172_ren := {
  mixed := by kernel_rfl
  f129 := Tryz.func205.trans (congrArg some (by kernel_rfl))
  f171 := Tryz.func146.trans (congrArg some (by kernel_rfl))
  f172 := Tryz.func164.trans (congrArg some (by kernel_rfl))
  f205 := Tryz.func203.trans (congrArg some (by kernel_rfl))
  f243 := Tryz.func175.trans (congrArg some (by kernel_rfl))
  f244 := Tryz.func183.trans (congrArg some (by kernel_rfl))
  f245 := Tryz.func179.trans (congrArg some (by kernel_rfl))
  f246 := Tryz.func188.trans (congrArg some (by kernel_rfl))
  f247 := Tryz.func178.trans (congrArg some (by kernel_rfl))
  f279 := Tryz.func190.trans (congrArg some (by kernel_rfl))
  f280 := Tryz.func191.trans (congrArg some (by kernel_rfl))
  f281 := Tryz.func192.trans (congrArg some (by kernel_rfl))
  f282 := Tryz.func193.trans (congrArg some (by kernel_rfl))
  f283 := Tryz.func196.trans (congrArg some (by kernel_rfl))
  f284 := Tryz.func197.trans (congrArg some (by kernel_rfl))
  f285 := Tryz.func198.trans (congrArg some (by kernel_rfl))
  f286 := Tryz.func199.trans (congrArg some (by kernel_rfl))
  f287 := Tryz.func189.trans (congrArg some (by kernel_rfl))
  f316 := Tryz.func202.trans (congrArg some (by kernel_rfl))
  f317 := Tryz.func204.trans (congrArg some (by kernel_rfl))
  f318 := Tryz.func206.trans (congrArg some (by kernel_rfl))
  f319 := Tryz.func207.trans (congrArg some (by kernel_rfl))
  f320 := Tryz.func208.trans (congrArg some (by kernel_rfl))
  f321 := Tryz.func200.trans (congrArg some (by kernel_rfl))
  f322 := Tryz.func201.trans (congrArg some (by kernel_rfl))
  f337 := Tryz.func209.trans (congrArg some (by kernel_rfl))
  f338 := Tryz.func210.trans (congrArg some (by kernel_rfl))
  t0 := Tryz.underlying0
  a0 := Tryz.isAgg0
  z0 := Tryz.sizeOf0
  v0 := Tryz.zeroValue0
  t2 := Tryz.underlying2
  a2 := Tryz.isAgg2
  z2 := Tryz.sizeOf2
  v2 := Tryz.zeroValue2
  t3 := Tryz.underlying3
  a3 := Tryz.isAgg3
  z3 := Tryz.sizeOf3
  v3 := Tryz.zeroValue3
  t4 := Tryz.underlying4
  a4 := Tryz.isAgg4
  z4 := Tryz.sizeOf4
  v4 := Tryz.zeroValue4
  t5 := Tryz.underlying5
  a5 := Tryz.isAgg5
  z5 := Tryz.sizeOf5
  v5 := Tryz.zeroValue5
  t9 := Tryz.underlying9
  a9 := Tryz.isAgg9
  z9 := Tryz.sizeOf9
  v9 := Tryz.zeroValue9
  t20 := Tryz.underlying20
  a20 := Tryz.isAgg20
  z20 := Tryz.sizeOf20
  v20 := Tryz.zeroValue20
  t21 := Tryz.underlying21
  a21 := Tryz.isAgg21
  z21 := Tryz.sizeOf21
  v21 := Tryz.zeroValue21
  t37 := Tryz.underlying178
  a37 := Tryz.isAgg178
  z37 := Tryz.sizeOf178
  v37 := Tryz.zeroValue178
  t46 := Tryz.underlying173
  a46 := Tryz.isAgg173
  z46 := Tryz.sizeOf173
  v46 := Tryz.zeroValue173
  t51 := Tryz.underlying211
  a51 := Tryz.isAgg211
  z51 := Tryz.sizeOf211
  v51 := Tryz.zeroValue211
  t53 := Tryz.underlying214
  a53 := Tryz.isAgg214
  z53 := Tryz.sizeOf214
  v53 := Tryz.zeroValue214
  t75 := Tryz.underlying183
  a75 := Tryz.isAgg183
  z75 := Tryz.sizeOf183
  v75 := Tryz.zeroValue183
  t76 := Tryz.underlying184
  a76 := Tryz.isAgg184
  z76 := Tryz.sizeOf184
  v76 := Tryz.zeroValue184
  t85 := Tryz.underlying204
  a85 := Tryz.isAgg204
  z85 := Tryz.sizeOf204
  v85 := Tryz.zeroValue204
  t127 := Tryz.underlying217
  a127 := Tryz.isAgg217
  z127 := Tryz.sizeOf217
  v127 := Tryz.zeroValue217
  t143 := Tryz.underlying268
  a143 := Tryz.isAgg268
  z143 := Tryz.sizeOf268
  v143 := Tryz.zeroValue268
  t145 := Tryz.underlying270
  a145 := Tryz.isAgg270
  z145 := Tryz.sizeOf270
  v145 := Tryz.zeroValue270
  t167 := Tryz.underlying246
  a167 := Tryz.isAgg246
  z167 := Tryz.sizeOf246
  v167 := Tryz.zeroValue246
  t168 := Tryz.underlying249
  a168 := Tryz.isAgg249
  z168 := Tryz.sizeOf249
  v168 := Tryz.zeroValue249
  t171 := Tryz.underlying252
  a171 := Tryz.isAgg252
  z171 := Tryz.sizeOf252
  v171 := Tryz.zeroValue252
  t173 := Tryz.underlying255
  a173 := Tryz.isAgg255
  z173 := Tryz.sizeOf255
  v173 := Tryz.zeroValue255
  t175 := Tryz.underlying247
  a175 := Tryz.isAgg247
  z175 := Tryz.sizeOf247
  v175 := Tryz.zeroValue247
  t210 := Tryz.underlying261
  a210 := Tryz.isAgg261
  z210 := Tryz.sizeOf261
  v210 := Tryz.zeroValue261
  t212 := Tryz.underlying265
  a212 := Tryz.isAgg265
  z212 := Tryz.sizeOf265
  v212 := Tryz.zeroValue265
  t213 := Tryz.underlying266
  a213 := Tryz.isAgg266
  z213 := Tryz.sizeOf266
  t232 := Tryz.underlying272
  a232 := Tryz.isAgg272
  z232 := Tryz.sizeOf272
  v232 := Tryz.zeroValue272
  t233 := Tryz.underlying273
  a233 := Tryz.isAgg273
  z233 := Tryz.sizeOf273
  v233 := Tryz.zeroValue273
  g15 := by kernel_rfl
  g16 := by kernel_rfl
  g17 := by kernel_rfl
  g18 := by kernel_rfl
  g19 := by kernel_rfl
  t80 := Tryz.underlying187
  a80 := Tryz.isAgg187
  z80 := Tryz.sizeOf187
  v80 := Tryz.zeroValue187
  i0 := by kernel_rfl
  i2 := by kernel_rfl
  i3 := by kernel_rfl
  i4 := by kernel_rfl
  i5 := by kernel_rfl
  i9 := by kernel_rfl
  i20 := by kernel_rfl
  i21 := by kernel_rfl
  i37 := by kernel_rfl
  i46 := by kernel_rfl
  i51 := by kernel_rfl
  i53 := by kernel_rfl
  i75 := by kernel_rfl
  i76 := by kernel_rfl
  i80 := by kernel_rfl
  i85 := by kernel_rfl
  i127 := by kernel_rfl
  i143 := by kernel_rfl
  i145 := by kernel_rfl
  i167 := by kernel_rfl
  i168 := by kernel_rfl
  i171 := by kernel_rfl
  i173 := by kernel_rfl
  i175 := by kernel_rfl
  i210 := by kernel_rfl
  i212 := by kernel_rfl
  i232 := by kernel_rfl
  i233 := by kernel_rfl
  m15 := by kernel_rfl
  m16 := by kernel_rfl
  m17 := by kernel_rfl
  m18 := by kernel_rfl
  m19 := by kernel_rfl
  c0 := by kernel_rfl
  c2 := by kernel_rfl
  c3 := by kernel_rfl
  c4 := by kernel_rfl
  c5 := by kernel_rfl
  c9 := by kernel_rfl
  c20 := by kernel_rfl
  c21 := by kernel_rfl
  c37 := by kernel_rfl
  c46 := by kernel_rfl
  c51 := by kernel_rfl
  c53 := by kernel_rfl
  c75 := by kernel_rfl
  c76 := by kernel_rfl
  c80 := by kernel_rfl
  c85 := by kernel_rfl
  c127 := by kernel_rfl
  c143 := by kernel_rfl
  c145 := by kernel_rfl
  c167 := by kernel_rfl
  c168 := by kernel_rfl
  c171 := by kernel_rfl
  c173 := by kernel_rfl
  c175 := by kernel_rfl
  c210 := by kernel_rfl
  c212 := by kernel_rfl
  c213 := by kernel_rfl
  c232 := by kernel_rfl
  c233 := by kernel_rfl }
theorem Tryz.strconv_Atoi_ok (s : ByteArray) (hmax : s.size ≤ 9223372036854775806) (v : Int) (h : Lib.atoiAll s.data.toList = .ok v) (w : World) :
    Calls Tryz.prog 164 #[.string s] w fun e w' => e = .returned (.tuple #[.int .i64 v, .nilIface]) ∧ (w' = w ∨ ∃ t, w' = Lib.bytesWorld w 5 t) := Any.strconv_Atoi_ok Tryz.laysC172 s hmax v h w
def Tryz.laysC174_ren : Go.Shelf.Ren := ⟨fun | 174 => 152 | 247 => 178 | 245 => 179 | 287 => 189 | 279 => 190 | 280 => 191 | 281 => 192 | 282 => 193 | 321 => 200 | 322 => 201 | 316 => 202 | 171 => 146 | 205 => 203 | 243 => 175 | 246 => 188 | 283 => 196 | 284 => 197 | 285 => 198 | 286 => 199 | 129 => 205 | 317 => 204 | 318 => 206 | 319 => 207 | 320 => 208 | 337 => 209 | 338 => 210 | n => n, fun | 9 => 9 | 3 => 3 | 2 => 2 | 75 => 183 | 85 => 204 | 4 => 4 | 167 => 246 | 5 => 5 | 53 => 214 | 175 => 247 | 46 => 173 | 168 => 249 | 37 => 178 | 0 => 0 | 210 => 261 | 21 => 21 | 127 => 217 | 145 => 270 | 143 => 268 | 171 => 252 | 173 => 255 | 212 => 265 | 51 => 211 | 20 => 20 | 213 => 266 | 232 => 272 | 233 => 273 | 80 => 187 | n => n, fun | 15 => 1 | 16 => 2 | 17 => 3 | 18 => 4 | 19 => 5 | n => n⟩
theorem Tryz.laysC174 : Go.Proofs.LaysC.n174 Tryz.prog Tryz.laysC174_ren := {
  mixed := by kernel_rfl
  f129 := Tryz.func205.trans (congrArg some (by kernel_rfl))
  f171 := Tryz.func146.trans (congrArg some (by kernel_rfl))
  f174 := Tryz.func152.trans (congrArg some (by kernel_rfl))
  f205 := Tryz.func203.trans (congrArg some (by kernel_rfl))
  f243 := Tryz.func175.trans (congrArg some (by kernel_rfl))
  f245 := Tryz.func179.trans (congrArg some (by kernel_rfl))
  f246 := Tryz.func188.trans (congrArg some (by kernel_rfl))
  f247 := Tryz.func178.trans (congrArg some (by kernel_rfl))
  f279 := Tryz.func190.trans (congrArg some (by kernel_rfl))
  f280 := Tryz.func191.trans (congrArg some (by kernel_rfl))
  f281 := Tryz.func192.trans (congrArg some (by kernel_rfl))
  f282 := Tryz.func193.trans (congrArg some (by kernel_rfl))
  f283 := Tryz.func196.trans (congrArg some (by kernel_rfl))
  f284 := Tryz.func197.trans (congrArg some (by kernel_rfl))
  f285 := Tryz.func198.trans (congrArg some (by kernel_rfl))
  f286 := Tryz.func199.trans (congrArg some (by kernel_rfl))
  f287 := Tryz.func189.trans (congrArg some (by kernel_rfl))
  f316 := Tryz.func202.trans (congrArg some (by kernel_rfl))
  f317 := Tryz.func204.trans (congrArg some (by kernel_rfl))
  f318 := Tryz.func206.trans (congrArg some (by kernel_rfl))
  f319 := Tryz.func207.trans (congrArg some (by kernel_rfl))
  f320 := Tryz.func208.trans (congrArg some (by kernel_rfl))
  f321 := Tryz.func200.trans (congrArg some (by kernel_rfl))
  f322 := Tryz.func201.trans (congrArg some (by kernel_rfl))
  f337 := Tryz.func209.trans (congrArg some (by kernel_rfl))
  f338 := Tryz.func210.trans (congrArg some (by kernel_rfl))
  t0 := Tryz.underlying0
  a0 := Tryz.isAgg0
  z0 := Tryz.sizeOf0
  v0 := Tryz.zeroValue0
  t2 := Tryz.underlying2
  a2 := Tryz.isAgg2
  z2 := Tryz.sizeOf2
  v2 := Tryz.zeroValue2
  t3 := Tryz.underlying3
  a3 := Tryz.isAgg3
  z3 := Tryz.sizeOf3
  v3 := Tryz.zeroValue3
  t4 := Tryz.underlying4
  a4 := Tryz.isAgg4
  z4 := Tryz.sizeOf4
  v4 := Tryz.zeroValue4
  t5 := Tryz.underlying5
  a5 := Tryz.isAgg5
  z5 := Tryz.sizeOf5
  v5 := Tryz.zeroValue5
  t9 := Tryz.underlying9
  a9 := Tryz.isAgg9
  z9 := Tryz.sizeOf9
  v9 := Tryz.zeroValue9
  t20 := Tryz.underlying20
  a20 := Tryz.isAgg20
  z20 := Tryz.sizeOf20
  v20 := Tryz.zeroValue20
  t21 := Tryz.underlying21
  a21 := Tryz.isAgg21
  z21 := Tryz.sizeOf21
  v21 := Tryz.zeroValue21
  t37 := Tryz.underlying178
  a37 := Tryz.isAgg178
  z37 := Tryz.sizeOf178
  v37 := Tryz.zeroValue178
  t46 := Tryz.underlying173
  a46 := Tryz.isAgg173
  z46 := Tryz.sizeOf173
  v46 := Tryz.zeroValue173
  t51 := Tryz.underlying211
  a51 := Tryz.isAgg211
  z51 := Tryz.sizeOf211
  v51 := Tryz.zeroValue211
  t53 := Tryz.underlying214
  a53 := Tryz.isAgg214
  z53 := Tryz.sizeOf214
  v53 := Tryz.zeroValue214
  t75 := Tryz.underlying183
  a75 := Tryz.isAgg183
  z75 := Tryz.sizeOf183
  v75 := Tryz.zeroValue183
  t85 := Tryz.underlying204
  a85 := Tryz.isAgg204
  z85 := Tryz.sizeOf204
  v85 := Tryz.zeroValue204
  t127 := Tryz.underlying217
  a127 := Tryz.isAgg217
  z127 := Tryz.sizeOf217
  v127 := Tryz.zeroValue217
  t143 := Tryz.underlying268
  a143 := Tryz.isAgg268
  z143 := Tryz.sizeOf268
  v143 := Tryz.zeroValue268
  t145 := Tryz.underlying270
  a145 := Tryz.isAgg270
  z145 := Tryz.sizeOf270
  v145 := Tryz.zeroValue270
  t167 := Tryz.underlying246
  a167 := Tryz.isAgg246
  z167 := Tryz.sizeOf246
  v167 := Tryz.zeroValue246
  t168 := Tryz.underlying249
  a168 := Tryz.isAgg249
  z168 := Tryz.sizeOf249
  v168 := Tryz.zeroValue249
  t171 := Tryz.underlying252
  a171 := Tryz.isAgg252
  z171 := Tryz.sizeOf252
  v171 := Tryz.zeroValue252
  t173 := Tryz.underlying255
  a173 := Tryz.isAgg255
  z173 := Tryz.sizeOf255
  v173 := Tryz.zeroValue255
  t175 := Tryz.underlying247
  a175 := Tryz.isAgg247
  z175 := Tryz.sizeOf247
  v175 := Tryz.zeroValue247
  t210 := Tryz.underlying261
  a210 := Tryz.isAgg261
  z210 := Tryz.sizeOf261
  v210 := Tryz.zeroValue261
  t212 := Tryz.underlying265
  a212 := Tryz.isAgg265
  z212 := Tryz.sizeOf265
  v212 := Tryz.zeroValue265
  t213 := Tryz.underlying266
  a213 := Tryz.isAgg266
  z213 := Tryz.sizeOf266
  t232 := Tryz.underlying272
  a232 := Tryz.isAgg272
  z232 := Tryz.sizeOf272
  v232 := Tryz.zeroValue272
  t233 := Tryz.underlying273
  a233 := Tryz.isAgg273
  z233 := Tryz.sizeOf273
  v233 := Tryz.zeroValue273
  g15 := by kernel_rfl
  g16 := by kernel_rfl
  g17 := by kernel_rfl
  g18 := by kernel_rfl
  g19 := by kernel_rfl
  t80 := Tryz.underlying187
  a80 := Tryz.isAgg187
  z80 := Tryz.sizeOf187
  v80 := Tryz.zeroValue187
  i0 := by kernel_rfl
  i2 := by kernel_rfl
  i3 := by kernel_rfl
  i4 := by kernel_rfl
  i5 := by kernel_rfl
  i9 := by kernel_rfl
  i20 := by kernel_rfl
  i21 := by kernel_rfl
  i37 := by kernel_rfl
  i46 := by kernel_rfl
  i51 := by kernel_rfl
  i53 := by kernel_rfl
  i75 := by kernel_rfl
  i80 := by kernel_rfl
  i85 := by kernel_rfl
  i127 := by kernel_rfl
  i143 := by kernel_rfl
  i145 := by kernel_rfl
  i167 := by kernel_rfl
  i168 := by kernel_rfl
  i171 := by kernel_rfl
  i173 := by kernel_rfl
  i175 := by kernel_rfl
  i210 := by kernel_rfl
  i212 := by kernel_rfl
  i232 := by kernel_rfl
  i233 := by kernel_rfl
  m15 := by kernel_rfl
  m16 := by kernel_rfl
  m17 := by kernel_rfl
  m18 := by kernel_rfl
  m19 := by kernel_rfl
  c0 := by kernel_rfl
  c2 := by kernel_rfl
  c3 := by kernel_rfl
  c4 := by kernel_rfl
  c5 := by kernel_rfl
  c9 := by kernel_rfl
  c20 := by kernel_rfl
  c21 := by kernel_rfl
  c37 := by kernel_rfl
  c46 := by kernel_rfl
  c51 := by kernel_rfl
  c53 := by kernel_rfl
  c75 := by kernel_rfl
  c80 := by kernel_rfl
  c85 := by kernel_rfl
  c127 := by kernel_rfl
  c143 := by kernel_rfl
  c145 := by kernel_rfl
  c167 := by kernel_rfl
  c168 := by kernel_rfl
  c171 := by kernel_rfl
  c173 := by kernel_rfl
  c175 := by kernel_rfl
  c210 := by kernel_rfl
  c212 := by kernel_rfl
  c213 := by kernel_rfl
  c232 := by kernel_rfl
  c233 := by kernel_rfl }
theorem Tryz.strconv_ParseInt_10_at64_ok (s : ByteArray) (hmax : s.size ≤ 9223372036854775806) (v : Int) (h : Lib.parseIntB 64 s.data.toList = .ok v) (w : World) :
    Calls Tryz.prog 152 #[.string s, .int .i64 10, .int .i64 64] w fun e w' => e = .returned (.tuple #[.int .i64 v, .nilIface]) ∧ (w' = w ∨ ∃ t, w' = Lib.bytesWorld w 5 t) := Any.strconv_ParseInt_10_at64_ok Tryz.laysC174 s hmax v h w
theorem Tryz.strconv_ParseInt_10_at64_range_var (s : ByteArray) (hlim : s.size ≤ 281474976710656) (h : Lib.parseIntB 64 s.data.toList = .range) (tp : TypeId) (p : Value) (w : World) (hvar : w.var? Tryz.prog "strconv.ErrRange" = some #[.iface tp p]) :
    Calls Tryz.prog 152 #[.string s, .int .i64 10, .int .i64 64] w fun e w' => ∃ N, e = .returned (.tuple #[.int .i64 (Lib.intSat 64 s.data.toList), .iface 249 (.pointer (some ⟨N, 0, none⟩))]) ∧ w.heap.size ≤ N ∧ w'.heap[N]? = some (.cells #[.string ⟨#[80, 97, 114, 115, 101, 73, 110, 116]⟩, .string s, .iface tp p] 261 (0, 0)) ∧ Below w.heap.size w w' := Any.strconv_ParseInt_10_at64_range_var Tryz.laysC174 s hlim h tp p w hvar
def Tryz.laysPu14_ren : Go.Shelf.Ren := ⟨fun | 14 => 194 | 16 => 189 | 17 => 179 | 19 => 200 | 20 => 201 | 21 => 190 | 22 => 191 | 23 => 192 | 24 => 193 | 25 => 202 | 27 => 146 | 26 => 203 | 28 => 175 | 29 => 188 | 30 => 196 | 31 => 197 | 32 => 198 | 33 => 199 | 35 => 205 | 34 => 204 | 36 => 206 | 37 => 207 | 38 => 208 | 39 => 209 | 40 => 210 | n => n, fun | 9 => 9 | 3 => 3 | 22 => 214 | 24 => 183 | 25 => 247 | 4 => 4 | 34 => 246 | 5 => 5 | 36 => 173 | 37 => 178 | 0 => 0 | 39 => 249 | 21 => 21 | 44 => 261 | 47 => 217 | 50 => 270 | 48 => 268 | 2 => 2 | 52 => 252 | 55 => 255 | 59 => 265 | 60 => 211 | 20 => 20 | 61 => 266 | 65 => 272 | 66 => 273 | 67 => 187 | n => n, fun | 0 => 1 | 1 => 2 | 2 => 3 | 3 => 4 | 4 => 5 | n => n⟩
theorem Tryz.laysPu14 : Go.Proofs.LaysPu.n14 Tryz.prog Tryz.laysPu14_ren := {
  mixed := by kernel_rfl
  f14 := Tryz.func194.trans (congrArg some (by kernel_rfl))
  f16 := Tryz.func189.trans (congrArg some (by kernel_rfl))
  f17 := Tryz.func179.trans (congrArg some (by kernel_rfl))
  f19 := Tryz.func200.trans (congrArg some (by kernel_rfl))
  f20 := Tryz.func201.trans (congrArg some (by kernel_rfl))
  f21 := Tryz.func190.trans (congrArg some (by kernel_rfl))
  f22 := Tryz.func191.trans (congrArg some (by kernel_rfl))
  f23 := Tryz.func192.trans (congrArg some (by kernel_rfl))
  f24 := Tryz.func193.trans (congrArg some (by kernel_rfl))
  f25 := Tryz.func202.trans (congrArg some (by kernel_rfl))
  f26 := Tryz.func203.trans (congrArg some (by kernel_rfl))
  f27 := Tryz.func146.trans (congrArg some (by kernel_rfl))
  f28 := Tryz.func175.trans (congrArg some (by kernel_rfl))
  f29 := Tryz.func188.trans (congrArg some (by kernel_rfl))
  f30 := Tryz.func196.trans (congrArg some (by kernel_rfl))
  f31 := Tryz.func197.trans (congrArg some (by kernel_rfl))
  f32 := Tryz.func198.trans (congrArg some (by kernel_rfl))
  f33 := Tryz.func199.trans (congrArg some (by kernel_rfl))
  f34 := Tryz.func204.trans (congrArg some (by kernel_rfl))
  f35 := Tryz.func205.trans (congrArg some (by kernel_rfl))
  f36 := Tryz.func206.trans (congrArg some (by kernel_rfl))
  f37 := Tryz.func207.trans (congrArg some (by kernel_rfl))
  f38 := Tryz.func208.trans (congrArg some (by kernel_rfl))
  f39 := Tryz.func209.trans (congrArg some (by kernel_rfl))
  f40 := Tryz.func210.trans (congrArg some (by kernel_rfl))
  t0 := Tryz.underlying0
  a0 := Tryz.isAgg0
  z0 := Tryz.sizeOf0
  v0 := Tryz.zeroValue0
  i0 := by kernel_rfl
  t2 := Tryz.underlying2
  a2 := Tryz.isAgg2
  z2 := Tryz.sizeOf2
  v2 := Tryz.zeroValue2
  i2 := by kernel_rfl
  t3 := Tryz.underlying3
  a3 := Tryz.isAgg3
  z3 := Tryz.sizeOf3
  v3 := Tryz.zeroValue3
  i3 := by kernel_rfl
  t4 := Tryz.underlying4
  a4 := Tryz.isAgg4
  z4 := Tryz.sizeOf4
  v4 := Tryz.zeroValue4
  i4 := by kernel_rfl
  t5 := Tryz.underlying5
  a5 := Tryz.isAgg5
  z5 := Tryz.sizeOf5
  v5 := Tryz.zeroValue5
  i5 := by kernel_rfl
  t9 := Tryz.underlying9
  a9 := Tryz.isAgg9
  z9 := Tryz.sizeOf9
  v9 := Tryz.zeroValue9
  i9 := by kernel_rfl
  t20 := Tryz.underlying20
  a20 := Tryz.isAgg20
  z20 := Tryz.sizeOf20
  v20 := Tryz.zeroValue20
  i20 := by kernel_rfl
  t21 := Tryz.underlying21
  a21 := Tryz.isAgg21
  z21 := Tryz.sizeOf21
  v21 := Tryz.zeroValue21
  i21 := by kernel_rfl
  t22 := Tryz.underlying214
  a22 := Tryz.isAgg214
  z22 := Tryz.sizeOf214
  v22 := Tryz.zeroValue214
  i22 := by kernel_rfl
  t24 := Tryz.underlying183
  a24 := Tryz.isAgg183
  z24 := Tryz.sizeOf183
  v24 := Tryz.zeroValue183
  i24 := by kernel_rfl
  t25 := Tryz.underlying247
  a25 := Tryz.isAgg247
  z25 := Tryz.sizeOf247
  v25 := Tryz.zeroValue247
  i25 := by kernel_rfl
  t34 := Tryz.underlying246
  a34 := Tryz.isAgg246
  z34 := Tryz.sizeOf246
  v34 := Tryz.zeroValue246
  i34 := by kernel_rfl
  c34 := by kernel_rfl
  t36 := Tryz.underlying173
  a36 := Tryz.isAgg173
  z36 := Tryz.sizeOf173
  v36 := Tryz.zeroValue173
  i36 := by kernel_rfl
  t37 := Tryz.underlying178
  a37 := Tryz.isAgg178
  z37 := Tryz.sizeOf178
  v37 := Tryz.zeroValue178
  i37 := by kernel_rfl
  t39 := Tryz.underlying249
  a39 := Tryz.isAgg249
  z39 := Tryz.sizeOf249
  v39 := Tryz.zeroValue249
  i39 := by kernel_rfl
  t44 := Tryz.underlying261
  a44 := Tryz.isAgg261
  z44 := Tryz.sizeOf261
  v44 := Tryz.zeroValue261
  i44 := by kernel_rfl
  t47 := Tryz.underlying217
  a47 := Tryz.isAgg217
  z47 := Tryz.sizeOf217
  v47 := Tryz.zeroValue217
  i47 := by kernel_rfl
  t48 := Tryz.underlying268
  a48 := Tryz.isAgg268
  z48 := Tryz.sizeOf268
  v48 := Tryz.zeroValue268
  i48 := by kernel_rfl
  t50 := Tryz.underlying270
  a50 := Tryz.isAgg270
  z50 := Tryz.sizeOf270
  v50 := Tryz.zeroValue270
  i50 := by kernel_rfl
  t52 := Tryz.underlying252
  a52 := Tryz.isAgg252
  z52 := Tryz.sizeOf252
  v52 := Tryz.zeroValue252
  i52 := by kernel_rfl
  t55 := Tryz.underlying255
  a55 := Tryz.isAgg255
  z55 := Tryz.sizeOf255
  v55 := Tryz.zeroValue255
  i55 := by kernel_rfl
  t59 := Tryz.underlying265
  a59 := Tryz.isAgg265
  z59 := Tryz.sizeOf265
  v59 := Tryz.zeroValue265
  i59 := by kernel_rfl
  t60 := Tryz.underlying211
  a60 := Tryz.isAgg211
  z60 := Tryz.sizeOf211
  v60 := Tryz.zeroValue211
  i60 := by kernel_rfl
  t61 := Tryz.underlying266
  a61 := Tryz.isAgg266
  z61 := Tryz.sizeOf266
  t65 := Tryz.underlying272
  a65 := Tryz.isAgg272
  z65 := Tryz.sizeOf272
  v65 := Tryz.zeroValue272
  i65 := by kernel_rfl
  t66 := Tryz.underlying273
  a66 := Tryz.isAgg273
  z66 := Tryz.sizeOf273
  v66 := Tryz.zeroValue273
  i66 := by kernel_rfl
  t67 := Tryz.underlying187
  a67 := Tryz.isAgg187
  z67 := Tryz.sizeOf187
  v67 := Tryz.zeroValue187
  i67 := by kernel_rfl
  g0 := by kernel_rfl
  m0 := by kernel_rfl
  g1 := by kernel_rfl
  m1 := by kernel_rfl
  g2 := by kernel_rfl
  m2 := by kernel_rfl
  g3 := by kernel_rfl
  m3 := by kernel_rfl
  g4 := by kernel_rfl
  m4 := by kernel_rfl }
theorem Tryz.strconv_ParseUint_10_at64_ok (s : ByteArray) (hmax : s.size ≤ 9223372036854775806) (u : Nat) (h : Lib.parseUintB 64 s.data.toList = .ok u) (w : World) :
    Calls Tryz.prog 194 #[.string s, .int .i64 10, .int .i64 64] w fun e w' => e = .returned (.tuple #[.int .u64 u, .nilIface]) ∧ (w' = w ∨ w' = Lib.bytesWorld w 5 s) := Any.strconv_ParseUint_10_at64_ok Tryz.laysPu14 s hmax u h w
def Tryz.lays212_ren : Go.Shelf.Ren := ⟨fun | 212 => 123 | 263 => 158 | 264 => 159 | n => n, fun | 46 => 173 | 51 => 211 | 146 => 212 | 53 => 214 | 148 => 215 | n => n, fun | n => n⟩
theorem Tryz.lays212 : Go.Proofs.Lays.n212 Tryz.prog Tryz.lays212_ren := {
  mixed := by kernel_rfl
  f212 := Tryz.func123.trans (congrArg some (by kernel_rfl))
  f263 := Tryz.func158.trans (congrArg some (by kernel_rfl))
  f264 := Tryz.func159.trans (congrArg some (by kernel_rfl))
  t46 := Tryz.underlying173
  a46 := Tryz.isAgg173
  z46 := Tryz.sizeOf173
  v46 := Tryz.zeroValue173
  t51 := Tryz.underlying211
  a51 := Tryz.isAgg211
  z51 := Tryz.sizeOf211
  v51 := Tryz.zeroValue211
  t53 := Tryz.underlying214
  a53 := Tryz.isAgg214
  z53 := Tryz.sizeOf214
  v53 := Tryz.zeroValue214
  t146 := Tryz.underlying212
  a146 := Tryz.isAgg212
  z146 := Tryz.sizeOf212
  v146 := Tryz.zeroValue212
  t148 := Tryz.underlying215
  a148 := Tryz.isAgg215
  z148 := Tryz.sizeOf215
  v148 := Tryz.zeroValue215 }
theorem Tryz.bits_Mul (x y : Nat) (hx : x < 18446744073709551616) (hy : y < 18446744073709551616) (w : World) :
    Calls Tryz.prog 123 #[.int .u64 x, .int .u64 y] w fun e w' => e = .returned (.tuple #[.int .u64 ((x * y / 18446744073709551616 : Nat) : Int), .int .u64 ((x * y % 18446744073709551616 : Nat) : Int)]) ∧ w' = w := Any.bits_Mul Tryz.lays212 x y hx hy w
end Go.Proofs
