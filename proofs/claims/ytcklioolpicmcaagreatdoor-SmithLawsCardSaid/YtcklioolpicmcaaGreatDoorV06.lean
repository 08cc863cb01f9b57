/- Part 6 of the proof of the claim: contracts of the functions that it reaches, and plain laws; no condition. -/
import Derived.Test.YtcklioolpicmcaaGreatDoorV05
import Derived.Lib.AtoiAll
import Derived.Lib.ParseIntB
/- Slices in memory: 'Sl': the elements of a slice can be read; 'Own': a slice that a call has made itself, in a block of its own. -/
namespace Go.Proofs.YtcklioolpicmcaaGreatDoor
open Go.RowKit
structure Sl (w : World) (ga : Option Addr) (gb go : Nat) (xs : List Value) : Prop where
  addr : 0 < xs.length → ga = some ⟨gb, go, none⟩
  cell : ∀ i x, xs[i]? = some x → w.cell? ⟨gb, go + i, none⟩ = some x
theorem Sl.ext {w w' : World} {ga : Option Addr} {gb go : Nat} {xs : List Value} (h : Sl w ga gb go xs) (he : Ext w w') : Sl w' ga gb go xs :=
  ⟨h.addr, fun i x hx => he.cell (h.cell i x hx)⟩
theorem Sl.nil (w : World) (ga : Option Addr) (gb go : Nat) : Sl w ga gb go [] := ⟨fun h => by simp at h, fun i x h => by simp at h⟩
theorem Sl.take {w : World} {ga : Option Addr} {gb go : Nat} {xs : List Value} (h : Sl w ga gb go xs) (n : Nat) : Sl w ga gb go (xs.take n) :=
  ⟨fun h' => h.addr (by simp at h'; omega), fun i x hx => h.cell i x (by
    rw [List.getElem?_take] at hx; split at hx
    · exact hx
    · cases hx)⟩
theorem Sl.lt {w : World} {ga : Option Addr} {gb go : Nat} {xs : List Value} (h : Sl w ga gb go xs) (hx : 0 < xs.length) : gb < w.heap.size := by
  have := h.cell 0 xs[0] (List.getElem?_eq_getElem hx)
  exact World.block_lt_of_cell? _ _ this
def us (p : List Nat) : List Value := p.map fun (d : Nat) => Value.int .u64 (d : Int)
def is (p : List Int) : List Value := p.map fun (d : Int) => Value.int .i64 d
@[simp] theorem us_length (l : List Nat) : (us l).length = l.length := by simp [us]
@[simp] theorem is_length (l : List Int) : (is l).length = l.length := by simp [is]
theorem us_get {p : List Nat} {i : Nat} (h : i < p.length) : (us p)[i]? = some (.int .u64 (p[i] : Nat)) := by
  simp [us, List.getElem?_map, List.getElem?_eq_getElem h]
theorem is_get {p : List Int} {i : Nat} (h : i < p.length) : (is p)[i]? = some (.int .i64 p[i]) := by
  simp [is, List.getElem?_map, List.getElem?_eq_getElem h]
end Go.Proofs.YtcklioolpicmcaaGreatDoor
/- Plain facts: the library's functions on numerals, at the texts of integers. No program. -/
namespace Go.Proofs.YtcklioolpicmcaaGreatDoor
theorem valB_ge (l : List UInt8) : ∀ n, n ≤ valB n l := by
  intro n
  rw [valB_acc l n]
  have : 1 ≤ 10 ^ l.length := Nat.one_le_pow _ _ (by omega)
  have := Nat.mul_le_mul_left n this
  omega
theorem pU_ok : ∀ (l : List UInt8) (acc : Nat), (∀ c ∈ l, isDig c) → valB acc l < 18446744073709551616 → Lib.parseUint10 acc l = .ok (valB acc l)
  | [], acc, _, _ => rfl
  | c :: r, acc, hd, hv => by
    have hc := hd c (by simp)
    obtain ⟨e, e2, e3⟩ := dv_eq hc
    rw [valB_cons] at hv
    have := valB_ge r (10 * acc + dv c)
    rw [Lib.parseUint10, if_pos ⟨hc.1, hc.2⟩, if_neg (by omega), if_neg (by omega), valB_cons, ← e, Nat.mul_comm acc 10]
    exact pU_ok r _ (fun x hx => hd x (by simp [hx])) hv
theorem pM_ok : ∀ (l : List UInt8) (M acc : Nat), M < 18446744073709551616 → (∀ c ∈ l, isDig c) → valB acc l ≤ M → Lib.parseUintM M acc l = .ok (valB acc l)
  | [], M, acc, _, _, _ => rfl
  | c :: r, M, acc, hM, hd, hv => by
    have hc := hd c (by simp)
    obtain ⟨e, e2, e3⟩ := dv_eq hc
    rw [valB_cons] at hv
    have := valB_ge r (10 * acc + dv c)
    rw [Lib.parseUintM, if_pos ⟨hc.1, hc.2⟩, if_neg (by omega), if_neg (by omega), valB_cons, ← e, Nat.mul_comm acc 10]
    exact pM_ok r M _ hM (fun x hx => hd x (by simp [hx])) hv
theorem pM_range : ∀ (l : List UInt8) (M acc : Nat), (∀ c ∈ l, isDig c) → acc ≤ M → M < valB acc l → Lib.parseUintM M acc l = .range
  | [], M, acc, _, h1, h2 => by rw [valB_nil] at h2; omega
  | c :: r, M, acc, hd, h1, hv => by
    have hc := hd c (by simp)
    obtain ⟨e, e2, e3⟩ := dv_eq hc
    rw [valB_cons] at hv
    rw [Lib.parseUintM, if_pos ⟨hc.1, hc.2⟩]
    by_cases h3 : 1844674407370955162 ≤ acc
    · rw [if_pos h3]
    · rw [if_neg h3]
      by_cases h4 : M < acc * 10 + (c.toNat - 48)
      · rw [if_pos h4]
      · rw [if_neg h4, ← e, Nat.mul_comm acc 10]
        exact pM_range r M _ (fun x hx => hd x (by simp [hx])) (by omega) hv
theorem parseUint_dec {u : Nat} (h : u < 18446744073709551616) : Lib.parseUintB 64 (Lib.decDigits u) = .ok u := by
  unfold Lib.parseUintB
  rw [if_neg (dec_ne_nil u), pM_ok _ _ 0 (by decide) (dec_dig u) (by rw [valB_dec]; omega), valB_dec]
theorem parseUint_big {u : Nat} (h : 18446744073709551616 ≤ u) : Lib.parseUintB 64 (Lib.decDigits u) = .range := by
  unfold Lib.parseUintB
  rw [if_neg (dec_ne_nil u), pM_range _ _ 0 (dec_dig u) (by omega) (by rw [valB_dec]; omega)]
theorem head_not_sign {u : Nat} {c : UInt8} {t : List UInt8} (e : Lib.decDigits u = c :: t) : ¬ (c.toNat = 43 ∨ c.toNat = 45) ∧ ¬ c.toNat = 45 := by
  have := dec_dig u c (by rw [e]; simp)
  unfold isDig at this
  omega
theorem parseInt_itoa {z : Int} (h1 : -9223372036854775808 ≤ z) (h2 : z ≤ 9223372036854775807) : Lib.parseIntB 64 (Lib.itoa z) = .ok z := by
  by_cases hz : z < 0
  · rw [itoa_neg hz]
    unfold Lib.parseIntB
    have e : (45 : UInt8).toNat = 45 := rfl
    simp only [e, or_true, if_true]
    rw [parseUint_dec (by omega)]
    simp only [not_true, false_and, if_false, true_and]
    rw [if_neg (by omega)]
    simp; omega
  · rw [itoa_pos (by omega)]
    obtain ⟨c, t, e, _⟩ := dec_head z.natAbs
    obtain ⟨hs1, hs2⟩ := head_not_sign e
    have hp := parseUint_dec (u := z.natAbs) (by omega)
    rw [e] at hp ⊢
    unfold Lib.parseIntB
    simp only [if_neg hs1, hp]; simp only [hs2, not_false_iff, true_and, false_and, if_false]
    rw [if_neg (by omega)]
    simp; omega
theorem parseInt_range {z : Int} (h : z < -9223372036854775808 ∨ 9223372036854775807 < z) : Lib.parseIntB 64 (Lib.itoa z) = .range := by
  by_cases hz : z < 0
  · rw [itoa_neg hz]
    unfold Lib.parseIntB
    have e : (45 : UInt8).toNat = 45 := rfl
    simp only [e, or_true, if_true]
    by_cases hb : z.natAbs < 18446744073709551616
    · rw [parseUint_dec hb]
      simp only [not_true, false_and, if_false, true_and]
      rw [if_pos (by omega)]
    · rw [parseUint_big (by omega)]
  · rw [itoa_pos (by omega)]
    obtain ⟨c, t, e, _⟩ := dec_head z.natAbs
    obtain ⟨hs1, hs2⟩ := head_not_sign e
    by_cases hb : z.natAbs < 18446744073709551616
    · have hp := parseUint_dec (u := z.natAbs) hb
      rw [e] at hp ⊢
      unfold Lib.parseIntB
      simp only [if_neg hs1, hp]; simp only [hs2, not_false_iff, true_and]
      rw [if_pos (by omega)]
    · have hp := parseUint_big (u := z.natAbs) (by omega)
      rw [e] at hp ⊢
      unfold Lib.parseIntB
      simp only [if_neg hs1, hp]
theorem atoi_itoa {z : Int} (h1 : -9223372036854775808 ≤ z) (h2 : z ≤ 9223372036854775807) : Lib.atoiAll (Lib.itoa z) = .ok z := by
  have hpU : ∀ u : Nat, u < 18446744073709551616 → Lib.parseMag (Lib.decDigits u) = .ok u := fun u hu => by
    unfold Lib.parseMag
    rw [if_neg (dec_ne_nil u), pU_ok _ 0 (dec_dig u) (by rw [valB_dec]; omega), valB_dec]
  by_cases hz : z < 0
  · rw [itoa_neg hz]
    unfold Lib.atoiAll
    have e : (45 : UInt8).toNat = 45 := rfl
    simp only [e, or_true, if_true]
    rw [hpU _ (by omega)]
    simp only [not_true, false_and, if_false, true_and]
    rw [if_neg (by omega)]
    simp; omega
  · rw [itoa_pos (by omega)]
    obtain ⟨c, t, e, _⟩ := dec_head z.natAbs
    obtain ⟨hs1, hs2⟩ := head_not_sign e
    have hp := hpU z.natAbs (by omega)
    rw [e] at hp ⊢
    unfold Lib.atoiAll
    simp only [if_neg hs1, hp]; simp only [hs2, not_false_iff, true_and, false_and, if_false]
    rw [if_neg (by omega)]
    simp; omega
end Go.Proofs.YtcklioolpicmcaaGreatDoor
