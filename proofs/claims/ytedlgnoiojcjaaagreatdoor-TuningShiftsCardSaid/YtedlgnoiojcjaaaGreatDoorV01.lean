/- Part 1 of the proof of the claim: contracts of the functions that it reaches, and plain laws; no condition. -/
import Derived.Lib.ItoaNum
import Derived.Test.YtedlgnoiojcjaaaGreatDoorProg
import Derived.WalkKit
import Derived.WalkLawsBesides
import Derived.WalkSpells
import Derived.Deep.QuietTactic
import Derived.BigQuiet
import Derived.Below
import Derived.Lib.Hide
import Derived.Deep.LoopGhost
import Derived.Lib.Strings
import Derived.Lib.IndexBytes
import Derived.StillTail
import Derived.Lib.QuietBelow
import Derived.OrdersHeld
set_option maxRecDepth 100000
namespace Go.Proofs.YtedlgnoiojcjaaaGreatDoor
@[irreducible] def dv (c : UInt8) : Nat := c.toNat - 48
def valB (n : Nat) (l : List UInt8) : Nat := l.foldl (fun n c => 10 * n + dv c) n
def isDig (c : UInt8) : Prop := 48 ≤ c.toNat ∧ c.toNat ≤ 57
theorem dv_eq {c : UInt8} (h : isDig c) : dv c = c.toNat - 48 ∧ c.toNat = 48 + dv c ∧ dv c < 10 := by
 unfold dv; unfold isDig at h; omega
theorem valB_nil (n : Nat) : valB n [] = n := rfl
theorem valB_cons (n : Nat) (c : UInt8) (l : List UInt8) : valB n (c :: l) = valB (10 * n + dv c) l := by unfold valB; rw [List.foldl_cons]
theorem valB_append (n : Nat) (a b : List UInt8) : valB n (a ++ b) = valB (valB n a) b := by
 unfold valB; rw [List.foldl_append]
theorem valB_acc (a : List UInt8) : ∀ n, valB n a = n * 10 ^ a.length + valB 0 a := by
 induction a with
 | nil => intro n; rw [valB_nil, valB_nil]; simp
 | cons c a ih =>
  intro n
  generalize hd : dv c = d
  rw [valB_cons, valB_cons, hd, List.length_cons, Nat.pow_succ, ih (10 * n + d), Nat.mul_zero, Nat.zero_add, ih d]
  generalize valB 0 a = x
  generalize 10 ^ a.length = y
  rw [Nat.add_mul, Nat.mul_comm 10 n, Nat.mul_assoc, Nat.mul_comm 10, Nat.add_assoc]
theorem toNat_ofNat_dig {k : Nat} (h : k < 10) : (UInt8.ofNat (48 + k)).toNat = 48 + k := by
 rw [UInt8.toNat_ofNat']; exact Nat.mod_eq_of_lt (by omega)
theorem valB_dec (u : Nat) : valB 0 (Lib.decDigits u) = u := by
 induction u using Nat.strongRecOn with
 | _ u ih =>
  rw [Lib.decDigits]
  by_cases h : u < 10
  ·rw [dif_pos h]; rw [valB_cons, valB_nil]; unfold dv; rw [toNat_ofNat_dig h]; omega
  ·rw [dif_neg h, valB_append, ih (u / 10) (by omega)]
   rw [valB_cons, valB_nil]; unfold dv; rw [toNat_ofNat_dig (Nat.mod_lt u (by omega : 0 < 10))]
   omega
theorem dec_inj {u v : Nat} (h : Lib.decDigits u = Lib.decDigits v) : u = v := by
 rw [← valB_dec u, ← valB_dec v, h]
theorem dec_dig (u : Nat) : ∀ c ∈ Lib.decDigits u, isDig c := by
 induction u using Nat.strongRecOn with
 | _ u ih =>
  rw [Lib.decDigits]
  by_cases h : u < 10
  ·rw [dif_pos h]; intro c hc; rw [List.mem_singleton] at hc; subst hc; unfold isDig; rw [toNat_ofNat_dig h]; omega
  ·rw [dif_neg h]; intro c hc
   rcases List.mem_append.1 hc with hc | hc
   ·exact ih _ (by omega) c hc
   ·rw [List.mem_singleton] at hc; subst hc; unfold isDig; rw [toNat_ofNat_dig (Nat.mod_lt u (by omega))]; omega
theorem dec_zero : Lib.decDigits 0 = [48] := by rw [Lib.decDigits]; rfl
theorem dec_ne_nil (u : Nat) : Lib.decDigits u ≠ [] := by
 intro h; have := congrArg List.length h; rw [Lib.decDigits_length] at this; have := Lib.nDigits_pos u; simp at *; omega
theorem dec_head (u : Nat) : ∃ c t, Lib.decDigits u = c :: t ∧ isDig c ∧ (u ≠ 0 → c.toNat ≠ 48) := by
 induction u using Nat.strongRecOn with
 | _ u ih =>
  rw [Lib.decDigits]
  by_cases h : u < 10
  ·rw [dif_pos h]; refine ⟨_, _, rfl, ?_, ?_⟩
   ·unfold isDig; rw [toNat_ofNat_dig h]; omega
   ·intro hu; rw [toNat_ofNat_dig h]; omega
  ·rw [dif_neg h]
   obtain ⟨c, t, e, hd, hz⟩ := ih (u / 10) (by omega)
   exact ⟨c, t ++ _, by rw [e]; rfl, hd, fun _ => hz (by omega)⟩
theorem dec_eq_zero (u : Nat) : (Lib.decDigits u == [48]) = decide (u = 0) := by
 by_cases h : u = 0
 ·subst h; rw [dec_zero]; rfl
 ·rw [decide_eq_false h]
  obtain ⟨c, t, e, _, hz⟩ := dec_head u
  rw [beq_eq_false_iff_ne, e]
  intro hc
  injection hc with hc _
  exact hz h (by rw [hc]; rfl)
def nd (z : Int) : Nat := Lib.nDigits z.natAbs
theorem itoa_neg {z : Int} (h : z < 0) : Lib.itoa z = 45 :: Lib.decDigits z.natAbs := by unfold Lib.itoa; rw [if_pos h]
theorem itoa_pos {z : Int} (h : 0 ≤ z) : Lib.itoa z = Lib.decDigits z.natAbs := by
 unfold Lib.itoa; rw [if_neg (by omega)]; congr 1; omega
theorem itoa_nat (u : Nat) : Lib.itoa (u : Int) = Lib.decDigits u := itoa_pos (by omega)
theorem itoa_zero : Lib.itoa 0 = [48] := by rw [itoa_pos (by omega)]; exact dec_zero
theorem itoa_length (z : Int) : (Lib.itoa z).length = nd z + (if z < 0 then 1 else 0) := by
 by_cases h : z < 0
 ·rw [itoa_neg h, if_pos h, List.length_cons, Lib.decDigits_length]; rfl
 ·rw [itoa_pos (by omega), if_neg h, Lib.decDigits_length]; rfl
theorem itoa_eq_zero (z : Int) : (Lib.itoa z == [48]) = decide (z = 0) := by
 by_cases h : z < 0
 ·rw [itoa_neg h, decide_eq_false (by omega), beq_eq_false_iff_ne]
  intro hc; injection hc with hc _; cases hc
 ·rw [itoa_pos (by omega), dec_eq_zero]
  by_cases hz : z = 0
  ·simp [hz]
  ·rw [decide_eq_false hz, decide_eq_false (by omega)]
theorem itoa_inj {a b : Int} (h : Lib.itoa a = Lib.itoa b) : a = b := by
 by_cases ha : a < 0 <;> by_cases hb : b < 0
 ·rw [itoa_neg ha, itoa_neg hb] at h; injection h with _ h; have := dec_inj h; omega
 ·rw [itoa_neg ha, itoa_pos (by omega)] at h
  obtain ⟨c, t, e, hd, _⟩ := dec_head b.natAbs
  rw [e] at h; injection h with h _; subst h; exact absurd hd.1 (by decide)
 ·rw [itoa_neg hb, itoa_pos (by omega)] at h
  obtain ⟨c, t, e, hd, _⟩ := dec_head a.natAbs
  rw [e] at h; injection h with h _; subst h; exact absurd hd.1 (by decide)
 ·rw [itoa_pos (by omega), itoa_pos (by omega)] at h; have := dec_inj h; omega
theorem nDigits_le {u k : Nat} (h : u < 10 ^ k) (hk : 1 ≤ k) : Lib.nDigits u ≤ k := by
 induction k generalizing u with
 | zero => omega
 | succ k ih =>
  by_cases hu : u < 10
  ·rw [Lib.nDigits_small hu]; omega
  ·rw [Lib.nDigits_big hu]
   rw [Nat.pow_succ] at h
   have hk : 1 ≤ k := by
    rcases Nat.eq_zero_or_pos k with h0 | h0
    ·subst h0; simp at h; omega
    ·exact h0
   have := ih (u := u / 10) (by omega) hk
   omega
theorem lt_pow_of_nd {u k : Nat} (h : Lib.nDigits u ≤ k) : u < 10 ^ k :=
 Nat.lt_of_lt_of_le (Lib.lt_pow_nDigits u) (Nat.pow_le_pow_right (by omega) h)
theorem nDigits_mono {u v : Nat} (h : u ≤ v) : Lib.nDigits u ≤ Lib.nDigits v :=
 nDigits_le (Nat.lt_of_le_of_lt h (Lib.lt_pow_nDigits v)) (Lib.nDigits_pos v)
theorem nd_neg (z : Int) : nd (-z) = nd z := by unfold nd; rw [Int.natAbs_neg]
theorem nd_pos (z : Int) : 1 ≤ nd z := Lib.nDigits_pos _
theorem nd_add (a b : Int) : nd (a + b) ≤ max (nd a) (nd b) + 1 := by
 unfold nd
 refine nDigits_le ?_ (by omega)
 have h1 := lt_pow_of_nd (Nat.le_max_left (Lib.nDigits a.natAbs) (Lib.nDigits b.natAbs))
 have h2 := lt_pow_of_nd (Nat.le_max_right (Lib.nDigits a.natAbs) (Lib.nDigits b.natAbs))
 rw [Nat.pow_succ]
 have := Int.natAbs_add_le a b
 omega
theorem nd_mul (a b : Int) : nd (a * b) ≤ nd a + nd b := by
 unfold nd
 refine nDigits_le ?_ (by have := Lib.nDigits_pos a.natAbs; omega)
 rw [Int.natAbs_mul, Nat.pow_add]
 exact Nat.mul_lt_mul'' (Lib.lt_pow_nDigits _) (Lib.lt_pow_nDigits _)
end Go.Proofs.YtedlgnoiojcjaaaGreatDoor
namespace Go.Proofs.YtedlgnoiojcjaaaGreatDoor
open Go.RowKit
abbrev S (l : List UInt8) : Value := .string ⟨l.toArray⟩
abbrev I (z : Int) : Value := S (Lib.itoa z)
abbrev D (u : Nat) : Value := S (Lib.decDigits u)
def LIM : Nat := 1000000000000
def Ext (w w' : World) : Prop := Below w.heap.size w w'
theorem Ext.refl (w : World) : Ext w w := Below.refl _ _
theorem Ext.trans {a b c : World} (h : Ext a b) (k : Ext b c) : Ext a c := Below.trans h (Below.mono k h.size)
theorem Ext.drewN {a b : World} (h : Ext a b) (n : Nat) : Ext a (b.drewN n) := below_drewN h n
theorem Ext.drew {a b : World} (h : Ext a b) : Ext a b.drew := Below.drew h
theorem Ext.alloc {a b : World} (h : Ext a b) (o : Obj) : Ext a (b.alloc o) := Below.alloc h h.size o
theorem Ext.setCell {a b : World} (h : Ext a b) {p : Addr} (hp : a.heap.size ≤ p.block) (v : Value) : Ext a (b.setCell p v) := Below.setCell h hp v
theorem Ext.size {a b : World} (h : Ext a b) : a.heap.size ≤ b.heap.size := Below.size h
theorem Ext.tape {a b : World} (h : Ext a b) : b.tape = a.tape := Below.tape h
theorem Ext.block {a b : World} (h : Ext a b) (k : Nat) (hk : k < a.heap.size) : b.heap[k]? = a.heap[k]? := Below.block h k hk
theorem Ext.cell {a b : World} (h : Ext a b) {p : Addr} {v : Value} (hp : a.cell? p = some v) : b.cell? p = some v := by
 rw [Below.cell h (World.block_lt_of_cell? _ _ hp)]; exact hp
theorem Ext.frozen {a b : World} (h : Ext a b) {p : Addr} (hp : p.block < a.heap.size) : b.frozen? p = a.frozen? p := Below.frozen h hp
theorem Ext.mk' {a b : World} (h : Below a.heap.size a b) : Ext a b := h
theorem ret_val {a b : Value} (h : a = b) : Ending.returned a = .returned b := by rw [h]
theorem S_extract1 (c : UInt8) (l : List UInt8) (n : Nat) (h : n = l.length + 1) : Value.string ((⟨(c :: l).toArray⟩ : ByteArray).extract 1 n) = S l := by
 subst h
 congr 1
 rw [ByteArray.extract_mk]
 congr 1
 simp
end Go.Proofs.YtedlgnoiojcjaaaGreatDoor
namespace Go.Proofs.YtedlgnoiojcjaaaGreatDoor
open Go Go.Sort
section
variable {P : Program} {ops : Array Oper} {md : Region.Mode} {C : World → Prop}
def wpAnyLQ (P : Program) (md : Region.Mode) (ops : Array Oper) (C : World → Prop) (n : Nat) (L : Array Bool → Act → Prop) : Nat → Array Bool → Act → Prop
 | 0, listed, a => L listed a
 | f + 1, listed, a => Region.ready md ops listed ≠ [] ∧ ∀ i ∈ Region.ready md ops listed, i < n ∧ qOp P ops C i (wpAnyLQ P md ops C n L f (listed.setIfInBounds i true)) a
theorem wpAny_of_headQ {n g : Nat} {L : Array Bool → Act → Prop} {Q' : Exit → Act → World → Prop} (hL : ∀ listed a w, C w → L listed a → wpAny P md ops Q' g listed a w) :
  ∀ (f : Nat) (listed : Array Bool) (a : Act) (w : World), C w → wpAnyLQ P md ops C n L f listed a → wpAny P md ops Q' (f + g) listed a w
 | 0, listed, a, w, hC, h => by rw [Nat.zero_add]; exact hL _ _ _ hC h
 | f + 1, listed, a, w, hC, h => by
  rw [show f + 1 + g = (f + g) + 1 by omega]
  exact ⟨fun h0 => absurd h0 h.1, fun i hi => wpOp_of_qOp hC (fun a' w' hw' h' => wpAny_of_headQ hL f _ a' w' hw' h') (h.2 i hi).2⟩
theorem wpAnyLQ_first {n i : Nat} {oi : Oper} {v : Value} {L : Array Bool → Act → Prop} (hi : ops[i]? = some oi) (hsel : ∀ (j : Nat) (o : Oper) cs b, ops[j]? = some o → o.op ≠ .select cs b)
  (hs : Region.sinkB md ops n = true) (hc : Region.chainB md ops n = true) (hn : n < ops.size) (hin : i < n)
  (hdone : ∀ listed a, L listed a → ∀ j ∈ Region.ready md ops listed, n ≤ j) :
  ∀ (f : Nat) (listed : Array Bool) (a : Act), HeadInv md ops n listed →
   (∀ j oj, ops[j]? = some oj → j ≠ i → listed.getD j true = false → (∀ e ∈ oj.after, Region.binds md e = true → e.on ≠ i) → oi.apart ops oj = true) →
   i ∈ Region.ready md ops listed → YieldsIn P ops C oi v a →
   wpAnyLQ P md ops C n L f (listed.setIfInBounds i true) (a.put oi.dst v) → wpAnyLQ P md ops C n L (f + 1) listed a := by
 intro f
 induction f with
 | zero =>
  intro listed a inv _ hr hy H
  have hun := (mem_ready.1 hr).1
  refine ⟨fun h => (by rw [h] at hr; cases hr), fun j hj => ?_⟩
  have hjn : j < n := by
   rcases Nat.lt_or_ge j n with h | h
   ·exact h
   ·exact absurd hj (tail_waits hs hc hn inv _ i rfl hin hun j h)
  refine ⟨hjn, ?_⟩
  by_cases hji : j = i
  ·subst hji; exact hy.qOp hi H
  ·have := hdone _ _ H j (ready_mono hj hji)
   omega
 | succ f ih =>
  intro listed a inv hfree hr hy H
  have hun := (mem_ready.1 hr).1
  refine ⟨fun h => (by rw [h] at hr; cases hr), fun j hj => ?_⟩
  have hjn : j < n := by
   rcases Nat.lt_or_ge j n with h | h
   ·exact h
   ·exact absurd hj (tail_waits hs hc hn inv _ i rfl hin hun j h)
  refine ⟨hjn, ?_⟩
  by_cases hji : j = i
  ·subst hji; exact hy.qOp hi H
  ·have h1 := (H.2 j (ready_mono hj hji)).2
   obtain ⟨hjun, oj, hoj, hall⟩ := mem_ready.1 hj
   have hnot : ∀ e ∈ oj.after, Region.binds md e = true → e.on ≠ i := fun e he hb heq => by
    have h1 := hall e he hb
    rw [heq, getD_both hun] at h1
    cases h1
   have h2 := qOp_put hoj (hfree j oj hoj hji hjun hnot) (fun cs b => hsel i oi cs b hi) (fun cs b => hsel j oj cs b hoj) hy h1
   have hfree' : ∀ k ok, ops[k]? = some ok → k ≠ i → (listed.setIfInBounds j true).getD k true = false →
     (∀ e ∈ ok.after, Region.binds md e = true → e.on ≠ i) → oi.apart ops ok = true := fun k ok hk hki hun hno => by
    refine hfree k ok hk hki ?_ hno
    by_cases hjk : j = k
    ·subst hjk; exact hjun
    ·rw [getD_set_ne true hjk] at hun; exact hun
   refine qOp_mono (fun a' h3 => ih (listed.setIfInBounds j true) a' (inv.set hj hjn) hfree' (ready_mono hr (Ne.symm hji)) h3.1 ?_) h2
   rw [Array.setIfInBounds_comm _ _ hji]
   exact h3.2
theorem wpAnyLQ_lex {n g : Nat} {Lq : Act → Prop} (hsel : Region.noSelect ops = true) (hs : Region.sinkB md ops n = true) (hc : Region.chainB md ops n = true) (hn : n < ops.size) :
  ∀ (l : List Oper) (k : Nat) (listed : Array Bool) (a : Act), (∀ j, j < l.length → l[j]? = ops[k + j]?) → k + l.length = n → HeadInv md ops n listed →
  Region.lexHead md ops g l.length k listed = true → wpQuiet P ops C Lq l a →
  wpAnyLQ P md ops C n (fun listed' a' => Region.seqB md ops g n listed' = true ∧ Lq a') l.length listed a
 | [], k, listed, a, _, hk, _, hB, h => by
  have : k = n := by simpa using hk
  subst this
  exact ⟨by simpa [Region.lexHead] using hB, h⟩
 | o :: l, k, listed, a, hl, hk, inv, hB, h => by
  have h0 : ops[k]? = some o := by simpa using (hl 0 (by simp)).symm
  simp only [List.length_cons, Region.lexHead, Bool.and_eq_true] at hB
  obtain ⟨⟨hr, hf⟩, hB'⟩ := hB
  have hkn : k < n := by simp only [List.length_cons] at hk; omega
  have hr' : k ∈ Region.ready md ops listed := by simpa using hr
  have hst : qOp P ops C k (wpQuiet P ops C Lq l) a := by unfold qOp; simp only [h0]; exact h
  obtain ⟨v, hy, hK⟩ := yieldsIn_of_qOp h0 hst
  exact wpAnyLQ_first h0 (Region.noSelect_spec hsel) hs hc hn hkn (fun listed' a' hL => seqB_ready hL.1) l.length listed a inv (Region.free_spec h0 hf) hr' hy
   (wpAnyLQ_lex hsel hs hc hn l (k + 1) _ _ (fun j hj => by have := hl (j + 1) (by simp; omega); simpa [Nat.add_assoc, Nat.add_comm 1 j] using this) (by simp only [List.length_cons] at hk; omega) (inv.set hr' hkn) hB' hK)
theorem wp_region_quiet_tail {id : Nat} {Q : Exit → Act → World → Prop} {a : Act} {w : World} {l : List Oper} (n : Nat) (hm : P.follows .mixedOrders = true) (hB : Region.lexTailB .any l.toArray n = true)
  (h : wpQuiet P l.toArray (fun w' => ∃ p : Regrown, w' = grow (redrawn w p.d) p.os) (fun a' => ∀ w', (∃ p : Regrown, w' = grow (redrawn w p.d) p.os) → wpList P l.toArray Q (l.drop n) a' w') (l.take n) a) : (Code.region id l.toArray true).wp P Q a w := by
 simp only [Region.lexTailB, Bool.and_eq_true, decide_eq_true_eq] at hB
 obtain ⟨⟨⟨⟨hsel, hn⟩, hs⟩, hc⟩, hlex⟩ := hB
 have hn' : n < l.length := by simpa using hn
 have htl : (l.take n).length = n := by simp; omega
 have hdl : (l.drop n).length = l.toArray.size - n := by simp
 have inv0 : HeadInv .any l.toArray n (Array.replicate l.toArray.size false) :=
  ⟨by simp, fun j oj _ hl => (by rw [getD_replicate_false] at hl; cases hl), fun t _ ht => getD_in (by simpa using ht) (getD_replicate_false _ _)⟩
 have H := wpAnyLQ_lex (md := .any) (g := l.toArray.size - n) hsel hs hc hn (l.take n) 0 _ a (fun j hj => by
  have hj' : j < n := by rw [htl] at hj; exact hj
  simp [hj']) (by simpa using htl) inv0 (by rw [htl]; exact hlex) h
 refine wp_region_any hm ?_
 have := wpAny_of_headQ (Q' := Q) (g := l.toArray.size - n) (fun listed a' w' hC hL => by
  have := wpAny_of_seq (md := .any) (Q' := Q) (l.drop n) n listed a' w' (fun j => by simp [List.getElem?_drop]) (by rw [hdl]; exact hL.1) (hL.2 w' hC)
  rwa [hdl] at this) _ _ _ _ (show ∃ p : Regrown, ({ w with drawn := w.drawn + 1 } : World) = grow (redrawn w p.d) p.os from ⟨⟨w.drawn + 1, #[]⟩, by rw [grow_empty]; rfl⟩) H
 rw [htl, show n + (l.toArray.size - n) = l.toArray.size by omega] at this
 exact this
end
section
variable {P : Program} {ops : Array Oper} {md : Region.Mode} {Q : Exit → Act → World → Prop} {S : World → Prop}
def wpAnyLH (P : Program) (md : Region.Mode) (ops : Array Oper) (Q : Exit → Act → World → Prop) (S : World → Prop) (n : Nat) (L : Array Bool → Act → World → Prop) : Nat → Array Bool → Act → World → Prop
 | 0, listed, a, w => L listed a w
 | f + 1, listed, a, w => Region.ready md ops listed ≠ [] ∧ ∀ i ∈ Region.ready md ops listed, i < n ∧ wpOp P ops Q i (fun a' w' => S w' ∧ wpAnyLH P md ops Q S n L f (listed.setIfInBounds i true) a' w') a w
theorem wpAny_of_headH {n g : Nat} {L : Array Bool → Act → World → Prop} (hL : ∀ listed a w, L listed a w → wpAny P md ops Q g listed a w) :
  ∀ (f : Nat) (listed : Array Bool) (a : Act) (w : World), wpAnyLH P md ops Q S n L f listed a w → wpAny P md ops Q (f + g) listed a w
 | 0, listed, a, w, h => by rw [Nat.zero_add]; exact hL _ _ _ h
 | f + 1, listed, a, w, h => by
  rw [show f + 1 + g = (f + g) + 1 by omega]
  exact ⟨fun h0 => absurd h0 h.1, fun i hi => wpOp_mono (fun a' w' h' => wpAny_of_headH hL f _ a' w' h'.2) (h.2 i hi).2⟩
theorem wpAnyLH_first {n i : Nat} {oi : Oper} {v : Value} {L : Array Bool → Act → World → Prop} (hi : ops[i]? = some oi) (hsel : ∀ (j : Nat) (o : Oper) cs b, ops[j]? = some o → o.op ≠ .select cs b)
  (hQ : ∀ c a w, Q (.panic c) (a.put oi.dst v) w → Q (.panic c) a w)
  (hs : Region.sinkB md ops n = true) (hc : Region.chainB md ops n = true) (hn : n < ops.size) (hin : i < n)
  (hdone : ∀ listed a w, L listed a w → ∀ j ∈ Region.ready md ops listed, n ≤ j) :
  ∀ (f : Nat) (listed : Array Bool) (a : Act) (w : World), HeadInv md ops n listed →
   (∀ j oj, ops[j]? = some oj → j ≠ i → listed.getD j true = false → (∀ e ∈ oj.after, Region.binds md e = true → e.on ≠ i) → oi.apart ops oj = true) →
   i ∈ Region.ready md ops listed → YieldsIf P ops S oi v a → S w →
   wpAnyLH P md ops Q S n L f (listed.setIfInBounds i true) (a.put oi.dst v) w → wpAnyLH P md ops Q S n L (f + 1) listed a w := by
 intro f
 induction f with
 | zero =>
  intro listed a w inv _ hr hy hS H
  have hun := (mem_ready.1 hr).1
  refine ⟨fun h => (by rw [h] at hr; cases hr), fun j hj => ?_⟩
  have hjn : j < n := by
   rcases Nat.lt_or_ge j n with h | h
   ·exact h
   ·exact absurd hj (tail_waits hs hc hn inv _ i rfl hin hun j h)
  refine ⟨hjn, ?_⟩
  by_cases hji : j = i
  ·subst hji; exact hy.wpOp hi hS ⟨hS, H⟩
  ·have := hdone _ _ _ H j (ready_mono hj hji)
   omega
 | succ f ih =>
  intro listed a w inv hfree hr hy hS H
  have hun := (mem_ready.1 hr).1
  refine ⟨fun h => (by rw [h] at hr; cases hr), fun j hj => ?_⟩
  have hjn : j < n := by
   rcases Nat.lt_or_ge j n with h | h
   ·exact h
   ·exact absurd hj (tail_waits hs hc hn inv _ i rfl hin hun j h)
  refine ⟨hjn, ?_⟩
  by_cases hji : j = i
  ·subst hji; exact hy.wpOp hi hS ⟨hS, H⟩
  ·have h1 := (H.2 j (ready_mono hj hji)).2
   obtain ⟨hjun, oj, hoj, hall⟩ := mem_ready.1 hj
   have hnot : ∀ e ∈ oj.after, Region.binds md e = true → e.on ≠ i := fun e he hb heq => by
    have h1 := hall e he hb
    rw [heq, getD_both hun] at h1
    cases h1
   have h2 := wpOp_putIf hoj (hfree j oj hoj hji hjun hnot) (fun cs b => hsel i oi cs b hi) (fun cs b => hsel j oj cs b hoj) hQ hy h1
   have hfree' : ∀ k ok, ops[k]? = some ok → k ≠ i → (listed.setIfInBounds j true).getD k true = false →
     (∀ e ∈ ok.after, Region.binds md e = true → e.on ≠ i) → oi.apart ops ok = true := fun k ok hk hki hun hno => by
    refine hfree k ok hk hki ?_ hno
    by_cases hjk : j = k
    ·subst hjk; exact hjun
    ·rw [getD_set_ne true hjk] at hun; exact hun
   refine wpOp_mono (fun a' w' h3 => ⟨h3.2.1, ih (listed.setIfInBounds j true) a' w' (inv.set hj hjn) hfree' (ready_mono hr (Ne.symm hji)) h3.1 h3.2.1 ?_⟩) h2
   rw [Array.setIfInBounds_comm _ _ hji]
   exact h3.2.2
def LTail (P : Program) (md : Region.Mode) (ops : Array Oper) (Q : Exit → Act → World → Prop) (n : Nat) (rest : List Oper) (listed : Array Bool) (a : Act) (w : World) : Prop := Region.seqB md ops (ops.size - n) n listed = true ∧ wpList P ops Q rest a w
theorem wpAnyLH_take {n i f : Nat} {oi : Oper} {v : Value} {rest : List Oper} {listed : Array Bool} {a : Act} {w : World} (hi : ops[i]? = some oi)
  (hB : (Region.noSelect ops && decide (n < ops.size) && Region.sinkB md ops n && Region.chainB md ops n && decide (i < n) && Region.free md ops listed i && (Region.ready md ops listed).contains i) = true)
  (hQ : ∀ c a w, Q (.panic c) (a.put oi.dst v) w → Q (.panic c) a w) (hy : YieldsIf P ops S oi v a) (hS : S w) (inv : HeadInv md ops n listed)
  (h : HeadInv md ops n (listed.setIfInBounds i true) → wpAnyLH P md ops Q S n (LTail P md ops Q n rest) f (listed.setIfInBounds i true) (a.put oi.dst v) w) : wpAnyLH P md ops Q S n (LTail P md ops Q n rest) (f + 1) listed a w := by
 simp only [Bool.and_eq_true, decide_eq_true_eq] at hB
 obtain ⟨⟨⟨⟨⟨⟨hsel, hn⟩, hs⟩, hc⟩, hin⟩, hf⟩, hr⟩ := hB
 have hr' : i ∈ Region.ready md ops listed := by simpa using hr
 exact wpAnyLH_first hi (Region.noSelect_spec hsel) hQ hs hc hn hin (fun _ _ _ hL => seqB_ready hL.1) f listed a w inv (Region.free_spec hi hf) hr' hy hS (h (inv.set hr' hin))
theorem wpAnyLH_one {n i f : Nat} {o : Oper} {L : Array Bool → Act → World → Prop} {listed : Array Bool} {a : Act} {w : World} (ho : ops[i]? = some o) (hr : (Region.ready md ops listed == [i] && decide (i < n)) = true)
  (h : ∀ K' : Act → World → Prop, (∀ a w, S w → wpAnyLH P md ops Q S n L f (listed.setIfInBounds i true) a w → K' a w) → if Region.wanted o (yielded ops a.tmps) = true then Oper.wp P o a w K' Q else K' (a.put o.dst undef) w) : wpAnyLH P md ops Q S n L (f + 1) listed a w := by
 simp only [Bool.and_eq_true, decide_eq_true_eq, beq_iff_eq] at hr
 refine ⟨fun h0 => (by rw [hr.1] at h0; cases h0), fun j hj => ?_⟩
 rw [hr.1] at hj
 obtain rfl : j = i := by simpa using hj
 exact ⟨hr.2, wpOp_step ho (fun K' hK => h K' (fun a w hS hW => hK a w ⟨hS, hW⟩))⟩
theorem wpAnyLH_end {n : Nat} {rest : List Oper} {listed : Array Bool} {a : Act} {w : World} (hB : Region.seqB md ops (ops.size - n) n listed = true) (h : wpList P ops Q rest a w) : wpAnyLH P md ops Q S n (LTail P md ops Q n rest) 0 listed a w := ⟨hB, h⟩
theorem wp_region_held_tail {id : Nat} {a : Act} {w : World} {l : List Oper} (n : Nat) (hm : P.follows .mixedOrders = true) (hn : n < l.length)
  (h : HeadInv .any l.toArray n (Array.replicate l.toArray.size false) → wpAnyLH P .any l.toArray Q S n (LTail P .any l.toArray Q n (l.drop n)) n (Array.replicate l.toArray.size false) a w.drew) : (Code.region id l.toArray true).wp P Q a w := by
 have hdl : (l.drop n).length = l.toArray.size - n := by simp
 have inv0 : HeadInv .any l.toArray n (Array.replicate l.toArray.size false) :=
  ⟨by simp, fun j oj _ hl => (by rw [getD_replicate_false] at hl; cases hl), fun t _ ht => getD_in (by simpa using ht) (getD_replicate_false _ _)⟩
 refine wp_region_any hm ?_
 have := wpAny_of_headH (Q := Q) (g := l.toArray.size - n) (fun listed a' w' hL => by
  have := wpAny_of_seq (md := .any) (Q' := Q) (l.drop n) n listed a' w' (fun j => by simp [List.getElem?_drop]) (by rw [hdl]; exact hL.1) hL.2
  rwa [hdl] at this) _ _ _ _ (h inv0)
 rw [show n + (l.toArray.size - n) = l.toArray.size by simp; omega] at this
 exact this
end
theorem countP_step {p p' : Nat → Bool} {i : Nat} (hp : p i = true) (hp' : p' i = false) (h : ∀ j, j ≠ i → p' j = p j) : ∀ (l : List Nat), l.Nodup → i ∈ l → l.countP p' + 1 = l.countP p
 | [], _, hi => by cases hi
 | x :: l, hn, hi => by
  rw [List.nodup_cons] at hn
  by_cases e : x = i
  ·subst e
   rw [List.countP_cons_of_neg (by rw [hp']; decide), List.countP_cons_of_pos hp]
   have : l.countP p' = l.countP p := List.countP_congr (fun j hj => by rw [h j (fun h2 => hn.1 (h2 ▸ hj))])
   omega
  ·have hi2 : i ∈ l := by rcases List.mem_cons.1 hi with h2 | h2; exact absurd h2.symm e; exact h2
   have ih := countP_step hp hp' h l hn.2 hi2
   rw [List.countP_cons, List.countP_cons, h x e]
   omega
def unl (n : Nat) (listed : Array Bool) : Nat := (List.range n).countP fun j => !(listed.getD j true)
theorem unl_set {n i : Nat} {listed : Array Bool} (hin : i < n) (hi : listed.getD i true = false) : unl n (listed.setIfInBounds i true) + 1 = unl n listed := by
 refine countP_step (i := i) (by rw [hi]; rfl) ?_ (fun j hj => by rw [getD_set_ne true (Ne.symm hj)]) _ List.nodup_range (List.mem_range.2 hin)
 have hlt : i < listed.size := by
  rcases Nat.lt_or_ge i listed.size with h | h
  ·exact h
  ·simp [Array.getElem?_eq_none h] at hi
 simp [hlt]
theorem unl_zero {n : Nat} {listed : Array Bool} (h : unl n listed = 0) {j : Nat} (hj : j < n) : listed.getD j true = true := by
 have := List.countP_eq_zero.1 h j (List.mem_range.2 hj)
 simpa using this
theorem unl_all (n m : Nat) (h : n ≤ m) : unl n (Array.replicate m false) = n := by
 unfold unl
 have : (List.range n).countP (fun j => !((Array.replicate m false).getD j true)) = (List.range n).length := List.countP_eq_length.2 (fun j hj => by
  have := List.mem_range.1 hj
  have hlt : j < m := by omega
  simp [hlt])
 rw [this, List.length_range]
structure Frm (D : Nat → Nat) (n : Nat) (a0 a : Act) : Prop where
 size : a.tmps.size = a0.tmps.size
 other : ∀ t, (∀ j, j < n → D j ≠ t) → a.tmps[t]? = a0.tmps[t]?
 defers : a.defers = a0.defers
theorem Frm.refl (D : Nat → Nat) (n : Nat) (a : Act) : Frm D n a a := ⟨rfl, fun _ _ => rfl, rfl⟩
section
variable {P : Program} {ops : Array Oper} {md : Region.Mode} {Q : Exit → Act → World → Prop} {S : World → Prop}
theorem wpAnyLH_inv {n : Nat} {L : Array Bool → Act → World → Prop} {D : Nat → Nat} {G : Nat → Value → World → Prop} {a0 : Act}
  (hD : ∀ i j, i < n → j < n → D i = D j → i = j) (hsz : ∀ i, i < n → D i < a0.tmps.size)
  (hdep : ∀ i, i < n → ∀ o, ops[i]? = some o → ∀ e ∈ o.after, Region.binds md e = true → e.on < i)
  (hs : Region.sinkB md ops n = true) (hc : Region.chainB md ops n = true) (hn : n < ops.size)
  (hG : ∀ j v w w', G j v w → Ext w w' → G j v w')
  (hop : ∀ i, i < n → ∀ o, ops[i]? = some o → ∀ a w, S w → Frm D n a0 a → (∀ e ∈ o.after, Region.binds md e = true → G e.on (a.eval (.tmp (D e.on))) w) → wpOp P ops Q i (fun a' w' => S w' ∧ Ext w w' ∧ ∃ v, a' = a.put (some (D i)) v ∧ G i v w') a w)
  (hend : ∀ listed a w, HeadInv md ops n listed → (∀ j, j < n → listed.getD j false = true) → S w → Frm D n a0 a → (∀ j, j < n → G j (a.eval (.tmp (D j))) w) → L listed a w) :
  ∀ (f : Nat) (listed : Array Bool) (a : Act) (w : World), unl n listed = f → HeadInv md ops n listed → S w → Frm D n a0 a → (∀ j, j < n → listed.getD j false = true → G j (a.eval (.tmp (D j))) w) → wpAnyLH P md ops Q S n L f listed a w
 | 0, listed, a, w, hf, inv, hS, hF, hGa => by
  have hall : ∀ j, j < n → listed.getD j false = true := fun j hj => by
   have h1 := unl_zero hf hj
   have hlt : j < listed.size := by rw [inv.size]; omega
   simpa [hlt] using h1
  exact hend listed a w inv hall hS hF (fun j hj => hGa j hj (hall j hj))
 | f + 1, listed, a, w, hf, inv, hS, hF, hGa => by
  -- the first that has not come up is ready
  have hex : ∃ j, j < n ∧ listed.getD j true = false ∧ ∀ k, k < j → listed.getD k false = true := by
   have h0 : ∃ j, j < n ∧ listed.getD j true = false := by
    refine Classical.byContradiction fun hno => ?_
    have : unl n listed = 0 := List.countP_eq_zero.2 (fun j hj => by
     have hj := List.mem_range.1 hj
     cases hq : listed.getD j true with
     | true => simp
     | false => exact absurd ⟨j, hj, hq⟩ hno)
    omega
   obtain ⟨j, hj, hq⟩ := h0
   induction j using Nat.strongRecOn with
   | _ j ih =>
    by_cases hk : ∀ k, k < j → listed.getD k false = true
    ·exact ⟨j, hj, hq, hk⟩
    ·have : ∃ k, k < j ∧ listed.getD k false ≠ true := by
      refine Classical.byContradiction fun hno => hk (fun k hk2 => Classical.byContradiction fun h3 => hno ⟨k, hk2, h3⟩)
     obtain ⟨k, hk1, hk2⟩ := this
     refine ih k hk1 (by omega) (getD_in (by rw [inv.size]; omega) (by simpa using hk2))
  obtain ⟨j0, hj0, hq0, hmin⟩ := hex
  refine ⟨fun hr => ?_, fun i hi => ?_⟩
  ·have hj0s : j0 < ops.size := by omega
   have : j0 ∈ Region.ready md ops listed := mem_ready.2 ⟨hq0, ops[j0], Array.getElem?_eq_getElem hj0s, fun e he hb => hmin _ (hdep j0 hj0 _ (Array.getElem?_eq_getElem hj0s) e he hb)⟩
   rw [hr] at this; cases this
  ·have hin : i < n := by
    rcases Nat.lt_or_ge i n with h | h
    ·exact h
    ·exact absurd hi (tail_waits hs hc hn inv _ j0 rfl hj0 hq0 i h)
   refine ⟨hin, ?_⟩
   obtain ⟨hun, o, ho, hall⟩ := mem_ready.1 hi
   have hdeps : ∀ e ∈ o.after, Region.binds md e = true → G e.on (a.eval (.tmp (D e.on))) w := fun e he hb => hGa _ (Nat.lt_trans (hdep i hin o ho e he hb) hin) (hall e he hb)
   refine wpOp_mono ?_ (hop i hin o ho a w hS hF hdeps)
   rintro a' w' ⟨hS', hE, v, rfl, hv⟩
   refine ⟨hS', wpAnyLH_inv hD hsz hdep hs hc hn hG hop hend f _ _ w' (by have := unl_set hin hun; omega) (inv.set hi hin) hS' ?_ ?_⟩
   ·refine ⟨by simp [Act.put, hF.size], fun t ht => ?_, hF.defers⟩
    have hne : D i ≠ t := ht i hin
    rw [← hF.other t ht]
    simp [Act.put, Array.getElem?_setIfInBounds_ne hne]
   ·intro j hj hl
    by_cases hij : i = j
    ·subst hij
     have hlt : D i < a.tmps.size := by rw [hF.size]; exact hsz i hin
     have : (a.put (some (D i)) v).eval (.tmp (D i)) = v := by simp [Act.eval, Act.put, hlt]
     rw [this]; exact hv
    ·have hne : D i ≠ D j := fun h => hij (hD i j hin hj h)
     have : (a.put (some (D i)) v).eval (.tmp (D j)) = a.eval (.tmp (D j)) := by simp [Act.eval, Act.put, Array.getElem?_setIfInBounds_ne hne]
     rw [this]
     rw [getD_set_ne false hij] at hl
     exact hG _ _ _ _ (hGa j hj hl) hE
theorem listed_eq {n : Nat} {listed : Array Bool} (inv : HeadInv md ops n listed) (hall : ∀ j, j < n → listed.getD j false = true) : listed = ((List.range ops.size).map fun j => decide (j < n)).toArray := by
 apply Array.ext
 ·simp [inv.size]
 ·intro j h1 h2
  have hj : j < ops.size := by rw [← inv.size]; exact h1
  simp only [List.getElem_toArray, List.getElem_map, List.getElem_range]
  by_cases hjn : j < n
  ·have := hall j hjn
   rw [decide_eq_true hjn]
   simpa [h1] using this
  ·rw [decide_eq_false hjn]
   have := inv.tail j (by omega) hj
   simpa [h1] using this
end
def putAll (D : Nat → Nat) (f : Nat → Value) (a0 : Act) : Nat → Act
 | 0 => a0
 | k + 1 => (putAll D f a0 k).put (some (D k)) (f k)
theorem putAll_size (D : Nat → Nat) (f : Nat → Value) (a0 : Act) : ∀ n, (putAll D f a0 n).tmps.size = a0.tmps.size
 | 0 => rfl
 | k + 1 => by rw [putAll]; simp [Act.put, putAll_size D f a0 k]
theorem putAll_defers (D : Nat → Nat) (f : Nat → Value) (a0 : Act) : ∀ n, (putAll D f a0 n).defers = a0.defers
 | 0 => rfl
 | k + 1 => by rw [putAll]; exact putAll_defers D f a0 k
theorem putAll_other (D : Nat → Nat) (f : Nat → Value) (a0 : Act) {t : Nat} : ∀ n, (∀ j, j < n → D j ≠ t) → (putAll D f a0 n).tmps[t]? = a0.tmps[t]?
 | 0, _ => rfl
 | k + 1, h => by
  rw [putAll, ← putAll_other D f a0 k (fun j hj => h j (by omega))]
  have hne : D k ≠ t := h k (by omega)
  simp [Act.put, Array.getElem?_setIfInBounds_ne hne]
theorem putAll_at (D : Nat → Nat) (f : Nat → Value) (a0 : Act) {j : Nat} : ∀ n, j < n → (∀ i k, i < n → k < n → D i = D k → i = k) → D j < a0.tmps.size → (putAll D f a0 n).tmps[D j]? = some (f j)
 | 0, h, _, _ => by omega
 | k + 1, h, hD, hs => by
  rw [putAll]
  by_cases e : j = k
  ·subst e
   have : D j < (putAll D f a0 j).tmps.size := by rw [putAll_size]; exact hs
   simp [Act.put, this]
  ·have hne : D k ≠ D j := fun h2 => e (hD k j (by omega) (by omega) h2).symm
   have := putAll_at D f a0 (j := j) k (by omega) (fun i k' hi hk => hD i k' (by omega) (by omega)) hs
   rw [← this]
   simp [Act.put, Array.getElem?_setIfInBounds_ne hne]
theorem Frm.eq {D : Nat → Nat} {n : Nat} {a0 a : Act} (h : Frm D n a0 a) (hD : ∀ i j, i < n → j < n → D i = D j → i = j) (hsz : ∀ i, i < n → D i < a0.tmps.size) : a = putAll D (fun j => a.eval (.tmp (D j))) a0 n := by
 have ht : a.tmps = (putAll D (fun j => a.eval (.tmp (D j))) a0 n).tmps := by
  apply Array.ext_getElem?
  intro t
  by_cases hex : ∃ j, j < n ∧ D j = t
  ·obtain ⟨j, hj, rfl⟩ := hex
   rw [putAll_at D _ a0 n hj hD (hsz j hj)]
   have hlt : D j < a.tmps.size := by rw [h.size]; exact hsz j hj
   rw [Array.getElem?_eq_getElem hlt]
   simp [Act.eval, hlt]
  ·rw [putAll_other D _ a0 n (fun j hj e => hex ⟨j, hj, e⟩)]
   exact h.other t (fun j hj e => hex ⟨j, hj, e⟩)
 have hd : a.defers = (putAll D (fun j => a.eval (.tmp (D j))) a0 n).defers := by rw [putAll_defers]; exact h.defers
 cases a with
 | mk tm df =>
  generalize putAll D _ a0 n = b at *
  cases b with
  | mk tm' df' =>
   simp only at ht hd
   rw [ht, hd]
section
variable {P : Program} {ops : Array Oper} {md : Region.Mode} {Q : Exit → Act → World → Prop} {S : World → Prop}
theorem wpAnyLH_inv2 {n : Nat} {L : Array Bool → Act → World → Prop} {D : Nat → Nat} {G : Nat → Value → World → Prop} {R : Nat → Nat → Value → Value → Prop} {a0 : Act}
  (hD : ∀ i j, i < n → j < n → D i = D j → i = j) (hsz : ∀ i, i < n → D i < a0.tmps.size)
  (hdep : ∀ i, i < n → ∀ o, ops[i]? = some o → ∀ e ∈ o.after, Region.binds md e = true → e.on < i)
  (hs : Region.sinkB md ops n = true) (hc : Region.chainB md ops n = true) (hn : n < ops.size)
  (hG : ∀ j v w w', G j v w → Ext w w' → G j v w')
  (hop : ∀ i, i < n → ∀ o, ops[i]? = some o → ∀ a w, S w → Frm D n a0 a → (∀ e ∈ o.after, Region.binds md e = true → G e.on (a.eval (.tmp (D e.on))) w) → wpOp P ops Q i (fun a' w' => S w' ∧ Ext w w' ∧ ∃ v, a' = a.put (some (D i)) v ∧ G i v w' ∧ ∀ j u, j < n → j ≠ i → G j u w → R i j v u ∧ R j i u v) a w)
  (hend : ∀ listed a w, HeadInv md ops n listed → (∀ j, j < n → listed.getD j false = true) → S w → Frm D n a0 a → (∀ j, j < n → G j (a.eval (.tmp (D j))) w) → (∀ i j, i < n → j < n → i ≠ j → R i j (a.eval (.tmp (D i))) (a.eval (.tmp (D j)))) → L listed a w) :
  ∀ (f : Nat) (listed : Array Bool) (a : Act) (w : World), unl n listed = f → HeadInv md ops n listed → S w → Frm D n a0 a → (∀ j, j < n → listed.getD j false = true → G j (a.eval (.tmp (D j))) w) → (∀ i j, i < n → j < n → i ≠ j → listed.getD i false = true → listed.getD j false = true → R i j (a.eval (.tmp (D i))) (a.eval (.tmp (D j)))) → wpAnyLH P md ops Q S n L f listed a w
 | 0, listed, a, w, hf, inv, hS, hF, hGa, hRa => by
  have hall : ∀ j, j < n → listed.getD j false = true := fun j hj => by
   have h1 := unl_zero hf hj
   have hlt : j < listed.size := by rw [inv.size]; omega
   simpa [hlt] using h1
  exact hend listed a w inv hall hS hF (fun j hj => hGa j hj (hall j hj)) (fun i j hi hj hij => hRa i j hi hj hij (hall i hi) (hall j hj))
 | f + 1, listed, a, w, hf, inv, hS, hF, hGa, hRa => by
  -- the first that has not come up is ready
  have hex : ∃ j, j < n ∧ listed.getD j true = false ∧ ∀ k, k < j → listed.getD k false = true := by
   have h0 : ∃ j, j < n ∧ listed.getD j true = false := by
    refine Classical.byContradiction fun hno => ?_
    have : unl n listed = 0 := List.countP_eq_zero.2 (fun j hj => by
     have hj := List.mem_range.1 hj
     cases hq : listed.getD j true with
     | true => simp
     | false => exact absurd ⟨j, hj, hq⟩ hno)
    omega
   obtain ⟨j, hj, hq⟩ := h0
   induction j using Nat.strongRecOn with
   | _ j ih =>
    by_cases hk : ∀ k, k < j → listed.getD k false = true
    ·exact ⟨j, hj, hq, hk⟩
    ·have : ∃ k, k < j ∧ listed.getD k false ≠ true := by
      refine Classical.byContradiction fun hno => hk (fun k hk2 => Classical.byContradiction fun h3 => hno ⟨k, hk2, h3⟩)
     obtain ⟨k, hk1, hk2⟩ := this
     refine ih k hk1 (by omega) (getD_in (by rw [inv.size]; omega) (by simpa using hk2))
  obtain ⟨j0, hj0, hq0, hmin⟩ := hex
  refine ⟨fun hr => ?_, fun i hi => ?_⟩
  ·have hj0s : j0 < ops.size := by omega
   have : j0 ∈ Region.ready md ops listed := mem_ready.2 ⟨hq0, ops[j0], Array.getElem?_eq_getElem hj0s, fun e he hb => hmin _ (hdep j0 hj0 _ (Array.getElem?_eq_getElem hj0s) e he hb)⟩
   rw [hr] at this; cases this
  ·have hin : i < n := by
    rcases Nat.lt_or_ge i n with h | h
    ·exact h
    ·exact absurd hi (tail_waits hs hc hn inv _ j0 rfl hj0 hq0 i h)
   refine ⟨hin, ?_⟩
   obtain ⟨hun, o, ho, hall⟩ := mem_ready.1 hi
   have hdeps : ∀ e ∈ o.after, Region.binds md e = true → G e.on (a.eval (.tmp (D e.on))) w := fun e he hb => hGa _ (Nat.lt_trans (hdep i hin o ho e he hb) hin) (hall e he hb)
   refine wpOp_mono ?_ (hop i hin o ho a w hS hF hdeps)
   rintro a' w' ⟨hS', hE, v, rfl, hv, hR⟩
   have hlt0 : D i < a.tmps.size := by rw [hF.size]; exact hsz i hin
   have ev0 : (a.put (some (D i)) v).eval (.tmp (D i)) = v := by simp [Act.eval, Act.put, hlt0]
   have evn : ∀ j, j < n → i ≠ j → (a.put (some (D i)) v).eval (.tmp (D j)) = a.eval (.tmp (D j)) := fun j hj hij => by
    have hne : D i ≠ D j := fun h => hij (hD i j hin hj h)
    simp [Act.eval, Act.put, Array.getElem?_setIfInBounds_ne hne]
   refine ⟨hS', wpAnyLH_inv2 hD hsz hdep hs hc hn hG hop hend f _ _ w' (by have := unl_set hin hun; omega) (inv.set hi hin) hS' ?_ ?_ ?_⟩
   ·refine ⟨by simp [Act.put, hF.size], fun t ht => ?_, hF.defers⟩
    have hne : D i ≠ t := ht i hin
    rw [← hF.other t ht]
    simp [Act.put, Array.getElem?_setIfInBounds_ne hne]
   ·intro j hj hl
    by_cases hij : i = j
    ·subst hij
     have hlt : D i < a.tmps.size := by rw [hF.size]; exact hsz i hin
     have : (a.put (some (D i)) v).eval (.tmp (D i)) = v := by simp [Act.eval, Act.put, hlt]
     rw [this]; exact hv
    ·have hne : D i ≠ D j := fun h => hij (hD i j hin hj h)
     have : (a.put (some (D i)) v).eval (.tmp (D j)) = a.eval (.tmp (D j)) := by simp [Act.eval, Act.put, Array.getElem?_setIfInBounds_ne hne]
     rw [this]
     rw [getD_set_ne false hij] at hl
     exact hG _ _ _ _ (hGa j hj hl) hE
   ·intro p q hp hq hpq hlp hlq
    by_cases e1 : i = p
    ·subst e1
     have hq2 : i ≠ q := hpq
     rw [getD_set_ne false hq2] at hlq
     rw [ev0, evn q hq hq2]
     exact (hR q _ hq (Ne.symm hq2) (hGa q hq hlq)).1
    ·rw [getD_set_ne false e1] at hlp
     by_cases e2 : i = q
     ·subst e2
      rw [ev0, evn p hp e1]
      exact (hR p _ hp (Ne.symm e1) (hGa p hp hlp)).2
     ·rw [getD_set_ne false e2] at hlq
      rw [evn p hp e1, evn q hq e2]
      exact hRa p q hp hq hpq hlp hlq
end
end Go.Proofs.YtedlgnoiojcjaaaGreatDoor
