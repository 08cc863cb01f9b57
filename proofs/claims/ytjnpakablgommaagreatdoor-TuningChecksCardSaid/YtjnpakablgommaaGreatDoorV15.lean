/- Part 15 of the proof of the claim: contracts of the functions that it reaches, and plain laws; no condition. -/
import Derived.Test.YtjnpakablgommaaGreatDoorV11
import Derived.Test.YtjnpakablgommaaGreatDoorV14
import Derived.Test.YtjnpakablgommaaGreatDoorV08
import Derived.Test.YtjnpakablgommaaGreatDoorV01
set_option maxRecDepth 100000
namespace Go.Proofs.YtjnpakablgommaaGreatDoor
open Go.RowKit Go.Sort
theorem Tryz.infoRat : (Tryz.prog.info? 81).map (fun i => (i.zero, i.size, i.bytes)) = some (some (.agg #[.string ⟨#[]⟩, .string ⟨#[]⟩]), 2, 32) := by kernel_rfl
theorem fl_rep (n : Nat) (e : Value) : fl (List.replicate n (e, e)) = List.replicate (n * 2) e := by
 induction n with
 | zero => rfl
 | succ n ih => rw [List.replicate_succ, fl_cons, ih, show (n + 1) * 2 = n * 2 + 1 + 1 by omega, List.replicate_succ, List.replicate_succ]
theorem made_two (e : Value) (n : Nat) : (madeCells #[e, e] n).toList = List.replicate n e := by
 refine List.ext_getElem? fun i => ?_
 rw [List.getElem?_replicate]
 by_cases h : i < n
 ·rw [if_pos h]
  simp only [madeCells, Array.toList_map, Array.toList_range, List.getElem?_map, List.getElem?_range h, Option.map_some]
  rcases Nat.mod_two_eq_zero_or_one i with h2 | h2 <;> simp [h2]
 ·rw [if_neg h]
  simp [madeCells]; omega
theorem frv_made {B n g : Nat} {w : World} {e : Value} (h : w.ownsRow B 81 2 (.slice (some ⟨g, 0, none⟩) n n) n (madeCells #[e, e] (n * 2)).toList) (hn : n ≤ 1000000) : FrV B w g (List.replicate n (e, e)) := by
 obtain ⟨h1, h2 | ⟨g', cap, cur, hv, hB, hh, hc, hm, hs, ht⟩⟩ := h
 ·obtain ⟨h3, _⟩ := h2; simp at h3
 ·simp only [Value.slice.injEq, Option.some.injEq, Addr.mk.injEq, and_true, true_and] at hv
  obtain ⟨rfl, _, rfl⟩ := hv
  unfold FrV
  rw [made_two] at ht
  refine OwnV.of hB hh (by rw [fl_length]; simp) (by rw [List.length_replicate]; unfold maxLen; omega) (by rw [List.length_replicate]; omega) ?_
  rw [fl_length, fl_rep, List.length_replicate, Nat.mul_comm 2 n]
  exact ht
def szc (l : List Rat) : List Value := fl (l.map fun r => qv (qR r))
theorem fl_append (a b : List (Value × Value)) : fl (a ++ b) = fl a ++ fl b := by simp [fl]
theorem szc_snoc (l : List Rat) (r : Rat) : szc (l ++ [r]) = szc l ++ [I r.num, I r.den] := by
 unfold szc
 rw [List.map_append, fl_append]
 rfl
theorem szc_length (l : List Rat) : (szc l).length = 2 * l.length := by unfold szc; rw [fl_length, List.length_map]
theorem szc_get {l : List Rat} {i : Nat} (h : i < l.length) : (szc l)[2 * i]? = some (I l[i].num) ∧ (szc l)[2 * i + 1]? = some (I l[i].den) := by
 have h2 : (l.map fun r => qv (qR r))[i]? = some (qv (qR l[i])) := by rw [List.getElem?_map, List.getElem?_eq_getElem h]; rfl
 exact fl_get _ i h2
def SzV (B : Nat) (w : World) (v : Value) (l : List Rat) : Prop := w.ownsRow B 81 2 v l.length (szc l)
theorem SzV.nil (B : Nat) (w : World) : SzV B w (.slice none 0 0) [] := ⟨rfl, .inl ⟨rfl, rfl⟩⟩
theorem SzV.ext {B : Nat} {w w' : World} {v : Value} {l : List Rat} (h : SzV B w v l) (he : Ext w w') : SzV B w' v l := ownsRow_ext h he
theorem SzV.mono {B B' : Nat} {w : World} {v : Value} {l : List Rat} (h : SzV B w v l) (hB : B' ≤ B) : SzV B' w v l := ownsRow_mono h hB
def SzR (w : World) (v : Value) (l : List Rat) : Prop := ∃ sa gb go cap, v = .slice sa l.length cap ∧ l.length ≤ cap ∧ (0 < l.length → sa = some ⟨gb, go, none⟩) ∧ ∀ i (h : i < l.length), w.cell? ⟨gb, go + i * 2, none⟩ = some (I l[i].num) ∧ w.cell? ⟨gb, go + i * 2 + 1, none⟩ = some (I l[i].den)
theorem SzR.ext {w w' : World} {v : Value} {l : List Rat} (h : SzR w v l) (he : Ext w w') : SzR w' v l := by
 obtain ⟨sa, gb, go, cap, e, hc, ha, hr⟩ := h
 exact ⟨sa, gb, go, cap, e, hc, ha, fun i hi => ⟨he.cell (hr i hi).1, he.cell (hr i hi).2⟩⟩
theorem SzV.read {B : Nat} {w : World} {v : Value} {l : List Rat} (h : SzV B w v l) : SzR w v l := by
 rcases h.2 with ⟨rfl, h0⟩ | ⟨g, cap, cur, rfl, hb, hg, hn, hm, hs, ht⟩
 ·refine ⟨none, 0, 0, 0, by rw [h0], by omega, fun h => by omega, fun i hi => by omega⟩
 ·refine ⟨_, g, 0, cap, rfl, hn, fun _ => rfl, fun i hi => ?_⟩
  obtain ⟨k1, k2⟩ := szc_get hi
  have c1 := World.ownsRow.cellAt h (2 * i) (by omega)
  have c2 := World.ownsRow.cellAt h (2 * i + 1) (by omega)
  rw [k1] at c1
  rw [k2] at c2
  rw [Nat.mul_comm i 2]
  exact ⟨by simpa using c1, by simpa using c2⟩
section
variable {w : World} {ops : Array Oper} {rest : List Oper} {o : Oper} {a : Act} {Q : Exit → Act → World → Prop}
theorem app_rat (hgd : o.guard = none) (s x : Operand) (t : TypeId) (ht : Tryz.prog.underlying t = some (.slice 81)) (ho : o.op = .call { callee := .builtin .append, args := #[s, x], argTypes := #[t, t] })
  {B : Nat} {v : Value} {l : List Rat} {r : Rat} (hs : a.eval s = v) (hown : SzV B w v l) {b : Nat} (hx : a.eval x = .slice (some ⟨b, 0, none⟩) 1 1) (c0 : w.cell? ⟨b, 0, none⟩ = some (I r.num)) (c1 : w.cell? ⟨b, 1, none⟩ = some (I r.den)) (hl : l.length ≤ 1000000000) (hB : B ≤ w.heap.size)
  (h : ∀ g cap w', SzV B w' (slv g (l.length + 1) cap) (l ++ [r]) → Below B w w' → w.grownBy w' v.ownBlock → wpList Tryz.prog ops Q rest (a.put o.dst (slv g (l.length + 1) cap)) w') : wpList Tryz.prog ops Q (o :: rest) a w := by
 obtain ⟨i0, hi, hz0, hz1, hz2⟩ := info_parts Tryz.infoRat
 refine wpList_append_lies w hgd s x t ho B 81 i0 _ 2 32 ht hi hz0 hz1 hz2 rfl (by omega) v l.length (szc l) hs hown ⟨b, 0, none⟩ 1 1 [I r.num, I r.den] hx rfl ?_ ?_ (by omega) (by unfold maxLen; omega) (by omega) hB w.heap.size rfl ?_
 ·intro j u hj
  rw [Lib.add_plain, Nat.zero_add]
  match j with
  | 0 => simp at hj; subst hj; exact c0
  | 1 => simp at hj; subst hj; exact c1
  | j + 2 => simp at hj
 ·intro u hu
  simp only [List.mem_cons, List.not_mem_nil, or_false] at hu
  rcases hu with rfl | rfl <;> rfl
 ·intro g cap w' k1 k2 k3 k4
  refine h g cap w' ?_ (Below.grown (Below.refl _ _) k2 hB (fun q hq => (World.ownsRow.lt hown q hq).1)) k2
  unfold SzV
  rw [szc_snoc, List.length_append]; exact k1
end
theorem fcheck_any {n d : Int} (hn : nd n ≤ 400) (hd : nd d ≤ 400) (h0 : 0 < d) (hg : Nat.gcd n.natAbs d.natAbs = 1) {w : World} (hL : Laid w) :
  Calls Tryz.prog 93 #[.agg #[I n, I d]] w fun e w' => e = .returned (.int .i64 0) ∧ Ext w w' := by
 have h1 := Lib.hid (fun W => wcheck_any hn W)
 have h2 := Lib.hid (fun W => wcheck_any hd W)
 have h3 := Lib.hid (fun W => Sign_any (z := d) W)
 rw [Int.sign_eq_one_of_pos h0] at h3
 have h4 := Lib.hid (fun W (hW : Ext w W) => wGcd_any (a := n) (b := d) (by unfold LIM; omega) (by unfold LIM; omega) (hL.ext hW))
 rw [hg, show I ((1 : Nat) : Int) = .string ⟨#[49]⟩ by unfold I S; rw [show ((1 : Nat) : Int) = 1 from rfl, itoa_one]] at h4
 have hX : Ext w (w.alloc (.cells #[I n, I d] 81)) := (Ext.refl w).alloc _
 have HO := two_alloc w 81 (I n) (I d)
 have c0 : (w.alloc (.cells #[I n, I d] 81)).cell? ⟨w.heap.size, 0, none⟩ = some (I n) := HO.cell (j := 0) (by simp)
 have c1 : (w.alloc (.cells #[I n, I d] 81)).cell? ⟨w.heap.size, 1, none⟩ = some (I d) := HO.cell (j := 1) (by simp)
 clear HO hn hd h0 hg hL
 go_enter Tryz.func93, Tryz.ntmps93
 go_wp2_with fail
 refine (h1.out _).mono ?_
 rintro e w1 ⟨rfl, hE1⟩
 have c0 := hE1.cell c0
 have c1 := hE1.cell c1
 have e1 := hX.trans hE1
 go_wp2_with fail
 refine (h2.out _).mono ?_
 rintro e w2 ⟨rfl, hE2⟩
 have c0 := hE2.cell c0
 have c1 := hE2.cell c1
 have e2 := e1.trans hE2
 go_wp2_with fail
 refine (h3.out _).mono ?_
 rintro e w3 ⟨rfl, hE3⟩
 have c0 := hE3.cell c0
 have c1 := hE3.cell c1
 have e3 := e2.trans hE3
 go_wp2_with fail
 refine (h4.out _ e3).mono ?_
 rintro e w4 ⟨rfl, hE4⟩
 go_wp2_with fail
 go_ret
 exact ⟨rfl, e3.trans hE4⟩
theorem szshort_any {n d : Int} (hn : nd n ≤ 30) (hd : nd d ≤ 30) (h0 : 0 < d) (w : World) :
  Calls Tryz.prog 209 #[.agg #[I n, I d]] w fun e w' => e = .returned (.bool true) ∧ Ext w w' := by
 have h1 := Lib.hid (fun W => Abs_any (z := n) (by unfold LIM; omega) W)
 have l1 : (Lib.itoa (n.natAbs : Int)).length ≤ 30 := by
  rw [itoa_nat, Lib.decDigits_length]; exact hn
 have l2 : (Lib.itoa d).length ≤ 30 := by
  rw [itoa_pos (by omega), Lib.decDigits_length]; exact hd
 have hX : Ext w (w.alloc (.cells #[I n, I d] 81)) := (Ext.refl w).alloc _
 have HO := two_alloc w 81 (I n) (I d)
 have c0 : (w.alloc (.cells #[I n, I d] 81)).cell? ⟨w.heap.size, 0, none⟩ = some (I n) := HO.cell (j := 0) (by simp)
 have c1 : (w.alloc (.cells #[I n, I d] 81)).cell? ⟨w.heap.size, 1, none⟩ = some (I d) := HO.cell (j := 1) (by simp)
 clear HO hn hd h0
 go_enter Tryz.func209, Tryz.ntmps209
 go_wp2_with fail
 refine (h1.out _).mono ?_
 rintro e w1 ⟨rfl, hE1⟩
 have c0 := hE1.cell c0
 have c1 := hE1.cell c1
 have e1 := hX.trans hE1
 unfold I S at c1 ⊢
 generalize Lib.itoa (n.natAbs : Int) = la at *
 generalize Lib.itoa d = lb at *
 have i1 : (la.length : Int) ≤ 30 := by omega
 have i2 : (lb.length : Int) ≤ 30 := by omega
 go_wp2_with fail
 go_ret
 exact ⟨rfl, e1⟩
def ShQ (l : List Rat) : Prop := ∀ r ∈ l, nd r.num ≤ 30 ∧ nd r.den ≤ 30
set_option maxHeartbeats 1000000 in
theorem szcheck_any {w : World} {pa : Option Addr} {np cp : Nat} {v : Value} {l : List Rat} (hs : SzR w v l) (hl : l.length = np) (hb : ShQ l) (h1000 : np ≤ 1000000) (hL : Laid w) :
  Calls Tryz.prog 142 #[.slice pa np cp, v] w fun e w' => e = .returned (.int .i64 0) ∧ Ext w w' := by
 obtain ⟨sa, gb, go, cap, rfl, hc, ha, hr⟩ := hs
 have Hr := Lib.hid hr
 have Ha := Lib.hid ha
 have Hb := Lib.hid hb
 have HL := Lib.hid hL
 have Hl := Lib.hid hl
 rw [hl] at hc ⊢
 clear hr ha hb hL hl
 go_enter Tryz.func142, Tryz.ntmps142
 go_wp2_with fail
 go_loopw [14] (fun i wr => ∃ j : Nat, j ≤ np ∧ i = .int .i64 j ∧ Ext w wr) (fun i _ => np - (intOf i).toNat)
 case atStart => exact ⟨0, Nat.zero_le _, by go_num, Ext.refl _⟩
 case round =>
  obtain ⟨j, hj, rfl, hE⟩ := hrel
  generalize wr = X at *
  by_cases hlt : j < np
  ·have hjl : j < l.length := by rw [Hl.out]; exact hlt
   obtain rfl := Ha.out (by omega)
   obtain ⟨k0, k1⟩ := Hr.out j hjl
   have hbr := Hb.out l[j] (List.getElem_mem hjl)
   have x0 := hE.cell k0
   have x1 := hE.cell k1
   have hpos := qR_pos l[j]
   have hcop := qR_cop l[j]
   simp only [qR] at hpos hcop
   have hck := Lib.hid (fun W (hW : Ext X W) => fcheck_any (n := l[j].num) (d := l[j].den) (by omega) (by omega) hpos hcop (HL.out.ext (hE.trans hW)))
   have hsh := Lib.hid (fun W => szshort_any (n := l[j].num) (d := l[j].den) hbr.1 hbr.2 hpos W)
   have hji : (j : Int) < (np : Int) := by omega
   clear k0 k1 hbr hpos hcop
   generalize l[j].num = n at *
   generalize ((l[j].den : Nat) : Int) = d at *
   clear hjl
   have HO := two_alloc X 81 (I n) (I d)
   have hX : Ext X (X.alloc (.cells #[I n, I d] 81)) := (Ext.refl X).alloc _
   have c0 : (X.alloc (.cells #[I n, I d] 81)).cell? ⟨X.heap.size, 0, none⟩ = some (I n) := HO.cell (j := 0) (by simp)
   have c1 : (X.alloc (.cells #[I n, I d] 81)).cell? ⟨X.heap.size, 1, none⟩ = some (I d) := HO.cell (j := 1) (by simp)
   clear HO
   go_wp2_with fail
   refine (hck.out _ hX).mono ?_
   rintro e w1 ⟨rfl, hE1⟩
   have c0 := hE1.cell c0
   have c1 := hE1.cell c1
   have e1 := hX.trans hE1
   go_wp2_with fail
   refine (hsh.out _).mono ?_
   rintro e w2 ⟨rfl, hE2⟩
   have e2 := hE.trans (e1.trans hE2)
   clear hck hsh c0 c1 x0 x1
   go_wp2_with fail
   go_roundw
   case rel => exact ⟨j + 1, by omega, by go_num, e2⟩
   case measure => simp [intOf] <;> omega
  ·have hje : j = np := by omega
   have hji : ¬ (j : Int) < (np : Int) := by omega
   clear hlt
   go_wp2_with fail
   go_ret
   exact ⟨rfl, hE⟩
end Go.Proofs.YtjnpakablgommaaGreatDoor
namespace Go.Proofs.YtjnpakablgommaaGreatDoor
def dgtB (c : UInt8) : Bool := decide (48 ≤ c.toNat) && decide (c.toNat ≤ 57)
theorem dgtB_iff {c : UInt8} : dgtB c = true ↔ isDig c := by simp [dgtB, isDig]
def canB (l : List UInt8) : Bool := l.all dgtB && (decide (l.length = 1) || (decide (1 < l.length) && decide ((l.getD 0 0).toNat ≠ 48)))
theorem uint8_ext {a b : UInt8} (h : a.toNat = b.toNat) : a = b := by
 have := congrArg UInt8.ofNat h
 simpa using this
theorem dec_valB : ∀ (n : Nat) (l : List UInt8), l.length = n + 1 → (∀ c ∈ l, isDig c) → (l.length = 1 ∨ (l.getD 0 0).toNat ≠ 48) → Lib.decDigits (valB 0 l) = l
 | 0, l, hl, hd, _ => by
  match l, hl with
  | [c], _ =>
   have h := dv_eq (hd c (by simp))
   rw [valB_cons, valB_nil, Lib.decDigits, dif_pos (by omega)]
   congr 1
   refine uint8_ext ?_
   rw [show 10 * 0 + dv c = dv c by omega, toNat_ofNat_dig h.2.2]
   exact h.2.1.symm
 | n + 1, l, hl, hd, hz => by
  have hne : l ≠ [] := by intro e; subst e; simp at hl
  obtain ⟨a, ha⟩ : ∃ a, a = l.dropLast := ⟨_, rfl⟩
  obtain ⟨d, hdd⟩ : ∃ d, d = l.getLast hne := ⟨_, rfl⟩
  have e : l = a ++ [d] := by rw [ha, hdd]; exact (List.dropLast_concat_getLast hne).symm
  have hal : a.length = n + 1 := by rw [e] at hl; simpa using hl
  have hz' : (l.getD 0 0).toNat ≠ 48 := by
   rcases hz with h | h
   ·omega
   ·exact h
  have hg : l.getD 0 0 = a.getD 0 0 := by
   rw [e]
   rw [List.getD_eq_getElem?_getD, List.getD_eq_getElem?_getD, List.getElem?_append_left (by omega)]
  rw [hg] at hz'
  have ih := dec_valB n a hal (fun c hc => hd c (by rw [e]; simp [hc])) (.inr hz')
  have h := dv_eq (hd d (by rw [e]; simp))
  have h1 : 1 ≤ valB 0 a := by
   rcases Nat.eq_zero_or_pos (valB 0 a) with h0 | h0
   ·rw [h0, dec_zero] at ih
    rw [← ih] at hz'
    exact absurd rfl hz'
   ·exact h0
  rw [e, valB_append, valB_cons, valB_nil, Lib.decDigits, dif_neg (by omega)]
  rw [show (10 * valB 0 a + dv d) / 10 = valB 0 a by omega, show (10 * valB 0 a + dv d) % 10 = dv d by omega, ih]
  congr 2
  refine uint8_ext ?_
  rw [toNat_ofNat_dig h.2.2]
  exact h.2.1.symm
theorem canB_dec (u : Nat) : canB (Lib.decDigits u) = true := by
 obtain ⟨c, t, e, _, hz⟩ := dec_head u
 unfold canB
 rw [List.all_eq_true.2 fun c hc => dgtB_iff.2 (dec_dig u c hc)]
 by_cases h : u = 0
 ·subst h; rw [dec_zero]; rfl
 ·have h2 := hz h
  rw [e]
  simp only [List.getD_eq_getElem?_getD, List.length_cons, List.getElem?_cons_zero, Option.getD_some, Bool.true_and]
  cases t with
  | nil => rfl
  | cons b t => simp [h2]
theorem canB_iff {l : List UInt8} : canB l = true ↔ ∃ u, l = Lib.decDigits u := by
 refine ⟨fun h => ?_, fun ⟨u, e⟩ => by rw [e]; exact canB_dec u⟩
 unfold canB at h
 rw [Bool.and_eq_true, List.all_eq_true, Bool.or_eq_true, Bool.and_eq_true, decide_eq_true_eq, decide_eq_true_eq, decide_eq_true_eq] at h
 obtain ⟨h1, h2⟩ := h
 refine ⟨valB 0 l, (dec_valB (l.length - 1) l ?_ (fun c hc => dgtB_iff.1 (h1 c hc)) ?_).symm⟩
 ·rcases h2 with h | h <;> omega
 ·rcases h2 with h | h
  ·exact .inl h
  ·exact .inr h.2
def sgB (l : List UInt8) : Bool := match l with
 | [] => false
 | c :: _ => decide (c = 45)
def mgL (l : List UInt8) : List UInt8 := if sgB l then l.drop 1 else l
def wcE (l : List UInt8) : Int := if (sgB l && decide (mgL l = [48])) || !(canB (mgL l) && decide ((mgL l).length ≤ 400)) then 2 else 0
theorem wcE_zero {l : List UInt8} (h : wcE l = 0) : ∃ z : Int, l = Lib.itoa z ∧ nd z ≤ 400 := by
 unfold wcE at h
 split at h
 ·cases h
 ·rename_i h2
  simp only [Bool.or_eq_true, Bool.and_eq_true, Bool.not_eq_true', not_or, Bool.not_eq_false, decide_eq_true_eq, not_and] at h2
  obtain ⟨h3, h4, h5⟩ := h2
  obtain ⟨u, hu⟩ := canB_iff.1 h4
  unfold mgL at hu h3 h5
  cases hs : sgB l with
  | false =>
   rw [hs, if_neg (by decide)] at hu h5
   exact ⟨u, by rw [hu, itoa_nat], by rw [hu, Lib.decDigits_length] at h5; exact h5⟩
  | true =>
   rw [hs, if_pos rfl] at hu h3 h5
   have h6 := h3 rfl
   match l, hs with
   | c :: t, hs =>
    have hc : c = 45 := by simpa [sgB] using hs
    rw [List.drop_one, List.tail_cons] at hu h6 h5
    have hu0 : u ≠ 0 := fun e => h6 (by rw [hu, e, dec_zero])
    refine ⟨-(u : Int), ?_, ?_⟩
    ·rw [itoa_neg (by omega), hc, hu, show (-(u : Int)).natAbs = u by omega]
    ·rw [hu, Lib.decDigits_length] at h5
     show Lib.nDigits (-(u : Int)).natAbs ≤ 400
     rw [show (-(u : Int)).natAbs = u by omega]; exact h5
theorem sgB_itoa (z : Int) : sgB (Lib.itoa z) = decide (z < 0) ∧ mgL (Lib.itoa z) = Lib.decDigits z.natAbs := by
 by_cases h : z < 0
 ·rw [itoa_neg h, decide_eq_true h]
  exact ⟨rfl, rfl⟩
 ·rw [itoa_pos (by omega), decide_eq_false h]
  obtain ⟨c, t, e, hd, _⟩ := dec_head z.natAbs
  have : sgB (Lib.decDigits z.natAbs) = false := by
   rw [e]
   refine decide_eq_false fun hc => ?_
   subst hc
   exact absurd hd.1 (by decide)
  unfold mgL
  rw [this]
  exact ⟨rfl, rfl⟩
theorem wcE_itoa {z : Int} (h : nd z ≤ 400) : wcE (Lib.itoa z) = 0 := by
 obtain ⟨h1, h2⟩ := sgB_itoa z
 unfold wcE
 rw [h1, h2, canB_dec, Lib.decDigits_length, decide_eq_true (show Lib.nDigits z.natAbs ≤ 400 from h)]
 by_cases hz : z < 0
 ·have : ¬ Lib.decDigits z.natAbs = [48] := fun e => by
   have h3 := dec_eq_zero z.natAbs
   rw [e] at h3
   have h4 : z.natAbs = 0 := by simpa using h3
   omega
  rw [decide_eq_false this]; simp
 ·rw [decide_eq_false hz]; rfl
def ivB (l : List UInt8) : Int := if sgB l then -(valB 0 (mgL l) : Int) else (valB 0 (mgL l) : Int)
theorem ivB_itoa (z : Int) : ivB (Lib.itoa z) = z := by
 obtain ⟨h1, h2⟩ := sgB_itoa z
 unfold ivB
 rw [h1, h2, valB_dec]
 by_cases hz : z < 0
 ·rw [if_pos (decide_eq_true hz)]; omega
 ·rw [if_neg (by rw [decide_eq_true_eq]; exact hz)]; omega
def FrOK (a b : List UInt8) (n d : Int) : Prop := a = Lib.itoa n ∧ b = Lib.itoa d ∧ nd n ≤ 400 ∧ nd d ≤ 400 ∧ 0 < d ∧ Nat.gcd n.natAbs d.natAbs = 1
def frE (a b : List UInt8) : Int := if wcE a = 0 ∧ wcE b = 0 ∧ 0 < ivB b ∧ Nat.gcd (ivB a).natAbs (ivB b).natAbs = 1 then 0 else 2
theorem frE_zero {a b : List UInt8} (h : frE a b = 0) : ∃ n d, FrOK a b n d := by
 unfold frE at h
 split at h
 ·rename_i h2
  obtain ⟨h3, h4, h5, h6⟩ := h2
  obtain ⟨n, en, hn⟩ := wcE_zero h3
  obtain ⟨d, ed, hd⟩ := wcE_zero h4
  rw [ed, ivB_itoa] at h5
  rw [en, ed, ivB_itoa, ivB_itoa] at h6
  exact ⟨n, d, en, ed, hn, hd, h5, h6⟩
 ·cases h
theorem frE_ok {a b : List UInt8} {n d : Int} (h : FrOK a b n d) : frE a b = 0 := by
 obtain ⟨rfl, rfl, hn, hd, h0, hg⟩ := h
 unfold frE
 rw [if_pos ⟨wcE_itoa hn, wcE_itoa hd, by rw [ivB_itoa]; exact h0, by rw [ivB_itoa, ivB_itoa]; exact hg⟩]
theorem frE_cases (a b : List UInt8) : frE a b = 0 ∨ frE a b = 2 := by
 unfold frE; split
 ·exact .inl rfl
 ·exact .inr rfl
end Go.Proofs.YtjnpakablgommaaGreatDoor
namespace Go.Proofs.YtjnpakablgommaaGreatDoor
open Go.RowKit Go.Sort
theorem split_all {l : List UInt8} (hl : l.length ≤ 1000000000000) (w : World) : Calls Tryz.prog 199 #[S l] w fun e w' => e = .returned (.tuple #[.bool (sgB l), S (mgL l)]) ∧ Ext w w' := by
 match l, hl with
 | [], _ =>
  go_enter Tryz.func199, Tryz.ntmps199
  go_wp2
  go_ret2
  exact ⟨rfl, Ext.refl _⟩
 | c :: t, hl =>
  by_cases h : c = 45
  ·subst h
   have hl : t.length ≤ 1000000000000 := by simp at hl; omega
   rw [show sgB (45 :: t) = true from rfl, show mgL (45 :: t) = t from rfl]
   go_enter Tryz.func199, Tryz.ntmps199
   go_wp2
   go_quiet (fail)
   go_wp2
   go_ret2
   have E := S_extract1 45 t _ rfl
   exact ⟨ret_val (congrArg (fun v => Value.tuple #[.bool true, v]) E), (Ext.refl _).drewN _⟩
  ·have h0 : sgB (c :: t) = false := decide_eq_false h
   have h9 : mgL (c :: t) = c :: t := by unfold mgL; rw [h0]; rfl
   rw [h0, h9]
   have h1 : ((c.toNat : Int) == 45) = false := beq_eq_false_iff_ne.2 (by
    intro e
    exact h (uint8_ext (by show c.toNat = 45; omega)))
   have h2 : (((⟨(c :: t).toArray⟩ : ByteArray)[0]'(by show 0 < (c :: t).toArray.size; simp)).toNat : Int) = c.toNat := rfl
   clear h h0 h9 hl
   go_enter Tryz.func199, Tryz.ntmps199
   go_wp2
   go_ret2
   exact ⟨rfl, Ext.refl _⟩
theorem canB_bad {l : List UInt8} {j : Nat} (hj : j < l.length) (h : ¬ isDig l[j]) : canB l = false := by
 unfold canB
 have : l.all dgtB = false := by
  rw [List.all_eq_false]
  exact ⟨l[j], List.getElem_mem hj, by rw [dgtB_iff]; exact h⟩
 rw [this]; rfl
theorem canB_good {l : List UInt8} (h : ∀ i (hi : i < l.length), isDig l[i]) : canB l = (decide (l.length = 1) || (decide (1 < l.length) && decide ((l.getD 0 0).toNat ≠ 48))) := by
 unfold canB
 rw [List.all_eq_true.2 fun c hc => by
  obtain ⟨i, hi, rfl⟩ := List.getElem_of_mem hc
  exact dgtB_iff.2 (h i hi)]
 rfl
set_option maxHeartbeats 1000000 in
theorem canon_all {l : List UInt8} (hn : l.length ≤ 1000000000000) (w : World) :
  Calls Tryz.prog 263 #[S l] w fun e w' => e = .returned (.bool (canB l)) ∧ Ext w w' := by
 have hcv := fun (w : World) (s : ByteArray) => Lib.run_convert_string_bytes (P := Tryz.prog) w 79 227 5 s Tryz.underlying79 Tryz.underlying227 Tryz.underlying5
 have Hbad := Lib.hid (fun j (hj : j < l.length) (h : ¬ isDig l[j]) => canB_bad hj h)
 have Hgood := Lib.hid (fun (h : ∀ i (hi : i < l.length), isDig l[i]) => canB_good h)
 match l, hn, Hbad, Hgood with
 | [], _, _, _ =>
  go_enter Tryz.func263, Tryz.ntmps263
  go_wp2
  have hEW := ext_bytesWorld w 5 (⟨([] : List UInt8).toArray⟩ : ByteArray)
  go_loop [8] (fun i => i = .int .i64 0) (fun i => 0)
  case atStart => rfl
  case round =>
   subst hrel
   go_wp2
   go_ret
   exact ⟨rfl, hEW⟩
 | c :: l, hn, Hbad, Hgood =>
  generalize canB (c :: l) = B at *
  go_enter Tryz.func263, Tryz.ntmps263
  go_wp2
  have hcl := fun j (hj : j < (c :: l).length) => Lib.bytesWorld_cell w 5 (⟨(c :: l).toArray⟩ : ByteArray) j (by simpa [ByteArray.size] using hj)
  have hEW := ext_bytesWorld w 5 (⟨(c :: l).toArray⟩ : ByteArray)
  have h2 : (((⟨(c :: l).toArray⟩ : ByteArray)[0]'(by show 0 < (c :: l).toArray.size; simp)).toNat : Int) = c.toNat := rfl
  have H2 := Lib.hid h2
  have Hcl := Lib.hid hcl
  clear hcl h2
  go_loop [8] (fun i => ∃ j : Nat, j ≤ (c :: l).length ∧ i = .int .i64 j ∧ Hid (∀ i (hi : i < (c :: l).length), i < j → isDig (c :: l)[i])) (fun i => (c :: l).length - (intOf i).toNat)
  case atStart => exact ⟨0, Nat.zero_le _, rfl, Lib.hid (fun i hi h => by omega)⟩
  case round =>
   obtain ⟨j, hj, rfl, HA⟩ := hrel
   by_cases hlt : j < (c :: l).length
   ·have hcell := Hcl.out j hlt
    rw [show (⟨(c :: l).toArray⟩ : ByteArray).data.toList = c :: l from rfl, List.getD_eq_getElem?_getD, List.getElem?_eq_getElem hlt, Option.getD_some] at hcell
    have Hb := Lib.hid (Hbad.out j hlt)
    have HA2 := Lib.hid (fun (h : isDig (c :: l)[j]) i (hi : i < (c :: l).length) (hij : i < j + 1) => show isDig (c :: l)[i] by
     by_cases e : i = j
     ·subst e; exact h
     ·exact HA.out i hi (by omega))
    have hlI : (j : Int) < (l.length : Int) + 1 := by simp at hlt; omega
    generalize (c :: l)[j] = x at *
    have Hlt := Lib.hid hlt
    clear hlt HA
    by_cases hb1 : (x.toNat : Int) < 48
    ·have H3 := Lib.hid (Hb.out (fun h => by have := h.1; omega))
     clear Hb HA2
     go_wp2
     go_ret
     exact ⟨ret_val (congrArg Value.bool H3.out.symm), hEW⟩
    ·by_cases hb2 : (57 : Int) < (x.toNat : Int)
     ·have H3 := Lib.hid (Hb.out (fun h => by have := h.2; omega))
      clear Hb HA2
      go_wp2
      go_ret
      exact ⟨ret_val (congrArg Value.bool H3.out.symm), hEW⟩
     ·have HA := Lib.hid (HA2.out ⟨by omega, by omega⟩)
      clear Hb HA2
      go_wp2
      go_round
      case rel => exact ⟨j + 1, Hlt.out, by go_num, HA⟩
      case measure => have := Hlt.out; simp [intOf]; omega
   ·have hjM : j = l.length + 1 := by simp at hj hlt; omega
    subst hjM
    have h2 := H2.out
    have HB := Lib.hid (Hgood.out (fun i hi => HA.out i hi (by simpa using hi)))
    clear hlt hj HA Hgood Hbad
    by_cases hl : l = []
    ·subst hl
     go_wp2
     go_ret
     exact ⟨ret_val (congrArg Value.bool (by rw [HB.out]; rfl)), hEW⟩
    ·have hl0 : 0 < l.length := List.length_pos_iff.2 hl
     have hl1 : ((l.length : Int) + 1 == 1) = false := beq_eq_false_iff_ne.2 (by omega)
     have hl2 : (1 : Int) < (l.length : Int) + 1 := by omega
     have HB2 := Lib.hid (show B = decide (c.toNat ≠ 48) by
      rw [HB.out, decide_eq_false (show ¬ (c :: l).length = 1 by simp; omega), decide_eq_true (show 1 < (c :: l).length by simp; omega)]
      simp)
     by_cases h48 : c.toNat = 48
     ·have h49 : ((c.toNat : Int) != 48) = false := by simp [bne, h48]
      rw [decide_eq_false (show ¬ c.toNat ≠ 48 by omega)] at HB2
      clear hl h48 HB
      go_wp2
      go_ret
      exact ⟨ret_val (congrArg Value.bool HB2.out.symm), hEW⟩
     ·have h49 : ((c.toNat : Int) != 48) = true := by simp [bne]; omega
      rw [decide_eq_true (show c.toNat ≠ 48 from h48)] at HB2
      clear hl h48 HB
      go_wp2
      go_ret
      exact ⟨ret_val (congrArg Value.bool HB2.out.symm), hEW⟩
def dcE (l : List UInt8) : Int := if canB l && decide (l.length ≤ 400) then 0 else 2
theorem dcheck_all {l : List UInt8} (hn : l.length ≤ 1000000000000) (w : World) :
  Calls Tryz.prog 212 #[S l] w fun e w' => e = .returned (.int .i64 (dcE l)) ∧ Ext w w' := by
 have hc := Lib.hid (canon_all hn w)
 have Hd := Lib.hid (show dcE l = if canB l && decide (l.length ≤ 400) then 0 else 2 from rfl)
 generalize dcE l = z at *
 generalize canB l = b at *
 cases b
 ·go_enter Tryz.func212, Tryz.ntmps212
  go_wp2_with fail
  refine hc.out.mono ?_
  rintro e w1 ⟨rfl, hE1⟩
  go_wp2_with fail
  go_ret
  exact ⟨ret_val (congrArg (Value.int .i64) (by rw [Hd.out]; rfl)), hE1⟩
 ·by_cases h : l.length ≤ 400
  ·have hI : ¬ (400 : Int) < (l.length : Int) := by omega
   rw [decide_eq_true h] at Hd
   clear h
   go_enter Tryz.func212, Tryz.ntmps212
   go_wp2_with fail
   refine hc.out.mono ?_
   rintro e w1 ⟨rfl, hE1⟩
   go_wp2_with fail
   go_ret
   exact ⟨ret_val (congrArg (Value.int .i64) (by rw [Hd.out]; rfl)), hE1⟩
  ·have hI : (400 : Int) < (l.length : Int) := by omega
   rw [decide_eq_false h] at Hd
   clear h
   go_enter Tryz.func212, Tryz.ntmps212
   go_wp2_with fail
   refine hc.out.mono ?_
   rintro e w1 ⟨rfl, hE1⟩
   go_wp2_with fail
   go_ret
   exact ⟨ret_val (congrArg (Value.int .i64) (by rw [Hd.out]; rfl)), hE1⟩
theorem mgL_len (l : List UInt8) : (mgL l).length ≤ l.length := by
 unfold mgL; split
 ·simp
 ·exact Nat.le_refl _
theorem wcheck_all {l : List UInt8} (hn : l.length ≤ 1000000000000) (w : World) :
  Calls Tryz.prog 147 #[S l] w fun e w' => e = .returned (.int .i64 (wcE l)) ∧ Ext w w' := by
 have hs := Lib.hid (split_all hn w)
 have hd := Lib.hid (fun W => dcheck_all (l := mgL l) (Nat.le_trans (mgL_len l) hn) W)
 have Hw := Lib.hid (show wcE l = if (sgB l && decide (mgL l = [48])) || !(canB (mgL l) && decide ((mgL l).length ≤ 400)) then 2 else 0 from rfl)
 have Hc := Lib.hid (show dcE (mgL l) = if canB (mgL l) && decide ((mgL l).length ≤ 400) then 0 else 2 from rfl)
 have Hq := Lib.hid (show (mgL l == [48]) = decide (mgL l = [48]) by rw [Bool.eq_iff_iff]; simp)
 generalize wcE l = z at *
 generalize sgB l = s at *
 generalize dcE (mgL l) = y at *
 generalize (canB (mgL l) && decide ((mgL l).length ≤ 400)) = b at *
 generalize decide (mgL l = [48]) = q at *
 generalize mgL l = m at *
 have hq := Hq.out
 cases b
 ·have hy : y = 2 := by rw [Hc.out]; rfl
  have hz : z = 2 := by rw [Hw.out]; simp
  subst hy hz
  cases s
  ·go_enter Tryz.func147, Tryz.ntmps147
   go_wp2_with fail
   refine hs.out.mono ?_
   rintro e w1 ⟨rfl, hE1⟩
   go_wp2_with fail
   refine (hd.out _).mono ?_
   rintro e w2 ⟨rfl, hE2⟩
   go_wp2_with fail
   go_ret
   exact ⟨rfl, hE1.trans hE2⟩
  ·cases q
   ·go_enter Tryz.func147, Tryz.ntmps147
    go_wp2_with fail
    refine hs.out.mono ?_
    rintro e w1 ⟨rfl, hE1⟩
    go_wp2_with fail
    refine (hd.out _).mono ?_
    rintro e w2 ⟨rfl, hE2⟩
    go_wp2_with fail
    go_ret
    exact ⟨rfl, hE1.trans hE2⟩
   ·go_enter Tryz.func147, Tryz.ntmps147
    go_wp2_with fail
    refine hs.out.mono ?_
    rintro e w1 ⟨rfl, hE1⟩
    go_wp2_with fail
    go_ret
    exact ⟨rfl, hE1⟩
 ·have hy : y = 0 := by rw [Hc.out]; rfl
  subst hy
  cases s
  ·have hz : z = 0 := by rw [Hw.out]; rfl
   subst hz
   go_enter Tryz.func147, Tryz.ntmps147
   go_wp2_with fail
   refine hs.out.mono ?_
   rintro e w1 ⟨rfl, hE1⟩
   go_wp2_with fail
   refine (hd.out _).mono ?_
   rintro e w2 ⟨rfl, hE2⟩
   go_wp2_with fail
   go_ret
   exact ⟨rfl, hE1.trans hE2⟩
  ·cases q
   ·have hz : z = 0 := by rw [Hw.out]; rfl
    subst hz
    go_enter Tryz.func147, Tryz.ntmps147
    go_wp2_with fail
    refine hs.out.mono ?_
    rintro e w1 ⟨rfl, hE1⟩
    go_wp2_with fail
    refine (hd.out _).mono ?_
    rintro e w2 ⟨rfl, hE2⟩
    go_wp2_with fail
    go_ret
    exact ⟨rfl, hE1.trans hE2⟩
   ·have hz : z = 2 := by rw [Hw.out]; rfl
    subst hz
    go_enter Tryz.func147, Tryz.ntmps147
    go_wp2_with fail
    refine hs.out.mono ?_
    rintro e w1 ⟨rfl, hE1⟩
    go_wp2_with fail
    go_ret
    exact ⟨rfl, hE1⟩
theorem fcheck_all {a b : List UInt8} (hna : a.length ≤ 1000000) (hnb : b.length ≤ 1000000) {w : World} (hL : Laid w) :
  Calls Tryz.prog 93 #[.agg #[S a, S b]] w fun e w' => e = .returned (.int .i64 (frE a b)) ∧ Ext w w' := by
 by_cases h0 : frE a b = 0
 ·obtain ⟨n, d, rfl, rfl, hn, hd, hp, hg⟩ := frE_zero h0
  rw [h0]
  exact fcheck_any hn hd hp hg hL
 ·have h2 : frE a b = 2 := (frE_cases a b).resolve_left h0
  have h1 := Lib.hid (fun W => wcheck_all (l := a) (by omega) W)
  have h3 := Lib.hid (fun W => wcheck_all (l := b) (by omega) W)
  rw [h2]
  have hX : Ext w (w.alloc (.cells #[S a, S b] 81)) := (Ext.refl w).alloc _
  have HO := two_alloc w 81 (S a) (S b)
  have c0 : (w.alloc (.cells #[S a, S b] 81)).cell? ⟨w.heap.size, 0, none⟩ = some (S a) := HO.cell (j := 0) (by simp)
  have c1 : (w.alloc (.cells #[S a, S b] 81)).cell? ⟨w.heap.size, 1, none⟩ = some (S b) := HO.cell (j := 1) (by simp)
  clear HO
  by_cases hwa : wcE a = 0
  ·rw [hwa] at h1
   by_cases hwb : wcE b = 0
   ·rw [hwb] at h3
    obtain ⟨n, rfl, hn⟩ := wcE_zero hwa
    obtain ⟨d, rfl, hd⟩ := wcE_zero hwb
    have h5 := Lib.hid (fun W => Sign_any (z := d) W)
    have h4 := Lib.hid (fun W (hW : Ext w W) => wGcd_any (a := n) (b := d) (by unfold LIM; omega) (by unfold LIM; omega) (hL.ext hW))
    by_cases hp : 0 < d
    ·have hg : ¬ Nat.gcd n.natAbs d.natAbs = 1 := fun hg => h0 (frE_ok ⟨rfl, rfl, hn, hd, hp, hg⟩)
     rw [Int.sign_eq_one_of_pos hp] at h5
     have hone : (Lib.itoa ((Nat.gcd n.natAbs d.natAbs : Nat) : Int) == [49]) = false := beq_eq_false_iff_ne.2 (fun e => hg (by
      have : Lib.itoa ((Nat.gcd n.natAbs d.natAbs : Nat) : Int) = Lib.itoa 1 := by rw [e, itoa_one]
      have := itoa_inj this
      omega))
     have hone2 : (Lib.itoa ((Nat.gcd n.natAbs d.natAbs : Nat) : Int) != [49]) = true := by simp [bne, hone]
     rw [show I ((Nat.gcd n.natAbs d.natAbs : Nat) : Int) = S (Lib.itoa ((Nat.gcd n.natAbs d.natAbs : Nat) : Int)) from rfl] at h4
     generalize Lib.itoa ((Nat.gcd n.natAbs d.natAbs : Nat) : Int) = g at *
     clear hg hp h0 h2 hwa hwb hn hd hna hnb
     have hi : I n = S (Lib.itoa n) := rfl
     have hi2 : I d = S (Lib.itoa d) := rfl
     rw [hi, hi2] at h4
     rw [hi2] at h5
     clear hi hi2
     generalize Lib.itoa n = a at *
     generalize Lib.itoa d = b at *
     go_enter Tryz.func93, Tryz.ntmps93
     go_wp2_with fail
     refine (h1.out _).mono ?_
     rintro e w1 ⟨rfl, hE1⟩
     have c0 := hE1.cell c0
     have c1 := hE1.cell c1
     have e1 := hX.trans hE1
     go_wp2_with fail
     refine (h3.out _).mono ?_
     rintro e w2 ⟨rfl, hE2⟩
     have c0 := hE2.cell c0
     have c1 := hE2.cell c1
     have e2 := e1.trans hE2
     go_wp2_with fail
     refine (h5.out _).mono ?_
     rintro e w3 ⟨rfl, hE3⟩
     have c0 := hE3.cell c0
     have c1 := hE3.cell c1
     have e3 := e2.trans hE3
     go_wp2_with fail
     refine (h4.out _ e3).mono ?_
     rintro e w4 ⟨rfl, hE4⟩
     go_wp2_with fail
     go_ret
     exact ⟨rfl, e3.trans hE4⟩
    ·obtain ⟨s, hs, hs0⟩ : ∃ s : Int, s = d.sign ∧ s ≤ 0 := ⟨_, rfl, by
      rcases Int.lt_trichotomy d 0 with h | h | h
      ·rw [Int.sign_eq_neg_one_of_neg h]; decide
      ·rw [h]; decide
      ·exact absurd h hp⟩
     rw [← hs] at h5
     clear hs hp h0 h2 hwa hwb hn hd hna hnb h4
     have hi2 : I d = S (Lib.itoa d) := rfl
     rw [hi2] at h5
     clear hi2
     generalize Lib.itoa n = a at *
     generalize Lib.itoa d = b at *
     go_enter Tryz.func93, Tryz.ntmps93
     go_wp2_with fail
     refine (h1.out _).mono ?_
     rintro e w1 ⟨rfl, hE1⟩
     have c0 := hE1.cell c0
     have c1 := hE1.cell c1
     have e1 := hX.trans hE1
     go_wp2_with fail
     refine (h3.out _).mono ?_
     rintro e w2 ⟨rfl, hE2⟩
     have c0 := hE2.cell c0
     have c1 := hE2.cell c1
     have e2 := e1.trans hE2
     go_wp2_with fail
     refine (h5.out _).mono ?_
     rintro e w3 ⟨rfl, hE3⟩
     have e3 := e2.trans hE3
     go_wp2_with fail
     go_ret
     exact ⟨rfl, e3⟩
   ·have hwb2 : wcE b = 2 := by
     have : wcE b = 2 ∨ wcE b = 0 := by unfold wcE; split; exact .inl rfl; exact .inr rfl
     exact this.resolve_right hwb
    rw [hwb2] at h3
    clear hwb hwb2 hwa h0 h2 hna hnb
    go_enter Tryz.func93, Tryz.ntmps93
    go_wp2_with fail
    refine (h1.out _).mono ?_
    rintro e w1 ⟨rfl, hE1⟩
    have c0 := hE1.cell c0
    have c1 := hE1.cell c1
    have e1 := hX.trans hE1
    go_wp2_with fail
    refine (h3.out _).mono ?_
    rintro e w2 ⟨rfl, hE2⟩
    go_wp2_with fail
    go_ret
    exact ⟨rfl, e1.trans hE2⟩
  ·have hwa2 : wcE a = 2 := by
    have : wcE a = 2 ∨ wcE a = 0 := by unfold wcE; split; exact .inl rfl; exact .inr rfl
    exact this.resolve_right hwa
   rw [hwa2] at h1
   clear hwa hwa2 h0 h2 h3 hna hnb
   go_enter Tryz.func93, Tryz.ntmps93
   go_wp2_with fail
   refine (h1.out _).mono ?_
   rintro e w1 ⟨rfl, hE1⟩
   go_wp2_with fail
   go_ret
   exact ⟨rfl, hX.trans hE1⟩
abbrev RV (r : Rat) : Value := .agg #[I r.num, I r.den]
def SmQ (r : Rat) : Prop := nd r.num ≤ 100000000 ∧ nd r.den ≤ 100000000
theorem qR_eq {n d : Int} {r : Rat} (h : qmk n d = qR r) : qn n d = r.num ∧ qd n d = r.den := by
 unfold qmk qR at h
 injection h with h1 h2
 exact ⟨h1, h2⟩
theorem den_pos' (r : Rat) : (0 : Int) < (r.den : Int) := by have := r.den_pos; omega
theorem ratOf_any {n d : Int} (hn : -9223372036854775808 ≤ n ∧ n ≤ 9223372036854775807) (hd : -9223372036854775808 ≤ d ∧ d ≤ 9223372036854775807) (h0 : d ≠ 0) {w : World} (hL : Laid w) :
  Calls Tryz.prog 110 #[.int .i64 n, .int .i64 d] w fun e w' => e = .returned (.tuple #[RV ((n : Rat) / (d : Rat)), .int .i64 0]) ∧ Ext w w' := by
 have h := fOf_any hn hd h0 hL
 obtain ⟨e1, e2⟩ := qR_eq (qmk_R (n := n) h0)
 rw [e1, e2] at h
 exact h
theorem ratMul_any {a b : Rat} (ha : SmQ a) (hb : SmQ b) {w : World} (hL : Laid w) :
  Calls Tryz.prog 102 #[RV a, RV b] w fun e w' => e = .returned (RV (a * b)) ∧ Ext w w' := by
 have h := fMul_any ha.1 ha.2 hb.1 hb.2 (den_pos' a) (den_pos' b) hL
 obtain ⟨e1, e2⟩ := qR_eq (qmul_R a b)
 simp only [qR] at e1 e2
 rw [e1, e2] at h
 exact h
theorem ratAdd_any {a b : Rat} (ha : SmQ a) (hb : SmQ b) {w : World} (hL : Laid w) :
  Calls Tryz.prog 101 #[RV a, RV b] w fun e w' => e = .returned (RV (a + b)) ∧ Ext w w' := by
 have h := fAdd_any ha.1 ha.2 hb.1 hb.2 (den_pos' a) (den_pos' b) hL
 obtain ⟨e1, e2⟩ := qR_eq (qadd_R a b)
 simp only [qR] at e1 e2
 rw [e1, e2] at h
 exact h
theorem ratSub_any {a b : Rat} (ha : SmQ a) (hb : SmQ b) {w : World} (hL : Laid w) :
  Calls Tryz.prog 89 #[RV a, RV b] w fun e w' => e = .returned (RV (a - b)) ∧ Ext w w' := by
 have h := fSub_any ha.1 ha.2 hb.1 hb.2 (den_pos' a) (den_pos' b) hL
 have hq := qadd_R a (-b)
 rw [show a + -b = a - b by grind] at hq
 obtain ⟨e1, e2⟩ := qR_eq hq
 simp only [qR, Rat.neg_num, Rat.neg_den] at e1 e2
 rw [Int.neg_mul, ← Int.sub_eq_add_neg] at e1 e2
 rw [e1, e2] at h
 exact h
theorem Tw.sm {B : Nat} {r : Rat} (h : Tw B r) (hB : B < 10 ^ 30) : nd r.num ≤ 30 ∧ nd r.den ≤ 30 := by
 obtain ⟨h1, h2⟩ := h.num
 refine ⟨nDigits_le (u := r.num.natAbs) (k := 30) (by omega) (by omega), nDigits_le (u := ((r.den : Int)).natAbs) (k := 30) (by omega) ?_⟩
 have : (10 : Nat) ^ 30 = 1000000000000000000000000000000 := by decide
 omega
theorem Tw.smQ {B : Nat} {r : Rat} (h : Tw B r) (hB : B < 10 ^ 30) : SmQ r := by
 have := h.sm hB
 exact ⟨by omega, by omega⟩
end Go.Proofs.YtjnpakablgommaaGreatDoor
namespace Go.Proofs.YtjnpakablgommaaGreatDoor
theorem nd_0 : nd 0 = 1 := Lib.nDigits_small (u := 0) (by omega)
theorem nd_1 : nd 1 = 1 := Lib.nDigits_small (u := 1) (by omega)
def NdQ (E : Nat) (r : Rat) : Prop := nd r.num ≤ E ∧ nd r.den ≤ E
theorem NdQ.mono {E F : Nat} {r : Rat} (h : NdQ E r) (hE : E ≤ F) : NdQ F r := ⟨Nat.le_trans h.1 hE, Nat.le_trans h.2 hE⟩
theorem NdQ.smQ {E : Nat} {r : Rat} (h : NdQ E r) (hE : E ≤ 100000000) : SmQ r := ⟨Nat.le_trans h.1 hE, Nat.le_trans h.2 hE⟩
theorem NdQ.of_int {E : Nat} {k : Int} (h : nd k ≤ E) : NdQ E (k : Rat) := by
 refine ⟨by simpa using h, ?_⟩
 have := nd_pos k
 rw [show (((k : Rat).den : Nat) : Int) = 1 by simp]
 rw [nd_1]; omega
theorem NdQ.zero {E : Nat} (h : 1 ≤ E) : NdQ E 0 := by
 have := NdQ.of_int (E := E) (k := 0) (by rw [nd_0]; exact h)
 simpa using this
theorem NdQ.one {E : Nat} (h : 1 ≤ E) : NdQ E 1 := by
 have := NdQ.of_int (E := E) (k := 1) (by rw [nd_1]; exact h)
 simpa using this
theorem NdQ.neg {E : Nat} {r : Rat} (h : NdQ E r) : NdQ E (-r) := by
 unfold NdQ; rw [Rat.neg_num, Rat.neg_den, nd_neg]; exact h
theorem NdQ.mk {n d : Int} {r : Rat} {E : Nat} (h : qmk n d = qR r) (hn : nd n ≤ E) (hd : nd d ≤ E) : NdQ E r := by
 obtain ⟨e1, e2⟩ := qR_eq h
 refine ⟨?_, ?_⟩
 ·rw [← e1]; exact Nat.le_trans (nd_qn _ _) hn
 ·rw [← e2]; exact Nat.le_trans (nd_qd _ _) hd
theorem NdQ.add {E F : Nat} {a b : Rat} (ha : NdQ E a) (hb : NdQ F b) : NdQ (E + F + 1) (a + b) := by
 have h1 := nd_mul a.num b.den
 have h2 := nd_mul b.num a.den
 have h3 := nd_mul a.den b.den
 have h4 := nd_add (a.num * b.den) (b.num * a.den)
 obtain ⟨a1, a2⟩ := ha
 obtain ⟨b1, b2⟩ := hb
 refine NdQ.mk (qadd_R a b) ?_ ?_
 ·show nd (a.num * b.den + b.num * a.den) ≤ _
  omega
 ·show nd ((a.den : Int) * b.den) ≤ _
  omega
theorem NdQ.sub {E F : Nat} {a b : Rat} (ha : NdQ E a) (hb : NdQ F b) : NdQ (E + F + 1) (a - b) := by
 rw [show a - b = a + -b by grind]; exact ha.add hb.neg
theorem NdQ.mul {E F : Nat} {a b : Rat} (ha : NdQ E a) (hb : NdQ F b) : NdQ (E + F) (a * b) := by
 have h1 := nd_mul a.num b.num
 have h3 := nd_mul a.den b.den
 obtain ⟨a1, a2⟩ := ha
 obtain ⟨b1, b2⟩ := hb
 refine NdQ.mk (qmul_R a b) ?_ ?_
 ·show nd (a.num * b.num) ≤ _
  omega
 ·show nd ((a.den : Int) * b.den) ≤ _
  omega
theorem sumR_nd {f : Nat → Rat} {E : Nat} : ∀ n, (∀ k, k < n → NdQ E (f k)) → NdQ (n * (E + 1) + 1) (sumR f n)
 | 0, _ => by rw [Nat.zero_mul]; exact NdQ.zero (by omega)
 | n + 1, h => by
  have := (sumR_nd n fun k hk => h k (by omega)).add (h n (by omega))
  refine NdQ.mono this ?_
  rw [Nat.succ_mul]; omega
theorem cmbF_nd {l : List (List Rat)} {fs : List Rat} {E F c k : Nat} (hl : ∀ s ∈ l, ∀ r ∈ s, NdQ E r) (hf : ∀ r ∈ fs, NdQ F r) (hE : 1 ≤ E) (hF : 1 ≤ F) : NdQ (E + F) (cmbF l fs c k) := by
 refine NdQ.mul ?_ ?_
 ·rw [List.getD_eq_getElem?_getD, List.getD_eq_getElem?_getD]
  by_cases h : k < l.length
  ·rw [List.getElem?_eq_getElem h, Option.getD_some]
   by_cases h2 : c < l[k].length
   ·rw [List.getElem?_eq_getElem h2, Option.getD_some]; exact hl _ (List.getElem_mem h) _ (List.getElem_mem h2)
   ·rw [List.getElem?_eq_none (by omega)]; exact NdQ.zero hE
  ·rw [List.getElem?_eq_none (show l.length ≤ k by omega), Option.getD_none, List.getElem?_nil]; exact NdQ.zero hE
 ·rw [List.getD_eq_getElem?_getD]
  by_cases h : k < fs.length
  ·rw [List.getElem?_eq_getElem h, Option.getD_some]; exact hf _ (List.getElem_mem h)
  ·rw [List.getElem?_eq_none (by omega)]; exact NdQ.zero hF
end Go.Proofs.YtjnpakablgommaaGreatDoor
