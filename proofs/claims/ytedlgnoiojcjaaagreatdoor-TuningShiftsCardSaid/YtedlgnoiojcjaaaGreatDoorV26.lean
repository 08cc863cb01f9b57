/- Part 26 of the proof of the claim: contracts of the functions that it reaches, and plain laws; no condition. -/
import Derived.Test.YtedlgnoiojcjaaaGreatDoorV25
import Derived.Test.YtedlgnoiojcjaaaGreatDoorV12
import Derived.Test.YtedlgnoiojcjaaaGreatDoorV22
import Derived.Laws.CopyRow
import Derived.Test.YtedlgnoiojcjaaaGreatDoorV09
set_option maxRecDepth 100000
namespace Go.Proofs.YtedlgnoiojcjaaaGreatDoor
open Go.RowKit Go.Sort
theorem Tryz.infoRat : (Tryz.prog.info? 63).map (fun i => (i.zero, i.size, i.bytes)) = some (some (.agg #[.string ⟨#[]⟩, .string ⟨#[]⟩]), 2, 32) := by kernel_rfl
theorem fl_rep (n : Nat) (e : Value) : fl (List.replicate n (e, e)) = List.replicate (n * 2) e := by
 induction n with
 | zero => rfl
 | succ n ih => rw [List.replicate_succ, fl_cons, ih, show (n + 1) * 2 = n * 2 + 1 + 1 by omega, List.replicate_succ, List.replicate_succ]
theorem made_two (e : Value) (n : Nat) : (madeCells #[e, e] n).toList = List.replicate n e := by
 refine List.ext_getElem? fun i => ?_
 rw [List.getElem?_replicate]
 by_cases h : i < n
 ·rw [if_pos h]
  simp only [madeCells, Array.toList_map, Array.toList_range, List.getElem?_map, List.getElem?_range h, Option.map_some]
  rcases Nat.mod_two_eq_zero_or_one i with h2 | h2 <;> simp [h2]
 ·rw [if_neg h]
  simp [madeCells]; omega
theorem frv_made {B n g : Nat} {w : World} {e : Value} (h : w.ownsRow B 63 2 (.slice (some ⟨g, 0, none⟩) n n) n (madeCells #[e, e] (n * 2)).toList) (hn : n ≤ 1000000) : FrV B w g (List.replicate n (e, e)) := by
 obtain ⟨h1, h2 | ⟨g', cap, cur, hv, hB, hh, hc, hm, hs, ht⟩⟩ := h
 ·obtain ⟨h3, _⟩ := h2; simp at h3
 ·simp only [Value.slice.injEq, Option.some.injEq, Addr.mk.injEq, and_true, true_and] at hv
  obtain ⟨rfl, _, rfl⟩ := hv
  unfold FrV
  rw [made_two] at ht
  refine OwnV.of hB hh (by rw [fl_length]; simp) (by rw [List.length_replicate]; unfold maxLen; omega) (by rw [List.length_replicate]; omega) ?_
  rw [fl_length, fl_rep, List.length_replicate, Nat.mul_comm 2 n]
  exact ht
def szc (l : List Rat) : List Value := fl (l.map fun r => qv (qR r))
theorem fl_append (a b : List (Value × Value)) : fl (a ++ b) = fl a ++ fl b := by simp [fl]
theorem szc_snoc (l : List Rat) (r : Rat) : szc (l ++ [r]) = szc l ++ [I r.num, I r.den] := by
 unfold szc
 rw [List.map_append, fl_append]
 rfl
theorem szc_length (l : List Rat) : (szc l).length = 2 * l.length := by unfold szc; rw [fl_length, List.length_map]
theorem szc_get {l : List Rat} {i : Nat} (h : i < l.length) : (szc l)[2 * i]? = some (I l[i].num) ∧ (szc l)[2 * i + 1]? = some (I l[i].den) := by
 have h2 : (l.map fun r => qv (qR r))[i]? = some (qv (qR l[i])) := by rw [List.getElem?_map, List.getElem?_eq_getElem h]; rfl
 exact fl_get _ i h2
def SzV (B : Nat) (w : World) (v : Value) (l : List Rat) : Prop := w.ownsRow B 63 2 v l.length (szc l)
theorem SzV.nil (B : Nat) (w : World) : SzV B w (.slice none 0 0) [] := ⟨rfl, .inl ⟨rfl, rfl⟩⟩
theorem SzV.ext {B : Nat} {w w' : World} {v : Value} {l : List Rat} (h : SzV B w v l) (he : Ext w w') : SzV B w' v l := ownsRow_ext h he
theorem SzV.mono {B B' : Nat} {w : World} {v : Value} {l : List Rat} (h : SzV B w v l) (hB : B' ≤ B) : SzV B' w v l := ownsRow_mono h hB
def SzR (w : World) (v : Value) (l : List Rat) : Prop := ∃ sa gb go cap, v = .slice sa l.length cap ∧ l.length ≤ cap ∧ (0 < l.length → sa = some ⟨gb, go, none⟩) ∧ ∀ i (h : i < l.length), w.cell? ⟨gb, go + i * 2, none⟩ = some (I l[i].num) ∧ w.cell? ⟨gb, go + i * 2 + 1, none⟩ = some (I l[i].den)
theorem SzR.ext {w w' : World} {v : Value} {l : List Rat} (h : SzR w v l) (he : Ext w w') : SzR w' v l := by
 obtain ⟨sa, gb, go, cap, e, hc, ha, hr⟩ := h
 exact ⟨sa, gb, go, cap, e, hc, ha, fun i hi => ⟨he.cell (hr i hi).1, he.cell (hr i hi).2⟩⟩
theorem SzV.read {B : Nat} {w : World} {v : Value} {l : List Rat} (h : SzV B w v l) : SzR w v l := by
 rcases h.2 with ⟨rfl, h0⟩ | ⟨g, cap, cur, rfl, hb, hg, hn, hm, hs, ht⟩
 ·refine ⟨none, 0, 0, 0, by rw [h0], by omega, fun h => by omega, fun i hi => by omega⟩
 ·refine ⟨_, g, 0, cap, rfl, hn, fun _ => rfl, fun i hi => ?_⟩
  obtain ⟨k1, k2⟩ := szc_get hi
  have c1 := World.ownsRow.cellAt h (2 * i) (by omega)
  have c2 := World.ownsRow.cellAt h (2 * i + 1) (by omega)
  rw [k1] at c1
  rw [k2] at c2
  rw [Nat.mul_comm i 2]
  exact ⟨by simpa using c1, by simpa using c2⟩
section
variable {w : World} {ops : Array Oper} {rest : List Oper} {o : Oper} {a : Act} {Q : Exit → Act → World → Prop}
theorem app_rat (hgd : o.guard = none) (s x : Operand) (t : TypeId) (ht : Tryz.prog.underlying t = some (.slice 63)) (ho : o.op = .call { callee := .builtin .append, args := #[s, x], argTypes := #[t, t] })
  {B : Nat} {v : Value} {l : List Rat} {r : Rat} (hs : a.eval s = v) (hown : SzV B w v l) {b : Nat} (hx : a.eval x = .slice (some ⟨b, 0, none⟩) 1 1) (c0 : w.cell? ⟨b, 0, none⟩ = some (I r.num)) (c1 : w.cell? ⟨b, 1, none⟩ = some (I r.den)) (hl : l.length ≤ 1000000000) (hB : B ≤ w.heap.size)
  (h : ∀ g cap w', SzV B w' (slv g (l.length + 1) cap) (l ++ [r]) → Below B w w' → w.grownBy w' v.ownBlock → wpList Tryz.prog ops Q rest (a.put o.dst (slv g (l.length + 1) cap)) w') : wpList Tryz.prog ops Q (o :: rest) a w := by
 obtain ⟨i0, hi, hz0, hz1, hz2⟩ := info_parts Tryz.infoRat
 refine wpList_append_lies w hgd s x t ho B 63 i0 _ 2 32 ht hi hz0 hz1 hz2 rfl (by omega) v l.length (szc l) hs hown ⟨b, 0, none⟩ 1 1 [I r.num, I r.den] hx rfl ?_ ?_ (by omega) (by unfold maxLen; omega) (by omega) hB w.heap.size rfl ?_
 ·intro j u hj
  rw [Lib.add_plain, Nat.zero_add]
  match j with
  | 0 => simp at hj; subst hj; exact c0
  | 1 => simp at hj; subst hj; exact c1
  | j + 2 => simp at hj
 ·intro u hu
  simp only [List.mem_cons, List.not_mem_nil, or_false] at hu
  rcases hu with rfl | rfl <;> rfl
 ·intro g cap w' k1 k2 k3 k4
  refine h g cap w' ?_ (Below.grown (Below.refl _ _) k2 hB (fun q hq => (World.ownsRow.lt hown q hq).1)) k2
  unfold SzV
  rw [szc_snoc, List.length_append]; exact k1
end
theorem fcheck_any {n d : Int} (hn : nd n ≤ 400) (hd : nd d ≤ 400) (h0 : 0 < d) (hg : Nat.gcd n.natAbs d.natAbs = 1) {w : World} (hL : Laid w) :
  Calls Tryz.prog 30 #[.agg #[I n, I d]] w fun e w' => e = .returned (.int .i64 0) ∧ Ext w w' := by
 have h1 := Lib.hid (fun W => wcheck_any hn W)
 have h2 := Lib.hid (fun W => wcheck_any hd W)
 have h3 := Lib.hid (fun W => Sign_any (z := d) W)
 rw [Int.sign_eq_one_of_pos h0] at h3
 have h4 := Lib.hid (fun W (hW : Ext w W) => wGcd_any (a := n) (b := d) (by unfold LIM; omega) (by unfold LIM; omega) (hL.ext hW))
 rw [hg, show I ((1 : Nat) : Int) = .string ⟨#[49]⟩ by unfold I S; rw [show ((1 : Nat) : Int) = 1 from rfl, itoa_one]] at h4
 have hX : Ext w (w.alloc (.cells #[I n, I d] 63)) := (Ext.refl w).alloc _
 have HO := two_alloc w 63 (I n) (I d)
 have c0 : (w.alloc (.cells #[I n, I d] 63)).cell? ⟨w.heap.size, 0, none⟩ = some (I n) := HO.cell (j := 0) (by simp)
 have c1 : (w.alloc (.cells #[I n, I d] 63)).cell? ⟨w.heap.size, 1, none⟩ = some (I d) := HO.cell (j := 1) (by simp)
 clear HO hn hd h0 hg hL
 go_enter Tryz.func30, Tryz.ntmps30
 go_wp2_with fail
 refine (h1.out _).mono ?_
 rintro e w1 ⟨rfl, hE1⟩
 have c0 := hE1.cell c0
 have c1 := hE1.cell c1
 have e1 := hX.trans hE1
 go_wp2_with fail
 refine (h2.out _).mono ?_
 rintro e w2 ⟨rfl, hE2⟩
 have c0 := hE2.cell c0
 have c1 := hE2.cell c1
 have e2 := e1.trans hE2
 go_wp2_with fail
 refine (h3.out _).mono ?_
 rintro e w3 ⟨rfl, hE3⟩
 have c0 := hE3.cell c0
 have c1 := hE3.cell c1
 have e3 := e2.trans hE3
 go_wp2_with fail
 refine (h4.out _ e3).mono ?_
 rintro e w4 ⟨rfl, hE4⟩
 go_wp2_with fail
 go_ret
 exact ⟨rfl, e3.trans hE4⟩
theorem szshort_any {n d : Int} (hn : nd n ≤ 30) (hd : nd d ≤ 30) (h0 : 0 < d) (w : World) :
  Calls Tryz.prog 126 #[.agg #[I n, I d]] w fun e w' => e = .returned (.bool true) ∧ Ext w w' := by
 have h1 := Lib.hid (fun W => Abs_any (z := n) (by unfold LIM; omega) W)
 have l1 : (Lib.itoa (n.natAbs : Int)).length ≤ 30 := by
  rw [itoa_nat, Lib.decDigits_length]; exact hn
 have l2 : (Lib.itoa d).length ≤ 30 := by
  rw [itoa_pos (by omega), Lib.decDigits_length]; exact hd
 have hX : Ext w (w.alloc (.cells #[I n, I d] 63)) := (Ext.refl w).alloc _
 have HO := two_alloc w 63 (I n) (I d)
 have c0 : (w.alloc (.cells #[I n, I d] 63)).cell? ⟨w.heap.size, 0, none⟩ = some (I n) := HO.cell (j := 0) (by simp)
 have c1 : (w.alloc (.cells #[I n, I d] 63)).cell? ⟨w.heap.size, 1, none⟩ = some (I d) := HO.cell (j := 1) (by simp)
 clear HO hn hd h0
 go_enter Tryz.func126, Tryz.ntmps126
 go_wp2_with fail
 refine (h1.out _).mono ?_
 rintro e w1 ⟨rfl, hE1⟩
 have c0 := hE1.cell c0
 have c1 := hE1.cell c1
 have e1 := hX.trans hE1
 unfold I S at c1 ⊢
 generalize Lib.itoa (n.natAbs : Int) = la at *
 generalize Lib.itoa d = lb at *
 have i1 : (la.length : Int) ≤ 30 := by omega
 have i2 : (lb.length : Int) ≤ 30 := by omega
 go_wp2_with fail
 go_ret
 exact ⟨rfl, e1⟩
def ShQ (l : List Rat) : Prop := ∀ r ∈ l, nd r.num ≤ 30 ∧ nd r.den ≤ 30
set_option maxHeartbeats 1000000 in
theorem szcheck_any {w : World} {pa : Option Addr} {np cp : Nat} {v : Value} {l : List Rat} (hs : SzR w v l) (hl : l.length = np) (hb : ShQ l) (h1000 : np ≤ 1000000) (hL : Laid w) :
  Calls Tryz.prog 73 #[.slice pa np cp, v] w fun e w' => e = .returned (.int .i64 0) ∧ Ext w w' := by
 obtain ⟨sa, gb, go, cap, rfl, hc, ha, hr⟩ := hs
 have Hr := Lib.hid hr
 have Ha := Lib.hid ha
 have Hb := Lib.hid hb
 have HL := Lib.hid hL
 have Hl := Lib.hid hl
 rw [hl] at hc ⊢
 clear hr ha hb hL hl
 go_enter Tryz.func73, Tryz.ntmps73
 go_wp2_with fail
 go_loopw [14] (fun i wr => ∃ j : Nat, j ≤ np ∧ i = .int .i64 j ∧ Ext w wr) (fun i _ => np - (intOf i).toNat)
 case atStart => exact ⟨0, Nat.zero_le _, by go_num, Ext.refl _⟩
 case round =>
  obtain ⟨j, hj, rfl, hE⟩ := hrel
  generalize wr = X at *
  by_cases hlt : j < np
  ·have hjl : j < l.length := by rw [Hl.out]; exact hlt
   obtain rfl := Ha.out (by omega)
   obtain ⟨k0, k1⟩ := Hr.out j hjl
   have hbr := Hb.out l[j] (List.getElem_mem hjl)
   have x0 := hE.cell k0
   have x1 := hE.cell k1
   have hpos := qR_pos l[j]
   have hcop := qR_cop l[j]
   simp only [qR] at hpos hcop
   have hck := Lib.hid (fun W (hW : Ext X W) => fcheck_any (n := l[j].num) (d := l[j].den) (by omega) (by omega) hpos hcop (HL.out.ext (hE.trans hW)))
   have hsh := Lib.hid (fun W => szshort_any (n := l[j].num) (d := l[j].den) hbr.1 hbr.2 hpos W)
   have hji : (j : Int) < (np : Int) := by omega
   clear k0 k1 hbr hpos hcop
   generalize l[j].num = n at *
   generalize ((l[j].den : Nat) : Int) = d at *
   clear hjl
   have HO := two_alloc X 63 (I n) (I d)
   have hX : Ext X (X.alloc (.cells #[I n, I d] 63)) := (Ext.refl X).alloc _
   have c0 : (X.alloc (.cells #[I n, I d] 63)).cell? ⟨X.heap.size, 0, none⟩ = some (I n) := HO.cell (j := 0) (by simp)
   have c1 : (X.alloc (.cells #[I n, I d] 63)).cell? ⟨X.heap.size, 1, none⟩ = some (I d) := HO.cell (j := 1) (by simp)
   clear HO
   go_wp2_with fail
   refine (hck.out _ hX).mono ?_
   rintro e w1 ⟨rfl, hE1⟩
   have c0 := hE1.cell c0
   have c1 := hE1.cell c1
   have e1 := hX.trans hE1
   go_wp2_with fail
   refine (hsh.out _).mono ?_
   rintro e w2 ⟨rfl, hE2⟩
   have e2 := hE.trans (e1.trans hE2)
   clear hck hsh c0 c1 x0 x1
   go_wp2_with fail
   go_roundw
   case rel => exact ⟨j + 1, by omega, by go_num, e2⟩
   case measure => simp [intOf] <;> omega
  ·have hje : j = np := by omega
   have hji : ¬ (j : Int) < (np : Int) := by omega
   clear hlt
   go_wp2_with fail
   go_ret
   exact ⟨rfl, hE⟩
def GnR (w : World) (v : Value) (G : List (List Rat)) : Prop := ∃ sa gb go cap vs, v = .slice sa G.length cap ∧ G.length ≤ cap ∧ vs.length = G.length ∧ Sl w sa gb go vs ∧ ∀ i (h : i < G.length) (h' : i < vs.length), SzR w vs[i] G[i]
theorem GnR.ext {w w' : World} {v : Value} {G : List (List Rat)} (h : GnR w v G) (he : Ext w w') : GnR w' v G := by
 obtain ⟨sa, gb, go, cap, vs, e, hc, hl, hs, hr⟩ := h; exact ⟨sa, gb, go, cap, vs, e, hc, hl, hs.ext he, fun i a b => (hr i a b).ext he⟩
set_option maxHeartbeats 1000000 in
theorem szall_any {w : World} {pa : Option Addr} {np cp : Nat} {v : Value} {G : List (List Rat)} (hpc : ∀ W, Ext w W → Calls Tryz.prog 50 #[.slice pa np cp] W fun e w' => e = .returned (.int .i64 0) ∧ Ext W w') (hs : GnR w v G) (hl : ∀ l ∈ G, l.length = np) (hb : ∀ l ∈ G, ShQ l) (h1000 : np ≤ 1000000) (hg : G.length ≤ 1000000) (hL : Laid w) :
  Calls Tryz.prog 85 #[.slice pa np cp, v] w fun e w' => e = .returned (.int .i64 0) ∧ Ext w w' := by
 obtain ⟨sa, gb, go, cap, vs, rfl, hc, hvl, hS, hr⟩ := hs
 have Hr := Lib.hid hr
 have HS := Lib.hid hS
 have Hv := Lib.hid hvl
 have Hb := Lib.hid hb
 have HL := Lib.hid hL
 have Hl := Lib.hid hl
 have Hp := Lib.hid (hpc w (Ext.refl w))
 obtain ⟨n, hn⟩ : ∃ n, n = G.length := ⟨_, rfl⟩
 rw [← hn] at hc hg ⊢
 have Hn := Lib.hid hn
 clear hr hS hvl hb hL hl hn hpc
 go_enter Tryz.func85, Tryz.ntmps85
 go_wp2_with fail
 refine Hp.out.mono ?_
 rintro e w0 ⟨rfl, hE0⟩
 go_wp2_with fail
 go_loopw [16] (fun i wr => ∃ j : Nat, j ≤ n ∧ i = .int .i64 j ∧ Ext w wr) (fun i _ => n - (intOf i).toNat)
 case atStart => exact ⟨0, Nat.zero_le _, by go_num, hE0⟩
 case round =>
  obtain ⟨j, hj, rfl, hE⟩ := hrel
  generalize wr = X at *
  by_cases hlt : j < n
  ·have hjl : j < G.length := by rw [← Hn.out]; exact hlt
   have hjv : j < vs.length := by rw [Hv.out]; exact hjl
   obtain rfl := HS.out.addr (by omega)
   have k0 := HS.out.cell j _ (List.getElem?_eq_getElem hjv)
   have hsz := Hr.out j hjl hjv
   have hck := Lib.hid (fun W (hW : Ext w W) => szcheck_any (pa := pa) (cp := cp) (hsz.ext hW) (Hl.out _ (List.getElem_mem hjl)) (Hb.out _ (List.getElem_mem hjl)) h1000 (HL.out.ext hW))
   obtain ⟨sx, gx, ox, cx, ex, q1, q2, q3⟩ := hsz
   clear q1 q2 q3
   rw [ex] at k0 hck
   have x0 := hE.cell k0
   have hji : (j : Int) < (n : Int) := by omega
   generalize G[j].length = m at *
   clear hjl hjv k0 ex
   go_wp2_with fail
   refine (hck.out _ hE).mono ?_
   rintro e w1 ⟨rfl, hE1⟩
   have e1 := hE.trans hE1
   clear hck x0
   go_wp2_with fail
   go_roundw
   case rel => exact ⟨j + 1, by omega, by go_num, e1⟩
   case measure => simp [intOf] <;> omega
  ·have hje : j = n := by omega
   have hji : ¬ (j : Int) < (n : Int) := by omega
   clear hlt
   go_wp2_with fail
   go_ret
   exact ⟨rfl, hE⟩
def mzS (x : List Int) : Bool := x.all fun z => decide (-1000 ≤ z) && decide (z ≤ 1000)
def mzE (n : Nat) (x : List Int) : Int := if x.length = n then (if mzS x = true then 0 else 4) else 5
theorem mzE_zero {n : Nat} {x : List Int} (h : mzE n x = 0) : x.length = n ∧ ∀ z ∈ x, -1000 ≤ z ∧ z ≤ 1000 := by
 unfold mzE at h
 split at h
 ·rename_i h1
  split at h
  ·rename_i h2
   unfold mzS at h2
   rw [List.all_eq_true] at h2
   exact ⟨h1, fun z hz => by have := h2 z hz; simpa using this⟩
  ·cases h
 ·cases h
set_option maxHeartbeats 4000000 in
theorem mcheckAll1_any {w : World} {vp : Value} {P : List Int} {b : Nat} {vx : Value} {x : List Int} (hP : RowR w vp P) (hp0 : 0 < P.length) (hp4 : P.length ≤ 4) (hpr : ∀ x ∈ P, SmP x) (hinc : ∀ i (h : i + 1 < P.length), P[i]'(by omega) < P[i + 1]) (hb : w.cell? ⟨b, 0, none⟩ = some vx) (hx : RowR w vx x) :
  Calls Tryz.prog 109 #[vp, .slice (some ⟨b, 0, none⟩) 1 1] w fun e w' => e = .returned (.int .i64 (mzE P.length x)) ∧ Ext w w' := by
 have hck := Lib.hid (pCheck_ok hP hp0 (by omega) hpr hinc)
 obtain ⟨sx, gx, ox, cx, rfl, hxc, hSx⟩ := hx
 obtain ⟨sp, gp, op, cp, rfl, hpc, hSp⟩ := hP
 have HSx := Lib.hid hSx
 have hE : mzE P.length x = if x.length = P.length then (if mzS x = true then 0 else 4) else 5 := rfl
 have hS4 := fun j (h : j < x.length) (hz : ¬ (-1000 ≤ x[j] ∧ x[j] ≤ 1000)) => show mzS x = false by
  cases hq : mzS x with
  | false => rfl
  | true =>
   unfold mzS at hq
   rw [List.all_eq_true] at hq
   have := hq x[j] (List.getElem_mem h)
   exact absurd (by simpa using this) hz
 have hS0 := fun (h : ∀ j (h : j < x.length), -1000 ≤ x[j] ∧ x[j] ≤ 1000) => show mzS x = true by
  unfold mzS
  rw [List.all_eq_true]
  intro z hz
  obtain ⟨j, hj, rfl⟩ := List.getElem_of_mem hz
  have := h j hj
  simp [this.1, this.2]
 obtain ⟨n, hn⟩ : ∃ n, n = x.length := ⟨_, rfl⟩
 obtain ⟨q, hq⟩ : ∃ q, q = mzE P.length x := ⟨_, rfl⟩
 rw [← hq] at hE ⊢
 rw [← hn] at hb hE
 clear hSx hSp hpr hinc hp0 hpc hq
 generalize P.length = p at *
 have Hn := Lib.hid hn
 have HE := Lib.hid hE
 have HS4 := Lib.hid hS4
 have HS0 := Lib.hid hS0
 clear hn hE hS4 hS0
 go_enter Tryz.func109, Tryz.ntmps109
 go_wp2_with fail
 refine hck.out.mono ?_
 rintro e X ⟨rfl, hE1⟩
 have yb := hE1.cell hb
 clear hck hb
 by_cases hnp : n = p
 ·subst hnp
  have HE := Lib.hid (show q = if mzS x = true then 0 else 4 by rw [HE.out, if_pos rfl])
  go_wp2_with fail
  go_loopw [4, 17] (fun rv idx wr => ∃ i : Nat, i ≤ 1 ∧ idx = .int .i64 i ∧ rv = .int .i64 0 ∧ Hid (0 < i → q = 0) ∧ Ext X wr) (fun _ idx _ => 1 - (intOf idx).toNat)
  case atStart => exact ⟨0, by omega, by go_num, rfl, Lib.hid (fun h => by omega), Ext.refl _⟩
  case round =>
   obtain ⟨i, hi, rfl, rfl, H0, hE⟩ := hrel
   generalize wr = Y at *
   have yb1 := hE.cell yb
   rcases (show i = 0 ∨ i = 1 by omega) with rfl | rfl
   ·go_wp2_with fail
    go_loopw [4, 28] (fun rv idx wr => ∃ j : Nat, j ≤ n ∧ idx = .int .i64 j ∧ rv = .int .i64 0 ∧ Hid (∀ t (h : t < x.length), t < j → -1000 ≤ x[t] ∧ x[t] ≤ 1000) ∧ Ext Y wr) (fun _ idx _ => n - (intOf idx).toNat)
    case atStart => exact ⟨0, by omega, by go_num, rfl, Lib.hid (fun t _ h => by omega), Ext.refl _⟩
    case round =>
     obtain ⟨j, hj, rfl, rfl, HA, hE2⟩ := hrel
     generalize wr = Z at *
     by_cases hjl : j < n
     ·have hji : (j : Int) < (n : Int) := by omega
      have hjx : j < x.length := by rw [← Hn.out]; exact hjl
      have Hbad := Lib.hid (fun h => show q = 4 by rw [HE.out, HS4.out j hjx h]; rfl)
      have Hok := Lib.hid (fun (h : -1000 ≤ x[j] ∧ x[j] ≤ 1000) t (ht : t < x.length) (htj : t < j + 1) => show -1000 ≤ x[t] ∧ x[t] ≤ 1000 by
       by_cases e : t = j
       ·subst e; exact h
       ·exact HA.out t ht (by omega))
      obtain ⟨z, hz⟩ : ∃ z, z = x[j] := ⟨_, rfl⟩
      have hcz := ((hE1.trans hE).trans hE2).cell (HSx.out.cell j (.int .i64 z) (by rw [hz]; exact is_get hjx))
      obtain rfl := HSx.out.addr (by simp; omega)
      rw [← hz] at Hbad Hok
      have eF := (hE1.trans hE).trans hE2
      clear hz HA
      by_cases hz1 : (1000 : Int) < z
      ·have H4 := Lib.hid (Hbad.out (by omega))
       clear Hbad Hok
       go_wp2_with fail
       go_ret
       exact ⟨ret_val (congrArg (Value.int .i64) H4.out.symm), eF⟩
      ·by_cases hz2 : z < (-1000 : Int)
       ·have H4 := Lib.hid (Hbad.out (by omega))
        clear Hbad Hok
        go_wp2_with fail
        go_ret
        exact ⟨ret_val (congrArg (Value.int .i64) H4.out.symm), eF⟩
       ·have HA := Lib.hid (Hok.out (by omega))
        clear Hbad Hok
        go_wp2_with fail
        go_roundw
        case rel => exact ⟨j + 1, by omega, by go_num, rfl, HA, hE2⟩
        case measure => simp [intOf] <;> omega
     ·obtain rfl : j = n := by omega
      have H0 := Lib.hid (show q = 0 by rw [HE.out, HS0.out (fun t ht => HA.out t ht (by rw [Hn.out]; exact ht))]; rfl)
      clear HA
      go_wp2_with fail
      go_roundw
      case rel => exact ⟨1, by omega, by go_num, rfl, Lib.hid (fun _ => H0.out), hE.trans hE2⟩
      case measure => simp [intOf] <;> omega
   ·have H0 := Lib.hid (H0.out (by omega))
    go_wp2_with fail
    go_ret
    exact ⟨ret_val (congrArg (Value.int .i64) H0.out.symm), hE1.trans hE⟩
 ·have HE := Lib.hid (show q = 5 by rw [HE.out, if_neg hnp])
  have hn1 : ¬ (n : Int) = (p : Int) := by omega
  have hn2 : ((n : Int) == (p : Int)) = false := beq_eq_false_iff_ne.2 hn1
  have hn3 : ((n : Int) != (p : Int)) = true := by simp [bne, hn2]
  go_wp2_with fail
  go_loopw [4, 17] (fun rv idx wr => idx = .int .i64 0 ∧ rv = .int .i64 0 ∧ X = wr) (fun _ _ _ => 0)
  case atStart => exact ⟨by go_num, rfl, rfl⟩
  case round =>
   obtain ⟨rfl, rfl, hwr⟩ := hrel
   subst hwr
   go_wp2_with fail
   go_ret
   exact ⟨ret_val (congrArg (Value.int .i64) HE.out.symm), hE1⟩
theorem mcheck_any {w : World} {vp : Value} {P : List Int} {sx : Option Addr} {n cx : Nat} {x : List Int} (hP : RowR w vp P) (hp0 : 0 < P.length) (hp4 : P.length ≤ 4) (hpr : ∀ x ∈ P, SmP x) (hinc : ∀ i (h : i + 1 < P.length), P[i]'(by omega) < P[i + 1]) (hx : RowR w (.slice sx n cx) x) :
  Calls Tryz.prog 111 #[vp, .slice sx n cx] w fun e w' => e = .returned (.int .i64 (mzE P.length x)) ∧ Ext w w' := by
 have hX := (Ext.refl w).alloc (.cells #[.slice sx n cx] 46)
 have xb : (w.alloc (.cells #[.slice sx n cx] 46)).cell? ⟨w.heap.size, 0, none⟩ = some (.slice sx n cx) := by go_simp
 have hck := Lib.hid (mcheckAll1_any (hP.ext hX) hp0 hp4 hpr hinc xb (hx.ext hX))
 obtain ⟨sp, gp, op, cp, rfl, hpc, hSp⟩ := hP
 generalize mzE P.length x = q at *
 clear hSp hx hpr hinc hpc
 go_enter Tryz.func111, Tryz.ntmps111
 go_wp2_with fail
 refine hck.out.mono ?_
 rintro e X ⟨rfl, hE1⟩
 go_wp2_with fail
 go_ret
 exact ⟨rfl, hX.trans hE1⟩
structure TuV (w : World) (P : List Int) (C M : Mx) (G : List (List Rat)) (sp : Option Addr) (cp : Nat) (sc : Option Addr) (lc cc : Nat) (sm : Option Addr) (lm cm : Nat) (sg : Option Addr) (lg cg : Nat) : Prop where
 tm : TmV w P C M M sp cp sc lc cc sm lm cm
 gn : GnR w (.slice sg lg cg) G
 ln : G.length = M.length
 cl : ∀ l ∈ G, l.length = P.length
 sh : ∀ l ∈ G, ShQ l
abbrev tuS (P : List Int) (sp : Option Addr) (cp : Nat) (sc : Option Addr) (lc cc : Nat) (sm : Option Addr) (lm cm : Nat) (sg : Option Addr) (lg cg : Nat) : Value := .agg #[.slice sp P.length cp, .slice sc lc cc, .slice sm lm cm, .slice sg lg cg]
theorem TuV.ext {w : World} {P : List Int} {C M : Mx} {G : List (List Rat)} {sp : Option Addr} {cp : Nat} {sc : Option Addr} {lc cc : Nat} {sm : Option Addr} {lm cm : Nat} {sg : Option Addr} {lg cg : Nat} {w' : World} (h : TuV w P C M G sp cp sc lc cc sm lm cm sg lg cg) (he : Ext w w') : TuV w' P C M G sp cp sc lc cc sm lm cm sg lg cg := ⟨h.tm.ext he, h.gn.ext he, h.ln, h.cl, h.sh⟩
def TuR (w : World) (t : Value) (P : List Int) (C M : Mx) (G : List (List Rat)) : Prop := ∃ sp cp sc lc cc sm lm cm sg lg cg, t = tuS P sp cp sc lc cc sm lm cm sg lg cg ∧ TuV w P C M G sp cp sc lc cc sm lm cm sg lg cg
theorem TuR.ext {w w' : World} {t : Value} {P : List Int} {C M : Mx} {G : List (List Rat)} (h : TuR w t P C M G) (he : Ext w w') : TuR w' t P C M G := by
 obtain ⟨sp, cp, sc, lc, cc, sm, lm, cm, sg, lg, cg, e, h⟩ := h
 exact ⟨sp, cp, sc, lc, cc, sm, lm, cm, sg, lg, cg, e, h.ext he⟩
theorem MatR.len {w : World} {s : Option Addr} {l c : Nat} {M : Mx} (h : MatR w (.slice s l c) M) : l = M.length := by
 obtain ⟨sa, gb, go, cap, vs, e, _⟩ := h
 injection e with e1 e2 e3
theorem GnR.len {w : World} {s : Option Addr} {l c : Nat} {G : List (List Rat)} (h : GnR w (.slice s l c) G) : l = G.length := by
 obtain ⟨sa, gb, go, cap, vs, e, _⟩ := h
 injection e with e1 e2 e3
theorem TuV.lgl {w : World} {P : List Int} {C M : Mx} {G : List (List Rat)} {sp : Option Addr} {cp : Nat} {sc : Option Addr} {lc cc : Nat} {sm : Option Addr} {lm cm : Nat} {sg : Option Addr} {lg cg : Nat} (h : TuV w P C M G sp cp sc lc cc sm lm cm sg lg cg) : lg = lm := by
 rw [h.gn.len, h.tm.hM.len, h.ln]
theorem TmV.m4 {w : World} {P : List Int} {C M M' : Mx} {sp : Option Addr} {cp : Nat} {sc : Option Addr} {lc cc : Nat} {sm : Option Addr} {lm cm : Nat} (h : TmV w P C M M' sp cp sc lc cc sm lm cm) : M.length ≤ 4 := by
 obtain ⟨psM, hIM⟩ := h.ok.kM.1
 have := isH_len hIM
 have := h.ok.p4
 omega
theorem TmV.pchk {w : World} {P : List Int} {C M M' : Mx} {sp : Option Addr} {cp : Nat} {sc : Option Addr} {lc cc : Nat} {sm : Option Addr} {lm cm : Nat} (h : TmV w P C M M' sp cp sc lc cc sm lm cm) : ∀ W, Ext w W → Calls Tryz.prog 50 #[.slice sp P.length cp] W fun e w' => e = .returned (.int .i64 0) ∧ Ext W w' :=
 fun _ hW => pCheck_ok (h.hP.ext hW) h.ok.p0 (by have := h.ok.p4; omega) h.ok.pr h.ok.inc
theorem TmV.mchk {w : World} {P : List Int} {C M M' : Mx} {sp : Option Addr} {cp : Nat} {sc : Option Addr} {lc cc : Nat} {sm : Option Addr} {lm cm : Nat} {sx : Option Addr} {n cx : Nat} {x : List Int} (h : TmV w P C M M' sp cp sc lc cc sm lm cm) (hx : RowR w (.slice sx n cx) x) : ∀ W, Ext w W → Calls Tryz.prog 111 #[.slice sp P.length cp, .slice sx n cx] W fun e w' => e = .returned (.int .i64 (mzE P.length x)) ∧ Ext W w' :=
 fun _ hW => mcheck_any (h.hP.ext hW) h.ok.p0 h.ok.p4 h.ok.pr h.ok.inc (hx.ext hW)
set_option maxHeartbeats 2000000 in
theorem tuCheck_any {w : World} {P : List Int} {C M : Mx} {G : List (List Rat)} {sp : Option Addr} {cp : Nat} {sc : Option Addr} {lc cc : Nat} {sm : Option Addr} {lm cm : Nat} {sg : Option Addr} {lg cg : Nat} (h : TuV w P C M G sp cp sc lc cc sm lm cm sg lg cg) (hL : Laid w) :
  Calls Tryz.prog 36 #[tuS P sp cp sc lc cc sm lm cm sg lg cg] w fun e w' => e = .returned (.int .i64 0) ∧ Ext w w' := by
 have hlg := h.lgl
 obtain ⟨hT, hG, hln, hcl, hsh⟩ := h
 have hm4 := hT.m4
 have hp4 := hT.ok.p4
 have hck := Lib.hid (fun W (hW : Ext w W) => tCheck_any (hT.ext hW) (hL.ext hW))
 rw [tmE_same] at hck
 have hpc := hT.pchk
 have hal := Lib.hid (fun W (hW : Ext w W) => szall_any (pa := sp) (cp := cp) (fun W2 h2 => hpc W2 (hW.trans h2)) (hG.ext hW) hcl hsh (by omega) (by omega) (hL.ext hW))
 have hX := (Ext.refl w).alloc (.cells #[.slice sp P.length cp, .slice sc lc cc, .slice sm lm cm, .slice sg lg cg] 44)
 have x0 : (w.alloc (.cells #[.slice sp P.length cp, .slice sc lc cc, .slice sm lm cm, .slice sg lg cg] 44)).cell? ⟨w.heap.size, 0, none⟩ = some (.slice sp P.length cp) := by go_simp
 have x1 : (w.alloc (.cells #[.slice sp P.length cp, .slice sc lc cc, .slice sm lm cm, .slice sg lg cg] 44)).cell? ⟨w.heap.size, 1, none⟩ = some (.slice sc lc cc) := by go_simp
 have x2 : (w.alloc (.cells #[.slice sp P.length cp, .slice sc lc cc, .slice sm lm cm, .slice sg lg cg] 44)).cell? ⟨w.heap.size, 2, none⟩ = some (.slice sm lm cm) := by go_simp
 have x3 : (w.alloc (.cells #[.slice sp P.length cp, .slice sc lc cc, .slice sm lm cm, .slice sg lg cg] 44)).cell? ⟨w.heap.size, 3, none⟩ = some (.slice sg lg cg) := by go_simp
 subst hlg
 clear hT hG hln hcl hsh hm4 hp4 hpc hL
 go_enter Tryz.func36, Tryz.ntmps36
 go_wp2_with fail
 refine (hck.out _ hX).mono ?_
 rintro e X ⟨rfl, hE1⟩
 have y0 := hE1.cell x0
 have y2 := hE1.cell x2
 have y3 := hE1.cell x3
 have e1 := hX.trans hE1
 clear hck x0 x1 x2 x3 hX hE1
 go_wp2_with fail
 refine (hal.out _ e1).mono ?_
 rintro e Y ⟨rfl, hE2⟩
 go_wp2_with fail
 go_ret
 exact ⟨rfl, e1.trans hE2⟩
end Go.Proofs.YtedlgnoiojcjaaaGreatDoor
namespace Go.Proofs.YtedlgnoiojcjaaaGreatDoor
theorem run_copy_rowK {P : Program} (w : World) (dT sT ty elem : TypeId) (g o dLen dCap K m : Nat) (a : Addr) (sLen sCap : Nat) (cur : Array Value) (t : TypeId) (cs : List Value)
  (hu : P.underlying dT = some (.slice elem)) (hs : (P.info? elem).map (·.size) = some K)
  (hg : w.heap[g]? = some (.cells cur t (0, 0))) (hm : m = Nat.min sLen dLen) (hn : cs.length = m * K)
  (hsrc : ∀ j v, cs[j]? = some v → w.cell? (a.add j) = some v) (hfit : o + cs.length ≤ cur.size) (h1 : ∀ v ∈ cs, v.oneCell' = true) :
  (Builtin.copy_ #[dT, sT] ty #[.slice (some ⟨g, o, none⟩) dLen dCap, .slice (some a) sLen sCap]).run P w =
   .ok (goInt m) (w.setRow g (cur.toList.take o ++ cs ++ cur.toList.drop (o + cs.length)).toArray) := by
 have hl := run_loadCells_list (P := P) w a cs hsrc
 have hst := run_storeCells_at P g o t cs 0 cur w hg (by simpa using hfit) h1
 cases hq : P.info? elem with
 | none => simp [hq] at hs
 | some i =>
  have hi : i.size = K := by simpa [hq] using hs
  simp [Builtin.copy_, run_underlying hu, Builtin.lenOf, Builtin.firstCells, sizeOf, typeInfo, hq, hi, ← hm, ← hn, hl, hst]
end Go.Proofs.YtedlgnoiojcjaaaGreatDoor
namespace Go.Proofs.YtedlgnoiojcjaaaGreatDoor
open Go.RowKit Go.Sort
def fillQ (r : Rat) (n m : Nat) : List Value := szc (List.replicate n r) ++ List.replicate (2 * (m - n)) (.string ⟨#[]⟩)
theorem szc_append (a b : List Rat) : szc (a ++ b) = szc a ++ szc b := by unfold szc; rw [List.map_append, fl_append]
theorem fillQ_length (r : Rat) {n m : Nat} (h : n ≤ m) : (fillQ r n m).length = 2 * m := by unfold fillQ; rw [List.length_append, szc_length, List.length_replicate, List.length_replicate]; omega
theorem fillQ_all (r : Rat) (m : Nat) : fillQ r m m = szc (List.replicate m r) := by unfold fillQ; simp
theorem fillQ_get (r : Rat) {n m k j : Nat} (hk : k ≤ n) (h : j < 2 * k) : (fillQ r n m)[j]? = (szc (List.replicate k r))[j]? := by
 unfold fillQ
 rw [List.getElem?_append_left (by rw [szc_length, List.length_replicate]; omega), show List.replicate n r = List.replicate k r ++ List.replicate (n - k) r by rw [List.replicate_append_replicate]; congr 1; omega, szc_append, List.getElem?_append_left (by rw [szc_length, List.length_replicate]; omega)]
theorem fillQ_splice (r : Rat) {n m k : Nat} (h : n + k ≤ m) : (fillQ r n m).take (n * 2) ++ szc (List.replicate k r) ++ (fillQ r n m).drop (n * 2 + (szc (List.replicate k r)).length) = fillQ r (n + k) m := by
 unfold fillQ
 rw [List.take_left' (by rw [szc_length, List.length_replicate]; omega), szc_length, List.length_replicate, ← szc_append, List.replicate_append_replicate, List.drop_append, List.drop_of_length_le (by rw [szc_length, List.length_replicate]; omega), List.nil_append, szc_length, List.length_replicate, List.drop_replicate]
 congr 2
 omega
theorem szc_one {u : Value} {l : List Rat} (hu : u ∈ szc l) : u.oneCell' = true := by
 unfold szc fl at hu
 simp only [List.mem_flatMap, List.mem_map] at hu
 obtain ⟨p, ⟨x, hx, rfl⟩, hp⟩ := hu
 simp only [List.mem_cons, List.not_mem_nil, or_false] at hp
 rcases hp with rfl | rfl <;> rfl
set_option maxHeartbeats 1000000 in
theorem repeatQ_any {m : Nat} (hm : m ≤ 1000000) {b o c : Nat} {r : Rat} {w : World} (hc0 : w.cell? ⟨b, o, none⟩ = some (I r.num)) (hc1 : w.cell? ⟨b, o + 1, none⟩ = some (I r.den)) :
    Calls Tryz.prog 122 #[.slice (some ⟨b, o, none⟩) 1 c, .int .i64 m] w fun e w' => ∃ g, e = .returned (slv g m m) ∧ w.heap.size ≤ g ∧ OwnV 63 w.heap.size w' g (2 * m) (szc (List.replicate m r)) ∧ Ext w w' := by
  obtain ⟨i0, hi, hz0, hz1, hz2⟩ := info_parts Tryz.infoRat
  have hmul := Lib.hid (Tryz.bits_Mul 1 m (by omega) (by omega))
  rw [Nat.one_mul, Nat.div_eq_of_lt (by omega), Nat.mod_eq_of_lt (by omega)] at hmul
  go_enter Tryz.func122, Tryz.ntmps122
  go_wp2_with (first
    | (go_at_call 180; refine (hmul.out _).mono ?_; rintro e w1 ⟨rfl, hw⟩; have hw' := hw.symm; clear hw; subst hw')
    | (at_make; refine wpList_make_full _ rfl _ _ 52 rfl w.heap.size 63 i0 (.agg #[.string ⟨#[]⟩, .string ⟨#[]⟩]) 2 Tryz.underlying52 hi hz0 hz1 .i64 .i64 _ _ m rfl rfl (by omega) (by omega) (by rw [hz2]; omega) (by unfold maxLen; omega) (Nat.le_refl _) ?_; intro w1 hown1 hgrow1))
  have he1 := ext_grown hgrow1
  have hfr := frv_made hown1 hm
  have hb1 : w1.heap[w.heap.size]? = some (.cells (fillQ r 0 m).toArray 63 (0, 0)) := by
    have hO : OwnV 63 w.heap.size w1 w.heap.size (2 * m) (fillQ r 0 m) := by
      have h := hfr
      unfold FrV at h
      rw [fl_rep, List.length_replicate, Nat.mul_comm m 2] at h
      have e : fillQ r 0 m = List.replicate (2 * m) (.string ⟨#[]⟩) := by unfold fillQ szc fl; simp
      rw [e]; exact h
    obtain ⟨cur, _, h2, h3, _, h5, h6⟩ := hO.parts
    rw [fillQ_length r (Nat.zero_le m)] at h6
    have : cur = (fillQ r 0 m).toArray := by
      apply Array.ext'
      rw [← h6, List.take_of_length_le (by rw [Array.length_toList, h5]; exact Nat.le_refl _)]
    rw [this] at h2; exact h2
  have hc0' := he1.cell hc0
  have hc1' := he1.cell hc1
  have hlb := World.block_lt_of_cell? _ _ hc0
  have Hb1 := Lib.hid hb1
  have Hfl := Lib.hid (fun n (h : n ≤ m) => fillQ_length r h)
  clear hgrow1 hown1 hb1 hfr
  obtain ⟨g, hg⟩ : ∃ g, g = w.heap.size := ⟨_, rfl⟩
  have Hg := Lib.hid hg
  rw [← hg] at Hb1 hlb ⊢
  clear hg
  have hinfo : (Tryz.prog.info? 63).map (·.size) = some 2 := by rw [hi]; simp [hz1]
  have Hinfo := Lib.hid hinfo
  clear hinfo
  have hrun := run_copy_rowK (P := Tryz.prog) w1 52 52 3 63 g 0 m m 2 (min 1 m) ⟨b, o, none⟩ 1 c (fillQ r 0 m).toArray 63 (szc (List.replicate (min 1 m) r)) Tryz.underlying52 Hinfo.out Hb1.out rfl (by rw [szc_length, List.length_replicate]; omega)
    (fun j v hj => by
      have hj0 : j < 2 * min 1 m := by have := (List.getElem?_eq_some_iff.1 hj).1; rwa [szc_length, List.length_replicate] at this
      have hm1 : min 1 m = 1 := by omega
      rw [hm1] at hj
      rw [Lib.add_plain]
      rcases (show j = 0 ∨ j = 1 by omega) with rfl | rfl
      · have : v = I r.num := by
          have h : (szc (List.replicate 1 r))[0]? = some (I r.num) := rfl
          rw [h] at hj; exact (Option.some.inj hj).symm
        rw [this]; exact hc0'
      · have : v = I r.den := by
          have h : (szc (List.replicate 1 r))[1]? = some (I r.den) := rfl
          rw [h] at hj; exact (Option.some.inj hj).symm
        rw [this]; exact hc1') (by simp only [List.size_toArray, Hfl.out 0 (Nat.zero_le m), szc_length, List.length_replicate]; omega) (fun v hv => szc_one hv)
  have hsp := fillQ_splice r (n := 0) (m := m) (k := min 1 m) (by omega)
  rw [Nat.zero_mul] at hsp
  rw [show ((fillQ r 0 m).toArray.toList.take 0 ++ szc (List.replicate (min 1 m) r) ++ (fillQ r 0 m).toArray.toList.drop (0 + (szc (List.replicate (min 1 m) r)).length)) = fillQ r (0 + min 1 m) m from hsp, Nat.zero_add] at hrun
  have Hrun := Lib.hid hrun
  clear hrun hsp
  go_wp2_with fail
  rw [Hrun.out]
  have he2 : Ext w (w1.setRow g (fillQ r (min 1 m) m).toArray) := below_setRow he1 (by rw [Hg.out]; exact Nat.le_refl _) _
  have hb2 : (w1.setRow g (fillQ r (min 1 m) m).toArray).heap[g]? = some (.cells (fillQ r (min 1 m) m).toArray 63 (0, 0)) := setRow_heap w1 g _ _ 63 _ Hb1.out
  have Hb2 := Lib.hid hb2
  clear Hrun Hb1 hb2
  generalize w1.setRow g (fillQ r (min 1 m) m).toArray = w2 at *
  obtain ⟨q, hq⟩ : ∃ q, q = min 1 m := ⟨_, rfl⟩
  have Hq := Lib.hid hq
  rw [← hq] at Hb2 ⊢
  have hqm : q ≤ m := by omega
  have hq1 : 0 < m → 0 < q := fun h => by omega
  have Hq1 := Lib.hid hq1
  clear hq hq1
  go_wp2_with fail
  go_loopw [8] (fun nn wr => ∃ n : Nat, n ≤ m ∧ nn = .int .i64 n ∧ Hid (0 < m → 0 < n) ∧ Hid (wr.heap[g]? = some (.cells (fillQ r n m).toArray 63 (0, 0))) ∧ Ext w wr) (fun nn _ => m - (intOf nn).toNat)
  case atStart => exact ⟨q, hqm, by go_num, Hq1, Hb2, he2⟩
  case round =>
    obtain ⟨n, hn, rfl, Hn, Hb, hE⟩ := hrel
    generalize wr = X at *
    by_cases hlt : n < m
    · have hni : (n : Int) < (m : Int) := by omega
      have hn0 : 0 < n := Hn.out (by omega)
      obtain ⟨k, hk⟩ : ∃ k, k = min n (m - n) := ⟨_, rfl⟩
      have hk0 : 0 < k := by omega
      have hkm : n + k ≤ m := by omega
      have Hk := Lib.hid hk
      have Hsp := Lib.hid (fillQ_splice r hkm)
      clear hk
      have hmn : ¬ m = n := by omega
      have Hb5 := Lib.hid (show X.drew.heap[g]? = some (.cells (fillQ r n m).toArray 63 (0, 0)) from Hb.out)
      have hE6 := hE.drew
      have hrun := run_copy_rowK (P := Tryz.prog) X.drew 52 52 3 63 g (n * 2) (m - n) (m - n) 2 k ⟨g, 0, none⟩ n m (fillQ r n m).toArray 63 (szc (List.replicate k r)) Tryz.underlying52 Hinfo.out Hb5.out Hk.out (by rw [szc_length, List.length_replicate]; omega)
        (fun j v hj => by
          have hj0 : j < 2 * k := by have := (List.getElem?_eq_some_iff.1 hj).1; rwa [szc_length, List.length_replicate] at this
          have hkn : k ≤ n := by have := Hk.out; omega
          rw [← fillQ_get r (m := m) hkn hj0] at hj
          simp only [Addr.add_lit, Nat.zero_add, World.cell?, Hb5.out]
          simpa using hj) (by simp only [List.size_toArray, Hfl.out n hn, szc_length, List.length_replicate]; omega) (fun v hv => szc_one hv)
      have hsp := Hsp.out
      rw [show ((fillQ r n m).toArray.toList.take (n * 2) ++ szc (List.replicate k r) ++ (fillQ r n m).toArray.toList.drop (n * 2 + (szc (List.replicate k r)).length)) = fillQ r (n + k) m from hsp] at hrun
      have hE7 : Ext w (X.drew.setRow g (fillQ r (n + k) m).toArray) := below_setRow hE6 (by rw [Hg.out]; exact Nat.le_refl _) _
      have Hb7 := Lib.hid (setRow_heap X.drew g _ (fillQ r (n + k) m).toArray 63 _ Hb5.out)
      obtain ⟨Y, hY⟩ : ∃ Y, Y = X.drew.setRow g (fillQ r (n + k) m).toArray := ⟨_, rfl⟩
      rw [← hY] at hrun hE7 Hb7
      clear hsp hY hE6 Hb5
      go_wp2_with fail
      go_region
      clear hrun
      go_wp2_with fail
      go_roundw
      case rel => exact ⟨n + k, hkm, by go_num, Lib.hid (fun _ => by omega), Hb7, hE7⟩
      case measure => simp [intOf] <;> omega
    · have hnm : n = m := by omega
      subst hnm
      go_wp2_with fail
      go_ret
      refine ⟨g, rfl, by rw [Hg.out]; exact Nat.le_refl _, ?_, hE⟩
      refine OwnV.of (by rw [Hg.out]; exact Nat.le_refl _) Hb.out (by rw [szc_length, List.length_replicate]; exact Nat.le_refl _) (by unfold maxLen; omega) (by simp [Hfl.out n hn]) ?_
      rw [fillQ_all]; exact List.take_of_length_le (by simp)
abbrev RV (r : Rat) : Value := .agg #[I r.num, I r.den]
def SmQ (r : Rat) : Prop := nd r.num ≤ 100000000 ∧ nd r.den ≤ 100000000
theorem qR_eq {n d : Int} {r : Rat} (h : qmk n d = qR r) : qn n d = r.num ∧ qd n d = r.den := by
 unfold qmk qR at h
 injection h with h1 h2
 exact ⟨h1, h2⟩
theorem den_pos' (r : Rat) : (0 : Int) < (r.den : Int) := by have := r.den_pos; omega
theorem ratOf_any {n d : Int} (hn : -9223372036854775808 ≤ n ∧ n ≤ 9223372036854775807) (hd : -9223372036854775808 ≤ d ∧ d ≤ 9223372036854775807) (h0 : d ≠ 0) {w : World} (hL : Laid w) :
  Calls Tryz.prog 76 #[.int .i64 n, .int .i64 d] w fun e w' => e = .returned (.tuple #[RV ((n : Rat) / (d : Rat)), .int .i64 0]) ∧ Ext w w' := by
 have h := fOf_any hn hd h0 hL
 obtain ⟨e1, e2⟩ := qR_eq (qmk_R (n := n) h0)
 rw [e1, e2] at h
 exact h
theorem ratMul_any {a b : Rat} (ha : SmQ a) (hb : SmQ b) {w : World} (hL : Laid w) :
  Calls Tryz.prog 75 #[RV a, RV b] w fun e w' => e = .returned (RV (a * b)) ∧ Ext w w' := by
 have h := fMul_any ha.1 ha.2 hb.1 hb.2 (den_pos' a) (den_pos' b) hL
 obtain ⟨e1, e2⟩ := qR_eq (qmul_R a b)
 simp only [qR] at e1 e2
 rw [e1, e2] at h
 exact h
theorem ratAdd_any {a b : Rat} (ha : SmQ a) (hb : SmQ b) {w : World} (hL : Laid w) :
  Calls Tryz.prog 74 #[RV a, RV b] w fun e w' => e = .returned (RV (a + b)) ∧ Ext w w' := by
 have h := fAdd_any ha.1 ha.2 hb.1 hb.2 (den_pos' a) (den_pos' b) hL
 obtain ⟨e1, e2⟩ := qR_eq (qadd_R a b)
 simp only [qR] at e1 e2
 rw [e1, e2] at h
 exact h
theorem ratSub_any {a b : Rat} (ha : SmQ a) (hb : SmQ b) {w : World} (hL : Laid w) :
  Calls Tryz.prog 33 #[RV a, RV b] w fun e w' => e = .returned (RV (a - b)) ∧ Ext w w' := by
 have h := fSub_any ha.1 ha.2 hb.1 hb.2 (den_pos' a) (den_pos' b) hL
 have hq := qadd_R a (-b)
 rw [show a + -b = a - b by grind] at hq
 obtain ⟨e1, e2⟩ := qR_eq hq
 simp only [qR, Rat.neg_num, Rat.neg_den] at e1 e2
 rw [Int.neg_mul, ← Int.sub_eq_add_neg] at e1 e2
 rw [e1, e2] at h
 exact h
theorem Tw.sm {B : Nat} {r : Rat} (h : Tw B r) (hB : B < 10 ^ 30) : nd r.num ≤ 30 ∧ nd r.den ≤ 30 := by
 obtain ⟨h1, h2⟩ := h.num
 refine ⟨nDigits_le (u := r.num.natAbs) (k := 30) (by omega) (by omega), nDigits_le (u := ((r.den : Int)).natAbs) (k := 30) (by omega) ?_⟩
 have : (10 : Nat) ^ 30 = 1000000000000000000000000000000 := by decide
 omega
theorem Tw.smQ {B : Nat} {r : Rat} (h : Tw B r) (hB : B < 10 ^ 30) : SmQ r := by
 have := h.sm hB
 exact ⟨by omega, by omega⟩
end Go.Proofs.YtedlgnoiojcjaaaGreatDoor
