/- Part 1, beside the shared parts, of the proof of the claim: contracts and plain laws; no condition. -/
import Derived.Test.YtedlgnoiojcjaaaGreatDoorV01
import Derived.Test.YtedlgnoiojcjaaaGreatDoorV02
import Derived.Test.YtedlgnoiojcjaaaGreatDoorV03
import Derived.Test.YtedlgnoiojcjaaaGreatDoorV04
import Derived.Test.YtedlgnoiojcjaaaGreatDoorV05
import Derived.Test.YtedlgnoiojcjaaaGreatDoorV06
import Derived.Test.YtedlgnoiojcjaaaGreatDoorV07
import Derived.Test.YtedlgnoiojcjaaaGreatDoorV08
import Derived.Test.YtedlgnoiojcjaaaGreatDoorV09
import Derived.Test.YtedlgnoiojcjaaaGreatDoorV10
import Derived.Test.YtedlgnoiojcjaaaGreatDoorV11
import Derived.Test.YtedlgnoiojcjaaaGreatDoorV12
import Derived.Test.YtedlgnoiojcjaaaGreatDoorV13
import Derived.Test.YtedlgnoiojcjaaaGreatDoorV14
import Derived.Test.YtedlgnoiojcjaaaGreatDoorV15
import Derived.Test.YtedlgnoiojcjaaaGreatDoorV16
import Derived.Test.YtedlgnoiojcjaaaGreatDoorV17
import Derived.Test.YtedlgnoiojcjaaaGreatDoorV18
import Derived.Test.YtedlgnoiojcjaaaGreatDoorV19
import Derived.Test.YtedlgnoiojcjaaaGreatDoorV20
import Derived.Test.YtedlgnoiojcjaaaGreatDoorV21
import Derived.Test.YtedlgnoiojcjaaaGreatDoorV22
import Derived.Test.YtedlgnoiojcjaaaGreatDoorV23
import Derived.Test.YtedlgnoiojcjaaaGreatDoorV24
import Derived.Test.YtedlgnoiojcjaaaGreatDoorV25
import Derived.Test.YtedlgnoiojcjaaaGreatDoorV26
import Derived.Test.YtedlgnoiojcjaaaGreatDoorV27
import Derived.Test.YtedlgnoiojcjaaaGreatDoorV28
import Derived.Test.YtedlgnoiojcjaaaGreatDoorV29
import Derived.Test.YtedlgnoiojcjaaaGreatDoorV30
import Derived.Test.YtedlgnoiojcjaaaGreatDoorV31
import Derived.Test.YtedlgnoiojcjaaaGreatDoorV32
set_option maxRecDepth 100000
namespace Go.Proofs.YtedlgnoiojcjaaaGreatDoor
open Go.RowKit Go.Sort
def szT1 (p : List UInt8 × List UInt8) : Int := if frE p.1 p.2 = 0 then (if shB (ivB p.1) (ivB p.2) then 0 else 4) else 2
def szTE : List (List UInt8 × List UInt8) → Int
 | [] => 0
 | p :: l => if szT1 p = 0 then szTE l else szT1 p
def szEA (np : Nat) (L : List (List UInt8 × List UInt8)) : Int := if L.length = np then szTE L else 5
def txQ (q : List Rat) : List (List UInt8 × List UInt8) := q.map fun r => (Lib.itoa r.num, Lib.itoa r.den)
theorem szT1_zero {p : List UInt8 × List UInt8} (h : szT1 p = 0) : ∃ r : Rat, p = (Lib.itoa r.num, Lib.itoa r.den) ∧ nd r.num ≤ 30 ∧ nd r.den ≤ 30 := by
 unfold szT1 at h
 split at h
 ·rename_i h1
  obtain ⟨n, d, hf⟩ := frE_zero h1
  obtain ⟨r, rfl, rfl⟩ := frOK_rat hf
  obtain ⟨e1, e2, _⟩ := hf
  rw [e1, e2, ivB_itoa, ivB_itoa] at h
  split at h
  ·rename_i h2
   unfold shB at h2
   simp only [Bool.and_eq_true, decide_eq_true_eq] at h2
   exact ⟨r, Prod.ext e1 e2, h2.1, h2.2⟩
  ·cases h
 ·cases h
theorem szTE_zero : ∀ {L : List (List UInt8 × List UInt8)}, szTE L = 0 → ∃ q, L = txQ q ∧ ShQ q
 | [], _ => ⟨[], rfl, fun r h => by simp at h⟩
 | p :: L, h => by
  unfold szTE at h
  split at h
  ·rename_i h1
   obtain ⟨q, e, hq⟩ := szTE_zero h
   obtain ⟨r, rfl, hn, hd⟩ := szT1_zero h1
   refine ⟨r :: q, by rw [e]; rfl, fun s hs => ?_⟩
   rcases List.mem_cons.1 hs with rfl | hs
   ·exact ⟨hn, hd⟩
   ·exact hq s hs
  ·rename_i h1; exact absurd h h1
theorem SzT.rat {w : World} {v : Value} {q : List Rat} (h : SzT w v (txQ q)) : SzR w v q := by
 obtain ⟨sa, gb, go, cap, e, hc, ha, hr⟩ := h
 have hl : (txQ q).length = q.length := by simp [txQ]
 rw [hl] at e hc ha
 refine ⟨sa, gb, go, cap, e, hc, ha, fun i hi => ?_⟩
 have := hr i (by rw [hl]; exact hi)
 simp only [txQ, List.getElem_map] at this
 exact this
theorem szTE_at : ∀ {L : List (List UInt8 × List UInt8)} {j : Nat} (h : j < L.length), szTE (L.drop j) = if szT1 L[j] = 0 then szTE (L.drop (j + 1)) else szT1 L[j]
 | L, j, h => by
  rw [List.drop_eq_getElem_cons h]
  rfl
set_option maxHeartbeats 1000000 in
theorem szcheck_txt {w : World} {pa : Option Addr} {np cp : Nat} {v : Value} {L : List (List UInt8 × List UInt8)} (hs : SzT w v L) (hb : ∀ p ∈ L, p.1.length ≤ 1000000 ∧ p.2.length ≤ 1000000) (h1000 : np ≤ 1000000) (hL : Laid w) :
  Calls Tryz.prog 73 #[.slice pa np cp, v] w fun e w' => e = .returned (.int .i64 (szEA np L)) ∧ Ext w w' := by
 obtain ⟨sa, gb, go, cap, rfl, hc, ha, hr⟩ := hs
 by_cases hl : L.length = np
 ·have Hr := Lib.hid hr
  have Ha := Lib.hid ha
  have Hb := Lib.hid hb
  have HL := Lib.hid hL
  have Hl := Lib.hid hl
  have H0 := Lib.hid (show szEA np L = szTE L from if_pos hl)
  rw [hl] at hc ⊢
  generalize szEA np L = E at *
  clear hr ha hb hL hl
  go_enter Tryz.func73, Tryz.ntmps73
  go_wp2_with fail
  go_loopw [14] (fun i wr => ∃ j : Nat, j ≤ np ∧ i = .int .i64 j ∧ Hid (E = szTE (L.drop j)) ∧ Ext w wr) (fun i _ => np - (intOf i).toNat)
  case atStart => exact ⟨0, Nat.zero_le _, by go_num, H0, Ext.refl _⟩
  case round =>
   obtain ⟨j, hj, rfl, HA, hE⟩ := hrel
   generalize wr = X at *
   by_cases hlt : j < np
   ·have hjl : j < L.length := by rw [Hl.out]; exact hlt
    obtain rfl := Ha.out (by omega)
    obtain ⟨k0, k1⟩ := Hr.out j hjl
    have hbr := Hb.out L[j] (List.getElem_mem hjl)
    have hs0 := HA.out
    rw [szTE_at hjl] at hs0
    have HS := Lib.hid hs0
    clear hs0
    have x0 := hE.cell k0
    have x1 := hE.cell k1
    have hck := Lib.hid (fun W (hW : Ext X W) => fcheck_all hbr.1 hbr.2 (HL.out.ext (hE.trans hW)))
    have hji : (j : Int) < (np : Int) := by omega
    obtain ⟨p, hp⟩ : ∃ p, p = L[j] := ⟨_, rfl⟩
    rw [← hp] at x0 x1 hck HS
    clear k0 k1 hbr HA hp hjl
    by_cases hf : frE p.1 p.2 = 0
    ·obtain ⟨n, d, hfr⟩ := frE_zero hf
     have hpos := hfr.2.2.2.2.1
     have hsh := Lib.hid (fun W => szshort_all (n := n) (d := d) hfr.2.2.1 hpos W)
     have hT : szT1 p = if shB n d then 0 else 4 := by
      unfold szT1
      rw [if_pos hf, hfr.1, hfr.2.1, ivB_itoa, ivB_itoa]
     rw [hT] at HS
     rw [hf] at hck
     rw [hfr.1] at x0 hck
     rw [hfr.2.1] at x1 hck
     rw [show S (Lib.itoa n) = I n from rfl] at x0 hck
     rw [show S (Lib.itoa d) = I d from rfl] at x1 hck
     clear hfr hf hT hpos
     have HO := two_alloc X 63 (I n) (I d)
     have hX : Ext X (X.alloc (.cells #[I n, I d] 63)) := (Ext.refl X).alloc _
     have c0 : (X.alloc (.cells #[I n, I d] 63)).cell? ⟨X.heap.size, 0, none⟩ = some (I n) := HO.cell (j := 0) (by simp)
     have c1 : (X.alloc (.cells #[I n, I d] 63)).cell? ⟨X.heap.size, 1, none⟩ = some (I d) := HO.cell (j := 1) (by simp)
     generalize shB n d = b at *
     clear HO
     go_wp2_with fail
     refine (hck.out _ hX).mono ?_
     rintro e w1 ⟨rfl, hE1⟩
     have c0 := hE1.cell c0
     have c1 := hE1.cell c1
     have e1 := hX.trans hE1
     go_wp2_with fail
     refine (hsh.out _).mono ?_
     rintro e w2 ⟨rfl, hE2⟩
     have e2 := hE.trans (e1.trans hE2)
     clear hck hsh c0 c1 x0 x1
     cases b
     ·have H4 := Lib.hid (show E = 4 by rw [HS.out]; rfl)
      clear HS
      go_wp2_with fail
      go_ret
      exact ⟨ret_val (congrArg (Value.int .i64) H4.out.symm), e2⟩
     ·have HA := Lib.hid (show E = szTE (L.drop (j + 1)) by rw [HS.out]; rfl)
      clear HS
      go_wp2_with fail
      go_roundw
      case rel => exact ⟨j + 1, by omega, by go_num, HA, e2⟩
      case measure => simp [intOf] <;> omega
    ·have hf2 := (frE_cases p.1 p.2).resolve_left hf
     have H2 := Lib.hid (show E = 2 by
      rw [HS.out]
      unfold szT1
      rw [if_neg hf]; rfl)
     rw [hf2] at hck
     have HO := two_alloc X 63 (S p.1) (S p.2)
     have hX : Ext X (X.alloc (.cells #[S p.1, S p.2] 63)) := (Ext.refl X).alloc _
     have c0 : (X.alloc (.cells #[S p.1, S p.2] 63)).cell? ⟨X.heap.size, 0, none⟩ = some (S p.1) := HO.cell (j := 0) (by simp)
     have c1 : (X.alloc (.cells #[S p.1, S p.2] 63)).cell? ⟨X.heap.size, 1, none⟩ = some (S p.2) := HO.cell (j := 1) (by simp)
     generalize p.1 = p1 at *
     generalize p.2 = p2 at *
     clear HO HS hf hf2
     go_wp2_with fail
     refine (hck.out _ hX).mono ?_
     rintro e w1 ⟨rfl, hE1⟩
     go_wp2_with fail
     go_ret
     exact ⟨ret_val (congrArg (Value.int .i64) H2.out.symm), hE.trans (hX.trans hE1)⟩
   ·have hje : j = np := by omega
    have hji : ¬ (j : Int) < (np : Int) := by omega
    have H0 := Lib.hid (show E = 0 by
     rw [HA.out, List.drop_eq_nil_of_le (by rw [Hl.out]; omega)]; rfl)
    clear hlt HA
    go_wp2_with fail
    go_ret
    exact ⟨ret_val (congrArg (Value.int .i64) H0.out.symm), hE⟩
 ·have H5 := Lib.hid (show szEA np L = 5 from if_neg hl)
  have h1 : ¬ ((L.length : Int) = (np : Int)) := by omega
  have h2 : ((L.length : Int) == (np : Int)) = false := beq_eq_false_iff_ne.2 h1
  have h3 : ((L.length : Int) != (np : Int)) = true := by simp [bne, h2]
  generalize szEA np L = E at *
  clear hr ha hb hL hl
  generalize L.length = nl at *
  go_enter Tryz.func73, Tryz.ntmps73
  go_wp2_with fail
  go_ret
  exact ⟨ret_val (congrArg (Value.int .i64) H5.out.symm), Ext.refl _⟩
theorem szCheck_txt {w : World} {pa : Option Addr} {np cp : Nat} {v : Value} {L : List (List UInt8 × List UInt8)} (hpc : ∀ W, Ext w W → Calls Tryz.prog 50 #[.slice pa np cp] W fun e w' => e = .returned (.int .i64 0) ∧ Ext W w') (hs : SzT w v L) (hb : ∀ p ∈ L, p.1.length ≤ 1000000 ∧ p.2.length ≤ 1000000) (h1000 : np ≤ 1000000) (hL : Laid w) :
  Calls Tryz.prog 22 #[.slice pa np cp, v] w fun e w' => e = .returned (.int .i64 (szEA np L)) ∧ Ext w w' := by
 have Hc := Lib.hid (fun W (hW : Ext w W) => szcheck_txt (pa := pa) (np := np) (cp := cp) (hs.ext hW) hb h1000 (hL.ext hW))
 have Hp := Lib.hid (hpc w (Ext.refl w))
 obtain ⟨sa, gb, go, cap, rfl, k1, k2, k3⟩ := hs
 clear hpc hb hL k1 k2 k3
 generalize szEA np L = z at *
 generalize L.length = nl at *
 go_enter Tryz.func22, Tryz.ntmps22
 go_wp2_with fail
 refine Hp.out.mono ?_
 rintro e w0 ⟨rfl, hE0⟩
 go_wp2_with fail
 refine (Hc.out _ hE0).mono ?_
 rintro e w1 ⟨rfl, hE1⟩
 go_wp2_with fail
 go_ret
 exact ⟨rfl, hE0.trans hE1⟩
end Go.Proofs.YtedlgnoiojcjaaaGreatDoor
namespace Go.Proofs.YtedlgnoiojcjaaaGreatDoor
def Fq (D B : Nat) (r : Rat) : Prop := ∃ m : Int, r * ((D : Int) : Rat) = (m : Rat) ∧ m.natAbs ≤ B
theorem Fq.add {D A B : Nat} {a b : Rat} (h : Fq D A a) (k : Fq D B b) : Fq D (A + B) (a + b) := by
 obtain ⟨m, h1, h2⟩ := h
 obtain ⟨n, k1, k2⟩ := k
 refine ⟨m + n, ?_, by omega⟩
 rw [Rat.intCast_add]; grind
theorem Fq.mul {D E A B : Nat} {a b : Rat} (h : Fq D A a) (k : Fq E B b) : Fq (D * E) (A * B) (a * b) := by
 obtain ⟨m, h1, h2⟩ := h
 obtain ⟨n, k1, k2⟩ := k
 refine ⟨m * n, ?_, ?_⟩
 ·rw [Int.natCast_mul, Rat.intCast_mul, Rat.intCast_mul]; grind
 ·rw [Int.natAbs_mul]; exact Nat.mul_le_mul h2 k2
theorem Fq.mono {D A B : Nat} {a : Rat} (h : Fq D A a) (hB : A ≤ B) : Fq D B a := by
 obtain ⟨m, h1, h2⟩ := h; exact ⟨m, h1, by omega⟩
theorem Fq.num {D B : Nat} {a : Rat} (h : Fq D B a) (hD : 0 < D) : a.num.natAbs ≤ B ∧ a.den ≤ D := by
 obtain ⟨m, h1, h2⟩ := h
 have hne : ((D : Int) : Rat) ≠ 0 := by exact_mod_cast (show (D : Int) ≠ 0 by omega)
 have e : a = Rat.divInt m (D : Int) := by
  rw [Rat.divInt_eq_div]; grind
 rw [e, Rat.num_divInt, Rat.den_divInt, if_neg (by omega)]
 constructor
 ·refine Nat.le_trans (Int.natAbs_ediv_le_natAbs _ _) ?_
  rw [Int.sign_eq_one_of_pos (by omega), Int.one_mul]
  exact h2
 ·exact Nat.div_le_self _ _
theorem Fq.sm {D B : Nat} {a : Rat} (h : Fq D B a) (hD : 0 < D) (hD2 : D < 10 ^ 30) (hB : B < 10 ^ 30) : nd a.num ≤ 30 ∧ nd a.den ≤ 30 := by
 obtain ⟨h1, h2⟩ := h.num hD
 exact ⟨nDigits_le (u := a.num.natAbs) (k := 30) (by omega) (by omega), nDigits_le (u := ((a.den : Int)).natAbs) (k := 30) (by omega) (by omega)⟩
theorem cmbQ_two {a b : List Rat} {k m : Rat} {n c : Nat} (h : c < (cmbQ [a, b] [k, m] n).length) : (cmbQ [a, b] [k, m] n)[c] = a.getD c 0 * k + b.getD c 0 * m := by
 rw [cmbQ_get]
 show (0 : Rat) + a.getD c 0 * k + b.getD c 0 * m = _
 grind
theorem cmbQ_keep {a b : List Rat} {n : Nat} (ha : a.length = n) : cmbQ [a, b] [1, 0] n = a := by
 refine List.ext_getElem (by simp [ha]) fun c h1 h2 => ?_
 rw [cmbQ_two, List.getD_eq_getElem?_getD, List.getElem?_eq_getElem h2, Option.getD_some]
 grind
end Go.Proofs.YtedlgnoiojcjaaaGreatDoor
namespace Go.Proofs.YtedlgnoiojcjaaaGreatDoor
open Go.RowKit Go.Sort
theorem cmb_nd {L : List (List Rat)} {fs : List Rat} {n E F : Nat} (hl : ∀ s ∈ L, ∀ r ∈ s, NdQ E r) (hf : ∀ r ∈ fs, NdQ F r) (hE : 1 ≤ E) (hF : 1 ≤ F) (h : L.length * (E + F + 1) + 1 ≤ 400) : ∀ r ∈ cmbQ L fs n, NdQ 400 r := fun r hr => by
 unfold cmbQ at hr
 obtain ⟨c, _, rfl⟩ := List.mem_map.1 hr
 exact (sumR_nd _ fun k _ => cmbF_nd hl hf hE hF).mono h
def strG (G : List (List Rat)) (k : Rat) (n : Nat) : List (List Rat) := G.map fun l => cmbQ [l] [k] n
@[simp] theorem strG_length (G : List (List Rat)) (k : Rat) (n : Nat) : (strG G k n).length = G.length := by simp [strG]
end Go.Proofs.YtedlgnoiojcjaaaGreatDoor
