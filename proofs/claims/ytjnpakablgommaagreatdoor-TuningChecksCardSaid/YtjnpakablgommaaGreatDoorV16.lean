/- Part 16 of the proof of the claim: contracts of the functions that it reaches, and plain laws; no condition. -/
import Derived.Test.YtjnpakablgommaaGreatDoorV15
import Derived.Test.YtjnpakablgommaaGreatDoorV14
import Derived.Test.YtjnpakablgommaaGreatDoorV13
set_option maxRecDepth 100000
namespace Go.Proofs.YtjnpakablgommaaGreatDoor
open Go.RowKit Go.Sort
theorem shQ_nd {l : List Rat} (h : ShQ l) {E : Nat} (hE : 30 ≤ E) : ∀ r ∈ l, NdQ E r := fun r hr => ⟨by have := (h r hr).1; omega, by have := (h r hr).2; omega⟩
def shB (n d : Int) : Bool := decide (nd n ≤ 30) && decide (nd d ≤ 30)
theorem szshort_all {n d : Int} (hn : nd n ≤ 400) (h0 : 0 < d) (w : World) :
  Calls Tryz.prog 209 #[.agg #[I n, I d]] w fun e w' => e = .returned (.bool (shB n d)) ∧ Ext w w' := by
 have h1 := Lib.hid (fun W => Abs_any (z := n) (by unfold LIM; omega) W)
 have l1 : (Lib.itoa (n.natAbs : Int)).length = nd n := by
  rw [itoa_nat, Lib.decDigits_length]; rfl
 have l2 : (Lib.itoa d).length = nd d := by
  rw [itoa_pos (by omega), Lib.decDigits_length]; rfl
 have hX : Ext w (w.alloc (.cells #[I n, I d] 81)) := (Ext.refl w).alloc _
 have HO := two_alloc w 81 (I n) (I d)
 have c0 : (w.alloc (.cells #[I n, I d] 81)).cell? ⟨w.heap.size, 0, none⟩ = some (I n) := HO.cell (j := 0) (by simp)
 have c1 : (w.alloc (.cells #[I n, I d] 81)).cell? ⟨w.heap.size, 1, none⟩ = some (I d) := HO.cell (j := 1) (by simp)
 have hb : shB n d = (decide (nd n ≤ 30) && decide (nd d ≤ 30)) := rfl
 rw [← l1, ← l2] at hb
 have Hb := Lib.hid hb
 clear HO hn h0 hb
 go_enter Tryz.func209, Tryz.ntmps209
 go_wp2_with fail
 refine (h1.out _).mono ?_
 rintro e w1 ⟨rfl, hE1⟩
 have c0 := hE1.cell c0
 have c1 := hE1.cell c1
 have e1 := hX.trans hE1
 clear l1 l2
 unfold I S at c1 ⊢
 generalize Lib.itoa (n.natAbs : Int) = la at *
 generalize Lib.itoa d = lb at *
 by_cases i1 : la.length ≤ 30
 ·have j1 : (la.length : Int) ≤ 30 := by omega
  by_cases i2 : lb.length ≤ 30
  ·have j2 : (lb.length : Int) ≤ 30 := by omega
   rw [decide_eq_true i1, decide_eq_true i2] at Hb
   clear i1 i2
   go_wp2_with fail
   go_ret
   exact ⟨by rw [Hb.out]; rfl, e1⟩
  ·have j2 : ¬ (lb.length : Int) ≤ 30 := by omega
   rw [decide_eq_true i1, decide_eq_false i2] at Hb
   clear i1 i2
   go_wp2_with fail
   go_ret
   exact ⟨ret_val (congrArg Value.bool (by rw [Hb.out, decide_eq_false (show ¬ (lb.length : Int) ≤ 30 by omega)]; rfl)), e1⟩
 ·have j1 : ¬ (la.length : Int) ≤ 30 := by omega
  rw [decide_eq_false i1] at Hb
  clear i1
  go_wp2_with fail
  go_ret
  exact ⟨by rw [Hb.out]; rfl, e1⟩
def szE (l : List Rat) : Int := if l.all (fun r => shB r.num r.den) then 0 else 4
theorem szE_sh {l : List Rat} (h : ShQ l) : szE l = 0 := by
 unfold szE
 rw [if_pos]
 rw [List.all_eq_true]
 intro r hr
 obtain ⟨h1, h2⟩ := h r hr
 unfold shB
 rw [decide_eq_true h1, decide_eq_true h2]; rfl
set_option maxHeartbeats 1000000 in
theorem szcheck_all {w : World} {pa : Option Addr} {np cp : Nat} {v : Value} {l : List Rat} (hs : SzR w v l) (hl : l.length = np) (hb : ∀ r ∈ l, NdQ 400 r) (h1000 : np ≤ 1000000) (hL : Laid w) :
  Calls Tryz.prog 142 #[.slice pa np cp, v] w fun e w' => e = .returned (.int .i64 (szE l)) ∧ Ext w w' := by
 obtain ⟨sa, gb, go, cap, rfl, hc, ha, hr⟩ := hs
 have Hr := Lib.hid hr
 have Ha := Lib.hid ha
 have Hb := Lib.hid hb
 have HL := Lib.hid hL
 have Hl := Lib.hid hl
 rw [hl] at hc ⊢
 clear hr ha hb hL hl
 go_enter Tryz.func142, Tryz.ntmps142
 go_wp2_with fail
 go_loopw [14] (fun i wr => ∃ j : Nat, j ≤ np ∧ i = .int .i64 j ∧ Hid (∀ t (h : t < l.length), t < j → shB l[t].num l[t].den = true) ∧ Ext w wr) (fun i _ => np - (intOf i).toNat)
 case atStart => exact ⟨0, Nat.zero_le _, by go_num, Lib.hid (fun t _ h => by omega), Ext.refl _⟩
 case round =>
  obtain ⟨j, hj, rfl, HA, hE⟩ := hrel
  generalize wr = X at *
  by_cases hlt : j < np
  ·have hjl : j < l.length := by rw [Hl.out]; exact hlt
   obtain rfl := Ha.out (by omega)
   obtain ⟨k0, k1⟩ := Hr.out j hjl
   have hbr := Hb.out l[j] (List.getElem_mem hjl)
   have x0 := hE.cell k0
   have x1 := hE.cell k1
   have hpos := qR_pos l[j]
   have hcop := qR_cop l[j]
   simp only [qR] at hpos hcop
   have hck := Lib.hid (fun W (hW : Ext X W) => fcheck_any (n := l[j].num) (d := l[j].den) hbr.1 hbr.2 hpos hcop (HL.out.ext (hE.trans hW)))
   have hsh := Lib.hid (fun W => szshort_all (n := l[j].num) (d := l[j].den) hbr.1 hpos W)
   have hji : (j : Int) < (np : Int) := by omega
   have Hno := Lib.hid (fun (h : shB l[j].num l[j].den = false) => show szE l = 4 by
    unfold szE
    rw [if_neg]
    intro h2
    rw [List.all_eq_true] at h2
    have := h2 l[j] (List.getElem_mem hjl)
    rw [h] at this; cases this)
   have Hyes := Lib.hid (fun (h : shB l[j].num l[j].den = true) t (ht : t < l.length) (htj : t < j + 1) => show shB l[t].num l[t].den = true by
    by_cases e : t = j
    ·subst e; exact h
    ·exact HA.out t ht (by omega))
   clear k0 k1 hbr hpos hcop HA
   generalize hb : shB l[j].num l[j].den = b at *
   clear hb
   generalize l[j].num = n at *
   generalize ((l[j].den : Nat) : Int) = d at *
   clear hjl
   have HO := two_alloc X 81 (I n) (I d)
   have hX : Ext X (X.alloc (.cells #[I n, I d] 81)) := (Ext.refl X).alloc _
   have c0 : (X.alloc (.cells #[I n, I d] 81)).cell? ⟨X.heap.size, 0, none⟩ = some (I n) := HO.cell (j := 0) (by simp)
   have c1 : (X.alloc (.cells #[I n, I d] 81)).cell? ⟨X.heap.size, 1, none⟩ = some (I d) := HO.cell (j := 1) (by simp)
   clear HO
   go_wp2_with fail
   refine (hck.out _ hX).mono ?_
   rintro e w1 ⟨rfl, hE1⟩
   have c0 := hE1.cell c0
   have c1 := hE1.cell c1
   have e1 := hX.trans hE1
   go_wp2_with fail
   refine (hsh.out _).mono ?_
   rintro e w2 ⟨rfl, hE2⟩
   have e2 := hE.trans (e1.trans hE2)
   clear hck hsh c0 c1 x0 x1
   cases b
   ·have H4 := Lib.hid (Hno.out rfl)
    clear Hno Hyes
    go_wp2_with fail
    go_ret
    exact ⟨ret_val (congrArg (Value.int .i64) H4.out.symm), e2⟩
   ·have HA := Lib.hid (Hyes.out rfl)
    clear Hno Hyes
    go_wp2_with fail
    go_roundw
    case rel => exact ⟨j + 1, by omega, by go_num, HA, e2⟩
    case measure => simp [intOf] <;> omega
  ·have hje : j = np := by omega
   have hji : ¬ (j : Int) < (np : Int) := by omega
   have H0 := Lib.hid (show szE l = 0 by
    unfold szE
    rw [if_pos]
    rw [List.all_eq_true]
    intro r hr
    obtain ⟨t, ht, rfl⟩ := List.getElem_of_mem hr
    exact HA.out t ht (by have := Hl.out; omega))
   clear hlt HA
   go_wp2_with fail
   go_ret
   exact ⟨ret_val (congrArg (Value.int .i64) H0.out.symm), hE⟩
theorem szCheck_all {w : World} {pa : Option Addr} {np cp : Nat} {v : Value} {l : List Rat} (hpc : ∀ W, Ext w W → Calls Tryz.prog 48 #[.slice pa np cp] W fun e w' => e = .returned (.int .i64 0) ∧ Ext W w') (hs : SzR w v l) (hl : l.length = np) (hb : ∀ r ∈ l, NdQ 400 r) (h1000 : np ≤ 1000000) (hL : Laid w) :
  Calls Tryz.prog 83 #[.slice pa np cp, v] w fun e w' => e = .returned (.int .i64 (szE l)) ∧ Ext w w' := by
 have Hc := Lib.hid (fun W (hW : Ext w W) => szcheck_all (pa := pa) (cp := cp) (hs.ext hW) hl hb h1000 (hL.ext hW))
 have Hp := Lib.hid (hpc w (Ext.refl w))
 obtain ⟨sa, gb, go, cap, rfl, _, _, _⟩ := hs
 generalize szE l = z at *
 clear hpc hl hb hL
 go_enter Tryz.func83, Tryz.ntmps83
 go_wp2_with fail
 refine Hp.out.mono ?_
 rintro e w0 ⟨rfl, hE0⟩
 go_wp2_with fail
 refine (Hc.out _ hE0).mono ?_
 rintro e w1 ⟨rfl, hE1⟩
 go_wp2_with fail
 go_ret
 exact ⟨rfl, hE0.trans hE1⟩
def resV (l : List Rat) (v : Value) : Value := if szE l = 0 then .tuple #[v, .int .i64 0] else .tuple #[.slice none 0 0, .int .i64 4]
theorem tuResult_any {w : World} {pa : Option Addr} {np cp : Nat} {v : Value} {l : List Rat} (hpc : ∀ W, Ext w W → Calls Tryz.prog 48 #[.slice pa np cp] W fun e w' => e = .returned (.int .i64 0) ∧ Ext W w') (hs : SzR w v l) (hl : l.length = np) (hb : ∀ r ∈ l, NdQ 400 r) (h1000 : np ≤ 1000000) (hL : Laid w) :
  Calls Tryz.prog 85 #[.slice pa np cp, v] w fun e w' => e = .returned (resV l v) ∧ Ext w w' := by
 have Hc := Lib.hid (fun W (hW : Ext w W) => szCheck_all (pa := pa) (cp := cp) (fun W2 h2 => hpc W2 (hW.trans h2)) (hs.ext hW) hl hb h1000 (hL.ext hW))
 have hv : resV l v = if szE l = 0 then .tuple #[v, .int .i64 0] else .tuple #[.slice none 0 0, .int .i64 4] := rfl
 obtain ⟨sa, gb, go, cap, rfl, _, _, _⟩ := hs
 generalize szE l = z at *
 clear hpc hl hb hL
 by_cases hz : z = 0
 ·subst hz
  rw [if_pos rfl] at hv
  have Hv := Lib.hid hv
  clear hv
  go_enter Tryz.func85, Tryz.ntmps85
  go_wp2_with fail
  refine (Hc.out _ (Ext.refl w)).mono ?_
  rintro e w1 ⟨rfl, hE1⟩
  go_wp2_with fail
  go_ret2
  exact ⟨ret_val Hv.out.symm, hE1⟩
 ·rw [if_neg hz] at hv
  have Hv := Lib.hid hv
  have hz2 : (z == 0) = false := beq_eq_false_iff_ne.2 hz
  have hz3 : (z != 0) = true := by simp [bne, hz2]
  clear hv
  go_enter Tryz.func85, Tryz.ntmps85
  go_wp2_with fail
  refine (Hc.out _ (Ext.refl w)).mono ?_
  rintro e w1 ⟨rfl, hE1⟩
  go_wp2_with fail
  go_ret2
  exact ⟨ret_val Hv.out.symm, hE1⟩
def SzT (w : World) (v : Value) (L : List (List UInt8 × List UInt8)) : Prop := ∃ sa gb go cap, v = .slice sa L.length cap ∧ L.length ≤ cap ∧ (0 < L.length → sa = some ⟨gb, go, none⟩) ∧ ∀ i (h : i < L.length), w.cell? ⟨gb, go + i * 2, none⟩ = some (S L[i].1) ∧ w.cell? ⟨gb, go + i * 2 + 1, none⟩ = some (S L[i].2)
theorem SzT.ext {w w' : World} {v : Value} {L : List (List UInt8 × List UInt8)} (h : SzT w v L) (he : Ext w w') : SzT w' v L := by
 obtain ⟨sa, gb, go, cap, e, hc, ha, hr⟩ := h
 exact ⟨sa, gb, go, cap, e, hc, ha, fun i hi => ⟨he.cell (hr i hi).1, he.cell (hr i hi).2⟩⟩
def szT1 (p : List UInt8 × List UInt8) : Int := if frE p.1 p.2 = 0 then (if shB (ivB p.1) (ivB p.2) then 0 else 4) else 2
def szTE : List (List UInt8 × List UInt8) → Int
 | [] => 0
 | p :: l => if szT1 p = 0 then szTE l else szT1 p
def szEA (np : Nat) (L : List (List UInt8 × List UInt8)) : Int := if L.length = np then szTE L else 5
def txQ (q : List Rat) : List (List UInt8 × List UInt8) := q.map fun r => (Lib.itoa r.num, Lib.itoa r.den)
theorem szTE_at : ∀ {L : List (List UInt8 × List UInt8)} {j : Nat} (h : j < L.length), szTE (L.drop j) = if szT1 L[j] = 0 then szTE (L.drop (j + 1)) else szT1 L[j]
 | L, j, h => by
  rw [List.drop_eq_getElem_cons h]
  rfl
set_option maxHeartbeats 1000000 in
theorem szcheck_txt {w : World} {pa : Option Addr} {np cp : Nat} {v : Value} {L : List (List UInt8 × List UInt8)} (hs : SzT w v L) (hb : ∀ p ∈ L, p.1.length ≤ 1000000 ∧ p.2.length ≤ 1000000) (h1000 : np ≤ 1000000) (hL : Laid w) :
  Calls Tryz.prog 142 #[.slice pa np cp, v] w fun e w' => e = .returned (.int .i64 (szEA np L)) ∧ Ext w w' := by
 obtain ⟨sa, gb, go, cap, rfl, hc, ha, hr⟩ := hs
 by_cases hl : L.length = np
 ·have Hr := Lib.hid hr
  have Ha := Lib.hid ha
  have Hb := Lib.hid hb
  have HL := Lib.hid hL
  have Hl := Lib.hid hl
  have H0 := Lib.hid (show szEA np L = szTE L from if_pos hl)
  rw [hl] at hc ⊢
  generalize szEA np L = E at *
  clear hr ha hb hL hl
  go_enter Tryz.func142, Tryz.ntmps142
  go_wp2_with fail
  go_loopw [14] (fun i wr => ∃ j : Nat, j ≤ np ∧ i = .int .i64 j ∧ Hid (E = szTE (L.drop j)) ∧ Ext w wr) (fun i _ => np - (intOf i).toNat)
  case atStart => exact ⟨0, Nat.zero_le _, by go_num, H0, Ext.refl _⟩
  case round =>
   obtain ⟨j, hj, rfl, HA, hE⟩ := hrel
   generalize wr = X at *
   by_cases hlt : j < np
   ·have hjl : j < L.length := by rw [Hl.out]; exact hlt
    obtain rfl := Ha.out (by omega)
    obtain ⟨k0, k1⟩ := Hr.out j hjl
    have hbr := Hb.out L[j] (List.getElem_mem hjl)
    have hs0 := HA.out
    rw [szTE_at hjl] at hs0
    have HS := Lib.hid hs0
    clear hs0
    have x0 := hE.cell k0
    have x1 := hE.cell k1
    have hck := Lib.hid (fun W (hW : Ext X W) => fcheck_all hbr.1 hbr.2 (HL.out.ext (hE.trans hW)))
    have hji : (j : Int) < (np : Int) := by omega
    obtain ⟨p, hp⟩ : ∃ p, p = L[j] := ⟨_, rfl⟩
    rw [← hp] at x0 x1 hck HS
    clear k0 k1 hbr HA hp hjl
    by_cases hf : frE p.1 p.2 = 0
    ·obtain ⟨n, d, hfr⟩ := frE_zero hf
     have hpos := hfr.2.2.2.2.1
     have hsh := Lib.hid (fun W => szshort_all (n := n) (d := d) hfr.2.2.1 hpos W)
     have hT : szT1 p = if shB n d then 0 else 4 := by
      unfold szT1
      rw [if_pos hf, hfr.1, hfr.2.1, ivB_itoa, ivB_itoa]
     rw [hT] at HS
     rw [hf] at hck
     rw [hfr.1] at x0 hck
     rw [hfr.2.1] at x1 hck
     rw [show S (Lib.itoa n) = I n from rfl] at x0 hck
     rw [show S (Lib.itoa d) = I d from rfl] at x1 hck
     clear hfr hf hT hpos
     have HO := two_alloc X 81 (I n) (I d)
     have hX : Ext X (X.alloc (.cells #[I n, I d] 81)) := (Ext.refl X).alloc _
     have c0 : (X.alloc (.cells #[I n, I d] 81)).cell? ⟨X.heap.size, 0, none⟩ = some (I n) := HO.cell (j := 0) (by simp)
     have c1 : (X.alloc (.cells #[I n, I d] 81)).cell? ⟨X.heap.size, 1, none⟩ = some (I d) := HO.cell (j := 1) (by simp)
     generalize shB n d = b at *
     clear HO
     go_wp2_with fail
     refine (hck.out _ hX).mono ?_
     rintro e w1 ⟨rfl, hE1⟩
     have c0 := hE1.cell c0
     have c1 := hE1.cell c1
     have e1 := hX.trans hE1
     go_wp2_with fail
     refine (hsh.out _).mono ?_
     rintro e w2 ⟨rfl, hE2⟩
     have e2 := hE.trans (e1.trans hE2)
     clear hck hsh c0 c1 x0 x1
     cases b
     ·have H4 := Lib.hid (show E = 4 by rw [HS.out]; rfl)
      clear HS
      go_wp2_with fail
      go_ret
      exact ⟨ret_val (congrArg (Value.int .i64) H4.out.symm), e2⟩
     ·have HA := Lib.hid (show E = szTE (L.drop (j + 1)) by rw [HS.out]; rfl)
      clear HS
      go_wp2_with fail
      go_roundw
      case rel => exact ⟨j + 1, by omega, by go_num, HA, e2⟩
      case measure => simp [intOf] <;> omega
    ·have hf2 := (frE_cases p.1 p.2).resolve_left hf
     have H2 := Lib.hid (show E = 2 by
      rw [HS.out]
      unfold szT1
      rw [if_neg hf]; rfl)
     rw [hf2] at hck
     have HO := two_alloc X 81 (S p.1) (S p.2)
     have hX : Ext X (X.alloc (.cells #[S p.1, S p.2] 81)) := (Ext.refl X).alloc _
     have c0 : (X.alloc (.cells #[S p.1, S p.2] 81)).cell? ⟨X.heap.size, 0, none⟩ = some (S p.1) := HO.cell (j := 0) (by simp)
     have c1 : (X.alloc (.cells #[S p.1, S p.2] 81)).cell? ⟨X.heap.size, 1, none⟩ = some (S p.2) := HO.cell (j := 1) (by simp)
     generalize p.1 = p1 at *
     generalize p.2 = p2 at *
     clear HO HS hf hf2
     go_wp2_with fail
     refine (hck.out _ hX).mono ?_
     rintro e w1 ⟨rfl, hE1⟩
     go_wp2_with fail
     go_ret
     exact ⟨ret_val (congrArg (Value.int .i64) H2.out.symm), hE.trans (hX.trans hE1)⟩
   ·have hje : j = np := by omega
    have hji : ¬ (j : Int) < (np : Int) := by omega
    have H0 := Lib.hid (show E = 0 by
     rw [HA.out, List.drop_eq_nil_of_le (by rw [Hl.out]; omega)]; rfl)
    clear hlt HA
    go_wp2_with fail
    go_ret
    exact ⟨ret_val (congrArg (Value.int .i64) H0.out.symm), hE⟩
 ·have H5 := Lib.hid (show szEA np L = 5 from if_neg hl)
  have h1 : ¬ ((L.length : Int) = (np : Int)) := by omega
  have h2 : ((L.length : Int) == (np : Int)) = false := beq_eq_false_iff_ne.2 h1
  have h3 : ((L.length : Int) != (np : Int)) = true := by simp [bne, h2]
  generalize szEA np L = E at *
  clear hr ha hb hL hl
  generalize L.length = nl at *
  go_enter Tryz.func142, Tryz.ntmps142
  go_wp2_with fail
  go_ret
  exact ⟨ret_val (congrArg (Value.int .i64) H5.out.symm), Ext.refl _⟩
theorem szCheck_txt {w : World} {pa : Option Addr} {np cp : Nat} {v : Value} {L : List (List UInt8 × List UInt8)} (hpc : ∀ W, Ext w W → Calls Tryz.prog 48 #[.slice pa np cp] W fun e w' => e = .returned (.int .i64 0) ∧ Ext W w') (hs : SzT w v L) (hb : ∀ p ∈ L, p.1.length ≤ 1000000 ∧ p.2.length ≤ 1000000) (h1000 : np ≤ 1000000) (hL : Laid w) :
  Calls Tryz.prog 83 #[.slice pa np cp, v] w fun e w' => e = .returned (.int .i64 (szEA np L)) ∧ Ext w w' := by
 have Hc := Lib.hid (fun W (hW : Ext w W) => szcheck_txt (pa := pa) (np := np) (cp := cp) (hs.ext hW) hb h1000 (hL.ext hW))
 have Hp := Lib.hid (hpc w (Ext.refl w))
 obtain ⟨sa, gb, go, cap, rfl, k1, k2, k3⟩ := hs
 clear hpc hb hL k1 k2 k3
 generalize szEA np L = z at *
 generalize L.length = nl at *
 go_enter Tryz.func83, Tryz.ntmps83
 go_wp2_with fail
 refine Hp.out.mono ?_
 rintro e w0 ⟨rfl, hE0⟩
 go_wp2_with fail
 refine (Hc.out _ hE0).mono ?_
 rintro e w1 ⟨rfl, hE1⟩
 go_wp2_with fail
 go_ret
 exact ⟨rfl, hE0.trans hE1⟩
theorem sam_getD_ext {a b : List Int} (hl : a.length = b.length) (h : ∀ j, j < a.length → a.getD j 0 = b.getD j 0) : a = b := by
 apply List.ext_getElem hl
 intro i h1 h2
 have := h i h1
 rwa [getD_get h1, getD_get h2] at this
set_option maxHeartbeats 1000000 in
theorem SlEq_any {w : World} {va vb : Value} {a b : List Int} (hA : RowR w va a) (hB : RowR w vb b) (hbig : a.length ≤ 1000000) :
  Calls Tryz.prog 208 #[va, vb] w fun e w' => e = .returned (.bool (decide (a = b))) ∧ Ext w w' := by
 obtain ⟨sa, ga, oa, ca, rfl, hca, hSa⟩ := hA
 obtain ⟨sb, gb, ob, cb, rfl, hcb, hSb⟩ := hB
 by_cases hl : a.length = b.length
 ·obtain ⟨n, hn⟩ : ∃ n, n = a.length := ⟨_, rfl⟩
  rw [← hl]
  rw [← hn] at hbig ⊢
  have HA := Lib.hid hSa
  have HB := Lib.hid hSb
  have Hn := Lib.hid hn
  have Hm := Lib.hid (hn.trans hl)
  clear hSa hSb hl hn hca hcb
  go_enter Tryz.func208, Tryz.ntmps208
  go_wp2_with fail
  go_loopw [13] (fun idx wr => ∃ i : Nat, i ≤ n ∧ idx = .int .i64 i ∧ Hid (∀ j, j < i → a.getD j 0 = b.getD j 0) ∧ Ext w wr) (fun idx _ => n - (intOf idx).toNat)
  case atStart => exact ⟨0, by omega, by go_num, Lib.hid (fun j h => by omega), Ext.refl _⟩
  case round =>
   obtain ⟨i, hi, rfl, Hz, hE⟩ := hrel
   generalize wr = X at *
   by_cases hlt : i < n
   ·have hii : (i : Int) < (n : Int) := by omega
    have c1 := (HA.out.ext hE).cell i (.int .i64 (a[i]'(by rw [← Hn.out]; exact hlt))) (is_get (by rw [← Hn.out]; exact hlt))
    have c2 := (HB.out.ext hE).cell i (.int .i64 (b[i]'(by rw [← Hm.out]; exact hlt))) (is_get (by rw [← Hm.out]; exact hlt))
    obtain rfl := HA.out.addr (by rw [is_length, ← Hn.out]; omega)
    obtain rfl := HB.out.addr (by rw [is_length, ← Hm.out]; omega)
    obtain ⟨x, hx⟩ : ∃ x, x = a[i]'(by rw [← Hn.out]; exact hlt) := ⟨_, rfl⟩
    obtain ⟨y, hy⟩ : ∃ y, y = b[i]'(by rw [← Hm.out]; exact hlt) := ⟨_, rfl⟩
    rw [← hx] at c1
    rw [← hy] at c2
    have Hx := Lib.hid (show a.getD i 0 = x by rw [hx, getD_get (by rw [← Hn.out]; exact hlt)])
    have Hy := Lib.hid (show b.getD i 0 = y by rw [hy, getD_get (by rw [← Hm.out]; exact hlt)])
    clear hx hy
    by_cases hxy : x = y
    ·subst hxy
     go_wp2_with fail
     go_quiet (fail)
     go_wp2_with fail
     go_roundw
     case rel => exact ⟨i + 1, by omega, by go_num, Lib.hid (fun j hj => by
      by_cases e : j = i
      ·subst e; rw [Hx.out, Hy.out]
      ·exact Hz.out j (by omega)), hE.drewN _⟩
     case measure => simp [intOf] <;> omega
    ·have hb1 : (x == y) = false := beq_eq_false_iff_ne.2 hxy
     have hb2 : (x != y) = true := by simp [bne, hb1]
     have Hne := Lib.hid (show decide (a = b) = false from decide_eq_false (fun e => hxy (by rw [← Hx.out, ← Hy.out, e])))
     go_wp2_with fail
     go_quiet (fail)
     go_wp2_with fail
     go_ret
     exact ⟨by rw [Hne.out]; rfl, hE.drewN _⟩
   ·have Heq := Lib.hid (show decide (a = b) = true from decide_eq_true (sam_getD_ext (by rw [← Hn.out, ← Hm.out]) (fun j hj => Hz.out j (by rw [← Hn.out] at hj; omega))))
    go_wp2_with fail
    go_ret
    exact ⟨by rw [Heq.out]; rfl, hE⟩
 ·have hne : decide (a = b) = false := decide_eq_false (fun e => hl (by rw [e]))
  rw [hne]
  have h1 : ¬ ((a.length : Int) = (b.length : Int)) := by omega
  have h2 : ((a.length : Int) == (b.length : Int)) = false := beq_eq_false_iff_ne.2 h1
  have h3 : ((a.length : Int) != (b.length : Int)) = true := by simp [bne, h2]
  clear hSa hSb hca hcb hne
  generalize a.length = n at *
  generalize b.length = m at *
  go_enter Tryz.func208, Tryz.ntmps208
  go_wp2_with fail
  go_ret
  exact ⟨rfl, Ext.refl _⟩
theorem rowEqual_any {w : World} {va vb : Value} {a b : List Int} (hA : RowR w va a) (hB : RowR w vb b) (hbig : a.length ≤ 1000000) :
  Calls Tryz.prog 178 #[va, vb] w fun e w' => e = .returned (.bool (decide (a = b))) ∧ Ext w w' := by
 have h := Lib.hid (SlEq_any hA hB hbig)
 clear hA hB
 go_enter Tryz.func178, Tryz.ntmps178
 go_wp2_with fail
 refine h.out.mono ?_
 rintro e w1 ⟨rfl, hE⟩
 go_wp2_with fail
 go_ret
 exact ⟨rfl, hE⟩
def IntsV (B : Nat) (w : World) (v : Value) (l : List Int) : Prop := w.ownsRow B 79 1 v l.length (ss l)
theorem IntsV.nil (B : Nat) (w : World) : IntsV B w (.slice none 0 0) [] := ⟨rfl, .inl ⟨rfl, rfl⟩⟩
theorem IntsV.ext {B : Nat} {w w' : World} {v : Value} {l : List Int} (h : IntsV B w v l) (he : Ext w w') : IntsV B w' v l := ownsRow_ext h he
theorem IntsV.mono {B B' : Nat} {w : World} {v : Value} {l : List Int} (h : IntsV B w v l) (hB : B' ≤ B) : IntsV B' w v l := ownsRow_mono h hB
theorem IntsV.sl {B : Nat} {w : World} {v : Value} {l : List Int} (h : IntsV B w v l) : ∃ ga gb cap, v = .slice ga l.length cap ∧ l.length ≤ cap ∧ Sl w ga gb 0 (ss l) := by
 rcases h.2 with ⟨rfl, h0⟩ | ⟨g, cap, cur, rfl, hb, hg, hn, hm, hs, ht⟩
 ·have : l = [] := List.eq_nil_of_length_eq_zero h0
  subst this
  exact ⟨none, 0, 0, rfl, Nat.le_refl _, Sl.nil _ _ _ _⟩
 ·have ho : OwnV 79 B w g cap (ss l) := by unfold OwnV; rw [ss_length]; exact h
  exact ⟨_, g, cap, rfl, hn, ho.sl⟩
theorem ss_snoc (l : List Int) (z : Int) : ss (l ++ [z]) = ss l ++ [I z] := by simp only [ss, List.map_append, List.map_cons, List.map_nil]
theorem OwnV.ints {B : Nat} {w : World} {g cap : Nat} {l : List Int} (h : OwnV 79 B w g cap (ss l)) : IntsV B w (slv g l.length cap) l := by
 unfold IntsV; unfold OwnV at h; rw [ss_length] at h; exact h
section
variable {w : World} {ops : Array Oper} {rest : List Oper} {o : Oper} {a : Act} {Q : Exit → Act → World → Prop}
theorem app_ints (hgd : o.guard = none) (s x : Operand) (ho : o.op = .call { callee := .builtin .append, args := #[s, x], argTypes := #[144, 144] })
  {B : Nat} {v : Value} {r : List Int} (hs : a.eval s = v) (hown : IntsV B w v r) {b : Nat} {z : Int} (hx : a.eval x = .slice (some ⟨b, 0, none⟩) 1 1) (hc : w.cell? ⟨b, 0, none⟩ = some (I z)) (hl : r.length ≤ 1000000000) (hB : B ≤ w.heap.size)
  (h : ∀ g cap w', IntsV B w' (slv g (r.length + 1) cap) (r ++ [z]) → Below B w w' → w.grownBy w' v.ownBlock → wpList Tryz.prog ops Q rest (a.put o.dst (slv g (r.length + 1) cap)) w') : wpList Tryz.prog ops Q (o :: rest) a w := by
 obtain ⟨i0, hi, hz0, hz1, hz2⟩ := info_parts Tryz.infoStr
 refine wpList_append_lies w hgd s x 144 ho B 79 i0 _ 1 16 Tryz.underlying144 hi hz0 hz1 hz2 rfl (by omega) v r.length (ss r) hs hown ⟨b, 0, none⟩ 1 1 [I z] hx rfl ?_ (one_str _) (by omega) (by unfold maxLen; omega) (by omega) hB w.heap.size rfl ?_
 ·intro j u hj
  have : j = 0 := by have := (List.getElem?_eq_some_iff.1 hj).1; simp at this; omega
  subst this
  simp only [List.getElem?_cons_zero, Option.some.injEq] at hj
  subst hj
  simpa [Addr.add_lit] using hc
 ·intro g cap w' h1 h2 h3 h4
  refine h g cap w' ?_ (Below.grown (Below.refl _ _) h2 hB (fun q hq => (World.ownsRow.lt hown q hq).1)) h2
  unfold IntsV
  rw [ss_snoc, List.length_append]; exact h1
end
end Go.Proofs.YtjnpakablgommaaGreatDoor
namespace Go.Proofs.YtjnpakablgommaaGreatDoor
def pv (r : List Int) : Nat := r.findIdx fun z => decide (z ≠ 0)
def pvI (r : List Int) : Int := if pv r < r.length then (pv r : Int) else -1
theorem pv_le (r : List Int) : pv r ≤ r.length := List.findIdx_le_length
theorem pv_zero {r : List Int} {j : Nat} (h : j < pv r) : r.getD j 0 = 0 := by
 have hl : j < r.length := Nat.lt_of_lt_of_le h (pv_le r)
 have := List.not_of_lt_findIdx (p := fun z : Int => decide (z ≠ 0)) (xs := r) h
 rw [getD_get hl]
 simpa using this
theorem pv_ne {r : List Int} (h : pv r < r.length) : r.getD (pv r) 0 ≠ 0 := by
 have := List.findIdx_getElem (xs := r) (p := fun z : Int => decide (z ≠ 0)) (w := h)
 rw [getD_get h]
 simpa [pv] using this
theorem pvI_ix (r : List Int) : IxR (fun i => decide (r.getD i 0 ≠ 0)) r.length (pvI r) := by
 unfold pvI
 by_cases h : pv r < r.length
 ·rw [if_pos h]
  exact .inr ⟨pv r, h, rfl, decide_eq_true (pv_ne h), fun j hj => decide_eq_false (by simpa using pv_zero hj)⟩
 ·rw [if_neg h]
  exact .inl ⟨rfl, fun i hi => decide_eq_false (by simpa using pv_zero (by omega))⟩
theorem pv_of {r : List Int} {p : Nat} (hp : r.getD p 0 ≠ 0) (hz : ∀ j, j < p → r.getD j 0 = 0) : pv r = p ∧ p < r.length := by
 have hl : p < r.length := by
  rcases Nat.lt_or_ge p r.length with h | h
  ·exact h
  ·rw [List.getD_eq_getElem?_getD, List.getElem?_eq_none h] at hp; exact absurd rfl hp
 refine ⟨?_, hl⟩
 rcases Nat.lt_trichotomy (pv r) p with h | h | h
 ·exact absurd (hz _ h) (pv_ne (by omega))
 ·exact h
 ·exact absurd (pv_zero h) hp
theorem getD_map {α β : Type} (f : α → β) (l : List α) (i : Nat) (h : i < l.length) (d : β) (e : α) : (l.map f).getD i d = f (l.getD i e) := by
 rw [getD_get (by simpa using h), getD_get h]; simp
theorem isH_pv {n : Nat} {ps : List Nat} {M : Mx} (h : IsH n ps M) : ps = M.map pv := by
 refine List.ext_getElem (by rw [h.len]; simp) fun i h1 h2 => ?_
 have hi : i < M.length := by simpa using h2
 have hp := h.pos i hi
 have hl := h.left i hi
 rw [getD_get h1] at hp hl
 have := (pv_of (r := M.getD i []) (p := ps[i]) (by show eM M i ps[i] ≠ 0; omega) (fun j hj => hl j hj)).1
 rw [List.getElem_map, ← this, getD_get hi]
theorem take_snocM {F : Mx} {i : Nat} (h : i < F.length) : F.take (i + 1) = F.take i ++ [F[i]] := List.take_succ_eq_append_getElem h
end Go.Proofs.YtjnpakablgommaaGreatDoor
namespace Go.Proofs.YtjnpakablgommaaGreatDoor
open Go.RowKit Go.Sort
open Hnf (V Span Ech Red)
theorem fRows_get {d : Nat} {ls : List Ln} {i : Nat} (hi : i < d) (hd : d ≤ ls.length) (h : i < (fRows d ls).length) : (fRows d ls)[i] = (ls.getD i default).1 := by
 simp only [fRows, List.getElem_map, List.getElem_take, getD_get (show i < ls.length by omega)]
theorem fRows_length {d : Nat} {ls : List Ln} (hd : d ≤ ls.length) : (fRows d ls).length = d := by unfold fRows; simp; omega
theorem Sl.ext' {w w' : World} {ga : Option Addr} {gb go : Nat} {xs : List Value} (h : Sl w ga gb go xs) (he : Ext w w') : Sl w' ga gb go xs := h.ext he
end Go.Proofs.YtjnpakablgommaaGreatDoor
namespace Go.Proofs.YtjnpakablgommaaGreatDoor
open Go.RowKit Go.Sort
def hdX (n : Nat) (ad : List (Nat × Nat)) : List Value := ad.map fun a => slv a.1 n a.2
@[simp] theorem hdX_length (n : Nat) (ad : List (Nat × Nat)) : (hdX n ad).length = ad.length := by simp [hdX]
structure MatX (B : Nat) (w : World) (v : Value) (n : Nat) (F : Mx) (ad : List (Nat × Nat)) : Prop where
 len : ad.length = F.length
 rect : Rect n F
 own : w.ownsRow B 30 1 v F.length (hdX n ad)
 row : ∀ i (h : i < F.length) (h' : i < ad.length), OwnV 3 B w ad[i].1 ad[i].2 (is F[i])
 dis : ∀ i j (hi : i < ad.length) (hj : j < ad.length), i < j → ad[i].1 ≠ ad[j].1
theorem MatX.nil (B : Nat) (w : World) (n : Nat) : MatX B w (.slice none 0 0) n [] [] :=
 ⟨rfl, (fun r h => by cases h), ⟨rfl, .inl ⟨rfl, rfl⟩⟩, (fun i h => by simp at h), (fun i j h => by simp at h)⟩
theorem MatX.ext {B : Nat} {w w' : World} {v : Value} {n : Nat} {F : Mx} {ad : List (Nat × Nat)} (h : MatX B w v n F ad) (he : Ext w w') : MatX B w' v n F ad :=
 ⟨h.len, h.rect, ownsRow_ext h.own he, fun i a b => (h.row i a b).ext he, h.dis⟩
theorem ownV_row {B : Nat} {w : World} {g cap n : Nat} {r : List Int} (h : OwnV 3 B w g cap (is r)) (hn : r.length = n) : RowV B w (slv g n cap) r := by
 subst hn
 unfold RowV
 unfold OwnV at h
 rw [is_length] at h
 exact h
theorem row_ownV {B : Nat} {w : World} {g cap n : Nat} {r : List Int} (h : RowV B w (slv g n cap) r) (hn : r.length = n) : OwnV 3 B w g cap (is r) := by
 subst hn
 unfold RowV at h
 unfold OwnV
 rw [is_length]
 exact h
theorem MatX.lt {B : Nat} {w : World} {v : Value} {n : Nat} {F : Mx} {ad : List (Nat × Nat)} (h : MatX B w v n F ad) : ∀ a ∈ ad, a.1 < w.heap.size := by
 intro a ha
 obtain ⟨i, hi, rfl⟩ := List.getElem_of_mem ha
 exact (h.row i (by rw [← h.len]; exact hi) hi).lt.2
theorem zero_row {B n g : Nat} {w : World} (h : w.ownsRow B 3 1 (.slice (some ⟨g, 0, none⟩) n n) n (madeCells (Value.int .i64 0).cells (n * 1)).toList) : RowV B w (.slice (some ⟨g, 0, none⟩) n n) (List.replicate n 0) := by
 unfold RowV
 have e : (madeCells (Value.int .i64 0).cells (n * 1)).toList = is (List.replicate n 0) := by
  rw [show (Value.int .i64 0).cells = #[.int .i64 0] from rfl, toList_madeCells_one, Nat.mul_one]; simp [is]
 rw [List.length_replicate, ← e]
 exact h
section
variable {w : World} {ops : Array Oper} {rest : List Oper} {o : Oper} {a : Act} {Q : Exit → Act → World → Prop}
end
theorem MatX.two {B : Nat} {w w' : World} {g cap n : Nat} {a b a' b' : List Int} {rest : Mx} {ad : List (Nat × Nat)} {a0 a1 : Nat × Nat} (h : MatX B w (slv g (rest.length + 2) cap) n (a :: b :: rest) (a0 :: a1 :: ad))
  (hC : Chg (fun k => k = a0.1 ∨ k = a1.1) w w') (h0 : OwnV 3 B w' a0.1 a0.2 (is a')) (h1 : OwnV 3 B w' a1.1 a1.2 (is b')) (l0 : a'.length = n) (l1 : b'.length = n) : MatX B w' (slv g (rest.length + 2) cap) n (a' :: b' :: rest) (a0 :: a1 :: ad) := by
 have hg0 : g ≠ a0.1 := fun e => by
  have := own_ne (ownV_row (n := n) (h.row 0 (by simp) (by simp)) (h.rect a (by simp))) h.own (by decide) (g := a0.1) rfl
  exact this (by rw [e]; rfl)
 have hg1 : g ≠ a1.1 := fun e => by
  have := own_ne (ownV_row (n := n) (h.row 1 (by simp) (by simp)) (h.rect b (by simp))) h.own (by decide) (g := a1.1) rfl
  exact this (by rw [e]; rfl)
 have hOw : OwnV 30 B w g cap (hdX n (a0 :: a1 :: ad)) := by
  unfold OwnV
  have hl := h.len
  rw [hdX_length, hl]; exact h.own
 have hOw' := hC.own (fun hk => by rcases hk with hk | hk; exact hg0 hk; exact hg1 hk) hOw
 refine ⟨h.len, fun r hr => ?_, ?_, fun i hi hi' => ?_, h.dis⟩
 ·simp only [List.mem_cons] at hr
  rcases hr with rfl | rfl | hr
  ·exact l0
  ·exact l1
  ·exact h.rect r (by simp [hr])
 ·unfold OwnV at hOw'
  have hl := h.len
  simp only [List.length_cons] at hl ⊢
  rw [hdX_length] at hOw'
  simp only [List.length_cons, hl] at hOw'
  exact hOw'
 ·match i, hi, hi' with
  | 0, _, _ => exact h0
  | 1, _, _ => exact h1
  | i + 2, hi, hi' =>
   have d0 := h.dis 0 (i + 2) (by simp) hi' (by omega)
   have d1 := h.dis 1 (i + 2) (by simp) hi' (by omega)
   simp only [List.length_cons] at hi
   have := h.row (i + 2) (by simp; omega) hi'
   exact hC.own (fun hk => by rcases hk with hk | hk; exact d0 hk.symm; exact d1 hk.symm) this
end Go.Proofs.YtjnpakablgommaaGreatDoor
