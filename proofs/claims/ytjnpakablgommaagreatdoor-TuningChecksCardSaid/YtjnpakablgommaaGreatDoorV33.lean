/- Part 33 of the proof of the claim: contracts of the functions that it reaches, and plain laws; no condition. -/
import Derived.Test.YtjnpakablgommaaGreatDoorV16
import Derived.Test.YtjnpakablgommaaGreatDoorV32
import Derived.Test.YtjnpakablgommaaGreatDoorV26
import Derived.Test.YtjnpakablgommaaGreatDoorV30
import Derived.Test.YtjnpakablgommaaGreatDoorV24
set_option maxRecDepth 100000
namespace Go.Proofs.YtjnpakablgommaaGreatDoor
open Go.RowKit Go.Sort
def GnT (w : World) (v : Value) (K : List (List (List UInt8 × List UInt8))) : Prop := ∃ sa gb go cap vs, v = .slice sa K.length cap ∧ K.length ≤ cap ∧ vs.length = K.length ∧ Sl w sa gb go vs ∧ ∀ i (h : i < K.length) (h' : i < vs.length), SzT w vs[i] K[i]
theorem GnT.ext {w w' : World} {v : Value} {K : List (List (List UInt8 × List UInt8))} (h : GnT w v K) (he : Ext w w') : GnT w' v K := by
 obtain ⟨sa, gb, go, cap, vs, e, hc, hl, hs, hr⟩ := h; exact ⟨sa, gb, go, cap, vs, e, hc, hl, hs.ext he, fun i a b => (hr i a b).ext he⟩
def gnE (np : Nat) : List (List (List UInt8 × List UInt8)) → Int
 | [] => 0
 | L :: K => if szEA np L = 0 then gnE np K else szEA np L
theorem gnE_at {np : Nat} : ∀ {K : List (List (List UInt8 × List UInt8))} {j : Nat} (h : j < K.length), gnE np (K.drop j) = if szEA np K[j] = 0 then gnE np (K.drop (j + 1)) else szEA np K[j]
 | K, j, h => by
  rw [List.drop_eq_getElem_cons h]; rfl
theorem szT_slc {w : World} {v : Value} {L : List (List UInt8 × List UInt8)} (h : SzT w v L) : ∃ a c, v = .slice a L.length c := by
 obtain ⟨a, _, _, c, e, _⟩ := h
 exact ⟨a, c, e⟩
theorem SzR.txt {w : World} {v : Value} {l : List Rat} (h : SzR w v l) : SzT w v (txQ l) := by
 obtain ⟨sa, gb, go, cap, e, hc, ha, hr⟩ := h
 have hl : (txQ l).length = l.length := by simp [txQ]
 refine ⟨sa, gb, go, cap, by rw [hl]; exact e, by rw [hl]; exact hc, by rw [hl]; exact ha, fun i hi => ?_⟩
 have := hr i (by rw [hl] at hi; exact hi)
 simp only [txQ, List.getElem_map]
 exact this
theorem txQ_len {l : List Rat} (h : ShQ l) : ∀ p ∈ txQ l, p.1.length ≤ 1000000 ∧ p.2.length ≤ 1000000 := fun p hp => by
 obtain ⟨r, hr, rfl⟩ := List.mem_map.1 hp
 have h2 := h r hr
 have h3 := itoa_length r.num
 have h4 := itoa_length (r.den : Int)
 constructor
 ·show (Lib.itoa r.num).length ≤ _; split at h3 <;> omega
 ·show (Lib.itoa (r.den : Int)).length ≤ _; split at h4 <;> omega
theorem GnR.txt {w : World} {v : Value} {G : List (List Rat)} (h : GnR w v G) : GnT w v (G.map txQ) := by
 obtain ⟨sa, gb, go, cap, vs, e, hc, hl, hs, hr⟩ := h
 refine ⟨sa, gb, go, cap, vs, by simpa using e, by simpa using hc, by simpa using hl, hs, fun i a b => ?_⟩
 have := (hr i (by simpa using a) b).txt
 simpa using this
set_option maxHeartbeats 1000000 in
theorem szall_txt {w : World} {pa : Option Addr} {np cp : Nat} {v : Value} {K : List (List (List UInt8 × List UInt8))} (hpc : ∀ W, Ext w W → Calls Tryz.prog 48 #[.slice pa np cp] W fun e w' => e = .returned (.int .i64 0) ∧ Ext W w') (hs : GnT w v K) (hb : ∀ L ∈ K, ∀ p ∈ L, p.1.length ≤ 1000000 ∧ p.2.length ≤ 1000000) (h1000 : np ≤ 1000000) (hg : K.length ≤ 1000000) (hL : Laid w) :
  Calls Tryz.prog 84 #[.slice pa np cp, v] w fun e w' => e = .returned (.int .i64 (gnE np K)) ∧ Ext w w' := by
 obtain ⟨sa, gb, go, cap, vs, rfl, hc, hvl, hS, hr⟩ := hs
 have Hr := Lib.hid hr
 have HS := Lib.hid hS
 have Hv := Lib.hid hvl
 have Hb := Lib.hid hb
 have HL := Lib.hid hL
 have Hp := Lib.hid (hpc w (Ext.refl w))
 obtain ⟨n, hn⟩ : ∃ n, n = K.length := ⟨_, rfl⟩
 rw [← hn] at hc hg ⊢
 have Hn := Lib.hid hn
 have H0 := Lib.hid (show gnE np K = gnE np (K.drop 0) from rfl)
 generalize gnE np K = E at *
 clear hr hS hvl hb hL hn hpc
 go_enter Tryz.func84, Tryz.ntmps84
 go_wp2_with fail
 refine Hp.out.mono ?_
 rintro e w0 ⟨rfl, hE0⟩
 go_wp2_with fail
 go_loopw [16] (fun i wr => ∃ j : Nat, j ≤ n ∧ i = .int .i64 j ∧ Hid (E = gnE np (K.drop j)) ∧ Ext w wr) (fun i _ => n - (intOf i).toNat)
 case atStart => exact ⟨0, Nat.zero_le _, by go_num, H0, hE0⟩
 case round =>
  obtain ⟨j, hj, rfl, HA, hE⟩ := hrel
  generalize wr = X at *
  by_cases hlt : j < n
  ·have hjl : j < K.length := by rw [← Hn.out]; exact hlt
   have hjv : j < vs.length := by rw [Hv.out]; exact hjl
   obtain rfl := HS.out.addr (by omega)
   have k0 := HS.out.cell j _ (List.getElem?_eq_getElem hjv)
   have hsz := Hr.out j hjl hjv
   have hck := Lib.hid (fun W (hW : Ext w W) => szcheck_txt (pa := pa) (np := np) (cp := cp) (hsz.ext hW) (Hb.out _ (List.getElem_mem hjl)) h1000 (HL.out.ext hW))
   have HB := Lib.hid (show E = if szEA np K[j] = 0 then gnE np (K.drop (j + 1)) else szEA np K[j] by rw [HA.out]; exact gnE_at hjl)
   obtain ⟨sx, cx, ex⟩ := szT_slc hsz
   rw [ex] at k0 hck
   have x0 := hE.cell k0
   have hji : (j : Int) < (n : Int) := by omega
   generalize K[j].length = m at *
   generalize szEA np K[j] = z at *
   clear hjl hjv k0 ex hsz HA
   by_cases hz : z = 0
   ·subst hz
    have HA := Lib.hid (show E = gnE np (K.drop (j + 1)) by rw [HB.out]; rfl)
    clear HB
    go_wp2_with fail
    refine (hck.out _ hE).mono ?_
    rintro e w1 ⟨rfl, hE1⟩
    have e1 := hE.trans hE1
    clear hck x0
    go_wp2_with fail
    go_roundw
    case rel => exact ⟨j + 1, by omega, by go_num, HA, e1⟩
    case measure => simp [intOf] <;> omega
   ·have HA := Lib.hid (show E = z by rw [HB.out, if_neg hz])
    have h2 : (z == 0) = false := beq_eq_false_iff_ne.2 hz
    have h3 : (z != 0) = true := by simp [bne, h2]
    clear HB hz
    go_wp2_with fail
    refine (hck.out _ hE).mono ?_
    rintro e w1 ⟨rfl, hE1⟩
    go_wp2_with fail
    go_ret
    exact ⟨ret_val (congrArg (Value.int .i64) HA.out.symm), hE.trans hE1⟩
  ·have hje : j = n := by omega
   have hji : ¬ (j : Int) < (n : Int) := by omega
   have HF := Lib.hid (show E = 0 by rw [HA.out, List.drop_eq_nil_of_le (by rw [← Hn.out]; omega)]; rfl)
   clear hlt HA
   go_wp2_with fail
   go_ret
   exact ⟨ret_val (congrArg (Value.int .i64) HF.out.symm), hE⟩
def CkA (w : World) (v : Value) (z : Int) : Prop := ∀ W, Ext w W → Calls Tryz.prog 28 #[v] W (fun e w' => e = .returned (.int .i64 z) ∧ Ext W w') ∧ Calls Tryz.prog 27 #[v] W (fun e w' => e = .returned (.int .i64 z) ∧ Ext W w')
theorem CkA.ext {w w' : World} {v : Value} {z : Int} (h : CkA w v z) (he : Ext w w') : CkA w' v z := fun W hW => h W (he.trans hW)
set_option maxHeartbeats 2000000 in
theorem ckTm_t {w : World} {sp : Option Addr} {np cp : Nat} {sc : Option Addr} {lc cc : Nat} {sm : Option Addr} {lm cm : Nat} {sg : Option Addr} {lg cg : Nat} {z : Int} (hz : z ≠ 0) (htc : ∀ W, Ext w W → Calls Tryz.prog 82 #[.agg #[.slice sp np cp, .slice sc lc cc, .slice sm lm cm]] W fun e w' => e = .returned (.int .i64 z) ∧ Ext W w') :
  Calls Tryz.prog 28 #[.agg #[.slice sp np cp, .slice sc lc cc, .slice sm lm cm, .slice sg lg cg]] w fun e w' => e = .returned (.int .i64 z) ∧ Ext w w' := by
 have h2 : (z == 0) = false := beq_eq_false_iff_ne.2 hz
 have h3 : (z != 0) = true := by simp [bne, h2]
 replace htc := Lib.hid htc
 clear hz
 have hX := (Ext.refl w).alloc (.cells #[.slice sp np cp, .slice sc lc cc, .slice sm lm cm, .slice sg lg cg] 67)
 have x0 : (w.alloc (.cells #[.slice sp np cp, .slice sc lc cc, .slice sm lm cm, .slice sg lg cg] 67)).cell? ⟨w.heap.size, 0, none⟩ = some (.slice sp np cp) := by go_simp
 have x1 : (w.alloc (.cells #[.slice sp np cp, .slice sc lc cc, .slice sm lm cm, .slice sg lg cg] 67)).cell? ⟨w.heap.size, 1, none⟩ = some (.slice sc lc cc) := by go_simp
 have x2 : (w.alloc (.cells #[.slice sp np cp, .slice sc lc cc, .slice sm lm cm, .slice sg lg cg] 67)).cell? ⟨w.heap.size, 2, none⟩ = some (.slice sm lm cm) := by go_simp
 have x3 : (w.alloc (.cells #[.slice sp np cp, .slice sc lc cc, .slice sm lm cm, .slice sg lg cg] 67)).cell? ⟨w.heap.size, 3, none⟩ = some (.slice sg lg cg) := by go_simp
 go_enter Tryz.func28, Tryz.ntmps28
 go_wp2_with fail
 refine (htc.out _ hX).mono ?_
 rintro e X ⟨rfl, hE1⟩
 have e1 := hX.trans hE1
 replace x0 := hE1.cell x0
 replace x1 := hE1.cell x1
 replace x2 := hE1.cell x2
 replace x3 := hE1.cell x3
 clear hE1 htc
 go_wp2_with fail
 go_ret
 exact ⟨rfl, e1⟩
set_option maxHeartbeats 2000000 in
theorem ckTm_l {w : World} {sp : Option Addr} {np cp : Nat} {sc : Option Addr} {lc cc : Nat} {sm : Option Addr} {lm cm : Nat} {sg : Option Addr} {lg cg : Nat} {z : Int} (hz : z ≠ 0) (htc : ∀ W, Ext w W → Calls Tryz.prog 82 #[.agg #[.slice sp np cp, .slice sc lc cc, .slice sm lm cm]] W fun e w' => e = .returned (.int .i64 z) ∧ Ext W w') :
  Calls Tryz.prog 27 #[.agg #[.slice sp np cp, .slice sc lc cc, .slice sm lm cm, .slice sg lg cg]] w fun e w' => e = .returned (.int .i64 z) ∧ Ext w w' := by
 have h2 : (z == 0) = false := beq_eq_false_iff_ne.2 hz
 have h3 : (z != 0) = true := by simp [bne, h2]
 replace htc := Lib.hid htc
 clear hz
 have hX := (Ext.refl w).alloc (.cells #[.slice sp np cp, .slice sc lc cc, .slice sm lm cm, .slice sg lg cg] 67)
 have x0 : (w.alloc (.cells #[.slice sp np cp, .slice sc lc cc, .slice sm lm cm, .slice sg lg cg] 67)).cell? ⟨w.heap.size, 0, none⟩ = some (.slice sp np cp) := by go_simp
 have x1 : (w.alloc (.cells #[.slice sp np cp, .slice sc lc cc, .slice sm lm cm, .slice sg lg cg] 67)).cell? ⟨w.heap.size, 1, none⟩ = some (.slice sc lc cc) := by go_simp
 have x2 : (w.alloc (.cells #[.slice sp np cp, .slice sc lc cc, .slice sm lm cm, .slice sg lg cg] 67)).cell? ⟨w.heap.size, 2, none⟩ = some (.slice sm lm cm) := by go_simp
 have x3 : (w.alloc (.cells #[.slice sp np cp, .slice sc lc cc, .slice sm lm cm, .slice sg lg cg] 67)).cell? ⟨w.heap.size, 3, none⟩ = some (.slice sg lg cg) := by go_simp
 go_enter Tryz.func27, Tryz.ntmps27
 go_wp2_with fail
 refine (htc.out _ hX).mono ?_
 rintro e X ⟨rfl, hE1⟩
 have e1 := hX.trans hE1
 replace x0 := hE1.cell x0
 replace x1 := hE1.cell x1
 replace x2 := hE1.cell x2
 replace x3 := hE1.cell x3
 clear hE1 htc
 go_wp2_with fail
 go_ret
 exact ⟨rfl, e1⟩
set_option maxHeartbeats 2000000 in
theorem ckLn_t {w : World} {sp : Option Addr} {np cp : Nat} {sc : Option Addr} {lc cc : Nat} {sm : Option Addr} {lm cm : Nat} {sg : Option Addr} {lg cg : Nat} (hl : lg ≠ lm) (htc : ∀ W, Ext w W → Calls Tryz.prog 82 #[.agg #[.slice sp np cp, .slice sc lc cc, .slice sm lm cm]] W fun e w' => e = .returned (.int .i64 0) ∧ Ext W w') :
  Calls Tryz.prog 28 #[.agg #[.slice sp np cp, .slice sc lc cc, .slice sm lm cm, .slice sg lg cg]] w fun e w' => e = .returned (.int .i64 5) ∧ Ext w w' := by
 have hli : ¬ ((lg : Int) = (lm : Int)) := by omega
 have h2 : ((lg : Int) == (lm : Int)) = false := beq_eq_false_iff_ne.2 hli
 have h3 : ((lg : Int) != (lm : Int)) = true := by simp [bne, h2]
 replace htc := Lib.hid htc
 clear hl
 have hX := (Ext.refl w).alloc (.cells #[.slice sp np cp, .slice sc lc cc, .slice sm lm cm, .slice sg lg cg] 67)
 have x0 : (w.alloc (.cells #[.slice sp np cp, .slice sc lc cc, .slice sm lm cm, .slice sg lg cg] 67)).cell? ⟨w.heap.size, 0, none⟩ = some (.slice sp np cp) := by go_simp
 have x1 : (w.alloc (.cells #[.slice sp np cp, .slice sc lc cc, .slice sm lm cm, .slice sg lg cg] 67)).cell? ⟨w.heap.size, 1, none⟩ = some (.slice sc lc cc) := by go_simp
 have x2 : (w.alloc (.cells #[.slice sp np cp, .slice sc lc cc, .slice sm lm cm, .slice sg lg cg] 67)).cell? ⟨w.heap.size, 2, none⟩ = some (.slice sm lm cm) := by go_simp
 have x3 : (w.alloc (.cells #[.slice sp np cp, .slice sc lc cc, .slice sm lm cm, .slice sg lg cg] 67)).cell? ⟨w.heap.size, 3, none⟩ = some (.slice sg lg cg) := by go_simp
 go_enter Tryz.func28, Tryz.ntmps28
 go_wp2_with fail
 refine (htc.out _ hX).mono ?_
 rintro e X ⟨rfl, hE1⟩
 have e1 := hX.trans hE1
 replace x0 := hE1.cell x0
 replace x1 := hE1.cell x1
 replace x2 := hE1.cell x2
 replace x3 := hE1.cell x3
 clear hE1 htc
 go_wp2_with fail
 go_ret
 exact ⟨rfl, e1⟩
set_option maxHeartbeats 2000000 in
theorem ckLn_l {w : World} {sp : Option Addr} {np cp : Nat} {sc : Option Addr} {lc cc : Nat} {sm : Option Addr} {lm cm : Nat} {sg : Option Addr} {lg cg : Nat} (hl : lg ≠ lm) (htc : ∀ W, Ext w W → Calls Tryz.prog 82 #[.agg #[.slice sp np cp, .slice sc lc cc, .slice sm lm cm]] W fun e w' => e = .returned (.int .i64 0) ∧ Ext W w') :
  Calls Tryz.prog 27 #[.agg #[.slice sp np cp, .slice sc lc cc, .slice sm lm cm, .slice sg lg cg]] w fun e w' => e = .returned (.int .i64 5) ∧ Ext w w' := by
 have hli : ¬ ((lg : Int) = (lm : Int)) := by omega
 have h2 : ((lg : Int) == (lm : Int)) = false := beq_eq_false_iff_ne.2 hli
 have h3 : ((lg : Int) != (lm : Int)) = true := by simp [bne, h2]
 replace htc := Lib.hid htc
 clear hl
 have hX := (Ext.refl w).alloc (.cells #[.slice sp np cp, .slice sc lc cc, .slice sm lm cm, .slice sg lg cg] 67)
 have x0 : (w.alloc (.cells #[.slice sp np cp, .slice sc lc cc, .slice sm lm cm, .slice sg lg cg] 67)).cell? ⟨w.heap.size, 0, none⟩ = some (.slice sp np cp) := by go_simp
 have x1 : (w.alloc (.cells #[.slice sp np cp, .slice sc lc cc, .slice sm lm cm, .slice sg lg cg] 67)).cell? ⟨w.heap.size, 1, none⟩ = some (.slice sc lc cc) := by go_simp
 have x2 : (w.alloc (.cells #[.slice sp np cp, .slice sc lc cc, .slice sm lm cm, .slice sg lg cg] 67)).cell? ⟨w.heap.size, 2, none⟩ = some (.slice sm lm cm) := by go_simp
 have x3 : (w.alloc (.cells #[.slice sp np cp, .slice sc lc cc, .slice sm lm cm, .slice sg lg cg] 67)).cell? ⟨w.heap.size, 3, none⟩ = some (.slice sg lg cg) := by go_simp
 go_enter Tryz.func27, Tryz.ntmps27
 go_wp2_with fail
 refine (htc.out _ hX).mono ?_
 rintro e X ⟨rfl, hE1⟩
 have e1 := hX.trans hE1
 replace x0 := hE1.cell x0
 replace x1 := hE1.cell x1
 replace x2 := hE1.cell x2
 replace x3 := hE1.cell x3
 clear hE1 htc
 go_wp2_with fail
 go_ret
 exact ⟨rfl, e1⟩
set_option maxHeartbeats 2000000 in
theorem ckGn_t {w : World} {sp : Option Addr} {np cp : Nat} {sc : Option Addr} {lc cc : Nat} {sm : Option Addr} {cm : Nat} {sg : Option Addr} {lg cg : Nat} {K : List (List (List UInt8 × List UInt8))} (htc : ∀ W, Ext w W → Calls Tryz.prog 82 #[.agg #[.slice sp np cp, .slice sc lc cc, .slice sm lg cm]] W fun e w' => e = .returned (.int .i64 0) ∧ Ext W w') (hpc : ∀ W, Ext w W → Calls Tryz.prog 48 #[.slice sp np cp] W fun e w' => e = .returned (.int .i64 0) ∧ Ext W w') (hs : GnT w (.slice sg lg cg) K) (hb : ∀ L ∈ K, ∀ p ∈ L, p.1.length ≤ 1000000 ∧ p.2.length ≤ 1000000) (h1000 : np ≤ 1000000) (hg : K.length ≤ 1000000) (hL : Laid w) :
  Calls Tryz.prog 28 #[.agg #[.slice sp np cp, .slice sc lc cc, .slice sm lg cm, .slice sg lg cg]] w fun e w' => e = .returned (.int .i64 (gnE np K)) ∧ Ext w w' := by
 replace htc := Lib.hid htc
 have Hp := Lib.hid hpc
 have hal := Lib.hid (fun W (hW : Ext w W) => szall_txt (pa := sp) (np := np) (cp := cp) (fun W2 h2 => hpc W2 (hW.trans h2)) (hs.ext hW) hb h1000 hg (hL.ext hW))
 have Hb := Lib.hid hb
 have HL := Lib.hid hL
 obtain ⟨sg1, gb, go, cg1, vs, eg, hc, hvl, hS, hr⟩ := hs
 injection eg with q1 q2 q3
 subst q1 q3
 have Hn := Lib.hid q2
 rw [← q2] at hg hc
 have Hr := Lib.hid hr
 have HS := Lib.hid hS
 have Hv := Lib.hid hvl
 clear hpc hb hL hvl hS hr q2
 have hX := (Ext.refl w).alloc (.cells #[.slice sp np cp, .slice sc lc cc, .slice sm lg cm, .slice sg lg cg] 67)
 have x0 : (w.alloc (.cells #[.slice sp np cp, .slice sc lc cc, .slice sm lg cm, .slice sg lg cg] 67)).cell? ⟨w.heap.size, 0, none⟩ = some (.slice sp np cp) := by go_simp
 have x1 : (w.alloc (.cells #[.slice sp np cp, .slice sc lc cc, .slice sm lg cm, .slice sg lg cg] 67)).cell? ⟨w.heap.size, 1, none⟩ = some (.slice sc lc cc) := by go_simp
 have x2 : (w.alloc (.cells #[.slice sp np cp, .slice sc lc cc, .slice sm lg cm, .slice sg lg cg] 67)).cell? ⟨w.heap.size, 2, none⟩ = some (.slice sm lg cm) := by go_simp
 have x3 : (w.alloc (.cells #[.slice sp np cp, .slice sc lc cc, .slice sm lg cm, .slice sg lg cg] 67)).cell? ⟨w.heap.size, 3, none⟩ = some (.slice sg lg cg) := by go_simp
 go_enter Tryz.func28, Tryz.ntmps28
 go_wp2_with fail
 refine (htc.out _ hX).mono ?_
 rintro e X ⟨rfl, hE1⟩
 have e1 := hX.trans hE1
 replace x0 := hE1.cell x0
 replace x1 := hE1.cell x1
 replace x2 := hE1.cell x2
 replace x3 := hE1.cell x3
 clear hE1 htc
 go_wp2_with fail
 refine (hal.out _ e1).mono ?_
 rintro e Y ⟨rfl, hE2⟩
 go_wp2_with fail
 go_ret
 exact ⟨rfl, e1.trans hE2⟩
set_option maxHeartbeats 2000000 in
theorem ckGn_l {w : World} {sp : Option Addr} {np cp : Nat} {sc : Option Addr} {lc cc : Nat} {sm : Option Addr} {cm : Nat} {sg : Option Addr} {lg cg : Nat} {K : List (List (List UInt8 × List UInt8))} (htc : ∀ W, Ext w W → Calls Tryz.prog 82 #[.agg #[.slice sp np cp, .slice sc lc cc, .slice sm lg cm]] W fun e w' => e = .returned (.int .i64 0) ∧ Ext W w') (hpc : ∀ W, Ext w W → Calls Tryz.prog 48 #[.slice sp np cp] W fun e w' => e = .returned (.int .i64 0) ∧ Ext W w') (hs : GnT w (.slice sg lg cg) K) (hb : ∀ L ∈ K, ∀ p ∈ L, p.1.length ≤ 1000000 ∧ p.2.length ≤ 1000000) (h1000 : np ≤ 1000000) (hg : K.length ≤ 1000000) (hL : Laid w) :
  Calls Tryz.prog 27 #[.agg #[.slice sp np cp, .slice sc lc cc, .slice sm lg cm, .slice sg lg cg]] w fun e w' => e = .returned (.int .i64 (gnE np K)) ∧ Ext w w' := by
 replace htc := Lib.hid htc
 have Hp := Lib.hid hpc
 have hal := Lib.hid (fun W (hW : Ext w W) => szall_txt (pa := sp) (np := np) (cp := cp) (fun W2 h2 => hpc W2 (hW.trans h2)) (hs.ext hW) hb h1000 hg (hL.ext hW))
 have Hb := Lib.hid hb
 have HL := Lib.hid hL
 obtain ⟨sg1, gb, go, cg1, vs, eg, hc, hvl, hS, hr⟩ := hs
 injection eg with q1 q2 q3
 subst q1 q3
 have Hn := Lib.hid q2
 rw [← q2] at hg hc
 have Hr := Lib.hid hr
 have HS := Lib.hid hS
 have Hv := Lib.hid hvl
 clear hpc hb hL hvl hS hr q2
 have hX := (Ext.refl w).alloc (.cells #[.slice sp np cp, .slice sc lc cc, .slice sm lg cm, .slice sg lg cg] 67)
 have x0 : (w.alloc (.cells #[.slice sp np cp, .slice sc lc cc, .slice sm lg cm, .slice sg lg cg] 67)).cell? ⟨w.heap.size, 0, none⟩ = some (.slice sp np cp) := by go_simp
 have x1 : (w.alloc (.cells #[.slice sp np cp, .slice sc lc cc, .slice sm lg cm, .slice sg lg cg] 67)).cell? ⟨w.heap.size, 1, none⟩ = some (.slice sc lc cc) := by go_simp
 have x2 : (w.alloc (.cells #[.slice sp np cp, .slice sc lc cc, .slice sm lg cm, .slice sg lg cg] 67)).cell? ⟨w.heap.size, 2, none⟩ = some (.slice sm lg cm) := by go_simp
 have x3 : (w.alloc (.cells #[.slice sp np cp, .slice sc lc cc, .slice sm lg cm, .slice sg lg cg] 67)).cell? ⟨w.heap.size, 3, none⟩ = some (.slice sg lg cg) := by go_simp
 go_enter Tryz.func27, Tryz.ntmps27
 go_wp2_with fail
 refine (htc.out _ hX).mono ?_
 rintro e X ⟨rfl, hE1⟩
 have e1 := hX.trans hE1
 replace x0 := hE1.cell x0
 replace x1 := hE1.cell x1
 replace x2 := hE1.cell x2
 replace x3 := hE1.cell x3
 clear hE1 htc
 clear hal
 go_wp2_with fail
 go_loopw [4] (fun iv wr => ∃ j : Nat, j ≤ lg ∧ iv = .int .i64 j ∧ Hid (gnE np K = gnE np (K.drop j)) ∧ Ext X wr) (fun iv _ => lg - (intOf iv).toNat)
 case atStart => exact ⟨0, Nat.zero_le _, by go_num, Lib.hid rfl, Ext.refl _⟩
 case round =>
  obtain ⟨j, hj, rfl, HA, hE⟩ := hrel
  generalize wr = Y at *
  have eY := e1.trans hE
  replace x0 := hE.cell x0
  replace x1 := hE.cell x1
  replace x2 := hE.cell x2
  replace x3 := hE.cell x3
  by_cases hlt : j < lg
  ·have hjl : j < K.length := by rw [← Hn.out]; exact hlt
   have hjv : j < vs.length := by rw [Hv.out]; exact hjl
   obtain rfl := HS.out.addr (by omega)
   have k0 := eY.cell (HS.out.cell j _ (List.getElem?_eq_getElem hjv))
   have hsz := Hr.out j hjl hjv
   have hck := Lib.hid (fun W (hW : Ext w W) => szCheck_txt (pa := sp) (np := np) (cp := cp) (fun W2 h2 => Hp.out W2 (hW.trans h2)) (hsz.ext hW) (Hb.out _ (List.getElem_mem hjl)) h1000 (HL.out.ext hW))
   have HB := Lib.hid (show gnE np K = if szEA np K[j] = 0 then gnE np (K.drop (j + 1)) else szEA np K[j] by rw [HA.out]; exact gnE_at hjl)
   obtain ⟨sx, cx, ex⟩ := szT_slc hsz
   rw [ex] at k0 hck
   have hji : (j : Int) < (lg : Int) := by omega
   generalize K[j].length = m at *
   generalize szEA np K[j] = z at *
   clear hjl hjv ex hsz HA
   go_wp2_with fail
   have d0 : Ext Y Y.drew := (Ext.refl Y).drew
   refine wp_region_held_tail (S := fun W => Ext Y W) 9 (by kernel_rfl) (by simp) ?_
   intro inv
   generalize Y.drew = Y1 at *
   refine wpAnyLH_take (i := 0) (v := .pointer (some ⟨w.heap.size, 0, none⟩)) rfl (by kernel_rfl) (fun _ _ _ h => h) (.inl ⟨by rfl, fun W hW => by go_simp⟩) d0 inv ?_
   intro inv
   go_simp
   refine wpAnyLH_take (i := 1) (v := .pointer (some ⟨w.heap.size, 0, none⟩)) rfl (by kernel_rfl) (fun _ _ _ h => h) (.inl ⟨by rfl, fun W hW => by go_simp⟩) d0 inv ?_
   intro inv
   go_simp
   refine wpAnyLH_take (i := 2) (v := .slice sp np cp) rfl (by kernel_rfl) (fun _ _ _ h => h) (.inl ⟨by rfl, fun W hW => by have z0 := hW.cell x0; go_simp⟩) d0 inv ?_
   intro inv
   go_simp
   refine wpAnyLH_take (i := 3) (v := .pointer (some ⟨w.heap.size, 3, none⟩)) rfl (by kernel_rfl) (fun _ _ _ h => h) (.inl ⟨by rfl, fun W hW => by go_simp⟩) d0 inv ?_
   intro inv
   go_simp
   refine wpAnyLH_take (i := 4) (v := .slice (some ⟨gb, go, none⟩) lg cg) rfl (by kernel_rfl) (fun _ _ _ h => h) (.inl ⟨by rfl, fun W hW => by have z0 := hW.cell x3; go_simp⟩) d0 inv ?_
   intro inv
   go_simp
   refine wpAnyLH_take (i := 5) (v := .int .i64 j) rfl (by kernel_rfl) (fun _ _ _ h => h) (.inl ⟨by rfl, fun W hW => by go_simp⟩) d0 inv ?_
   intro inv
   go_simp
   refine wpAnyLH_take (i := 6) (v := .pointer (some ⟨gb, go + j, none⟩)) rfl (by kernel_rfl) (fun _ _ _ h => h) (.inl ⟨by rfl, fun W hW => by go_simp⟩) d0 inv ?_
   intro inv
   go_simp
   refine wpAnyLH_take (i := 7) (v := .slice sx m cx) rfl (by kernel_rfl) (fun _ _ _ h => h) (.inl ⟨by rfl, fun W hW => by have z0 := hW.cell k0; go_simp⟩) d0 inv ?_
   intro inv
   go_simp
   refine wpAnyLH_oneI (i := 8) rfl (by kernel_rfl) inv (fun inv K0 hK0 => ?_)
   go_simp
   refine (hck.out _ (eY.trans d0)).mono ?_
   rintro e Y2 ⟨rfl, hG⟩
   have d1 := d0.trans hG
   refine hK0 _ _ d1 ?_
   clear hK0
   refine wpAnyLH_end (by kernel_rfl) ?_
   have hE2 := hE.trans d1
   have eF := eY.trans d1
   clear inv d0 d1 hG hck k0
   by_cases hz : z = 0
   ·subst hz
    have HA := Lib.hid (show gnE np K = gnE np (K.drop (j + 1)) by rw [HB.out]; rfl)
    clear HB
    go_wp2_with fail
    go_roundw
    case rel => exact ⟨j + 1, by omega, by go_num, HA, hE2⟩
    case measure => simp [intOf] <;> omega
   ·have HA := Lib.hid (show gnE np K = z by rw [HB.out, if_neg hz])
    have h2 : (z == 0) = false := beq_eq_false_iff_ne.2 hz
    have h3 : (z != 0) = true := by simp [bne, h2]
    clear HB hz
    go_wp2_with fail
    go_ret
    exact ⟨ret_val (congrArg (Value.int .i64) HA.out.symm), eF⟩
  ·obtain rfl : j = lg := by omega
   have hji : ¬ (j : Int) < (j : Int) := by omega
   have HF := Lib.hid (show gnE np K = 0 by rw [HA.out, List.drop_eq_nil_of_le (by rw [← Hn.out]; omega)]; rfl)
   clear hlt HA
   go_wp2_with fail
   go_ret
   exact ⟨ret_val (congrArg (Value.int .i64) HF.out.symm), eY⟩
theorem ckA_tm {w : World} {sp : Option Addr} {np cp : Nat} {sc : Option Addr} {lc cc : Nat} {sm : Option Addr} {lm cm : Nat} {sg : Option Addr} {lg cg : Nat} {z : Int} (hz : z ≠ 0) (htc : ∀ W, Ext w W → Calls Tryz.prog 82 #[.agg #[.slice sp np cp, .slice sc lc cc, .slice sm lm cm]] W fun e w' => e = .returned (.int .i64 z) ∧ Ext W w') : CkA w (.agg #[.slice sp np cp, .slice sc lc cc, .slice sm lm cm, .slice sg lg cg]) z := fun _ hW => ⟨ckTm_t hz (fun W2 h2 => htc W2 (hW.trans h2)), ckTm_l hz (fun W2 h2 => htc W2 (hW.trans h2))⟩
theorem ckA_ln {w : World} {sp : Option Addr} {np cp : Nat} {sc : Option Addr} {lc cc : Nat} {sm : Option Addr} {lm cm : Nat} {sg : Option Addr} {lg cg : Nat} (hl : lg ≠ lm) (htc : ∀ W, Ext w W → Calls Tryz.prog 82 #[.agg #[.slice sp np cp, .slice sc lc cc, .slice sm lm cm]] W fun e w' => e = .returned (.int .i64 0) ∧ Ext W w') : CkA w (.agg #[.slice sp np cp, .slice sc lc cc, .slice sm lm cm, .slice sg lg cg]) 5 := fun _ hW => ⟨ckLn_t hl (fun W2 h2 => htc W2 (hW.trans h2)), ckLn_l hl (fun W2 h2 => htc W2 (hW.trans h2))⟩
theorem ckA_gn {w : World} {sp : Option Addr} {np cp : Nat} {sc : Option Addr} {lc cc : Nat} {sm : Option Addr} {lm cm : Nat} {sg : Option Addr} {lg cg : Nat} {K : List (List (List UInt8 × List UInt8))} (hl : lg = lm) (htc : ∀ W, Ext w W → Calls Tryz.prog 82 #[.agg #[.slice sp np cp, .slice sc lc cc, .slice sm lm cm]] W fun e w' => e = .returned (.int .i64 0) ∧ Ext W w') (hpc : ∀ W, Ext w W → Calls Tryz.prog 48 #[.slice sp np cp] W fun e w' => e = .returned (.int .i64 0) ∧ Ext W w') (hs : GnT w (.slice sg lg cg) K) (hb : ∀ L ∈ K, ∀ p ∈ L, p.1.length ≤ 1000000 ∧ p.2.length ≤ 1000000) (h1000 : np ≤ 1000000) (hg : K.length ≤ 1000000) (hL : Laid w) : CkA w (.agg #[.slice sp np cp, .slice sc lc cc, .slice sm lm cm, .slice sg lg cg]) (gnE np K) := by
 subst hl
 exact fun _ hW =>
 ⟨ckGn_t (fun W2 h2 => htc W2 (hW.trans h2)) (fun W2 h2 => hpc W2 (hW.trans h2)) (hs.ext hW) hb h1000 hg (hL.ext hW), ckGn_l (fun W2 h2 => htc W2 (hW.trans h2)) (fun W2 h2 => hpc W2 (hW.trans h2)) (hs.ext hW) hb h1000 hg (hL.ext hW)⟩
theorem isPrime_one {w : World} : Calls Tryz.prog 107 #[.int .i64 1] w fun e w' => e = .returned (.bool false) ∧ Ext w w' := by
 go_enter Tryz.func107, Tryz.ntmps107
 go_wp2_with fail
 go_ret
 exact ⟨rfl, Ext.refl w⟩
set_option maxHeartbeats 1000000 in
theorem pCheck_one {w : World} {sp : Option Addr} {m n cap : Nat} {p : List Int} (hp : RowR w (.slice sp m cap) (p ++ [1])) (hm : m = n + 1) (hn : n = p.length) (h6 : n ≤ 4) (hP : ∀ x ∈ p, SmP x) (hinc : ∀ i (h : i + 1 < p.length), p[i]'(by omega) < p[i + 1]) :
  Calls Tryz.prog 48 #[.slice sp m cap] w fun e w' => e = .returned (.int .i64 25) ∧ Ext w w' := by
 obtain ⟨sa, gb, go, cap', e0, hc, hS⟩ := hp
 injection e0 with q1 q2 q3
 clear q2
 subst q1 q3
 have HS := Lib.hid hS
 have HP := Lib.hid hP
 have HI := Lib.hid hinc
 obtain rfl := hS.addr (by simp)
 have Hn := Lib.hid hn
 have c1 := Lib.hid (HS.out.cell n (.int .i64 1) (by rw [hn]; simp [is]))
 have hz : ¬ (m : Int) = 0 := by omega
 have hz2 : ((m : Int) == 0) = false := beq_eq_false_iff_ne.2 hz
 have h6' : ¬ (m : Int) > 6 := by omega
 rw [List.length_append, List.length_singleton, ← hn, ← hm] at hc
 have Hm := Lib.hid hm
 clear hS hP hinc hn hm
 go_enter Tryz.func48, Tryz.ntmps48
 go_wp2_with fail
 go_loopw [15] (fun idx wr => ∃ i : Nat, i ≤ n ∧ idx = .int .i64 i ∧ Ext w wr) (fun idx _ => n - (intOf idx).toNat)
 case atStart => exact ⟨0, by omega, by go_num, Ext.refl _⟩
 case round =>
  obtain ⟨i, hi, rfl, hE⟩ := hrel
  generalize wr = X at *
  by_cases hlt : i < n
  ·have hii : (i : Int) < (m : Int) := by have := Hm.out; omega
   have hil : i < p.length := by rw [← Hn.out]; exact hlt
   obtain ⟨x, hx⟩ : ∃ x, x = p[i] := ⟨_, rfl⟩
   have cx := hE.cell (HS.out.cell i (.int .i64 x) (by rw [hx]; simp [is, List.getElem?_append_left, hil]))
   have hpr := Lib.hid (fun W => isPrime_ok (w := W) (n := x) (by rw [hx]; exact HP.out _ (List.getElem_mem hil)))
   cases i with
   | zero =>
    simp only [Nat.add_zero] at cx
    clear hx
    go_wp2_with fail
    refine (hpr.out _).mono ?_
    rintro e W ⟨rfl, hW⟩
    have hEW := hE.trans hW
    go_wp2_with fail
    refine ⟨⟨1, by omega, by go_num, hEW⟩, by simp [intOf]; omega⟩
   | succ j =>
    obtain ⟨y, hy⟩ : ∃ y, y = p[j]'(by omega) := ⟨_, rfl⟩
    have hjl : j < p.length := by omega
    have cy := hE.cell (HS.out.cell j (.int .i64 y) (by rw [hy]; simp [is, List.getElem?_append_left, hjl]))
    have hxy : ¬ x ≤ y := by have := HI.out j hil; rw [← hx, ← hy] at this; omega
    have hw1 : IntKind.i64.wrap (((j + 1 : Nat) : Int) - 1) = (j : Int) := by rw [IntWalk.i64_in _ (by omega)]; omega
    have hw2 : IntKind.i64.wrap ((j : Int) + 1 - 1) = (j : Int) := by rw [IntWalk.i64_in _ (by omega)]; omega
    have hj0 : ((j + 1 : Nat) : Int) > 0 := by omega
    have hj1 : (0 : Int) < (j : Int) + 1 := by omega
    have hj2 : (j : Int) < (m : Int) := by omega
    clear hx hy hil hjl
    go_wp2_with fail
    refine (hpr.out _).mono ?_
    rintro e W ⟨rfl, hW⟩
    replace cx := hW.cell cx
    replace cy := hW.cell cy
    have hEW := hE.trans hW
    go_wp2_with fail
    refine ⟨⟨j + 1 + 1, by omega, by go_num, hEW⟩, by simp [intOf]; omega⟩
  ·obtain rfl : i = n := by omega
   have cx := hE.cell c1.out
   have hii : (i : Int) < (m : Int) := by have := Hm.out; omega
   clear c1
   go_wp2_with fail
   refine isPrime_one.mono ?_
   rintro e W ⟨rfl, hW⟩
   have hEW := hE.trans hW
   go_wp2_with fail
   go_ret
   exact ⟨rfl, hEW⟩
set_option maxHeartbeats 1000000 in
theorem tCheck_bad {w : World} {sp : Option Addr} {np cp : Nat} {sc : Option Addr} {lc cc : Nat} {sm : Option Addr} {lm cm : Nat} {z : Int} (hz : z ≠ 0) (hpc : ∀ W, Ext w W → Calls Tryz.prog 48 #[.slice sp np cp] W fun e w' => e = .returned (.int .i64 z) ∧ Ext W w') :
  Calls Tryz.prog 82 #[.agg #[.slice sp np cp, .slice sc lc cc, .slice sm lm cm]] w fun e w' => e = .returned (.int .i64 z) ∧ Ext w w' := by
 have h2 : (z == 0) = false := beq_eq_false_iff_ne.2 hz
 have h3 : (z != 0) = true := by simp [bne, h2]
 have hX := (Ext.refl w).alloc (.cells #[.slice sp np cp, .slice sc lc cc, .slice sm lm cm] 34)
 have x0 : (w.alloc (.cells #[.slice sp np cp, .slice sc lc cc, .slice sm lm cm] 34)).cell? ⟨w.heap.size, 0, none⟩ = some (.slice sp np cp) := by go_simp
 have Hp := Lib.hid (hpc _ hX)
 clear hpc hz
 go_enter Tryz.func82, Tryz.ntmps82
 go_wp2_with fail
 refine Hp.out.mono ?_
 rintro e X ⟨rfl, hE1⟩
 have e1 := hX.trans hE1
 clear x0 Hp hE1
 go_wp2_with fail
 go_ret
 exact ⟨rfl, e1⟩
variable {w : World} {P : List Int} {C M M' : Mx} {sp : Option Addr} {cp : Nat} {sc : Option Addr} {lc cc : Nat} {sm : Option Addr} {lm cm : Nat} {sg : Option Addr} {lg cg : Nat}
theorem tmE_zero : tmE M M = 0 := if_pos rfl
theorem spo_tc (hT : TmV w P C M M sp cp sc lc cc sm lm cm) (hL : Laid w) : ∀ W, Ext w W → Calls Tryz.prog 82 #[.agg #[.slice sp P.length cp, .slice sc lc cc, .slice sm lm cm]] W fun e w' => e = .returned (.int .i64 0) ∧ Ext W w' := fun W hW => by
 have h := tCheck_any (hT.ext hW) (hL.ext hW)
 rw [tmE_zero] at h
 exact h
theorem spo_gn {K : List (List (List UInt8 × List UInt8))} (hT : TmV w P C M M sp cp sc lc cc sm lm cm) (hL : Laid w) (hl : lg = lm) (hs : GnT w (.slice sg lg cg) K) (hb : ∀ L ∈ K, ∀ p ∈ L, p.1.length ≤ 1000000 ∧ p.2.length ≤ 1000000) (hg : K.length ≤ 1000000) : CkA w (tuS P sp cp sc lc cc sm lm cm sg lg cg) (gnE P.length K) :=
 ckA_gn hl (spo_tc hT hL) hT.pchk hs hb (by have := hT.ok.p4; omega) hg hL
theorem spo_ln (hT : TmV w P C M M sp cp sc lc cc sm lm cm) (hL : Laid w) (hl : lg ≠ lm) : CkA w (tuS P sp cp sc lc cc sm lm cm sg lg cg) 5 := ckA_ln hl (spo_tc hT hL)
theorem spo_mp (hT : TmV w P C M M' sp cp sc lc cc sm lm cm) (hL : Laid w) (hne : M ≠ M') : CkA w (tuS P sp cp sc lc cc sm lm cm sg lg cg) 14 :=
 ckA_tm (by decide) fun W hW => by
  have h := tCheck_any (hT.ext hW) (hL.ext hW)
  rw [show tmE M M' = 14 from if_neg hne] at h
  exact h
theorem spo_pr {m : Nat} (hT : TmV w P C M M sp cp sc lc cc sm lm cm) {sq : Option Addr} {cq : Nat} (hm : m = P.length + 1) (hq : RowR w (.slice sq m cq) (P ++ [1])) : CkA w (.agg #[.slice sq m cq, .slice sc lc cc, .slice sm lm cm, .slice sg lg cg]) 25 :=
 ckA_tm (by decide) fun W0 h0 => tCheck_bad (by decide) fun W hW => pCheck_one (hq.ext (h0.trans hW)) hm rfl hT.ok.p4 hT.ok.pr hT.ok.inc
def Nr (w w2 : World) : Prop := ∃ w3, Ext w w3 ∧ (w2 = w3 ∨ ∃ b, OwnV 67 0 w3 b 4 [.slice none 0 0, .slice none 0 0, .slice none 0 0, .slice none 0 0] ∧ w3.grownBy w2 (some b))
theorem OwnV.nr {T : TypeId} {B : Nat} {w w2 : World} {g cap : Nat} {xs : List Value} (h : OwnV T B w g cap xs) (hT : T ≠ 67) (hn : Nr w w2) : OwnV T B w2 g cap xs := by
 obtain ⟨w3, hE, rfl | ⟨b, ho, hg⟩⟩ := hn
 ·exact h.ext hE
 ·exact OwnV.of_row (own_kept ((h.ext hE).row rfl) (ho.row rfl) hT hg)
theorem rowV_nr {B : Nat} {w w2 : World} {v : Value} {r : List Int} (h : RowV B w v r) (hn : Nr w w2) : RowV B w2 v r := by
 obtain ⟨w3, hE, rfl | ⟨b, ho, hg⟩⟩ := hn
 ·exact h.ext hE
 ·exact own_kept (RowV.ext h hE) (ho.row rfl) (by decide) hg
structure Kp (w w2 : World) : Prop where
 row : ∀ v r, RowR w v r → RowR w2 v r
 mat : ∀ v M, (∀ r ∈ M, 0 < r.length) → MatR w v M → MatR w2 v M
 siz : ∀ v l, SzR w v l → SzR w2 v l
theorem szR_off {T : TypeId} {B : Nat} {w w' : World} {b : Nat} {v : Value} {l : List Rat} (h : SzR w v l) (ho : OwnV T B w b 4 [.slice none 0 0, .slice none 0 0, .slice none 0 0, .slice none 0 0]) (hg : w.grownBy w' (some b)) : SzR w' v l := by
 obtain ⟨sa, gb, go, cap, e, hc, ha, hr⟩ := h
 refine ⟨sa, gb, go, cap, e, hc, ha, fun i hi => ?_⟩
 obtain ⟨h0, h1⟩ := hr i hi
 have hne : gb ≠ b := fun hb => by
  subst hb
  have h2 := nil4 ho h0
  cases h2
 exact ⟨grown_frozen_cell hg hne h0, grown_frozen_cell hg hne h1⟩
theorem Kp.of {w w3 w2 : World} {b : Nat} (hE : Ext w w3) (ho : OwnV 67 0 w3 b 4 [.slice none 0 0, .slice none 0 0, .slice none 0 0, .slice none 0 0]) (hg : w3.grownBy w2 (some b)) : Kp w w2 :=
 ⟨fun _ _ h => row_off (h.ext hE) ho hg, fun _ _ hM h => mat_off (h.ext hE) hM ho hg, fun _ _ h => szR_off (h.ext hE) ho hg⟩
theorem TmV.kp {w w2 : World} {P : List Int} {C M : Mx} {sp : Option Addr} {cp : Nat} {sc : Option Addr} {lc cc : Nat} {sm : Option Addr} {lm cm : Nat} (h : TmV w P C M M sp cp sc lc cc sm lm cm) (hk : Kp w w2) : TmV w2 P C M M sp cp sc lc cc sm lm cm := by
 obtain ⟨psC, hIC⟩ := h.ok.kC.1
 obtain ⟨psM, hIM⟩ := h.ok.kM.1
 have hp0 := h.ok.p0
 exact ⟨h.ok, hk.row _ _ h.hP, hk.mat _ _ (fun r hr => by rw [hIC.rect r hr]; exact hp0) h.hC, hk.mat _ _ (fun r hr => by rw [hIM.rect r hr]; exact hp0) h.hM⟩
theorem run_app_zero {P : Program} {w : World} (t ty e : TypeId) (i : TypeInfo) (ht : P.underlying t = some (.slice e)) (hi : P.info? e = some i) (b : Addr) (sa : Option Addr) (c : Nat) :
  (Builtin.append_ #[t, t] ty #[.slice (some b) 0 0, .slice sa 0 c]).run P w = .ok (.slice (some b) 0 0) w := by
 have hst : Sem.run P (storeCells (b.add 0) []) w = .ok () w := rfl
 cases sa with
 | none => simp [Builtin.append_, run_underlying ht, sizeOf, typeInfo, hi, Builtin.lenOf, run_firstCells_none, hst]
 | some a =>
  have hf := run_firstCells_some (P := P) w i.size 0 a 0 c [] (by simp) (by simp)
  simp [Builtin.append_, run_underlying ht, sizeOf, typeInfo, hi, Builtin.lenOf, hf, hst]
theorem wpList_spread {P : Program} {w : World} {ops : Array Oper} {rest : List Oper} {o : Oper} {a : Act} {Q : Exit → Act → World → Prop} (hgd : o.guard = none) (s x : Operand) (t : TypeId)
  (ho : o.op = .call { callee := .builtin .append, args := #[s, x], argTypes := #[t, t] })
  (B : Nat) (e : TypeId) (i : TypeInfo) (z : Value) (bytes : Nat) (ht : P.underlying t = some (.slice e)) (hi : P.info? e = some i) (hz : i.zero = some z)
  (hsize : i.size = 1) (hby : i.bytes = bytes) (hzs : z.cells.size = 1)
  (b : Nat) (hs : a.eval s = slv b 0 0) (hown : OwnV e B w b 0 [])
  (sa : Option Addr) (gb go m c : Nat) (news : List Value) (hx : a.eval x = .slice sa m c) (hl : news.length = m) (hS : Sl w sa gb go news) (h1 : ∀ u ∈ news, u.oneCell' = true)
  (hb2 : m * bytes ≤ 140737488355328) (h63 : m ≤ maxLen) (hB : B ≤ w.heap.size)
  (h : ∀ g cap w', OwnV e B w' g cap news → w.grownBy w' (some b) → wpList P ops Q rest (a.put o.dst (slv g m cap)) w') : wpList P ops Q (o :: rest) a w := by
 by_cases hm : m = 0
 ·subst hm
  obtain rfl := List.eq_nil_of_length_eq_zero hl
  refine wpList_plain hgd fun K hK => ?_
  have hr := run_app_zero (P := P) (w := w) t o.type e i ht hi ⟨b, 0, none⟩ sa c
  unfold Oper.wp execOp
  simp only [ho, resolve, invoke, builtin, Sem.run_bind, Sem.run_pure, Result.andThen_ok, List.map_toArray, List.map_cons, List.map_nil, hs, hx, slv, hr]
  exact hK _ _ (h b 0 w hown (World.grownBy.refl _ _))
 ·obtain rfl := hS.addr (by omega)
  refine wpList_append_lies w hgd s x t ho B e i z 1 bytes ht hi hz hsize hby hzs (by omega) (slv b 0 0) 0 [] hs hown ⟨gb, go, none⟩ m c news hx (by omega) (fun j u hj => by
   simpa [Addr.add_lit] using hS.cell j u hj) h1 (by omega) (by omega) (by rw [Nat.zero_add]; exact hb2) hB w.heap.size rfl fun g cap w' k1 k2 _ _ => ?_
  rw [Nat.zero_add] at k1 ⊢
  refine h g cap w' ?_ k2
  unfold OwnV
  rw [hl]
  simpa using k1
section
variable {w : World} {ops : Array Oper} {o : Oper} {a : Act} {K : Act → World → Prop} {Q : Exit → Act → World → Prop} {E : Prop}
theorem step_append_mat (hgd : o.guard = none) (s x : Operand) (ho : o.op = .call { callee := .builtin .append, args := #[s, x], argTypes := #[32, 32] })
  {B ga : Nat} (hs : a.eval s = slv ga 0 0) (hO : OwnV 30 B w ga 0 []) {sa : Option Addr} {gb go n cap : Nat} {vs : List Value} (hx : a.eval x = .slice sa n cap) (hS : Sl w sa gb go vs) (hvn : vs.length = n) (hone : ∀ u ∈ vs, u.oneCell' = true) (hn : n ≤ 1000000) (hB : B ≤ w.heap.size)
  (h : ∀ g c w', OwnV 30 B w' g c vs → Below B w w' → w.grownBy w' (some ga) → K (a.put o.dst (slv g n c)) w') :
  if Region.wanted o (yielded ops a.tmps) = true then Oper.wp Tryz.prog o a w K Q else E := by
 obtain ⟨i0, hi, hz0, hz1, hz2⟩ := info_parts Tryz.infoRow
 rcases Nat.eq_zero_or_pos n with h0 | h0
 ·subst h0
  have hvs : vs = [] := List.eq_nil_of_length_eq_zero hvn
  subst hvs
  have hw : Region.wanted o (yielded ops a.tmps) = true := by simp [Region.wanted, hgd]
  rw [if_pos hw]
  have hrun : (Builtin.append_ #[32, 32] o.type #[slv ga 0 0, .slice sa 0 cap]).run Tryz.prog w = .ok (slv ga 0 0) w := by
   rcases sa with _ | ad
   ·simp [Builtin.append_, run_underlying Tryz.underlying32, sizeOf, typeInfo, hi, Builtin.lenOf, Builtin.firstCells, storeCells]
   ·simp [Builtin.append_, run_underlying Tryz.underlying32, sizeOf, typeInfo, hi, Builtin.lenOf, Builtin.firstCells, storeCells, loadCells, loadCellsFrom]
  unfold Oper.wp execOp
  simp only [ho, resolve, invoke, builtin, Sem.run_bind, Sem.run_pure, Result.andThen_ok, List.map_toArray, List.map_cons, List.map_nil, hs, hx, hrun]
  exact h ga 0 w hO (Below.refl _ _) ⟨rfl, rfl, rfl, Nat.le_refl _, fun _ _ _ => rfl⟩
 ·obtain rfl := hS.addr (by omega)
  refine step_append_lies w hgd s x 32 ho B 30 i0 _ 1 24 Tryz.underlying32 hi hz0 hz1 hz2 rfl (by omega) (slv ga 0 0) 0 [] hs (hO.row rfl) ⟨gb, go, none⟩ n cap vs hx (by omega) ?_ hone h0 (by unfold maxLen; omega) (by omega) hB w.heap.size rfl ?_
  ·intro j u hj
   rw [Lib.add_plain]; exact hS.cell j u hj
  ·intro g c w' k1 k2 k3 k4
   rw [Nat.zero_add]
   refine h g c w' ?_ (Below.grown (Below.refl _ _) k2 hB (fun q hq => (World.ownsRow.lt (hO.row rfl) q hq).1)) k2
   rw [Nat.zero_add, List.nil_append] at k1
   exact OwnV.of_row k1
theorem step_append_one (hgd : o.guard = none) (s x : Operand) (ho : o.op = .call { callee := .builtin .append, args := #[s, x], argTypes := #[32, 32] })
  {B g c n : Nat} {vs : List Value} (hs : a.eval s = slv g n c) (hO : OwnV 30 B w g c vs) (hvn : vs.length = n) {b : Nat} {u : Value} (hx : a.eval x = .slice (some ⟨b, 0, none⟩) 1 1) (hc : w.cell? ⟨b, 0, none⟩ = some u) (hu : u.oneCell' = true) (hn : n ≤ 1000000) (hB : B ≤ w.heap.size)
  (h : ∀ g' c' w', OwnV 30 B w' g' c' (vs ++ [u]) → Below B w w' → w.grownBy w' (some g) → K (a.put o.dst (slv g' (n + 1) c')) w') :
  if Region.wanted o (yielded ops a.tmps) = true then Oper.wp Tryz.prog o a w K Q else E := by
 obtain ⟨i0, hi, hz0, hz1, hz2⟩ := info_parts Tryz.infoRow
 refine step_append_lies w hgd s x 32 ho B 30 i0 _ 1 24 Tryz.underlying32 hi hz0 hz1 hz2 rfl (by omega) (slv g n c) n vs hs (hO.row hvn) ⟨b, 0, none⟩ 1 1 [u] hx rfl ?_ (by intro v hv; simp only [List.mem_cons, List.not_mem_nil, or_false] at hv; subst hv; exact hu) (by omega) (by unfold maxLen; omega) (by omega) hB w.heap.size rfl ?_
 ·intro j v hj
  have : j = 0 := by have := (List.getElem?_eq_some_iff.1 hj).1; simp at this; omega
  subst this
  simp only [List.getElem?_cons_zero, Option.some.injEq] at hj
  subst hj
  simpa [Addr.add_lit] using hc
 ·intro g' c' w' k1 k2 k3 k4
  exact h g' c' w' (OwnV.of_row k1) (Below.grown (Below.refl _ _) k2 hB (fun q hq => (World.ownsRow.lt (hO.row hvn) q hq).1)) k2
theorem step_make_row (hgd : o.guard = none) (l c : Operand) (hop : o.op = Op.makeSlice 30 l c) {n : Nat} (hl : a.eval l = .int .i64 n) (hc : a.eval c = .int .i64 n) (hn : n ≤ 1000000)
  (h : ∀ w', RowV w.heap.size w' (slv w.heap.size n n) (List.replicate n 0) → w.grownBy w' none → K (a.put o.dst (slv w.heap.size n n)) w') :
  if Region.wanted o (yielded ops a.tmps) = true then Oper.wp Tryz.prog o a w K Q else E := by
 obtain ⟨i0, hi, hz0, hz1, hz2⟩ := info_parts Tryz.infoInt
 have hw : Region.wanted o (yielded ops a.tmps) = true := by simp [Region.wanted, hgd]
 rw [if_pos hw]
 obtain ⟨w', hrun, r1, r2⟩ := run_make_full (P := Tryz.prog) w w.heap.size 30 3 i0 (.int .i64 0) 1 Tryz.underlying30 hi hz0 hz1 .i64 .i64 n (by rw [hz2]; omega) (by unfold maxLen; omega) (Nat.le_refl _)
 unfold Oper.wp
 simp [execOp, hop, hl, hc, hrun, Result.andThen]
 exact h w' (zero_row r1) r2
end
theorem mat_of_own {B : Nat} {w : World} {g c : Nat} {vs : List Value} {M : Mx} (h : OwnV 30 B w g c vs) (hl : vs.length = M.length) (hr : ∀ i (h : i < M.length) (h' : i < vs.length), RowR w vs[i] M[i]) : MatR w (slv g M.length c) M :=
 ⟨_, g, 0, c, vs, rfl, by have := h.cap; omega, hl, h.sl, hr⟩
end Go.Proofs.YtjnpakablgommaaGreatDoor
