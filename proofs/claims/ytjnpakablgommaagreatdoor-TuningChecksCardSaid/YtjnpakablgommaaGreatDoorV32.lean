/- Part 32 of the proof of the claim: contracts of the functions that it reaches, and plain laws; no condition. -/
import Derived.Test.YtjnpakablgommaaGreatDoorV31
set_option maxRecDepth 100000
namespace Go.Proofs.YtjnpakablgommaaGreatDoor
open Go.RowKit Go.Sort
theorem tuSize_err {w : World} {sp : Option Addr} {np cp : Nat} {sc : Option Addr} {lc cc : Nat} {sm : Option Addr} {lm cm : Nat} {sg : Option Addr} {lg cg : Nat} {z : Int} {v : Value} (hz : z ≠ 0) (hck : ∀ W, Ext w W → Calls Tryz.prog 28 #[.agg #[.slice sp np cp, .slice sc lc cc, .slice sm lm cm, .slice sg lg cg]] W fun e w' => e = .returned (.int .i64 z) ∧ Ext W w') :
  Calls Tryz.prog 29 #[.agg #[.slice sp np cp, .slice sc lc cc, .slice sm lm cm, .slice sg lg cg], v] w fun e w' => e = .returned (.tuple #[.slice none 0 0, .int .i64 z]) ∧ Ext w w' := by
 have hck := Lib.hid hck
 have h2 : (z == 0) = false := beq_eq_false_iff_ne.2 hz
 have h3 : (z != 0) = true := by simp [bne, h2]
 have hX := (Ext.refl w).alloc (.cells #[.slice sp np cp, .slice sc lc cc, .slice sm lm cm, .slice sg lg cg] 67)
 have x0 : (w.alloc (.cells #[.slice sp np cp, .slice sc lc cc, .slice sm lm cm, .slice sg lg cg] 67)).cell? ⟨w.heap.size, 0, none⟩ = some (.slice sp np cp) := by go_simp
 have x1 : (w.alloc (.cells #[.slice sp np cp, .slice sc lc cc, .slice sm lm cm, .slice sg lg cg] 67)).cell? ⟨w.heap.size, 1, none⟩ = some (.slice sc lc cc) := by go_simp
 have x2 : (w.alloc (.cells #[.slice sp np cp, .slice sc lc cc, .slice sm lm cm, .slice sg lg cg] 67)).cell? ⟨w.heap.size, 2, none⟩ = some (.slice sm lm cm) := by go_simp
 have x3 : (w.alloc (.cells #[.slice sp np cp, .slice sc lc cc, .slice sm lm cm, .slice sg lg cg] 67)).cell? ⟨w.heap.size, 3, none⟩ = some (.slice sg lg cg) := by go_simp
 clear hz
 go_enter Tryz.func29, Tryz.ntmps29
 go_wp2_with fail
 refine (hck.out _ hX).mono ?_
 rintro e X ⟨rfl, hE1⟩
 have e1 := hX.trans hE1
 go_wp2_with fail
 go_ret2
 exact ⟨rfl, e1⟩
theorem tempered_err {w : World} {sp : Option Addr} {np cp : Nat} {sc : Option Addr} {lc cc : Nat} {sm : Option Addr} {lm cm : Nat} {sg : Option Addr} {lg cg : Nat} {z : Int} {v : Value} (hz : z ≠ 0) (hck : ∀ W, Ext w W → Calls Tryz.prog 28 #[.agg #[.slice sp np cp, .slice sc lc cc, .slice sm lm cm, .slice sg lg cg]] W fun e w' => e = .returned (.int .i64 z) ∧ Ext W w') :
  Calls Tryz.prog 88 #[.agg #[.slice sp np cp, .slice sc lc cc, .slice sm lm cm, .slice sg lg cg], v] w fun e w' => e = .returned (.tuple #[.slice none 0 0, .int .i64 z]) ∧ Ext w w' := by
 have hck := Lib.hid hck
 have h2 : (z == 0) = false := beq_eq_false_iff_ne.2 hz
 have h3 : (z != 0) = true := by simp [bne, h2]
 have hX := (Ext.refl w).alloc (.cells #[.slice sp np cp, .slice sc lc cc, .slice sm lm cm, .slice sg lg cg] 67)
 have x0 : (w.alloc (.cells #[.slice sp np cp, .slice sc lc cc, .slice sm lm cm, .slice sg lg cg] 67)).cell? ⟨w.heap.size, 0, none⟩ = some (.slice sp np cp) := by go_simp
 have x1 : (w.alloc (.cells #[.slice sp np cp, .slice sc lc cc, .slice sm lm cm, .slice sg lg cg] 67)).cell? ⟨w.heap.size, 1, none⟩ = some (.slice sc lc cc) := by go_simp
 have x2 : (w.alloc (.cells #[.slice sp np cp, .slice sc lc cc, .slice sm lm cm, .slice sg lg cg] 67)).cell? ⟨w.heap.size, 2, none⟩ = some (.slice sm lm cm) := by go_simp
 have x3 : (w.alloc (.cells #[.slice sp np cp, .slice sc lc cc, .slice sm lm cm, .slice sg lg cg] 67)).cell? ⟨w.heap.size, 3, none⟩ = some (.slice sg lg cg) := by go_simp
 clear hz
 go_enter Tryz.func88, Tryz.ntmps88
 go_wp2_with fail
 refine (hck.out _ hX).mono ?_
 rintro e X ⟨rfl, hE1⟩
 have e1 := hX.trans hE1
 go_wp2_with fail
 go_ret2
 exact ⟨rfl, e1⟩
theorem tuOf_err {w : World} {sp : Option Addr} {np cp : Nat} {sc : Option Addr} {lc cc : Nat} {sm : Option Addr} {lm cm : Nat} {sg : Option Addr} {lg cg : Nat} {z : Int} {v : Value} (hz : z ≠ 0) (hck : ∀ W, Ext w W → Calls Tryz.prog 28 #[.agg #[.slice sp np cp, .slice sc lc cc, .slice sm lm cm, .slice sg lg cg]] W fun e w' => e = .returned (.int .i64 z) ∧ Ext W w') :
  Calls Tryz.prog 30 #[.agg #[.slice sp np cp, .slice sc lc cc, .slice sm lm cm, .slice sg lg cg], v] w fun e w' => e = .returned (.tuple #[.slice none 0 0, .int .i64 z]) ∧ Ext w w' := by
 have hck := fun W (hW : Ext w W) => tempered_err (w := W) (v := v) hz (fun W2 h2 => hck W2 (hW.trans h2))
 have hck := Lib.hid hck
 have h2 : (z == 0) = false := beq_eq_false_iff_ne.2 hz
 have h3 : (z != 0) = true := by simp [bne, h2]
 have hX := (Ext.refl w).alloc (.cells #[.slice sp np cp, .slice sc lc cc, .slice sm lm cm, .slice sg lg cg] 67)
 have x0 : (w.alloc (.cells #[.slice sp np cp, .slice sc lc cc, .slice sm lm cm, .slice sg lg cg] 67)).cell? ⟨w.heap.size, 0, none⟩ = some (.slice sp np cp) := by go_simp
 have x1 : (w.alloc (.cells #[.slice sp np cp, .slice sc lc cc, .slice sm lm cm, .slice sg lg cg] 67)).cell? ⟨w.heap.size, 1, none⟩ = some (.slice sc lc cc) := by go_simp
 have x2 : (w.alloc (.cells #[.slice sp np cp, .slice sc lc cc, .slice sm lm cm, .slice sg lg cg] 67)).cell? ⟨w.heap.size, 2, none⟩ = some (.slice sm lm cm) := by go_simp
 have x3 : (w.alloc (.cells #[.slice sp np cp, .slice sc lc cc, .slice sm lm cm, .slice sg lg cg] 67)).cell? ⟨w.heap.size, 3, none⟩ = some (.slice sg lg cg) := by go_simp
 clear hz
 go_enter Tryz.func30, Tryz.ntmps30
 go_wp2_with fail
 refine (hck.out _ hX).mono ?_
 rintro e X ⟨rfl, hE1⟩
 have e1 := hX.trans hE1
 go_wp2_with fail
 go_ret2
 exact ⟨rfl, e1⟩
theorem tuError_err {w : World} {sp : Option Addr} {np cp : Nat} {sc : Option Addr} {lc cc : Nat} {sm : Option Addr} {lm cm : Nat} {sg : Option Addr} {lg cg : Nat} {z : Int} {v : Value} (hz : z ≠ 0) (hck : ∀ W, Ext w W → Calls Tryz.prog 28 #[.agg #[.slice sp np cp, .slice sc lc cc, .slice sm lm cm, .slice sg lg cg]] W fun e w' => e = .returned (.int .i64 z) ∧ Ext W w') :
  Calls Tryz.prog 31 #[.agg #[.slice sp np cp, .slice sc lc cc, .slice sm lm cm, .slice sg lg cg], v] w fun e w' => e = .returned (.tuple #[.slice none 0 0, .int .i64 z]) ∧ Ext w w' := by
 have hck := fun W (hW : Ext w W) => tempered_err (w := W) (v := v) hz (fun W2 h2 => hck W2 (hW.trans h2))
 have hck := Lib.hid hck
 have h2 : (z == 0) = false := beq_eq_false_iff_ne.2 hz
 have h3 : (z != 0) = true := by simp [bne, h2]
 have hX := (Ext.refl w).alloc (.cells #[.slice sp np cp, .slice sc lc cc, .slice sm lm cm, .slice sg lg cg] 67)
 have x0 : (w.alloc (.cells #[.slice sp np cp, .slice sc lc cc, .slice sm lm cm, .slice sg lg cg] 67)).cell? ⟨w.heap.size, 0, none⟩ = some (.slice sp np cp) := by go_simp
 have x1 : (w.alloc (.cells #[.slice sp np cp, .slice sc lc cc, .slice sm lm cm, .slice sg lg cg] 67)).cell? ⟨w.heap.size, 1, none⟩ = some (.slice sc lc cc) := by go_simp
 have x2 : (w.alloc (.cells #[.slice sp np cp, .slice sc lc cc, .slice sm lm cm, .slice sg lg cg] 67)).cell? ⟨w.heap.size, 2, none⟩ = some (.slice sm lm cm) := by go_simp
 have x3 : (w.alloc (.cells #[.slice sp np cp, .slice sc lc cc, .slice sm lm cm, .slice sg lg cg] 67)).cell? ⟨w.heap.size, 3, none⟩ = some (.slice sg lg cg) := by go_simp
 clear hz
 go_enter Tryz.func31, Tryz.ntmps31
 go_wp2_with fail
 refine (hck.out _ hX).mono ?_
 rintro e X ⟨rfl, hE1⟩
 have e1 := hX.trans hE1
 go_wp2_with fail
 go_ret2
 exact ⟨rfl, e1⟩
theorem tuPure_err {w : World} {sp : Option Addr} {np cp : Nat} {sc : Option Addr} {lc cc : Nat} {sm : Option Addr} {lm cm : Nat} {sg : Option Addr} {lg cg : Nat} {z : Int} (hz : z ≠ 0) (hck : ∀ W, Ext w W → Calls Tryz.prog 28 #[.agg #[.slice sp np cp, .slice sc lc cc, .slice sm lm cm, .slice sg lg cg]] W fun e w' => e = .returned (.int .i64 z) ∧ Ext W w') :
  Calls Tryz.prog 32 #[.agg #[.slice sp np cp, .slice sc lc cc, .slice sm lm cm, .slice sg lg cg]] w fun e w' => e = .returned (.tuple #[.bool false, .int .i64 z]) ∧ Ext w w' := by
 have hck := Lib.hid hck
 have h2 : (z == 0) = false := beq_eq_false_iff_ne.2 hz
 have h3 : (z != 0) = true := by simp [bne, h2]
 have hX := (Ext.refl w).alloc (.cells #[.slice sp np cp, .slice sc lc cc, .slice sm lm cm, .slice sg lg cg] 67)
 have x0 : (w.alloc (.cells #[.slice sp np cp, .slice sc lc cc, .slice sm lm cm, .slice sg lg cg] 67)).cell? ⟨w.heap.size, 0, none⟩ = some (.slice sp np cp) := by go_simp
 have x1 : (w.alloc (.cells #[.slice sp np cp, .slice sc lc cc, .slice sm lm cm, .slice sg lg cg] 67)).cell? ⟨w.heap.size, 1, none⟩ = some (.slice sc lc cc) := by go_simp
 have x2 : (w.alloc (.cells #[.slice sp np cp, .slice sc lc cc, .slice sm lm cm, .slice sg lg cg] 67)).cell? ⟨w.heap.size, 2, none⟩ = some (.slice sm lm cm) := by go_simp
 have x3 : (w.alloc (.cells #[.slice sp np cp, .slice sc lc cc, .slice sm lm cm, .slice sg lg cg] 67)).cell? ⟨w.heap.size, 3, none⟩ = some (.slice sg lg cg) := by go_simp
 clear hz
 go_enter Tryz.func32, Tryz.ntmps32
 go_wp2_with fail
 refine (hck.out _ hX).mono ?_
 rintro e X ⟨rfl, hE1⟩
 have e1 := hX.trans hE1
 go_wp2_with fail
 go_ret2
 exact ⟨rfl, e1⟩
theorem tuPrimes_err {w : World} {sp : Option Addr} {np cp : Nat} {sc : Option Addr} {lc cc : Nat} {sm : Option Addr} {lm cm : Nat} {sg : Option Addr} {lg cg : Nat} {z : Int} (hz : z ≠ 0) (hck : ∀ W, Ext w W → Calls Tryz.prog 28 #[.agg #[.slice sp np cp, .slice sc lc cc, .slice sm lm cm, .slice sg lg cg]] W fun e w' => e = .returned (.int .i64 z) ∧ Ext W w') :
  Calls Tryz.prog 33 #[.agg #[.slice sp np cp, .slice sc lc cc, .slice sm lm cm, .slice sg lg cg]] w fun e w' => e = .returned (.tuple #[.slice none 0 0, .int .i64 z]) ∧ Ext w w' := by
 have hck := Lib.hid hck
 have h2 : (z == 0) = false := beq_eq_false_iff_ne.2 hz
 have h3 : (z != 0) = true := by simp [bne, h2]
 have hX := (Ext.refl w).alloc (.cells #[.slice sp np cp, .slice sc lc cc, .slice sm lm cm, .slice sg lg cg] 67)
 have x0 : (w.alloc (.cells #[.slice sp np cp, .slice sc lc cc, .slice sm lm cm, .slice sg lg cg] 67)).cell? ⟨w.heap.size, 0, none⟩ = some (.slice sp np cp) := by go_simp
 have x1 : (w.alloc (.cells #[.slice sp np cp, .slice sc lc cc, .slice sm lm cm, .slice sg lg cg] 67)).cell? ⟨w.heap.size, 1, none⟩ = some (.slice sc lc cc) := by go_simp
 have x2 : (w.alloc (.cells #[.slice sp np cp, .slice sc lc cc, .slice sm lm cm, .slice sg lg cg] 67)).cell? ⟨w.heap.size, 2, none⟩ = some (.slice sm lm cm) := by go_simp
 have x3 : (w.alloc (.cells #[.slice sp np cp, .slice sc lc cc, .slice sm lm cm, .slice sg lg cg] 67)).cell? ⟨w.heap.size, 3, none⟩ = some (.slice sg lg cg) := by go_simp
 clear hz
 go_enter Tryz.func33, Tryz.ntmps33
 go_wp2_with fail
 refine (hck.out _ hX).mono ?_
 rintro e X ⟨rfl, hE1⟩
 have e1 := hX.trans hE1
 go_wp2_with fail
 go_ret2
 exact ⟨rfl, e1⟩
theorem tuText_err {w : World} {sp : Option Addr} {np cp : Nat} {sc : Option Addr} {lc cc : Nat} {sm : Option Addr} {lm cm : Nat} {sg : Option Addr} {lg cg : Nat} {z : Int} (hz : z ≠ 0) (hck : ∀ W, Ext w W → Calls Tryz.prog 28 #[.agg #[.slice sp np cp, .slice sc lc cc, .slice sm lm cm, .slice sg lg cg]] W fun e w' => e = .returned (.int .i64 z) ∧ Ext W w') :
  Calls Tryz.prog 37 #[.agg #[.slice sp np cp, .slice sc lc cc, .slice sm lm cm, .slice sg lg cg]] w fun e w' => e = .returned (.tuple #[.string ⟨#[]⟩, .int .i64 z]) ∧ Ext w w' := by
 have hck := Lib.hid hck
 have h2 : (z == 0) = false := beq_eq_false_iff_ne.2 hz
 have h3 : (z != 0) = true := by simp [bne, h2]
 have hX := (Ext.refl w).alloc (.cells #[.slice sp np cp, .slice sc lc cc, .slice sm lm cm, .slice sg lg cg] 67)
 have x0 : (w.alloc (.cells #[.slice sp np cp, .slice sc lc cc, .slice sm lm cm, .slice sg lg cg] 67)).cell? ⟨w.heap.size, 0, none⟩ = some (.slice sp np cp) := by go_simp
 have x1 : (w.alloc (.cells #[.slice sp np cp, .slice sc lc cc, .slice sm lm cm, .slice sg lg cg] 67)).cell? ⟨w.heap.size, 1, none⟩ = some (.slice sc lc cc) := by go_simp
 have x2 : (w.alloc (.cells #[.slice sp np cp, .slice sc lc cc, .slice sm lm cm, .slice sg lg cg] 67)).cell? ⟨w.heap.size, 2, none⟩ = some (.slice sm lm cm) := by go_simp
 have x3 : (w.alloc (.cells #[.slice sp np cp, .slice sc lc cc, .slice sm lm cm, .slice sg lg cg] 67)).cell? ⟨w.heap.size, 3, none⟩ = some (.slice sg lg cg) := by go_simp
 clear hz
 go_enter Tryz.func37, Tryz.ntmps37
 go_wp2_with fail
 refine (hck.out _ hX).mono ?_
 rintro e X ⟨rfl, hE1⟩
 have e1 := hX.trans hE1
 go_wp2_with fail
 go_ret2
 exact ⟨rfl, e1⟩
set_option maxHeartbeats 2000000 in
theorem tuStretch_err {w : World} {sp : Option Addr} {np cp : Nat} {sc : Option Addr} {lc cc : Nat} {sm : Option Addr} {lm cm : Nat} {sg : Option Addr} {lg cg : Nat} {z : Int} {sa sb : ByteArray} (hz : z ≠ 0) (hck : ∀ W, Ext w W → Calls Tryz.prog 28 #[.agg #[.slice sp np cp, .slice sc lc cc, .slice sm lm cm, .slice sg lg cg]] W fun e w' => e = .returned (.int .i64 z) ∧ Ext W w') :
  Calls Tryz.prog 35 #[.agg #[.slice sp np cp, .slice sc lc cc, .slice sm lm cm, .slice sg lg cg], .agg #[.string sa, .string sb]] w fun e w' => e = .returned (.tuple #[tuZ, .int .i64 z]) ∧ Ext w w' := by
 have hck := Lib.hid hck
 have h2 : (z == 0) = false := beq_eq_false_iff_ne.2 hz
 have h3 : (z != 0) = true := by simp [bne, h2]
 have hX : Ext w (((w.alloc (.cells #[.slice sp np cp, .slice sc lc cc, .slice sm lm cm, .slice sg lg cg] 67)).alloc (.cells #[.string sa, .string sb] 81)).alloc (.cells #[.slice none 0 0, .slice none 0 0, .slice none 0 0, .slice none 0 0] 67)) := (((Ext.refl w).alloc (.cells #[.slice sp np cp, .slice sc lc cc, .slice sm lm cm, .slice sg lg cg] 67)).alloc (.cells #[.string sa, .string sb] 81)).alloc (.cells #[.slice none 0 0, .slice none 0 0, .slice none 0 0, .slice none 0 0] 67)
 have x0 : (((w.alloc (.cells #[.slice sp np cp, .slice sc lc cc, .slice sm lm cm, .slice sg lg cg] 67)).alloc (.cells #[.string sa, .string sb] 81)).alloc (.cells #[.slice none 0 0, .slice none 0 0, .slice none 0 0, .slice none 0 0] 67)).cell? ⟨w.heap.size, 0, none⟩ = some (.slice sp np cp) := by go_simp
 have x1 : (((w.alloc (.cells #[.slice sp np cp, .slice sc lc cc, .slice sm lm cm, .slice sg lg cg] 67)).alloc (.cells #[.string sa, .string sb] 81)).alloc (.cells #[.slice none 0 0, .slice none 0 0, .slice none 0 0, .slice none 0 0] 67)).cell? ⟨w.heap.size, 1, none⟩ = some (.slice sc lc cc) := by go_simp
 have x2 : (((w.alloc (.cells #[.slice sp np cp, .slice sc lc cc, .slice sm lm cm, .slice sg lg cg] 67)).alloc (.cells #[.string sa, .string sb] 81)).alloc (.cells #[.slice none 0 0, .slice none 0 0, .slice none 0 0, .slice none 0 0] 67)).cell? ⟨w.heap.size, 2, none⟩ = some (.slice sm lm cm) := by go_simp
 have x3 : (((w.alloc (.cells #[.slice sp np cp, .slice sc lc cc, .slice sm lm cm, .slice sg lg cg] 67)).alloc (.cells #[.string sa, .string sb] 81)).alloc (.cells #[.slice none 0 0, .slice none 0 0, .slice none 0 0, .slice none 0 0] 67)).cell? ⟨w.heap.size, 3, none⟩ = some (.slice sg lg cg) := by go_simp
 have HO := own4 (((w.alloc (.cells #[.slice sp np cp, .slice sc lc cc, .slice sm lm cm, .slice sg lg cg] 67)).alloc (.cells #[.string sa, .string sb] 81))) 67 (.slice none 0 0) (.slice none 0 0) (.slice none 0 0) (.slice none 0 0)
 rw [show (((w.alloc (.cells #[.slice sp np cp, .slice sc lc cc, .slice sm lm cm, .slice sg lg cg] 67)).alloc (.cells #[.string sa, .string sb] 81))).heap.size = w.heap.size + 1 + 1 by simp] at HO
 clear hz
 go_enter Tryz.func35, Tryz.ntmps35
 go_wp2_with fail
 generalize (((w.alloc (.cells #[.slice sp np cp, .slice sc lc cc, .slice sm lm cm, .slice sg lg cg] 67)).alloc (.cells #[.string sa, .string sb] 81)).alloc (.cells #[.slice none 0 0, .slice none 0 0, .slice none 0 0, .slice none 0 0] 67)) = V0 at *
 have HO := Lib.hid HO
 refine (hck.out _ hX).mono ?_
 rintro e X ⟨rfl, hE1⟩
 have e1 := hX.trans hE1
 have HO9 := HO.out.ext hE1
 obtain ⟨Hr6, He6, Hg6⟩ := set4 e1 (by omega) HO9 (.slice none 0 0) (.slice none 0 0) (.slice none 0 0) (.slice none 0 0)
 have r0 := Hr6.cell (j := 0) (by simp)
 have r1 := Hr6.cell (j := 1) (by simp)
 have r2 := Hr6.cell (j := 2) (by simp)
 have r3 := Hr6.cell (j := 3) (by simp)
 simp only [List.getElem_cons_zero, List.getElem_cons_succ] at r0 r1 r2 r3
 have f0 := (HO9).frozen 0
 have f1 := (HO9).frozen 1
 have f2 := (HO9).frozen 2
 have f3 := (HO9).frozen 3
 have m0 := (HO9).cell (j := 0) (by simp)
 have m1 := (HO9).cell (j := 1) (by simp)
 have m2 := (HO9).cell (j := 2) (by simp)
 have m3 := (HO9).cell (j := 3) (by simp)
 simp only [List.getElem_cons_zero, List.getElem_cons_succ] at m0 m1 m2 m3
 have Hres := Lib.hid He6
 clear Hr6 He6 Hg6 HO9 HO hck hX hE1 e1
 go_wp2_with fail
 refine bodyPost_ret (v := .tuple #[tuZ, .int .i64 z]) (by simp [results, Tryz.results35, go_sem, r0, r1, r2, r3]) rfl ⟨rfl, Hres.out⟩
set_option maxHeartbeats 2000000 in
theorem tuShift_err {w : World} {sp : Option Addr} {np cp : Nat} {sc : Option Addr} {lc cc : Nat} {sm : Option Addr} {lm cm : Nat} {sg : Option Addr} {lg cg : Nat} {z : Int} {i : Int} {v : Value} (hz : z ≠ 0) (hck : ∀ W, Ext w W → Calls Tryz.prog 28 #[.agg #[.slice sp np cp, .slice sc lc cc, .slice sm lm cm, .slice sg lg cg]] W fun e w' => e = .returned (.int .i64 z) ∧ Ext W w') :
  Calls Tryz.prog 36 #[.agg #[.slice sp np cp, .slice sc lc cc, .slice sm lm cm, .slice sg lg cg], .int .i64 i, v] w fun e w' => e = .returned (.tuple #[tuZ, .int .i64 z]) ∧ Ext w w' := by
 have hck := Lib.hid hck
 have h2 : (z == 0) = false := beq_eq_false_iff_ne.2 hz
 have h3 : (z != 0) = true := by simp [bne, h2]
 have hX : Ext w ((w.alloc (.cells #[.slice sp np cp, .slice sc lc cc, .slice sm lm cm, .slice sg lg cg] 67)).alloc (.cells #[.slice none 0 0, .slice none 0 0, .slice none 0 0, .slice none 0 0] 67)) := ((Ext.refl w).alloc (.cells #[.slice sp np cp, .slice sc lc cc, .slice sm lm cm, .slice sg lg cg] 67)).alloc (.cells #[.slice none 0 0, .slice none 0 0, .slice none 0 0, .slice none 0 0] 67)
 have x0 : ((w.alloc (.cells #[.slice sp np cp, .slice sc lc cc, .slice sm lm cm, .slice sg lg cg] 67)).alloc (.cells #[.slice none 0 0, .slice none 0 0, .slice none 0 0, .slice none 0 0] 67)).cell? ⟨w.heap.size, 0, none⟩ = some (.slice sp np cp) := by go_simp
 have x1 : ((w.alloc (.cells #[.slice sp np cp, .slice sc lc cc, .slice sm lm cm, .slice sg lg cg] 67)).alloc (.cells #[.slice none 0 0, .slice none 0 0, .slice none 0 0, .slice none 0 0] 67)).cell? ⟨w.heap.size, 1, none⟩ = some (.slice sc lc cc) := by go_simp
 have x2 : ((w.alloc (.cells #[.slice sp np cp, .slice sc lc cc, .slice sm lm cm, .slice sg lg cg] 67)).alloc (.cells #[.slice none 0 0, .slice none 0 0, .slice none 0 0, .slice none 0 0] 67)).cell? ⟨w.heap.size, 2, none⟩ = some (.slice sm lm cm) := by go_simp
 have x3 : ((w.alloc (.cells #[.slice sp np cp, .slice sc lc cc, .slice sm lm cm, .slice sg lg cg] 67)).alloc (.cells #[.slice none 0 0, .slice none 0 0, .slice none 0 0, .slice none 0 0] 67)).cell? ⟨w.heap.size, 3, none⟩ = some (.slice sg lg cg) := by go_simp
 have HO := own4 ((w.alloc (.cells #[.slice sp np cp, .slice sc lc cc, .slice sm lm cm, .slice sg lg cg] 67))) 67 (.slice none 0 0) (.slice none 0 0) (.slice none 0 0) (.slice none 0 0)
 rw [show ((w.alloc (.cells #[.slice sp np cp, .slice sc lc cc, .slice sm lm cm, .slice sg lg cg] 67))).heap.size = w.heap.size + 1 by simp] at HO
 clear hz
 go_enter Tryz.func36, Tryz.ntmps36
 go_wp2_with fail
 generalize ((w.alloc (.cells #[.slice sp np cp, .slice sc lc cc, .slice sm lm cm, .slice sg lg cg] 67)).alloc (.cells #[.slice none 0 0, .slice none 0 0, .slice none 0 0, .slice none 0 0] 67)) = V0 at *
 have HO := Lib.hid HO
 refine (hck.out _ hX).mono ?_
 rintro e X ⟨rfl, hE1⟩
 have e1 := hX.trans hE1
 have HO9 := HO.out.ext hE1
 obtain ⟨Hr6, He6, Hg6⟩ := set4 e1 (by omega) HO9 (.slice none 0 0) (.slice none 0 0) (.slice none 0 0) (.slice none 0 0)
 have r0 := Hr6.cell (j := 0) (by simp)
 have r1 := Hr6.cell (j := 1) (by simp)
 have r2 := Hr6.cell (j := 2) (by simp)
 have r3 := Hr6.cell (j := 3) (by simp)
 simp only [List.getElem_cons_zero, List.getElem_cons_succ] at r0 r1 r2 r3
 have f0 := (HO9).frozen 0
 have f1 := (HO9).frozen 1
 have f2 := (HO9).frozen 2
 have f3 := (HO9).frozen 3
 have m0 := (HO9).cell (j := 0) (by simp)
 have m1 := (HO9).cell (j := 1) (by simp)
 have m2 := (HO9).cell (j := 2) (by simp)
 have m3 := (HO9).cell (j := 3) (by simp)
 simp only [List.getElem_cons_zero, List.getElem_cons_succ] at m0 m1 m2 m3
 have Hres := Lib.hid He6
 clear Hr6 He6 Hg6 HO9 HO hck hX hE1 e1
 go_wp2_with fail
 refine bodyPost_ret (v := .tuple #[tuZ, .int .i64 z]) (by simp [results, Tryz.results36, go_sem, r0, r1, r2, r3]) rfl ⟨rfl, Hres.out⟩
set_option maxHeartbeats 2000000 in
theorem tuBlend_err {w : World} {sp : Option Addr} {np cp : Nat} {sc : Option Addr} {lc cc : Nat} {sm : Option Addr} {lm cm : Nat} {sg : Option Addr} {lg cg : Nat} {z : Int} {sa sb : ByteArray} (hz : z ≠ 0) (hck : ∀ W, Ext w W → Calls Tryz.prog 28 #[.agg #[.slice sp np cp, .slice sc lc cc, .slice sm lm cm, .slice sg lg cg]] W fun e w' => e = .returned (.int .i64 z) ∧ Ext W w') :
  Calls Tryz.prog 34 #[.agg #[.slice sp np cp, .slice sc lc cc, .slice sm lm cm, .slice sg lg cg], .agg #[.slice sp np cp, .slice sc lc cc, .slice sm lm cm, .slice sg lg cg], .agg #[.string sa, .string sb]] w fun e w' => e = .returned (.tuple #[tuZ, .int .i64 z]) ∧ Ext w w' := by
 have hck := Lib.hid hck
 have h2 : (z == 0) = false := beq_eq_false_iff_ne.2 hz
 have h3 : (z != 0) = true := by simp [bne, h2]
 have hX : Ext w ((((w.alloc (.cells #[.slice sp np cp, .slice sc lc cc, .slice sm lm cm, .slice sg lg cg] 67)).alloc (.cells #[.slice sp np cp, .slice sc lc cc, .slice sm lm cm, .slice sg lg cg] 67)).alloc (.cells #[.string sa, .string sb] 81)).alloc (.cells #[.slice none 0 0, .slice none 0 0, .slice none 0 0, .slice none 0 0] 67)) := ((((Ext.refl w).alloc (.cells #[.slice sp np cp, .slice sc lc cc, .slice sm lm cm, .slice sg lg cg] 67)).alloc (.cells #[.slice sp np cp, .slice sc lc cc, .slice sm lm cm, .slice sg lg cg] 67)).alloc (.cells #[.string sa, .string sb] 81)).alloc (.cells #[.slice none 0 0, .slice none 0 0, .slice none 0 0, .slice none 0 0] 67)
 have x0 : ((((w.alloc (.cells #[.slice sp np cp, .slice sc lc cc, .slice sm lm cm, .slice sg lg cg] 67)).alloc (.cells #[.slice sp np cp, .slice sc lc cc, .slice sm lm cm, .slice sg lg cg] 67)).alloc (.cells #[.string sa, .string sb] 81)).alloc (.cells #[.slice none 0 0, .slice none 0 0, .slice none 0 0, .slice none 0 0] 67)).cell? ⟨w.heap.size, 0, none⟩ = some (.slice sp np cp) := by go_simp
 have x1 : ((((w.alloc (.cells #[.slice sp np cp, .slice sc lc cc, .slice sm lm cm, .slice sg lg cg] 67)).alloc (.cells #[.slice sp np cp, .slice sc lc cc, .slice sm lm cm, .slice sg lg cg] 67)).alloc (.cells #[.string sa, .string sb] 81)).alloc (.cells #[.slice none 0 0, .slice none 0 0, .slice none 0 0, .slice none 0 0] 67)).cell? ⟨w.heap.size, 1, none⟩ = some (.slice sc lc cc) := by go_simp
 have x2 : ((((w.alloc (.cells #[.slice sp np cp, .slice sc lc cc, .slice sm lm cm, .slice sg lg cg] 67)).alloc (.cells #[.slice sp np cp, .slice sc lc cc, .slice sm lm cm, .slice sg lg cg] 67)).alloc (.cells #[.string sa, .string sb] 81)).alloc (.cells #[.slice none 0 0, .slice none 0 0, .slice none 0 0, .slice none 0 0] 67)).cell? ⟨w.heap.size, 2, none⟩ = some (.slice sm lm cm) := by go_simp
 have x3 : ((((w.alloc (.cells #[.slice sp np cp, .slice sc lc cc, .slice sm lm cm, .slice sg lg cg] 67)).alloc (.cells #[.slice sp np cp, .slice sc lc cc, .slice sm lm cm, .slice sg lg cg] 67)).alloc (.cells #[.string sa, .string sb] 81)).alloc (.cells #[.slice none 0 0, .slice none 0 0, .slice none 0 0, .slice none 0 0] 67)).cell? ⟨w.heap.size, 3, none⟩ = some (.slice sg lg cg) := by go_simp
 have u0 : ((((w.alloc (.cells #[.slice sp np cp, .slice sc lc cc, .slice sm lm cm, .slice sg lg cg] 67)).alloc (.cells #[.slice sp np cp, .slice sc lc cc, .slice sm lm cm, .slice sg lg cg] 67)).alloc (.cells #[.string sa, .string sb] 81)).alloc (.cells #[.slice none 0 0, .slice none 0 0, .slice none 0 0, .slice none 0 0] 67)).cell? ⟨w.heap.size + 1, 0, none⟩ = some (.slice sp np cp) := by go_simp
 have u1 : ((((w.alloc (.cells #[.slice sp np cp, .slice sc lc cc, .slice sm lm cm, .slice sg lg cg] 67)).alloc (.cells #[.slice sp np cp, .slice sc lc cc, .slice sm lm cm, .slice sg lg cg] 67)).alloc (.cells #[.string sa, .string sb] 81)).alloc (.cells #[.slice none 0 0, .slice none 0 0, .slice none 0 0, .slice none 0 0] 67)).cell? ⟨w.heap.size + 1, 1, none⟩ = some (.slice sc lc cc) := by go_simp
 have u2 : ((((w.alloc (.cells #[.slice sp np cp, .slice sc lc cc, .slice sm lm cm, .slice sg lg cg] 67)).alloc (.cells #[.slice sp np cp, .slice sc lc cc, .slice sm lm cm, .slice sg lg cg] 67)).alloc (.cells #[.string sa, .string sb] 81)).alloc (.cells #[.slice none 0 0, .slice none 0 0, .slice none 0 0, .slice none 0 0] 67)).cell? ⟨w.heap.size + 1, 2, none⟩ = some (.slice sm lm cm) := by go_simp
 have u3 : ((((w.alloc (.cells #[.slice sp np cp, .slice sc lc cc, .slice sm lm cm, .slice sg lg cg] 67)).alloc (.cells #[.slice sp np cp, .slice sc lc cc, .slice sm lm cm, .slice sg lg cg] 67)).alloc (.cells #[.string sa, .string sb] 81)).alloc (.cells #[.slice none 0 0, .slice none 0 0, .slice none 0 0, .slice none 0 0] 67)).cell? ⟨w.heap.size + 1, 3, none⟩ = some (.slice sg lg cg) := by go_simp
 have HO := own4 ((((w.alloc (.cells #[.slice sp np cp, .slice sc lc cc, .slice sm lm cm, .slice sg lg cg] 67)).alloc (.cells #[.slice sp np cp, .slice sc lc cc, .slice sm lm cm, .slice sg lg cg] 67)).alloc (.cells #[.string sa, .string sb] 81))) 67 (.slice none 0 0) (.slice none 0 0) (.slice none 0 0) (.slice none 0 0)
 rw [show ((((w.alloc (.cells #[.slice sp np cp, .slice sc lc cc, .slice sm lm cm, .slice sg lg cg] 67)).alloc (.cells #[.slice sp np cp, .slice sc lc cc, .slice sm lm cm, .slice sg lg cg] 67)).alloc (.cells #[.string sa, .string sb] 81))).heap.size = w.heap.size + 1 + 1 + 1 by simp] at HO
 clear hz
 go_enter Tryz.func34, Tryz.ntmps34
 go_wp2_with fail
 generalize ((((w.alloc (.cells #[.slice sp np cp, .slice sc lc cc, .slice sm lm cm, .slice sg lg cg] 67)).alloc (.cells #[.slice sp np cp, .slice sc lc cc, .slice sm lm cm, .slice sg lg cg] 67)).alloc (.cells #[.string sa, .string sb] 81)).alloc (.cells #[.slice none 0 0, .slice none 0 0, .slice none 0 0, .slice none 0 0] 67)) = V0 at *
 have HO := Lib.hid HO
 have hix0 := fun W => ix2_a W (.slice sp np cp) (.slice sc lc cc) (.slice sm lm cm) (.slice sg lg cg) (.slice sp np cp) (.slice sc lc cc) (.slice sm lm cm) (.slice sg lg cg)
 go_loopw [17] (fun kv wr => kv = .int .i64 0 ∧ Ext V0 wr) (fun kv _ => 0)
 case atStart => exact ⟨by go_num, Ext.refl _⟩
 case round =>
  obtain ⟨rfl, hE0⟩ := hrel
  generalize wr = X1 at *
  have e0 := hX.trans hE0
  have eA := (Ext.refl X1).alloc (.cells #[.slice sp np cp, .slice sc lc cc, .slice sm lm cm, .slice sg lg cg] 67)
  replace HO := Lib.hid (HO.out.ext (hE0.trans eA))
  go_wp2_with fail
  refine (hck.out _ (e0.trans eA)).mono ?_
  rintro e X ⟨rfl, hE1⟩
  have e1 := (e0.trans eA).trans hE1
  have HO9 := HO.out.ext hE1
  obtain ⟨Hr6, He6, Hg6⟩ := set4 e1 (by omega) HO9 (.slice none 0 0) (.slice none 0 0) (.slice none 0 0) (.slice none 0 0)
  have r0 := Hr6.cell (j := 0) (by simp)
  have r1 := Hr6.cell (j := 1) (by simp)
  have r2 := Hr6.cell (j := 2) (by simp)
  have r3 := Hr6.cell (j := 3) (by simp)
  simp only [List.getElem_cons_zero, List.getElem_cons_succ] at r0 r1 r2 r3
  have f0 := (HO9).frozen 0
  have f1 := (HO9).frozen 1
  have f2 := (HO9).frozen 2
  have f3 := (HO9).frozen 3
  have m0 := (HO9).cell (j := 0) (by simp)
  have m1 := (HO9).cell (j := 1) (by simp)
  have m2 := (HO9).cell (j := 2) (by simp)
  have m3 := (HO9).cell (j := 3) (by simp)
  simp only [List.getElem_cons_zero, List.getElem_cons_succ] at m0 m1 m2 m3
  have Hres := Lib.hid He6
  clear Hr6 He6 Hg6 HO9 HO hck hX hE1 e1
  go_wp2_with fail
  refine bodyPost_ret (v := .tuple #[tuZ, .int .i64 z]) (by simp [results, Tryz.results34, go_sem, r0, r1, r2, r3]) rfl ⟨rfl, Hres.out⟩
end Go.Proofs.YtjnpakablgommaaGreatDoor
