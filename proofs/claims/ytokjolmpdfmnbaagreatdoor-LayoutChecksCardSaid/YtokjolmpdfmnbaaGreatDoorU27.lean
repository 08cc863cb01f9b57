/- Part 27 of the proof of the claim: contracts of the functions that it reaches, and plain laws; no condition. -/
import Derived.Test.YtokjolmpdfmnbaaGreatDoorU26
import Derived.Test.YtokjolmpdfmnbaaGreatDoorU24
import Derived.Test.YtokjolmpdfmnbaaGreatDoorU25
import Derived.BigQuiet
import Derived.Test.YtokjolmpdfmnbaaGreatDoorCards
import Derived.Test.YtokjolmpdfmnbaaGreatDoorTie
import Derived.SevenTiedAt
namespace Go.Proofs.YtokjolmpdfmnbaaGreatDoor
open Go.RowKit Go.Sort
set_option maxRecDepth 100000 in
theorem Window_rng {w : World} {k : Int} {n co cr cu : Nat} {so sr su : Option Addr} {o r u : List Int} {M : Int} (h : LayG w k n so co sr cr su cu o r u) (hm : winE M = 3) :
    Calls Tryz.prog 26 #[layg k n so co sr cr su cu, .int .i64 M] w fun e w' => e = .returned (.tuple #[.slice none 0 0, .int .i64 3]) ∧ Ext w w' := by
  have hck := Lib.hid (fun W (hW : Ext w W) => lcheck_g (h.ext hW))
  have hwn := Lib.hid (fun W => window_any M W)
  rw [hm] at hwn
  have hX : Ext w (w.alloc (.cells #[.int .i64 k, .slice so n co, .slice sr n cr, .slice su n cu] 54)) := (Ext.refl w).alloc _
  clear h hm
  go_enter Tryz.func26, Tryz.ntmps26
  go_wp2_with fail
  refine (hck.out _ hX).mono ?_
  rintro e w1 ⟨rfl, hE1⟩
  have hX1 := hX.trans hE1
  go_wp2_with fail
  refine (hwn.out _).mono ?_
  rintro e w2 ⟨rfl, hE2⟩
  have hX2 := hX1.trans hE2
  go_wp2_with fail
  go_ret2
  exact ⟨rfl, hX2⟩
set_option maxRecDepth 100000 in
theorem Keys_rng {w : World} {k : Int} {n co cr cu : Nat} {so sr su : Option Addr} {o r u : List Int} {M : Int} (h : LayG w k n so co sr cr su cu o r u) (hm : winE M = 3) :
    Calls Tryz.prog 27 #[layg k n so co sr cr su cu, .slice so n co, .int .i64 M] w fun e w' => e = .returned (.tuple #[.slice none 0 0, .int .i64 3]) ∧ Ext w w' := by
  have hck := Lib.hid (fun W (hW : Ext w W) => lsized_g (h.ext hW) (h.po.ext hW))
  have hwn := Lib.hid (fun W => window_any M W)
  rw [hm] at hwn
  rw [rowE_ok h.lo h.eo] at hck
  have hX : Ext w (w.alloc (.cells #[.int .i64 k, .slice so n co, .slice sr n cr, .slice su n cu] 54)) := (Ext.refl w).alloc _
  clear h hm
  go_enter Tryz.func27, Tryz.ntmps27
  go_wp2_with fail
  refine (hck.out _ hX).mono ?_
  rintro e w1 ⟨rfl, hE1⟩
  have hX1 := hX.trans hE1
  go_wp2_with fail
  refine (hwn.out _).mono ?_
  rintro e w2 ⟨rfl, hE2⟩
  have hX2 := hX1.trans hE2
  go_wp2_with fail
  go_ret2
  exact ⟨rfl, hX2⟩
def lckG (no nr nu : Nat) (M : Int) : Prop := 70 < no ∨ 70 < nr ∨ 70 < nu ∨ (3 < M ∧ M ≤ 20)
set_option maxRecDepth 100000 in
set_option maxHeartbeats 4000000 in
theorem lck_out {w : World} {k : Int} {so sr su : Option Addr} {no co nr cr nu cu : Nat} {M : Int} (hL : Laid w) (hG : lckG no nr nu M) :
    Calls Tryz.prog 6 #[layq k so no co sr nr cr su nu cu, .int .i64 M] w fun e w' => e = .returned (.bool true) ∧ Ext w w' := by
  have hkn := Lib.hid (fun W (hW : Ext w W) => known44_any (hL.ext hW))
  have hX : Ext w (w.alloc (.cells #[.int .i64 k, .slice so no co, .slice sr nr cr, .slice su nu cu] 54)) := (Ext.refl w).alloc _
  have x0 : (w.alloc (.cells #[.int .i64 k, .slice so no co, .slice sr nr cr, .slice su nu cu] 54)).cell? ⟨w.heap.size, 0, none⟩ = some (.int .i64 k) := by go_simp
  have x1 : (w.alloc (.cells #[.int .i64 k, .slice so no co, .slice sr nr cr, .slice su nu cu] 54)).cell? ⟨w.heap.size, 1, none⟩ = some (.slice so no co) := by go_simp
  have x2 : (w.alloc (.cells #[.int .i64 k, .slice so no co, .slice sr nr cr, .slice su nu cu] 54)).cell? ⟨w.heap.size, 2, none⟩ = some (.slice sr nr cr) := by go_simp
  have x3 : (w.alloc (.cells #[.int .i64 k, .slice so no co, .slice sr nr cr, .slice su nu cu] 54)).cell? ⟨w.heap.size, 3, none⟩ = some (.slice su nu cu) := by go_simp
  clear hL
  by_cases h1 : (70 : Int) < (no : Int)
  case pos =>
    have h1' : (no : Int) > 70 := h1
    clear hG
    go_enter Tryz.func6, Tryz.ntmps6
    go_wp2_with fail
    refine (hkn.out _ hX).mono ?_
    rintro e W1 ⟨rfl, hE1⟩
    have y1 := hE1.cell x1
    have y2 := hE1.cell x2
    have y3 := hE1.cell x3
    have hX1 := hX.trans hE1
    clear x0 x1 x2 x3
    go_wp2_with fail
    refine (hkn.out _ hX1).mono ?_
    rintro e W2 ⟨rfl, hE2⟩
    have hX2 := hX1.trans hE2
    go_wp2_with fail
    go_ret
    exact ⟨rfl, hX2⟩
  by_cases h2 : (70 : Int) < (nr : Int)
  case pos =>
    have h2' : (nr : Int) > 70 := h2
    have h1' : ¬ (no : Int) > 70 := h1
    clear hG
    go_enter Tryz.func6, Tryz.ntmps6
    go_wp2_with fail
    refine (hkn.out _ hX).mono ?_
    rintro e W1 ⟨rfl, hE1⟩
    have y1 := hE1.cell x1
    have y2 := hE1.cell x2
    have y3 := hE1.cell x3
    have hX1 := hX.trans hE1
    clear x0 x1 x2 x3
    go_wp2_with fail
    refine (hkn.out _ hX1).mono ?_
    rintro e W2 ⟨rfl, hE2⟩
    have hX2 := hX1.trans hE2
    go_wp2_with fail
    go_ret
    exact ⟨rfl, hX2⟩
  by_cases h3 : (70 : Int) < (nu : Int)
  case pos =>
    have h3' : (nu : Int) > 70 := h3
    have h1' : ¬ (no : Int) > 70 := h1
    have h2' : ¬ (nr : Int) > 70 := h2
    clear hG
    go_enter Tryz.func6, Tryz.ntmps6
    go_wp2_with fail
    refine (hkn.out _ hX).mono ?_
    rintro e W1 ⟨rfl, hE1⟩
    have y1 := hE1.cell x1
    have y2 := hE1.cell x2
    have y3 := hE1.cell x3
    have hX1 := hX.trans hE1
    clear x0 x1 x2 x3
    go_wp2_with fail
    refine (hkn.out _ hX1).mono ?_
    rintro e W2 ⟨rfl, hE2⟩
    have hX2 := hX1.trans hE2
    go_wp2_with fail
    go_ret
    exact ⟨rfl, hX2⟩
  have h4 : 3 < M ∧ M ≤ 20 := by unfold lckG at hG; omega
  obtain ⟨h4, h5⟩ := h4
  have h3' : ¬ (nu : Int) > 70 := h3
  have h1' : ¬ (no : Int) > 70 := h1
  have h2' : ¬ (nr : Int) > 70 := h2
  have h4' : M > 3 := h4
  clear hG
  go_enter Tryz.func6, Tryz.ntmps6
  go_wp2_with fail
  refine (hkn.out _ hX).mono ?_
  rintro e W1 ⟨rfl, hE1⟩
  have y1 := hE1.cell x1
  have y2 := hE1.cell x2
  have y3 := hE1.cell x3
  have hX1 := hX.trans hE1
  clear x0 x1 x2 x3
  go_wp2_with fail
  refine (hkn.out _ hX1).mono ?_
  rintro e W2 ⟨rfl, hE2⟩
  have hX2 := hX1.trans hE2
  go_wp2_with fail
  go_ret
  exact ⟨rfl, hX2⟩
set_option maxRecDepth 100000 in
set_option maxHeartbeats 8000000 in
theorem lck_err {w : World} {k : Int} {so sr su : Option Addr} {no co nr cr nu cu : Nat} {o r u : List Int} {M : Int} (ho : RowR w (.slice so no co) o) (hr : RowR w (.slice sr nr cr) r) (hu : RowR w (.slice su nu cu) u) (hL : Laid w) (hG : ¬ lckG no nr nu M) (hz0 : ¬ checkE k o r u = 0) :
    Calls Tryz.prog 6 #[layq k so no co sr nr cr su nu cu, .int .i64 M] w fun e w' => e = .returned (.bool true) ∧ Ext w w' := by
  have hG' : ¬ (70 : Int) < (no : Int) ∧ ¬ (70 : Int) < (nr : Int) ∧ ¬ (70 : Int) < (nu : Int) ∧ ¬ (3 < M ∧ M ≤ 20) := by unfold lckG at hG; omega
  obtain ⟨h1, h2, h3, h4⟩ := hG'
  have h1' : ¬ (no : Int) > 70 := h1
  have h2' : ¬ (nr : Int) > 70 := h2
  have h3' : ¬ (nu : Int) > 70 := h3
  have hkn := Lib.hid (fun W (hW : Ext w W) => known44_any (hL.ext hW))
  have hcl := Lib.hid (fun W (hW : Ext w W) => ckl_any (k := k) (ho.ext hW) (hr.ext hW) (hu.ext hW))
  have hZ : ChkZ w (layq k so no co sr nr cr su nu cu) (checkE k o r u) := fun W hW => lcheck_any (ho.ext hW) (hr.ext hW) (hu.ext hW)
  have hX : Ext w (w.alloc (.cells #[.int .i64 k, .slice so no co, .slice sr nr cr, .slice su nu cu] 54)) := (Ext.refl w).alloc _
  have x0 : (w.alloc (.cells #[.int .i64 k, .slice so no co, .slice sr nr cr, .slice su nu cu] 54)).cell? ⟨w.heap.size, 0, none⟩ = some (.int .i64 k) := by go_simp
  have x1 : (w.alloc (.cells #[.int .i64 k, .slice so no co, .slice sr nr cr, .slice su nu cu] 54)).cell? ⟨w.heap.size, 1, none⟩ = some (.slice so no co) := by go_simp
  have x2 : (w.alloc (.cells #[.int .i64 k, .slice so no co, .slice sr nr cr, .slice su nu cu] 54)).cell? ⟨w.heap.size, 2, none⟩ = some (.slice sr nr cr) := by go_simp
  have x3 : (w.alloc (.cells #[.int .i64 k, .slice so no co, .slice sr nr cr, .slice su nu cu] 54)).cell? ⟨w.heap.size, 3, none⟩ = some (.slice su nu cu) := by go_simp
  obtain ⟨z, hz⟩ : ∃ z, z = checkE k o r u := ⟨_, rfl⟩
  rw [← hz] at hcl hZ hz0
  have HZ := Lib.hid hZ
  have H0 := Lib.hid hz0
  have z2 : (z == 0) = false := beq_eq_false_iff_ne.2 hz0
  have z3 : (z != 0) = true := by simp [bne, z2]
  have z4 : decide (z = 0) = false := decide_eq_false hz0
  clear hL ho hr hu hz hZ hz0 hG
  have hM : (3 < M ∧ ¬ M ≤ 20) ∨ ¬ 3 < M := by omega
  rcases hM with ⟨hM1, hM2⟩ | hM1
  · have hM3 : M > 3 := hM1
    go_enter Tryz.func6, Tryz.ntmps6
    go_wp2_with fail
    refine (hkn.out _ hX).mono ?_
    rintro e W1 ⟨rfl, hE1⟩
    replace x0 := hE1.cell x0
    replace x1 := hE1.cell x1
    replace x2 := hE1.cell x2
    replace x3 := hE1.cell x3
    replace hX := hX.trans hE1
    clear hE1
    go_wp2_with fail
    refine (hcl.out _ hX).mono ?_
    rintro e W2 ⟨rfl, hE1⟩
    replace x0 := hE1.cell x0
    replace x1 := hE1.cell x1
    replace x2 := hE1.cell x2
    replace x3 := hE1.cell x3
    replace hX := hX.trans hE1
    clear hE1
    go_wp2_with fail
    refine (HZ.out _ hX).mono ?_
    rintro e W3 ⟨rfl, hE1⟩
    replace x0 := hE1.cell x0
    replace x1 := hE1.cell x1
    replace x2 := hE1.cell x2
    replace x3 := hE1.cell x3
    replace hX := hX.trans hE1
    clear hE1
    go_wp2_with fail
    refine (Window_e (M := M) (HZ.out.ext hX) H0.out).mono ?_
    rintro e W4 ⟨rfl, hE1⟩
    replace x0 := hE1.cell x0
    replace x1 := hE1.cell x1
    replace x2 := hE1.cell x2
    replace x3 := hE1.cell x3
    replace hX := hX.trans hE1
    clear hE1
    go_wp2_with fail
    refine (Keys_e (M := M) (HZ.out.ext hX) H0.out).mono ?_
    rintro e W5 ⟨rfl, hE1⟩
    replace x0 := hE1.cell x0
    replace x1 := hE1.cell x1
    replace x2 := hE1.cell x2
    replace x3 := hE1.cell x3
    replace hX := hX.trans hE1
    clear hE1
    go_wp2_with fail
    refine (Picture_e (M := M) (HZ.out.ext hX) H0.out).mono ?_
    rintro e W6 ⟨rfl, hE1⟩
    replace x0 := hE1.cell x0
    replace x1 := hE1.cell x1
    replace x2 := hE1.cell x2
    replace x3 := hE1.cell x3
    replace hX := hX.trans hE1
    clear hE1
    go_wp2_with fail
    refine (Note_e (HZ.out.ext hX) H0.out).mono ?_
    rintro e W7 ⟨rfl, hE1⟩
    replace x0 := hE1.cell x0
    replace x1 := hE1.cell x1
    replace x2 := hE1.cell x2
    replace x3 := hE1.cell x3
    replace hX := hX.trans hE1
    clear hE1
    go_wp2_with fail
    refine (First_e (HZ.out.ext hX) H0.out).mono ?_
    rintro e W8 ⟨rfl, hE1⟩
    replace x0 := hE1.cell x0
    replace x1 := hE1.cell x1
    replace x2 := hE1.cell x2
    replace x3 := hE1.cell x3
    replace hX := hX.trans hE1
    clear hE1
    have dl := World.block_lt_of_cell? _ _ x0
    go_wp2_with fail
    clear dl
    generalize hV : World.alloc W8 _ = V8
    have hE1 : Ext W8 V8 := by rw [← hV]; exact (Ext.refl _).alloc _
    have y0 : V8.cell? ⟨W8.heap.size, 0, none⟩ = some (.int .i64 0) := by rw [← hV]; clear hV; go_simp
    have y1 : V8.cell? ⟨W8.heap.size, 1, none⟩ = some (.int .i64 0) := by rw [← hV]; clear hV; go_simp
    replace x0 := hE1.cell x0
    replace x1 := hE1.cell x1
    replace x2 := hE1.cell x2
    replace x3 := hE1.cell x3
    replace hX := hX.trans hE1
    clear hE1 hV
    refine (Move_e (HZ.out.ext hX) H0.out).mono ?_
    rintro e W9 ⟨rfl, hE1⟩
    replace x0 := hE1.cell x0
    replace x1 := hE1.cell x1
    replace x2 := hE1.cell x2
    replace x3 := hE1.cell x3
    replace y0 := hE1.cell y0
    replace y1 := hE1.cell y1
    replace hX := hX.trans hE1
    clear hE1
    have dl := World.block_lt_of_cell? _ _ x0
    go_wp2_with fail
    clear dl
    generalize hV : World.alloc W9 _ = V9
    have hE1 : Ext W9 V9 := by rw [← hV]; exact (Ext.refl _).alloc _
    have y2 : V9.cell? ⟨W9.heap.size, 0, none⟩ = some (.int .i64 0) := by rw [← hV]; clear hV; go_simp
    have y3 : V9.cell? ⟨W9.heap.size, 1, none⟩ = some (.int .i64 0) := by rw [← hV]; clear hV; go_simp
    replace x0 := hE1.cell x0
    replace x1 := hE1.cell x1
    replace x2 := hE1.cell x2
    replace x3 := hE1.cell x3
    replace y0 := hE1.cell y0
    replace y1 := hE1.cell y1
    replace hX := hX.trans hE1
    clear hE1 hV
    refine (Alike_e (HZ.out.ext hX) H0.out).mono ?_
    rintro e W10 ⟨rfl, hE1⟩
    replace x0 := hE1.cell x0
    replace x1 := hE1.cell x1
    replace x2 := hE1.cell x2
    replace x3 := hE1.cell x3
    replace y0 := hE1.cell y0
    replace y1 := hE1.cell y1
    replace y2 := hE1.cell y2
    replace y3 := hE1.cell y3
    replace hX := hX.trans hE1
    clear hE1
    go_wp2_with fail
    refine (Single_e (HZ.out.ext hX) H0.out).mono ?_
    rintro e W11 ⟨rfl, hE1⟩
    replace x0 := hE1.cell x0
    replace x1 := hE1.cell x1
    replace x2 := hE1.cell x2
    replace x3 := hE1.cell x3
    replace y0 := hE1.cell y0
    replace y1 := hE1.cell y1
    replace y2 := hE1.cell y2
    replace y3 := hE1.cell y3
    replace hX := hX.trans hE1
    clear hE1
    go_wp2_with fail
    refine (Complete_e (HZ.out.ext hX) H0.out).mono ?_
    rintro e W12 ⟨rfl, hE1⟩
    replace x0 := hE1.cell x0
    replace x1 := hE1.cell x1
    replace x2 := hE1.cell x2
    replace x3 := hE1.cell x3
    replace y0 := hE1.cell y0
    replace y1 := hE1.cell y1
    replace y2 := hE1.cell y2
    replace y3 := hE1.cell y3
    replace hX := hX.trans hE1
    clear hE1
    go_wp2_with fail
    go_ret
    exact ⟨rfl, hX⟩
  · have hM3 : ¬ M > 3 := hM1
    go_enter Tryz.func6, Tryz.ntmps6
    go_wp2_with fail
    refine (hkn.out _ hX).mono ?_
    rintro e W1 ⟨rfl, hE1⟩
    replace x0 := hE1.cell x0
    replace x1 := hE1.cell x1
    replace x2 := hE1.cell x2
    replace x3 := hE1.cell x3
    replace hX := hX.trans hE1
    clear hE1
    go_wp2_with fail
    refine (hcl.out _ hX).mono ?_
    rintro e W2 ⟨rfl, hE1⟩
    replace x0 := hE1.cell x0
    replace x1 := hE1.cell x1
    replace x2 := hE1.cell x2
    replace x3 := hE1.cell x3
    replace hX := hX.trans hE1
    clear hE1
    go_wp2_with fail
    refine (HZ.out _ hX).mono ?_
    rintro e W3 ⟨rfl, hE1⟩
    replace x0 := hE1.cell x0
    replace x1 := hE1.cell x1
    replace x2 := hE1.cell x2
    replace x3 := hE1.cell x3
    replace hX := hX.trans hE1
    clear hE1
    go_wp2_with fail
    refine (Window_e (M := M) (HZ.out.ext hX) H0.out).mono ?_
    rintro e W4 ⟨rfl, hE1⟩
    replace x0 := hE1.cell x0
    replace x1 := hE1.cell x1
    replace x2 := hE1.cell x2
    replace x3 := hE1.cell x3
    replace hX := hX.trans hE1
    clear hE1
    go_wp2_with fail
    refine (Keys_e (M := M) (HZ.out.ext hX) H0.out).mono ?_
    rintro e W5 ⟨rfl, hE1⟩
    replace x0 := hE1.cell x0
    replace x1 := hE1.cell x1
    replace x2 := hE1.cell x2
    replace x3 := hE1.cell x3
    replace hX := hX.trans hE1
    clear hE1
    go_wp2_with fail
    refine (Picture_e (M := M) (HZ.out.ext hX) H0.out).mono ?_
    rintro e W6 ⟨rfl, hE1⟩
    replace x0 := hE1.cell x0
    replace x1 := hE1.cell x1
    replace x2 := hE1.cell x2
    replace x3 := hE1.cell x3
    replace hX := hX.trans hE1
    clear hE1
    go_wp2_with fail
    refine (Note_e (HZ.out.ext hX) H0.out).mono ?_
    rintro e W7 ⟨rfl, hE1⟩
    replace x0 := hE1.cell x0
    replace x1 := hE1.cell x1
    replace x2 := hE1.cell x2
    replace x3 := hE1.cell x3
    replace hX := hX.trans hE1
    clear hE1
    go_wp2_with fail
    refine (First_e (HZ.out.ext hX) H0.out).mono ?_
    rintro e W8 ⟨rfl, hE1⟩
    replace x0 := hE1.cell x0
    replace x1 := hE1.cell x1
    replace x2 := hE1.cell x2
    replace x3 := hE1.cell x3
    replace hX := hX.trans hE1
    clear hE1
    have dl := World.block_lt_of_cell? _ _ x0
    go_wp2_with fail
    clear dl
    generalize hV : World.alloc W8 _ = V8
    have hE1 : Ext W8 V8 := by rw [← hV]; exact (Ext.refl _).alloc _
    have y0 : V8.cell? ⟨W8.heap.size, 0, none⟩ = some (.int .i64 0) := by rw [← hV]; clear hV; go_simp
    have y1 : V8.cell? ⟨W8.heap.size, 1, none⟩ = some (.int .i64 0) := by rw [← hV]; clear hV; go_simp
    replace x0 := hE1.cell x0
    replace x1 := hE1.cell x1
    replace x2 := hE1.cell x2
    replace x3 := hE1.cell x3
    replace hX := hX.trans hE1
    clear hE1 hV
    refine (Move_e (HZ.out.ext hX) H0.out).mono ?_
    rintro e W9 ⟨rfl, hE1⟩
    replace x0 := hE1.cell x0
    replace x1 := hE1.cell x1
    replace x2 := hE1.cell x2
    replace x3 := hE1.cell x3
    replace y0 := hE1.cell y0
    replace y1 := hE1.cell y1
    replace hX := hX.trans hE1
    clear hE1
    have dl := World.block_lt_of_cell? _ _ x0
    go_wp2_with fail
    clear dl
    generalize hV : World.alloc W9 _ = V9
    have hE1 : Ext W9 V9 := by rw [← hV]; exact (Ext.refl _).alloc _
    have y2 : V9.cell? ⟨W9.heap.size, 0, none⟩ = some (.int .i64 0) := by rw [← hV]; clear hV; go_simp
    have y3 : V9.cell? ⟨W9.heap.size, 1, none⟩ = some (.int .i64 0) := by rw [← hV]; clear hV; go_simp
    replace x0 := hE1.cell x0
    replace x1 := hE1.cell x1
    replace x2 := hE1.cell x2
    replace x3 := hE1.cell x3
    replace y0 := hE1.cell y0
    replace y1 := hE1.cell y1
    replace hX := hX.trans hE1
    clear hE1 hV
    refine (Alike_e (HZ.out.ext hX) H0.out).mono ?_
    rintro e W10 ⟨rfl, hE1⟩
    replace x0 := hE1.cell x0
    replace x1 := hE1.cell x1
    replace x2 := hE1.cell x2
    replace x3 := hE1.cell x3
    replace y0 := hE1.cell y0
    replace y1 := hE1.cell y1
    replace y2 := hE1.cell y2
    replace y3 := hE1.cell y3
    replace hX := hX.trans hE1
    clear hE1
    go_wp2_with fail
    refine (Single_e (HZ.out.ext hX) H0.out).mono ?_
    rintro e W11 ⟨rfl, hE1⟩
    replace x0 := hE1.cell x0
    replace x1 := hE1.cell x1
    replace x2 := hE1.cell x2
    replace x3 := hE1.cell x3
    replace y0 := hE1.cell y0
    replace y1 := hE1.cell y1
    replace y2 := hE1.cell y2
    replace y3 := hE1.cell y3
    replace hX := hX.trans hE1
    clear hE1
    go_wp2_with fail
    refine (Complete_e (HZ.out.ext hX) H0.out).mono ?_
    rintro e W12 ⟨rfl, hE1⟩
    replace x0 := hE1.cell x0
    replace x1 := hE1.cell x1
    replace x2 := hE1.cell x2
    replace x3 := hE1.cell x3
    replace y0 := hE1.cell y0
    replace y1 := hE1.cell y1
    replace y2 := hE1.cell y2
    replace y3 := hE1.cell y3
    replace hX := hX.trans hE1
    clear hE1
    go_wp2_with fail
    go_ret
    exact ⟨rfl, hX⟩
set_option maxRecDepth 100000 in
set_option maxHeartbeats 8000000 in
theorem lck_ok {w : World} {k : Int} {so sr su : Option Addr} {no co cr cu : Nat} {o r u : List Int} {M : Int} (h : LayG w k no so co sr cr su cu o r u) (hL : Laid w) (hM : ¬ (3 < M ∧ M ≤ 20)) :
    Calls Tryz.prog 6 #[layg k no so co sr cr su cu, .int .i64 M] w fun e w' => e = .returned (.bool true) ∧ Ext w w' := by
  have hn := h.n12
  have h1 : ¬ (70 : Int) < (no : Int) := by omega
  have h1' : ¬ (no : Int) > 70 := by omega
  have hkn := Lib.hid (fun W (hW : Ext w W) => known44_any (hL.ext hW))
  have hcl := Lib.hid (fun W (hW : Ext w W) => by
    have := ckl_any (k := k) (h.po.ext hW) (h.pr.ext hW) (h.pu.ext hW)
    rw [h.chk] at this
    exact this)
  have HG := Lib.hid h
  have hX : Ext w (w.alloc (.cells #[.int .i64 k, .slice so no co, .slice sr no cr, .slice su no cu] 54)) := (Ext.refl w).alloc _
  have x0 : (w.alloc (.cells #[.int .i64 k, .slice so no co, .slice sr no cr, .slice su no cu] 54)).cell? ⟨w.heap.size, 0, none⟩ = some (.int .i64 k) := by go_simp
  have x1 : (w.alloc (.cells #[.int .i64 k, .slice so no co, .slice sr no cr, .slice su no cu] 54)).cell? ⟨w.heap.size, 1, none⟩ = some (.slice so no co) := by go_simp
  have x2 : (w.alloc (.cells #[.int .i64 k, .slice so no co, .slice sr no cr, .slice su no cu] 54)).cell? ⟨w.heap.size, 2, none⟩ = some (.slice sr no cr) := by go_simp
  have x3 : (w.alloc (.cells #[.int .i64 k, .slice so no co, .slice sr no cr, .slice su no cu] 54)).cell? ⟨w.heap.size, 3, none⟩ = some (.slice su no cu) := by go_simp
  by_cases hr1 : M < 0
  · have hw3 : winE M = 3 := by unfold winE; rw [if_pos (.inl hr1)]
    have hM1 : ¬ 3 < M := by omega
    have hM2 : ¬ M > 3 := by omega
    clear hL h
    go_enter Tryz.func6, Tryz.ntmps6
    go_wp2_with fail
    refine (hkn.out _ hX).mono ?_
    rintro e W1 ⟨rfl, hE1⟩
    replace x0 := hE1.cell x0
    replace x1 := hE1.cell x1
    replace x2 := hE1.cell x2
    replace x3 := hE1.cell x3
    replace hX := hX.trans hE1
    clear hE1
    go_wp2_with fail
    refine (hcl.out _ hX).mono ?_
    rintro e W2 ⟨rfl, hE1⟩
    replace x0 := hE1.cell x0
    replace x1 := hE1.cell x1
    replace x2 := hE1.cell x2
    replace x3 := hE1.cell x3
    replace hX := hX.trans hE1
    clear hE1
    go_wp2_with fail
    refine (lcheck_g (HG.out.ext hX)).mono ?_
    rintro e W3 ⟨rfl, hE1⟩
    replace x0 := hE1.cell x0
    replace x1 := hE1.cell x1
    replace x2 := hE1.cell x2
    replace x3 := hE1.cell x3
    replace hX := hX.trans hE1
    clear hE1
    go_wp2_with fail
    refine (Window_rng (HG.out.ext hX) hw3).mono ?_
    rintro e W4 ⟨rfl, hE1⟩
    replace x0 := hE1.cell x0
    replace x1 := hE1.cell x1
    replace x2 := hE1.cell x2
    replace x3 := hE1.cell x3
    replace hX := hX.trans hE1
    clear hE1
    go_wp2_with fail
    refine (Keys_rng (HG.out.ext hX) hw3).mono ?_
    rintro e W5 ⟨rfl, hE1⟩
    replace x0 := hE1.cell x0
    replace x1 := hE1.cell x1
    replace x2 := hE1.cell x2
    replace x3 := hE1.cell x3
    replace hX := hX.trans hE1
    clear hE1
    go_wp2_with fail
    refine (Picture_rng (HG.out.ext hX) hw3).mono ?_
    rintro e W6 ⟨rfl, hE1⟩
    replace x0 := hE1.cell x0
    replace x1 := hE1.cell x1
    replace x2 := hE1.cell x2
    replace x3 := hE1.cell x3
    replace hX := hX.trans hE1
    clear hE1
    go_wp2_with fail
    go_ret
    exact ⟨rfl, hX⟩
  by_cases hr2 : 20 < M
  · have hw3 : winE M = 3 := by unfold winE; rw [if_pos (.inr hr2)]
    have hM1 : M > 3 := by omega
    have hM2 : ¬ M ≤ 20 := by omega
    have hM4 : M > 20 := by omega
    clear hL h
    go_enter Tryz.func6, Tryz.ntmps6
    go_wp2_with fail
    refine (hkn.out _ hX).mono ?_
    rintro e W1 ⟨rfl, hE1⟩
    replace x0 := hE1.cell x0
    replace x1 := hE1.cell x1
    replace x2 := hE1.cell x2
    replace x3 := hE1.cell x3
    replace hX := hX.trans hE1
    clear hE1
    go_wp2_with fail
    refine (hcl.out _ hX).mono ?_
    rintro e W2 ⟨rfl, hE1⟩
    replace x0 := hE1.cell x0
    replace x1 := hE1.cell x1
    replace x2 := hE1.cell x2
    replace x3 := hE1.cell x3
    replace hX := hX.trans hE1
    clear hE1
    go_wp2_with fail
    refine (lcheck_g (HG.out.ext hX)).mono ?_
    rintro e W3 ⟨rfl, hE1⟩
    replace x0 := hE1.cell x0
    replace x1 := hE1.cell x1
    replace x2 := hE1.cell x2
    replace x3 := hE1.cell x3
    replace hX := hX.trans hE1
    clear hE1
    go_wp2_with fail
    refine (Window_rng (HG.out.ext hX) hw3).mono ?_
    rintro e W4 ⟨rfl, hE1⟩
    replace x0 := hE1.cell x0
    replace x1 := hE1.cell x1
    replace x2 := hE1.cell x2
    replace x3 := hE1.cell x3
    replace hX := hX.trans hE1
    clear hE1
    go_wp2_with fail
    refine (Keys_rng (HG.out.ext hX) hw3).mono ?_
    rintro e W5 ⟨rfl, hE1⟩
    replace x0 := hE1.cell x0
    replace x1 := hE1.cell x1
    replace x2 := hE1.cell x2
    replace x3 := hE1.cell x3
    replace hX := hX.trans hE1
    clear hE1
    go_wp2_with fail
    refine (Picture_rng (HG.out.ext hX) hw3).mono ?_
    rintro e W6 ⟨rfl, hE1⟩
    replace x0 := hE1.cell x0
    replace x1 := hE1.cell x1
    replace x2 := hE1.cell x2
    replace x3 := hE1.cell x3
    replace hX := hX.trans hE1
    clear hE1
    go_wp2_with fail
    go_ret
    exact ⟨rfl, hX⟩
  obtain ⟨m, hm⟩ : ∃ m : Nat, M = (m : Int) := ⟨M.toNat, by omega⟩
  have hm3 : m ≤ 3 := by omega
  have hM1 : ¬ 3 < M := by omega
  have hM2 : ¬ M > 3 := by omega
  have hM4 : ¬ M > 20 := by omega
  have hWi := fun W (hW : Ext w W) => Window_g (m := m) (h.ext hW) (by omega)
  have hKy := fun W (hW : Ext w W) => Keys_g (m := m) (h.ext hW) (by omega) (h.po.ext hW) (rowE_ok h.lo h.eo)
  have hPi := fun W (hW : Ext w W) => Picture_g (m := m) (h.ext hW) (by omega) (NamesR.nil W) (by simp) (fun p hp => by simp at hp)
  unfold WinG at hWi
  unfold PicPost at hPi
  rw [← hm] at hWi hKy hPi
  replace hWi := Lib.hid hWi
  replace hKy := Lib.hid hKy
  replace hPi := Lib.hid hPi
  clear hL h hm hM
  go_enter Tryz.func6, Tryz.ntmps6
  go_wp2_with fail
  refine (hkn.out _ hX).mono ?_
  rintro e W1 ⟨rfl, hE1⟩
  replace x0 := hE1.cell x0
  replace x1 := hE1.cell x1
  replace x2 := hE1.cell x2
  replace x3 := hE1.cell x3
  replace hX := hX.trans hE1
  clear hE1
  go_wp2_with fail
  refine (hcl.out _ hX).mono ?_
  rintro e W2 ⟨rfl, hE1⟩
  replace x0 := hE1.cell x0
  replace x1 := hE1.cell x1
  replace x2 := hE1.cell x2
  replace x3 := hE1.cell x3
  replace hX := hX.trans hE1
  clear hE1
  go_wp2_with fail
  refine (lcheck_g (HG.out.ext hX)).mono ?_
  rintro e W3 ⟨rfl, hE1⟩
  replace x0 := hE1.cell x0
  replace x1 := hE1.cell x1
  replace x2 := hE1.cell x2
  replace x3 := hE1.cell x3
  replace hX := hX.trans hE1
  clear hE1
  go_wp2_with fail
  refine (hWi.out _ hX).mono ?_
  rintro e W4 ⟨hp, hE1⟩
  replace x0 := hE1.cell x0
  replace x1 := hE1.cell x1
  replace x2 := hE1.cell x2
  replace x3 := hE1.cell x3
  replace hX := hX.trans hE1
  clear hE1
  have HK := Lib.hid (hKy.out _ hX)
  have HPp := Lib.hid (fun W (hW : Ext w W) => hPi.out W hW)
  clear hKy hWi hPi
  by_cases hA : AllG M o r u
  · rcases hp with ⟨_, v, rfl, hB⟩ | ⟨hn, _⟩
    case inr => exact absurd hA hn
    obtain ⟨g, cap, hv⟩ := hB.shape (by rw [winTo_length]; omega)
    rw [winTo_length] at hv
    subst hv
    have HA := Lib.hid hA
    clear hB hA
    go_wp2_with fail
    refine HK.out.mono ?_
    rintro e W5 ⟨⟨vk, rfl, _⟩, hE1⟩
    replace x0 := hE1.cell x0
    replace x1 := hE1.cell x1
    replace x2 := hE1.cell x2
    replace x3 := hE1.cell x3
    replace hX := hX.trans hE1
    clear hE1 HK
    go_wp2_with fail
    refine (HPp.out _ hX).mono ?_
    rintro e W6 ⟨hp, hE1⟩
    replace hX := hX.trans hE1
    rcases hp with ⟨hn, _⟩ | ⟨_, hn, _⟩ | ⟨_, _, v, rfl, hB⟩
    · exact absurd rfl hn
    · exact absurd HA.out hn
    · obtain ⟨g2, cap2, hv⟩ := StrO.sh hB (picTo_length _ _ _ _ _ _ _ _) (by omega)
      subst hv
      clear hB
      go_wp2_with fail
      go_ret
      exact ⟨rfl, hX⟩
  · rcases hp with ⟨hn, _⟩ | ⟨_, rfl⟩
    · exact absurd hn hA
    have HA := Lib.hid hA
    clear hA
    go_wp2_with fail
    refine HK.out.mono ?_
    rintro e W5 ⟨⟨vk, rfl, _⟩, hE1⟩
    replace x0 := hE1.cell x0
    replace x1 := hE1.cell x1
    replace x2 := hE1.cell x2
    replace x3 := hE1.cell x3
    replace hX := hX.trans hE1
    clear hE1 HK
    go_wp2_with fail
    refine (HPp.out _ hX).mono ?_
    rintro e W6 ⟨hp, hE1⟩
    replace hX := hX.trans hE1
    rcases hp with ⟨hn, _⟩ | ⟨_, _, rfl⟩ | ⟨_, hn, _⟩
    · exact absurd rfl hn
    · go_wp2_with fail
      go_ret
      exact ⟨rfl, hX⟩
    · exact absurd hn HA.out
theorem lck_walk {w : World} {k : Int} {so sr su : Option Addr} {no co nr cr nu cu : Nat} {o r u : List Int} {M : Int} (ho : RowR w (.slice so no co) o) (hr : RowR w (.slice sr nr cr) r) (hu : RowR w (.slice su nu cu) u) (hL : Laid w) :
    Calls Tryz.prog 6 #[layq k so no co sr nr cr su nu cu, .int .i64 M] w fun e w' => e = .returned (.bool true) ∧ Ext w w' := by
  by_cases hG : lckG no nr nu M
  · exact lck_out hL hG
  by_cases hz : checkE k o r u = 0
  · obtain ⟨rfl, rfl, hg⟩ := checkE_zero hz ho hr hu
    exact lck_ok hg hL (by unfold lckG at hG; omega)
  · exact lck_err ho hr hu hL hG hz
end Go.Proofs.YtokjolmpdfmnbaaGreatDoor
namespace Go.Proofs.YtokjolmpdfmnbaaGreatDoor
open Go.ChangeShapes Go.WideShapes Go.ChangeAt Go.WideMaps Go.WideElems Go.RowKit Go.Deep
set_option maxRecDepth 100000 in
set_option maxHeartbeats 2000000 in
theorem layoutChecks_lifted (os : Os) (started : os.Started) (H : Type) (enc : TypeId × Value → H) :
    ReturnsInHanded {} Tryz.checked os 6 .any (fun w args => (Rows.layoutChecksSpec.pre enc Tryz.prog Tryz.f6 [] false w args ∧ laidMetH Tryz.prog fr_list w) ∧ sizedMet enc Tryz.prog Tryz.f6 (OpenSpec.ofChange Rows.layoutChecksSpec) false w args)
      (Rows.layoutChecksSpec.post enc Tryz.prog Tryz.f6 false true false false) := by
  refine returnsInHanded_of_change_and (C := Tryz.checked) (X := fun w _ => laidMetH Tryz.prog fr_list w) (fun _ _ _ hh h => h.of_heap hh) fr_own started (by kernel_rfl) Tryz.func6
    (ChangeSpec.witness_shaped (enc := enc) (C := Tryz.checked) (os := os) (X := fun w _ => laidMetH Tryz.prog fr_list w) false (World.doorLaid Tryz.prog 400 os) #[.agg #[.int .i64 0, .slice none 0 0, .slice none 0 0, .slice none 0 0], .int .i64 0] 8 rfl (World.shaped_of_RefB (by kernel_rfl) (by kernel_rfl)) (by kernel_rfl) (by kernel_rfl) (by kernel_rfl) (door_met os _)) ?_
  intro W base args ds gs before hval0 hW _ _ hL _
  have hval : ∀ (j : Nat) t v, Tryz.f6.params[j]? = some t → args[j]? = some v → Value.okWide Tryz.prog W .any base t v := hval0
  have hW' := hW
  obtain ⟨p, q, hA0, hV, rfl, hfz, hnd⟩ := hW
  have hA : DataW.TrodAll enc Tryz.prog W 0 (fun _ => true) true Tryz.f6.params.toList args.toList ds p := hA0
  rw [Tryz.params6] at hA hval
  obtain ⟨v0, v1, d0, d1, p0, p1, rfl, rfl, rfl, h0, h1⟩ := trodAll_two hA
  obtain ⟨rfl, rfl⟩ := trodVars_none hV
  obtain ⟨cs0, rfl, hs0⟩ := okWide_struct Tryz.underlying54 (hval 0 54 v0 rfl rfl)
  rw [fr_cLa] at hs0
  obtain ⟨n1, rfl, e1, _, w1⟩ := open_int Tryz.underlying3 (hval 1 3 v1 rfl rfl) h1
  have h0k := h0
  have h1k := h1
  obtain ⟨fuel0, hf0⟩ := h0
  obtain ⟨k0, so0, no0, co0, sr0, nr0, cr0, su0, nu0, cu0, o0, r0, u0, rfl, hk0, hO0, hR0, hU0⟩ := lay_open hs0 hf0
  have b1 := i64_bounds w1
  clear hA0 hval0 hf0
  simp only [List.append_nil] at hW'
  have hlt : ∀ z ∈ p0 ++ p1, z.block < W.heap.size := fun z hz => by simpa using hW'.lt z hz
  refine (lck_walk hO0 hR0 hU0 (laid_of hL)).mono ?_
  rintro e W' ⟨rfl, hE⟩
  have e1 : Rows.layoutChecksSpec.fn H ([d0, d1] ++ []) = { results := [.lit (.bool true)], args := [d0, d1] } := rfl
  refine ⟨_, rfl, _, _, _, [], p0 ++ p1, [], hW', ?_, ?_, ?_, hE.frame _, fun h => by cases h⟩
  · rw [e1]; exact trodAll_mk1 (shut_bool Tryz.underlying4 true)
  · rw [e1]; exact trodAll_mk2 (Below.trod fr_laidOut (by kernel_rfl) (of_decide_eq_true (by kernel_rfl)) h0k hE fun x hx => hlt x (by simp [hx])) (Below.trod fr_laidOut (by kernel_rfl) (of_decide_eq_true (by kernel_rfl)) h1k hE fun x hx => hlt x (by simp [hx]))
  · rw [e1]; rfl
set_option maxHeartbeats 20000000 in
theorem layoutChecks_holds : Rows.LayoutChecksSaid :=
  OpenClaim.holds_of_wide 6 Tryz.f6 rfl rfl rfl rfl rfl rfl rfl ⟨rfl, rfl, rfl, rfl, rfl⟩ rfl rfl rfl rfl rfl (by as_aux_lemma => kernel_rfl) Tryz.func6 (by
      unfold joinedFacts
      simp only [Bool.and_eq_true]
      repeat' apply And.intro
      all_goals (as_aux_lemma => kernel_rfl))
    (of_decide_eq_true (by kernel_rfl)) (by unfold Func.isWrapper; first | (rw [if_pos (by decide +kernel)]; kernel_rfl) | (rw [if_neg (by decide +kernel)]; exact ⟨rfl, rfl⟩))
    (fun os started H enc _ => layoutChecks_lifted os started H enc)
set_option maxHeartbeats 20000000 in
theorem layoutChecks_card : Rows.LayoutChecksCardSaid :=
  Claim7.holds_tied_plain_at .later [] [.data, .data, .data, .sentinel, .sentinel] true Rows.layoutChecksCard.stood.harness true
    layoutChecks_holds (fun _ h => by cases h) (by as_aux_lemma => kernel_rfl) (fun _ h => by cases h) layoutChecks_row_tie rfl ⟨rfl, rfl⟩ (by as_aux_lemma => kernel_rfl) rfl
    (fun f fn hf hfn => by
      obtain rfl : f = 6 := Option.some.inj ((show Tryz.prog.funcNamed "schisma/schismalaw44.LayoutChecks" = some 6 by as_aux_lemma => kernel_rfl).symm.trans hf) |>.symm
      obtain rfl : fn = Tryz.f6 := (Option.some.inj (Tryz.func6.symm.trans hfn)).symm
      exact ⟨by as_aux_lemma => kernel_rfl, fun j t ht => by
        rw [Tryz.params6] at ht
        have hm : t ∈ [54, 3] := by simpa using Array.mem_of_getElem? ht
        have hall : ([54, 3].all fun u => !Tryz.prog.wantsStandIn u) = true := by as_aux_lemma => kernel_rfl
        exact (show Tryz.prog.wantsStandIn t = false by simpa using List.all_eq_true.1 hall t hm)⟩)
    (by as_aux_lemma => kernel_rfl)
#print axioms layoutChecks_card
end Go.Proofs.YtokjolmpdfmnbaaGreatDoor
