/- Part 1, beside the shared parts, of the proof of the claim: contracts and plain laws; no condition. -/
import Derived.Test.YtnlajhjoakijmaaGreatDoorV01
import Derived.Test.YtnlajhjoakijmaaGreatDoorV02
import Derived.Test.YtnlajhjoakijmaaGreatDoorV03
import Derived.Test.YtnlajhjoakijmaaGreatDoorV04
import Derived.Test.YtnlajhjoakijmaaGreatDoorV05
import Derived.Test.YtnlajhjoakijmaaGreatDoorV06
import Derived.Test.YtnlajhjoakijmaaGreatDoorV07
import Derived.Test.YtnlajhjoakijmaaGreatDoorV08
import Derived.Test.YtnlajhjoakijmaaGreatDoorV09
import Derived.Test.YtnlajhjoakijmaaGreatDoorV10
import Derived.Test.YtnlajhjoakijmaaGreatDoorV11
import Derived.Test.YtnlajhjoakijmaaGreatDoorV12
import Derived.Test.YtnlajhjoakijmaaGreatDoorV13
import Derived.Test.YtnlajhjoakijmaaGreatDoorV14
import Derived.Test.YtnlajhjoakijmaaGreatDoorV15
import Derived.Test.YtnlajhjoakijmaaGreatDoorV16
import Derived.Test.YtnlajhjoakijmaaGreatDoorV17
import Derived.Test.YtnlajhjoakijmaaGreatDoorV18
import Derived.Test.YtnlajhjoakijmaaGreatDoorV19
import Derived.Test.YtnlajhjoakijmaaGreatDoorV20
import Derived.Test.YtnlajhjoakijmaaGreatDoorV21
import Derived.Test.YtnlajhjoakijmaaGreatDoorV22
import Derived.Test.YtnlajhjoakijmaaGreatDoorV23
import Derived.Test.YtnlajhjoakijmaaGreatDoorV24
import Derived.Test.YtnlajhjoakijmaaGreatDoorV25
import Derived.Test.YtnlajhjoakijmaaGreatDoorV26
import Derived.Test.YtnlajhjoakijmaaGreatDoorV27
import Derived.Test.YtnlajhjoakijmaaGreatDoorV28
import Derived.Test.YtnlajhjoakijmaaGreatDoorV29
import Derived.Test.YtnlajhjoakijmaaGreatDoorV30
import Derived.Test.YtnlajhjoakijmaaGreatDoorV31
import Derived.Test.YtnlajhjoakijmaaGreatDoorV32
namespace Go.Proofs.YtnlajhjoakijmaaGreatDoor
open Go.RowKit Go.Sort
set_option maxRecDepth 100000 in
theorem gtwo_err {w : World} {P : List Int} {C M M' : Mx} {sp : Option Addr} {cp : Nat} {sc : Option Addr} {lc cc : Nat} {sm : Option Addr} {lm cm : Nat} (h : TmV w P C M M' sp cp sc lc cc sm lm cm) (hne : M ≠ M') (hL : Laid w) :
    Calls Tryz.prog 47 #[tmS P sp cp sc lc cc sm lm cm] w fun e w' => e = .returned (.int .i64 14) ∧ Ext w w' := by
  have hck := fun W (hW : Ext w W) => tCheck_any (h.ext hW) (hL.ext hW)
  rw [show tmE M M' = 14 from if_neg hne] at hck
  replace hck := Lib.hid hck
  have hX := (Ext.refl w).alloc (.cells #[.slice sp P.length cp, .slice sc lc cc, .slice sm lm cm] 34)
  have x0 : (w.alloc (.cells #[.slice sp P.length cp, .slice sc lc cc, .slice sm lm cm] 34)).cell? ⟨w.heap.size, 0, none⟩ = some (.slice sp P.length cp) := by go_simp
  have x1 : (w.alloc (.cells #[.slice sp P.length cp, .slice sc lc cc, .slice sm lm cm] 34)).cell? ⟨w.heap.size, 1, none⟩ = some (.slice sc lc cc) := by go_simp
  have x2 : (w.alloc (.cells #[.slice sp P.length cp, .slice sc lc cc, .slice sm lm cm] 34)).cell? ⟨w.heap.size, 2, none⟩ = some (.slice sm lm cm) := by go_simp
  clear h hne hL
  go_enter Tryz.func47, Tryz.ntmps47
  go_wp2_with fail
  refine (hck.out _ hX).mono ?_
  rintro e X ⟨rfl, hE1⟩
  have e1 := hX.trans hE1
  go_wp2_with fail
  go_ret
  exact ⟨rfl, e1⟩
set_option maxRecDepth 100000 in
theorem gChange_err {w : World} {P : List Int} {C M M' : Mx} {sp : Option Addr} {cp : Nat} {sc : Option Addr} {lc cc : Nat} {sm : Option Addr} {lm cm : Nat} {v : Value} (h : TmV w P C M M' sp cp sc lc cc sm lm cm) (hne : M ≠ M') (hL : Laid w) :
    Calls Tryz.prog 37 #[tmS P sp cp sc lc cc sm lm cm, v] w fun e w' => e = .returned (.tuple #[.slice none 0 0, .int .i64 14]) ∧ Ext w w' := by
  have hck := fun W (hW : Ext w W) => tCheck_any (h.ext hW) (hL.ext hW)
  rw [show tmE M M' = 14 from if_neg hne] at hck
  replace hck := Lib.hid hck
  have hX := (Ext.refl w).alloc (.cells #[.slice sp P.length cp, .slice sc lc cc, .slice sm lm cm] 34)
  have x0 : (w.alloc (.cells #[.slice sp P.length cp, .slice sc lc cc, .slice sm lm cm] 34)).cell? ⟨w.heap.size, 0, none⟩ = some (.slice sp P.length cp) := by go_simp
  have x1 : (w.alloc (.cells #[.slice sp P.length cp, .slice sc lc cc, .slice sm lm cm] 34)).cell? ⟨w.heap.size, 1, none⟩ = some (.slice sc lc cc) := by go_simp
  have x2 : (w.alloc (.cells #[.slice sp P.length cp, .slice sc lc cc, .slice sm lm cm] 34)).cell? ⟨w.heap.size, 2, none⟩ = some (.slice sm lm cm) := by go_simp
  clear h hne hL
  go_enter Tryz.func37, Tryz.ntmps37
  go_wp2_with fail
  refine (hck.out _ hX).mono ?_
  rintro e X ⟨rfl, hE1⟩
  have e1 := hX.trans hE1
  go_wp2_with fail
  go_ret2
  exact ⟨rfl, e1⟩
set_option maxRecDepth 100000 in
theorem gSection_err {w : World} {P : List Int} {C M M' : Mx} {sp : Option Addr} {cp : Nat} {sc : Option Addr} {lc cc : Nat} {sm : Option Addr} {lm cm : Nat} (h : TmV w P C M M' sp cp sc lc cc sm lm cm) (hne : M ≠ M') (hL : Laid w) :
    Calls Tryz.prog 34 #[tmS P sp cp sc lc cc sm lm cm] w fun e w' => e = .returned (.tuple #[.slice none 0 0, .int .i64 14]) ∧ Ext w w' := by
  have hck := fun W (hW : Ext w W) => tCheck_any (h.ext hW) (hL.ext hW)
  rw [show tmE M M' = 14 from if_neg hne] at hck
  replace hck := Lib.hid hck
  have hX := (Ext.refl w).alloc (.cells #[.slice sp P.length cp, .slice sc lc cc, .slice sm lm cm] 34)
  have x0 : (w.alloc (.cells #[.slice sp P.length cp, .slice sc lc cc, .slice sm lm cm] 34)).cell? ⟨w.heap.size, 0, none⟩ = some (.slice sp P.length cp) := by go_simp
  have x1 : (w.alloc (.cells #[.slice sp P.length cp, .slice sc lc cc, .slice sm lm cm] 34)).cell? ⟨w.heap.size, 1, none⟩ = some (.slice sc lc cc) := by go_simp
  have x2 : (w.alloc (.cells #[.slice sp P.length cp, .slice sc lc cc, .slice sm lm cm] 34)).cell? ⟨w.heap.size, 2, none⟩ = some (.slice sm lm cm) := by go_simp
  clear h hne hL
  go_enter Tryz.func34, Tryz.ntmps34
  go_wp2_with fail
  refine (hck.out _ hX).mono ?_
  rintro e X ⟨rfl, hE1⟩
  have e1 := hX.trans hE1
  go_wp2_with fail
  go_ret2
  exact ⟨rfl, e1⟩
set_option maxRecDepth 100000 in
theorem gSteps_err {w : World} {P : List Int} {C M M' : Mx} {sp : Option Addr} {cp : Nat} {sc : Option Addr} {lc cc : Nat} {sm : Option Addr} {lm cm : Nat} {v : Value} (h : TmV w P C M M' sp cp sc lc cc sm lm cm) (hne : M ≠ M') (hL : Laid w) :
    Calls Tryz.prog 22 #[tmS P sp cp sc lc cc sm lm cm, v] w fun e w' => e = .returned (.tuple #[.int .i64 0, .int .i64 14]) ∧ Ext w w' := by
  have hck := Lib.hid (fun W (hW : Ext w W) => gtwo_err (h.ext hW) hne (hL.ext hW))
  have hX := (Ext.refl w).alloc (.cells #[.slice sp P.length cp, .slice sc lc cc, .slice sm lm cm] 34)
  have x0 : (w.alloc (.cells #[.slice sp P.length cp, .slice sc lc cc, .slice sm lm cm] 34)).cell? ⟨w.heap.size, 0, none⟩ = some (.slice sp P.length cp) := by go_simp
  have x1 : (w.alloc (.cells #[.slice sp P.length cp, .slice sc lc cc, .slice sm lm cm] 34)).cell? ⟨w.heap.size, 1, none⟩ = some (.slice sc lc cc) := by go_simp
  have x2 : (w.alloc (.cells #[.slice sp P.length cp, .slice sc lc cc, .slice sm lm cm] 34)).cell? ⟨w.heap.size, 2, none⟩ = some (.slice sm lm cm) := by go_simp
  clear h hne hL
  go_enter Tryz.func22, Tryz.ntmps22
  go_wp2_with fail
  refine (hck.out _ hX).mono ?_
  rintro e X ⟨rfl, hE1⟩
  have e1 := hX.trans hE1
  go_wp2_with fail
  go_ret2
  exact ⟨rfl, e1⟩
set_option maxRecDepth 100000 in
theorem gSpan_err {w : World} {P : List Int} {C M M' : Mx} {sp : Option Addr} {cp : Nat} {sc : Option Addr} {lc cc : Nat} {sm : Option Addr} {lm cm : Nat} {v : Value} (h : TmV w P C M M' sp cp sc lc cc sm lm cm) (hne : M ≠ M') (hL : Laid w) :
    Calls Tryz.prog 17 #[tmS P sp cp sc lc cc sm lm cm, v] w fun e w' => e = .returned (.tuple #[.int .i64 0, .int .i64 0, .int .i64 14]) ∧ Ext w w' := by
  have hck := Lib.hid (fun W (hW : Ext w W) => gtwo_err (h.ext hW) hne (hL.ext hW))
  have hX := (Ext.refl w).alloc (.cells #[.slice sp P.length cp, .slice sc lc cc, .slice sm lm cm] 34)
  have x0 : (w.alloc (.cells #[.slice sp P.length cp, .slice sc lc cc, .slice sm lm cm] 34)).cell? ⟨w.heap.size, 0, none⟩ = some (.slice sp P.length cp) := by go_simp
  have x1 : (w.alloc (.cells #[.slice sp P.length cp, .slice sc lc cc, .slice sm lm cm] 34)).cell? ⟨w.heap.size, 1, none⟩ = some (.slice sc lc cc) := by go_simp
  have x2 : (w.alloc (.cells #[.slice sp P.length cp, .slice sc lc cc, .slice sm lm cm] 34)).cell? ⟨w.heap.size, 2, none⟩ = some (.slice sm lm cm) := by go_simp
  clear h hne hL
  go_enter Tryz.func17, Tryz.ntmps17
  go_wp2_with fail
  refine (hck.out _ hX).mono ?_
  rintro e X ⟨rfl, hE1⟩
  have e1 := hX.trans hE1
  go_wp2_with fail
  go_ret3
  exact ⟨rfl, e1⟩
set_option maxRecDepth 100000 in
theorem gPreimage_err {w : World} {P : List Int} {C M M' : Mx} {sp : Option Addr} {cp : Nat} {sc : Option Addr} {lc cc : Nat} {sm : Option Addr} {lm cm : Nat} {v : Value} (h : TmV w P C M M' sp cp sc lc cc sm lm cm) (hne : M ≠ M') (hL : Laid w) :
    Calls Tryz.prog 31 #[tmS P sp cp sc lc cc sm lm cm, v] w fun e w' => e = .returned (.tuple #[.slice none 0 0, .int .i64 14]) ∧ Ext w w' := by
  have hck := fun W (hW : Ext w W) => tCheck_any (h.ext hW) (hL.ext hW)
  rw [show tmE M M' = 14 from if_neg hne] at hck
  replace hck := Lib.hid hck
  have hX := (Ext.refl w).alloc (.cells #[.slice sp P.length cp, .slice sc lc cc, .slice sm lm cm] 34)
  have x0 : (w.alloc (.cells #[.slice sp P.length cp, .slice sc lc cc, .slice sm lm cm] 34)).cell? ⟨w.heap.size, 0, none⟩ = some (.slice sp P.length cp) := by go_simp
  have x1 : (w.alloc (.cells #[.slice sp P.length cp, .slice sc lc cc, .slice sm lm cm] 34)).cell? ⟨w.heap.size, 1, none⟩ = some (.slice sc lc cc) := by go_simp
  have x2 : (w.alloc (.cells #[.slice sp P.length cp, .slice sc lc cc, .slice sm lm cm] 34)).cell? ⟨w.heap.size, 2, none⟩ = some (.slice sm lm cm) := by go_simp
  clear h hne hL
  go_enter Tryz.func31, Tryz.ntmps31
  go_wp2_with fail
  refine (hck.out _ hX).mono ?_
  rintro e X ⟨rfl, hE1⟩
  have e1 := hX.trans hE1
  go_wp2_with fail
  go_ret2
  exact ⟨rfl, e1⟩
set_option maxRecDepth 100000 in
theorem gBox_err {w : World} {P : List Int} {C M M' : Mx} {sp : Option Addr} {cp : Nat} {sc : Option Addr} {lc cc : Nat} {sm : Option Addr} {lm cm : Nat} {v : Value} {m : Int} (h : TmV w P C M M' sp cp sc lc cc sm lm cm) (hne : M ≠ M') (hL : Laid w) :
    Calls Tryz.prog 23 #[tmS P sp cp sc lc cc sm lm cm, v, .int .i64 m] w fun e w' => e = .returned (.tuple #[.slice none 0 0, .int .i64 14]) ∧ Ext w w' := by
  have hck := fun W (hW : Ext w W) => tCheck_any (h.ext hW) (hL.ext hW)
  rw [show tmE M M' = 14 from if_neg hne] at hck
  replace hck := Lib.hid hck
  have hX := (Ext.refl w).alloc (.cells #[.slice sp P.length cp, .slice sc lc cc, .slice sm lm cm] 34)
  have x0 : (w.alloc (.cells #[.slice sp P.length cp, .slice sc lc cc, .slice sm lm cm] 34)).cell? ⟨w.heap.size, 0, none⟩ = some (.slice sp P.length cp) := by go_simp
  have x1 : (w.alloc (.cells #[.slice sp P.length cp, .slice sc lc cc, .slice sm lm cm] 34)).cell? ⟨w.heap.size, 1, none⟩ = some (.slice sc lc cc) := by go_simp
  have x2 : (w.alloc (.cells #[.slice sp P.length cp, .slice sc lc cc, .slice sm lm cm] 34)).cell? ⟨w.heap.size, 2, none⟩ = some (.slice sm lm cm) := by go_simp
  clear h hne hL
  go_enter Tryz.func23, Tryz.ntmps23
  go_wp2_with fail
  refine (hck.out _ hX).mono ?_
  rintro e X ⟨rfl, hE1⟩
  have e1 := hX.trans hE1
  go_wp2_with fail
  go_ret2
  exact ⟨rfl, e1⟩
set_option maxRecDepth 100000 in
theorem gLeast_err {w : World} {P : List Int} {C M M' : Mx} {sp : Option Addr} {cp : Nat} {sc : Option Addr} {lc cc : Nat} {sm : Option Addr} {lm cm : Nat} {v : Value} {m : Int} (h : TmV w P C M M' sp cp sc lc cc sm lm cm) (hne : M ≠ M') (hL : Laid w) :
    Calls Tryz.prog 24 #[tmS P sp cp sc lc cc sm lm cm, v, .int .i64 m] w fun e w' => e = .returned (.tuple #[.slice none 0 0, .bool false, .int .i64 14]) ∧ Ext w w' := by
  have hck := Lib.hid (fun W (hW : Ext w W) => gBox_err (v := v) (m := m) (h.ext hW) hne (hL.ext hW))
  have hX := (Ext.refl w).alloc (.cells #[.slice sp P.length cp, .slice sc lc cc, .slice sm lm cm] 34)
  have x0 : (w.alloc (.cells #[.slice sp P.length cp, .slice sc lc cc, .slice sm lm cm] 34)).cell? ⟨w.heap.size, 0, none⟩ = some (.slice sp P.length cp) := by go_simp
  have x1 : (w.alloc (.cells #[.slice sp P.length cp, .slice sc lc cc, .slice sm lm cm] 34)).cell? ⟨w.heap.size, 1, none⟩ = some (.slice sc lc cc) := by go_simp
  have x2 : (w.alloc (.cells #[.slice sp P.length cp, .slice sc lc cc, .slice sm lm cm] 34)).cell? ⟨w.heap.size, 2, none⟩ = some (.slice sm lm cm) := by go_simp
  clear h hne hL
  go_enter Tryz.func24, Tryz.ntmps24
  go_wp2_with fail
  refine (hck.out _ hX).mono ?_
  rintro e X ⟨rfl, hE1⟩
  have e1 := hX.trans hE1
  go_wp2_with fail
  go_ret3
  exact ⟨rfl, e1⟩
set_option maxRecDepth 100000 in
theorem glisted_err {w : World} {P : List Int} {C M M' : Mx} {sp : Option Addr} {cp : Nat} {sc : Option Addr} {lc cc : Nat} {sm : Option Addr} {lm cm : Nat} {v : Value} (h : TmV w P C M M' sp cp sc lc cc sm lm cm) (hne : M ≠ M') (hL : Laid w) :
    Calls Tryz.prog 66 #[tmS P sp cp sc lc cc sm lm cm, v] w fun e w' => e = .returned (.int .i64 14) ∧ Ext w w' := by
  have hck := fun W (hW : Ext w W) => tCheck_any (h.ext hW) (hL.ext hW)
  rw [show tmE M M' = 14 from if_neg hne] at hck
  replace hck := Lib.hid hck
  have hX := (Ext.refl w).alloc (.cells #[.slice sp P.length cp, .slice sc lc cc, .slice sm lm cm] 34)
  have x0 : (w.alloc (.cells #[.slice sp P.length cp, .slice sc lc cc, .slice sm lm cm] 34)).cell? ⟨w.heap.size, 0, none⟩ = some (.slice sp P.length cp) := by go_simp
  have x1 : (w.alloc (.cells #[.slice sp P.length cp, .slice sc lc cc, .slice sm lm cm] 34)).cell? ⟨w.heap.size, 1, none⟩ = some (.slice sc lc cc) := by go_simp
  have x2 : (w.alloc (.cells #[.slice sp P.length cp, .slice sc lc cc, .slice sm lm cm] 34)).cell? ⟨w.heap.size, 2, none⟩ = some (.slice sm lm cm) := by go_simp
  clear h hne hL
  go_enter Tryz.func66, Tryz.ntmps66
  go_wp2_with fail
  refine (hck.out _ hX).mono ?_
  rintro e X ⟨rfl, hE1⟩
  have e1 := hX.trans hE1
  go_wp2_with fail
  go_ret
  exact ⟨rfl, e1⟩
set_option maxRecDepth 100000 in
theorem gtempered_err {w : World} {P : List Int} {C M M' : Mx} {sp : Option Addr} {cp : Nat} {sc : Option Addr} {lc cc : Nat} {sm : Option Addr} {lm cm : Nat} {v : Value} (h : TmV w P C M M' sp cp sc lc cc sm lm cm) (hne : M ≠ M') (hL : Laid w) :
    Calls Tryz.prog 64 #[tmS P sp cp sc lc cc sm lm cm, v] w fun e w' => e = .returned (.tuple #[.slice none 0 0, .int .i64 14]) ∧ Ext w w' := by
  have hck := Lib.hid (fun W (hW : Ext w W) => glisted_err (v := v) (h.ext hW) hne (hL.ext hW))
  have hX := (Ext.refl w).alloc (.cells #[.slice sp P.length cp, .slice sc lc cc, .slice sm lm cm] 34)
  have x0 : (w.alloc (.cells #[.slice sp P.length cp, .slice sc lc cc, .slice sm lm cm] 34)).cell? ⟨w.heap.size, 0, none⟩ = some (.slice sp P.length cp) := by go_simp
  have x1 : (w.alloc (.cells #[.slice sp P.length cp, .slice sc lc cc, .slice sm lm cm] 34)).cell? ⟨w.heap.size, 1, none⟩ = some (.slice sc lc cc) := by go_simp
  have x2 : (w.alloc (.cells #[.slice sp P.length cp, .slice sc lc cc, .slice sm lm cm] 34)).cell? ⟨w.heap.size, 2, none⟩ = some (.slice sm lm cm) := by go_simp
  clear h hne hL
  go_enter Tryz.func64, Tryz.ntmps64
  go_wp2_with fail
  refine (hck.out _ hX).mono ?_
  rintro e X ⟨rfl, hE1⟩
  have e1 := hX.trans hE1
  go_wp2_with fail
  go_ret2
  exact ⟨rfl, e1⟩
set_option maxRecDepth 100000 in
theorem gGenerates_err {w : World} {P : List Int} {C M M' : Mx} {sp : Option Addr} {cp : Nat} {sc : Option Addr} {lc cc : Nat} {sm : Option Addr} {lm cm : Nat} {v : Value} (h : TmV w P C M M' sp cp sc lc cc sm lm cm) (hne : M ≠ M') (hL : Laid w) :
    Calls Tryz.prog 35 #[tmS P sp cp sc lc cc sm lm cm, v] w fun e w' => e = .returned (.tuple #[.bool false, .int .i64 14]) ∧ Ext w w' := by
  have hck := Lib.hid (fun W (hW : Ext w W) => gtempered_err (v := v) (h.ext hW) hne (hL.ext hW))
  have hX := (Ext.refl w).alloc (.cells #[.slice sp P.length cp, .slice sc lc cc, .slice sm lm cm] 34)
  have x0 : (w.alloc (.cells #[.slice sp P.length cp, .slice sc lc cc, .slice sm lm cm] 34)).cell? ⟨w.heap.size, 0, none⟩ = some (.slice sp P.length cp) := by go_simp
  have x1 : (w.alloc (.cells #[.slice sp P.length cp, .slice sc lc cc, .slice sm lm cm] 34)).cell? ⟨w.heap.size, 1, none⟩ = some (.slice sc lc cc) := by go_simp
  have x2 : (w.alloc (.cells #[.slice sp P.length cp, .slice sc lc cc, .slice sm lm cm] 34)).cell? ⟨w.heap.size, 2, none⟩ = some (.slice sm lm cm) := by go_simp
  clear h hne hL
  go_enter Tryz.func35, Tryz.ntmps35
  go_wp2_with fail
  refine (hck.out _ hX).mono ?_
  rintro e X ⟨rfl, hE1⟩
  have e1 := hX.trans hE1
  go_wp2_with fail
  go_ret2
  exact ⟨rfl, e1⟩
set_option maxRecDepth 100000 in
theorem gExpress_err {w : World} {P : List Int} {C M M' : Mx} {sp : Option Addr} {cp : Nat} {sc : Option Addr} {lc cc : Nat} {sm : Option Addr} {lm cm : Nat} {v u : Value} (h : TmV w P C M M' sp cp sc lc cc sm lm cm) (hne : M ≠ M') (hL : Laid w) :
    Calls Tryz.prog 36 #[tmS P sp cp sc lc cc sm lm cm, v, u] w fun e w' => e = .returned (.tuple #[.slice none 0 0, .bool false, .int .i64 14]) ∧ Ext w w' := by
  have hck := Lib.hid (fun W (hW : Ext w W) => glisted_err (v := v) (h.ext hW) hne (hL.ext hW))
  have hX := (Ext.refl w).alloc (.cells #[.slice sp P.length cp, .slice sc lc cc, .slice sm lm cm] 34)
  have x0 : (w.alloc (.cells #[.slice sp P.length cp, .slice sc lc cc, .slice sm lm cm] 34)).cell? ⟨w.heap.size, 0, none⟩ = some (.slice sp P.length cp) := by go_simp
  have x1 : (w.alloc (.cells #[.slice sp P.length cp, .slice sc lc cc, .slice sm lm cm] 34)).cell? ⟨w.heap.size, 1, none⟩ = some (.slice sc lc cc) := by go_simp
  have x2 : (w.alloc (.cells #[.slice sp P.length cp, .slice sc lc cc, .slice sm lm cm] 34)).cell? ⟨w.heap.size, 2, none⟩ = some (.slice sm lm cm) := by go_simp
  clear h hne hL
  go_enter Tryz.func36, Tryz.ntmps36
  go_wp2_with fail
  refine (hck.out _ hX).mono ?_
  rintro e X ⟨rfl, hE1⟩
  have e1 := hX.trans hE1
  go_wp2_with fail
  go_ret3
  exact ⟨rfl, e1⟩
set_option maxRecDepth 100000 in
set_option maxHeartbeats 4000000 in
theorem gOf_err {w : World} {P : List Int} {C M M' : Mx} {sp : Option Addr} {cp : Nat} {sc : Option Addr} {lc cc : Nat} {sm : Option Addr} {lm cm : Nat} (h : TmV w P C M M' sp cp sc lc cc sm lm cm) (hne : M ≠ M') (hL : Laid w) :
    Calls Tryz.prog 16 #[tmS P sp cp sc lc cc sm lm cm] w fun e w' => e = .returned (.tuple #[.agg #[.int .i64 0, .slice none 0 0, .slice none 0 0], .int .i64 14]) ∧ Ext w w' := by
  have htw := Lib.hid (fun W (hW : Ext w W) => gtwo_err (h.ext hW) hne (hL.ext hW))
  have hX1 := (Ext.refl w).alloc (.cells #[.slice sp P.length cp, .slice sc lc cc, .slice sm lm cm] 34)
  have hX := hX1.alloc (.cells #[.int .i64 0, .slice none 0 0, .slice none 0 0] 37)
  have x0 : ((w.alloc (.cells #[.slice sp P.length cp, .slice sc lc cc, .slice sm lm cm] 34)).alloc (.cells #[.int .i64 0, .slice none 0 0, .slice none 0 0] 37)).cell? ⟨w.heap.size, 0, none⟩ = some (.slice sp P.length cp) := by go_simp
  have x1 : ((w.alloc (.cells #[.slice sp P.length cp, .slice sc lc cc, .slice sm lm cm] 34)).alloc (.cells #[.int .i64 0, .slice none 0 0, .slice none 0 0] 37)).cell? ⟨w.heap.size, 1, none⟩ = some (.slice sc lc cc) := by go_simp
  have x2 : ((w.alloc (.cells #[.slice sp P.length cp, .slice sc lc cc, .slice sm lm cm] 34)).alloc (.cells #[.int .i64 0, .slice none 0 0, .slice none 0 0] 37)).cell? ⟨w.heap.size, 2, none⟩ = some (.slice sm lm cm) := by go_simp
  have HO := Lib.hid (show OwnV 37 w.heap.size ((w.alloc (.cells #[.slice sp P.length cp, .slice sc lc cc, .slice sm lm cm] 34)).alloc (.cells #[.int .i64 0, .slice none 0 0, .slice none 0 0] 37)) (w.heap.size + 1) 3 [.int .i64 0, .slice none 0 0, .slice none 0 0] by
    have h := own3 (w.alloc (.cells #[.slice sp P.length cp, .slice sc lc cc, .slice sm lm cm] 34)) 37 (.int .i64 0) (.slice none 0 0) (.slice none 0 0)
    rw [show (w.alloc (.cells #[.slice sp P.length cp, .slice sc lc cc, .slice sm lm cm] 34)).heap.size = w.heap.size + 1 by simp] at h
    exact h.mono (by omega))
  have hsz1 : w.heap.size ≤ w.heap.size + 1 := by omega
  clear h hL hne
  go_enter Tryz.func16, Tryz.ntmps16
  go_wp2_with fail
  refine (htw.out _ hX).mono ?_
  generalize (w.alloc (.cells #[.slice sp P.length cp, .slice sc lc cc, .slice sm lm cm] 34)).alloc (.cells #[.int .i64 0, .slice none 0 0, .slice none 0 0] 37) = V at *
  rintro e X ⟨rfl, hE1⟩
  have e1 := hX.trans hE1
  have HO9 := HO.out.ext hE1
  obtain ⟨Hr6, He6, Hg6⟩ := set3 e1 hsz1 HO9 (.int .i64 0) (.slice none 0 0) (.slice none 0 0)
  have r0 := Hr6.cell (j := 0) (by simp)
  have r1 := Hr6.cell (j := 1) (by simp)
  have r2 := Hr6.cell (j := 2) (by simp)
  simp only [List.getElem_cons_zero, List.getElem_cons_succ] at r0 r1 r2
  have f0 := HO9.frozen 0
  have f1 := HO9.frozen 1
  have f2 := HO9.frozen 2
  have m0 := HO9.cell (j := 0) (by simp)
  have m1 := HO9.cell (j := 1) (by simp)
  have m2 := HO9.cell (j := 2) (by simp)
  simp only [List.getElem_cons_zero, List.getElem_cons_succ] at m0 m1 m2
  have He7 := Lib.hid He6
  clear Hr6 He6 Hg6 HO9 HO htw x0 x1 x2 hE1 e1 hX hX1
  generalize w.heap.size + 1 = bf at *
  go_wp2_with fail
  refine bodyPost_ret (v := .tuple #[.agg #[.int .i64 0, .slice none 0 0, .slice none 0 0], .int .i64 14]) (by simp [results, Tryz.results16, go_sem, r0, r1, r2]) rfl ⟨rfl, He7.out⟩
end Go.Proofs.YtnlajhjoakijmaaGreatDoor
namespace Go.Proofs.YtnlajhjoakijmaaGreatDoor
open Go.RowKit Go.Sort
section
variable {P : Program} {ops : Array Oper} {md : Region.Mode} {Q : Exit → Act → World → Prop} {S : World → Prop}
theorem wpAnyLH_twoI {n i j f : Nat} {o p : Oper} {L : Array Bool → Act → World → Prop} {listed : Array Bool} {a : Act} {w : World} (hi : ops[i]? = some o) (hj : ops[j]? = some p) (hr : (Region.ready md ops listed == [i, j] && decide (i < n) && decide (j < n)) = true)
    (h1 : ∀ K' : Act → World → Prop, (∀ a w, S w → wpAnyLH P md ops Q S n L f (listed.setIfInBounds i true) a w → K' a w) → if Region.wanted o (yielded ops a.tmps) = true then Oper.wp P o a w K' Q else K' (a.put o.dst undef) w)
    (h2 : ∀ K' : Act → World → Prop, (∀ a w, S w → wpAnyLH P md ops Q S n L f (listed.setIfInBounds j true) a w → K' a w) → if Region.wanted p (yielded ops a.tmps) = true then Oper.wp P p a w K' Q else K' (a.put p.dst undef) w) : wpAnyLH P md ops Q S n L (f + 1) listed a w := by
  simp only [Bool.and_eq_true, decide_eq_true_eq, beq_iff_eq] at hr
  refine ⟨fun h0 => (by rw [h0] at hr; cases hr.1.1), fun k hk => ?_⟩
  rw [hr.1.1] at hk
  simp only [List.mem_cons, List.not_mem_nil, or_false] at hk
  rcases hk with rfl | rfl
  · exact ⟨hr.1.2, wpOp_step hi (fun K' hK => h1 K' (fun a w hS hW => hK a w ⟨hS, hW⟩))⟩
  · exact ⟨hr.2, wpOp_step hj (fun K' hK => h2 K' (fun a w hS hW => hK a w ⟨hS, hW⟩))⟩
theorem wpAnyLH_twoII {n i j f : Nat} {o p : Oper} {L : Array Bool → Act → World → Prop} {listed : Array Bool} {a : Act} {w : World} (hi : ops[i]? = some o) (hj : ops[j]? = some p) (hr : (Region.ready md ops listed == [i, j] && decide (i < n) && decide (j < n)) = true) (inv : HeadInv md ops n listed)
    (h1 : HeadInv md ops n (listed.setIfInBounds i true) → ∀ K' : Act → World → Prop, (∀ a w, S w → wpAnyLH P md ops Q S n L f (listed.setIfInBounds i true) a w → K' a w) → if Region.wanted o (yielded ops a.tmps) = true then Oper.wp P o a w K' Q else K' (a.put o.dst undef) w)
    (h2 : HeadInv md ops n (listed.setIfInBounds j true) → ∀ K' : Act → World → Prop, (∀ a w, S w → wpAnyLH P md ops Q S n L f (listed.setIfInBounds j true) a w → K' a w) → if Region.wanted p (yielded ops a.tmps) = true then Oper.wp P p a w K' Q else K' (a.put p.dst undef) w) : wpAnyLH P md ops Q S n L (f + 1) listed a w := by
  have hr2 := hr
  simp only [Bool.and_eq_true, decide_eq_true_eq, beq_iff_eq] at hr2
  exact wpAnyLH_twoI hi hj hr (h1 (inv.set (by rw [hr2.1.1]; simp) hr2.1.2)) (h2 (inv.set (by rw [hr2.1.1]; simp) hr2.2))
end
section
variable {w : World} {ops : Array Oper} {o : Oper} {a : Act} {K : Act → World → Prop} {Q : Exit → Act → World → Prop} {E : Prop}
theorem step_append_mat (hgd : o.guard = none) (s x : Operand) (ho : o.op = .call { callee := .builtin .append, args := #[s, x], argTypes := #[32, 32] })
    {B ga : Nat} (hs : a.eval s = slv ga 0 0) (hO : OwnV 30 B w ga 0 []) {sa : Option Addr} {gb go n cap : Nat} {vs : List Value} (hx : a.eval x = .slice sa n cap) (hS : Sl w sa gb go vs) (hvn : vs.length = n) (hone : ∀ u ∈ vs, u.oneCell' = true) (hn : n ≤ 1000000) (hB : B ≤ w.heap.size)
    (h : ∀ g c w', OwnV 30 B w' g c vs → Below B w w' → w.grownBy w' (some ga) → K (a.put o.dst (slv g n c)) w') :
    if Region.wanted o (yielded ops a.tmps) = true then Oper.wp Tryz.prog o a w K Q else E := by
  obtain ⟨i0, hi, hz0, hz1, hz2⟩ := info_parts Tryz.infoRow
  rcases Nat.eq_zero_or_pos n with h0 | h0
  · subst h0
    have hvs : vs = [] := List.eq_nil_of_length_eq_zero hvn
    subst hvs
    have hw : Region.wanted o (yielded ops a.tmps) = true := by simp [Region.wanted, hgd]
    rw [if_pos hw]
    have hrun : (Builtin.append_ #[32, 32] o.type #[slv ga 0 0, .slice sa 0 cap]).run Tryz.prog w = .ok (slv ga 0 0) w := by
      rcases sa with _ | ad
      · simp [Builtin.append_, run_underlying Tryz.underlying32, sizeOf, typeInfo, hi, Builtin.lenOf, Builtin.firstCells, storeCells]
      · simp [Builtin.append_, run_underlying Tryz.underlying32, sizeOf, typeInfo, hi, Builtin.lenOf, Builtin.firstCells, storeCells, loadCells, loadCellsFrom]
    unfold Oper.wp execOp
    simp only [ho, resolve, invoke, builtin, Sem.run_bind, Sem.run_pure, Result.andThen_ok, List.map_toArray, List.map_cons, List.map_nil, hs, hx, hrun]
    exact h ga 0 w hO (Below.refl _ _) ⟨rfl, rfl, rfl, Nat.le_refl _, fun _ _ _ => rfl⟩
  · obtain rfl := hS.addr (by omega)
    refine step_append_lies w hgd s x 32 ho B 30 i0 _ 1 24 Tryz.underlying32 hi hz0 hz1 hz2 rfl (by omega) (slv ga 0 0) 0 [] hs (hO.row rfl) ⟨gb, go, none⟩ n cap vs hx (by omega) ?_ hone h0 (by unfold maxLen; omega) (by omega) hB w.heap.size rfl ?_
    · intro j u hj
      rw [Lib.add_plain]; exact hS.cell j u hj
    · intro g c w' k1 k2 k3 k4
      rw [Nat.zero_add]
      refine h g c w' ?_ (Below.grown (Below.refl _ _) k2 hB (fun q hq => (World.ownsRow.lt (hO.row rfl) q hq).1)) k2
      rw [Nat.zero_add, List.nil_append] at k1
      exact OwnV.of_row k1
theorem step_append_one (hgd : o.guard = none) (s x : Operand) (ho : o.op = .call { callee := .builtin .append, args := #[s, x], argTypes := #[32, 32] })
    {B g c n : Nat} {vs : List Value} (hs : a.eval s = slv g n c) (hO : OwnV 30 B w g c vs) (hvn : vs.length = n) {b : Nat} {u : Value} (hx : a.eval x = .slice (some ⟨b, 0, none⟩) 1 1) (hc : w.cell? ⟨b, 0, none⟩ = some u) (hu : u.oneCell' = true) (hn : n ≤ 1000000) (hB : B ≤ w.heap.size)
    (h : ∀ g' c' w', OwnV 30 B w' g' c' (vs ++ [u]) → Below B w w' → w.grownBy w' (some g) → K (a.put o.dst (slv g' (n + 1) c')) w') :
    if Region.wanted o (yielded ops a.tmps) = true then Oper.wp Tryz.prog o a w K Q else E := by
  obtain ⟨i0, hi, hz0, hz1, hz2⟩ := info_parts Tryz.infoRow
  refine step_append_lies w hgd s x 32 ho B 30 i0 _ 1 24 Tryz.underlying32 hi hz0 hz1 hz2 rfl (by omega) (slv g n c) n vs hs (hO.row hvn) ⟨b, 0, none⟩ 1 1 [u] hx rfl ?_ (by intro v hv; simp only [List.mem_cons, List.not_mem_nil, or_false] at hv; subst hv; exact hu) (by omega) (by unfold maxLen; omega) (by omega) hB w.heap.size rfl ?_
  · intro j v hj
    have : j = 0 := by have := (List.getElem?_eq_some_iff.1 hj).1; simp at this; omega
    subst this
    simp only [List.getElem?_cons_zero, Option.some.injEq] at hj
    subst hj
    simpa [Addr.add_lit] using hc
  · intro g' c' w' k1 k2 k3 k4
    exact h g' c' w' (OwnV.of_row k1) (Below.grown (Below.refl _ _) k2 hB (fun q hq => (World.ownsRow.lt (hO.row hvn) q hq).1)) k2
theorem step_make_row (hgd : o.guard = none) (l c : Operand) (hop : o.op = Op.makeSlice 30 l c) {n : Nat} (hl : a.eval l = .int .i64 n) (hc : a.eval c = .int .i64 n) (hn : n ≤ 1000000)
    (h : ∀ w', RowV w.heap.size w' (slv w.heap.size n n) (List.replicate n 0) → w.grownBy w' none → K (a.put o.dst (slv w.heap.size n n)) w') :
    if Region.wanted o (yielded ops a.tmps) = true then Oper.wp Tryz.prog o a w K Q else E := by
  obtain ⟨i0, hi, hz0, hz1, hz2⟩ := info_parts Tryz.infoInt
  have hw : Region.wanted o (yielded ops a.tmps) = true := by simp [Region.wanted, hgd]
  rw [if_pos hw]
  obtain ⟨w', hrun, r1, r2⟩ := run_make_full (P := Tryz.prog) w w.heap.size 30 3 i0 (.int .i64 0) 1 Tryz.underlying30 hi hz0 hz1 .i64 .i64 n (by rw [hz2]; omega) (by unfold maxLen; omega) (Nat.le_refl _)
  unfold Oper.wp
  simp [execOp, hop, hl, hc, hrun, Result.andThen]
  exact h w' (zero_row r1) r2
end
theorem mat_of_own {B : Nat} {w : World} {g c : Nat} {vs : List Value} {M : Mx} (h : OwnV 30 B w g c vs) (hl : vs.length = M.length) (hr : ∀ i (h : i < M.length) (h' : i < vs.length), RowR w vs[i] M[i]) : MatR w (slv g M.length c) M :=
  ⟨_, g, 0, c, vs, rfl, by have := h.cap; omega, hl, h.sl, hr⟩
end Go.Proofs.YtnlajhjoakijmaaGreatDoor
