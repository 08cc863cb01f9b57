/- Part 30 of the proof of the claim: contracts of the functions that it reaches, and plain laws; no condition. -/
import Derived.Test.YthmhmkkcjlgbjaaGreatDoorV29
import Derived.Deep.RegionHeld3
import Derived.Test.YthmhmkkcjlgbjaaGreatDoorV03
import Derived.Test.YthmhmkkcjlgbjaaGreatDoorV13
import Derived.Test.YthmhmkkcjlgbjaaGreatDoorRows
import Derived.ProofKit
import Derived.LaidMore
import Derived.OpenShut
import Derived.Stop.Joined
import Derived.Stop.LaidErr
import Derived.Lib.LaidTab
import Derived.Deep.Matrix
import Derived.Test.YthmhmkkcjlgbjaaGreatDoorV19
import Derived.Test.YthmhmkkcjlgbjaaGreatDoorCards
import Derived.Test.YthmhmkkcjlgbjaaGreatDoorTie
import Derived.SevenTiedAt
/- schismalaw07: HermiteIndexes, the walk -/
namespace Go.Proofs.YthmhmkkcjlgbjaaGreatDoor
open Go.RowKit Go.Sort
open Hnf (V Span)
theorem rkB_mono2 {m m' k : Nat} (h : m ≤ m') : ∀ c, rkB m k c ≤ rkB m' k c
  | 0 => Nat.le_refl _
  | c + 1 => by rw [rkB, rkB]; exact Nat.mul_le_mul (by have := rkB_mono2 h c (k := k); omega) (by omega)
theorem rkB_5 : rkB 5 30 5 = 242610 := by decide
theorem rkB_lim {m c : Nat} (hm : m ≤ 5) (hc : c ≤ 5) : rkB m 30 c ≤ 242610 := by
  have h1 := rkB_mono2 (k := 30) hm c
  have h2 := rkB_mono 5 30 c (5 - c)
  rw [show c + (5 - c) = 5 by omega, rkB_5] at h2
  omega
theorem small_30 {r : List Int} (h : ∀ z ∈ r, -1000000000 ≤ z ∧ z ≤ 1000000000) : ∀ z ∈ r, z.natAbs < 2 ^ 30 := fun z hz => by
  have e : (2 : Nat) ^ 30 = 1073741824 := by decide
  have := h z hz
  rw [e]; omega
theorem grid_set {ds : Array Value} {R C C' : Nat} (h : GridV ds R C') (hC : C < 256) : GridV (ds.setIfInBounds 1 (.int .u8 C)) R C := by
  refine ⟨by simp [h.sz], ?_, ?_, fun j hj => ?_, h.r8, hC⟩
  · rw [Array.getElem?_setIfInBounds_ne (by decide)]; exact h.c0
  · rw [Array.getElem?_setIfInBounds_self_of_lt (by rw [h.sz]; decide)]
  · obtain ⟨z, h1, h2⟩ := h.ent j hj
    exact ⟨z, by rw [Array.getElem?_setIfInBounds_ne (by omega)]; exact h1, h2⟩
/-- What Index returns. -/
def IxF (F S : Mx) (nB : List UInt8) (fin : Bool) (ie : Int) : Prop :=
  (inclB F S = false → nB = [] ∧ fin = false ∧ ie = 14) ∧
  (inclB F S = true → ∃ G, HnfOf (ncols S) S G ∧ (G.length < F.length → nB = [] ∧ fin = false ∧ ie = 0) ∧ (¬ G.length < F.length → nB = Lib.itoa (idxN F G F.length) ∧ fin = true ∧ ie = 0))
theorem ix_open {w : World} {F S : Mx} {e : Ending} {w' : World} (h : IxPost w F S e w') : ∃ nB fin ie, e = .returned (.tuple #[Value.string ⟨List.toArray nB⟩, .bool fin, .int .i64 ie]) ∧ IxF F S nB fin ie ∧ Ext w w' := by
  obtain ⟨h1, hE⟩ := h
  cases hb : inclB F S
  · rw [hb] at h1
    exact ⟨[], false, 14, by simpa using h1, ⟨fun _ => ⟨rfl, rfl, rfl⟩, fun h => by rw [hb] at h; cases h⟩, hE⟩
  · rw [hb, if_pos rfl] at h1
    obtain ⟨G, hG, h2⟩ := h1
    by_cases hl : G.length < F.length
    · rw [if_pos hl] at h2
      exact ⟨[], false, 0, h2, ⟨(fun h => by rw [hb] at h; cases h), fun _ => ⟨G, hG, fun _ => ⟨rfl, rfl, rfl⟩, fun h => absurd hl h⟩⟩, hE⟩
    · rw [if_neg hl] at h2
      exact ⟨Lib.itoa (idxN F G F.length), true, 0, h2, ⟨(fun h => by rw [hb] at h; cases h), fun _ => ⟨G, hG, fun h => absurd h hl, fun _ => ⟨rfl, rfl, rfl⟩⟩⟩, hE⟩
theorem ix_rect {M F : Mx} {n : Nat} (hRM : Rect n M) (hF : HnfOf (ncols M) M F) : ∃ ps, IsH n ps F := by
  rcases Nat.eq_zero_or_pos M.length with h0 | h0
  · have e := List.eq_nil_of_length_eq_zero h0
    subst e
    have h1 := List.eq_nil_of_length_eq_zero (hnf_nil0 hF)
    subst h1
    exact ⟨[], ⟨(fun r h => by cases h), rfl, (fun i h => by simp at h), (fun i k _ h => by simp at h), (fun i h => by simp at h), (fun i h => by simp at h), (fun i k _ h => by simp at h)⟩⟩
  · rw [ncols_of hRM h0] at hF
    exact hF.1
theorem cell_heap {w : World} {g j : Nat} {cs : Array Value} {T : TypeId} {fr : Nat × Nat} {x : Value} (h : w.heap[g]? = some (.cells cs T fr)) (hx : cs[j]? = some x) : w.cell? ⟨g, j, none⟩ = some x := by
  unfold World.cell?; simp [h, hx]
theorem frozen_heap {w : World} {g j : Nat} {cs : Array Value} {T : TypeId} (h : w.heap[g]? = some (.cells cs T (0, 0))) : w.frozen? ⟨g, j, none⟩ = false := by
  unfold World.frozen?; simp [h]
theorem heap_set {w : World} {g j : Nat} {cs : Array Value} {T : TypeId} {fr : Nat × Nat} {x : Value} (h : w.heap[g]? = some (.cells cs T fr)) : (w.setCell ⟨g, j, none⟩ x).heap[g]? = some (.cells (cs.setIfInBounds j x) T fr) := by
  unfold World.setCell; simp [Array.getElem?_modify, h]
theorem heap_set_ne {w : World} {g g' j : Nat} {x : Value} {o : Obj} (h : w.heap[g]? = some o) (hne : g' ≠ g) : (w.setCell ⟨g', j, none⟩ x).heap[g]? = some o := by
  unfold World.setCell; simp [Array.getElem?_modify, hne, h]
set_option maxRecDepth 100000 in
set_option maxHeartbeats 4000000 in
theorem ix_walk {w : World} {cs ds : Array Value} {R C R' C' : Nat} (hG : GridV cs R C) (hH : GridV ds R' C') (hL : Laid w) :
    Calls Tryz.prog 6 #[.agg cs, .agg ds] w fun e w' => e = .returned (.bool true) ∧ Ext w w' := by
  have hEw := ((Ext.refl w).alloc (.cells cs 25)).alloc (.cells ds 25)
  have hg0 : ((w.alloc (.cells cs 25)).alloc (.cells ds 25)).heap[w.heap.size]? = some (.cells cs 25 (0, 0)) := by
    show ((w.heap.push _).push _)[w.heap.size]? = _
    simp only [Array.getElem?_push, Array.size_push]
    rw [if_neg (by omega), if_pos trivial]
  have hg1 : ((w.alloc (.cells cs 25)).alloc (.cells ds 25)).heap[w.heap.size + 1]? = some (.cells ds 25 (0, 0)) := by
    have := heap_new (w.alloc (.cells cs 25)) (.cells ds 25)
    have e : (w.alloc (.cells cs 25)).heap.size = w.heap.size + 1 := by simp
    rwa [e] at this
  have hVs : ((w.alloc (.cells cs 25)).alloc (.cells ds 25)).heap.size = w.heap.size + 2 := by simp
  have HG := Lib.hid hG
  have HH := Lib.hid hH
  have HL := Lib.hid hL
  have hkn := Lib.hid (known_any (HL.out.ext hEw))
  clear hG hH hL
  go_enter Tryz.func6, Tryz.ntmps6
  go_wp2_with fail
  refine hkn.out.mono ?_
  rintro e w1 ⟨rfl, hE1⟩
  clear hkn
  generalize ((w.alloc (.cells cs 25)).alloc (.cells ds 25)) = V at *
  have hEV1 := hEw.trans hE1
  have hgr : w1.heap[w.heap.size]? = some (.cells cs 25 (0, 0)) := by rw [hE1.block _ (by omega)]; exact hg0
  have hgs : w1.heap[w.heap.size + 1]? = some (.cells ds 25 (0, 0)) := by rw [hE1.block _ (by omega)]; exact hg1
  have c1 : w1.cell? ⟨w.heap.size, 1, none⟩ = some (.int .u8 C) := cell_heap hgr HG.out.c1
  have k1 : w1.cell? ⟨w.heap.size + 1, 1, none⟩ = some (.int .u8 C') := cell_heap hgs HH.out.c1
  have kz : w1.frozen? ⟨w.heap.size + 1, 1, none⟩ = false := frozen_heap hgs
  have hgs2 : (w1.setCell ⟨w.heap.size + 1, 1, none⟩ (.int .u8 C)).heap[w.heap.size + 1]? = some (.cells (ds.setIfInBounds 1 (.int .u8 C)) 25 (0, 0)) := heap_set hgs
  have hgr2 : (w1.setCell ⟨w.heap.size + 1, 1, none⟩ (.int .u8 C)).heap[w.heap.size]? = some (.cells cs 25 (0, 0)) := heap_set_ne hgr (by omega)
  have hEw2 : Ext w (w1.setCell ⟨w.heap.size + 1, 1, none⟩ (.int .u8 C)) := hEV1.setCell (by simp) _
  clear hgr hgs
  have hinf : (Tryz.prog.info? 25).map (·.size) = some cs.size := by rw [HG.out.sz]; kernel_rfl
  go_wp2_with (refine wpList_load_row rfl 25 _ rfl w.heap.size rfl 25 cs (0, 0) _ hgr2 Tryz.underlying25 rfl hinf ?_)
  generalize (w1.setCell ⟨w.heap.size + 1, 1, none⟩ (.int .u8 C)) = X at *
  have hmk := Lib.hid (Make_any2 (w := X) HG.out)
  refine hmk.out.mono ?_
  rintro e w2 ⟨v, M, rfl, hM, ⟨hGM, hRM⟩, hE2⟩
  obtain ⟨hRn, hn4, hm4, hck⟩ := gridM_rect hGM
  have hX2 := hEw2.trans hE2
  have hfo := Lib.hid (form07_any hM.mat hRn (by omega) (by omega) (checkM_ok hck).2.2.2 (by have := rkB_lim (m := M.length) (c := ncols M) (by omega) (by omega); omega) (HL.out.ext hX2))
  have HGM := Lib.hid hGM
  have HRM := Lib.hid hRM
  have hgs3 : w2.heap[w.heap.size + 1]? = some (.cells (ds.setIfInBounds 1 (.int .u8 C)) 25 (0, 0)) := heap_ext hgs2 hE2
  clear hmk hgr2 hinf hM hGM hRM hRn hck c1 k1 kz hgs2
  go_wp2_with fail
  refine hfo.out.mono ?_
  rintro e w3 ⟨F, hF, hFl, hP⟩
  obtain ⟨hsm, hcF, hiF, hF4, hRF⟩ := grid_form HGM.out hF
  rcases hP with ⟨_, vf, rfl, hFO, hE3⟩ | ⟨hno, _⟩
  · have HF := Lib.hid hF
    have HFO := Lib.hid hFO.mat
    have HRF := Lib.hid hRF
    have hX3 := hX2.trans hE3
    have hgs4 := heap_ext hgs3 hE3
    have hinf2 : (Tryz.prog.info? 25).map (·.size) = some (ds.setIfInBounds 1 (.int .u8 C)).size := by rw [(grid_set HH.out HG.out.c8).sz]; kernel_rfl
    have hmk := Lib.hid (Make_any2 (w := w3) (grid_set HH.out HG.out.c8))
    clear hfo hFO hF hRF hsm
    obtain ⟨sf, _, _, cf, _, hvf, -⟩ := HFO.out
    subst hvf
    generalize ds.setIfInBounds 1 (.int .u8 C) = ds2 at *
    go_wp2_with (refine wpList_load_row rfl 25 _ rfl (w.heap.size + 1) rfl 25 ds2 (0, 0) _ hgs4 Tryz.underlying25 rfl hinf2 ?_)
    refine hmk.out.mono ?_
    rintro e w4 ⟨v4, S, rfl, hS, ⟨hGS, hRS⟩, hE4⟩
    have hX4 := hX3.trans hE4
    have HFO4 := Lib.hid (HFO.out.ext hE4)
    have HS := Lib.hid hS.mat
    have hpr := ix_pair HGM.out hGS HRM.out hRS HF.out
    obtain ⟨hRnS, hnS4, hS4, hckS⟩ := gridM_rect hGS
    have hin := Lib.hid (Includes_ok HFO4.out hS.mat hpr (HL.out.ext hX4))
    have hix := Lib.hid (fun W (hW : Ext w4 W) => Index_ok (HFO4.out.ext hW) (hS.mat.ext hW) hpr (by have := bC_lim (L := S.length) (c := ncols S) (by omega) (by omega); omega) (HL.out.ext (hX4.trans hW)))
    have HGS := Lib.hid hGS
    have HRnS := Lib.hid hRnS
    have HckS := Lib.hid hckS
    obtain ⟨ss', gS, oS, cs', vsS, hvs, hcS, hvlS, hSlS, hrS⟩ := HS.out
    subst hvs
    have HSl := Lib.hid hSlS
    have Hvl := Lib.hid hvlS
    have Hr := Lib.hid hrS
    have HRS := Lib.hid hRS
    obtain ⟨ps, hI⟩ := ix_rect HRM.out HF.out
    have HI := Lib.hid hI
    have HFe := Lib.hid (checkM_ok hcF).2.2.2
    have HSe := Lib.hid (checkM_ok hckS).2.2.2
    clear hSlS hvlS hrS hcS hI
    clear hmk hgs3 hgs4 hinf2 hS hGS hRS hpr hRnS hckS hX3
    go_wp2_with fail
    refine hin.out.mono ?_
    rintro e w5 ⟨rfl, hE5⟩
    have hix2 := Lib.hid (hix.out w5 hE5)
    clear hin hix
    go_wp2_with fail
    refine hix2.out.mono ?_
    rintro e w6 hP6
    obtain ⟨nB, fin, ie, rfl, hIx, hE6⟩ := ix_open hP6
    have HIx := Lib.hid hIx
    have hE46 := hE5.trans hE6
    have hX6 := hX4.trans hE46
    obtain ⟨sn, hsn⟩ : ∃ sn, sn = S.length := ⟨_, rfl⟩
    obtain ⟨fn, hfn⟩ : ∃ fn, fn = F.length := ⟨_, rfl⟩
    rw [← hsn] at hS4
    rw [← hfn] at hF4
    rw [← hsn, ← hfn]
    have Hsn := Lib.hid hsn
    have Hfn := Lib.hid hfn
    obtain ⟨bI, hbI⟩ : ∃ bI, bI = inclB F S := ⟨_, rfl⟩
    rw [← hbI]
    have HbI := Lib.hid hbI
    clear hix2 hP6 hIx hsn hfn hbI
    go_wp2_with fail
    go_loopw [13, 14] (fun inn idx wr => ∃ (k : Nat) (b : Bool), k ≤ sn ∧ idx = .int .i64 k ∧ inn = .bool b ∧ Hid (b = inT F S k) ∧ Ext w6 wr) (fun _ idx _ => sn - (intOf idx).toNat)
    case atStart => exact ⟨0, true, by omega, by go_num, rfl, Lib.hid (by simp [inT]), Ext.refl _⟩
    case round =>
      obtain ⟨k, b, hk, rfl, rfl, hb, hE⟩ := hrel
      generalize wr = Y at *
      have hXY := hX6.trans hE
      have h4Y := hE46.trans hE
      by_cases hlt : k < sn
      · have hii : (k : Int) < (sn : Int) := by omega
        have hlS : k < S.length := by rw [← Hsn.out]; exact hlt
        obtain rfl := HSl.out.addr (by rw [Hvl.out]; omega)
        obtain ⟨sr, br, or, cr, hrow, hrc, hSr⟩ := MatR.row HSl.out Hvl.out Hr.out hlS
        obtain ⟨x, hx⟩ : ∃ x, x = S[k] := ⟨_, rfl⟩
        have hmem : x ∈ S := by rw [hx]; exact List.getElem_mem hlS
        have hxl := HRS.out x hmem
        rw [← hx] at hrow hrc hSr
        have hrow' := h4Y.cell hrow
        have hxe := HSe.out x hmem
        have htr := Lib.hid (fun V (hV : Ext Y V) => toRow_w (w := V) (v := .slice sr x.length cr) (r := x) ⟨sr, br, or, cr, rfl, hrc, hSr.ext (h4Y.trans hV)⟩ (fun z hz => by have := hxe z hz; unfold I64; omega) (by rw [hxl]; omega) (HL.out.ext (hXY.trans hV)))
        have hto := Lib.hid (fun V (hV : Ext Y V) => to_m (HFO4.out.ext (h4Y.trans hV)) (fun r hr z hz => by have := HFe.out r hr z hz; unfold I64; omega) (by rw [← Hfn.out]; omega) (fun r hr => by rw [HI.out.rect r hr]; omega) (HL.out.ext (hXY.trans hV)))
        have hre := Lib.hid (fun V (hV : Ext Y V) (v1 v2 : Value) (h1 : MtR V v1 F) (h2 : RwT V v2 x) => reduce_w h1 h2 HI.out.rect hxl (by omega) (isH_pvp HI.out) (fun r hr => small_30 (HFe.out r hr)) (small_30 hxe) (by rw [← Hfn.out]; omega) (HL.out.ext (hXY.trans hV)))
        have Hstep := Lib.hid (show inT F S (k + 1) = (inT F S k && allZ (redX F x)) by rw [inT_step hlS, hx])
        have Hrl := Lib.hid (show (redX F x).length ≤ 1000000 by rw [redX_length, hxl]; omega)
        obtain ⟨xn, hxn⟩ : ∃ xn, xn = x.length := ⟨_, rfl⟩
        rw [← hxn] at hrow' htr
        have dY : Ext Y Y.drew := (Ext.refl Y).drew
        have s4 := dY.cell hrow'
        clear hx hmem hxl hrow hrc hSr hxe hxn
        have hto2 := Lib.hid (hto.out _ dY)
        clear hto
        rw [← Hfn.out] at hto2
        go_wp2_with fail
        go_region_held3 (fun w' => w'.cell? ⟨gS, oS + k, none⟩ = some (.slice sr xn cr)) (first | with_reducible exact s7 | with_reducible exact s6 | with_reducible exact s5 | with_reducible exact s4 | go_keep)
          (first
            | (go_at_call 30; refine hto2.out.mono ?_; rintro e W1 ⟨u1, rfl, hu1, hF1⟩; have d1 := dY.trans hF1; have s5 := d1.cell hrow'; have HU1 := Lib.hid hu1.mat; obtain ⟨sf1, _, _, cf1, _, hvf1, -⟩ := HU1.out; subst hvf1; clear hu1)
            | (go_at_call 31; refine (htr.out _ d1).mono ?_; rintro e W2 ⟨u2, rfl, hu2, hF2⟩; have d2 := d1.trans hF2; have s6 := d2.cell hrow'; have HU2 := Lib.hid hu2.rwT; have HU1b := Lib.hid (HU1.out.ext hF2); obtain ⟨sx2, _, _, cx2, hvx2, -⟩ := HU2.out.row; subst hvx2; clear hu2)
            | (go_at_call 29; refine (hre.out _ d2 _ _ HU1b.out HU2.out).mono ?_; rintro e W3 ⟨u3, u4, rfl, hu3, hu4, hF3⟩; have d3 := d2.trans hF3; have s7 := d3.cell hrow'; have HU3 := Lib.hid hu3; obtain ⟨sx3, _, _, cx3, hvx3, -⟩ := hu3.row; subst hvx3; clear hu3 hu4))
        have hz := Lib.hid (zero_w HU3.out.row Hrl.out)
        rw [redX_length] at hz
        have hE3' := hE.trans d3
        clear hto2 htr hre s4 s5 s6 s7
        cases b with
        | false =>
          have Hb2 := Lib.hid (show false = inT F S (k + 1) by rw [Hstep.out, ← hb.out]; rfl)
          go_wp2_with fail
          go_roundw
          case rel => exact ⟨k + 1, false, by omega, by go_num, rfl, Hb2, hE3'⟩
          case measure => simp [intOf] <;> omega
        | true =>
          obtain ⟨bz, hbz⟩ : ∃ bz, bz = allZ (redX F x) := ⟨_, rfl⟩
          rw [← hbz] at hz
          have Hb2 := Lib.hid (show bz = inT F S (k + 1) by rw [Hstep.out, ← hb.out, hbz]; rfl)
          clear hbz
          go_wp2_with fail
          refine hz.out.mono ?_
          rintro e W4 ⟨rfl, hF4⟩
          have hE4' := hE3'.trans hF4
          clear hz
          go_wp2_with fail
          go_roundw
          case rel => exact ⟨k + 1, bz, by omega, by go_num, rfl, Hb2, hE4'⟩
          case measure => simp [intOf] <;> omega
      · have hb9 : b = bI := by rw [hb.out, HbI.out]; exact inT_all (by rw [← Hsn.out]; omega)
        subst hb9
        clear hb
        cases b with
        | false =>
          obtain ⟨rfl, rfl, rfl⟩ := HIx.out.1 HbI.out.symm
          go_wp2_with fail
          go_ret
          exact ⟨rfl, hXY⟩
        | true =>
          obtain ⟨G, hG, hlt9, hge9⟩ := HIx.out.2 HbI.out.symm
          have HG9 := Lib.hid hG
          have hSm := Lib.hid (HS.out.ext h4Y)
          rw [← Hsn.out] at hSm
          have hto := Lib.hid (to_m (HS.out.ext h4Y) (fun r hr z hz => by have := HSe.out r hr z hz; unfold I64; omega) (by rw [← Hsn.out]; omega) (fun r hr => by rw [HRnS.out r hr]; omega) (HL.out.ext hXY))
          rw [← Hsn.out] at hto
          have hspan := Lib.hid (ix_span (HI.out) (n := 1 + C % 4) HRS.out HbI.out.symm)
          clear hG hSm
          go_wp2_with fail
          refine hto.out.mono ?_
          rintro e Y1 ⟨u1, rfl, hu1, hF1⟩
          have hfo := Lib.hid (form_w (k := 30) hu1.mat HRnS.out (by rw [← Hsn.out]; omega) (by omega) (fun r hr => small_30 (HSe.out r hr)) (by have := rkB_lim (m := S.length) (c := ncols S) (by rw [← Hsn.out]; omega) (by omega); omega) (HL.out.ext (hXY.trans hF1)))
          clear hto hu1
          go_wp2_with fail
          refine hfo.out.mono ?_
          rintro e Y2 ⟨u2, G2, rfl, hG2, hGB, hGl, hu2, hF2⟩
          have hGG : G2 = G := hG2.unique HG9.out (fun v hv => .mem hv) (fun v hv => .mem hv)
          subst hGG
          have hXY2 := (hXY.trans hF1).trans hF2
          have HGM2 := Lib.hid hu2.mat
          obtain ⟨sg, _, _, cg, _, hvg, -⟩ := HGM2.out
          subst hvg
          obtain ⟨gn, hgn⟩ : ∃ gn, gn = G2.length := ⟨_, rfl⟩
          have Hgn := Lib.hid hgn
          rw [← hgn, ← Hfn.out] at hlt9 hge9
          rw [← hgn]
          clear hfo hu2 hgn
          by_cases hlen : gn < fn
          · obtain ⟨rfl, rfl, rfl⟩ := hlt9 hlen
            have hli : (gn : Int) < (fn : Int) := by omega
            clear hge9 hG2 hGB
            go_wp2_with fail
            go_ret
            exact ⟨rfl, hXY2⟩
          · obtain ⟨rfl, rfl, rfl⟩ := hge9 hlen
            have hli : ¬ (gn : Int) < (fn : Int) := by omega
            obtain ⟨qs, hJ⟩ := ix_rect HRS.out HG9.out
            have hix := idx_floor HI.out hJ (fun v hv => (HG9.out.2.1 v hv).trans hspan.out) (by rw [← Hgn.out, ← Hfn.out]; omega)
            have hEb := rkB_lim (m := S.length) (c := ncols S) (by rw [← Hsn.out]; omega) (by omega)
            have hG4 : G2.length ≤ 4 := by rw [hix.1]; rw [← Hfn.out]; omega
            have hsz1 := Lib.hid (size_w HGM2.out hJ.rect (by omega) (isH_pvp hJ) hGB (by
              have : rkB S.length 30 (ncols S) * (G2.length + 1) ≤ 242610 * 5 := Nat.mul_le_mul hEb (by omega)
              omega) (by omega) (HL.out.ext hXY2))
            have hP1 := pivP_bd hGB G2.length (Nat.le_refl _)
            have hp1 : (pc (pivP G2 G2 G2.length).natAbs).length ≤ 100000000 := pc_bits (E := rkB S.length 30 (ncols S) * G2.length + 1) (Nat.lt_of_le_of_lt hP1 (Nat.pow_lt_pow_right (by omega) (by omega))) (by
              have : rkB S.length 30 (ncols S) * G2.length ≤ 242610 * 4 := Nat.mul_le_mul hEb hG4
              omega)
            have hF30 : AllB 30 F := fun r hr => small_30 (HFe.out r hr)
            have hP2 := pivP_bd hF30 F.length (Nat.le_refl _)
            have hp2 : (pc (pivP F F F.length).natAbs).length ≤ 100000000 := pc_bits (E := 30 * F.length + 1) (Nat.lt_of_le_of_lt hP2 (Nat.pow_lt_pow_right (by omega) (by omega))) (by rw [← Hfn.out]; omega)
            have hti := hF4
            have hto := Lib.hid (fun V (hV : Ext Y2 V) => to_m (HFO4.out.ext (((h4Y.trans hF1).trans hF2).trans hV)) (fun r hr z hz => by have := HFe.out r hr z hz; unfold I64; omega) (by rw [← Hfn.out]; omega) (fun r hr => by rw [HI.out.rect r hr]; omega) (HL.out.ext (hXY2.trans hV)))
            have hsz2 := Lib.hid (fun V (hV : Ext Y2 V) (v : Value) (hv : MtR V v F) => size_w hv HI.out.rect (by omega) (isH_pvp HI.out) hF30 (by rw [← Hfn.out]; omega) (by rw [← Hfn.out]; omega) (HL.out.ext (hXY2.trans hV)))
            have hfl := Lib.hid (fun V (hV : Ext Y2 V) (va vb : Value) (h1 : WhR V va (pivP G2 G2 G2.length)) (h2 : WhR V vb (pivP F F F.length)) => floorW_w h1 h2 hix.2.1 hp1 hp2 (HL.out.ext (hXY2.trans hV)))
            have hpi : (pc (idxN F G2 F.length).natAbs).length ≤ 100000000 := by
              rw [← hix.2.2]; exact Nat.le_trans (pc_mono (fdiv_abs _ (by have := hix.2.1; omega))) hp1
            rw [hix.2.2] at hfl
            have hfr := Lib.hid (fun V (hV : Ext Y2 V) (va : Value) (h1 : WhR V va (idxN F G2 F.length)) => from_w h1 hpi (HL.out.ext (hXY2.trans hV)))
            rw [← Hgn.out] at hsz1
            rw [show idxN F G2 fn = idxN F G2 F.length by rw [Hfn.out]]
            generalize idxN F G2 F.length = N9 at *
            clear hlt9 hge9 hG2 hGB hP1 hP2 hp1 hp2 hF30 hpi hix hJ hEb hG4
            go_wp2_with fail
            refine hsz1.out.mono ?_
            rintro e Y3 ⟨z1, rfl, hz1, hF3⟩
            have hto2 := Lib.hid (hto.out Y3 hF3)
            rw [← Hfn.out] at hto2
            have Hz1 := Lib.hid hz1
            obtain ⟨b1, s1, n1, k1, rfl⟩ := hz1.shape
            clear hsz1 hto hz1
            go_wp2_with fail
            refine hto2.out.mono ?_
            rintro e Y4 ⟨u4, rfl, hu4, hF5⟩
            have hF35 := hF3.trans hF5
            have hs4 := Lib.hid (hsz2.out Y4 hF35 u4 hu4.mat)
            have Hz1b := Lib.hid (Hz1.out.ext hF5)
            clear hto2 hu4 hsz2 Hz1
            go_wp2_with fail
            refine hs4.out.mono ?_
            rintro e Y5 ⟨z5, rfl, hz5, hF6⟩
            have hF36 := hF35.trans hF6
            have hf5 := Lib.hid (hfl.out Y5 hF36 (.agg #[.bool b1, .slice s1 n1 k1]) _ (by rw [← Hgn.out]; exact Hz1b.out.ext hF6) hz5)
            obtain ⟨b5, s5, n5, k5, rfl⟩ := hz5.shape
            clear hs4 hz5 hfl Hz1b
            go_wp2_with fail
            refine hf5.out.mono ?_
            rintro e Y6 ⟨q1, q2, rfl, hq1, hq2, hF7⟩
            have hF37 := hF36.trans hF7
            have Hq1 := Lib.hid hq1
            obtain ⟨b6, s6, n6, k6, rfl⟩ := hq1.shape
            obtain ⟨b7, s7, n7, k7, rfl⟩ := hq2.shape
            have hA : Ext Y2 ((Y6.alloc (.cells #[.bool b6, .slice s6 n6 k6] 66)).alloc (.cells #[.bool b7, .slice s7 n7 k7] 66)) := (hF37.alloc _).alloc _
            have hfr2 := Lib.hid (hfr.out _ hA _ (Hq1.out.walloc.walloc))
            clear hf5 hq1 hq2 hfr Hq1
            go_wp2_with fail
            refine hfr2.out.mono ?_
            rintro e Y7 ⟨rfl, hF8⟩
            have hXY7 := hXY2.trans (hA.trans hF8)
            clear hfr2
            go_wp2_with fail
            go_ret
            exact ⟨rfl, hXY7⟩
  · rw [hsm] at hno; cases hno
end Go.Proofs.YthmhmkkcjlgbjaaGreatDoor
/- what the rows' frames need: the listed variables, matrices opened -/
namespace Go.Proofs.YthmhmkkcjlgbjaaGreatDoor
open Go.ChangeShapes Go.WideShapes Go.ChangeAt Go.WideMaps Go.WideElems Go.RowKit Go.Deep
theorem fr_own : ownKnob Tryz.prog.godebug = none := by kernel_rfl
theorem fr_laidOut : laidOutB Tryz.prog = true := by kernel_rfl
theorem fr_pow : Tryz.prog.globalNamed "internal/strconv.uint64pow10" = some 0 := by kernel_rfl
theorem fr_powT : (Tryz.prog.globals[0]?).map (·.type) = some 212 := by kernel_rfl
theorem fr_rng : Tryz.prog.globalNamed "strconv.ErrRange" = some 3 := by kernel_rfl
theorem fr_rngT : (Tryz.prog.globals[3]?).map (·.type) = some 152 := by kernel_rfl
theorem fr_c20 : Tryz.prog.cellsOf 212 = 20 := by kernel_rfl
theorem fr_cu : Tryz.prog.cellsOf 166 = 1 := by kernel_rfl
theorem fr_cE : Tryz.prog.cellsOf 224 = 1 := by kernel_rfl
theorem fr_cS : Tryz.prog.cellsOf 9 = 1 := by kernel_rfl
theorem fr_cR : Tryz.prog.cellsOf 35 = 1 := by kernel_rfl
theorem fr_cI : Tryz.prog.cellsOf 3 = 1 := by kernel_rfl
theorem fr_star : "*" ++ "errors.errorString" = "*errors.errorString" := by decide
theorem fr_ptr (u : TypeId) (h : Tryz.prog.typeName? 3 u = some "*errors.errorString") : u = 222 :=
  typeName_ptr_named (nm := "errors.errorString") (by rw [fr_star]; kernel_rfl) (by kernel_rfl) (by decide) u (by rw [fr_star]; exact h)
abbrev fr_list : List (String × DataW Unit) := [("math/bits.deBruijn32tab", Rows.laid_math_bits_deBruijn32tab), ("math/bits.deBruijn64tab", Rows.laid_math_bits_deBruijn64tab), ("internal/strconv.uint64pow10", Rows.laid_internal_strconv_uint64pow10), ("strconv.ErrRange", Rows.laid_strconv_ErrRange), ("strconv.ErrSyntax", Rows.laid_strconv_ErrSyntax)]
theorem fr_tab : (Rows.laid_internal_strconv_uint64pow10 : DataW Unit) = Lib.tabData .u64 Lib.pow10Tab := by kernel_rfl
theorem laid_of {W : World} (h : laidMetH Tryz.prog fr_list W) : Laid W := by
  rw [MakeChecks.laidMetH_plain _ _ _ (by kernel_rfl)] at h
  have h3 := h.tail.tail
  rw [fr_tab] at h3
  refine ⟨Lib.tabIs_of_head fr_pow fr_powT Tryz.underlying212 Tryz.underlying166 fr_cu fr_c20 h3, ?_⟩
  obtain ⟨a, s, hv, _⟩ := laid_sentinel h3.tail fr_rng fr_rngT Tryz.underlying152 fr_ptr Tryz.underlying222 Tryz.underlying224 rfl rfl Tryz.underlying9 fr_cE fr_cS
  exact ⟨_, _, hv⟩
/-- The door's own heap meets the condition. -/
theorem door_met (os : Os) (args : Array Value) : laidMetH Tryz.prog fr_list ((World.doorLaid Tryz.prog 400 os).forCall (fun _ _ => 0) ⟨#[], args, []⟩).memory :=
  laidMetH_of_parts3 (fuel := 8) (laidMet_of_run' 8 (by kernel_rfl) (by kernel_rfl)) (by kernel_rfl) (by kernel_rfl)
theorem row_open {W : World} {A : Option Addr} {L C : Nat} {Z : List Int} {base : Nat} (h1 : L ≤ C) (h2 : Z.length = C) (h3 : A = none → C = 0) (h4 : ∀ a', A = some a' → base ≤ a'.block ∧ ∀ c, c < C → W.cell? (a'.add c) = some (.int .i64 (Z.getD c 0))) : RowR W (.slice A L C) (Z.take L) := by
  have hl : (Z.take L).length = L := by rw [List.length_take]; omega
  cases A with
  | none =>
    have hC := h3 rfl
    refine ⟨none, 0, 0, C, by rw [hl], by rw [hl]; exact h1, fun h => ?_, fun i x hx => ?_⟩
    · rw [is_length, hl] at h; omega
    · have := (List.getElem?_eq_some_iff.1 hx).1
      rw [is_length, hl] at this; omega
  | some a =>
    obtain ⟨_, hc⟩ := h4 a rfl
    have hsp : 0 < L → a.spot = none := fun h => by simpa [Addr.add] using World.cell?_spot (hc 0 (by omega))
    obtain ⟨b, o, sp⟩ := a
    refine ⟨some ⟨b, o, sp⟩, b, o, C, by rw [hl], by rw [hl]; exact h1, fun h => ?_, fun i x hx => ?_⟩
    · rw [is_length, hl] at h
      have := hsp h
      simp at this
      rw [this]
    · have hi := (List.getElem?_eq_some_iff.1 hx).1
      rw [is_length, hl] at hi
      have := hsp (by omega)
      simp at this
      subst this
      rw [is_get (by rw [hl]; exact hi)] at hx
      have e := Option.some.inj hx
      rw [← e, ← add_plain, hc i (by omega), List.getElem_take, getD_get (by omega)]
theorem mat_open {H : Type} {enc : TypeId × Value → H} {W : World} {base : Nat} {held : Bool} {fuel : Nat} {v : Value} {x : DataW H × List MemPlace} (hv : v.cells.toList = [v])
    (h : DataW.trod enc Tryz.prog W base (fun _ => true) held fuel 29 v.cells.toList = some x) : ∃ M, MatR W v M := by
  rw [hv] at h
  rcases open_int_rows Tryz.underlying29 Tryz.underlying35 Tryz.underlying3 fr_cR fr_cI h with ⟨hcs, _⟩ | ⟨a, len, cap, A, L, C, Z, hcs, _, hl, _, _, hrows⟩
  · obtain rfl : v = .slice none 0 0 := by simpa using hcs
    exact ⟨[], none, 0, 0, 0, [], rfl, Nat.le_refl _, rfl, Sl.nil _ _ _ _, fun i h => by simp at h⟩
  · obtain rfl : v = .slice (some a) len cap := by simpa using hcs
    have hsp : 0 < len → a.spot = none := fun h => by simpa [Addr.add] using World.cell?_spot (hrows 0 (by omega)).1
    obtain ⟨b, o, sp⟩ := a
    refine ⟨(List.range len).map fun r => (Z r).take (L r), some ⟨b, o, sp⟩, b, o, cap, (List.range len).map fun r => .slice (A r) (L r) (C r), by simp, by simpa using hl, by simp, ⟨fun h => ?_, fun i y hy => ?_⟩, fun i hi hi' => ?_⟩
    · have := hsp (by simpa using h)
      simp at this
      rw [this]
    · have hi := (List.getElem?_eq_some_iff.1 hy).1
      have hil : i < len := by simpa using hi
      have := hsp (by omega)
      simp at this
      subst this
      have e : y = .slice (A i) (L i) (C i) := by
        rw [List.getElem?_eq_getElem hi] at hy
        have := Option.some.inj hy
        rw [← this]; simp
      rw [e, ← add_plain]
      exact (hrows i (by omega)).1
    · have hil : i < len := by simpa using hi
      obtain ⟨_, r1, _, r3, _, r5, r6⟩ := hrows i (by omega)
      have := row_open r1 r3 r5 r6
      simpa using this
end Go.Proofs.YthmhmkkcjlgbjaaGreatDoor
/- the description of a matrix, and four multiples, as arguments -/
namespace Go.Proofs.YthmhmkkcjlgbjaaGreatDoor
open Go.ChangeShapes Go.WideShapes Go.ChangeAt Go.WideMaps Go.WideElems Go.RowKit Go.Deep
theorem fr_cG : Tryz.prog.cellsOf 25 = 18 := by kernel_rfl
theorem fr_c16 : Tryz.prog.cellsOf 23 = 16 := by kernel_rfl
theorem fr_c4 : Tryz.prog.cellsOf 26 = 4 := by kernel_rfl
theorem fr_c8 : Tryz.prog.cellsOf 22 = 1 := by kernel_rfl
theorem fr_cu8 : Tryz.prog.cellsOf 5 = 1 := by kernel_rfl
theorem take_one {l : List Value} {k : Nat} {x : Value} (h : (l.drop k).take 1 = [x]) : l[k]? = some x := by
  have := congrArg (·[0]?) h
  simpa [List.getElem?_take] using this
theorem i8_bounds {n : Int} (h : (Lit.int .i8 n).wf = true) : -128 ≤ n ∧ n ≤ 127 := by
  simp only [Lit.wf, Bool.and_eq_true, decide_eq_true_eq] at h
  have e1 : IntKind.i8.min = -128 := by rfl
  have e2 : IntKind.i8.max = 127 := by rfl
  omega
theorem u8_bounds {n : Int} (h : (Lit.int .u8 n).wf = true) : 0 ≤ n ∧ n ≤ 255 := by
  simp only [Lit.wf, Bool.and_eq_true, decide_eq_true_eq] at h
  have e1 : IntKind.u8.min = 0 := by rfl
  have e2 : IntKind.u8.max = 255 := by rfl
  omega
theorem i8_cells {H : Type} {enc : TypeId × Value → H} {W : World} {base : Nat} {sp : Nat → Bool} {held : Bool} {fuel n : Nat} {t : TypeId} {l : List Value} {x : DataW H × List MemPlace} (ht : Tryz.prog.underlying t = some (.array n 22))
    (h : DataW.trod enc Tryz.prog W base sp held fuel t l = some x) : ∀ j, j < n → ∃ z : Int, l[j]? = some (.int .i8 z) ∧ -128 ≤ z ∧ z ≤ 127 := by
  obtain ⟨xs, m, _, _, _, hxl, hx⟩ := DataW.trod_array ht h
  intro j hj
  have h1 := hx j hj
  rw [fr_c8, Nat.mul_one, List.getElem?_eq_getElem (by omega)] at h1
  obtain ⟨z, hz, _, hw⟩ := DataW.trod_int Tryz.underlying22 h1
  exact ⟨z, take_one hz, i8_bounds hw⟩
set_option maxRecDepth 100000 in
theorem grid_open {H : Type} {enc : TypeId × Value → H} {W : World} {base : Nat} {sp : Nat → Bool} {held : Bool} {fuel : Nat} {cs : Array Value} {x : DataW H × List MemPlace} (hs : cs.size = 18)
    (h : DataW.trod enc Tryz.prog W base sp held fuel 25 cs.toList = some x) : ∃ R C, GridV cs R C := by
  obtain ⟨xs, n, _, _, _, hxl, hx⟩ := DataW.trod_struct Tryz.underlying25 h
  have hx3 : xs.length = 3 := hxl
  have h0 := hx 0 _ rfl
  have h1 := hx 1 _ rfl
  have h2 := hx 2 _ rfl
  rw [List.getElem?_eq_getElem (by omega)] at h0 h1 h2
  have h0' : DataW.trod enc Tryz.prog W base sp held n 5 ((cs.toList.drop 0).take 1) = some xs[0] := h0
  have h1' : DataW.trod enc Tryz.prog W base sp held n 5 ((cs.toList.drop 1).take 1) = some xs[1] := h1
  have h2' : DataW.trod enc Tryz.prog W base sp held n 23 ((cs.toList.drop 2).take 16) = some xs[2] := h2
  obtain ⟨r, hr, _, wr⟩ := DataW.trod_int Tryz.underlying5 h0'
  obtain ⟨c, hc, _, wc⟩ := DataW.trod_int Tryz.underlying5 h1'
  have hE := i8_cells Tryz.underlying23 h2'
  have br := u8_bounds wr
  have bc := u8_bounds wc
  have er : ((r.toNat : Nat) : Int) = r := by omega
  have ec : ((c.toNat : Nat) : Int) = c := by omega
  refine ⟨r.toNat, c.toNat, hs, ?_, ?_, fun j hj => ?_, by omega, by omega⟩
  · rw [er, ← Array.getElem?_toList]; exact take_one hr
  · rw [ec, ← Array.getElem?_toList]; exact take_one hc
  · obtain ⟨z, hz, hb⟩ := hE j hj
    rw [List.getElem?_take, if_pos hj, List.getElem?_drop] at hz
    exact ⟨z, by rw [← Array.getElem?_toList]; exact hz, hb⟩
end Go.Proofs.YthmhmkkcjlgbjaaGreatDoor
/- schismalaw07.HermiteIndexes: for every two descriptions the law returns true, and they read as they did. No condition but what the card itself prints. -/
namespace Go.Proofs.YthmhmkkcjlgbjaaGreatDoor
open Go.ChangeShapes Go.WideShapes Go.ChangeAt Go.WideMaps Go.WideElems Go.RowKit Go.Deep
set_option maxRecDepth 100000 in
set_option maxHeartbeats 2000000 in
theorem ixs_lifted (os : Os) (started : os.Started) (H : Type) (enc : TypeId × Value → H) :
    ReturnsInHanded {} Tryz.checked os 6 .any (fun w args => (Rows.hermiteIndexesSpec.pre enc Tryz.prog Tryz.f6 [] false w args ∧ laidMetH Tryz.prog fr_list w) ∧ sizedMet enc Tryz.prog Tryz.f6 (OpenSpec.ofChange Rows.hermiteIndexesSpec) false w args)
      (Rows.hermiteIndexesSpec.post enc Tryz.prog Tryz.f6 false true false false) := by
  refine returnsInHanded_of_change_and (C := Tryz.checked) (X := fun w _ => laidMetH Tryz.prog fr_list w) (fun _ _ _ hh h => h.of_heap hh) fr_own started (by kernel_rfl) Tryz.func6
    (ChangeSpec.witness_shaped (enc := enc) (C := Tryz.checked) (os := os) (X := fun w _ => laidMetH Tryz.prog fr_list w) false (World.doorLaid Tryz.prog 400 os) #[.agg #[.int .u8 0, .int .u8 0, .int .i8 0, .int .i8 0, .int .i8 0, .int .i8 0, .int .i8 0, .int .i8 0, .int .i8 0, .int .i8 0, .int .i8 0, .int .i8 0, .int .i8 0, .int .i8 0, .int .i8 0, .int .i8 0, .int .i8 0, .int .i8 0], .agg #[.int .u8 0, .int .u8 0, .int .i8 0, .int .i8 0, .int .i8 0, .int .i8 0, .int .i8 0, .int .i8 0, .int .i8 0, .int .i8 0, .int .i8 0, .int .i8 0, .int .i8 0, .int .i8 0, .int .i8 0, .int .i8 0, .int .i8 0, .int .i8 0]] 8 rfl (World.shaped_of_RefB (by kernel_rfl) (by kernel_rfl)) (by kernel_rfl) (by kernel_rfl) (by kernel_rfl) (door_met os _)) ?_
  intro W base args ds gs before hval0 hW _ _ hL _
  have hval : ∀ (j : Nat) t v, Tryz.f6.params[j]? = some t → args[j]? = some v → Value.okWide Tryz.prog W .any base t v := hval0
  have hW' := hW
  obtain ⟨p, q, hA0, hV, rfl, hfz, hnd⟩ := hW
  have hA : DataW.TrodAll enc Tryz.prog W 0 (fun _ => true) true Tryz.f6.params.toList args.toList ds p := hA0
  rw [Tryz.params6] at hA hval
  obtain ⟨v0, v1, d0, d1, p0, p1, rfl, rfl, rfl, h0, h1⟩ := trodAll_two hA
  obtain ⟨rfl, rfl⟩ := trodVars_none hV
  obtain ⟨cs, rfl, hs0⟩ := okWide_struct Tryz.underlying25 (hval 0 25 v0 rfl rfl)
  obtain ⟨bs, rfl, hs1⟩ := okWide_struct Tryz.underlying25 (hval 1 25 v1 rfl rfl)
  rw [fr_cG] at hs0
  rw [fr_cG] at hs1
  have h0k := h0
  have h1k := h1
  obtain ⟨fuel0, hf0⟩ := h0
  obtain ⟨fuel1, hf1⟩ := h1
  obtain ⟨R, C, hG⟩ := grid_open hs0 hf0
  obtain ⟨R2, C2, hB⟩ := grid_open hs1 hf1
  clear hA0 hval0 hf0 hf1
  simp only [List.append_nil] at hW'
  have hlt : ∀ x ∈ p0 ++ p1, x.block < W.heap.size := fun x hx => by simpa using hW'.lt x hx
  refine (ix_walk hG hB (laid_of hL)).mono ?_
  rintro e W' ⟨rfl, hE⟩
  have e1 : Rows.hermiteIndexesSpec.fn H ([d0, d1] ++ []) = { results := [.lit (.bool true)], args := [d0, d1] } := rfl
  refine ⟨_, rfl, _, _, _, [], p0 ++ p1, [], hW', ?_, ?_, ?_, hE.frame _, fun h => by cases h⟩
  · rw [e1]; exact trodAll_mk1 (shut_bool Tryz.underlying4 true)
  · rw [e1]; exact trodAll_mk2 (Below.trod fr_laidOut (by kernel_rfl) (of_decide_eq_true (by kernel_rfl)) h0k hE fun x hx => hlt x (List.mem_append_left _ hx)) (Below.trod fr_laidOut (by kernel_rfl) (of_decide_eq_true (by kernel_rfl)) h1k hE fun x hx => hlt x (List.mem_append_right _ hx))
  · rw [e1]; rfl
theorem ixs_holds : Rows.HermiteIndexesSaid :=
  OpenClaim.holds_of_wide 6 Tryz.f6 rfl rfl rfl rfl rfl rfl rfl ⟨rfl, rfl, rfl, rfl, rfl⟩ rfl rfl rfl rfl rfl (by kernel_rfl) Tryz.func6 (by kernel_rfl)
    (of_decide_eq_true (by kernel_rfl)) (by unfold Func.isWrapper; first | (rw [if_pos (by decide +kernel)]; kernel_rfl) | (rw [if_neg (by decide +kernel)]; exact ⟨rfl, rfl⟩))
    (fun os started H enc _ => ixs_lifted os started H enc)
theorem hermiteIndexes_card : Rows.HermiteIndexesCardSaid :=
  Claim7.holds_tied_plain_at .later [] [.data, .data, .data, .sentinel, .sentinel] true Rows.hermiteIndexesCard.stood.harness true
    ixs_holds (fun _ h => by cases h) (by kernel_rfl) (fun _ h => by cases h) hermiteIndexes_row_tie rfl ⟨rfl, rfl⟩ (by kernel_rfl) rfl
    (fun f fn hf hfn => by
      obtain rfl : f = 6 := Option.some.inj ((show Tryz.prog.funcNamed "schisma/schismalaw07.HermiteIndexes" = some 6 by kernel_rfl).symm.trans hf) |>.symm
      obtain rfl : fn = Tryz.f6 := (Option.some.inj (Tryz.func6.symm.trans hfn)).symm
      exact ⟨by kernel_rfl, fun j t ht => by
        rw [Tryz.params6] at ht
        have hm : t ∈ [25, 25] := by simpa using Array.mem_of_getElem? ht
        have hall : ([25, 25].all fun u => !Tryz.prog.wantsStandIn u) = true := by kernel_rfl
        exact (show Tryz.prog.wantsStandIn t = false by simpa using List.all_eq_true.1 hall t hm)⟩)
    (by kernel_rfl)
#print axioms hermiteIndexes_card
end Go.Proofs.YthmhmkkcjlgbjaaGreatDoor
