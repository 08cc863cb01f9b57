/- Part 28 of the proof of the claim: contracts of the functions that it reaches, and plain laws; no condition. -/
import Derived.Test.YtkjnjmihfonilaaGreatDoorX27
import Derived.Test.YtkjnjmihfonilaaGreatDoorX07
import Derived.Test.YtkjnjmihfonilaaGreatDoorX24
import Derived.Test.YtkjnjmihfonilaaGreatDoorX02
namespace Go.Proofs.YtkjnjmihfonilaaGreatDoor
open Go.RowKit Go.Sort
def fbE (n : Nat) : Mx → Int
  | [] => 0
  | x :: L => if bgE n x = 0 then fbE n L else bgE n x
theorem fbE_none {n : Nat} : ∀ {L : Mx}, (∀ j (h : j < L.length), bgE n L[j] = 0) → fbE n L = 0
  | [], _ => rfl
  | x :: L, h => by
    rw [fbE, if_pos (show bgE n x = 0 from h 0 (by simp))]
    exact fbE_none fun j hj => h (j + 1) (by simpa using hj)
theorem fbE_at {n : Nat} : ∀ {L : Mx} {i : Nat} (hi : i < L.length), (∀ j (h : j < L.length), j < i → bgE n L[j] = 0) → bgE n L[i] ≠ 0 → fbE n L = bgE n L[i]
  | x :: L, 0, hi, _, h0 => by rw [fbE, if_neg (show ¬ bgE n x = 0 from h0)]; rfl
  | x :: L, i + 1, hi, h, h0 => by
    rw [fbE, if_pos (show bgE n x = 0 from h 0 (by simp) (by omega))]
    exact fbE_at (i := i) (by simpa using hi) (fun j hj hji => h (j + 1) (by simpa using hj) (by omega)) h0
theorem fbE_zero {n : Nat} : ∀ {L : Mx}, fbE n L = 0 → ∀ j (h : j < L.length), bgE n L[j] = 0
  | [], _, j, h => by simp at h
  | x :: L, h, j, hj => by
    rw [fbE] at h
    split at h
    · rename_i h0
      match j with
      | 0 => exact h0
      | j + 1 => exact fbE_zero h j (by simpa using hj)
    · rename_i h0; exact absurd h h0
def gst (M : Mx) (L : Mx) (i : Nat) : Int := (tmpL M (L.getD i [])).getD 1 0
def mnG (M L : Mx) : Nat → Int
  | 0 => 0
  | k + 1 => min (if k = 0 then gst M L k else mnG M L k) (gst M L k)
def mxG (M L : Mx) : Nat → Int
  | 0 => 0
  | k + 1 => max (if k = 0 then gst M L k else mxG M L k) (gst M L k)
def allS (M L : Mx) : Bool := L.all fun x => smallB (tmpL M x)
theorem allS_no {M L : Mx} {i : Nat} (h : i < L.length) (h2 : smallB (tmpL M L[i]) = false) : allS M L = false := by
  unfold allS
  rw [List.all_eq_false]
  exact ⟨_, List.getElem_mem h, by rw [h2]; decide⟩
theorem allS_yes {M L : Mx} (h : ∀ i (hi : i < L.length), smallB (tmpL M L[i]) = true) : allS M L = true := by
  unfold allS
  rw [List.all_eq_true]
  intro x hx
  obtain ⟨i, hi, rfl⟩ := List.getElem_of_mem hx
  exact h i hi
def SpPost (w : World) (np : Nat) (M L : Mx) (e : Ending) (w' : World) : Prop :=
  Ext w w' ∧ e = .returned (.tuple (if twE M = 0 then (if fbE np L = 0 then (if L.length = 0 then #[.int .i64 0, .int .i64 0, .int .i64 13] else (if allS M L = true then #[.int .i64 (mnG M L L.length), .int .i64 (mxG M L L.length), .int .i64 0] else #[.int .i64 0, .int .i64 0, .int .i64 4])) else #[.int .i64 0, .int .i64 0, .int .i64 (fbE np L)]) else #[.int .i64 0, .int .i64 0, .int .i64 (twE M)]))
theorem gst_b {M L : Mx} {i : Nat} (h : smallB (tmpL M (L.getD i [])) = true) : -1000000000 ≤ gst M L i ∧ gst M L i ≤ 1000000000 := by
  unfold gst
  refine getD_bd9 (fun z hz => ?_) 1
  have := List.all_eq_true.1 h z hz
  unfold grt at this
  simp only [Bool.not_eq_true', decide_eq_false_iff_not] at this
  omega
set_option maxRecDepth 100000 in
set_option maxHeartbeats 4000000 in
theorem gSpan_any {w : World} {P : List Int} {C M : Mx} {sp : Option Addr} {cp : Nat} {sc : Option Addr} {lc cc : Nat} {sm : Option Addr} {lm cm : Nat} {sl : Option Addr} {nl cl : Nat} {L : Mx} (h : TmV w P C M M sp cp sc lc cc sm lm cm) (hl : MatR w (.slice sl nl cl) L) (hL : Laid w) (hbig : L.length ≤ 1000000) :
    Calls Tryz.prog 35 #[tmS P sp cp sc lc cc sm lm cm, .slice sl nl cl] w (SpPost w P.length M L) := by
  have htw := Lib.hid (fun W (hW : Ext w W) => gtwo_any (h.ext hW) (hL.ext hW))
  have hX := (Ext.refl w).alloc (.cells #[.slice sp P.length cp, .slice sc lc cc, .slice sm lm cm] 34)
  have x0 : (w.alloc (.cells #[.slice sp P.length cp, .slice sc lc cc, .slice sm lm cm] 34)).cell? ⟨w.heap.size, 0, none⟩ = some (.slice sp P.length cp) := by go_simp
  have x1 : (w.alloc (.cells #[.slice sp P.length cp, .slice sc lc cc, .slice sm lm cm] 34)).cell? ⟨w.heap.size, 1, none⟩ = some (.slice sc lc cc) := by go_simp
  have x2 : (w.alloc (.cells #[.slice sp P.length cp, .slice sc lc cc, .slice sm lm cm] 34)).cell? ⟨w.heap.size, 2, none⟩ = some (.slice sm lm cm) := by go_simp
  have hst := Lib.hid (fun W s c x (hW : Ext w W) (hx : RowR W (.slice s x.length c) x) => gSteps_any (h.ext hW) hx (hL.ext hW))
  have hsz := Lib.hid (fun W s c x (hW : RowR W (.slice s (List.length x) c) x) => gsized_any (m := P.length) hW)
  obtain ⟨z, hz⟩ : ∃ z, z = twE M := ⟨_, rfl⟩
  rw [← hz] at htw
  have Hz := Lib.hid hz
  obtain ⟨sl', gl, ol, cl', vs, el, hlc, hvl, hSl, hrl⟩ := hl
  injection el with q4 q5 q6
  subst q4 q6
  rw [q5]
  have HS := Lib.hid hSl
  have HV := Lib.hid hvl
  have HR := Lib.hid hrl
  clear hz h hL q5 hSl hvl hrl
  by_cases h0 : z = 0
  · subst h0
    have Htw := Lib.hid Hz.out.symm
    clear Hz
    go_enter Tryz.func35, Tryz.ntmps35
    go_wp2_with fail
    refine (htw.out _ hX).mono ?_
    rintro e X ⟨rfl, hE1⟩
    have y0 := hE1.cell x0
    have y1 := hE1.cell x1
    have y2 := hE1.cell x2
    have e1 := hX.trans hE1
    clear htw hE1 x0 x1 x2
    go_wp2_with fail
    go_loopw [4, 5, 22] (fun lv hv idx wr => ∃ i : Nat, i ≤ L.length ∧ idx = .int .i64 i ∧ lv = .int .i64 0 ∧ hv = .int .i64 0 ∧ Hid (∀ j (h : j < L.length), j < i → bgE P.length L[j] = 0) ∧ Ext X wr) (fun _ _ idx _ => L.length - (intOf idx).toNat)
    case atStart => exact ⟨0, by omega, by go_num, rfl, rfl, Lib.hid (fun j _ h => by omega), Ext.refl _⟩
    case round =>
      obtain ⟨i, hi', rfl, rfl, rfl, HK, hE⟩ := hrel
      generalize wr = Y at *
      have z0 := hE.cell y0
      have z1 := hE.cell y1
      have z2 := hE.cell y2
      by_cases hlt : i < L.length
      · have hii : (i : Int) < (L.length : Int) := by omega
        obtain rfl := HS.out.addr (by rw [HV.out]; omega)
        obtain ⟨sr, br, or, cr, hrow, hrc, hSr⟩ := MatR.row HS.out HV.out HR.out hlt
        have hrY := (e1.trans hE).cell hrow
        have hsr := Lib.hid (hsz.out Y sr cr L[i] ⟨_, _, _, _, rfl, hrc, hSr.ext (e1.trans hE)⟩)
        by_cases hb : bgE P.length L[i] = 0
        · rw [hb] at hsr
          have Hb := Lib.hid hb
          generalize L[i].length = nr at *
          clear hb
          go_wp2_with fail
          refine hsr.out.mono ?_
          rintro e W ⟨rfl, hE2⟩
          go_wp2_with fail
          go_roundw
          case rel => exact ⟨i + 1, by omega, by go_num, rfl, rfl, Lib.hid (fun j h hj => by
            by_cases e : j = i
            · subst e; exact Hb.out
            · exact HK.out j h (by omega)), hE.trans hE2⟩
          case measure => simp [intOf] <;> omega
        · have Hfb := Lib.hid (fbE_at hlt HK.out hb)
          obtain ⟨y, hy⟩ : ∃ y, y = bgE P.length L[i] := ⟨_, rfl⟩
          rw [← hy] at hsr hb Hfb
          have h2 : (y == 0) = false := beq_eq_false_iff_ne.2 hb
          have h3 : (y != 0) = true := by simp [bne, h2]
          have Hb := Lib.hid hb
          have e3 := e1.trans hE
          generalize L[i].length = nr at *
          have Hres := Lib.hid (show ∀ W, Ext w W → SpPost w P.length M L (.returned (.tuple #[.int .i64 0, .int .i64 0, .int .i64 y])) W from fun W hW => ⟨hW, by rw [if_pos Htw.out, if_neg (by rw [Hfb.out]; exact Hb.out), Hfb.out]⟩)
          clear hy hb
          go_wp2_with fail
          refine hsr.out.mono ?_
          rintro e W ⟨rfl, hE2⟩
          have e4 := e3.trans hE2
          go_wp2_with fail
          go_ret3
          exact Hres.out _ e4
      · obtain rfl : i = L.length := by omega
        have Hfb := Lib.hid (fbE_none (n := P.length) (L := L) fun j h => HK.out j h h)
        have e3 := e1.trans hE
        clear HK hi'
        by_cases hl0 : L.length = 0
        · have hlz : ((L.length : Int) == 0) = true := by simp [hl0]
          have Hl0 := Lib.hid hl0
          have Hres := Lib.hid (show ∀ W, Ext w W → SpPost w P.length M L (.returned (.tuple #[.int .i64 0, .int .i64 0, .int .i64 13])) W from fun W hW => ⟨hW, by rw [if_pos Htw.out, if_pos Hfb.out, if_pos Hl0.out]⟩)
          clear hl0
          go_wp2_with fail
          go_ret3
          exact Hres.out _ e3
        · have hlI : ¬ (L.length : Int) = 0 := by omega
          have hlz : ((L.length : Int) == 0) = false := beq_eq_false_iff_ne.2 hlI
          have Hl0 := Lib.hid hl0
          clear hl0 y0 y1 y2
          go_wp2_with fail
          go_loopw [4, 5, 40] (fun lv hv idx wr => ∃ i : Nat, i ≤ L.length ∧ idx = .int .i64 i ∧ lv = .int .i64 (mnG M L i) ∧ hv = .int .i64 (mxG M L i) ∧ Hid (∀ j (h : j < L.length), j < i → smallB (tmpL M L[j]) = true) ∧ Ext Y wr) (fun _ _ idx _ => L.length - (intOf idx).toNat)
          case atStart => exact ⟨0, by omega, by go_num, rfl, rfl, Lib.hid (fun j _ h => by omega), Ext.refl _⟩
          case round =>
            obtain ⟨i, hi', rfl, rfl, rfl, HK, hE2⟩ := hrel
            generalize wr = Z at *
            have w0 := hE2.cell z0
            have w1 := hE2.cell z1
            have w2 := hE2.cell z2
            by_cases hlt : i < L.length
            · have hii : (i : Int) < (L.length : Int) := by omega
              obtain rfl := HS.out.addr (by rw [HV.out]; omega)
              obtain ⟨sr, br, or, cr, hrow, hrc, hSr⟩ := MatR.row HS.out HV.out HR.out hlt
              have eZ := e3.trans hE2
              have hrZ := eZ.cell hrow
              have hsr := Lib.hid (hst.out Z sr cr L[i] eZ ⟨_, _, _, _, rfl, hrc, hSr.ext eZ⟩)
              have Hbz := Lib.hid (fbE_zero Hfb.out i hlt)
              generalize hnr : L[i].length = nr at *
              cases hsm : smallB (tmpL M L[i])
              · have Hno := Lib.hid (allS_no hlt hsm)
                clear hnr
                go_wp2_with fail
                refine hsr.out.mono ?_
                rintro e W ⟨hE4, (⟨k1, rfl⟩ | ⟨k1, k2, rfl⟩ | ⟨k1, k2, k3, rfl⟩ | ⟨k1, k2, k3, rfl⟩)⟩
                · exact absurd Htw.out k1
                · exact absurd Hbz.out k2
                · have e5 := eZ.trans hE4
                  have Hres := Lib.hid (show ∀ W, Ext w W → SpPost w P.length M L (.returned (.tuple #[.int .i64 0, .int .i64 0, .int .i64 4])) W from fun W hW => ⟨hW, by rw [if_pos Htw.out, if_pos Hfb.out, if_neg Hl0.out, if_neg (by rw [Hno.out]; decide)]⟩)
                  clear k1 k2 k3 hsm
                  go_wp2_with fail
                  go_ret3
                  exact Hres.out _ e5
                · rw [hsm] at k3; cases k3
              · have Hsm := Lib.hid hsm
                have hgi : L.getD i [] = L[i] := getD_get hlt _
                have hg0 : gst M L i = (tmpL M L[i]).getD 1 0 := by unfold gst; rw [hgi]
                have hgb := gst_b (M := M) (L := L) (i := i) (by rw [hgi]; exact hsm)
                have Hmn : mnG M L (i + 1) = min (if i = 0 then gst M L i else mnG M L i) (gst M L i) := rfl
                have Hmx : mxG M L (i + 1) = max (if i = 0 then gst M L i else mxG M L i) (gst M L i) := rfl
                have Hg0 := Lib.hid hg0
                clear hnr hsm hgi hg0
                go_wp2_with fail
                refine hsr.out.mono ?_
                rintro e W ⟨hE4, (⟨k1, rfl⟩ | ⟨k1, k2, rfl⟩ | ⟨k1, k2, k3, rfl⟩ | ⟨k1, k2, k3, rfl⟩)⟩
                · exact absurd Htw.out k1
                · exact absurd Hbz.out k2
                · rw [Hsm.out] at k3; cases k3
                · rw [← Hg0.out]
                  have eW := hE2.trans hE4
                  clear k1 k2 k3
                  generalize gst M L i = g at *
                  by_cases hi0 : i = 0
                  · subst hi0
                    rw [if_pos rfl] at Hmn Hmx
                    have hmn : min g g = g := by omega
                    have hmx : max g g = g := by omega
                    rw [hmn] at Hmn
                    rw [hmx] at Hmx
                    have Hmn2 := Lib.hid Hmn
                    have Hmx2 := Lib.hid Hmx
                    clear Hmn Hmx
                    go_wp2_with fail
                    go_roundw
                    case rel => exact ⟨1, by omega, by go_num, by rw [Hmn2.out], by rw [Hmx2.out], Lib.hid (fun j h hj => by
                      obtain rfl : j = 0 := by omega
                      exact Hsm.out), eW⟩
                    case measure => simp [intOf] <;> omega
                  · rw [if_neg hi0] at Hmn Hmx
                    have hi0I : ¬ (i : Int) = 0 := by omega
                    have hi0b : ((i : Int) == 0) = false := beq_eq_false_iff_ne.2 hi0I
                    have Hmn2 := Lib.hid Hmn
                    have Hmx2 := Lib.hid Hmx
                    clear Hmn Hmx hi0
                    generalize mnG M L i = m1 at *
                    generalize mxG M L i = m2 at *
                    go_wp2_with fail
                    go_roundw
                    case rel => exact ⟨i + 1, by omega, by go_num, by rw [Hmn2.out], by rw [Hmx2.out], Lib.hid (fun j h hj => by
                      by_cases e : j = i
                      · subst e; exact Hsm.out
                      · exact HK.out j h (by omega)), eW⟩
                    case measure => simp [intOf] <;> omega
            · obtain rfl : i = L.length := by omega
              have Hall := Lib.hid (allS_yes (M := M) (L := L) fun j h => HK.out j h h)
              have eF := e3.trans hE2
              have Hres := Lib.hid (show ∀ W, Ext w W → SpPost w P.length M L (.returned (.tuple #[.int .i64 (mnG M L L.length), .int .i64 (mxG M L L.length), .int .i64 0])) W from fun W hW => ⟨hW, by rw [if_pos Htw.out, if_pos Hfb.out, if_neg Hl0.out, if_pos Hall.out]⟩)
              clear HK
              go_wp2_with fail
              go_ret3
              exact Hres.out _ eF
  · have h2 : (z == 0) = false := beq_eq_false_iff_ne.2 h0
    have h3 : (z != 0) = true := by simp [bne, h2]
    have Hn0 := Lib.hid (show ¬ twE M = 0 by rw [← Hz.out]; exact h0)
    have Hres := Lib.hid (show ∀ W, Ext w W → SpPost w P.length M L (.returned (.tuple #[.int .i64 0, .int .i64 0, .int .i64 z])) W from fun W hW => ⟨hW, by rw [if_neg Hn0.out, Hz.out]⟩)
    clear h0 hst hsz HS HV HR
    go_enter Tryz.func35, Tryz.ntmps35
    go_wp2_with fail
    refine (htw.out _ hX).mono ?_
    rintro e X ⟨rfl, hE1⟩
    have e1 := hX.trans hE1
    go_wp2_with fail
    go_ret3
    exact Hres.out _ e1
end Go.Proofs.YtkjnjmihfonilaaGreatDoor
namespace Go.Proofs.YtkjnjmihfonilaaGreatDoor
open Go.RowKit Go.Sort
def lsE (n : Nat) (L : Mx) : Int := if fbE n L = 0 then (if 12 < L.length then 4 else 0) else fbE n L
set_option maxRecDepth 100000 in
set_option maxHeartbeats 4000000 in
theorem glisted_any {w : World} {P : List Int} {C M : Mx} {sp : Option Addr} {cp : Nat} {sc : Option Addr} {lc cc : Nat} {sm : Option Addr} {lm cm : Nat} {sl : Option Addr} {nl cl : Nat} {L : Mx} (h : TmV w P C M M sp cp sc lc cc sm lm cm) (hl : MatR w (.slice sl nl cl) L) (hL : Laid w) (hbig : L.length ≤ 1000000) :
    Calls Tryz.prog 63 #[tmS P sp cp sc lc cc sm lm cm, .slice sl nl cl] w fun e w' => e = .returned (.int .i64 (lsE P.length L)) ∧ Ext w w' := by
  have hck := Lib.hid (fun W (hW : Ext w W) => tCheck_any (h.ext hW) (hL.ext hW))
  rw [tmE_same] at hck
  have hX := (Ext.refl w).alloc (.cells #[.slice sp P.length cp, .slice sc lc cc, .slice sm lm cm] 34)
  have x0 : (w.alloc (.cells #[.slice sp P.length cp, .slice sc lc cc, .slice sm lm cm] 34)).cell? ⟨w.heap.size, 0, none⟩ = some (.slice sp P.length cp) := by go_simp
  have x1 : (w.alloc (.cells #[.slice sp P.length cp, .slice sc lc cc, .slice sm lm cm] 34)).cell? ⟨w.heap.size, 1, none⟩ = some (.slice sc lc cc) := by go_simp
  have x2 : (w.alloc (.cells #[.slice sp P.length cp, .slice sc lc cc, .slice sm lm cm] 34)).cell? ⟨w.heap.size, 2, none⟩ = some (.slice sm lm cm) := by go_simp
  have hsz := Lib.hid (fun W s c x (hW : RowR W (.slice s (List.length x) c) x) => gsized_any (m := P.length) hW)
  obtain ⟨sl', gl, ol, cl', vs, el, hlc, hvl, hSl, hrl⟩ := hl
  injection el with q4 q5 q6
  subst q4 q6
  rw [q5]
  have HS := Lib.hid hSl
  have HV := Lib.hid hvl
  have HR := Lib.hid hrl
  obtain ⟨q, hq⟩ : ∃ q, q = lsE P.length L := ⟨_, rfl⟩
  rw [← hq]
  have Hq := Lib.hid hq
  clear h hL q5 hSl hvl hrl hq
  go_enter Tryz.func63, Tryz.ntmps63
  go_wp2_with fail
  refine (hck.out _ hX).mono ?_
  rintro e X ⟨rfl, hE1⟩
  have y0 := hE1.cell x0
  have e1 := hX.trans hE1
  clear hck hE1 x0 x1 x2
  go_wp2_with fail
  go_loopw [16] (fun idx wr => ∃ i : Nat, i ≤ L.length ∧ idx = .int .i64 i ∧ Hid (∀ j (h : j < L.length), j < i → bgE P.length L[j] = 0) ∧ Ext X wr) (fun idx _ => L.length - (intOf idx).toNat)
  case atStart => exact ⟨0, by omega, by go_num, Lib.hid (fun j _ h => by omega), Ext.refl _⟩
  case round =>
    obtain ⟨i, hi', rfl, HK, hE⟩ := hrel
    generalize wr = Y at *
    have z0 := hE.cell y0
    by_cases hlt : i < L.length
    · have hii : (i : Int) < (L.length : Int) := by omega
      obtain rfl := HS.out.addr (by rw [HV.out]; omega)
      obtain ⟨sr, br, or, cr, hrow, hrc, hSr⟩ := MatR.row HS.out HV.out HR.out hlt
      have hrY := (e1.trans hE).cell hrow
      have hsr := Lib.hid (hsz.out Y sr cr L[i] ⟨_, _, _, _, rfl, hrc, hSr.ext (e1.trans hE)⟩)
      by_cases hb : bgE P.length L[i] = 0
      · rw [hb] at hsr
        have Hb := Lib.hid hb
        generalize L[i].length = nr at *
        clear hb
        go_wp2_with fail
        refine hsr.out.mono ?_
        rintro e W ⟨rfl, hE2⟩
        go_wp2_with fail
        go_roundw
        case rel => exact ⟨i + 1, by omega, by go_num, Lib.hid (fun j h hj => by
          by_cases e : j = i
          · subst e; exact Hb.out
          · exact HK.out j h (by omega)), hE.trans hE2⟩
        case measure => simp [intOf] <;> omega
      · have Hfb := Lib.hid (fbE_at hlt HK.out hb)
        obtain ⟨y, hy⟩ : ∃ y, y = bgE P.length L[i] := ⟨_, rfl⟩
        rw [← hy] at hsr hb Hfb
        have h2 : (y == 0) = false := beq_eq_false_iff_ne.2 hb
        have h3 : (y != 0) = true := by simp [bne, h2]
        have Hy := Lib.hid (show y = q by rw [Hq.out]; unfold lsE; rw [if_neg (by rw [Hfb.out]; exact hb), Hfb.out])
        have e3 := e1.trans hE
        generalize L[i].length = nr at *
        clear hy hb
        go_wp2_with fail
        refine hsr.out.mono ?_
        rintro e W ⟨rfl, hE2⟩
        have e4 := e3.trans hE2
        go_wp2_with fail
        go_ret
        exact ⟨ret_val (congrArg (Value.int .i64) Hy.out), e4⟩
    · obtain rfl : i = L.length := by omega
      have Hfb := Lib.hid (fbE_none (n := P.length) (L := L) fun j h => HK.out j h h)
      have e3 := e1.trans hE
      clear HK hi'
      by_cases hl0 : 12 < L.length
      · have hlI : (12 : Int) < (L.length : Int) := by omega
        have Hy := Lib.hid (show (4 : Int) = q by rw [Hq.out]; unfold lsE; rw [if_pos Hfb.out, if_pos hl0])
        clear hl0
        go_wp2_with fail
        go_ret
        exact ⟨ret_val (congrArg (Value.int .i64) Hy.out), e3⟩
      · have hlI : ¬ (12 : Int) < (L.length : Int) := by omega
        have Hy := Lib.hid (show (0 : Int) = q by rw [Hq.out]; unfold lsE; rw [if_pos Hfb.out, if_neg hl0])
        clear hl0
        go_wp2_with fail
        go_ret
        exact ⟨ret_val (congrArg (Value.int .i64) Hy.out), e3⟩
def TlPost (w : World) (np : Nat) (M L : Mx) (e : Ending) (w' : World) : Prop :=
  Ext w w' ∧ ((lsE np L ≠ 0 ∧ e = .returned (.tuple #[.slice none 0 0, .int .i64 (lsE np L)])) ∨ (lsE np L = 0 ∧ allS M L = false ∧ e = .returned (.tuple #[.slice none 0 0, .int .i64 4])) ∨ (lsE np L = 0 ∧ allS M L = true ∧ ∃ v, e = .returned (.tuple #[v, .int .i64 0]) ∧ MatO w.heap.size w' v (L.map (tmpL M))))
theorem lsE_fb {n : Nat} {L : Mx} (h : lsE n L = 0) : fbE n L = 0 ∧ L.length ≤ 12 := by
  unfold lsE at h
  split at h
  · rename_i h1
    split at h
    · cases h
    · exact ⟨h1, by omega⟩
  · rename_i h1; exact absurd h h1
set_option maxRecDepth 100000 in
set_option maxHeartbeats 4000000 in
theorem gtempered_any {w : World} {P : List Int} {C M : Mx} {sp : Option Addr} {cp : Nat} {sc : Option Addr} {lc cc : Nat} {sm : Option Addr} {lm cm : Nat} {sl : Option Addr} {nl cl : Nat} {L : Mx} (h : TmV w P C M M sp cp sc lc cc sm lm cm) (hl : MatR w (.slice sl nl cl) L) (hL : Laid w) (hbig : L.length ≤ 1000000) :
    Calls Tryz.prog 53 #[tmS P sp cp sc lc cc sm lm cm, .slice sl nl cl] w (TlPost w P.length M L) := by
  have hls := Lib.hid (fun W (hW : Ext w W) => glisted_any (h.ext hW) (hl.ext hW) (hL.ext hW) hbig)
  have hX := (Ext.refl w).alloc (.cells #[.slice sp P.length cp, .slice sc lc cc, .slice sm lm cm] 34)
  have x0 : (w.alloc (.cells #[.slice sp P.length cp, .slice sc lc cc, .slice sm lm cm] 34)).cell? ⟨w.heap.size, 0, none⟩ = some (.slice sp P.length cp) := by go_simp
  have x1 : (w.alloc (.cells #[.slice sp P.length cp, .slice sc lc cc, .slice sm lm cm] 34)).cell? ⟨w.heap.size, 1, none⟩ = some (.slice sc lc cc) := by go_simp
  have x2 : (w.alloc (.cells #[.slice sp P.length cp, .slice sc lc cc, .slice sm lm cm] 34)).cell? ⟨w.heap.size, 2, none⟩ = some (.slice sm lm cm) := by go_simp
  have hsz0 : w.heap.size ≤ (w.alloc (.cells #[.slice sp P.length cp, .slice sc lc cc, .slice sm lm cm] 34)).heap.size := by simp
  have hte := Lib.hid (fun W s c x (hW : Ext w W) (hx : RowR W (.slice s (List.length x) c) x) => Temper_any (h.ext hW) hx (hL.ext hW))
  obtain ⟨sl', gl, ol, cl', vs, el, hlc, hvl, hSl, hrl⟩ := hl
  injection el with q4 q5 q6
  subst q4 q6
  rw [q5] at hls ⊢
  have HS := Lib.hid hSl
  have HV := Lib.hid hvl
  have HR := Lib.hid hrl
  clear h hL q5 hSl hvl hrl
  by_cases h0 : lsE P.length L = 0
  · rw [h0] at hls
    have Hls := Lib.hid h0
    have Hfb := Lib.hid (lsE_fb h0)
    clear h0
    go_enter Tryz.func53, Tryz.ntmps53
    go_wp2_with fail
    refine (hls.out _ hX).mono ?_
    rintro e X ⟨rfl, hE1⟩
    have y0 := hE1.cell x0
    have y1 := hE1.cell x1
    have y2 := hE1.cell x2
    have e1 := hX.trans hE1
    clear hls hE1 x0 x1 x2
    go_wp2_with fail
    go_loopw [7, 20] (fun out idx wr => ∃ i : Nat, i ≤ L.length ∧ idx = .int .i64 i ∧ Hid (MatO X.heap.size wr out ((L.take i).map (tmpL M))) ∧ Hid (∀ j (h : j < L.length), j < i → smallB (tmpL M L[j]) = true) ∧ Ext X wr) (fun _ idx _ => L.length - (intOf idx).toNat)
    case atStart => exact ⟨0, by omega, by go_num, Lib.hid (MatO.nil _ _), Lib.hid (fun j _ h => by omega), Ext.refl _⟩
    case round =>
      obtain ⟨i, hi', rfl, HM, HK, hE2⟩ := hrel
      generalize wr = Z at *
      have w0 := hE2.cell y0
      have w1 := hE2.cell y1
      have w2 := hE2.cell y2
      by_cases hlt : i < L.length
      · have hii : (i : Int) < (L.length : Int) := by omega
        obtain rfl := HS.out.addr (by rw [HV.out]; omega)
        obtain ⟨sr, br, or, cr, hrow, hrc, hSr⟩ := MatR.row HS.out HV.out HR.out hlt
        have eZ := e1.trans hE2
        have hrZ := eZ.cell hrow
        have hsr := Lib.hid (hte.out Z sr cr L[i] eZ ⟨_, _, _, _, rfl, hrc, hSr.ext eZ⟩)
        have Hbz := Lib.hid (fbE_zero Hfb.out.1 i hlt)
        have Hil := Lib.hid (show ((L.take i).map (tmpL M)).length = i by simp; omega)
        have Hsn := Lib.hid (show (L.take (i + 1)).map (tmpL M) = (L.take i).map (tmpL M) ++ [tmpL M L[i]] by rw [List.take_succ_eq_append_getElem hlt, List.map_append]; rfl)
        have hZs := hE2.size
        generalize hnr : L[i].length = nr at *
        cases hsm : smallB (tmpL M L[i])
        · have Hno := Lib.hid (allS_no hlt hsm)
          clear hnr
          go_wp2_with fail
          refine hsr.out.mono ?_
          rintro e W ⟨hE4, (⟨k1, k2, _⟩ | ⟨k1, k2, rfl⟩ | ⟨k1, rfl⟩)⟩
          · rw [hsm] at k2; cases k2
          · have e5 := eZ.trans hE4
            have Hres := Lib.hid (show ∀ W, Ext w W → TlPost w P.length M L (.returned (.tuple #[.slice none 0 0, .int .i64 4])) W from fun W hW => ⟨hW, .inr (.inl ⟨Hls.out, Hno.out, rfl⟩)⟩)
            clear k1 k2 hsm
            go_wp2_with fail
            go_ret2
            exact Hres.out _ e5
          · exact absurd Hbz.out k1
        · have Hsm := Lib.hid hsm
          clear hnr hsm
          go_wp2_with fail
          refine hsr.out.mono ?_
          rintro e W ⟨hE4, (⟨k1, k2, v, rfl, hv⟩ | ⟨k1, k2, rfl⟩ | ⟨k1, rfl⟩)⟩
          · obtain ⟨va, vl, vc, rfl⟩ := RowV.slice hv
            have Hv := Lib.hid (hv.mono hZs)
            have HMW := Lib.hid (HM.out.ext hE4)
            have hEW := hE2.trans hE4
            have hWs := hEW.size
            clear hv k1 k2
            go_wp2_with (at_builtin; refine app_mat rfl _ _ rfl (B := X.heap.size) rfl (HMW.out.ext ((Ext.refl _).alloc _)) rfl (b := W.heap.size) (rv := .slice va vl vc) (r := tmpL M L[i]) (by go_simp) (Hv.out.ext ((Ext.refl _).alloc _)) (by rw [Hil.out]; omega) (by simp; omega) ?_; intro gg cap2 w8 hO8 hB8 hG8; rw [Hil.out, ← Hsn.out] at hO8; rw [Hil.out])
            have hE8 : Ext X w8 := Below.trans (hEW.alloc _) hB8
            have HO8 := Lib.hid hO8
            clear hG8 hB8 hO8
            go_wp2_with fail
            go_roundw
            case rel => exact ⟨i + 1, by omega, by go_num, HO8, Lib.hid (fun j h hj => by
              by_cases e : j = i
              · subst e; exact Hsm.out
              · exact HK.out j h (by omega)), hE8⟩
            case measure => simp [intOf] <;> omega
          · rw [Hsm.out] at k2; cases k2
          · exact absurd Hbz.out k1
      · obtain rfl : i = L.length := by omega
        have Hall := Lib.hid (allS_yes (M := M) (L := L) fun j h => HK.out j h h)
        have eF := e1.trans hE2
        have HF := Lib.hid (show MatO X.heap.size Z u7 (L.map (tmpL M)) by have := HM.out; rw [List.take_length] at this; exact this)
        have hs2 := e1.size
        clear HK
        go_wp2_with fail
        go_ret2
        exact ⟨eF, .inr (.inr ⟨Hls.out, Hall.out, _, rfl, HF.out.mono hs2⟩)⟩
  · obtain ⟨y, hy⟩ : ∃ y, y = lsE P.length L := ⟨_, rfl⟩
    have Hres := Lib.hid (show ∀ W, Ext w W → TlPost w P.length M L (.returned (.tuple #[.slice none 0 0, .int .i64 y])) W from fun W hW => ⟨hW, .inl ⟨h0, by rw [hy]⟩⟩)
    rw [← hy] at hls h0
    have h2 : (y == 0) = false := beq_eq_false_iff_ne.2 h0
    have h3 : (y != 0) = true := by simp [bne, h2]
    clear hy h0 hte
    go_enter Tryz.func53, Tryz.ntmps53
    go_wp2_with fail
    refine (hls.out _ hX).mono ?_
    rintro e X ⟨rfl, hE1⟩
    have e1 := hX.trans hE1
    go_wp2_with fail
    go_ret2
    exact Hres.out _ e1
end Go.Proofs.YtkjnjmihfonilaaGreatDoor
namespace Go.Proofs.YtkjnjmihfonilaaGreatDoor
open Go.RowKit Go.Sort
set_option maxRecDepth 100000 in
set_option maxHeartbeats 4000000 in
theorem gExpress_u {w : World} {P : List Int} {C M : Mx} {sp : Option Addr} {cp : Nat} {sc : Option Addr} {lc cc : Nat} {sm : Option Addr} {lm cm : Nat} {sl : Option Addr} {nl cl : Nat} {L : Mx} {sx : Option Addr} {n cx : Nat} {x : List Int} {R : Value → Bool → Int → World → Prop} (h : TmV w P C M M sp cp sc lc cc sm lm cm) (hl : MatR w (.slice sl nl cl) L) (hx : RowR w (.slice sx n cx) x) (hL : Laid w)
    (hls0 : lsE P.length L = 0) (hb : bgE M.length x = 0) (ha : allS M L = true) (hbig : L.length ≤ 1000000)
    (hso : ∀ W v, Ext w W → MatR W v (L.map (tmpL M)) → Calls Tryz.prog 64 #[v, .slice sx n cx] W fun e w' => (∃ a f c, e = .returned (.tuple #[a, .bool f, .int .i64 c]) ∧ R a f c w') ∧ Ext W w') :
    Calls Tryz.prog 32 #[tmS P sp cp sc lc cc sm lm cm, .slice sl nl cl, .slice sx n cx] w fun e w' => (∃ a f c, e = .returned (.tuple #[a, .bool f, .int .i64 c]) ∧ R a f c w') ∧ Ext w w' := by
  have hls := Lib.hid (fun W (hW : Ext w W) => glisted_any (h.ext hW) (hl.ext hW) (hL.ext hW) hbig)
  rw [hls0] at hls
  have hml : lm = M.length := by obtain ⟨_, _, _, _, _, e, _⟩ := h.hM; injection e
  have hsz := Lib.hid (fun W (hW : Ext w W) => gsized_any (m := M.length) (hx.ext hW))
  rw [hb, ← hml] at hsz
  have htm := Lib.hid (fun W (hW : Ext w W) => gtempered_any (h.ext hW) (hl.ext hW) (hL.ext hW) hbig)
  have Hso := Lib.hid hso
  have Ha := Lib.hid ha
  have Hl0 := Lib.hid hls0
  have hX := (Ext.refl w).alloc (.cells #[.slice sp P.length cp, .slice sc lc cc, .slice sm lm cm] 34)
  have x0 : (w.alloc (.cells #[.slice sp P.length cp, .slice sc lc cc, .slice sm lm cm] 34)).cell? ⟨w.heap.size, 0, none⟩ = some (.slice sp P.length cp) := by go_simp
  have x1 : (w.alloc (.cells #[.slice sp P.length cp, .slice sc lc cc, .slice sm lm cm] 34)).cell? ⟨w.heap.size, 1, none⟩ = some (.slice sc lc cc) := by go_simp
  have x2 : (w.alloc (.cells #[.slice sp P.length cp, .slice sc lc cc, .slice sm lm cm] 34)).cell? ⟨w.heap.size, 2, none⟩ = some (.slice sm lm cm) := by go_simp
  clear h hl hx hL hls0 hb ha hso hml
  go_enter Tryz.func32, Tryz.ntmps32
  go_wp2_with fail
  refine (hls.out _ hX).mono ?_
  rintro e X ⟨rfl, hE1⟩
  have y0 := hE1.cell x0
  have y1 := hE1.cell x1
  have y2 := hE1.cell x2
  have e1 := hX.trans hE1
  clear hls hE1 x0 x1 x2
  go_wp2_with fail
  refine (hsz.out _ e1).mono ?_
  rintro e X2 ⟨rfl, hE2⟩
  have z0 := hE2.cell y0
  have z1 := hE2.cell y1
  have z2 := hE2.cell y2
  have e2 := e1.trans hE2
  clear hsz hE2 y0 y1 y2
  go_wp2_with fail
  refine (htm.out _ e2).mono ?_
  rintro e X3 ⟨hE3, (⟨k1, _⟩ | ⟨_, k1, _⟩ | ⟨_, _, v, rfl, hv⟩)⟩
  · exact absurd Hl0.out k1
  · rw [Ha.out] at k1; cases k1
  · have e3 := e2.trans hE3
    have hsv := Lib.hid (Hso.out _ _ e3 hv.mat)
    obtain ⟨va, vl, vc, rfl⟩ := hv.slice
    clear Hso hv htm hE3
    go_wp2_with fail
    refine hsv.out.mono ?_
    rintro e X4 ⟨⟨a, f, c, rfl, hR⟩, hE4⟩
    have Hp := Lib.hid (show (fun (e : Ending) (w' : World) => (∃ a f c, e = .returned (.tuple #[a, .bool f, .int .i64 c]) ∧ R a f c w') ∧ Ext w w') (.returned (.tuple #[a, .bool f, .int .i64 c])) X4 from ⟨⟨a, f, c, rfl, hR⟩, e3.trans hE4⟩)
    clear hR
    go_wp2_with fail
    go_ret3
    exact Hp.out
end Go.Proofs.YtkjnjmihfonilaaGreatDoor
namespace Go.Proofs.YtkjnjmihfonilaaGreatDoor
open Go.RowKit Go.Sort
theorem and1k {q : Nat} (h : q < 1024) : bits .and .i64 (q : Int) 1 = ((q % 2 : Nat) : Int) := by
  have : ∀ q : Fin 1024, bits .and .i64 ((q.val : Nat) : Int) 1 = ((q.val % 2 : Nat) : Int) := by decide +kernel
  exact this ⟨q, h⟩
def btP (p : Nat) : Nat := if p < 4 then 1 else if p < 8 then 2 else 3
set_option maxRecDepth 100000 in
theorem len64_ok {w : World} {p : Nat} (hp : SmP (p : Int)) : Calls Tryz.prog 159 #[.int .u64 p] w fun e w' => e = .returned (.int .i64 (btP p + 1 : Nat)) ∧ Ext w w' := by
  unfold SmP at hp
  rcases (show p = 2 ∨ p = 3 ∨ p = 5 ∨ p = 7 ∨ p = 11 ∨ p = 13 by omega) with rfl | rfl | rfl | rfl | rfl | rfl
  all_goals
    go_enter Tryz.func159, Tryz.ntmps159
    go_wp2_with fail
    go_ret
    exact ⟨ret_val (congrArg (Value.int .i64) (by decide +kernel)), Ext.refl _⟩
set_option maxRecDepth 100000 in
theorem bits_ok {w : World} {p : Nat} (hp : SmP (p : Int)) : Calls Tryz.prog 124 #[D p] w fun e w' => e = .returned (.int .i64 (btP p + 1 : Nat)) ∧ Ext w w' := by
  have h1 := Lib.hid (dSmall_ok (u := p) (by unfold SmP at hp; omega) w)
  have h2 := Lib.hid (fun W => len64_ok (w := W) hp)
  generalize btP p + 1 = k at *
  clear hp
  go_enter Tryz.func124, Tryz.ntmps124
  go_wp2_with fail
  refine h1.out.mono ?_
  rintro e W ⟨rfl, hE1⟩
  go_wp2_with fail
  refine (h2.out _).mono ?_
  rintro e W2 ⟨rfl, hE2⟩
  go_wp2_with fail
  go_ret
  exact ⟨rfl, hE1.trans hE2⟩
theorem pow_nd {p n : Nat} (hp : p < 16) (hn : n ≤ 1000) : Lib.nDigits (p ^ n) ≤ 4002 := by
  have h1 : p ^ n ≤ 16 ^ n := Nat.pow_le_pow_left (Nat.le_of_lt hp) n
  have h2 : (16 : Nat) ^ n = 2 ^ (4 * n) := by rw [Nat.pow_mul]
  have h3 : 2 ^ (4 * n) < 2 ^ (4 * n + 1) := Nat.pow_lt_pow_right (by omega) (by omega)
  have h4 := nd_lt2 (z := (p ^ n : Nat)) (E := 4 * n + 1) (by rw [Int.natAbs_natCast]; omega)
  unfold nd at h4
  rw [Int.natAbs_natCast] at h4
  omega
theorem ResU.mono' {B B' : Nat} {w : World} {v : Value} {u : Nat} (h : ResU B' w v u) (hB : B ≤ B') : ResU B w v u := by
  obtain ⟨g, cap, h1, h2⟩ := h
  exact ⟨g, cap, h1, h2.mono hB⟩
theorem pow_half {b m : Nat} : (b * b) ^ (m / 2) * b ^ (m % 2) = b ^ m := by
  rw [← Nat.pow_two, ← Nat.pow_mul, ← Nat.pow_add, Nat.div_add_mod]
set_option maxRecDepth 100000 in
set_option maxHeartbeats 4000000 in
theorem power_ok {w : World} {p n : Nat} (hp : SmP (p : Int)) (hn : n ≤ 1000) :
    Calls Tryz.prog 79 #[D p, .int .i64 n] w fun e w' => e = .returned (.tuple #[D (p ^ n), .int .i64 0]) ∧ Ext w w' := by
  have hp2 : 2 ≤ p ∧ p < 16 := by unfold SmP at hp; omega
  have d0 : (Lib.decDigits p == [48]) = false := by rw [dec_eq_zero, decide_eq_false (by omega)]
  have d1 : (Lib.decDigits p == [49]) = false := by
    rw [beq_eq_false_iff_ne]
    intro h
    have h1 : Lib.decDigits 1 = [49] := by decide +kernel
    have := dec_inj (h.trans h1.symm)
    omega
  by_cases hn0 : n = 0
  · subst hn0
    have hr : D (p ^ 0) = .string ⟨#[49]⟩ := by
      rw [Nat.pow_zero]
      have h1 : Lib.decDigits 1 = [49] := by decide +kernel
      unfold D S; rw [h1]
    rw [hr]
    clear hp hp2 hr hn
    go_enter Tryz.func79, Tryz.ntmps79
    go_wp2_with fail
    go_ret2
    exact ⟨rfl, Ext.refl _⟩
  · have hb := Lib.hid (fun W => bits_ok (w := W) hp)
    have hnd := pow_nd hp2.2 hn
    obtain ⟨k, hk⟩ : ∃ k : Nat, k = btP p := ⟨_, rfl⟩
    have hk13 : 1 ≤ k ∧ k ≤ 3 := by
      rw [hk]; unfold btP
      split
      · omega
      · split <;> omega
    rw [← hk] at hb
    have hkn : ¬ (k : Int) = 0 := by omega
    have hkb : ((k : Int) == 0) = false := beq_eq_false_iff_ne.2 hkn
    obtain ⟨q, hq⟩ : ∃ q : Int, q = (66439 : Int).tdiv k := ⟨_, rfl⟩
    have hq2 : 22146 ≤ q ∧ q ≤ 66439 := by
      rcases (show k = 1 ∨ k = 2 ∨ k = 3 by omega) with h | h | h <;> subst h <;> subst hq <;> decide
    have hqe : (66439 : Int).tdiv (k : Int) = q := hq.symm
    have hqw : IntKind.i64.wrap q = q := IntWalk.i64_in _ (by omega)
    have hqn : ¬ (n : Int) > q := by omega
    have hcu := Lib.hid (fun W => cut_any (u := p) (by
      have := nDigits_le (u := p) (k := 2) (by omega) (by omega)
      unfold LIM; omega) W)
    obtain ⟨N, hN⟩ : ∃ N, N = p ^ n := ⟨_, rfl⟩
    have hpN : p ≤ N := by rw [hN]; exact Nat.le_self_pow hn0 p
    have hN1 : 1 ≤ N := by omega
    rw [← hN] at hnd ⊢
    have hlenN : ∀ a, a ≤ N → (pc a).length ≤ 4002 := fun a ha => Nat.le_trans (pc_length_nd a) (Nat.le_trans (nDigits_mono ha) hnd)
    have HlenN := Lib.hid hlenN
    have Hnd := Lib.hid hnd
    have H0 := Lib.hid (show 1 ≤ N ∧ p ≤ N ∧ 1 * p ^ n = N ∧ 1 ≤ p from ⟨hN1, hpN, by rw [hN, Nat.one_mul], by omega⟩)
    have hnz : ¬ (n : Int) = 0 := by omega
    have hnz2 : ((n : Int) == 0) = false := beq_eq_false_iff_ne.2 hnz
    have hnlt : ¬ (n : Int) < 0 := by omega
    clear hp hp2 hk hq hN hpN hN1 hnd hlenN
    go_enter Tryz.func79, Tryz.ntmps79
    go_wp2_with fail
    refine (hb.out _).mono ?_
    rintro e X ⟨rfl, hE1⟩
    clear hb
    go_wp2_with fail
    refine (hcu.out _).mono ?_
    rintro e X2 ⟨v2, rfl, ⟨g2, c2, rfl, hO2⟩, hE2⟩
    have hEa := (Ext.refl X).alloc (.cells #[.int .u64 1] 126)
    have hO1 : OwnU X.heap.size (X.alloc (.cells #[.int .u64 1] 126)) X.heap.size 1 [1] := by
      unfold OwnU
      exact OwnV.of (Nat.le_refl _) Array.getElem?_push_size (by simp) (by unfold maxLen; omega) rfl rfl
    have hO1' := hO1.ext hE2
    have hR1 : ResU w.heap.size X2 (.slice (some ⟨X.heap.size, 0, none⟩) 1 1) 1 := by
      have hpc : pc 1 = [1] := by decide +kernel
      refine ⟨X.heap.size, 1, by rw [hpc]; rfl, ?_⟩
      rw [hpc]; exact OwnU.mono hO1' hE1.size
    have hs1 : w.heap.size ≤ (X.alloc (.cells #[.int .u64 1] 126)).heap.size := by have := hE1.size; simp; omega
    have hR2 : ResU w.heap.size X2 (slv g2 (pc p).length c2) p := ⟨_, _, rfl, OwnU.mono hO2 hs1⟩
    have HR1 := Lib.hid hR1
    have HR2 := Lib.hid hR2
    have e2 := (hE1.alloc (.cells #[.int .u64 1] 126)).trans hE2
    clear hcu hO1 hO1' hR1 hR2 hO2 hE1 hE2 hEa hs1 hqe hqw hqn hkn hkb hq2 hk13 d0 d1
    generalize hx1 : (Value.slice (some ⟨X.heap.size, 0, none⟩) 1 1) = x1 at *
    generalize hx2 : slv g2 (pc p).length c2 = x2 at *
    clear hx1 hx2
    go_wp2_with fail
    go_loopw [1, 7, 8] (fun mv ov pv wr => ∃ (m a b : Nat), m ≤ n ∧ mv = .int .i64 m ∧ Hid (ResU w.heap.size wr ov a) ∧ Hid (ResU w.heap.size wr pv b) ∧ Hid (a ≤ N ∧ b ≤ N ∧ a * b ^ m = N ∧ 1 ≤ b) ∧ Ext w wr) (fun mv _ _ _ => (intOf mv).toNat)
    case atStart => exact ⟨n, 1, p, by omega, by go_num, HR1, HR2, H0, e2⟩
    case round =>
      clear HR1 HR2 H0 hnz hnz2 hnlt
      obtain ⟨m, a, b, hm, rfl, HA, HB, HK, hE⟩ := hrel
      generalize wr = Y at *
      by_cases hm0 : 0 < m
      · have hmI : (0 : Int) < (m : Int) := by omega
        have han := and1k (q := m) (by omega)
        have hshr : (m : Int) / 2 = ((m / 2 : Nat) : Int) := by simp
        obtain ⟨ga, ca, rfl, hOa⟩ := HA.out
        obtain ⟨gb, cb, rfl, hOb⟩ := HB.out
        have la := HlenN.out a HK.out.1
        have lb := HlenN.out b HK.out.2.1
        have ht1 := fun W (hW : Ext Y W) => times_any (c1 := ca) (c2 := cb) (hOa.ext hW).sl (hOb.ext hW).sl (pc_small a) (pc_small b) (by unfold LIM; omega) (by unfold LIM; omega)
        have ht2 := fun W (hW : Ext Y W) => times_any (c1 := cb) (c2 := cb) (hOb.ext hW).sl (hOb.ext hW).sl (pc_small b) (pc_small b) (by unfold LIM; omega) (by unfold LIM; omega)
        rw [vP_pc, vP_pc] at ht1
        rw [vP_pc] at ht2
        have Ht1 := Lib.hid ht1
        have Ht2 := Lib.hid ht2
        have hYs := hE.size
        have Hshr := Lib.hid hshr
        obtain ⟨hf, hff⟩ : ∃ hf, hf = m / 2 := ⟨_, rfl⟩
        rw [← hff] at hshr Hshr
        have hfm : hf < m := by omega
        have hfn : hf ≤ n := by omega
        clear ht1 ht2
        have hbm : b ≤ b ^ m := Nat.le_self_pow (by omega) b
        by_cases hbit : m % 2 = 1
        · rw [hbit] at han
          have han2 : bits .and .i64 (m : Int) 1 = 1 := han
          by_cases hm1 : 1 < m
          · have hmI1 : (1 : Int) < (m : Int) := by omega
            have HK2 := Lib.hid (show a * b ≤ N ∧ b * b ≤ N ∧ a * b * (b * b) ^ hf = N ∧ 1 ≤ b * b by
              obtain ⟨k1, k2, k3, k4⟩ := HK.out
              have h5 := pow_half (b := b) (m := m)
              rw [← hff, hbit, Nat.pow_one] at h5
              have h6 : a * b * (b * b) ^ hf = N := by rw [← k3, ← h5, Nat.mul_assoc, Nat.mul_comm b]
              have h7 : 1 ≤ (b * b) ^ hf := Nat.pow_pos (Nat.mul_pos k4 k4)
              have h8 : b * b ≤ (b * b) ^ hf := Nat.le_self_pow (by omega) _
              have h9 : 1 ≤ a := by
                rcases Nat.eq_zero_or_pos a with h | h
                · subst h; simp at k3; omega
                · exact h
              have h10 : 1 ≤ a * b := Nat.mul_pos h9 k4
              exact ⟨by rw [← h6]; exact Nat.le_mul_of_pos_right _ h7, by rw [← h6]; exact Nat.le_trans h8 (Nat.le_mul_of_pos_left _ h10), h6, Nat.mul_pos k4 k4⟩)
            clear han hbit hff hbm la lb HK
            go_wp2_with fail
            refine (Ht1.out _ (Ext.refl _)).mono ?_
            rintro e Z ⟨z1, rfl, hr1, hF1⟩
            go_wp2_with fail
            refine (Ht2.out _ hF1).mono ?_
            rintro e Z2 ⟨z2, rfl, hr2, hF2⟩
            have Hr1 := Lib.hid ((hr1.ext hF2).mono' hYs)
            have Hr2 := Lib.hid (hr2.mono' (Nat.le_trans hYs hF1.size))
            have eZ := (hE.trans hF1).trans hF2
            clear hr1 hr2 hF1 hF2 Ht1 Ht2 hOa hOb
            go_wp2_with fail
            go_roundw
            case rel => exact ⟨hf, a * b, b * b, hfn, rfl, Hr1, Hr2, HK2, eZ⟩
            case measure => simp [intOf] <;> omega
          · have hmI1 : ¬ (1 : Int) < (m : Int) := by omega
            have hf0 : hf = 0 := by omega
            have HK2 := Lib.hid (show a * b ≤ N ∧ b ≤ N ∧ a * b * b ^ hf = N ∧ 1 ≤ b by
              obtain ⟨k1, k2, k3, k4⟩ := HK.out
              have : m = 1 := by omega
              subst this
              rw [Nat.pow_one] at k3
              rw [hf0, Nat.pow_zero, Nat.mul_one, k3]
              exact ⟨Nat.le_refl _, k2, rfl, k4⟩)
            clear han hbit hff hbm la lb HK hf0 Ht2
            go_wp2_with fail
            refine (Ht1.out _ (Ext.refl _)).mono ?_
            rintro e Z ⟨z1, rfl, hr1, hF1⟩
            have Hr1 := Lib.hid (hr1.mono' hYs)
            have Hr2 := Lib.hid (show ResU w.heap.size Z (slv gb (pc b).length cb) b from HB.out.ext hF1)
            have eZ := hE.trans hF1
            clear hr1 hF1 Ht1 hOa hOb
            go_wp2_with fail
            go_roundw
            case rel => exact ⟨hf, a * b, b, hfn, rfl, Hr1, Hr2, HK2, eZ⟩
            case measure => simp [intOf] <;> omega
        · have hb0 : m % 2 = 0 := by omega
          rw [hb0] at han
          have han2 : bits .and .i64 (m : Int) 1 = 0 := han
          have hm1 : 1 < m := by omega
          have hmI1 : (1 : Int) < (m : Int) := by omega
          have HK2 := Lib.hid (show a ≤ N ∧ b * b ≤ N ∧ a * (b * b) ^ hf = N ∧ 1 ≤ b * b by
            obtain ⟨k1, k2, k3, k4⟩ := HK.out
            have h5 := pow_half (b := b) (m := m)
            rw [← hff, hb0, Nat.pow_zero, Nat.mul_one] at h5
            have h6 : a * (b * b) ^ hf = N := by rw [← k3, ← h5]
            have h8 : b * b ≤ (b * b) ^ hf := Nat.le_self_pow (by omega) _
            have h9 : 1 ≤ a := by
              rcases Nat.eq_zero_or_pos a with h | h
              · subst h; simp at k3; omega
              · exact h
            exact ⟨k1, by rw [← h6]; exact Nat.le_trans h8 (Nat.le_mul_of_pos_left _ h9), h6, Nat.mul_pos k4 k4⟩)
          clear han hbit hb0 hff hbm la lb HK Ht1
          go_wp2_with fail
          refine (Ht2.out _ (Ext.refl _)).mono ?_
          rintro e Z2 ⟨z2, rfl, hr2, hF2⟩
          have Hr1 := Lib.hid (show ResU w.heap.size Z2 (slv ga (pc a).length ca) a from HA.out.ext hF2)
          have Hr2 := Lib.hid (hr2.mono' hYs)
          have eZ := hE.trans hF2
          clear hr2 hF2 Ht2 hOa hOb
          go_wp2_with fail
          go_roundw
          case rel => exact ⟨hf, a, b * b, hfn, rfl, Hr1, Hr2, HK2, eZ⟩
          case measure => simp [intOf] <;> omega
      · obtain rfl : m = 0 := by omega
        obtain ⟨ga, ca, rfl, hOa⟩ := HA.out
        have haN : a = N := by have := HK.out.2.2.1; simpa using this
        subst haN
        have htx := Lib.hid (textR hOa (by have := HlenN.out a (Nat.le_refl _); unfold LIM; omega))
        have hdl : ¬ ((Lib.decDigits a).length : Int) > 20000 := by rw [Lib.decDigits_length]; have := Hnd.out; omega
        have hdl2 : ¬ (20000 : Int) < ((Lib.decDigits a).length : Int) := by omega
        clear HK HB HA hOa hm0
        go_wp2_with fail
        refine htx.out.mono ?_
        rintro e Z ⟨rfl, hF⟩
        go_wp2_with fail
        go_ret2
        exact ⟨rfl, hE.trans hF⟩
end Go.Proofs.YtkjnjmihfonilaaGreatDoor
