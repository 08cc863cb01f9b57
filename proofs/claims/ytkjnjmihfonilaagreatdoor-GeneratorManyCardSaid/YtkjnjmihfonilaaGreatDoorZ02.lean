/- Part 2, beside the shared parts, of the proof of the claim: contracts and plain laws; no condition. -/
import Derived.Test.YtkjnjmihfonilaaGreatDoorV01
import Derived.Test.YtkjnjmihfonilaaGreatDoorV02
import Derived.Test.YtkjnjmihfonilaaGreatDoorV03
import Derived.Test.YtkjnjmihfonilaaGreatDoorV04
import Derived.Test.YtkjnjmihfonilaaGreatDoorV05
import Derived.Test.YtkjnjmihfonilaaGreatDoorV06
import Derived.Test.YtkjnjmihfonilaaGreatDoorV07
import Derived.Test.YtkjnjmihfonilaaGreatDoorV08
import Derived.Test.YtkjnjmihfonilaaGreatDoorV09
import Derived.Test.YtkjnjmihfonilaaGreatDoorV10
import Derived.Test.YtkjnjmihfonilaaGreatDoorV11
import Derived.Test.YtkjnjmihfonilaaGreatDoorV12
import Derived.Test.YtkjnjmihfonilaaGreatDoorV13
import Derived.Test.YtkjnjmihfonilaaGreatDoorV14
import Derived.Test.YtkjnjmihfonilaaGreatDoorV15
import Derived.Test.YtkjnjmihfonilaaGreatDoorV16
import Derived.Test.YtkjnjmihfonilaaGreatDoorV17
import Derived.Test.YtkjnjmihfonilaaGreatDoorV18
import Derived.Test.YtkjnjmihfonilaaGreatDoorV19
import Derived.Test.YtkjnjmihfonilaaGreatDoorV20
import Derived.Test.YtkjnjmihfonilaaGreatDoorV21
import Derived.Test.YtkjnjmihfonilaaGreatDoorV22
import Derived.Test.YtkjnjmihfonilaaGreatDoorV23
import Derived.Test.YtkjnjmihfonilaaGreatDoorV24
import Derived.Test.YtkjnjmihfonilaaGreatDoorV25
import Derived.Test.YtkjnjmihfonilaaGreatDoorV26
import Derived.Test.YtkjnjmihfonilaaGreatDoorV27
import Derived.Test.YtkjnjmihfonilaaGreatDoorV28
import Derived.Test.YtkjnjmihfonilaaGreatDoorV29
import Derived.Test.YtkjnjmihfonilaaGreatDoorV30
import Derived.Test.YtkjnjmihfonilaaGreatDoorZ01
import Derived.BigRegion
import Derived.Deep.CutRange
import Derived.BigQuiet
namespace Go.Proofs.YtkjnjmihfonilaaGreatDoor
open Go.RowKit Go.Sort
@[simp] theorem swapL_length (i j : Nat) (l : List Int) : (swapL i j l).length = l.length := by simp [swapL]
theorem colSwap_map (i j : Nat) (A : Mx) : colSwap i j A = A.map (swapL i j) := rfl
theorem rowSwap_sw2 (i j : Nat) (A : Mx) : rowSwap i j A = sw2 A [] i j := rfl
set_option maxRecDepth 100000 in
set_option maxHeartbeats 4000000 in
theorem swap_w {w0 w : World} {n c : Nat} {x : Wa} {aa al ar : List (Nat × Nat)} {s : Dg} {t row k : Nat} (h : WkR w0.heap.size w n c x aa al ar s) (hn : 0 < n) (hc : 0 < c) (ht : t < n) (htc : t < c) (hrow : row < n) (hk : k < c) (hn2 : n ≤ 1000000) (hc2 : c ≤ 1000000) (hE0 : Ext w0 w) :
    Calls Tryz.prog 175 #[.pointer (some ⟨x.p, 0, none⟩), .int .i64 t, .int .i64 row, .int .i64 k] w fun e w' =>
      e = .returned (.tuple #[]) ∧ WkR w0.heap.size w' n c x (sw2 aa (0, 0) t row) (sw2 al (0, 0) t row) ar (swapD t row k s) ∧ Ext w0 w' := by
  obtain ⟨p, ga, ca, gl, cl, gr, cr⟩ := x
  obtain ⟨hcap1, hcap2⟩ : n ≤ ca ∧ n ≤ cl := by
    have h1 := h.a.outer.cap
    have h2 := h.l.outer.cap
    rw [hdV_length _ _ h.a.len, h.la] at h1
    rw [hdV_length _ _ h.l.len, h.ll] at h2
    exact ⟨h1, h2⟩
  have HW := Lib.hid h
  have htI : (t : Int) < (n : Int) := by omega
  have htcI : (t : Int) < (c : Int) := by omega
  have hrI : (row : Int) < (n : Int) := by omega
  have hkI : (k : Int) < (c : Int) := by omega
  obtain ⟨f, hf⟩ : ∃ f, f = swapL t k := ⟨_, rfl⟩
  have Hf := Lib.hid hf
  have Hfl := Lib.hid (show ∀ l, (f l).length = l.length from fun l => by rw [hf]; exact swapL_length _ _ _)
  have hsD : swapD t row k s = ⟨(sw2 s.a [] t row).map f, sw2 s.l [] t row, s.r.map f⟩ := by rw [hf]; rfl
  obtain ⟨s2, hs2⟩ : ∃ s2 : Dg, s2 = ⟨sw2 s.a [] t row, sw2 s.l [] t row, s.r⟩ := ⟨_, rfl⟩
  have Hs2 := Lib.hid hs2
  rw [hsD, show (⟨(sw2 s.a [] t row).map f, sw2 s.l [] t row, s.r.map f⟩ : Dg) = ⟨s2.a.map f, s2.l, s2.r.map f⟩ by rw [hs2]]
  obtain ⟨aa2, haa2⟩ : ∃ aa2, aa2 = sw2 aa (0, 0) t row := ⟨_, rfl⟩
  obtain ⟨al2, hal2⟩ : ∃ al2, al2 = sw2 al (0, 0) t row := ⟨_, rfl⟩
  rw [← haa2, ← hal2]
  have Haa2 := Lib.hid haa2
  have Hal2 := Lib.hid hal2
  have hcA := h.c0
  have hcL := h.c1
  have hcR := h.c2
  simp only at hcA hcL hcR
  obtain ⟨gta, cta, eata, _, hta, _, _, _⟩ := HW.out.a.atM HW.out.ra hc (by rw [HW.out.la]; exact ht : t < _)
  obtain ⟨gia, cia, eaia, _, hia, _, _, _⟩ := HW.out.a.atM HW.out.ra hc (by rw [HW.out.la]; exact hrow : row < _)
  have hSa := HW.out.swapA hc ht hrow eata eaia
  simp only at hSa
  have fa := fun o => h.a.outer.frozen o
  simp only at fa
  have hpg := h.po
  simp only at hpg
  have hoo := h.oo
  simp only at hoo
  have hgB := h.a.outer.lt.1
  simp only at hgB
  have HSa := Lib.hid hSa
  have Hfz := Lib.hid fa
  have fa1 := fa t
  have fa2 := fa row
  have q1 : ¬ p = ga := hpg.1
  have q2 : ¬ ga = p := Ne.symm hpg.1
  clear h hsD hf hSa fa eata eaia hs2 haa2 hal2
  go_enter Tryz.func175, Tryz.ntmps175
  go_upto_region 0 with fail
  go_cut [] from 12 to 38 (fun wx => Hid (WkR w0.heap.size wx n c ⟨p, ga, ca, gl, cl, gr, cr⟩ aa2 al ar { s with a := sw2 s.a [] t row }) ∧ Ext w0 wx)
  case first =>
    rcases Decidable.em (row = t) with hrt | hrt
    · have ea : slv gia c cia = slv gta c cta := by rw [hrt, hta] at hia; exact (Option.some.inj hia).symm
      have HS1 := HSa.out
      rw [ea, ← Haa2.out, hrt] at HS1
      have HS1' := Lib.hid HS1
      have hg : slv gia c cia = slv gta c cta := ea
      clear hia hrI hrow fa2 HSa HS1 ea hg Haa2 Hal2 Hs2 HW
      subst hrt
      go_region
      (try go_wp2_with fail)
      go_meet
      exact ⟨Lib.hid (HS1'.out.1.ext ((Ext.refl _).drew)), (ext_trans_grown hE0 HS1'.out.2 hgB).drew⟩
    · have hrt2 : ¬ t = row := Ne.symm hrt
      have HS1 := HSa.out
      rw [← Haa2.out] at HS1
      have HS1' := Lib.hid HS1
      clear HSa HS1 Haa2 Hal2 Hs2 HW
      go_region
      (try go_wp2_with fail)
      go_meet
      exact ⟨Lib.hid (HS1'.out.1.ext ((Ext.refl _).drew)), (ext_trans_grown hE0 HS1'.out.2 hgB).drew⟩
  case rest =>
  obtain ⟨HW1, hE1⟩ := hcut
  generalize wc = W1 at *
  clear HSa hta hia fa1 fa2 hcL hcR hcA HW
  have hcL1 := HW1.out.c1
  simp only at hcL1
  obtain ⟨gtl, ctl, eatl, _, htl, _, _, _⟩ := HW1.out.l.atM HW1.out.rl hn (by rw [HW1.out.ll]; exact ht : t < _)
  obtain ⟨gil, cil, eail, _, hil, _, _, _⟩ := HW1.out.l.atM HW1.out.rl hn (by rw [HW1.out.ll]; exact hrow : row < _)
  have hSl := HW1.out.swapL hc ht hrow eatl eail
  simp only at hSl
  have fl1 := HW1.out.l.outer.frozen t
  have fl2 := HW1.out.l.outer.frozen row
  have hlB := HW1.out.l.outer.lt.1
  have hpl := HW1.out.po
  simp only at fl1 fl2 hlB htl hil hpl
  have q3 : ¬ p = gl := hpl.2.1
  have q4 : ¬ gl = p := Ne.symm hpl.2.1
  rw [← Hal2.out] at hSl
  rw [show ({ a := sw2 s.a [] t row, l := sw2 s.l [] t row, r := s.r } : Dg) = s2 from Hs2.out.symm] at hSl
  have HSl := Lib.hid hSl
  clear hSl eatl eail HW1 Haa2 Hal2
  go_upto_region 1 with fail
  go_cut [] from 38 to 64 (fun wx => Hid (WkR w0.heap.size wx n c ⟨p, ga, ca, gl, cl, gr, cr⟩ aa2 al2 ar s2) ∧ Ext w0 wx)
  case first =>
    rcases Decidable.em (row = t) with hrt | hrt
    · have el : slv gil n cil = slv gtl n ctl := by rw [hrt, htl] at hil; exact (Option.some.inj hil).symm
      have HS1 := HSl.out
      rw [el, hrt] at HS1
      have HS1' := Lib.hid HS1
      clear hil hrI hrow fl2 HSl HS1 el Hs2
      subst hrt
      go_region
      (try go_wp2_with fail)
      go_meet
      exact ⟨Lib.hid (HS1'.out.1.ext ((Ext.refl _).drew)), (ext_trans_grown hE1 HS1'.out.2 hlB).drew⟩
    · have hrt2 : ¬ t = row := Ne.symm hrt
      clear Hs2
      go_region
      (try go_wp2_with fail)
      go_meet
      exact ⟨Lib.hid (HSl.out.1.ext ((Ext.refl _).drew)), (ext_trans_grown hE1 HSl.out.2 hlB).drew⟩
  case rest =>
  obtain ⟨HW2, hE2⟩ := hcut
  generalize wc = W2 at *
  clear HSl htl hil fl1 fl2 hcL1
  have cA2 := HW2.out.c0
  have cR2 := HW2.out.c2
  simp only at cA2 cR2
  have Hla := Lib.hid HW2.out.la
  have Hlr := Lib.hid HW2.out.lr
  go_wp2_with fail
  go_quiet (fail)
  go_wp2_with fail
  go_loopw [73] (fun idx wr => ∃ kk : Nat, kk ≤ 2 ∧ idx = .int .i64 kk ∧ Hid (WkR w0.heap.size wr n c ⟨p, ga, ca, gl, cl, gr, cr⟩ aa2 al2 ar { s2 with a := if 0 < kk then s2.a.map f else s2.a, r := if 1 < kk then s2.r.map f else s2.r }) ∧ Ext w0 wr) (fun idx _ => 2 - (intOf idx).toNat)
  case atStart => exact ⟨0, by omega, by go_num, Lib.hid (HW2.out.ext ((Ext.refl _).drewN _)), hE2.drewN _⟩
  case round =>
    obtain ⟨kk, hkk2, rfl, hW, hE1⟩ := hrel
    generalize wr = V at *
    rcases (show kk = 0 ∨ kk = 1 ∨ kk = 2 by omega) with rfl | rfl | rfl
    · rw [if_neg (by omega), if_neg (by omega)] at hW
      rw [show ((0 : Nat) : Int) = 0 from rfl]
      have hW0 := hW
      have hix := fun W => ix_a W ga n ca gr c cr
      go_wp2_with fail
      clear hix
      go_loopw [78] (fun jdx wi => ∃ j : Nat, j ≤ n ∧ jdx = .int .i64 j ∧ Hid (WkR w0.heap.size wi n c ⟨p, ga, ca, gl, cl, gr, cr⟩ aa2 al2 ar { s2 with a := mapTo f j s2.a }) ∧ Ext w0 wi) (fun jdx _ => n - (intOf jdx).toNat)
      case atStart => exact ⟨0, by omega, by go_num, Lib.hid (by rw [mapTo_zero]; exact hW0.out), hE1⟩
      case round =>
        obtain ⟨j, hj, rfl, hWj, hEj⟩ := hrel
        generalize wr = Y at *
        by_cases hjl : j < n
        · have hji : (j : Int) < (n : Int) := by omega
          have hjs : j < s2.a.length := by rw [Hla.out]; exact hjl
          have hjm : j < (mapTo f j s2.a).length := by rw [mapTo_length]; exact hjs
          obtain ⟨gx, cx, ead, _, c1, o1, l1, hel⟩ := hWj.out.a.atM hWj.out.ra hc hjm
          have cx1 := hel t htc
          have cy1 := hel k hk
          rw [mapTo_at f hjs] at o1 l1
          obtain ⟨u, hu⟩ : ∃ u, u = s2.a.getD j [] := ⟨_, rfl⟩
          have hex : eM (mapTo f j s2.a) j t = u.getD t 0 := by unfold eM; rw [mapTo_at f hjs, hu]
          have hey : eM (mapTo f j s2.a) j k = u.getD k 0 := by unfold eM; rw [mapTo_at f hjs, hu]
          obtain ⟨X, hX⟩ : ∃ X, X = u.getD t 0 := ⟨_, rfl⟩
          obtain ⟨Z, hZ⟩ : ∃ Z, Z = u.getD k 0 := ⟨_, rfl⟩
          rw [hex, ← hX] at cx1
          rw [hey, ← hZ] at cy1
          rw [← hu] at o1 l1
          have hfu : f u = (u.set t Z).set k X := by rw [Hf.out, hX, hZ]; rfl
          have hO1 := o1.set t (I Z)
          have hO2 := hO1.1.set k (I X)
          rw [← ss_set, ← ss_set, ← hfu] at hO2
          have hG6 := grown_trans hO1.2 hO2.2
          have hW6 := hWj.out.setA hc hjl ead (by rw [Hfl.out]; exact l1) hO2.1 hG6
          have hW7 := Lib.hid (show WkR w0.heap.size _ n c ⟨p, ga, ca, gl, cl, gr, cr⟩ aa2 al2 ar { s2 with a := mapTo f (j + 1) s2.a } by
            rw [mapTo_step f hjs, ← hu]; exact hW6.ext ((Ext.refl _).drew))
          have hE7 := Lib.hid (ext_trans_grown hEj hG6 o1.lt.1).drew
          have f1 := o1.frozen t
          have f2 := o1.frozen k
          clear hex hey hX hZ hfu hO1 hO2 hG6 hW6 l1 hu ead o1 hel hjm hjs
          by_cases htk : t = k
          · have Htk := Lib.hid htk
            have hXZ : I X = I Z := by
              rw [htk] at cx1
              rw [cx1] at cy1; exact Option.some.inj cy1
            have HXZ := Lib.hid hXZ
            rw [HXZ.out] at hW7 hE7
            rw [htk] at hW7 hE7 cx1 f1
            have hkk : (t : Int) = (k : Int) := by omega
            clear htk hXZ cx1 f1
            rw [Htk.out]
            go_wp2_with fail
            go_region
            generalize hw7 : World.drew (World.setCell _ _ _) = w7 at *
            clear hw7
            go_wp2_with fail
            go_roundw
            case rel => exact ⟨j + 1, by omega, by go_num, hW7, hE7.out⟩
            case measure => simp [intOf] <;> omega
          · have hkt : ¬ k = t := Ne.symm htk
            go_wp2_with fail
            go_region
            generalize hw7 : World.drew (World.setCell _ _ _) = w7 at *
            clear hw7
            go_wp2_with fail
            go_roundw
            case rel => exact ⟨j + 1, by omega, by go_num, hW7, hE7.out⟩
            case measure => simp [intOf] <;> omega
        · have hje : j = n := by omega
          have hji : ¬ (j : Int) < (n : Int) := by omega
          have hWe := Lib.hid (show WkR w0.heap.size Y n c ⟨p, ga, ca, gl, cl, gr, cr⟩ aa2 al2 ar { s2 with a := s2.a.map f } by
            have := hWj.out
            have h7 := mapTo_all f s2.a
            rw [Hla.out] at h7
            rw [hje, h7] at this; exact this)
          clear hje
          go_wp2_with fail
          go_roundw
          case rel => exact ⟨1, by omega, by go_num, by rw [if_pos (by omega), if_neg (by omega)]; exact hWe, hEj⟩
          case measure => simp [intOf]
    · rw [if_pos (by omega), if_neg (by omega)] at hW
      rw [show ((1 : Nat) : Int) = 1 from rfl]
      have hW0 := hW
      have hix := fun W => ix_b W ga n ca gr c cr
      go_wp2_with fail
      clear hix
      go_loopw [78] (fun jdx wi => ∃ j : Nat, j ≤ c ∧ jdx = .int .i64 j ∧ Hid (WkR w0.heap.size wi n c ⟨p, ga, ca, gl, cl, gr, cr⟩ aa2 al2 ar { s2 with a := s2.a.map f, r := mapTo f j s2.r }) ∧ Ext w0 wi) (fun jdx _ => c - (intOf jdx).toNat)
      case atStart => exact ⟨0, by omega, by go_num, Lib.hid (by rw [mapTo_zero]; exact hW0.out), hE1⟩
      case round =>
        obtain ⟨j, hj, rfl, hWj, hEj⟩ := hrel
        generalize wr = Y at *
        by_cases hjl : j < c
        · have hji : (j : Int) < (c : Int) := by omega
          have hjs : j < s2.r.length := by rw [Hlr.out]; exact hjl
          have hjm : j < (mapTo f j s2.r).length := by rw [mapTo_length]; exact hjs
          obtain ⟨gx, cx, ead, _, c1, o1, l1, hel⟩ := hWj.out.r.atM hWj.out.rr hc hjm
          have cx1 := hel t htc
          have cy1 := hel k hk
          rw [mapTo_at f hjs] at o1 l1
          obtain ⟨u, hu⟩ : ∃ u, u = s2.r.getD j [] := ⟨_, rfl⟩
          have hex : eM (mapTo f j s2.r) j t = u.getD t 0 := by unfold eM; rw [mapTo_at f hjs, hu]
          have hey : eM (mapTo f j s2.r) j k = u.getD k 0 := by unfold eM; rw [mapTo_at f hjs, hu]
          obtain ⟨X, hX⟩ : ∃ X, X = u.getD t 0 := ⟨_, rfl⟩
          obtain ⟨Z, hZ⟩ : ∃ Z, Z = u.getD k 0 := ⟨_, rfl⟩
          rw [hex, ← hX] at cx1
          rw [hey, ← hZ] at cy1
          rw [← hu] at o1 l1
          have hfu : f u = (u.set t Z).set k X := by rw [Hf.out, hX, hZ]; rfl
          have hO1 := o1.set t (I Z)
          have hO2 := hO1.1.set k (I X)
          rw [← ss_set, ← ss_set, ← hfu] at hO2
          have hG6 := grown_trans hO1.2 hO2.2
          have hW6 := hWj.out.setR hjl ead (by rw [Hfl.out]; exact l1) hO2.1 hG6
          have hW7 := Lib.hid (show WkR w0.heap.size _ n c ⟨p, ga, ca, gl, cl, gr, cr⟩ aa2 al2 ar { s2 with a := s2.a.map f, r := mapTo f (j + 1) s2.r } by
            rw [mapTo_step f hjs, ← hu]; exact hW6.ext ((Ext.refl _).drew))
          have hE7 := Lib.hid (ext_trans_grown hEj hG6 o1.lt.1).drew
          have f1 := o1.frozen t
          have f2 := o1.frozen k
          clear hex hey hX hZ hfu hO1 hO2 hG6 hW6 l1 hu ead o1 hel hjm hjs
          by_cases htk : t = k
          · have Htk := Lib.hid htk
            have hXZ : I X = I Z := by
              rw [htk] at cx1
              rw [cx1] at cy1; exact Option.some.inj cy1
            have HXZ := Lib.hid hXZ
            rw [HXZ.out] at hW7 hE7
            rw [htk] at hW7 hE7 cx1 f1
            have hkk : (t : Int) = (k : Int) := by omega
            clear htk hXZ cx1 f1
            rw [Htk.out]
            go_wp2_with fail
            go_region
            generalize hw7 : World.drew (World.setCell _ _ _) = w7 at *
            clear hw7
            go_wp2_with fail
            go_roundw
            case rel => exact ⟨j + 1, by omega, by go_num, hW7, hE7.out⟩
            case measure => simp [intOf] <;> omega
          · have hkt : ¬ k = t := Ne.symm htk
            go_wp2_with fail
            go_region
            generalize hw7 : World.drew (World.setCell _ _ _) = w7 at *
            clear hw7
            go_wp2_with fail
            go_roundw
            case rel => exact ⟨j + 1, by omega, by go_num, hW7, hE7.out⟩
            case measure => simp [intOf] <;> omega
        · have hje : j = c := by omega
          have hji : ¬ (j : Int) < (c : Int) := by omega
          have hWe := Lib.hid (show WkR w0.heap.size Y n c ⟨p, ga, ca, gl, cl, gr, cr⟩ aa2 al2 ar { s2 with a := s2.a.map f, r := s2.r.map f } by
            have := hWj.out
            have h7 := mapTo_all f s2.r
            rw [Hlr.out] at h7
            rw [hje, h7] at this; exact this)
          clear hje
          go_wp2_with fail
          go_roundw
          case rel => exact ⟨2, by omega, by go_num, by rw [if_pos (by omega), if_pos (by omega)]; exact hWe, hEj⟩
          case measure => simp [intOf]
    · rw [if_pos (by omega), if_pos (by omega)] at hW
      rw [show ((2 : Nat) : Int) = 2 from rfl]
      go_wp2_with fail
      go_end0
      exact ⟨rfl, hW.out, hE1⟩
end Go.Proofs.YtkjnjmihfonilaaGreatDoor
namespace Go.Proofs.YtkjnjmihfonilaaGreatDoor
theorem getD_setM (A : Mx) (i t : Nat) (v : List Int) (h : i < A.length) : (A.set i v).getD t [] = if t = i then v else A.getD t [] := getD_set A i t v [] h
theorem subK_b {k : Int} {E : Nat} {a b : List Int} (hk : k.natAbs < 2 ^ E) (ha : ∀ z ∈ a, z.natAbs < 2 ^ E) (hb : ∀ z ∈ b, z.natAbs < 2 ^ E) : ∀ z ∈ subK k a b, z.natAbs < 2 ^ (2 * E + 1) := by
  have e : 2 ^ (2 * E + 1) = 2 ^ E * 2 ^ E * 2 := by rw [Nat.pow_succ, Nat.two_mul, Nat.pow_add]
  have p0 : 0 < 2 ^ E := Nat.pow_pos (by omega)
  have h1 : 2 ^ E ≤ 2 ^ E * 2 ^ E := Nat.le_mul_of_pos_right _ p0
  refine subK_all k (Q := fun z => z.natAbs < 2 ^ E) (R := fun z => z.natAbs < 2 ^ E) (fun z hz => ?_) (fun y z hy hz => ?_) _ _ ha hb
  · have hz' : z.natAbs < 2 ^ E := hz
    show z.natAbs < _; omega
  · have hy' : y.natAbs < 2 ^ E := hy
    have h2 : (k * z).natAbs ≤ 2 ^ E * 2 ^ E := by rw [Int.natAbs_mul]; exact Nat.mul_le_mul (Nat.le_of_lt hk) (Nat.le_of_lt hz)
    show (y - k * z).natAbs < _
    omega
def qR (s : Dg) (t i : Nat) : Int := (eM s.a i t).fdiv (eM s.a t t)
theorem rowsTo_len (t : Nat) (s : Dg) : ∀ j, (rowsTo t j s).a.length = s.a.length ∧ (rowsTo t j s).l.length = s.l.length ∧ (rowsTo t j s).r = s.r
  | 0 => ⟨rfl, rfl, rfl⟩
  | j + 1 => by
    have h := rowsTo_len t s j
    refine ⟨?_, ?_, h.2.2⟩
    · show (List.set _ _ _).length = _; rw [List.length_set]; exact h.1
    · show (List.set _ _ _).length = _; rw [List.length_set]; exact h.2.1
theorem rowsTo_row (t : Nat) (s : Dg) (hl : s.l.length = s.a.length) : ∀ j, t + j < s.a.length → ∀ i,
    (rowsTo t j s).a.getD i [] = (if t < i ∧ i ≤ t + j then subK (qR s t i) (s.a.getD i []) (s.a.getD t []) else s.a.getD i [])
    ∧ (rowsTo t j s).l.getD i [] = (if t < i ∧ i ≤ t + j then subK (qR s t i) (s.l.getD i []) (s.l.getD t []) else s.l.getD i [])
  | 0, _, i => by rw [if_neg (by omega), if_neg (by omega)]; exact ⟨rfl, rfl⟩
  | j + 1, hj, i => by
    have ih := rowsTo_row t s hl j (by omega)
    have hlen := rowsTo_len t s j
    have e1 := (ih (t + 1 + j)).1
    have e2 := (ih t).1
    have e3 := (ih (t + 1 + j)).2
    have e4 := (ih t).2
    rw [if_neg (by omega)] at e1 e2 e3 e4
    have hq : (eM (rowsTo t j s).a (t + 1 + j) t).fdiv (eM (rowsTo t j s).a t t) = qR s t (t + 1 + j) := by
      unfold qR eM; rw [e1, e2]
    constructor
    · show (rowSub (t + 1 + j) t _ (rowsTo t j s).a).getD i [] = _
      unfold rowSub
      rw [getD_setM _ _ _ _ (by rw [hlen.1]; omega), hq, e1, e2, (ih i).1]
      by_cases h : i = t + 1 + j
      · subst h; rw [if_pos rfl, if_pos (by omega)]
      · rw [if_neg h]
        by_cases h2 : t < i ∧ i ≤ t + j
        · rw [if_pos h2, if_pos (by omega)]
        · rw [if_neg h2, if_neg (by omega)]
    · show (rowSub (t + 1 + j) t _ (rowsTo t j s).l).getD i [] = _
      unfold rowSub
      rw [getD_setM _ _ _ _ (by rw [hlen.2.1, hl]; omega), hq, e3, e4, (ih i).2]
      by_cases h : i = t + 1 + j
      · subst h; rw [if_pos rfl, if_pos (by omega)]
      · rw [if_neg h]
        by_cases h2 : t < i ∧ i ≤ t + j
        · rw [if_pos h2, if_pos (by omega)]
        · rw [if_neg h2, if_neg (by omega)]
theorem bm_of {E : Nat} {A : Mx} (h : ∀ i, i < A.length → ∀ z ∈ A.getD i [], z.natAbs < 2 ^ E) : BM E A := fun r hr z hz => by
  obtain ⟨i, hi, rfl⟩ := List.getElem_of_mem hr
  exact h i hi z (by rw [getD_get hi]; exact hz)
theorem qR_b {s : Dg} {t i E : Nat} (hA : BM E s.a) (hp : eM s.a t t ≠ 0) : (qR s t i).natAbs < 2 ^ E := Nat.lt_of_le_of_lt (fdiv_abs _ hp) (hA.el i t)
theorem rowsTo_b {s : Dg} {t j E : Nat} (hl : s.l.length = s.a.length) (hj : t + j < s.a.length) (hA : BM E s.a) (hL : BM E s.l) (hp : eM s.a t t ≠ 0) : BM (2 * E + 1) (rowsTo t j s).a ∧ BM (2 * E + 1) (rowsTo t j s).l := by
  have hm : ∀ z : Int, z.natAbs < 2 ^ E → z.natAbs < 2 ^ (2 * E + 1) := fun z hz => Nat.lt_of_lt_of_le hz (Nat.pow_le_pow_right (by omega) (by omega))
  constructor
  · refine bm_of fun i _ z hz => ?_
    rw [(rowsTo_row t s hl j hj i).1] at hz
    split at hz
    · exact subK_b (qR_b hA hp) (hA.at i) (hA.at t) z hz
    · exact hm z (hA.at i z hz)
  · refine bm_of fun i _ z hz => ?_
    rw [(rowsTo_row t s hl j hj i).2] at hz
    split at hz
    · exact subK_b (qR_b hA hp) (hL.at i) (hL.at t) z hz
    · exact hm z (hL.at i z hz)
def colA (t : Nat) (Q : Nat → Int) (j : Nat) (l : List Int) : List Int := l.mapIdx fun k v => if t < k ∧ k ≤ t + j then v - Q k * l.getD t 0 else v
@[simp] theorem colA_length (t : Nat) (Q : Nat → Int) (j : Nat) (l : List Int) : (colA t Q j l).length = l.length := by simp [colA]
theorem colA_getD (t : Nat) (Q : Nat → Int) (j : Nat) (l : List Int) (k : Nat) : (colA t Q j l).getD k 0 = if k < l.length then (if t < k ∧ k ≤ t + j then l.getD k 0 - Q k * l.getD t 0 else l.getD k 0) else 0 := by
  by_cases hk : k < l.length
  · rw [if_pos hk, getD_get (by simpa using hk)]
    simp only [colA, List.getElem_mapIdx]
    rw [getD_get hk]
  · rw [if_neg hk, List.getD_eq_getElem?_getD, List.getElem?_eq_none (by simp; omega)]; rfl
theorem colA_zero (t : Nat) (Q : Nat → Int) (l : List Int) : colA t Q 0 l = l := List.ext_getElem (by simp) fun k h1 h2 => by
  simp only [colA, List.getElem_mapIdx]; rw [if_neg (by omega)]
theorem colA_step (t : Nat) (Q : Nat → Int) (j : Nat) (l : List Int) : colF (t + 1 + j) t (Q (t + 1 + j)) (colA t Q j l) = colA t Q (j + 1) l := by
  refine List.ext_getElem (by simp) fun k h1 h2 => ?_
  have hk : k < l.length := by simpa using h2
  rw [← getD_get h1 0, ← getD_get h2 0, colA_getD, if_pos hk]
  unfold colF
  by_cases e : t + 1 + j = k
  · subst e
    rw [getD_set _ _ _ _ _ (by simpa using hk), if_pos rfl, colA_getD, colA_getD, if_pos hk, if_neg (by omega), if_pos (by omega), if_neg (by omega), if_pos (by omega)]
  · by_cases hm : t + 1 + j < l.length
    · rw [getD_set _ _ _ _ _ (by simpa using hm), if_neg (Ne.symm e), colA_getD, if_pos hk]
      by_cases h3 : t < k ∧ k ≤ t + j
      · rw [if_pos h3, if_pos (by omega)]
      · rw [if_neg h3, if_neg (by omega)]
    · rw [List.set_eq_of_length_le (by simpa using hm), colA_getD, if_pos hk]
      by_cases h3 : t < k ∧ k ≤ t + j
      · rw [if_pos h3, if_pos (by omega)]
      · rw [if_neg h3, if_neg (by omega)]
def qC (s : Dg) (t k : Nat) : Int := (eM s.a t k).fdiv (eM s.a t t)
theorem eM_map (f : List Int → List Int) (hf : f [] = []) (A : Mx) (i k : Nat) : eM (A.map f) i k = (f (A.getD i [])).getD k 0 := by
  unfold eM
  rcases Nat.lt_or_ge i A.length with hi | hi
  · rw [getD_map f A i hi [] []]
  · rw [show (A.map f).getD i [] = [] by rw [List.getD_eq_getElem?_getD, List.getElem?_eq_none (by simpa using hi)]; rfl, show A.getD i [] = [] by rw [List.getD_eq_getElem?_getD, List.getElem?_eq_none hi]; rfl, hf]
theorem colsTo_map (t c : Nat) (s : Dg) (hR : Rect c s.a) (ht : t < s.a.length) : ∀ j, t + j < c → (colsTo t j s).a = s.a.map (colA t (qC s t) j) ∧ (colsTo t j s).l = s.l ∧ (colsTo t j s).r = s.r.map (colA t (qC s t) j)
  | 0, _ => by
    have e : colA t (qC s t) 0 = id := funext fun l => colA_zero _ _ _
    have h1 : ∀ A : Mx, A.map (colA t (qC s t) 0) = A := fun A => by rw [e]; exact List.map_id _
    exact ⟨(h1 _).symm, rfl, (h1 _).symm⟩
  | j + 1, hj => by
    obtain ⟨i1, i2, i3⟩ := colsTo_map t c s hR ht j (by omega)
    have hrl : (s.a.getD t []).length = c := by rw [getD_get ht]; exact hR _ (List.getElem_mem ht)
    have e1 : eM (colsTo t j s).a t (t + 1 + j) = eM s.a t (t + 1 + j) := by
      rw [i1, eM_map _ (by simp [colA]), colA_getD, if_pos (by omega), if_neg (by omega)]; rfl
    have e2 : eM (colsTo t j s).a t t = eM s.a t t := by
      rw [i1, eM_map _ (by simp [colA]), colA_getD, if_pos (by omega), if_neg (by omega)]; rfl
    have hq : (eM (colsTo t j s).a t (t + 1 + j)).fdiv (eM (colsTo t j s).a t t) = qC s t (t + 1 + j) := by rw [e1, e2]; rfl
    refine ⟨?_, i2, ?_⟩
    · show colSub (t + 1 + j) t _ (colsTo t j s).a = _
      rw [hq, i1, colSub_map, List.map_map]
      congr 1; funext l; exact colA_step _ _ _ _
    · show colSub (t + 1 + j) t _ (colsTo t j s).r = _
      rw [hq, i3, colSub_map, List.map_map]
      congr 1; funext l; exact colA_step _ _ _ _
theorem colsTo_el (t c : Nat) (s : Dg) (hR : Rect c s.a) (ht : t < s.a.length) (j : Nat) (hj : t + 1 + j < c) : eM (colsTo t j s).a t (t + 1 + j) = eM s.a t (t + 1 + j) ∧ eM (colsTo t j s).a t t = eM s.a t t := by
  obtain ⟨i1, _, _⟩ := colsTo_map t c s hR ht j (by omega)
  have hrl : (s.a.getD t []).length = c := by rw [getD_get ht]; exact hR _ (List.getElem_mem ht)
  rw [i1]
  constructor
  · rw [eM_map _ (by simp [colA]), colA_getD, if_pos (by omega), if_neg (by omega)]; rfl
  · rw [eM_map _ (by simp [colA]), colA_getD, if_pos (by omega), if_neg (by omega)]; rfl
theorem colA_b {t j E : Nat} {Q : Nat → Int} {l : List Int} (hQ : ∀ k, (Q k).natAbs < 2 ^ E) (hl : ∀ z ∈ l, z.natAbs < 2 ^ E) : ∀ z ∈ colA t Q j l, z.natAbs < 2 ^ (2 * E + 1) := by
  intro z hz
  obtain ⟨k, hk, rfl⟩ := List.getElem_of_mem hz
  have hk' : k < l.length := by simpa using hk
  have e : 2 ^ (2 * E + 1) = 2 ^ E * 2 ^ E * 2 := by rw [Nat.pow_succ, Nat.two_mul, Nat.pow_add]
  have p0 : 0 < 2 ^ E := Nat.pow_pos (by omega)
  have h1 : 2 ^ E ≤ 2 ^ E * 2 ^ E := Nat.le_mul_of_pos_right _ p0
  have h2 := hl _ (List.getElem_mem hk')
  simp only [colA, List.getElem_mapIdx]
  split
  · have h3 : (l.getD t 0).natAbs < 2 ^ E := by
      rcases Nat.lt_or_ge t l.length with ht | ht
      · rw [getD_get ht]; exact hl _ (List.getElem_mem ht)
      · rw [List.getD_eq_getElem?_getD, List.getElem?_eq_none ht]; exact p0
    have h4 : (Q k * l.getD t 0).natAbs ≤ 2 ^ E * 2 ^ E := by rw [Int.natAbs_mul]; exact Nat.mul_le_mul (Nat.le_of_lt (hQ k)) (Nat.le_of_lt h3)
    omega
  · omega
theorem colsTo_b {s : Dg} {t c j E : Nat} (hR : Rect c s.a) (ht : t < s.a.length) (hj : t + j < c) (hA : BM E s.a) (hr : BM E s.r) (hp : eM s.a t t ≠ 0) : BM (2 * E + 1) (colsTo t j s).a ∧ BM (2 * E + 1) (colsTo t j s).r := by
  obtain ⟨i1, _, i3⟩ := colsTo_map t c s hR ht j hj
  have hQ : ∀ k, (qC s t k).natAbs < 2 ^ E := fun k => Nat.lt_of_le_of_lt (fdiv_abs _ hp) (hA.el t k)
  rw [i1, i3]
  constructor
  · intro r hr2 z hz
    obtain ⟨l, hl, rfl⟩ := List.mem_map.1 hr2
    exact colA_b hQ (hA l hl) z hz
  · intro r hr2 z hz
    obtain ⟨l, hl, rfl⟩ := List.mem_map.1 hr2
    exact colA_b hQ (hr l hl) z hz
end Go.Proofs.YtkjnjmihfonilaaGreatDoor
namespace Go.Proofs.YtkjnjmihfonilaaGreatDoor
open Go.RowKit Go.Sort
set_option maxRecDepth 100000 in
set_option maxHeartbeats 4000000 in
theorem clear_w {w0 w : World} {n c E : Nat} {x : Wa} {aa al ar : List (Nat × Nat)} {s : Dg} {t : Nat} (h : WkR w0.heap.size w n c x aa al ar s) (htn : t < n) (htc : t < c) (hn2 : n ≤ 1000000) (hc2 : c ≤ 1000000) (hA : BM E s.a) (hBL : BM E s.l) (hBR : BM E s.r) (hp : eM s.a t t ≠ 0)
    (hE : 2 * (4 * E + 3) + 2 < LIM) (hL : Laid w0) (hE0 : Ext w0 w) :
    Calls Tryz.prog 176 #[.pointer (some ⟨x.p, 0, none⟩), .int .i64 t] w fun e w' =>
      e = .returned (.bool (clearOk n c t s)) ∧ WkR w0.heap.size w' n c x aa al ar (clearD n c t s) ∧ Ext w0 w' := by
  obtain ⟨p, ga, ca, gl, cl, gr, cr⟩ := x
  have HW := Lib.hid h
  have Hla := Lib.hid h.la
  have Hll := Lib.hid h.ll
  have Hra := Lib.hid h.ra
  have HA := Lib.hid hA
  have HBL := Lib.hid hBL
  have HBR := Lib.hid hBR
  have Hp := Lib.hid hp
  have HE := Lib.hid hE
  have HL := Lib.hid hL
  have hc0 : 0 < c := by omega
  obtain ⟨N, hN⟩ : ∃ N, N = n - (t + 1) := ⟨_, rfl⟩
  obtain ⟨C, hC⟩ : ∃ C, C = c - (t + 1) := ⟨_, rfl⟩
  have hNn : t + 1 + N = n := by omega
  have hCc : t + 1 + C = c := by omega
  have Hok := Lib.hid (show clearOk n c t s = (rowsOk t N s && colsOk t C (rowsTo t N s)) by rw [hN, hC]; rfl)
  have Hcl := Lib.hid (show clearD n c t s = colsTo t C (rowsTo t N s) by rw [hN, hC]; rfl)
  have htI : (t : Int) < (n : Int) := by omega
  have htcI : (t : Int) < (c : Int) := by omega
  have hp3 : p ≠ p + 1 := by omega
  obtain ⟨okR, hokR⟩ : ∃ okR, okR = clearOk n c t s := ⟨_, rfl⟩
  obtain ⟨sR, hsR⟩ : ∃ sR, sR = clearD n c t s := ⟨_, rfl⟩
  rw [← hokR, ← hsR]
  rw [← hokR] at Hok
  rw [← hsR] at Hcl
  clear h hA hBL hBR hp hE hL hN hC hokR hsR hp3
  go_enter Tryz.func176, Tryz.ntmps176
  go_wp2_with fail
  go_loopw [5, 6] (fun ok idx wr => ∃ j : Nat, j ≤ N ∧ idx = .int .i64 ((t + 1 + j : Nat) : Int) ∧ ok = .bool (rowsOk t j s) ∧ Hid (WkR w0.heap.size wr n c ⟨p, ga, ca, gl, cl, gr, cr⟩ aa al ar (rowsTo t j s)) ∧ Ext w0 wr) (fun _ idx _ => n - (intOf idx).toNat)
  case atStart => exact ⟨0, by omega, by simp, rfl, HW, hE0⟩
  case round =>
    obtain ⟨j, hj, rfl, rfl, hW1, hE1⟩ := hrel
    generalize wr = V at *
    obtain ⟨i, hi⟩ : ∃ i, i = t + 1 + j := ⟨_, rfl⟩
    rw [← hi]
    have hcA := hW1.out.c0
    have hcL := hW1.out.c1
    have hc3 := hW1.out.c3
    simp only at hcA hcL hc3
    by_cases hjl : j < N
    · have hin : i < n := by omega
      have hiI : (i : Int) < (n : Int) := by omega
      obtain ⟨gx, cx, eai, _, h1, o1, _, hel1⟩ := hW1.out.a.atM hW1.out.ra hc0 (by rw [hW1.out.la]; exact hin : i < _)
      obtain ⟨gt, ct, eat, _, h2, ot, _, hel2⟩ := hW1.out.a.atM hW1.out.ra hc0 (by rw [hW1.out.la]; exact htn : t < _)
      obtain ⟨gy, cy, eli, _, h3, ol, _, _⟩ := hW1.out.l.atM hW1.out.rl (by omega) (by rw [hW1.out.ll]; exact hin : i < _)
      obtain ⟨gu, cu, elt, _, h4, ou, _, _⟩ := hW1.out.l.atM hW1.out.rl (by omega) (by rw [hW1.out.ll]; exact htn : t < _)
      have e1 := hel1 t htc
      have e2 := hel2 t htc
      simp only at h1 h2 h3 h4
      have hrow := rowsTo_row t s (by rw [Hll.out, Hla.out]) j (by rw [Hla.out]; omega)
      have ra1 := (hrow i).1
      have ra2 := (hrow t).1
      have rl1 := (hrow i).2
      have rl2 := (hrow t).2
      rw [if_neg (by omega)] at ra1 ra2 rl1 rl2
      obtain ⟨z, hz⟩ : ∃ z, z = eM s.a i t := ⟨_, rfl⟩
      obtain ⟨y, hy⟩ : ∃ y, y = eM s.a t t := ⟨_, rfl⟩
      have hz1 : eM (rowsTo t j s).a i t = z := by rw [hz]; unfold eM; rw [ra1]
      have hy1 : eM (rowsTo t j s).a t t = y := by rw [hy]; unfold eM; rw [ra2]
      rw [hz1] at e1
      rw [hy1] at e2
      have hzb : z.natAbs < 2 ^ E := by rw [hz]; exact HA.out.el i t
      have hyb : y.natAbs < 2 ^ E := by rw [hy]; exact HA.out.el t t
      have hy0 : y ≠ 0 := by rw [hy]; exact Hp.out
      have hqb : (z.fdiv y).natAbs < 2 ^ E := Nat.lt_of_le_of_lt (fdiv_abs z hy0) hzb
      have hst : rowsTo t (j + 1) s = ⟨rowSub i t (z.fdiv y) (rowsTo t j s).a, rowSub i t (z.fdiv y) (rowsTo t j s).l, (rowsTo t j s).r⟩ := by
        rw [rowsTo, ← hi]; unfold rowStep; rw [hz1, hy1]
      have hsk : rowsOk t (j + 1) s = (rowsOk t j s && decide (z.fmod y = 0)) := by rw [rowsOk, ← hi, hz1, hy1]
      have Hst := Lib.hid hst
      have Hsk := Lib.hid hsk
      have hEs : 2 * E + 2 < LIM := by have := HE.out; omega
      have htA := Lib.hid (fun W (hW : Ext V W) => takeA_w (w0 := w0) (w := W) (E := E) (q := z.fdiv y) (hW1.out.ext hW) hc0 hc2 hin htn (by omega : i ≠ t) eai eat (by rw [ra1]; exact HA.out.at i) (by rw [ra2]; exact HA.out.at t) hqb hEs HL.out (hE1.trans hW))
      have htL := Lib.hid (fun W s2 (hs2 : s2.l = (rowsTo t j s).l) (h2 : WkR w0.heap.size W n c ⟨p, ga, ca, gl, cl, gr, cr⟩ aa al ar s2) (hW : Ext w0 W) => takeL_w (w0 := w0) (w := W) (E := E) (q := z.fdiv y) h2 hn2 hin htn (by omega : i ≠ t) eli elt (by rw [hs2, rl1]; exact HBL.out.at i) (by rw [hs2, rl2]; exact HBL.out.at t) hqb hEs HL.out hW)
      have Hzl : Hid (nd z < LIM) := by have := nd_lt2 hzb; exact Lib.hid (by omega)
      have Hyl : Hid (nd y < LIM) := by have := nd_lt2 hyb; exact Lib.hid (by omega)
      have Hy0 := Lib.hid hy0
      have hdl : Hid (gl ≠ gx ∧ p ≠ gx) := Lib.hid ⟨Ne.symm (ne_outer hW1.out.l.outer o1), Ne.symm (hW1.out.pi.1 _ (List.mem_of_getElem? eai))⟩
      have hidx : (Value.int .i64 ((i : Int) + 1)) = .int .i64 ((t + 1 + (j + 1) : Nat) : Int) := by rw [show ((t + 1 + (j + 1) : Nat) : Int) = (i : Int) + 1 by omega]
      have Hidx := Lib.hid hidx
      have bD := Lib.hid (quietC (w := V) (fun W h => DivMod_any (a := z) (b := y) (w := W) Hzl.out Hyl.out Hy0.out (HL.out.ext (hE1.trans h))))
      have hitz : (Lib.itoa (z.fmod y) == [48]) = decide (z.fmod y = 0) := itoa_eq_zero _
      have k1 := cell_regrown hcA
      have k2 := cell_regrown h1
      have k3 := cell_regrown h2
      have k4 := cell_regrown e1
      have k5 := cell_regrown e2
      clear o1 ot ol ou hel1 hel2 hrow ra1 ra2 rl1 rl2 hz hy hz1 hy1 hzb hyb hy0 hqb hst hsk hEs eai eat eli elt hidx hi
      go_wp2_with fail
      refine wp_region_quiet_below (by kernel_rfl) (by kernel_rfl) ?_
      repeat (go_big_quiet_step (exact bD.out _ _))
      refine wpQuiet_nil ?_
      intro _ hw'
      obtain ⟨⟨dq, osq⟩, hw''⟩ := hw'
      subst hw''
      have hE5 := ext_regrown V dq osq
      have m1 := k1 dq osq
      have m2 := k2 dq osq
      have m3 := k3 dq osq
      clear bD k1 k2 k3 k4 k5
      generalize hW5 : grow (redrawn _ _) _ = W5 at *
      have n1 := cell_regrown m1
      have n2 := cell_regrown m2
      have n3 := cell_regrown m3
      clear hW5 m1 m2 m3
      go_wp2_with fail
      refine wp_region_quiet_tail 15 (by kernel_rfl) (by kernel_rfl) ?_
      simp only [List.take_succ_cons, List.take_zero, List.drop_succ_cons, List.drop_zero]
      repeat (go_big_quiet_step (fail))
      refine wpQuiet_nil ?_
      intro _ hw'
      obtain ⟨⟨dq, osq⟩, hw''⟩ := hw'
      subst hw''
      have hE6 := hE5.trans (ext_regrown W5 dq osq)
      clear n1 n2 n3
      generalize hW6 : grow (redrawn _ _) _ = W6 at *
      clear hW6
      go_wp2_with fail
      refine (htA.out _ hE6).mono ?_
      rintro e W7 ⟨rfl, hW7, hE7, hG7⟩
      have hC7 : Chg (fun k => k = gx) W6 W7 := Chg.of_grown hG7 rfl
      have d1 := hC7.cell hdl.out.2 (hE6.cell hcL)
      have d2 := hC7.cell hdl.out.1 (hE6.cell h3)
      have d3 := hC7.cell hdl.out.1 (hE6.cell h4)
      have HtL := Lib.hid (fun W (hW : Ext W7 W) => htL.out W { rowsTo t j s with a := rowSub i t (z.fdiv y) (rowsTo t j s).a } rfl (hW7.ext hW) (hE7.trans hW))
      have k1 := cell_regrown d1
      have k2 := cell_regrown d2
      have k3 := cell_regrown d3
      clear hC7 hG7 htA htL hW7
      go_wp2_with fail
      refine wp_region_quiet_tail 15 (by kernel_rfl) (by kernel_rfl) ?_
      simp only [List.take_succ_cons, List.take_zero, List.drop_succ_cons, List.drop_zero]
      repeat (go_big_quiet_step (fail))
      refine wpQuiet_nil ?_
      intro _ hw'
      obtain ⟨⟨dq, osq⟩, hw''⟩ := hw'
      subst hw''
      have hE8 := ext_regrown W7 dq osq
      clear k1 k2 k3 d1 d2 d3
      generalize hW8 : grow (redrawn _ _) _ = W8 at *
      clear hW8
      go_wp2_with fail
      refine (HtL.out _ hE8).mono ?_
      rintro e W9 ⟨rfl, hW9, hE9, _⟩
      have HW9 := Lib.hid (show WkR w0.heap.size W9 n c ⟨p, ga, ca, gl, cl, gr, cr⟩ aa al ar (rowsTo t (j + 1) s) by rw [Hst.out]; exact hW9)
      clear hW9 HtL
      obtain ⟨q, hq⟩ : ∃ q, q = z.fmod y := ⟨_, rfl⟩
      rw [← hq] at hitz Hsk ⊢
      clear hq
      obtain ⟨okj, hokj⟩ : ∃ okj, okj = rowsOk t j s := ⟨_, rfl⟩
      rw [← hokj] at Hsk ⊢
      clear hokj
      cases okj
      · go_wp2_with fail
        go_roundw
        case rel => exact ⟨j + 1, by omega, Hidx.out, by rw [Hsk.out]; rfl, HW9, hE9⟩
        case measure => simp [intOf] <;> omega
      · go_wp2_with fail
        go_roundw
        case rel => exact ⟨j + 1, by omega, Hidx.out, by rw [Hsk.out]; simp, HW9, hE9⟩
        case measure => simp [intOf] <;> omega
    · have hjN : j = N := by omega
      have hiI : ¬ (i : Int) < (n : Int) := by omega
      have hE2 := hE1
      subst hjN
      obtain ⟨s1, hs1⟩ : ∃ s1, s1 = rowsTo t j s := ⟨_, rfl⟩
      obtain ⟨ok1, hok1⟩ : ∃ ok1, ok1 = rowsOk t j s := ⟨_, rfl⟩
      rw [← hs1] at hW1 Hok Hcl
      rw [← hok1] at Hok ⊢
      have hb1 := rowsTo_b (s := s) (t := t) (j := j) (E := E) (by rw [Hll.out, Hla.out]) (by rw [Hla.out]; omega) HA.out HBL.out Hp.out
      rw [← hs1] at hb1
      have hr1 : s1.r = s.r := by rw [hs1]; exact (rowsTo_len t s j).2.2
      have hBR1 : BM (2 * E + 1) s1.r := by rw [hr1]; exact HBR.out.mono (by omega)
      have hp1 : eM s1.a t t ≠ 0 := by
        have h7 := (rowsTo_row t s (by rw [Hll.out, Hla.out]) j (by rw [Hla.out]; omega) t).1
        rw [if_neg (by omega), ← hs1] at h7
        unfold eM; rw [h7]; exact Hp.out
      have Hb1 := Lib.hid hb1.1
      have HBR1 := Lib.hid hBR1
      have Hp1 := Lib.hid hp1
      have Hla1 := Lib.hid hW1.out.la
      have Hra1 := Lib.hid hW1.out.ra
      clear hs1 hok1 hb1 hr1 hBR1 hp1 hi HW HA HBL HBR hcL hE2
      go_wp2_with fail
      go_loopw [5, 10] (fun ok idx wr => ∃ j : Nat, j ≤ C ∧ idx = .int .i64 ((t + 1 + j : Nat) : Int) ∧ ok = .bool (ok1 && colsOk t j s1) ∧ Hid (WkR w0.heap.size wr n c ⟨p, ga, ca, gl, cl, gr, cr⟩ aa al ar (colsTo t j s1)) ∧ Ext w0 wr) (fun _ idx _ => c - (intOf idx).toNat)
      case atStart => exact ⟨0, by omega, by simp, by simp [colsOk], hW1, hE1⟩
      case round =>
        clear hcA hc3
        obtain ⟨k, hk, rfl, rfl, hW2, hE3⟩ := hrel
        generalize wr = Y at *
        obtain ⟨d, hd⟩ : ∃ d, d = t + 1 + k := ⟨_, rfl⟩
        rw [← hd]
        have hcA := hW2.out.c0
        have hc3 := hW2.out.c3
        simp only at hcA hc3
        by_cases hkl : k < C
        · have hdc : d < c := by omega
          have hdI : (d : Int) < (c : Int) := by omega
          obtain ⟨gt, ct, eat, _, h2, ot, _, hel2⟩ := hW2.out.a.atM hW2.out.ra hc0 (by rw [hW2.out.la]; exact htn : t < _)
          have e1 := hel2 d hdc
          have e2 := hel2 t htc
          simp only at h2
          obtain ⟨z, hz⟩ : ∃ z, z = eM s1.a t d := ⟨_, rfl⟩
          obtain ⟨y, hy⟩ : ∃ y, y = eM s1.a t t := ⟨_, rfl⟩
          have hel := colsTo_el t c s1 Hra1.out (by rw [Hla1.out]; exact htn) k (by omega)
          rw [← hd, ← hz, ← hy] at hel
          rw [hel.1] at e1
          rw [hel.2] at e2
          have hzb : z.natAbs < 2 ^ (2 * E + 1) := by rw [hz]; exact Hb1.out.el t d
          have hyb : y.natAbs < 2 ^ (2 * E + 1) := by rw [hy]; exact Hb1.out.el t t
          have hy0 : y ≠ 0 := by rw [hy]; exact Hp1.out
          have hqb : (z.fdiv y).natAbs < 2 ^ (2 * (2 * E + 1) + 1) := Nat.lt_of_lt_of_le (Nat.lt_of_le_of_lt (fdiv_abs z hy0) hzb) (Nat.pow_le_pow_right (by omega) (by omega))
          have hst : colsTo t (k + 1) s1 = ⟨colSub d t (z.fdiv y) (colsTo t k s1).a, (colsTo t k s1).l, colSub d t (z.fdiv y) (colsTo t k s1).r⟩ := by
            rw [colsTo, ← hd]; unfold colStep; rw [hel.1, hel.2]
          have hsk : colsOk t (k + 1) s1 = (colsOk t k s1 && decide (z.fmod y = 0)) := by rw [colsOk, ← hd, hel.1, hel.2]
          have Hst := Lib.hid hst
          have Hsk := Lib.hid hsk
          have hbk := colsTo_b (s := s1) (t := t) (j := k) (E := 2 * E + 1) Hra1.out (by rw [Hla1.out]; exact htn) (by omega) Hb1.out HBR1.out Hp1.out
          have htC := Lib.hid (fun W (hW : Ext Y W) => takeColumn_w (w0 := w0) (w := W) (E := 2 * (2 * E + 1) + 1) (q := z.fdiv y) (hW2.out.ext hW) (by omega) hc0 hn2 hc2 hdc htc hbk.1 hbk.2 hqb (by have := HE.out; omega) HL.out (hE3.trans hW))
          have Hzl : Hid (nd z < LIM) := by have := nd_lt2 hzb; have := HE.out; exact Lib.hid (by omega)
          have Hyl : Hid (nd y < LIM) := by have := nd_lt2 hyb; have := HE.out; exact Lib.hid (by omega)
          have Hy0 := Lib.hid hy0
          have hidx : (Value.int .i64 ((d : Int) + 1)) = .int .i64 ((t + 1 + (k + 1) : Nat) : Int) := by rw [show ((t + 1 + (k + 1) : Nat) : Int) = (d : Int) + 1 by omega]
          have Hidx := Lib.hid hidx
          have bD := Lib.hid (quietC (w := Y) (fun W h => DivMod_any (a := z) (b := y) (w := W) Hzl.out Hyl.out Hy0.out (HL.out.ext (hE3.trans h))))
          have hitz : (Lib.itoa (z.fmod y) == [48]) = decide (z.fmod y = 0) := itoa_eq_zero _
          have k1 := cell_regrown hcA
          have k2 := cell_regrown h2
          have k4 := cell_regrown e1
          have k5 := cell_regrown e2
          clear ot hel2 hz hy hel hzb hyb hy0 hqb hst hsk hbk eat hidx hd
          go_wp2_with fail
          refine wp_region_quiet_below (by kernel_rfl) (by kernel_rfl) ?_
          repeat (go_big_quiet_step (exact bD.out _ _))
          refine wpQuiet_nil ?_
          intro _ hw'
          obtain ⟨⟨dq, osq⟩, hw''⟩ := hw'
          subst hw''
          have hE5 := ext_regrown Y dq osq
          clear bD k1 k2 k4 k5
          generalize hW5 : grow (redrawn _ _) _ = W5 at *
          clear hW5
          go_wp2_with fail
          refine (htC.out _ hE5).mono ?_
          rintro e W9 ⟨rfl, hW9, hE9⟩
          have HW9 := Lib.hid (show WkR w0.heap.size W9 n c ⟨p, ga, ca, gl, cl, gr, cr⟩ aa al ar (colsTo t (k + 1) s1) by rw [Hst.out]; exact hW9)
          clear hW9 htC
          obtain ⟨q, hq⟩ : ∃ q, q = z.fmod y := ⟨_, rfl⟩
          rw [← hq] at hitz Hsk ⊢
          clear hq
          obtain ⟨okj, hokj⟩ : ∃ okj, okj = colsOk t k s1 := ⟨_, rfl⟩
          rw [← hokj] at Hsk ⊢
          clear hokj
          obtain ⟨okk, hokk⟩ : ∃ okk, okk = (ok1 && okj) := ⟨_, rfl⟩
          have Hokk := Lib.hid (show (ok1 && (okj && decide (q = 0))) = (okk && decide (q = 0)) by rw [hokk, Bool.and_assoc])
          rw [← hokk]
          clear hokk
          cases okk
          · go_wp2_with fail
            go_roundw
            case rel => exact ⟨k + 1, by omega, Hidx.out, by rw [Hsk.out, Hokk.out]; rfl, HW9, hE9⟩
            case measure => simp [intOf] <;> omega
          · go_wp2_with fail
            go_roundw
            case rel => exact ⟨k + 1, by omega, Hidx.out, by rw [Hsk.out, Hokk.out]; simp, HW9, hE9⟩
            case measure => simp [intOf] <;> omega
        · have hdI : ¬ (d : Int) < (c : Int) := by omega
          have hkC : k = C := by omega
          clear hd
          subst hkC
          rw [← Hok.out]
          have hWf := hW2.out
          rw [← Hcl.out] at hWf
          have HWf := Lib.hid hWf
          clear hWf
          go_wp2_with fail
          go_ret
          exact ⟨rfl, HWf.out, hE3⟩
end Go.Proofs.YtkjnjmihfonilaaGreatDoor
