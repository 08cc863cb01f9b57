/- Part 33 of the proof of the claim: contracts of the functions that it reaches, and plain laws; no condition. -/
import Derived.Test.YtkjnjmihfonilaaGreatDoorV30
import Derived.Test.YtkjnjmihfonilaaGreatDoorV31
import Derived.Test.YtkjnjmihfonilaaGreatDoorV32
import Derived.Test.YtkjnjmihfonilaaGreatDoorV02
import Derived.Test.YtkjnjmihfonilaaGreatDoorV11
import Derived.Test.YtkjnjmihfonilaaGreatDoorRows
import Derived.ProofKit
import Derived.LaidMore
import Derived.OpenShut
import Derived.Stop.Joined
import Derived.Stop.LaidErr
import Derived.Lib.LaidTab
import Derived.Deep.Matrix
import Derived.Test.YtkjnjmihfonilaaGreatDoorV24
import Derived.Test.YtkjnjmihfonilaaGreatDoorCards
import Derived.Test.YtkjnjmihfonilaaGreatDoorTie
import Derived.SevenTiedAt
namespace Go.Proofs.YtkjnjmihfonilaaGreatDoor
open Go.RowKit Go.Sort
set_option maxRecDepth 100000 in
set_option maxHeartbeats 8000000 in
theorem bxs_walk {w : World} {b : Int} {rv : Value} {Z : List (List Int)} {vals : Bool} {sx : Option Addr} {nx cx : Nat} {x : List Int} {most : Int} (hb : 0 ≤ b ∧ b ≤ 255) (hR : RowsA w rv Z) (hx : RowR w (.slice sx nx cx) x) (hxb : x.length ≤ 9223372036854775807) (hL : Laid w) :
    Calls Tryz.prog 3 #[.agg #[.int .u8 b, rv, .bool vals], .slice sx nx cx, .int .i64 most] w fun e w' => e = .returned (.bool true) ∧ Ext w w' := by
  have hkn := Lib.hid (fun W (hW : Ext w W) => known20_any (hL.ext hW))
  have hft := Lib.hid (fun W (hW : Ext w W) => fits18_any (b := b) (vals := vals) (hR.ext hW))
  have hmk := Lib.hid (fun W (hW : Ext w W) (h3 : Z.length ≤ 3) => make18_any (vals := vals) hb (hR.ext hW) h3 (hL.ext hW))
  have hsm := Lib.hid (fun W (hW : Ext w W) => small20_any (hx.ext hW) hxb)
  have HL := Lib.hid hL
  have Hx := Lib.hid hx
  obtain ⟨sa, gb, go, cap, rfl, k1, k2, k3, k4⟩ := id hR
  clear k1 k2 k3 k4
  obtain ⟨rz, hrz⟩ : ∃ rz, rz = Z.length := ⟨_, rfl⟩
  rw [← hrz] at hft hmk ⊢
  have hX := (Ext.refl w).alloc (.cells #[.int .u8 b, .slice sa rz cap, .bool vals] 24)
  have p0 : (w.alloc (.cells #[.int .u8 b, .slice sa rz cap, .bool vals] 24)).cell? ⟨w.heap.size, 0, none⟩ = some (.int .u8 b) := by go_simp
  have p1 : (w.alloc (.cells #[.int .u8 b, .slice sa rz cap, .bool vals] 24)).cell? ⟨w.heap.size, 1, none⟩ = some (.slice sa rz cap) := by go_simp
  have p2 : (w.alloc (.cells #[.int .u8 b, .slice sa rz cap, .bool vals] 24)).cell? ⟨w.heap.size, 2, none⟩ = some (.bool vals) := by go_simp
  clear hrz hb hR hL hx hxb
  by_cases hz3 : rz ≤ 3
  · rw [decide_eq_true hz3] at hft
    replace hmk := Lib.hid (fun W hW => hmk.out W hW hz3)
    clear hz3
    go_enter Tryz.func3, Tryz.ntmps3
    go_wp2_with fail
    refine (hkn.out _ hX).mono ?_
    rintro e X ⟨rfl, hE1⟩
    have p0 := hE1.cell p0
    have p1 := hE1.cell p1
    have p2 := hE1.cell p2
    have e1 := hX.trans hE1
    clear hE1
    go_wp2_with fail
    refine (hft.out _ e1).mono ?_
    rintro e X2 ⟨rfl, hE2⟩
    have p0 := hE2.cell p0
    have p1 := hE2.cell p1
    have p2 := hE2.cell p2
    have e2 := e1.trans hE2
    clear hE2
    go_wp2_with fail
    refine (hsm.out _ e2).mono ?_
    rintro e X3 ⟨⟨bb, rfl, _⟩, hE3⟩
    have p0 := hE3.cell p0
    have p1 := hE3.cell p1
    have p2 := hE3.cell p2
    have e3 := e2.trans hE3
    clear hE3
    cases bb
    · skip
      go_wp2_with fail
      refine (hkn.out _ e3).mono ?_
      rintro e X4 ⟨rfl, hEk⟩
      go_wp2_with fail
      go_ret
      exact ⟨rfl, e3.trans hEk⟩
    · by_cases hm3 : 3 < most
      · by_cases hm100 : most ≤ 100
        · skip
          go_wp2_with fail
          refine (hkn.out _ e3).mono ?_
          rintro e X4 ⟨rfl, hEk⟩
          go_wp2_with fail
          go_ret
          exact ⟨rfl, e3.trans hEk⟩
        · have hm100b : 100 < most := by omega
          have hm0 : ¬ most < 0 := by omega
          go_wp2_with fail
          refine (hmk.out _ e3).mono ?_
          rintro e X4 ⟨t, C, M, rfl, ht, hE3⟩
          have e4 := e3.trans hE3
          generalize prL b = P at *
          obtain ⟨sp, cp, sc, lc, cc, sm, lm, cm, rfl, hT⟩ := ht.open
          have hml : lm = M.length := by obtain ⟨_, _, _, _, _, e, _⟩ := hT.hM; injection e
          subst hml
          have hp4 := hT.ok.p4
          have ea := (Ext.refl X4).alloc (.cells #[.slice sp P.length cp, .slice sc lc cc, .slice sm M.length cm] 34)
          have e5 := e4.alloc (.cells #[.slice sp P.length cp, .slice sc lc cc, .slice sm M.length cm] 34)
          have t0 : (X4.alloc (.cells #[.slice sp P.length cp, .slice sc lc cc, .slice sm M.length cm] 34)).cell? ⟨X4.heap.size, 0, none⟩ = some (.slice sp P.length cp) := by go_simp
          have t1 : (X4.alloc (.cells #[.slice sp P.length cp, .slice sc lc cc, .slice sm M.length cm] 34)).cell? ⟨X4.heap.size, 1, none⟩ = some (.slice sc lc cc) := by go_simp
          have t2 : (X4.alloc (.cells #[.slice sp P.length cp, .slice sc lc cc, .slice sm M.length cm] 34)).cell? ⟨X4.heap.size, 2, none⟩ = some (.slice sm M.length cm) := by go_simp
          have HT4 := Lib.hid (hT.ext ea)
          have hbx := Lib.hid (fun W (hW : Ext (X4.alloc (.cells #[.slice sp P.length cp, .slice sc lc cc, .slice sm M.length cm] 34)) W) => gBox_any (most := most) (HT4.out.ext hW) (Hx.out.ext (e5.trans hW)) (HL.out.ext (e5.trans hW)))
          have hle := Lib.hid (fun W (hW : Ext (X4.alloc (.cells #[.slice sp P.length cp, .slice sc lc cc, .slice sm M.length cm] 34)) W) => gLeast_any (most := most) (HT4.out.ext hW) (Hx.out.ext (e5.trans hW)) (HL.out.ext (e5.trans hW)))
          have htm := Lib.hid (fun W (hW : Ext (X4.alloc (.cells #[.slice sp P.length cp, .slice sc lc cc, .slice sm M.length cm] 34)) W) => tempered20_any (HT4.out.ext hW) (Hx.out.ext (e5.trans hW)))
          obtain ⟨y, hy⟩ : ∃ y, y = bgE M.length x := ⟨_, rfl⟩
          rw [← hy] at htm
          clear ht hE3 hmk hft hsm hkn p0 p1 p2 e1 e2 e3 hX
          by_cases hy0 : y = 0
          · subst hy0
            have Hbe := Lib.hid (show bxE P.length M x most = 3 by unfold bxE; rw [if_pos hy.symm, if_pos (.inr hm100b)])
            have Hbn := Lib.hid (show ¬ bxE P.length M x most = 0 by rw [Hbe.out]; decide)
            clear hy
            clear hT hp4
            go_wp2_with fail
            refine (hbx.out _ (Ext.refl _)).mono ?_
            rintro e Y1 ⟨hF1, (⟨_, rfl⟩ | ⟨q1, _⟩)⟩
            · rw [Hbe.out]
              replace t0 := hF1.cell t0
              replace t1 := hF1.cell t1
              replace t2 := hF1.cell t2
              go_wp2_with fail
              refine (hle.out _ hF1).mono ?_
              rintro e Y2 ⟨hF2, (⟨_, rfl⟩ | ⟨q1, _⟩)⟩
              · rw [Hbe.out]
                replace t0 := hF2.cell t0
                replace t1 := hF2.cell t1
                replace t2 := hF2.cell t2
                go_wp2_with fail
                refine (htm.out _ (hF1.trans hF2)).mono ?_
                rintro e Y3 ⟨rfl, hF3⟩
                have eF := ((e5.trans hF1).trans hF2).trans hF3
                go_wp2_with fail
                go_ret
                exact ⟨rfl, eF⟩
              · exact absurd q1 Hbn.out
            · exact absurd q1 Hbn.out
          · skip
            have h2y : (y == 0) = false := beq_eq_false_iff_ne.2 hy0
            have h3y : (y != 0) = true := by simp [bne, h2y]
            have Hbe := Lib.hid (show bxE P.length M x most = y by unfold bxE; rw [if_neg (by rw [← hy]; exact hy0), hy])
            have Hbn := Lib.hid (show ¬ bxE P.length M x most = 0 by rw [Hbe.out]; exact hy0)
            clear hy
            clear hT hp4
            go_wp2_with fail
            refine (hbx.out _ (Ext.refl _)).mono ?_
            rintro e Y1 ⟨hF1, (⟨_, rfl⟩ | ⟨q1, _⟩)⟩
            · rw [Hbe.out]
              replace t0 := hF1.cell t0
              replace t1 := hF1.cell t1
              replace t2 := hF1.cell t2
              go_wp2_with fail
              refine (hle.out _ hF1).mono ?_
              rintro e Y2 ⟨hF2, (⟨_, rfl⟩ | ⟨q1, _⟩)⟩
              · rw [Hbe.out]
                replace t0 := hF2.cell t0
                replace t1 := hF2.cell t1
                replace t2 := hF2.cell t2
                go_wp2_with fail
                refine (htm.out _ (hF1.trans hF2)).mono ?_
                rintro e Y3 ⟨rfl, hF3⟩
                have eF := ((e5.trans hF1).trans hF2).trans hF3
                go_wp2_with fail
                go_ret
                exact ⟨rfl, eF⟩
              · exact absurd q1 Hbn.out
            · exact absurd q1 Hbn.out
      · by_cases hm0 : most < 0
        · have hm100b : ¬ 100 < most := by omega
          go_wp2_with fail
          refine (hmk.out _ e3).mono ?_
          rintro e X4 ⟨t, C, M, rfl, ht, hE3⟩
          have e4 := e3.trans hE3
          generalize prL b = P at *
          obtain ⟨sp, cp, sc, lc, cc, sm, lm, cm, rfl, hT⟩ := ht.open
          have hml : lm = M.length := by obtain ⟨_, _, _, _, _, e, _⟩ := hT.hM; injection e
          subst hml
          have hp4 := hT.ok.p4
          have ea := (Ext.refl X4).alloc (.cells #[.slice sp P.length cp, .slice sc lc cc, .slice sm M.length cm] 34)
          have e5 := e4.alloc (.cells #[.slice sp P.length cp, .slice sc lc cc, .slice sm M.length cm] 34)
          have t0 : (X4.alloc (.cells #[.slice sp P.length cp, .slice sc lc cc, .slice sm M.length cm] 34)).cell? ⟨X4.heap.size, 0, none⟩ = some (.slice sp P.length cp) := by go_simp
          have t1 : (X4.alloc (.cells #[.slice sp P.length cp, .slice sc lc cc, .slice sm M.length cm] 34)).cell? ⟨X4.heap.size, 1, none⟩ = some (.slice sc lc cc) := by go_simp
          have t2 : (X4.alloc (.cells #[.slice sp P.length cp, .slice sc lc cc, .slice sm M.length cm] 34)).cell? ⟨X4.heap.size, 2, none⟩ = some (.slice sm M.length cm) := by go_simp
          have HT4 := Lib.hid (hT.ext ea)
          have hbx := Lib.hid (fun W (hW : Ext (X4.alloc (.cells #[.slice sp P.length cp, .slice sc lc cc, .slice sm M.length cm] 34)) W) => gBox_any (most := most) (HT4.out.ext hW) (Hx.out.ext (e5.trans hW)) (HL.out.ext (e5.trans hW)))
          have hle := Lib.hid (fun W (hW : Ext (X4.alloc (.cells #[.slice sp P.length cp, .slice sc lc cc, .slice sm M.length cm] 34)) W) => gLeast_any (most := most) (HT4.out.ext hW) (Hx.out.ext (e5.trans hW)) (HL.out.ext (e5.trans hW)))
          have htm := Lib.hid (fun W (hW : Ext (X4.alloc (.cells #[.slice sp P.length cp, .slice sc lc cc, .slice sm M.length cm] 34)) W) => tempered20_any (HT4.out.ext hW) (Hx.out.ext (e5.trans hW)))
          obtain ⟨y, hy⟩ : ∃ y, y = bgE M.length x := ⟨_, rfl⟩
          rw [← hy] at htm
          clear ht hE3 hmk hft hsm hkn p0 p1 p2 e1 e2 e3 hX
          by_cases hy0 : y = 0
          · subst hy0
            have Hbe := Lib.hid (show bxE P.length M x most = 3 by unfold bxE; rw [if_pos hy.symm, if_pos (.inl hm0)])
            have Hbn := Lib.hid (show ¬ bxE P.length M x most = 0 by rw [Hbe.out]; decide)
            clear hy
            clear hT hp4
            go_wp2_with fail
            refine (hbx.out _ (Ext.refl _)).mono ?_
            rintro e Y1 ⟨hF1, (⟨_, rfl⟩ | ⟨q1, _⟩)⟩
            · rw [Hbe.out]
              replace t0 := hF1.cell t0
              replace t1 := hF1.cell t1
              replace t2 := hF1.cell t2
              go_wp2_with fail
              refine (hle.out _ hF1).mono ?_
              rintro e Y2 ⟨hF2, (⟨_, rfl⟩ | ⟨q1, _⟩)⟩
              · rw [Hbe.out]
                replace t0 := hF2.cell t0
                replace t1 := hF2.cell t1
                replace t2 := hF2.cell t2
                go_wp2_with fail
                refine (htm.out _ (hF1.trans hF2)).mono ?_
                rintro e Y3 ⟨rfl, hF3⟩
                have eF := ((e5.trans hF1).trans hF2).trans hF3
                go_wp2_with fail
                go_ret
                exact ⟨rfl, eF⟩
              · exact absurd q1 Hbn.out
            · exact absurd q1 Hbn.out
          · skip
            have h2y : (y == 0) = false := beq_eq_false_iff_ne.2 hy0
            have h3y : (y != 0) = true := by simp [bne, h2y]
            have Hbe := Lib.hid (show bxE P.length M x most = y by unfold bxE; rw [if_neg (by rw [← hy]; exact hy0), hy])
            have Hbn := Lib.hid (show ¬ bxE P.length M x most = 0 by rw [Hbe.out]; exact hy0)
            clear hy
            clear hT hp4
            go_wp2_with fail
            refine (hbx.out _ (Ext.refl _)).mono ?_
            rintro e Y1 ⟨hF1, (⟨_, rfl⟩ | ⟨q1, _⟩)⟩
            · rw [Hbe.out]
              replace t0 := hF1.cell t0
              replace t1 := hF1.cell t1
              replace t2 := hF1.cell t2
              go_wp2_with fail
              refine (hle.out _ hF1).mono ?_
              rintro e Y2 ⟨hF2, (⟨_, rfl⟩ | ⟨q1, _⟩)⟩
              · rw [Hbe.out]
                replace t0 := hF2.cell t0
                replace t1 := hF2.cell t1
                replace t2 := hF2.cell t2
                go_wp2_with fail
                refine (htm.out _ (hF1.trans hF2)).mono ?_
                rintro e Y3 ⟨rfl, hF3⟩
                have eF := ((e5.trans hF1).trans hF2).trans hF3
                go_wp2_with fail
                go_ret
                exact ⟨rfl, eF⟩
              · exact absurd q1 Hbn.out
            · exact absurd q1 Hbn.out
        · have hm100b : ¬ 100 < most := by omega
          go_wp2_with fail
          refine (hmk.out _ e3).mono ?_
          rintro e X4 ⟨t, C, M, rfl, ht, hE3⟩
          have e4 := e3.trans hE3
          generalize prL b = P at *
          obtain ⟨sp, cp, sc, lc, cc, sm, lm, cm, rfl, hT⟩ := ht.open
          have hml : lm = M.length := by obtain ⟨_, _, _, _, _, e, _⟩ := hT.hM; injection e
          subst hml
          have hp4 := hT.ok.p4
          have ea := (Ext.refl X4).alloc (.cells #[.slice sp P.length cp, .slice sc lc cc, .slice sm M.length cm] 34)
          have e5 := e4.alloc (.cells #[.slice sp P.length cp, .slice sc lc cc, .slice sm M.length cm] 34)
          have t0 : (X4.alloc (.cells #[.slice sp P.length cp, .slice sc lc cc, .slice sm M.length cm] 34)).cell? ⟨X4.heap.size, 0, none⟩ = some (.slice sp P.length cp) := by go_simp
          have t1 : (X4.alloc (.cells #[.slice sp P.length cp, .slice sc lc cc, .slice sm M.length cm] 34)).cell? ⟨X4.heap.size, 1, none⟩ = some (.slice sc lc cc) := by go_simp
          have t2 : (X4.alloc (.cells #[.slice sp P.length cp, .slice sc lc cc, .slice sm M.length cm] 34)).cell? ⟨X4.heap.size, 2, none⟩ = some (.slice sm M.length cm) := by go_simp
          have HT4 := Lib.hid (hT.ext ea)
          have hbx := Lib.hid (fun W (hW : Ext (X4.alloc (.cells #[.slice sp P.length cp, .slice sc lc cc, .slice sm M.length cm] 34)) W) => gBox_any (most := most) (HT4.out.ext hW) (Hx.out.ext (e5.trans hW)) (HL.out.ext (e5.trans hW)))
          have hle := Lib.hid (fun W (hW : Ext (X4.alloc (.cells #[.slice sp P.length cp, .slice sc lc cc, .slice sm M.length cm] 34)) W) => gLeast_any (most := most) (HT4.out.ext hW) (Hx.out.ext (e5.trans hW)) (HL.out.ext (e5.trans hW)))
          have htm := Lib.hid (fun W (hW : Ext (X4.alloc (.cells #[.slice sp P.length cp, .slice sc lc cc, .slice sm M.length cm] 34)) W) => tempered20_any (HT4.out.ext hW) (Hx.out.ext (e5.trans hW)))
          obtain ⟨y, hy⟩ : ∃ y, y = bgE M.length x := ⟨_, rfl⟩
          rw [← hy] at htm
          clear ht hE3 hmk hft hsm hkn p0 p1 p2 e1 e2 e3 hX
          by_cases hy0 : y = 0
          · subst hy0
            obtain ⟨m, rfl⟩ : ∃ m : Nat, most = (m : Int) := ⟨most.toNat, by omega⟩
            have hm9 : m ≤ 3 := by omega
            have hlx := (bgE_ok hy.symm).2
            obtain ⟨Tt, hT9⟩ : ∃ T, T = (2 * m + 1) ^ P.length := ⟨_, rfl⟩
            have hTb : Tt ≤ 2401 := by rw [hT9]; exact Nat.le_trans (Nat.le_trans (Nat.pow_le_pow_left (show 2 * m + 1 ≤ 7 by omega) _) (Nat.pow_le_pow_right (by omega) hp4)) (by decide)
            have Hbe := Lib.hid (show bxE P.length M x m = 0 by unfold bxE; rw [if_pos hy.symm, if_neg (by omega), Int.toNat_natCast, ← hT9, if_neg (by omega)])
            have hbo := Lib.hid (fun W (hW : Ext (X4.alloc (.cells #[.slice sp P.length cp, .slice sc lc cc, .slice sm M.length cm] 34)) W) => box20_any (m := m) (HT4.out.ext hW) (Hx.out.ext (e5.trans hW)) hlx hm9)
            have hpr := hT.ok.pr
            have hsi := Lib.hid (fun W sl nl cl L (hW : Ext (X4.alloc (.cells #[.slice sp P.length cp, .slice sc lc cc, .slice sm M.length cm] 34)) W) (hl : MatR W (.slice sl nl cl) L) (hbig : L.length ≤ 1000000) (h0 : 0 < L.length) (hm : ∀ y ∈ L, List.length y = P.length ∧ ∀ z ∈ y, -1000 ≤ z ∧ z ≤ 1000) => simplest20_ok (HT4.out.hP.ext hW) hp4 hpr hl hbig h0 hm (HL.out.ext (e5.trans hW)))
            have HT := Lib.hid hT9
            clear hy hT hT9 hlx hpr
            go_wp2_with fail
            refine (hbx.out _ (Ext.refl _)).mono ?_
            rintro e Y1 ⟨hF1, (⟨q1, _⟩ | ⟨_, v, rfl, hv⟩)⟩
            · exact absurd Hbe.out q1
            rw [Int.toNat_natCast, ← HT.out] at hv
            obtain ⟨L, hLe⟩ : ∃ L, L = bxL M x P.length m Tt := ⟨_, rfl⟩
            have HLe := Lib.hid hLe
            have hLl : L.length ≤ 2401 := by rw [hLe]; exact Nat.le_trans (bxL_len _ _ _ _ _) hTb
            have Hmem := Lib.hid (show ∀ y ∈ L, List.length y = P.length ∧ ∀ z ∈ y, -1000 ≤ z ∧ z ≤ 1000 from fun y hy => by
              rw [hLe] at hy
              obtain ⟨k1, k2, _⟩ := bxL_mem hy
              exact ⟨k1, fun z hz => by have := k2 z hz; omega⟩)
            rw [← hLe] at hv
            obtain ⟨sl, gl, ol, cl, vs, rfl, _, _, _, _⟩ := id hv.mat
            have HM1 := Lib.hid hv.mat
            replace t0 := hF1.cell t0
            replace t1 := hF1.cell t1
            replace t2 := hF1.cell t2
            clear hv hLe
            go_wp2_with fail
            refine (hle.out _ hF1).mono ?_
            rintro e Y2 ⟨hF2, (⟨q1, _⟩ | ⟨_, L', hL', hLd⟩)⟩
            · exact absurd Hbe.out q1
            rw [Int.toNat_natCast, ← HT.out, ← HLe.out] at hL'
            subst hL'
            rcases hLd with ⟨h0, rfl⟩ | ⟨h0, s, n9, c9, rfl, hRy⟩
            · have h0I : (L'.length : Int) = 0 := by omega
              clear h0
              replace t0 := hF2.cell t0
              replace t1 := hF2.cell t1
              replace t2 := hF2.cell t2
              have e6 := (e5.trans hF1).trans hF2
              go_wp2_with fail
              refine (htm.out _ (hF1.trans hF2)).mono ?_
              rintro e Y3 ⟨rfl, hF3⟩
              replace t0 := hF3.cell t0
              replace t1 := hF3.cell t1
              replace t2 := hF3.cell t2
              have g3 := (hF1.trans hF2).trans hF3
              go_wp2_with fail
              refine (hbo.out _ g3).mono ?_
              rintro e Y4 ⟨⟨v2, rfl, hv2⟩, hF4⟩
              rw [← HT.out, ← HLe.out] at hv2
              obtain ⟨sl2, gl2, ol2, cl2, vs2, rfl, _, _, _, _⟩ := id hv2.mat
              have HM2 := Lib.hid hv2.mat
              replace t0 := hF4.cell t0
              replace t1 := hF4.cell t1
              replace t2 := hF4.cell t2
              have g4 := g3.trans hF4
              clear hv2
              go_wp2_with fail
              refine (rows20_any (HM1.out.ext ((hF2.trans hF3).trans hF4)) (by omega)).mono ?_
              rintro e Y5 ⟨⟨v5, rfl, hv5⟩, hF5⟩
              obtain ⟨sl5, gl5, ol5, cl5, vs5, rfl, _, _, _, _⟩ := id hv5
              have HM5 := Lib.hid hv5
              replace t0 := hF5.cell t0
              replace t1 := hF5.cell t1
              replace t2 := hF5.cell t2
              clear hv5
              go_wp2_with fail
              refine (rows20_any (HM2.out.ext hF5) (by omega)).mono ?_
              rintro e Y6 ⟨⟨v6, rfl, hv6⟩, hF6⟩
              obtain ⟨sl6, gl6, ol6, cl6, vs6, rfl, _, _, _, _⟩ := id hv6
              have HM6 := Lib.hid hv6
              replace t0 := hF6.cell t0
              replace t1 := hF6.cell t1
              replace t2 := hF6.cell t2
              clear hv6
              have hsa := same20_any (HM5.out.ext hF6) HM6.out (by omega) (fun r hr => by have := (Hmem.out r hr).1; omega)
              rw [decide_eq_true rfl] at hsa
              go_wp2_with fail
              refine hsa.mono ?_
              rintro e Y7 ⟨rfl, hF7⟩
              replace t0 := hF7.cell t0
              replace t1 := hF7.cell t1
              replace t2 := hF7.cell t2
              have g7 := ((g4.trans hF5).trans hF6).trans hF7
              clear hsa
              have eF := e5.trans g7
              go_wp2_with fail
              go_ret
              exact ⟨rfl, eF⟩
            · have h0I : (0 : Int) < (L'.length : Int) := by omega
              have HRy := Lib.hid hRy
              clear hRy
              replace t0 := hF2.cell t0
              replace t1 := hF2.cell t1
              replace t2 := hF2.cell t2
              have e6 := (e5.trans hF1).trans hF2
              go_wp2_with fail
              refine (htm.out _ (hF1.trans hF2)).mono ?_
              rintro e Y3 ⟨rfl, hF3⟩
              replace t0 := hF3.cell t0
              replace t1 := hF3.cell t1
              replace t2 := hF3.cell t2
              have g3 := (hF1.trans hF2).trans hF3
              go_wp2_with fail
              refine (hbo.out _ g3).mono ?_
              rintro e Y4 ⟨⟨v2, rfl, hv2⟩, hF4⟩
              rw [← HT.out, ← HLe.out] at hv2
              obtain ⟨sl2, gl2, ol2, cl2, vs2, rfl, _, _, _, _⟩ := id hv2.mat
              have HM2 := Lib.hid hv2.mat
              replace t0 := hF4.cell t0
              replace t1 := hF4.cell t1
              replace t2 := hF4.cell t2
              have g4 := g3.trans hF4
              clear hv2
              go_wp2_with fail
              refine (rows20_any (HM1.out.ext ((hF2.trans hF3).trans hF4)) (by omega)).mono ?_
              rintro e Y5 ⟨⟨v5, rfl, hv5⟩, hF5⟩
              obtain ⟨sl5, gl5, ol5, cl5, vs5, rfl, _, _, _, _⟩ := id hv5
              have HM5 := Lib.hid hv5
              replace t0 := hF5.cell t0
              replace t1 := hF5.cell t1
              replace t2 := hF5.cell t2
              clear hv5
              go_wp2_with fail
              refine (rows20_any (HM2.out.ext hF5) (by omega)).mono ?_
              rintro e Y6 ⟨⟨v6, rfl, hv6⟩, hF6⟩
              obtain ⟨sl6, gl6, ol6, cl6, vs6, rfl, _, _, _, _⟩ := id hv6
              have HM6 := Lib.hid hv6
              replace t0 := hF6.cell t0
              replace t1 := hF6.cell t1
              replace t2 := hF6.cell t2
              clear hv6
              have hsa := same20_any (HM5.out.ext hF6) HM6.out (by omega) (fun r hr => by have := (Hmem.out r hr).1; omega)
              rw [decide_eq_true rfl] at hsa
              go_wp2_with fail
              refine hsa.mono ?_
              rintro e Y7 ⟨rfl, hF7⟩
              replace t0 := hF7.cell t0
              replace t1 := hF7.cell t1
              replace t2 := hF7.cell t2
              have g7 := ((g4.trans hF5).trans hF6).trans hF7
              clear hsa
              have hRl : (L'.getD (bstI (hgtA P) L' L'.length) []).length ≤ 1000000 := by
                have hq := bstI_lt (h := hgtA P) (L := L') h0
                rw [getD_get hq]
                have := (Hmem.out _ (List.getElem_mem hq)).1
                omega
              go_wp2_with fail
              refine (hsi.out _ _ _ _ _ g7 (HM2.out.ext ((hF5.trans hF6).trans hF7)) (by omega) h0 Hmem.out).mono ?_
              rintro e Y8 ⟨⟨s8, n8, c8, rfl, hR8⟩, hF8⟩
              have hs9 := same_yes (HRy.out.ext (((((hF3.trans hF4).trans hF5).trans hF6).trans hF7).trans hF8)) hR8 hRl rfl
              go_wp2_with fail
              refine hs9.mono ?_
              rintro e Y9 ⟨rfl, hF9⟩
              have eF := ((e5.trans g7).trans hF8).trans hF9
              go_wp2_with fail
              go_ret
              exact ⟨rfl, eF⟩
          · skip
            have h2y : (y == 0) = false := beq_eq_false_iff_ne.2 hy0
            have h3y : (y != 0) = true := by simp [bne, h2y]
            have Hbe := Lib.hid (show bxE P.length M x most = y by unfold bxE; rw [if_neg (by rw [← hy]; exact hy0), hy])
            have Hbn := Lib.hid (show ¬ bxE P.length M x most = 0 by rw [Hbe.out]; exact hy0)
            clear hy
            clear hT hp4
            go_wp2_with fail
            refine (hbx.out _ (Ext.refl _)).mono ?_
            rintro e Y1 ⟨hF1, (⟨_, rfl⟩ | ⟨q1, _⟩)⟩
            · rw [Hbe.out]
              replace t0 := hF1.cell t0
              replace t1 := hF1.cell t1
              replace t2 := hF1.cell t2
              go_wp2_with fail
              refine (hle.out _ hF1).mono ?_
              rintro e Y2 ⟨hF2, (⟨_, rfl⟩ | ⟨q1, _⟩)⟩
              · rw [Hbe.out]
                replace t0 := hF2.cell t0
                replace t1 := hF2.cell t1
                replace t2 := hF2.cell t2
                go_wp2_with fail
                refine (htm.out _ (hF1.trans hF2)).mono ?_
                rintro e Y3 ⟨rfl, hF3⟩
                have eF := ((e5.trans hF1).trans hF2).trans hF3
                go_wp2_with fail
                go_ret
                exact ⟨rfl, eF⟩
              · exact absurd q1 Hbn.out
            · exact absurd q1 Hbn.out
  · rw [decide_eq_false hz3] at hft
    clear hmk hz3 hsm
    go_enter Tryz.func3, Tryz.ntmps3
    go_wp2_with fail
    refine (hkn.out _ hX).mono ?_
    rintro e X ⟨rfl, hE1⟩
    have p0 := hE1.cell p0
    have p1 := hE1.cell p1
    have p2 := hE1.cell p2
    have e1 := hX.trans hE1
    clear hE1
    go_wp2_with fail
    refine (hft.out _ e1).mono ?_
    rintro e X2 ⟨rfl, hE2⟩
    have p0 := hE2.cell p0
    have p1 := hE2.cell p1
    have p2 := hE2.cell p2
    have e2 := e1.trans hE2
    clear hE2
    go_wp2_with fail
    refine (hkn.out _ e2).mono ?_
    rintro e X4 ⟨rfl, hEk⟩
    go_wp2_with fail
    go_ret
    exact ⟨rfl, e2.trans hEk⟩
end Go.Proofs.YtkjnjmihfonilaaGreatDoor
namespace Go.Proofs.YtkjnjmihfonilaaGreatDoor
open Go.ChangeShapes Go.WideShapes Go.ChangeAt Go.WideMaps Go.WideElems Go.RowKit Go.Deep
theorem fr_own : ownKnob Tryz.prog.godebug = none := by kernel_rfl
theorem fr_laidOut : laidOutB Tryz.prog = true := by kernel_rfl
theorem fr_pow : Tryz.prog.globalNamed "internal/strconv.uint64pow10" = some 2 := by kernel_rfl
theorem fr_powT : (Tryz.prog.globals[2]?).map (·.type) = some 260 := by kernel_rfl
theorem fr_rng : Tryz.prog.globalNamed "strconv.ErrRange" = some 1 := by kernel_rfl
theorem fr_rngT : (Tryz.prog.globals[1]?).map (·.type) = some 134 := by kernel_rfl
theorem fr_c20 : Tryz.prog.cellsOf 260 = 20 := by kernel_rfl
theorem fr_cu : Tryz.prog.cellsOf 126 = 1 := by kernel_rfl
theorem fr_cE : Tryz.prog.cellsOf 266 = 1 := by kernel_rfl
theorem fr_cS : Tryz.prog.cellsOf 9 = 1 := by kernel_rfl
theorem fr_cI : Tryz.prog.cellsOf 3 = 1 := by kernel_rfl
theorem fr_star : "*" ++ "errors.errorString" = "*errors.errorString" := by decide
theorem fr_ptr (u : TypeId) (h : Tryz.prog.typeName? 3 u = some "*errors.errorString") : u = 264 :=
  typeName_ptr_named (nm := "errors.errorString") (by rw [fr_star]; kernel_rfl) (by kernel_rfl) (by decide) u (by rw [fr_star]; exact h)
abbrev fr_list : List (String × DataW Unit) := [("math/bits.deBruijn32tab", Rows.laid_math_bits_deBruijn32tab), ("math/bits.deBruijn64tab", Rows.laid_math_bits_deBruijn64tab), ("internal/strconv.uint64pow10", Rows.laid_internal_strconv_uint64pow10), ("strconv.ErrRange", Rows.laid_strconv_ErrRange), ("strconv.ErrSyntax", Rows.laid_strconv_ErrSyntax)]
theorem fr_tab : (Rows.laid_internal_strconv_uint64pow10 : DataW Unit) = Lib.tabData .u64 Lib.pow10Tab := by kernel_rfl
theorem laid_of {W : World} (h : laidMetH Tryz.prog fr_list W) : Laid W := by
  rw [MakeChecks.laidMetH_plain _ _ _ (by kernel_rfl)] at h
  have h3 := h.tail.tail
  rw [fr_tab] at h3
  refine ⟨Lib.tabIs_of_head fr_pow fr_powT Tryz.underlying260 Tryz.underlying126 fr_cu fr_c20 h3, ?_⟩
  obtain ⟨a, s, hv, _⟩ := laid_sentinel h3.tail fr_rng fr_rngT Tryz.underlying134 fr_ptr Tryz.underlying264 Tryz.underlying266 rfl rfl Tryz.underlying9 fr_cE fr_cS
  exact ⟨_, _, hv⟩
theorem door_met (os : Os) (args : Array Value) : laidMetH Tryz.prog fr_list ((World.doorLaid Tryz.prog 400 os).forCall (fun _ _ => 0) ⟨#[], args, []⟩).memory :=
  laidMetH_of_parts3 (fuel := 8) (laidMet_of_run' 8 (by kernel_rfl) (by kernel_rfl)) (by kernel_rfl) (by kernel_rfl)
theorem row_open {W : World} {A : Option Addr} {L C : Nat} {Z : List Int} {base : Nat} (h1 : L ≤ C) (h2 : Z.length = C) (h3 : A = none → C = 0) (h4 : ∀ a', A = some a' → base ≤ a'.block ∧ ∀ c, c < C → W.cell? (a'.add c) = some (.int .i64 (Z.getD c 0))) : RowR W (.slice A L C) (Z.take L) := by
  have hl : (Z.take L).length = L := by rw [List.length_take]; omega
  cases A with
  | none =>
    have hC := h3 rfl
    refine ⟨none, 0, 0, C, by rw [hl], by rw [hl]; exact h1, fun h => ?_, fun i x hx => ?_⟩
    · rw [is_length, hl] at h; omega
    · have := (List.getElem?_eq_some_iff.1 hx).1
      rw [is_length, hl] at this; omega
  | some a =>
    obtain ⟨_, hc⟩ := h4 a rfl
    have hsp : 0 < L → a.spot = none := fun h => by simpa [Addr.add] using World.cell?_spot (hc 0 (by omega))
    obtain ⟨b, o, sp⟩ := a
    refine ⟨some ⟨b, o, sp⟩, b, o, C, by rw [hl], by rw [hl]; exact h1, fun h => ?_, fun i x hx => ?_⟩
    · rw [is_length, hl] at h
      have := hsp h
      simp at this
      rw [this]
    · have hi := (List.getElem?_eq_some_iff.1 hx).1
      rw [is_length, hl] at hi
      have := hsp (by omega)
      simp at this
      subst this
      rw [is_get (by rw [hl]; exact hi)] at hx
      have e := Option.some.inj hx
      rw [← e, ← add_plain, hc i (by omega), List.getElem_take, getD_get (by omega)]
end Go.Proofs.YtkjnjmihfonilaaGreatDoor
namespace Go.Proofs.YtkjnjmihfonilaaGreatDoor
open Go.ChangeShapes Go.WideShapes Go.ChangeAt Go.WideMaps Go.WideElems Go.RowKit Go.Deep
theorem fr_c8 : Tryz.prog.cellsOf 51 = 1 := by kernel_rfl
theorem take_one {l : List Value} {k : Nat} {x : Value} (h : (l.drop k).take 1 = [x]) : l[k]? = some x := by
  have := congrArg (·[0]?) h
  simpa [List.getElem?_take] using this
theorem i8_bounds {n : Int} (h : (Lit.int .i8 n).wf = true) : -128 ≤ n ∧ n ≤ 127 := by
  simp only [Lit.wf, Bool.and_eq_true, decide_eq_true_eq] at h
  have e1 : IntKind.i8.min = -128 := by rfl
  have e2 : IntKind.i8.max = 127 := by rfl
  omega
theorem u8_bounds {n : Int} (h : (Lit.int .u8 n).wf = true) : 0 ≤ n ∧ n ≤ 255 := by
  simp only [Lit.wf, Bool.and_eq_true, decide_eq_true_eq] at h
  have e1 : IntKind.u8.min = 0 := by rfl
  have e2 : IntKind.u8.max = 255 := by rfl
  omega
theorem i8_cells {H : Type} {enc : TypeId × Value → H} {W : World} {base : Nat} {sp : Nat → Bool} {held : Bool} {fuel n : Nat} {t : TypeId} {l : List Value} {x : DataW H × List MemPlace} (ht : Tryz.prog.underlying t = some (.array n 51))
    (h : DataW.trod enc Tryz.prog W base sp held fuel t l = some x) : ∀ j, j < n → ∃ z : Int, l[j]? = some (.int .i8 z) ∧ -128 ≤ z ∧ z ≤ 127 := by
  obtain ⟨xs, m, _, _, _, hxl, hx⟩ := DataW.trod_array ht h
  intro j hj
  have h1 := hx j hj
  rw [fr_c8, Nat.mul_one, List.getElem?_eq_getElem (by omega)] at h1
  obtain ⟨z, hz, _, hw⟩ := DataW.trod_int Tryz.underlying51 h1
  exact ⟨z, take_one hz, i8_bounds hw⟩
end Go.Proofs.YtkjnjmihfonilaaGreatDoor
namespace Go.Proofs.YtkjnjmihfonilaaGreatDoor
open Go.ChangeShapes Go.WideShapes Go.ChangeAt Go.WideMaps Go.WideElems Go.RowKit Go.Deep
theorem fr_cP18 : Tryz.prog.cellsOf 24 = 3 := by kernel_rfl
theorem fr_cA4 : Tryz.prog.cellsOf 52 = 4 := by kernel_rfl
theorem cells_four {W : World} {base : Nat} {a : Addr} {l : List Value} (h : W.cells? base a 4 = some l) : ∀ j, j < 4 → W.cell? (a.add j) = l[j]? := by
  unfold World.cells? at h
  split at h
  case isFalse => cases h
  intro j hj
  have hj2 := Go.mapM_some_get h j
  have hl : l.length = 4 := by
    have := Go.mapM_some_length h
    simpa using this
  have h0 := hj2 j (by simp [hj])
  simpa using h0
theorem rowsA_open {H : Type} {enc : TypeId × Value → H} {W : World} {base : Nat} {held : Bool} {fuel : Nat} {l : List Value} {x : DataW H × List MemPlace}
    (h : DataW.trod enc Tryz.prog W base (fun _ => true) held fuel 22 l = some x) : ∃ v Z, l = [v] ∧ RowsA W v Z := by
  rcases open_slice Tryz.underlying22 h with ⟨hcs, _⟩ | ⟨a, len, cap, m, n, D, Pl, hcs, _, hl, hmx, hm, _, hel⟩
  · exact ⟨.slice none 0 0, [], hcs, none, 0, 0, 0, rfl, Nat.le_refl _, fun h => by simp at h, fun i h => by simp at h, fun i h => by simp at h⟩
  · rw [if_pos rfl] at hm
    subst hm
    rw [fr_cA4] at hel
    have hex : ∀ i, i < len → ∃ zs : List Int, (zs.length = 4 ∧ ∀ z ∈ zs, -128 ≤ z ∧ z ≤ 127) ∧ ∀ j, j < 4 → W.cell? (a.add (i * 4 + j)) = some (.int .i8 (zs.getD j 0)) := by
      intro i hi
      obtain ⟨cs', h1, h2⟩ := hel i (by omega)
      have h3 := i8_cells Tryz.underlying52 h2
      have h4 := cells_four h1
      obtain ⟨z0, k0, b0⟩ := h3 0 (by omega)
      obtain ⟨z1, k1, b1⟩ := h3 1 (by omega)
      obtain ⟨z2, k2, b2⟩ := h3 2 (by omega)
      obtain ⟨z3, k3, b3⟩ := h3 3 (by omega)
      refine ⟨[z0, z1, z2, z3], ⟨rfl, fun z hz => ?_⟩, fun j hj => ?_⟩
      · simp only [List.mem_cons, List.not_mem_nil, or_false] at hz
        rcases hz with rfl | rfl | rfl | rfl <;> assumption
      · rw [← add_add, h4 j hj]
        rcases (show j = 0 ∨ j = 1 ∨ j = 2 ∨ j = 3 by omega) with rfl | rfl | rfl | rfl
        · exact k0
        · exact k1
        · exact k2
        · exact k3
    obtain ⟨f, hf⟩ := choose_lt hex
    have hsp : 0 < len → a.spot = none := fun h => by simpa [Addr.add] using World.cell?_spot ((hf 0 h).2 0 (by omega))
    obtain ⟨b, o, sp⟩ := a
    refine ⟨_, (List.range len).map f, hcs, some ⟨b, o, sp⟩, b, o, m, by simp, by simpa using hl, fun h => ?_, fun i hi => ?_, fun i hi j hj => ?_⟩
    · have := hsp (by simpa using h)
      simp at this
      rw [this]
    · have hi' : i < len := by simpa using hi
      simpa using (hf i hi').1
    · have hi' : i < len := by simpa using hi
      have := hsp (by omega)
      simp at this
      subst this
      have k1 := (hf i hi').2 j hj
      rw [add_plain] at k1
      rw [show o + 4 * i + j = o + (i * 4 + j) by omega, k1]
      simp
theorem list3t {l : List Value} {a b c : Value} (hl : l.length = 3) (h0 : (l.drop 0).take 1 = [a]) (h1 : (l.drop 1).take 1 = [b]) (h2 : (l.drop 2).take 1 = [c]) : l = [a, b, c] := by
  match l, hl with
  | [p, q, r], _ =>
    simp at h0 h1 h2
    subst h0 h1 h2
    rfl
set_option maxRecDepth 100000 in
theorem plan18_open {H : Type} {enc : TypeId × Value → H} {W : World} {base : Nat} {held : Bool} {fuel : Nat} {cs : Array Value} {x : DataW H × List MemPlace} (hs : cs.size = 3)
    (h : DataW.trod enc Tryz.prog W base (fun _ => true) held fuel 24 cs.toList = some x) : ∃ b rv vals Z, cs = #[.int .u8 b, rv, .bool vals] ∧ (0 ≤ b ∧ b ≤ 255) ∧ RowsA W rv Z := by
  obtain ⟨xs, n, _, _, _, hxl, hx⟩ := DataW.trod_struct Tryz.underlying24 h
  have hx3 : xs.length = 3 := hxl
  have h0 := hx 0 _ rfl
  have h1 := hx 1 _ rfl
  have h2 := hx 2 _ rfl
  rw [List.getElem?_eq_getElem (by omega)] at h0 h1 h2
  have h0' : DataW.trod enc Tryz.prog W base (fun _ => true) held n 5 ((cs.toList.drop 0).take 1) = some xs[0] := h0
  have h1' : DataW.trod enc Tryz.prog W base (fun _ => true) held n 22 ((cs.toList.drop 1).take 1) = some xs[1] := h1
  have h2' : DataW.trod enc Tryz.prog W base (fun _ => true) held n 4 ((cs.toList.drop 2).take 1) = some xs[2] := h2
  obtain ⟨b, hb, _, wb⟩ := DataW.trod_int Tryz.underlying5 h0'
  obtain ⟨v, Z, hv, hZ⟩ := rowsA_open h1'
  obtain ⟨vals, hvl, _⟩ := DataW.trod_bool Tryz.underlying4 h2'
  have hl := list3t (by simpa using hs) hb hv hvl
  exact ⟨b, v, vals, Z, by rw [show cs = cs.toList.toArray from Array.toArray_toList.symm, hl], u8_bounds wb, hZ⟩
end Go.Proofs.YtkjnjmihfonilaaGreatDoor
namespace Go.Proofs.YtkjnjmihfonilaaGreatDoor
open Go.ChangeShapes Go.WideShapes Go.ChangeAt Go.WideMaps Go.WideElems Go.RowKit Go.Deep
theorem introw_open {H : Type} {enc : TypeId × Value → H} {W : World} {base : Nat} {held : Bool} {fuel : Nat} {v : Value} {x : DataW H × List MemPlace} (hv : v.cells.toList = [v])
    (h : DataW.trod enc Tryz.prog W base (fun _ => true) held fuel 26 v.cells.toList = some x) : ∃ r, RowR W v r := by
  rw [hv] at h
  rcases open_ints Tryz.underlying26 Tryz.underlying3 fr_cI h with ⟨hcs, _⟩ | ⟨a, len, cap, zs, hcs, hb, hl, _, hz, _, hc, _⟩
  · obtain rfl : v = .slice none 0 0 := by simpa using hcs
    exact ⟨[], row_open (base := 0) (Z := []) (Nat.le_refl 0) rfl (fun _ => rfl) (fun a' h => by cases h)⟩
  · obtain rfl : v = .slice (some a) len cap := by simpa using hcs
    rw [if_pos rfl] at hz
    exact ⟨zs.take len, row_open (base := base) hl hz (fun h => by cases h) (fun a' h => by cases h; exact ⟨hb, fun c hcc => hc c (by omega)⟩)⟩
end Go.Proofs.YtkjnjmihfonilaaGreatDoor
namespace Go.Proofs.YtkjnjmihfonilaaGreatDoor
open Go.ChangeShapes Go.WideShapes Go.ChangeAt Go.WideMaps Go.WideElems Go.RowKit Go.Deep
theorem introw_open2 {H : Type} {enc : TypeId × Value → H} {W : World} {base : Nat} {held : Bool} {fuel : Nat} {a0 : Option Addr} {len0 cap0 : Nat} {x : DataW H × List MemPlace}
    (h : DataW.trod enc Tryz.prog W base (fun _ => true) held fuel 26 (Value.slice a0 len0 cap0).cells.toList = some x) : ∃ r, RowR W (.slice a0 len0 cap0) r ∧ r.length ≤ 9223372036854775807 := by
  obtain ⟨r, hr⟩ := introw_open (by simp [Value.cells]) h
  have hl : len0 ≤ maxLen := by
    rw [show (Value.slice a0 len0 cap0).cells.toList = [.slice a0 len0 cap0] by simp [Value.cells]] at h
    rcases open_ints Tryz.underlying26 Tryz.underlying3 fr_cI h with ⟨hcs, _⟩ | ⟨a, len, cap, zs, hcs, _, hl, hm, _⟩
    · injection hcs with h1 _
      injection h1 with _ h2 _
      omega
    · injection hcs with h1 _
      injection h1 with _ h2 _
      omega
  refine ⟨r, hr, ?_⟩
  obtain ⟨sa, gb, go, cap, e, _⟩ := hr
  injection e with _ h2 _
  unfold maxLen at hl
  omega
end Go.Proofs.YtkjnjmihfonilaaGreatDoor
namespace Go.Proofs.YtkjnjmihfonilaaGreatDoor
open Go.ChangeShapes Go.WideShapes Go.ChangeAt Go.WideMaps Go.WideElems Go.RowKit Go.Deep
theorem i64_bounds {n : Int} (h : (Lit.int .i64 n).wf = true) : I64 n := by
  simp only [Lit.wf, Bool.and_eq_true, decide_eq_true_eq] at h
  have e1 : IntKind.i64.min = -9223372036854775808 := by rfl
  have e2 : IntKind.i64.max = 9223372036854775807 := by rfl
  unfold I64
  omega
end Go.Proofs.YtkjnjmihfonilaaGreatDoor
namespace Go.Proofs.YtkjnjmihfonilaaGreatDoor
open Go.ChangeShapes Go.WideShapes Go.ChangeAt Go.WideMaps Go.WideElems Go.RowKit Go.Deep
set_option maxRecDepth 100000 in
set_option maxHeartbeats 2000000 in
theorem generatorBoxes_lifted (os : Os) (started : os.Started) (H : Type) (enc : TypeId × Value → H) :
    ReturnsInHanded {} Tryz.checked os 3 .any (fun w args => (Rows.generatorBoxesSpec.pre enc Tryz.prog Tryz.f3 [] false w args ∧ laidMetH Tryz.prog fr_list w) ∧ sizedMet enc Tryz.prog Tryz.f3 (OpenSpec.ofChange Rows.generatorBoxesSpec) false w args)
      (Rows.generatorBoxesSpec.post enc Tryz.prog Tryz.f3 false true false false) := by
  refine returnsInHanded_of_change_and (C := Tryz.checked) (X := fun w _ => laidMetH Tryz.prog fr_list w) (fun _ _ _ hh h => h.of_heap hh) fr_own started (by kernel_rfl) Tryz.func3
    (ChangeSpec.witness_shaped (enc := enc) (C := Tryz.checked) (os := os) (X := fun w _ => laidMetH Tryz.prog fr_list w) false (World.doorLaid Tryz.prog 400 os) #[.agg #[.int .u8 0, .slice none 0 0, .bool false], .slice none 0 0, .int .i64 0] 8 rfl (World.shaped_of_RefB (by kernel_rfl) (by kernel_rfl)) (by kernel_rfl) (by kernel_rfl) (by kernel_rfl) (door_met os _)) ?_
  intro W base args ds gs before hval0 hW _ _ hL _
  have hval : ∀ (j : Nat) t v, Tryz.f3.params[j]? = some t → args[j]? = some v → Value.okWide Tryz.prog W .any base t v := hval0
  have hW' := hW
  obtain ⟨p, q, hA0, hV, rfl, hfz, hnd⟩ := hW
  have hA : DataW.TrodAll enc Tryz.prog W 0 (fun _ => true) true Tryz.f3.params.toList args.toList ds p := hA0
  rw [Tryz.params3] at hA hval
  obtain ⟨v0, v1, v2, d0, d1, d2, p0, p1, p2, rfl, rfl, rfl, h0, h1, h2⟩ := trodAll_three hA
  obtain ⟨rfl, rfl⟩ := trodVars_none hV
  obtain ⟨cs0, rfl, hs0⟩ := okWide_struct Tryz.underlying24 (hval 0 24 v0 rfl rfl)
  rw [fr_cP18] at hs0
  obtain ⟨a1, len1, cap1, rfl⟩ := okWide_slice Tryz.underlying26 (hval 1 26 v1 rfl rfl)
  obtain ⟨n2, rfl, e2, _, w2⟩ := open_int Tryz.underlying3 (hval 2 3 v2 rfl rfl) h2
  have h0k := h0
  have h1k := h1
  have h2k := h2
  obtain ⟨fuel0, hf0⟩ := h0
  obtain ⟨B0, rv0, vl0, Z0, rfl, hB0, hZ0⟩ := plan18_open hs0 hf0
  obtain ⟨fuel1, hf1⟩ := h1
  obtain ⟨r1, hR1, hm1⟩ := introw_open2 hf1
  have b2 := i64_bounds w2
  clear hA0 hval0 hf0 hf1
  simp only [List.append_nil] at hW'
  have hlt : ∀ z ∈ p0 ++ p1 ++ p2, z.block < W.heap.size := fun z hz => by simpa using hW'.lt z hz
  refine (bxs_walk hB0 hZ0 hR1 hm1 (laid_of hL)).mono ?_
  rintro e W' ⟨rfl, hE⟩
  have e1 : Rows.generatorBoxesSpec.fn H ([d0, d1, d2] ++ []) = { results := [.lit (.bool true)], args := [d0, d1, d2] } := rfl
  refine ⟨_, rfl, _, _, _, [], p0 ++ p1 ++ p2, [], hW', ?_, ?_, ?_, hE.frame _, fun h => by cases h⟩
  · rw [e1]; exact trodAll_mk1 (shut_bool Tryz.underlying4 true)
  · rw [e1, List.append_assoc]; exact trodAll_mk3 (Below.trod fr_laidOut (by kernel_rfl) (of_decide_eq_true (by kernel_rfl)) h0k hE fun x hx => hlt x (by simp [hx])) (Below.trod fr_laidOut (by kernel_rfl) (of_decide_eq_true (by kernel_rfl)) h1k hE fun x hx => hlt x (by simp [hx])) (Below.trod fr_laidOut (by kernel_rfl) (of_decide_eq_true (by kernel_rfl)) h2k hE fun x hx => hlt x (by simp [hx]))
  · rw [e1]; rfl
set_option maxHeartbeats 20000000 in
theorem generatorBoxes_holds : Rows.GeneratorBoxesSaid :=
  OpenClaim.holds_of_wide 3 Tryz.f3 rfl rfl rfl rfl rfl rfl rfl ⟨rfl, rfl, rfl, rfl, rfl⟩ rfl rfl rfl rfl rfl (by as_aux_lemma => kernel_rfl) Tryz.func3 (by
      unfold joinedFacts
      simp only [Bool.and_eq_true]
      repeat' apply And.intro
      all_goals (as_aux_lemma => kernel_rfl))
    (of_decide_eq_true (by kernel_rfl)) (by unfold Func.isWrapper; first | (rw [if_pos (by decide +kernel)]; kernel_rfl) | (rw [if_neg (by decide +kernel)]; exact ⟨rfl, rfl⟩))
    (fun os started H enc _ => generatorBoxes_lifted os started H enc)
set_option maxHeartbeats 20000000 in
theorem generatorBoxes_card : Rows.GeneratorBoxesCardSaid :=
  Claim7.holds_tied_plain_at .later [] [.data, .data, .data, .sentinel, .sentinel] true Rows.generatorBoxesCard.stood.harness true
    generatorBoxes_holds (fun _ h => by cases h) (by as_aux_lemma => kernel_rfl) (fun _ h => by cases h) generatorBoxes_row_tie rfl ⟨rfl, rfl⟩ (by as_aux_lemma => kernel_rfl) rfl
    (fun f fn hf hfn => by
      obtain rfl : f = 3 := Option.some.inj ((show Tryz.prog.funcNamed "schisma/schismalaw20.GeneratorBoxes" = some 3 by as_aux_lemma => kernel_rfl).symm.trans hf) |>.symm
      obtain rfl : fn = Tryz.f3 := (Option.some.inj (Tryz.func3.symm.trans hfn)).symm
      exact ⟨by as_aux_lemma => kernel_rfl, fun j t ht => by
        rw [Tryz.params3] at ht
        have hm : t ∈ [24, 26, 3] := by simpa using Array.mem_of_getElem? ht
        have hall : ([24, 26, 3].all fun u => !Tryz.prog.wantsStandIn u) = true := by as_aux_lemma => kernel_rfl
        exact (show Tryz.prog.wantsStandIn t = false by simpa using List.all_eq_true.1 hall t hm)⟩)
    (by as_aux_lemma => kernel_rfl)
#print axioms generatorBoxes_card
end Go.Proofs.YtkjnjmihfonilaaGreatDoor
