/- Part 30 of the proof of the claim: contracts of the functions that it reaches, and plain laws; no condition. -/
import Derived.Test.YtokjolmpdfmnbaaGreatDoorU29
import Derived.Test.YtokjolmpdfmnbaaGreatDoorU25
import Derived.Test.YtokjolmpdfmnbaaGreatDoorU23
import Derived.Test.YtokjolmpdfmnbaaGreatDoorU28
namespace Go.Proofs.YtokjolmpdfmnbaaGreatDoor
open Go.RowKit Go.Sort
def strOf : Value → ByteArray
  | .string s => s
  | _ => ⟨#[]⟩
set_option maxRecDepth 100000 in
set_option maxHeartbeats 8000000 in
theorem lpc_walk {w : World} {P : Pl} {bb : Int} {ns : List Nm} {vn : Value} (hP : P.ok) (hb : 0 ≤ bb ∧ bb ≤ 255) (hN : NamesR w vn ns) (hL : Laid w) :
    Calls Tryz.prog 7 #[P.v, .int .u8 bb, vn] w fun e w' => e = .returned (.bool true) ∧ Ext w w' := by
  obtain ⟨m, hm⟩ : ∃ m : Nat, bb % 4 = (m : Int) := ⟨(bb % 4).toNat, by omega⟩
  have hm3 : m ≤ 3 := by omega
  have hkn := Lib.hid (fun W (hW : Ext w W) => known44_any (hL.ext hW))
  have hmk := Lib.hid (fun W => make44 (w := W) hP)
  have hpi := Lib.hid (fun W g1 g2 g3 (h : PlP W P g1 g2 g3) (hW : Ext w W) (h6 : ns.length ≤ 6) (hs : ∀ p ∈ ns, p.1.size ≤ 8) => Picture_g (m := m) (LayP.g h) (by omega) (hN.ext hW) (by omega) (fun p hp => by have := hs p hp; omega))
  have hno := Lib.hid (fun W g1 g2 g3 (x y : Int) (h : PlP W P g1 g2 g3) (hx : -1000 ≤ x ∧ x ≤ 1000) (hy : -1000 ≤ y ∧ y ≤ 1000) => note44_any h (x := x) (y := y) (by omega) (by omega))
  obtain ⟨sn, gn, on, cn, rfl, hsn, hcn⟩ := hN.sl
  obtain ⟨nn, hnn⟩ : ∃ nn, nn = ns.length := ⟨_, rfl⟩
  rw [← hnn] at hsn hpi ⊢
  have Hnn := Lib.hid hnn
  have HCn := Lib.hid hcn
  obtain ⟨M, hM⟩ : ∃ M : Int, M = (m : Int) := ⟨_, rfl⟩
  have hM1 : 0 ≤ M := by omega
  have hM2 : M ≤ 3 := by omega
  rw [← hM] at hm hpi
  have HM := Lib.hid hM
  obtain ⟨hn1, hn2⟩ := hb
  have hol : ∀ x y, (atL x y P.o P.r P.u).length = P.n := fun x y => atL_len x y
  have Hol := Lib.hid hol
  have hn3 := P.n3
  have hX : Ext w (w.alloc (.cells #[.bool P.hx, .int .u8 P.m, .int .i8 P.a, .int .i8 P.b, .int .i8 P.c, .int .i8 P.d, .int .i8 P.e, .int .i8 P.f, .int .i8 P.p, .int .i8 P.q, .int .i8 P.s] 76)) := (Ext.refl w).alloc _
  have hpc : plC (w.alloc (.cells #[.bool P.hx, .int .u8 P.m, .int .i8 P.a, .int .i8 P.b, .int .i8 P.c, .int .i8 P.d, .int .i8 P.e, .int .i8 P.f, .int .i8 P.p, .int .i8 P.q, .int .i8 P.s] 76)) w.heap.size P := plC_new w P
  obtain ⟨bp, hbp⟩ : ∃ bp, bp = w.heap.size := ⟨_, rfl⟩
  rw [← hbp] at hpc
  have HA := Lib.hid (show AllG m P.o P.r P.u from fun x y h1 h2 h3 h4 => atL_chk (by omega) (by omega))
  clear hcn hL hP hnn hM hol hN
  by_cases h6 : nn ≤ 6
  case neg =>
    have h9 : (nn : Int) > 6 := by omega
    have h9' : (6 : Int) < (nn : Int) := by omega
    go_enter Tryz.func7, Tryz.ntmps7
    go_wp2_with fail
    refine (hkn.out _ hX).mono ?_
    rintro e w1 ⟨rfl, hE1⟩
    have hX1 := hX.trans hE1
    go_wp2_with fail
    refine (hkn.out _ hX1).mono ?_
    rintro e w2 ⟨rfl, hE2⟩
    have hX2 := hX1.trans hE2
    go_wp2_with fail
    go_ret
    exact ⟨rfl, hX2⟩
  case pos =>
    have h9 : ¬ (nn : Int) > 6 := by omega
    have h9' : ¬ (6 : Int) < (nn : Int) := by omega
    go_enter Tryz.func7, Tryz.ntmps7
    go_wp2_with fail
    refine (hkn.out _ hX).mono ?_
    rintro e w1 ⟨rfl, hE1⟩
    have hX1 := hX.trans hE1
    have hpc1 := hpc.ext hE1
    obtain ⟨k0, k1, k2, k3, k4, k5, k6, k7, k8, k9, k10⟩ := hpc1
    have hpc1 := Lib.hid (hpc.ext hE1)
    rw [← hbp]
    clear hE1 hX hpc hbp
    go_wp2_with fail
    refine (hmk.out _).mono ?_
    rintro e w2 ⟨g1, g2, g3, rfl, hP2, hE2⟩
    have hX2 := hX1.trans hE2
    have hpc2 := Lib.hid (hpc1.out.ext hE2)
    have HP2 := Lib.hid hP2
    have hb := layC_new w2 P.k P.n g1 P.n g2 P.n g3 P.n
    obtain ⟨bl, hbl⟩ : ∃ bl, bl = w2.heap.size := ⟨_, rfl⟩
    rw [← hbl] at hb
    have hE23 : Ext w2 (w2.alloc (.cells #[.int .i64 P.k, slv g1 P.n P.n, slv g2 P.n P.n, slv g3 P.n P.n] 54)) := (Ext.refl w2).alloc _
    have hX3 : Ext w (w2.alloc (.cells #[.int .i64 P.k, slv g1 P.n P.n, slv g2 P.n P.n, slv g3 P.n P.n] 54)) := hX2.alloc _
    have HP3 := Lib.hid (HP2.out.ext hE23)
    have hpc3 := Lib.hid (hpc2.out.ext hE23)
    obtain ⟨w3, hw3⟩ : ∃ w3, w3 = w2.alloc (.cells #[.int .i64 P.k, slv g1 P.n P.n, slv g2 P.n P.n, slv g3 P.n P.n] 54) := ⟨_, rfl⟩
    rw [← hw3] at hb hE23 hX3 HP3 hpc3
    have hX4 := hX3
    have hb4 := Lib.hid hb
    clear k0 k1 k2 k3 k4 k5 k6 k7 k8 k9 k10 hE2 hP2 hX1 hX2 hmk HP2 hpc2 hpc1 hb hE23
    go_wp2_with fail
    rw [← hbl, ← hw3, hm]
    clear hbl hw3 hm
    go_loopw [9, 10, 11] (fun ev av iv wr => ∃ (i : Nat) (e : Int) (a : Nat), i ≤ nn ∧ iv = .int .i64 i ∧ ev = .int .i64 e ∧ av = .int .i64 a ∧ a ≤ 8 ∧ Hid (lawA P.n 0 ns = lawA P.n e (ns.drop i)) ∧ Hid (wdT ns 1 = wdT (ns.drop i) a) ∧ Hid (∀ j (h : j < ns.length), j < i → ns[j].1.size ≤ 8) ∧ Ext w3 wr) (fun _ _ iv _ => nn - (intOf iv).toNat)
    case atStart => exact ⟨0, 0, 1, by omega, by go_num, rfl, by go_num, by omega, Lib.hid rfl, Lib.hid rfl, Lib.hid (fun j h h' => by omega), Ext.refl _⟩
    case round =>
      obtain ⟨i, e, a, hi, rfl, rfl, rfl, ha, HE, HW, HS, hE⟩ := hrel
      generalize wr = X at *
      by_cases hlt : i < nn
      · have hii : (i : Int) < (nn : Int) := by omega
        obtain rfl := hsn (by omega)
        have hXi := hX4.trans hE
        obtain ⟨d0, sr, nr, cr, d1, hR⟩ := HCn.out i (by rw [← Hnn.out]; exact hlt)
        have c0 := hXi.cell d0
        have c1 := hXi.cell d1
        have hlt2 : i < ns.length := by rw [← Hnn.out]; exact hlt
        obtain ⟨b0, b1, b2, b3⟩ := hb4.out.ext hE
        have HRx := hR.ext hXi
        have hq8 : nr = (ns[i].2).length := (hR.opened).1
        have Hst := Lib.hid (lawA_drop (n := P.n) (e := e) hlt2)
        have Hwd := Lib.hid (wdT_drop (a := a) hlt2)
        obtain ⟨s, hs⟩ : ∃ s, s = ns[i].1 := ⟨_, rfl⟩
        obtain ⟨q, hq⟩ : ∃ q, q = ns[i].2 := ⟨_, rfl⟩
        rw [← hs] at c0 Hwd
        rw [← hq] at HRx hq8
        have Hle := Lib.hid (show lawE P.n e ns[i] = if e = 0 then (if s.size = 0 then 13 else rowE P.n q) else e by rw [hs, hq]; rfl)
        have Hs := Lib.hid hs
        have HRh := Lib.hid HRx
        have Hq8 := Lib.hid hq8
        clear hs hq hR d0 d1 HRx hq8
        by_cases h8 : s.size ≤ 8
        case neg =>
          have h8a : (s.size : Int) > 8 := by omega
          have h8b : (8 : Int) < (s.size : Int) := by omega
          go_wp2_with fail
          go_ret
          exact ⟨rfl, hXi⟩
        have h8a : ¬ (s.size : Int) > 8 := by omega
        have h8b : ¬ (8 : Int) < (s.size : Int) := by omega
        by_cases h9 : nr ≤ 8
        case neg =>
          have h9a : (nr : Int) > 8 := by omega
          have h9b : (8 : Int) < (nr : Int) := by omega
          go_wp2_with fail
          go_ret
          exact ⟨rfl, hXi⟩
        have h9a : ¬ (nr : Int) > 8 := by omega
        have h9b : ¬ (8 : Int) < (nr : Int) := by omega
        have HS2 := Lib.hid (show ∀ j (h : j < ns.length), j < i + 1 → ns[j].1.size ≤ 8 from fun j h h' => by
          by_cases e : j = i
          · subst e; rw [← Hs.out]; exact h8
          · exact HS.out j h (by omega))
        obtain ⟨a2, ha2⟩ : ∃ a2, a2 = max a s.size := ⟨_, rfl⟩
        have HW2 := Lib.hid (HW.out.trans (by rw [Hwd.out, ← ha2]))
        have hm2 : max (a : Int) (s.size : Int) = (a2 : Int) := by rw [ha2]; omega
        have hm3 : a2 ≤ 8 := by rw [ha2]; omega
        clear HW Hwd ha2 Hs HS
        by_cases he0 : e = 0
        case neg =>
          have HE2 := Lib.hid (HE.out.trans (Hst.out.trans (by rw [Hle.out, if_neg he0])))
          have f2 : (e == 0) = false := beq_eq_false_iff_ne.2 he0
          have f3 : (e != 0) = true := by simp [bne, f2]
          clear HE Hst Hle
          go_wp2_with fail
          go_roundw
          case rel => exact ⟨i + 1, e, a2, by omega, by go_num, rfl, by go_num, hm3, HE2, HW2, HS2, hE⟩
          case measure => simp [intOf] <;> omega
        subst he0
        by_cases h0 : s.size = 0
        case pos =>
          have hse : s = ⟨#[]⟩ := ByteArray.ext (Array.eq_empty_of_size_eq_zero h0)
          have HE2 := Lib.hid (HE.out.trans (Hst.out.trans (by rw [Hle.out, if_pos rfl, if_pos h0])))
          have hse2 : s.toList.isEmpty = true := by rw [← decide_eq_emptyBytes]; exact decide_eq_true hse
          clear HE Hst Hle h0 hse
          go_wp2_with fail
          go_roundw
          case rel => exact ⟨i + 1, 13, a2, by omega, by go_num, rfl, by go_num, hm3, HE2, HW2, HS2, hE⟩
          case measure => simp [intOf] <;> omega
        have hse : ¬ s = ⟨#[]⟩ := fun e => h0 (by rw [e]; rfl)
        have hse2 : s.toList.isEmpty = false := by rw [← decide_eq_emptyBytes]; exact decide_eq_false (fun e => h0 (by rw [e]; rfl))
        have hck := Lib.hid (rowCheck_any HRh.out)
        obtain ⟨z, hz⟩ : ∃ z, z = chkRow q := ⟨_, rfl⟩
        rw [← hz] at hck
        have Hz := Lib.hid hz
        clear hz
        by_cases hz0 : z = 0
        case neg =>
          have HE2 := Lib.hid (HE.out.trans (Hst.out.trans (by rw [Hle.out, if_pos rfl, if_neg h0, rowE, if_neg (by rw [← Hz.out]; exact hz0), ← Hz.out])))
          have f2 : (z == 0) = false := beq_eq_false_iff_ne.2 hz0
          have f3 : (z != 0) = true := by simp [bne, f2]
          have f4 : decide (z = 0) = false := decide_eq_false hz0
          clear HE Hst Hle hse h0
          go_wp2_with fail
          refine hck.out.mono ?_
          rintro e W5 ⟨rfl, hE5⟩
          have hE6 := hE.trans hE5
          have c2 := hE5.cell c1
          have b4 := hE5.cell b1
          clear hck c0 c1 b0 b1 b2 b3
          go_wp2_with fail
          go_quiet (fail)
          go_wp2_with fail
          go_roundw
          case rel => exact ⟨i + 1, z, a2, by omega, by go_num, rfl, by go_num, hm3, HE2, HW2, HS2, (hE6.drewN _)⟩
          case measure => simp [intOf] <;> omega
        subst hz0
        by_cases hnr : nr = P.n
        case pos =>
          have HE2 := Lib.hid (HE.out.trans (Hst.out.trans (by rw [Hle.out, if_pos rfl, if_neg h0, rowE, if_pos Hz.out.symm, if_pos (by rw [← Hq8.out, hnr])])))
          have f2 : ((nr : Int) == (P.n : Int)) = true := by simp [hnr]
          have f3 : ((nr : Int) != (P.n : Int)) = false := by simp [hnr]
          clear HE Hst Hle hse h0 hnr
          go_wp2_with fail
          refine hck.out.mono ?_
          rintro e W5 ⟨rfl, hE5⟩
          have hE6 := hE.trans hE5
          have c2 := hE5.cell c1
          have b4 := hE5.cell b1
          clear hck c0 c1 b0 b1 b2 b3
          go_wp2_with fail
          go_quiet (fail)
          go_wp2_with fail
          go_roundw
          case rel => exact ⟨i + 1, 0, a2, by omega, by go_num, rfl, by go_num, hm3, HE2, HW2, HS2, (hE6.drewN _)⟩
          case measure => simp [intOf] <;> omega
        have HE2 := Lib.hid (HE.out.trans (Hst.out.trans (by rw [Hle.out, if_pos rfl, if_neg h0, rowE, if_pos Hz.out.symm, if_neg (by rw [← Hq8.out]; exact hnr)])))
        have f1 : ¬ (nr : Int) = (P.n : Int) := by omega
        have f2 : ((nr : Int) == (P.n : Int)) = false := beq_eq_false_iff_ne.2 f1
        have f3 : ((nr : Int) != (P.n : Int)) = true := by simp [bne, f2]
        clear HE Hst Hle hse h0
        go_wp2_with fail
        refine hck.out.mono ?_
        rintro e W5 ⟨rfl, hE5⟩
        have hE6 := hE.trans hE5
        have c2 := hE5.cell c1
        have b4 := hE5.cell b1
        clear hck c0 c1 b0 b1 b2 b3
        go_wp2_with fail
        go_quiet (fail)
        go_wp2_with fail
        go_roundw
        case rel => exact ⟨i + 1, 5, a2, by omega, by go_num, rfl, by go_num, hm3, HE2, HW2, HS2, (hE6.drewN _)⟩
        case measure => simp [intOf] <;> omega
      · have hii : ¬ (i : Int) < (nn : Int) := by omega
        have HPe := Lib.hid (show picE P.n ns = e by rw [← lawA_picE, HE.out, List.drop_of_length_le (by rw [← Hnn.out]; omega)]; rfl)
        have HWd := Lib.hid (show wdT ns 1 = a by rw [HW.out, List.drop_of_length_le (by rw [← Hnn.out]; omega)]; rfl)
        have Hsz := Lib.hid (show ∀ p ∈ ns, p.1.size ≤ 8 from fun p hp => by
          obtain ⟨j, hj, rfl⟩ := List.mem_iff_getElem.1 hp
          exact HS.out j hj (by rw [← Hnn.out] at hj; omega))
        have hXi := hX4.trans hE
        have hPi := Lib.hid (hpi.out X g1 g2 g3 (HP3.out.ext hE) hXi h6 Hsz.out)
        obtain ⟨b0, b1, b2, b3⟩ := hb4.out.ext hE
        have hb5 := Lib.hid (hb4.out.ext hE)
        have HP4 := Lib.hid (HP3.out.ext hE)
        have hpc4 := Lib.hid (hpc3.out.ext hE)
        clear HE HW HS hE hpi HP3 hpc3 hb4
        go_wp2_with fail
        refine hPi.out.mono ?_
        rintro e2 w4 ⟨hp, hE4⟩
        have hX5 := hXi.trans hE4
        clear hPi
        by_cases he0 : e = 0
        case neg =>
          rcases hp with ⟨_, rfl⟩ | ⟨h, _⟩ | ⟨h, _⟩
          case inr.inl => exact absurd (HPe.out.symm.trans h) he0
          case inr.inr => exact absurd (HPe.out.symm.trans h) he0
          rw [HPe.out]
          have f2 : (e == 0) = false := beq_eq_false_iff_ne.2 he0
          have f3 : (e != 0) = true := by simp [bne, f2]
          clear b0 b1 b2 b3
          go_wp2_with fail
          go_ret
          exact ⟨by simp, hX5⟩
        subst he0
        rcases hp with ⟨h, _⟩ | ⟨_, h, _⟩ | ⟨_, _, v, rfl, hv⟩
        · exact absurd HPe.out h
        · exact absurd HA.out h
        obtain ⟨L, hLm⟩ : ∃ L, L = 2 * m + 1 := ⟨_, rfl⟩
        rw [← hLm] at hv
        obtain ⟨gl, cl, e, _, _, hcl⟩ := hv.shape (by rw [picTo_length]; omega)
        rw [picTo_length] at e
        subst e
        rw [HWd.out] at hcl
        have Hcl := Lib.hid hcl
        have HLM := Lib.hid (show (L : Int) = 2 * M + 1 by rw [HM.out]; omega)
        have HLm := Lib.hid hLm
        have u1 : ((L : Int) == 2 * M + 1) = true := by rw [beq_iff_eq]; exact HLM.out
        have u2 : ((L : Int) != 2 * M + 1) = false := by simp [bne, u1]
        have hL7 : L ≤ 7 := by omega
        have hL7' : (L : Int) ≤ 7 := by omega
        have Hnl := Lib.hid (show ∀ q, (nameOf q ns).size ≤ a from fun q => by rw [← HWd.out]; exact nameOf_le (wdT_ge (ns := ns) (a := 1)).1 (wdT_ge (ns := ns) (a := 1)).2)
        have Hnr := Lib.hid (picE_all HPe.out)
        have hb6 := Lib.hid (hb5.out.ext hE4)
        have HP5 := Lib.hid (HP4.out.ext hE4)
        have hpc5 := Lib.hid (hpc4.out.ext hE4)
        have hwm : IntKind.i64.wrap (2 * M) = 2 * M := IntWalk.i64_in _ (by omega)
        have hwm2 : IntKind.i64.wrap (2 * M + 1) = 2 * M + 1 := IntWalk.i64_in _ (by omega)
        have hng1 : IntKind.i64.wrap (-M) = -M := IntWalk.i64_in _ (by omega)
        have hng2 : IntKind.i64.wrap (0 - M) = -M := by rw [IntWalk.i64_in _ (by omega)]; omega
        clear b0 b1 b2 b3 hv hcl hE4 hb5 HP4 hpc4 hX4 hXi hLm
        go_wp2_with fail
        go_loopw [14, 15, 16, 17, 18, 19, 20] (fun dv iv sv xv ov tv kv wr => ∃ (i : Nat) (d : ByteArray), i ≤ L ∧ iv = .int .i64 i ∧ dv = .string d ∧ Hid (d = indS P.k i) ∧ Ext w4 wr) (fun _ iv _ _ _ _ _ _ => L - (intOf iv).toNat)
        case atStart => exact ⟨0, ⟨#[]⟩, by omega, by go_num, rfl, Lib.hid (indS_zero _).symm, Ext.refl _⟩
        case round =>
          obtain ⟨i, d, hi, rfl, rfl, Hd, hE⟩ := hrel
          generalize wr = Y at *
          by_cases hlt : i < L
          · have hii : (i : Int) < (L : Int) := by omega
            obtain ⟨y, hy⟩ : ∃ y : Int, y = M - (i : Int) := ⟨_, rfl⟩
            have hy1 : -3 ≤ y ∧ y ≤ 3 := by have := HLM.out; omega
            have hwy : IntKind.i64.wrap (M - (i : Int)) = y := by rw [IntWalk.i64_in _ (by omega)]; exact hy.symm
            have Hy := Lib.hid (show y = (m : Int) - i by rw [hy, HM.out])
            have hXY := hX5.trans hE
            clear hy
            go_wp2_with fail
            go_loopw [16, 17, 18, 19, 20] (fun sv xv ov tv kv wr => ∃ (c : Nat) (x : Int) (d2 : ByteArray), c ≤ L ∧ x = (c : Int) - M ∧ xv = .int .i64 x ∧ sv = .string d2 ∧ Hid (d2 = d ++ joinS (picRow a ns m y P.o P.r P.u c)) ∧ Ext Y wr) (fun _ xv _ _ _ _ => (M + 1 - intOf xv).toNat)
            case atStart => exact ⟨0, -M, d, by omega, by omega, rfl, rfl, Lib.hid (by rw [show picRow a ns m y P.o P.r P.u 0 = [] from rfl, joinS_nil, byt_app_nil]), Ext.refl _⟩
            case round =>
              obtain ⟨c, x, d2, hc, hxc, rfl, rfl, H2, hE4⟩ := hrel
              generalize wr = Z at *
              by_cases hlc : c < L
              · have hxM : x ≤ M := by have := HLM.out; omega
                have hx1 : -3 ≤ x ∧ x ≤ 3 := by omega
                have Hxc := Lib.hid hxc
                have hXZ := hXY.trans hE4
                have hXZ2 := hE.trans hE4
                obtain ⟨c0, c1, c2, c3⟩ := hb6.out.ext hXZ2
                have hzd : d2.size ≤ 1000 := by
                  have h1 := pre_size (m := m) (y := y) (o := P.o) (r := P.r) (u := P.u) (c := c) Hnl.out
                  have h2 : (a + 1) * c ≤ 9 * 7 := Nat.mul_le_mul (by omega) (by omega)
                  have h3 := indS_le P.k i
                  rw [← Hd.out] at h3
                  rw [H2.out, ByteArray.size_append]
                  omega
                have s1 : ¬ 9223372036854775807 < d2.size + 1 := by omega
                have s2 : ¬ 9223372036854775807 < d2.size + (⟨#[32]⟩ : ByteArray).size := s1
                have Hxm := Lib.hid (show x = (c : Int) - m by rw [hxc, HM.out])
                clear hxc
                by_cases hc0 : c = 0
                · have hxg : ¬ x > -M := by have := Hxc.out; omega
                  have hxg' : ¬ -M < x := hxg
                  have H3 := Lib.hid (show d2 ++ picCell a ns (atL x y P.o P.r P.u) = d ++ joinS (picRow a ns m y P.o P.r P.u (c + 1)) by rw [H2.out, Hxm.out, picRow_succ, hc0, show picRow a ns m y P.o P.r P.u 0 = [] from rfl, List.nil_append, joinS_one, joinS_nil, byt_app_nil])
                  clear H2 hc0
                  have hn := Lib.hid (hno.out Z g1 g2 g3 x y (HP5.out.ext hXZ2) ⟨by omega, by omega⟩ ⟨by omega, by omega⟩)
                  go_wp2_with fail
                  refine hn.out.mono ?_
                  rintro e W6 ⟨g, rfl, hO6, hE6⟩
                  have HRq := Lib.hid (own_rowR hO6 (Hol.out x y))
                  obtain ⟨q, hq⟩ : ∃ q, q = atL x y P.o P.r P.u := ⟨_, rfl⟩
                  rw [← hq] at HRq
                  have H4 := Lib.hid (show d2 ++ picCell a ns q = d ++ joinS (picRow a ns m y P.o P.r P.u (c + 1)) by rw [hq]; exact H3.out)
                  have Hlq := Lib.hid (Hol.out x y)
                  rw [← hq] at Hlq
                  have hX6 := hXZ.trans hE6
                  have hE46 := hE4.trans hE6
                  clear hn hO6 H3 c0 c1 c2 c3 hq
                  have hwn : IntKind.i64.wrap ((nn : Int) - 1) = (nn : Int) - 1 := IntWalk.i64_in _ (by omega)
                  go_wp2_with fail
                  go_loopw [19, 20] (fun tv kv wr => ∃ (t : Nat) (z : Int) (d4 : ByteArray), t ≤ nn ∧ z = (t : Int) - 1 ∧ kv = .int .i64 z ∧ tv = .string d4 ∧ Hid (d4 = nameOf q (ns.drop t)) ∧ Ext W6 wr) (fun _ kv _ => (intOf kv + 1).toNat)
                  case atStart => exact ⟨nn, (nn : Int) - 1, ⟨#[46]⟩, by omega, rfl, by go_num, rfl, Lib.hid (by rw [List.drop_of_length_le (by rw [← Hnn.out]; omega)]; rfl), Ext.refl _⟩
                  case round =>
                    obtain ⟨t, z, d4, ht, hzt, rfl, rfl, H5, hE7⟩ := hrel
                    generalize wr = V at *
                    have hXV := hX6.trans hE7
                    cases t with
                    | succ s =>
                      obtain rfl : z = (s : Int) := by omega
                      have hlt : s < nn := by omega
                      obtain rfl := hsn (by omega)
                      have hws : IntKind.i64.wrap ((s : Int) - 1) = (s : Int) - 1 := IntWalk.i64_in _ (by omega)
                      have hs0 : (s : Int) ≥ 0 := by omega
                      obtain ⟨d0, sr, nr, cr, d1, hR⟩ := HCn.out s (by rw [← Hnn.out]; exact hlt)
                      have c0 := hXV.cell d0
                      have c1 := hXV.cell d1
                      have hlt2 : s < ns.length := by rw [← Hnn.out]; exact hlt
                      have Hhit := Lib.hid (fun h0 => nameOf_hit (q := q) hlt2 h0)
                      have Hmis := Lib.hid (fun h0 => nameOf_next (q := q) hlt2 h0)
                      have hn8 : ns[s].2.length ≤ 1000000 := by rw [(Hnr.out _ (List.getElem_mem hlt2)).2]; omega
                      generalize ns[s].1 = st at *
                      generalize ns[s].2 = xr at *
                      have hsm := Lib.hid (Same_any (hR.ext hXV) (HRq.out.ext hE7) hn8)
                      have hii : (s : Int) < (nn : Int) := by omega
                      clear hlt2 d0 d1 hR hzt hn8
                      by_cases hx : xr = q
                      · rw [decide_eq_true hx] at hsm
                        have H6 := Lib.hid (show st = nameOf q (ns.drop s) by rw [Hhit.out hx])
                        clear Hhit Hmis H5 hx
                        go_wp2_with fail
                        refine hsm.out.mono ?_
                        rintro e W8 ⟨rfl, hE8⟩
                        have e0 := hE8.cell c0
                        have hE9 := hE7.trans hE8
                        clear hsm c0 c1
                        go_wp2_with fail
                        go_roundw
                        case rel => exact ⟨s, (s : Int) - 1, st, by omega, rfl, by go_num, rfl, H6, hE9⟩
                        case measure => simp [intOf] <;> omega
                      · rw [decide_eq_false hx] at hsm
                        have H6 := Lib.hid (show d4 = nameOf q (ns.drop s) by rw [H5.out, Hmis.out hx])
                        clear Hhit Hmis H5 hx
                        go_wp2_with fail
                        refine hsm.out.mono ?_
                        rintro e W8 ⟨rfl, hE8⟩
                        have hE9 := hE7.trans hE8
                        clear hsm c0 c1
                        go_wp2_with fail
                        go_roundw
                        case rel => exact ⟨s, (s : Int) - 1, d4, by omega, rfl, by go_num, rfl, H6, hE9⟩
                        case measure => simp [intOf] <;> omega
                    | zero =>
                      obtain rfl : z = -1 := by omega
                      have hs0 : ¬ (-1 : Int) ≥ 0 := by omega
                      have H6 := Lib.hid (show d4 = nameOf q ns by rw [H5.out]; rfl)
                      have hz4 : d4.size ≤ a := by rw [H6.out]; exact Hnl.out _
                      have hE47 := hE46.trans hE7
                      clear H5 hzt
                      go_wp2_with fail
                      go_loopw [19] (fun tv wr => ∃ (j : Nat) (d5 : ByteArray), j ≤ a - d4.size ∧ d5.size = d4.size + j ∧ tv = .string d5 ∧ Hid (d5 = d4 ++ spc j) ∧ Ext V wr) (fun tv _ => a - (strOf tv).size)
                      case atStart => exact ⟨0, d4, by omega, by omega, rfl, Lib.hid (by rw [spc_zero, byt_app_nil]), Ext.refl _⟩
                      case round =>
                        obtain ⟨j, d5, hj, hd5, rfl, H7, hE8⟩ := hrel
                        generalize wr = U at *
                        have Hd5 := Lib.hid hd5
                        have hd58 : d5.size ≤ 8 := by omega
                        have hj1 : d5.size < a → j + 1 ≤ a - d4.size := by omega
                        clear hd5
                        by_cases hja : d5.size < a
                        · have hjI : (d5.size : Int) < (a : Int) := by omega
                          have H8 := Lib.hid (show d5 ++ ⟨#[32]⟩ = d4 ++ spc (j + 1) by rw [H7.out, spc_succ, byt_assoc])
                          have hd6 : (d5 ++ ⟨#[32]⟩).size = d4.size + (j + 1) := by rw [ByteArray.size_append]; show d5.size + 1 = _; have := Hd5.out; omega
                          have Hd6 := Lib.hid hd6
                          have s3 : ¬ 9223372036854775807 < d5.size + 1 := by omega
                          have s4 : ¬ 9223372036854775807 < d5.size + (⟨#[32]⟩ : ByteArray).size := s3
                          clear hd6 H7
                          go_wp2_with fail
                          go_roundw
                          case rel => exact ⟨j + 1, d5 ++ ⟨#[32]⟩, hj1 hja, Hd6.out, rfl, H8, hE8⟩
                          case measure =>
                            show a - (d5 ++ ⟨#[32]⟩).size < a - d5.size
                            rw [ByteArray.size_append]
                            show a - (d5.size + 1) < _
                            omega
                        · have hjI : ¬ (d5.size : Int) < (a : Int) := by omega
                          have H8 := Lib.hid (show d2 ++ d5 = d ++ joinS (picRow a ns m y P.o P.r P.u (c + 1)) by rw [← H4.out, picCell, H7.out, H6.out, show a - (nameOf q ns).size = j by rw [← H6.out]; have := Hd5.out; omega])
                          have hE48 := hE47.trans hE8
                          have s3 : ¬ 9223372036854775807 < d2.size + d5.size := by omega
                          have s4 : ¬ 9223372036854775807 < d2.size + 1 + d5.size := by omega
                          have s5 : ¬ 9223372036854775807 < d2.size + (⟨#[32]⟩ : ByteArray).size + d5.size := s4
                          clear H7 H6 H4
                          go_wp2_with fail
                          go_roundw
                          case rel => exact ⟨c + 1, x + 1, d2 ++ d5, by omega, by have := Hxc.out; omega, by go_num, rfl, H8, hE48⟩
                          case measure => simp [intOf] <;> omega
                · have hxg : x > -M := by have := Hxc.out; omega
                  have hxg' : -M < x := hxg
                  have H3 := Lib.hid (show (d2 ++ ⟨#[32]⟩) ++ picCell a ns (atL x y P.o P.r P.u) = d ++ joinS (picRow a ns m y P.o P.r P.u (c + 1)) by
                    rw [picRow_succ, joinS_snoc (fun e => by have := picRow_length a ns m y P.o P.r P.u c; rw [e] at this; exact hc0 this.symm), H2.out, Hxm.out, byt_assoc, byt_assoc, byt_assoc])
                  clear H2 hc0
                  have hn := Lib.hid (hno.out Z g1 g2 g3 x y (HP5.out.ext hXZ2) ⟨by omega, by omega⟩ ⟨by omega, by omega⟩)
                  go_wp2_with fail
                  refine hn.out.mono ?_
                  rintro e W6 ⟨g, rfl, hO6, hE6⟩
                  have HRq := Lib.hid (own_rowR hO6 (Hol.out x y))
                  obtain ⟨q, hq⟩ : ∃ q, q = atL x y P.o P.r P.u := ⟨_, rfl⟩
                  rw [← hq] at HRq
                  have H4 := Lib.hid (show (d2 ++ ⟨#[32]⟩) ++ picCell a ns q = d ++ joinS (picRow a ns m y P.o P.r P.u (c + 1)) by rw [hq]; exact H3.out)
                  have Hlq := Lib.hid (Hol.out x y)
                  rw [← hq] at Hlq
                  have hX6 := hXZ.trans hE6
                  have hE46 := hE4.trans hE6
                  clear hn hO6 H3 c0 c1 c2 c3 hq
                  have hwn : IntKind.i64.wrap ((nn : Int) - 1) = (nn : Int) - 1 := IntWalk.i64_in _ (by omega)
                  go_wp2_with fail
                  go_loopw [19, 20] (fun tv kv wr => ∃ (t : Nat) (z : Int) (d4 : ByteArray), t ≤ nn ∧ z = (t : Int) - 1 ∧ kv = .int .i64 z ∧ tv = .string d4 ∧ Hid (d4 = nameOf q (ns.drop t)) ∧ Ext W6 wr) (fun _ kv _ => (intOf kv + 1).toNat)
                  case atStart => exact ⟨nn, (nn : Int) - 1, ⟨#[46]⟩, by omega, rfl, by go_num, rfl, Lib.hid (by rw [List.drop_of_length_le (by rw [← Hnn.out]; omega)]; rfl), Ext.refl _⟩
                  case round =>
                    obtain ⟨t, z, d4, ht, hzt, rfl, rfl, H5, hE7⟩ := hrel
                    generalize wr = V at *
                    have hXV := hX6.trans hE7
                    cases t with
                    | succ s =>
                      obtain rfl : z = (s : Int) := by omega
                      have hlt : s < nn := by omega
                      obtain rfl := hsn (by omega)
                      have hws : IntKind.i64.wrap ((s : Int) - 1) = (s : Int) - 1 := IntWalk.i64_in _ (by omega)
                      have hs0 : (s : Int) ≥ 0 := by omega
                      obtain ⟨d0, sr, nr, cr, d1, hR⟩ := HCn.out s (by rw [← Hnn.out]; exact hlt)
                      have c0 := hXV.cell d0
                      have c1 := hXV.cell d1
                      have hlt2 : s < ns.length := by rw [← Hnn.out]; exact hlt
                      have Hhit := Lib.hid (fun h0 => nameOf_hit (q := q) hlt2 h0)
                      have Hmis := Lib.hid (fun h0 => nameOf_next (q := q) hlt2 h0)
                      have hn8 : ns[s].2.length ≤ 1000000 := by rw [(Hnr.out _ (List.getElem_mem hlt2)).2]; omega
                      generalize ns[s].1 = st at *
                      generalize ns[s].2 = xr at *
                      have hsm := Lib.hid (Same_any (hR.ext hXV) (HRq.out.ext hE7) hn8)
                      have hii : (s : Int) < (nn : Int) := by omega
                      clear hlt2 d0 d1 hR hzt hn8
                      by_cases hx : xr = q
                      · rw [decide_eq_true hx] at hsm
                        have H6 := Lib.hid (show st = nameOf q (ns.drop s) by rw [Hhit.out hx])
                        clear Hhit Hmis H5 hx
                        go_wp2_with fail
                        refine hsm.out.mono ?_
                        rintro e W8 ⟨rfl, hE8⟩
                        have e0 := hE8.cell c0
                        have hE9 := hE7.trans hE8
                        clear hsm c0 c1
                        go_wp2_with fail
                        go_roundw
                        case rel => exact ⟨s, (s : Int) - 1, st, by omega, rfl, by go_num, rfl, H6, hE9⟩
                        case measure => simp [intOf] <;> omega
                      · rw [decide_eq_false hx] at hsm
                        have H6 := Lib.hid (show d4 = nameOf q (ns.drop s) by rw [H5.out, Hmis.out hx])
                        clear Hhit Hmis H5 hx
                        go_wp2_with fail
                        refine hsm.out.mono ?_
                        rintro e W8 ⟨rfl, hE8⟩
                        have hE9 := hE7.trans hE8
                        clear hsm c0 c1
                        go_wp2_with fail
                        go_roundw
                        case rel => exact ⟨s, (s : Int) - 1, d4, by omega, rfl, by go_num, rfl, H6, hE9⟩
                        case measure => simp [intOf] <;> omega
                    | zero =>
                      obtain rfl : z = -1 := by omega
                      have hs0 : ¬ (-1 : Int) ≥ 0 := by omega
                      have H6 := Lib.hid (show d4 = nameOf q ns by rw [H5.out]; rfl)
                      have hz4 : d4.size ≤ a := by rw [H6.out]; exact Hnl.out _
                      have hE47 := hE46.trans hE7
                      clear H5 hzt
                      go_wp2_with fail
                      go_loopw [19] (fun tv wr => ∃ (j : Nat) (d5 : ByteArray), j ≤ a - d4.size ∧ d5.size = d4.size + j ∧ tv = .string d5 ∧ Hid (d5 = d4 ++ spc j) ∧ Ext V wr) (fun tv _ => a - (strOf tv).size)
                      case atStart => exact ⟨0, d4, by omega, by omega, rfl, Lib.hid (by rw [spc_zero, byt_app_nil]), Ext.refl _⟩
                      case round =>
                        obtain ⟨j, d5, hj, hd5, rfl, H7, hE8⟩ := hrel
                        generalize wr = U at *
                        have Hd5 := Lib.hid hd5
                        have hd58 : d5.size ≤ 8 := by omega
                        have hj1 : d5.size < a → j + 1 ≤ a - d4.size := by omega
                        clear hd5
                        by_cases hja : d5.size < a
                        · have hjI : (d5.size : Int) < (a : Int) := by omega
                          have H8 := Lib.hid (show d5 ++ ⟨#[32]⟩ = d4 ++ spc (j + 1) by rw [H7.out, spc_succ, byt_assoc])
                          have hd6 : (d5 ++ ⟨#[32]⟩).size = d4.size + (j + 1) := by rw [ByteArray.size_append]; show d5.size + 1 = _; have := Hd5.out; omega
                          have Hd6 := Lib.hid hd6
                          have s3 : ¬ 9223372036854775807 < d5.size + 1 := by omega
                          have s4 : ¬ 9223372036854775807 < d5.size + (⟨#[32]⟩ : ByteArray).size := s3
                          clear hd6 H7
                          go_wp2_with fail
                          go_roundw
                          case rel => exact ⟨j + 1, d5 ++ ⟨#[32]⟩, hj1 hja, Hd6.out, rfl, H8, hE8⟩
                          case measure =>
                            show a - (d5 ++ ⟨#[32]⟩).size < a - d5.size
                            rw [ByteArray.size_append]
                            show a - (d5.size + 1) < _
                            omega
                        · have hjI : ¬ (d5.size : Int) < (a : Int) := by omega
                          have H8 := Lib.hid (show (d2 ++ ⟨#[32]⟩) ++ d5 = d ++ joinS (picRow a ns m y P.o P.r P.u (c + 1)) by rw [← H4.out, picCell, H7.out, H6.out, show a - (nameOf q ns).size = j by rw [← H6.out]; have := Hd5.out; omega])
                          have hE48 := hE47.trans hE8
                          have s3 : ¬ 9223372036854775807 < (d2 ++ ⟨#[32]⟩).size + d5.size := by rw [ByteArray.size_append]; show ¬ _ < d2.size + 1 + d5.size; omega
                          have s4 : ¬ 9223372036854775807 < d2.size + 1 + d5.size := by omega
                          have s5 : ¬ 9223372036854775807 < d2.size + (⟨#[32]⟩ : ByteArray).size + d5.size := s4
                          clear H7 H6 H4
                          go_wp2_with fail
                          go_roundw
                          case rel => exact ⟨c + 1, x + 1, (d2 ++ ⟨#[32]⟩) ++ d5, by omega, by have := Hxc.out; omega, by go_num, rfl, H8, hE48⟩
                          case measure => simp [intOf] <;> omega
              · have hxM : ¬ x ≤ M := by have := HLM.out; omega
                have hcL : c = L := by omega
                have Hf := Lib.hid (Hcl.out i (picLine P.k a ns m P.o P.r P.u i) (by simp [picTo, hlt]))
                have hf0 := (hE.trans hE4).cell Hf.out
                have Hpl := Lib.hid (show picLine P.k a ns m P.o P.r P.u i = d2 by rw [picLine, ← Hd.out, H2.out, hcL, HLm.out, Hy.out])
                rw [Hpl.out, Nat.zero_add] at hf0
                have hk0 := (hpc5.out.ext (hE.trans hE4)).k0
                have hXE := hE.trans hE4
                have hds := indS_le P.k i
                rw [← Hd.out] at hds
                have s1 : ¬ 9223372036854775807 < d.size + 1 := by omega
                have s2 : ¬ 9223372036854775807 < d.size + (⟨#[32]⟩ : ByteArray).size := s1
                clear H2 Hf Hpl hcL hlc hds
                by_cases hh : P.hx = true
                case neg =>
                  replace hh : P.hx = false := by simpa using hh
                  have H9 := Lib.hid (show d = indS P.k (i + 1) by rw [indS_succ, if_neg (by unfold Pl.k; rw [hh]; decide)]; exact Hd.out)
                  rw [hh] at hk0
                  clear hh
                  go_wp2_with fail
                  go_roundw
                  case rel => exact ⟨i + 1, d, by omega, by go_num, rfl, H9, hXE⟩
                  case measure => simp [intOf] <;> omega
                case pos =>
                  have H9 := Lib.hid (show d ++ ⟨#[32]⟩ = indS P.k (i + 1) by rw [indS_succ, if_pos (by unfold Pl.k; rw [hh]; rfl), Hd.out])
                  rw [hh] at hk0
                  clear hh
                  go_wp2_with fail
                  go_roundw
                  case rel => exact ⟨i + 1, d ++ ⟨#[32]⟩, by omega, by go_num, rfl, H9, hXE⟩
                  case measure => simp [intOf] <;> omega
          · have hii : ¬ (i : Int) < (L : Int) := by omega
            have hXE := hX5.trans hE
            go_wp2_with fail
            go_ret
            exact ⟨rfl, hXE⟩
end Go.Proofs.YtokjolmpdfmnbaaGreatDoor
namespace Go.Proofs.YtokjolmpdfmnbaaGreatDoor
open Go.ChangeShapes Go.WideShapes Go.ChangeAt Go.WideMaps Go.WideElems Go.RowKit Go.Deep
theorem fr_cSy : Tryz.prog.cellsOf 80 = 2 := by kernel_rfl
theorem list2 {l : List Value} {a b : Value} (hl : l.length = 2) (h0 : (l.drop 0).take 1 = [a]) (h1 : (l.drop 1).take 1 = [b]) : l = [a, b] := by
  match l, hl with
  | [p, q], _ =>
    simp at h0 h1
    subst h0 h1
    rfl
theorem cells_two {W : World} {base : Nat} {a : Addr} {x y : Value} (h : W.cells? base a 2 = some [x, y]) : W.cell? (a.add 0) = some x ∧ W.cell? (a.add 1) = some y := by
  unfold World.cells? at h
  split at h
  case isFalse => cases h
  have h0 := Go.mapM_some_get h 0 0 (by simp)
  have h1 := Go.mapM_some_get h 1 1 (by simp)
  exact ⟨by simpa using h0, by simpa using h1⟩
set_option maxRecDepth 100000 in
theorem sym_open {H : Type} {enc : TypeId × Value → H} {W : World} {base : Nat} {held : Bool} {fuel : Nat} {cs : List Value} {x : DataW H × List MemPlace}
    (h : DataW.trod enc Tryz.prog W base (fun _ => true) held fuel 80 cs = some x) : ∃ (s : ByteArray) (sr : Option Addr) (nr cr : Nat) (r : List Int), cs = [.string s, .slice sr nr cr] ∧ RowR W (.slice sr nr cr) r := by
  obtain ⟨xs, n, _, _, hcl, hxl, hx⟩ := DataW.trod_struct Tryz.underlying80 h
  rw [fr_cSy] at hcl
  have hx3 : xs.length = 2 := hxl
  have h0 := hx 0 _ rfl
  have h1 := hx 1 _ rfl
  rw [List.getElem?_eq_getElem (by omega)] at h0 h1
  have h0' : DataW.trod enc Tryz.prog W base (fun _ => true) held n 9 ((cs.drop 0).take 1) = some xs[0] := h0
  have h1' : DataW.trod enc Tryz.prog W base (fun _ => true) held n 32 ((cs.drop 1).take 1) = some xs[1] := h1
  obtain ⟨s, hs, _, _⟩ := DataW.trod_string Tryz.underlying9 h0'
  obtain ⟨sr, nr, cr, r, hr, hR⟩ := introw_list h1'
  exact ⟨s, sr, nr, cr, r, list2 hcl hs hr, hR⟩
theorem names_open {H : Type} {enc : TypeId × Value → H} {W : World} {base : Nat} {held : Bool} {fuel : Nat} {a0 : Option Addr} {len0 cap0 : Nat} {x : DataW H × List MemPlace}
    (h : DataW.trod enc Tryz.prog W base (fun _ => true) held fuel 77 (Value.slice a0 len0 cap0).cells.toList = some x) : ∃ ns, NamesR W (.slice a0 len0 cap0) ns := by
  rw [show (Value.slice a0 len0 cap0).cells.toList = [.slice a0 len0 cap0] by simp [Value.cells]] at h
  rcases open_slice Tryz.underlying77 h with ⟨hcs, _⟩ | ⟨a, len, cap, m, n, D, Pl, hcs, _, hl, _, hm, _, hel⟩
  · injection hcs with h1 _
    rw [h1]
    exact ⟨[], NamesR.nil W⟩
  · injection hcs with h1 _
    injection h1 with e1 e2 e3
    subst e1 e2
    rw [if_pos rfl] at hm
    subst hm
    rw [fr_cSy] at hel
    have hex : ∀ i, i < len0 → ∃ p : Nm, W.cell? (a.add (i * 2)) = some (.string p.1) ∧ ∃ sr nr cr, W.cell? (a.add (i * 2 + 1)) = some (.slice sr nr cr) ∧ RowR W (.slice sr nr cr) p.2 := by
      intro i hi
      obtain ⟨cs', h1, h2⟩ := hel i (by omega)
      obtain ⟨s, sr, nr, cr, r, rfl, hR⟩ := sym_open h2
      obtain ⟨k1, k2⟩ := cells_two h1
      rw [add_add] at k1 k2
      exact ⟨(s, r), k1, sr, nr, cr, k2, hR⟩
    obtain ⟨f, hf⟩ := choose_lt hex
    refine ⟨(List.range len0).map f, ?_⟩
    have hsp : 0 < len0 → a.spot = none := fun h => by simpa [Addr.add] using World.cell?_spot (hf 0 h).1
    obtain ⟨b, o, sp⟩ := a
    refine ⟨⟨some ⟨b, o, sp⟩, b, o, cap0, by simp, fun h => ?_, fun i hi => ?_⟩⟩
    · have := hsp (by simpa using h)
      simp at this
      rw [this]
    · have hi' : i < len0 := by simpa using hi
      have := hsp (by omega)
      simp at this
      subst this
      obtain ⟨k1, sr, nr, cr, k2, k3⟩ := hf i hi'
      rw [add_plain] at k1 k2
      refine ⟨by simpa using k1, sr, nr, cr, ?_, by simpa using k3⟩
      rw [Nat.add_assoc]; exact k2
end Go.Proofs.YtokjolmpdfmnbaaGreatDoor
namespace Go.Proofs.YtokjolmpdfmnbaaGreatDoor
open Go.ChangeShapes Go.WideShapes Go.ChangeAt Go.WideMaps Go.WideElems Go.RowKit Go.Deep
theorem fr_cPl : Tryz.prog.cellsOf 76 = 11 := by kernel_rfl
theorem list11 {l : List Value} {a b c d e f g h i j k : Value} (hl : l.length = 11) (h0 : l[0]? = some a) (h1 : l[1]? = some b) (h2 : l[2]? = some c) (h3 : l[3]? = some d) (h4 : l[4]? = some e) (h5 : l[5]? = some f) (h6 : l[6]? = some g) (h7 : l[7]? = some h) (h8 : l[8]? = some i) (h9 : l[9]? = some j) (h10 : l[10]? = some k) : l = [a, b, c, d, e, f, g, h, i, j, k] := by
  refine List.ext_getElem? fun n => ?_
  match n with
  | 0 => exact h0
  | 1 => exact h1
  | 2 => exact h2
  | 3 => exact h3
  | 4 => exact h4
  | 5 => exact h5
  | 6 => exact h6
  | 7 => exact h7
  | 8 => exact h8
  | 9 => exact h9
  | 10 => exact h10
  | n + 11 => rw [List.getElem?_eq_none (by omega), List.getElem?_eq_none (by simp)]
set_option maxRecDepth 100000 in
theorem plan_open {H : Type} {enc : TypeId × Value → H} {W : World} {base : Nat} {sp : Nat → Bool} {held : Bool} {fuel : Nat} {cs : Array Value} {x : DataW H × List MemPlace} (hs : cs.size = 11)
    (h : DataW.trod enc Tryz.prog W base sp held fuel 76 cs.toList = some x) : ∃ P : Pl, .agg cs = P.v ∧ P.ok := by
  obtain ⟨xs, n, _, _, _, hxl, hx⟩ := DataW.trod_struct Tryz.underlying76 h
  have hx3 : xs.length = 5 := hxl
  have h0 := hx 0 _ rfl
  have h1 := hx 1 _ rfl
  have h2 := hx 2 _ rfl
  have h3 := hx 3 _ rfl
  have h4 := hx 4 _ rfl
  rw [List.getElem?_eq_getElem (by omega)] at h0 h1 h2 h3 h4
  have h0' : DataW.trod enc Tryz.prog W base sp held n 4 ((cs.toList.drop 0).take 1) = some xs[0] := h0
  have h1' : DataW.trod enc Tryz.prog W base sp held n 5 ((cs.toList.drop 1).take 1) = some xs[1] := h1
  have h2' : DataW.trod enc Tryz.prog W base sp held n 26 ((cs.toList.drop 2).take 3) = some xs[2] := h2
  have h3' : DataW.trod enc Tryz.prog W base sp held n 26 ((cs.toList.drop 5).take 3) = some xs[3] := h3
  have h4' : DataW.trod enc Tryz.prog W base sp held n 26 ((cs.toList.drop 8).take 3) = some xs[4] := h4
  obtain ⟨b, hb, _⟩ := DataW.trod_bool Tryz.underlying4 h0'
  obtain ⟨m, hm, _, wm⟩ := DataW.trod_int Tryz.underlying5 h1'
  have e2 := i8_cells Tryz.underlying26 h2'
  have e3 := i8_cells Tryz.underlying26 h3'
  have e4 := i8_cells Tryz.underlying26 h4'
  have bm := u8_bounds wm
  obtain ⟨z2, k2, b2⟩ := e2 0 (by omega)
  obtain ⟨z3, k3, b3⟩ := e2 1 (by omega)
  obtain ⟨z4, k4, b4⟩ := e2 2 (by omega)
  obtain ⟨z5, k5, b5⟩ := e3 0 (by omega)
  obtain ⟨z6, k6, b6⟩ := e3 1 (by omega)
  obtain ⟨z7, k7, b7⟩ := e3 2 (by omega)
  obtain ⟨z8, k8, b8⟩ := e4 0 (by omega)
  obtain ⟨z9, k9, b9⟩ := e4 1 (by omega)
  obtain ⟨z10, k10, b10⟩ := e4 2 (by omega)
  rw [List.getElem?_take, if_pos (by omega), List.getElem?_drop] at k2 k3 k4 k5 k6 k7 k8 k9 k10
  refine ⟨⟨b, m, z2, z3, z4, z5, z6, z7, z8, z9, z10⟩, ?_, ⟨bm, b2, b3, b4, b5, b6, b7, b8, b9, b10⟩⟩
  have hl : cs.toList.length = 11 := by simpa using hs
  have := list11 hl (take_one hb) (take_one hm) k2 k3 k4 k5 k6 k7 k8 k9 k10
  show Value.agg cs = _
  rw [show cs = cs.toList.toArray from Array.toArray_toList.symm, this]
end Go.Proofs.YtokjolmpdfmnbaaGreatDoor
