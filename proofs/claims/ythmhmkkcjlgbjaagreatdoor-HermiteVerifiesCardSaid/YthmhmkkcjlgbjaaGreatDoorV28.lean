/- Part 28 of the proof of the claim: contracts of the functions that it reaches, and plain laws; no condition. -/
import Derived.Test.YthmhmkkcjlgbjaaGreatDoorV27
import Derived.Test.YthmhmkkcjlgbjaaGreatDoorV20
/- schismaref07: Form -/
namespace Go.Proofs.YthmhmkkcjlgbjaaGreatDoor
open Go.RowKit Go.Sort
open Hnf (V Span)
theorem MtO.parts {B : Nat} {w : World} {v : Value} {F : Mx} (h : MtO B w v F) (h0 : 0 < F.length) : ∃ g cap vs, v = slv g F.length cap ∧ vs.length = F.length ∧ OwnV 56 B w g cap vs ∧ ∀ t (_ : t < F.length) (h' : t < vs.length), RwT w vs[t] F[t] := by
  obtain ⟨vs, h1, h2, h3⟩ := h
  rcases h2.2 with ⟨rfl, h0'⟩ | ⟨g, cap, cur, rfl, hb, hg, hn, hm, hs, ht⟩
  · omega
  · exact ⟨g, cap, vs, rfl, h1, OwnV.of_row h2, h3⟩
theorem MtO.set {B : Nat} {w : World} {g cap : Nat} {vs : List Value} {F : Mx} (hvl : vs.length = F.length) (hO : OwnV 56 B w g cap vs) (hr : ∀ t (_ : t < F.length) (h' : t < vs.length), RwT w vs[t] F[t]) (i : Nat) {u : Value} {r : List Int} (hu : RwT w u r) :
    MtO B (w.setCell ⟨g, i, none⟩ u) (slv g F.length cap) (F.set i r) ∧ w.grownBy (w.setCell ⟨g, i, none⟩ u) (some g) := by
  obtain ⟨h1, h2⟩ := hO.set i u
  have hk : ∀ {v : Value} {l : List Int}, RwT w v l → RwT (w.setCell ⟨g, i, none⟩ u) v l := fun hv => rwT_own (hO.row rfl) (by decide) (by decide) h2 hv
  refine ⟨⟨vs.set i u, by simp [hvl], ?_, fun t ht ht' => ?_⟩, h2⟩
  · rw [List.length_set]; exact h1.row (by simp [hvl])
  · by_cases e : t = i
    · subst e; rw [List.getElem_set_self, List.getElem_set_self]; exact hk hu
    · rw [List.getElem_set_ne (Ne.symm e), List.getElem_set_ne (Ne.symm e)]
      exact hk (hr t (by simpa using ht) (by simpa using ht'))
theorem MtO.blk {B : Nat} {w : World} {v : Value} {F : Mx} (h : MtO B w v F) {g : Nat} (hg : v.ownBlock = some g) : B ≤ g ∧ g < w.heap.size := by
  obtain ⟨vs, h1, h2, h3⟩ := h
  exact World.ownsRow.lt h2 g hg
theorem keep5 {w w' : World} {p q r s t : Addr} {a b c d e : Value} (he : Ext w w') (h1 : w.cell? p = some a) (h2 : w.cell? q = some b) (h3 : w.cell? r = some c) (h4 : w.cell? s = some d) (h5 : w.cell? t = some e) : w'.cell? p = some a ∧ w'.cell? q = some b ∧ w'.cell? r = some c ∧ w'.cell? s = some d ∧ w'.cell? t = some e := ⟨he.cell h1, he.cell h2, he.cell h3, he.cell h4, he.cell h5⟩
theorem mtR_own {B : Nat} {u v : Value} {F M : Mx} {w w' : World} (hO : MtO B w u F) (hG : w.grownBy w' u.ownBlock) (hne : ∀ g, u.ownBlock = some g → v.ownBlock ≠ some g) (h : MtR w v M) : MtR w' v M := by
  obtain ⟨vs, h1, h2, h3⟩ := hO
  rcases h2.2 with ⟨rfl, _⟩ | ⟨g, cap, cur, rfl, _, hg, _⟩
  · exact h.ext (ext_grown hG)
  · exact mtR_far hg (by decide) (by decide) hG h (hne g rfl)
theorem bits_pc {E : Nat} (hE : E ≤ 2900000000) {r : List Int} (h : ∀ z ∈ r, z.natAbs < 2 ^ E) : ∀ z ∈ r, (pc z.natAbs).length ≤ 100000000 :=
  fun z hz => pc_bits (h z hz) (by omega)
def RfPost (n k : Nat) (M : Mx) (w : World) (e : Ending) (w' : World) : Prop := ∃ u F, e = .returned u ∧ HnfOf n M F ∧ AllB (rkB M.length k n) F ∧ F.length ≤ M.length ∧ MtO w.heap.size w' u F ∧ Ext w w'
set_option maxRecDepth 100000 in
set_option maxHeartbeats 4000000 in
theorem form_w {w : World} {v : Value} {M : Mx} {n k : Nat} (hM : MtR w v M) (hRc : Rect n M) (hml : M.length ≤ 1000000) (hnl : n ≤ 1000000) (hb : AllB k M) (hk : rkB M.length k n ≤ 2900000000) (hL : Laid w) :
    Calls Tryz.prog 33 #[v] w (RfPost n k M w) := by
  have HL := Lib.hid hL
  obtain ⟨s0, c0, rfl⟩ : ∃ s0 c0, v = .slice s0 M.length c0 := by
    obtain ⟨sa, gb, go, cap, vs, e, _⟩ := hM; exact ⟨sa, cap, e⟩
  have HM := Lib.hid hM
  have Hb := Lib.hid hb
  have HRc := Lib.hid hRc
  obtain ⟨m, hm⟩ : ∃ m, m = M.length := ⟨_, rfl⟩
  rw [← hm] at hml hk ⊢
  have Hm := Lib.hid hm
  have Hkb := Lib.hid (show ∀ c, c ≤ n → rkB m k c ≤ 2900000000 from fun c hc => Nat.le_trans (by have := rkB_mono m k c (n - c); rwa [show c + (n - c) = n by omega] at this) hk)
  clear hL hM hb hRc hm hk
  have knil := fun (w : World) (a : Option Addr) (n c : Nat) => Lib.run_eql_slice_nil (P := Tryz.prog) w 56 66 a n c 0 0 Tryz.underlying56
  go_enter Tryz.func33, Tryz.ntmps33
  go_wp2_with fail
  go_loopw [3, 4, 5] (fun dv rv idx wr => ∃ (c : Nat) (ps : List Nat) (F R : Mx) (sr : Option Addr) (cr : Nat), c ≤ n ∧ idx = .int .i64 c ∧ rv = .slice sr R.length cr ∧ Hid (RfSt n c M ps F R) ∧ Hid (AllB (rkB m k c) F ∧ AllB (rkB m k c) R) ∧ Hid (MtO w.heap.size wr dv F) ∧ Hid (MtR wr rv R) ∧ Ext w wr) (fun _ _ idx _ => n - (intOf idx).toNat)
  case atStart => exact ⟨0, [], [], M, s0, c0, by omega, by go_num, by rw [← Hm.out], Lib.hid (RfSt.start HRc.out), Lib.hid ⟨(fun r h => by cases h), Hb.out⟩, Lib.hid (MtO.nil _ _), by rw [Hm.out]; exact HM, Ext.refl _⟩
  case round =>
    obtain ⟨c, ps, F, R, sr, cr, hc, rfl, rfl, hS, hB, hO, hR, hE⟩ := hrel
    generalize wr = X at *
    have hRl := hS.out.len
    rw [← Hm.out] at hRl
    by_cases hR0 : 0 < R.length
    · obtain ⟨sa, gb, go, cap, hsh, hat⟩ := hR.out.at
      injection hsh with e1 _ e3
      subst e1
      subst e3
      obtain ⟨rfl, s1, k1, d0, hr0⟩ := hat.out 0 hR0
      have hl0 : R[0].length = n := hS.out.rR _ (List.getElem_mem hR0)
      rw [hl0, Nat.add_zero] at d0
      have hRi : (0 : Int) < (R.length : Int) := by omega
      clear hat hr0 hl0
      by_cases hlt : c < n
      · have hii : (c : Int) < (n : Int) := by omega
        have hcol := Lib.hid (column_w hR.out hS.out.rR hlt (by omega) hnl hB.out.2 (Nat.le_trans (Nat.mul_le_mul_left _ (by omega)) (Hkb.out (c + 1) hlt)) (HL.out.ext hE))
        generalize hRn : R.length = rn at *
        have HRn := Lib.hid hRn
        clear hRn
        go_wp2_with fail
        refine hcol.out.mono ?_
        rintro e W ⟨pv, zv, q, Z, rfl, hC, hP, hZ, hEW⟩
        have HC := Lib.hid hC
        have HZ := Lib.hid hZ
        have hE2 := hE.trans hEW
        have hszW := hEW.size
        obtain ⟨sz, cz, rfl⟩ : ∃ sz cz, zv = .slice sz Z.length cz := by
          obtain ⟨sa, gb, go, cap, vs, e, _⟩ := hZ.mat; exact ⟨sa, cap, e⟩
        have HOW := Lib.hid (hO.out.ext hEW)
        cases q with
        | none =>
          obtain rfl : pv = .slice none 0 0 := hP
          have HS2 := Lib.hid (hS.out.skip hC)
          have HB2 := Lib.hid (hB.out.1.skip (m := m) hC (by rw [HRn.out]; omega))
          clear hcol hC hZ
          go_wp2_with fail
          go_roundw
          case rel => exact ⟨c + 1, ps, F, Z, _, _, by omega, by go_num, rfl, HS2, HB2, HOW, Lib.hid HZ.out.mat, hE2⟩
          case measure => simp [intOf] <;> omega
        | some p =>
          obtain ⟨ap, mp, cpp, rfl, hrp⟩ := hP
          have HS2 := Lib.hid (hS.out.next hC hlt)
          have HB2 := Lib.hid (hB.out.1.next (m := m) hC (by rw [HRn.out]; omega))
          have hpl := (hC.pp p rfl).1
          obtain rfl : n = mp := by
            obtain ⟨_, _, _, _, e, _⟩ := hrp.row
            injection e with _ e2 _
            rw [e2]; exact hpl.symm
          obtain ⟨-, gp, op, hgp, -⟩ := hrp.col (by rw [hpl]; exact hlt)
          cases hgp
          have HFr := Lib.hid hS.out.h.rect
          have Hrp := Lib.hid hrp
          have Hpl := Lib.hid hpl
          have Hpc := Lib.hid (hC.pp p rfl).2
          have HpB := Lib.hid (show ∀ z ∈ p, (pc z.natAbs).length ≤ 100000000 from bits_pc (Nat.le_trans (by have := rkB_next (k := k) (c := c) (m' := rn) (m := m) (by omega); omega) (Hkb.out (c + 1) hlt)) (E := (rkB m k c + 1) * rn) (by have := hC.bd p (by simp); rw [HRn.out] at this; exact this))
          have HfB := Lib.hid (show ∀ r ∈ F, ∀ z ∈ r, (pc z.natAbs).length ≤ 100000000 from fun r hr => bits_pc (Hkb.out c hc) (hB.out.1 r hr))
          have Hzb := Lib.hid (show ∀ g, (Value.slice sz Z.length cz).ownBlock = some g → X.heap.size ≤ g from fun g hg => (hZ.blk hg).1)
          have Hfl := Lib.hid (show F.length ≤ 1000000 by omega)
          obtain ⟨ds, _, _, dc, _, hds, -⟩ := hO.out.mat
          subst hds
          have Hdb := Lib.hid (show ∀ g, (Value.slice ds F.length dc).ownBlock = some g → g < X.heap.size from fun g hg => (hO.out.blk hg).2)
          clear hcol hC hZ hrp hpl hO
          generalize hFn : F.length = fn at *
          have HFn := Lib.hid hFn
          clear hFn
          go_wp2_with fail
          go_loopg [7] fn (fun kk idx wr => ∃ (i : Nat), i ≤ fn ∧ idx = .int .i64 i ∧ kk = fn - i ∧ Hid (MtO w.heap.size wr (.slice ds fn dc) (rdF c p i F)) ∧ Hid (RwT wr (.slice (some ⟨gp, op, none⟩) n cpp) p) ∧ Hid (MtR wr (.slice sz Z.length cz) Z) ∧ Ext w wr ∧ X.heap.size ≤ wr.heap.size)
          case atStart => exact ⟨0, by omega, by go_num, by omega, by rw [rdF_zero]; exact HOW, Hrp, Lib.hid HZ.out.mat, hE2, hszW⟩
          case round =>
            obtain ⟨i, hi, rfl, hgk, hDv, hPv, hZv, hEY, hsY⟩ := hrel
            generalize wr = Y at *
            by_cases hlti : i < fn
            · have hii2 : (i : Int) < (fn : Int) := by omega
              have hiF : i < F.length := by rw [HFn.out]; exact hlti
              obtain ⟨g9, cap9, vs, hsh, hvl, hOv, hrw⟩ := hDv.out.parts (by rw [rdF_length]; omega)
              injection hsh with hs1 hs2 hs3
              clear hs2
              subst hs1
              subst hs3
              have hrwi := hrw i (by rw [rdF_length]; exact hiF) (by rw [hvl, rdF_length]; exact hiF)
              rw [rdF_get c p i hiF, if_neg (Nat.lt_irrefl i)] at hrwi
              have x0 := hOv.cell (j := i) (by rw [hvl, rdF_length]; exact hiF)
              obtain ⟨f, hf⟩ : ∃ f, f = F[i] := ⟨_, rfl⟩
              have hmem : f ∈ F := by rw [hf]; exact List.getElem_mem hiF
              have hfl0 : f.length = n := HFr.out f hmem
              rw [← hf] at hrwi
              obtain ⟨si, ki, hvi⟩ := hrwi.shape hfl0
              rw [hvi] at x0 hrwi
              have HOv := Lib.hid hOv
              have Hvl := Lib.hid hvl
              have Hrw := Lib.hid hrw
              have Hrwi := Lib.hid hrwi
              have Hf := Lib.hid hf
              have Hfl := Lib.hid hfl0
              obtain ⟨-, gf, of', rfl, t1, m1, r1, e0, e1, hdf⟩ := hrwi.col (by rw [hfl0]; exact hlt)
              obtain ⟨-, gp2, op2, hgp2, t2, m2, r2, f0, f1, hdp⟩ := hPv.out.col (by rw [Hpl.out]; exact hlt)
              cases hgp2
              have HfB2 := Lib.hid (HfB.out f hmem)
              have hcb : ∀ (r : List Int), r.length = n → (∀ z ∈ r, (pc z.natAbs).length ≤ 100000000) → (pc (r.getD c 0).natAbs).length ≤ 100000000 := fun r hr hb => by
                rw [getD_get (by omega : c < r.length)]
                exact hb _ (List.getElem_mem _)
              obtain ⟨q2, hq2⟩ : ∃ q2, q2 = (f.getD c 0).fdiv (p.getD c 0) := ⟨_, rfl⟩
              have hlq : (pc q2.natAbs).length ≤ 100000000 := by
                rw [hq2]
                exact Nat.le_trans (pc_mono (fdiv_abs _ (by have := Hpc.out; omega))) (hcb f hfl0 HfB2.out)
              have hfl := Lib.hid (fun V (hV : Ext Y V) => floorW_w (hdf.ext hV) (hdp.ext hV) Hpc.out (hcb f hfl0 HfB2.out) (hcb p Hpl.out HpB.out) (HL.out.ext (hEY.trans hV)))
              rw [← hq2] at hfl
              have Hq2 := Lib.hid hq2
              have hYs := hEY.size
              generalize decide (f.getD c 0 < 0) = bf at *
              generalize decide (p.getD c 0 < 0) = bp at *
              clear hOv hvl hrw hvi hrwi hf hmem hfl0 hdf hdp hcb hq2
              go_upto_region 12 with fail
              go_cut [8, 9] from 32 to 62 (fun qa na wx => ∃ (g : Nat) (bv : Bool) (sv : Option Addr) (nv cv : Nat), qa = .pointer (some ⟨g, 0, none⟩) ∧ wx.cell? ⟨g, 0, none⟩ = some (.bool bv) ∧ wx.cell? ⟨g, 1, none⟩ = some (.slice sv nv cv) ∧ Hid (WhR wx (.agg #[.bool bv, .slice sv nv cv]) q2) ∧ Ext Y wx)
              case first =>
                have d7 : Ext Y Y.drew := (Ext.refl Y).drew
                have k7 := (And.intro (d7.cell x0) (And.intro (d7.cell e0) (And.intro (d7.cell e1) (And.intro (d7.cell f0) (d7.cell f1)))))
                go_region_held3 (fun w' => w'.cell? ⟨g9, i, none⟩ = some (.slice (some ⟨gf, of', none⟩) n ki) ∧ w'.cell? ⟨gf, of' + c * 2, none⟩ = some (.bool bf) ∧ w'.cell? ⟨gf, of' + c * 2 + 1, none⟩ = some (.slice t1 m1 r1) ∧ w'.cell? ⟨gp, op + c * 2, none⟩ = some (.bool bp) ∧ w'.cell? ⟨gp, op + c * 2 + 1, none⟩ = some (.slice t2 m2 r2)) (first | with_reducible exact k8 | with_reducible exact k7 | (refine keep5 ?_ x0 e0 e1 f0 f1; repeat' (first | with_reducible exact h67 | with_reducible exact d7 | with_reducible exact Ext.refl _ | with_reducible apply Ext.walloc | with_reducible apply Ext.drew | with_reducible apply Ext.wset | with_reducible exact Nat.le_refl _ | with_reducible exact Nat.le_succ _ | with_reducible exact hl7 | with_reducible exact hl8 | fail)))
                  (first
                    | (go_at_call 34; refine (hfl.out _ (by first | exact d7 | exact d7.alloc _ | exact (d7.alloc _).alloc _)).mono ?_; rintro e W7 ⟨v1, v2, rfl, hv1, hv2, hE9⟩; have h67 : Ext Y W7 := Ext.trans (by first | exact d7 | exact d7.alloc _ | exact (d7.alloc _).alloc _) hE9; have hl7 : Y.heap.size ≤ W7.heap.size := h67.size; have hl8 : Y.heap.size ≤ W7.heap.size + 1 := Nat.le_succ_of_le h67.size; have k8 := (And.intro (h67.cell x0) (And.intro (h67.cell e0) (And.intro (h67.cell e1) (And.intro (h67.cell f0) (h67.cell f1))))); have Hv1 := Lib.hid hv1; obtain ⟨bv, sv, nv, cv, rfl⟩ := hv1.shape; obtain ⟨bv2, sv2, nv2, cv2, rfl⟩ := hv2.shape; clear hv1 hv2; (first | (have zz := wb2 hE9; obtain ⟨⟨z0, z1, z2, z3, z4, z5⟩, ⟨y0, y1, y2, y3, y4, y5⟩⟩ := zz) | (have zz := wb1 hE9; obtain ⟨z0, z1, z2, z3, z4, z5⟩ := zz) | skip)))
                all_goals (try go_wp2_with fail)
                all_goals go_meet
                all_goals refine ⟨_, bv, sv, nv, cv, rfl, by go_simp, by go_simp, Lib.hid ?_, ?_⟩
                all_goals repeat' (first | with_reducible exact Hv1.out | with_reducible exact z5.out | with_reducible exact y5.out | with_reducible apply WhR.walloc | with_reducible apply WhR.wset | with_reducible apply IsWb.alloc | with_reducible apply IsWb.set | with_reducible exact h67 | with_reducible exact d7 | with_reducible exact Ext.refl _ | with_reducible apply Ext.walloc | with_reducible apply Ext.drew | with_reducible apply Ext.wset | with_reducible exact Nat.le_refl _ | with_reducible exact Nat.le_succ _ | with_reducible exact hl7 | with_reducible exact hl8 | fail)
              case rest =>
                obtain ⟨g4, bv, sv, nv, cv, rfl, c0, c1, hv1, hE9⟩ := hcut
                have x9 := hE9.cell x0
                have HO9 := Lib.hid (OwnV.ext HOv.out hE9)
                have Hrw9 := Lib.hid (fun t a b => (Hrw.out t a b).ext hE9)
                have hP9 := Lib.hid (hPv.out.ext hE9)
                have hZ9 := Lib.hid (hZv.out.ext hE9)
                have hE99 := hEY.trans hE9
                have hs9 := hE9.size
                have hle := Lib.hid (fun V (hV : Ext wc V) => less_w ((Hrwi.out.ext hE9).ext hV).row (hP9.out.ext hV).row (hv1.out.ext hV) (by rw [Hfl.out, Hpl.out]) (by rw [Hfl.out]; exact hnl) HfB2.out HpB.out hlq)
                have Hstep := Lib.hid (show rdF c p (i + 1) F = (rdF c p i F).set i (lessL q2 f p) by
                  rw [rdF_step c p hiF]; unfold rdc; rw [← Hf.out, ← Hq2.out])
                have HrdL := Lib.hid (show (rdF c p i F).length = fn by rw [rdF_length]; exact HFn.out)
                have hlen9 : i < vs.length := by rw [Hvl.out, HrdL.out]; exact hlti
                have hwg := Lib.hid (OwnV.lt HO9.out).1
                clear hfl x0 e0 e1 f0 f1 hP9
                go_wp2_with fail
                go_region_law (first
                  | (go_simp; go_at_call 63; refine (hle.out _ ((Ext.refl _).drew)).mono ?_; rintro e W8 ⟨u, rfl, hu, hE10⟩; have d9 : Ext wc W8 := ((Ext.refl wc).drew).trans hE10; have HU := Lib.hid hu.rwT; obtain ⟨su, cu, rfl⟩ := HU.out.shape (show (lessL q2 f p).length = n by rw [lessL_length (by rw [Hfl.out, Hpl.out])]; exact Hfl.out); have HO8 := Lib.hid (OwnV.ext HO9.out d9); have x8 := OwnV.cell HO8.out hlen9; have z8 := OwnV.frozen HO8.out i; clear hu))
                all_goals
                  obtain ⟨hM8, hG8⟩ := MtO.set (F := rdF c p i F) (by rw [Hvl.out]) HO8.out (fun t a b => (Hrw9.out t a b).ext d9) i HU.out
                  rw [← Hstep.out, HrdL.out] at hM8
                  have HM8 := Lib.hid hM8
                  have hP10 := Lib.hid (rwT_own (HO8.out.row rfl) (by decide) (by decide) hG8 ((hPv.out.ext hE9).ext d9))
                  have hZ10 := Lib.hid (mtR_own ((hDv.out.ext hE9).ext d9) hG8 (fun g h1 h2 => by
                    have a1 := Hzb.out g h2
                    have a2 := Hdb.out g h1
                    omega) (hZ9.out.ext d9))
                  have hE11 := ext_trans_grown (hE99.trans d9) hG8 hwg.out
                  have hs11 : X.heap.size ≤ (W8.setCell ⟨g9, i, none⟩ (.slice su n cu)).heap.size := by
                    have := d9.size
                    have := hG8.size
                    omega
                  clear hM8 hG8 hle hDv hPv hZv hZ9 HU
                  generalize hWN : W8.setCell ⟨g9, i, none⟩ (.slice su n cu) = WN at *
                  clear hWN x8 z8 x9
                  go_wp2_with fail
                  go_roundg (fn - (i + 1))
                  case measure => omega
                  case rel => exact ⟨i + 1, by omega, by go_num, rfl, HM8, hP10, hZ10, hE11, hs11⟩
            · have hie : i = fn := by omega
              subst hie
              have hDv2 := hDv.out
              rw [rdF_all c p (by rw [HFn.out]; exact Nat.le_refl _)] at hDv2
              have HDv := Lib.hid hDv2
              have Hml := Lib.hid (show (F.map (rdc c p)).length = i by rw [List.length_map]; exact HFn.out)
              have hYs := hEY.size
              clear hDv hDv2
              go_wp2_with (at_builtin; refine app_mtx rfl _ _ rfl rfl (HDv.out.ext ((Ext.refl _).alloc _)) rfl (b := Y.heap.size) (rv := .slice (some ⟨gp, op, none⟩) n cpp) (r := p) (by go_simp) (hPv.out.ext ((Ext.refl _).alloc _)) (by rw [Hml.out]; have := Hfl.out; omega) (by simp; omega) ?_; intro gg cap2 w8 hO8 hB8 hG8; rw [Hml.out] at hO8 ⊢)
              have hE8 : Ext w w8 := Below.trans (hEY.alloc (.cells #[.slice (some ⟨gp, op, none⟩) n cpp] 56)) hB8
              have hO9 := Lib.hid hO8
              have hZ9 := Lib.hid (mtR_own (HDv.out.ext ((Ext.refl Y).alloc (.cells #[.slice (some ⟨gp, op, none⟩) n cpp] 56))) hG8 (fun g h1 h2 => by
                have a1 := Hzb.out g h2
                have a2 := Hdb.out g h1
                omega) (hZv.out.ext ((Ext.refl Y).alloc _)))
              clear hG8 hB8 hO8
              go_wp2_with fail
              go_roundw
              case rel => exact ⟨c + 1, ps ++ [c], F.map (rdc c p) ++ [p], Z, _, _, by omega, by go_num, rfl, HS2, HB2, hO9, hZ9, hE8⟩
              case measure => simp [intOf] <;> omega
      · have hii : ¬ (c : Int) < (n : Int) := by omega
        have HD := Lib.hid (hS.out.done (.inr (by omega)))
        have hcn : c = n := by omega
        subst hcn
        have HB9 := Lib.hid hB.out.1
        have HF9 := Lib.hid (show F.length ≤ m by omega)
        generalize R.length = rn at *
        go_wp2_with fail
        go_ret
        exact ⟨_, F, rfl, HD.out, by rw [← Hm.out]; exact HB9.out, by rw [← Hm.out]; exact HF9.out, hO.out, hE⟩
    · have hR9 : R.length = 0 := by omega
      have HD := Lib.hid (hS.out.done (.inl (List.eq_nil_of_length_eq_zero hR9)))
      have HB9 := Lib.hid (hB.out.1.mono (show rkB m k c ≤ rkB m k n by have := rkB_mono m k c (n - c); rwa [show c + (n - c) = n by omega] at this))
      have HF9 := Lib.hid (show F.length ≤ m by omega)
      generalize R.length = rn at *
      subst hR9
      go_wp2_with fail
      go_ret
      exact ⟨_, F, rfl, HD.out, by rw [← Hm.out]; exact HB9.out, by rw [← Hm.out]; exact HF9.out, hO.out, hE⟩
end Go.Proofs.YthmhmkkcjlgbjaaGreatDoor
/- schismaref07: Reduce -/
namespace Go.Proofs.YthmhmkkcjlgbjaaGreatDoor
open Go.RowKit Go.Sort
open Hnf (V Span)
theorem lessL_subK {k : Int} : ∀ {x y : List Int}, y.length = x.length → lessL k x y = subK k x y
  | [], [], _ => rfl
  | a :: x, b :: y, h => by
    have := lessL_subK (k := k) (x := x) (y := y) (by simpa using h)
    unfold lessL at this ⊢
    rw [List.zipWith_cons_cons, this, subK]
/-- A new row stays when another own row grows. -/
theorem rwT_keep {B C : Nat} {w w' : World} {m u : Value} {q r : List Int} (hQ : RwV B w m q) (hu : RwV C w u r) (hC : ∀ g, m.ownBlock = some g → g < C) (hG : w.grownBy w' m.ownBlock) : RwT w' u r := by
  have hT := hu.rwT
  obtain ⟨dq, _, h2, _⟩ := hQ
  rcases h2.2 with ⟨rfl, _⟩ | ⟨g, cap, cur, rfl, _, hg, _⟩
  · exact hT.ext (ext_grown hG)
  · have hgC := hC g rfl
    obtain ⟨du, _, k2, _⟩ := hu
    have hne : ∀ a n c, u = .slice (some a) n c → 0 < n → a.block ≠ g := fun a n c e h0 hr => by
      have := (World.ownsRow.lt k2 a.block (by rw [e]; rfl)).1
      omega
    refine ⟨?_, fun a n c e h0 => ?_⟩
    · obtain ⟨sa, gb, go, cap', e, hc, ha, hr⟩ := hT.row
      refine ⟨sa, gb, go, cap', e, hc, ha, fun i hi => ?_⟩
      obtain ⟨d, c0, c1, hd⟩ := hr i hi
      have hb : gb ≠ g := hne ⟨gb, go, none⟩ _ _ (by rw [e, ha (by omega)]) (by omega)
      exact ⟨d, grown_frozen_cell hG hb c0, grown_frozen_cell hG hb c1, dig_far hg (by decide) hG hd⟩
    · obtain ⟨cur', fr, hh⟩ := hT.ty a n c e h0
      exact ⟨cur', fr, by rw [hG.block _ (Array.getElem?_eq_some_iff.1 hh).1 (fun e2 => hne a n c e h0 (Option.some.inj e2))]; exact hh⟩
theorem RwV.blk {B : Nat} {w : World} {v : Value} {r : List Int} (h : RwV B w v r) {g : Nat} (hg : v.ownBlock = some g) : g < w.heap.size := by
  obtain ⟨ds, h1, h2, h3⟩ := h
  exact (World.ownsRow.lt h2 g hg).2
def RePost (F : Mx) (x : List Int) (w : World) (e : Ending) (w' : World) : Prop := ∃ v1 v2, e = .returned (.tuple #[v1, v2]) ∧ RwT w' v1 (redX F x) ∧ RwT w' v2 (redQ F x) ∧ Ext w w'
theorem pv_first {r : List Int} {c : Nat} (hc : c ≤ pv r) (h : r.getD c 0 ≠ 0) : pv r = c := by
  rcases Nat.lt_or_ge c (pv r) with h1 | h1
  · exact absurd (pv_zero h1) h
  · omega
set_option maxRecDepth 100000 in
set_option maxHeartbeats 4000000 in
theorem reduce_w {w : World} {vf vx : Value} {F : Mx} {x : List Int} {n : Nat} (hF : MtR w vf F) (hx : RwT w vx x) (hRc : Rect n F) (hxl : x.length = n) (hnl : n ≤ 1000000) (hP : ∀ i, i < F.length → pv (F.getD i []) < n ∧ 0 < (F.getD i []).getD (pv (F.getD i [])) 0)
    (hb : ∀ r ∈ F, ∀ z ∈ r, z.natAbs < 2 ^ 30) (hbx : ∀ z ∈ x, z.natAbs < 2 ^ 30) (hfl : F.length ≤ 1000) (hL : Laid w) :
    Calls Tryz.prog 29 #[vf, vx] w (RePost F x w) := by
  obtain ⟨sa, gb, go, cap, rfl, hS⟩ := hF.at
  have HP := Lib.hid hP
  have HPv := Lib.hid (show Piv F from fun i hi => by have := (hP i hi).2; omega)
  have Hb := Lib.hid hb
  have Hbx := Lib.hid hbx
  have HRc := Lib.hid hRc
  have HL := Lib.hid hL
  have Hx := Lib.hid hx
  have Hxl := Lib.hid hxl
  obtain ⟨m, hm⟩ : ∃ m, m = F.length := ⟨_, rfl⟩
  rw [← hm] at hfl ⊢
  have Hm := Lib.hid hm
  obtain ⟨sx, cx, rfl⟩ := hx.shape hxl
  clear hP hb hbx hRc hL hm hF hx hxl
  go_enter Tryz.func29, Tryz.ntmps29
  go_wp2_with fail
  go_loopg [1, 5, 6] m (fun kk xv mv idx wr => ∃ (i : Nat) (s1 : Option Addr) (k1 : Nat), i ≤ m ∧ idx = .int .i64 i ∧ kk = m - i ∧ xv = .slice s1 n k1 ∧ Hid (RwT wr xv (redX (F.take i) x)) ∧ Hid (RwV w.heap.size wr mv (redQ (F.take i) x)) ∧ Ext w wr)
  case atStart => exact ⟨0, sx, cx, by omega, by go_num, by omega, rfl, Hx, Lib.hid (RwV.nil _ _), Ext.refl _⟩
  case round =>
    obtain ⟨i, s1, k1, hi, rfl, hgk, rfl, hX, hQ, hE⟩ := hrel
    generalize wr = X at *
    by_cases hlt : i < m
    · have hii : (i : Int) < (m : Int) := by omega
      have hir : i < F.length := by rw [← Hm.out]; exact hlt
      obtain ⟨rfl, sr, cr, c0, hw⟩ := hS.out i hir
      obtain ⟨r, hr⟩ : ∃ r, r = F[i] := ⟨_, rfl⟩
      have hmem : r ∈ F := by rw [hr]; exact List.getElem_mem hir
      have hrl := HRc.out _ hmem
      rw [← hr, hrl] at c0 hw
      have hrD : F.getD i [] = r := by rw [getD_get hir, hr]
      have hpv := HP.out i hir
      rw [hrD] at hpv
      have Hpv := Lib.hid hpv
      have Hrl := Lib.hid hrl
      have HrD := Lib.hid hrD
      have HrB := Lib.hid (Hb.out r hmem)
      have Hw := Lib.hid (hw.ext hE)
      have c0 := hE.cell c0
      clear hw hmem hr hrl hrD hpv
      go_wp2_with fail
      go_loopw [7] (fun ci wr => ∃ c : Nat, c ≤ pv r ∧ ci = .int .i64 c ∧ Ext X wr) (fun ci _ => n - (intOf ci).toNat)
      case atStart => exact ⟨0, by omega, by go_num, Ext.refl _⟩
      case round =>
        obtain ⟨c, hc, rfl, hEY⟩ := hrel
        generalize wr = Y at *
        have hcn : c < n := by have := Hpv.out.1; omega
        have hcc : (c : Int) < (n : Int) := by omega
        obtain ⟨-, gr, or, rfl, t1, m1, r1, e0, e1, hdr⟩ := (Hw.out.ext hEY).col (by rw [Hrl.out]; exact hcn)
        obtain ⟨b, hb⟩ : ∃ b, b = r.getD c 0 := ⟨_, rfl⟩
        rw [← hb] at e0 hdr
        have Hb1 := Lib.hid hb
        have hsg := Lib.hid (signW_w hdr)
        have c0Y := hEY.cell c0
        by_cases hb0 : b = 0
        · have hs : b.sign = 0 := by rw [hb0]; rfl
          rw [hs] at hsg
          have hc2 : c + 1 ≤ pv r := by
            rcases Nat.lt_or_ge c (pv r) with h | h
            · omega
            · have e : c = pv r := by omega
              have := Hpv.out.2
              rw [← e, ← Hb1.out] at this; omega
          generalize decide (b < 0) = bb at *
          clear hdr hb hb0 hs
          go_wp2_with fail
          refine hsg.out.mono ?_
          rintro e W1 ⟨rfl, hE1⟩
          have hE2 := hEY.trans hE1
          clear hsg
          go_wp2_with fail
          go_roundw
          case rel => exact ⟨c + 1, hc2, by go_num, hE2⟩
          case measure => simp [intOf] <;> omega
        · have hpvc : pv r = c := pv_first hc (by rw [← Hb1.out]; exact hb0)
          have hpos : 0 < b := by have := Hpv.out.2; rw [hpvc, ← Hb1.out] at this; exact this
          have hs : b.sign = 1 := Int.sign_eq_one_of_pos hpos
          rw [hs] at hsg
          obtain ⟨xi, hxi⟩ : ∃ xi, xi = redX (F.take i) x := ⟨_, rfl⟩
          have hxil : xi.length = n := by rw [hxi, redX_length]; exact Hxl.out
          have hXi := hX.out
          rw [← hxi] at hXi
          obtain ⟨-, gx, ox, hox, t2, m2, r2, x0, x1, hdx⟩ := (hXi.ext hEY).col (by rw [hxil]; exact hcn)
          cases hox
          have h2x := redX_small HPv.out Hb.out Hbx.out i (by omega)
          rw [← hxi] at h2x
          have HxB := Lib.hid (bits_pc (E := 30 + 31 * i) (by omega) h2x)
          have HrB2 := Lib.hid (bits_pc (E := 30) (by omega) HrB.out)
          have hlx : (pc (xi.getD c 0).natAbs).length ≤ 100000000 := by
            rw [getD_get (by omega : c < xi.length)]; exact HxB.out _ (List.getElem_mem _)
          have hlb : (pc b.natAbs).length ≤ 100000000 := by
            rw [Hb1.out, getD_get (by rw [Hrl.out]; exact hcn : c < r.length)]; exact HrB2.out _ (List.getElem_mem _)
          obtain ⟨q2, hq2⟩ : ∃ q2, q2 = (xi.getD c 0).fdiv b := ⟨_, rfl⟩
          have hlq : (pc q2.natAbs).length ≤ 100000000 := by
            rw [hq2]; exact Nat.le_trans (pc_mono (fdiv_abs _ hb0)) hlx
          have hfl := Lib.hid (fun V (hV : Ext Y V) => floorW_w (hdx.ext hV) (hdr.ext hV) hpos hlx hlb (HL.out.ext ((hE.trans hEY).trans hV)))
          rw [← hq2] at hfl
          have Hstep := Lib.hid (show redX (F.take (i + 1)) x = lessL q2 xi r ∧ redQ (F.take (i + 1)) x = redQ (F.take i) x ++ [q2] by
            have e : stepQ r xi = q2 := by unfold stepQ; rw [hpvc, hq2, Hb1.out]
            rw [redX_take hir, redQ_take hir, HrD.out, ← hxi, e]
            exact ⟨(lessL_subK (by rw [Hrl.out, hxil])).symm, rfl⟩)
          have Hxil := Lib.hid hxil
          have HXi := Lib.hid (hXi.ext hEY)
          have HwY := Lib.hid (Hw.out.ext hEY)
          generalize decide (b < 0) = bb at *
          generalize decide (xi.getD c 0 < 0) = bx at *
          clear hdx hdr hxi hxil hXi h2x hq2 hpvc hb0 hs hlx hlb hX
          go_wp2_with fail
          refine hsg.out.mono ?_
          rintro e W ⟨rfl, hE1⟩
          replace x0 := hE1.cell x0
          replace x1 := hE1.cell x1
          replace c0Y := hE1.cell c0Y
          replace e0 := hE1.cell e0
          replace e1 := hE1.cell e1
          have hEW := (hE.trans hEY).trans hE1
          have hfl2 := Lib.hid (fun V (hV : Ext W V) => hfl.out V (hE1.trans hV))
          clear hsg hfl
          go_upto_region 7 with fail
          go_cut [8, 9] from 10 to 52 (fun qa na wx => ∃ (g : Nat) (bv : Bool) (sv : Option Addr) (nv cv : Nat), qa = .pointer (some ⟨g, 0, none⟩) ∧ wx.cell? ⟨g, 0, none⟩ = some (.bool bv) ∧ wx.cell? ⟨g, 1, none⟩ = some (.slice sv nv cv) ∧ Hid (WhR wx (.agg #[.bool bv, .slice sv nv cv]) q2) ∧ Ext W wx)
          case first =>
            have d7 : Ext W W.drew := (Ext.refl W).drew
            have k7 := (And.intro (d7.cell x0) (And.intro (d7.cell x1) (And.intro (d7.cell c0Y) (And.intro (d7.cell e0) (d7.cell e1)))))
            go_region_held3 (fun w' => w'.cell? ⟨gx, ox + c * 2, none⟩ = some (.bool bx) ∧ w'.cell? ⟨gx, ox + c * 2 + 1, none⟩ = some (.slice t2 m2 r2) ∧ w'.cell? ⟨gb, go + i, none⟩ = some (.slice (some ⟨gr, or, none⟩) n cr) ∧ w'.cell? ⟨gr, or + c * 2, none⟩ = some (.bool bb) ∧ w'.cell? ⟨gr, or + c * 2 + 1, none⟩ = some (.slice t1 m1 r1)) (first | with_reducible exact k8 | with_reducible exact k7 | (refine keep5 ?_ x0 x1 c0Y e0 e1; repeat' (first | with_reducible exact h67 | with_reducible exact d7 | with_reducible exact Ext.refl _ | with_reducible apply Ext.walloc | with_reducible apply Ext.drew | with_reducible apply Ext.wset | with_reducible exact Nat.le_refl _ | with_reducible exact Nat.le_succ _ | with_reducible exact hl7 | with_reducible exact hl8 | fail)))
              (first
                | (go_at_call 34; refine (hfl2.out _ (by first | exact d7 | exact d7.alloc _ | exact (d7.alloc _).alloc _)).mono ?_; rintro e W7 ⟨v1, v2, rfl, hv1, hv2, hE9⟩; have h67 : Ext W W7 := Ext.trans (by first | exact d7 | exact d7.alloc _ | exact (d7.alloc _).alloc _) hE9; have hl7 : W.heap.size ≤ W7.heap.size := h67.size; have hl8 : W.heap.size ≤ W7.heap.size + 1 := Nat.le_succ_of_le h67.size; have k8 := (And.intro (h67.cell x0) (And.intro (h67.cell x1) (And.intro (h67.cell c0Y) (And.intro (h67.cell e0) (h67.cell e1))))); have Hv1 := Lib.hid hv1; obtain ⟨bv, sv, nv, cv, rfl⟩ := hv1.shape; obtain ⟨bv2, sv2, nv2, cv2, rfl⟩ := hv2.shape; clear hv1 hv2; (first | (have zz := wb2 hE9; obtain ⟨⟨z0, z1, z2, z3, z4, z5⟩, ⟨y0, y1, y2, y3, y4, y5⟩⟩ := zz) | (have zz := wb1 hE9; obtain ⟨z0, z1, z2, z3, z4, z5⟩ := zz) | skip)))
            all_goals (try go_wp2_with fail)
            all_goals go_meet
            all_goals refine ⟨_, bv, sv, nv, cv, rfl, by go_simp, by go_simp, Lib.hid ?_, ?_⟩
            all_goals repeat' (first | with_reducible exact Hv1.out | with_reducible exact z5.out | with_reducible exact y5.out | with_reducible apply WhR.walloc | with_reducible apply WhR.wset | with_reducible apply IsWb.alloc | with_reducible apply IsWb.set | with_reducible exact h67 | with_reducible exact d7 | with_reducible exact Ext.refl _ | with_reducible apply Ext.walloc | with_reducible apply Ext.drew | with_reducible apply Ext.wset | with_reducible exact Nat.le_refl _ | with_reducible exact Nat.le_succ _ | with_reducible exact hl7 | with_reducible exact hl8 | fail)
          case rest =>
            obtain ⟨g4, bv, sv, nv, cv, rfl, b0, b1, hv1, hE9⟩ := hcut
            have c9 := hE9.cell c0Y
            have d8 : Ext wc wc.drew := (Ext.refl wc).drew
            have s8 := And.intro (d8.cell c9) (And.intro (d8.cell b0) (d8.cell b1))
            have hle := Lib.hid (fun V (hV : Ext wc V) => less_w (((HXi.out.ext hE1).ext hE9).ext hV).row (((HwY.out.ext hE1).ext hE9).ext hV).row (hv1.out.ext hV) (by rw [Hrl.out, Hxil.out]) (by rw [Hxil.out]; exact hnl) HxB.out HrB2.out hlq)
            have hE99 := hEW.trans hE9
            clear hfl2
            go_wp2_with fail
            go_region_held3 (fun w' => w'.cell? ⟨gb, go + i, none⟩ = some (.slice (some ⟨gr, or, none⟩) n cr) ∧ w'.cell? ⟨g4, 0, none⟩ = some (.bool bv) ∧ w'.cell? ⟨g4, 1, none⟩ = some (.slice sv nv cv)) (first | with_reducible exact s9 | with_reducible exact s8 | go_keep)
              (first
                | (go_at_call 63; refine (hle.out _ d8).mono ?_; rintro e W8 ⟨u, rfl, hu, hE10⟩; have d9 := d8.trans hE10; have s9 := And.intro (d9.cell c9) (And.intro (d9.cell b0) (d9.cell b1)); have HU := Lib.hid hu; have hU0 := hu.rwT; obtain ⟨su, cu, rfl⟩ := hU0.shape (show (lessL q2 xi r).length = n by rw [lessL_length (by rw [Hrl.out, Hxil.out])]; exact Hxil.out); clear hu hU0))
            rw [← Hstep.out.1] at HU
            have Hqb := Lib.hid (fun g (h : _ = some g) => show g < wc.drew.heap.size from Nat.lt_of_lt_of_le (Nat.lt_of_lt_of_le (hQ.out.blk h) ((hEY.trans (hE1.trans hE9)).size)) d8.size)
            obtain ⟨-, p0, p1⟩ := And.intro s9.1 s9.2
            have hE8 := hE99.trans d9
            have hQ8 := Lib.hid (((((hQ.out.ext hEY).ext hE1).ext hE9).ext d9))
            obtain ⟨dq, hdq, hdd⟩ := (hv1.out.ext d9)
            have hbv : bv = decide (q2 < 0) ∧ dq = .slice sv nv cv := by
              injection hdq with hdq
              injection hdq with hdq
              injection hdq with h1 h2
              injection h1 with h1
              injection h2 with h2 _
              exact ⟨h1, h2.symm⟩
            obtain ⟨hbv, rfl⟩ := hbv
            have Hbv := Lib.hid hbv
            have Hdd := Lib.hid hdd
            have Hqn := Lib.hid (show (redQ (F.take i) x).length = i by rw [redQ_length, List.length_take]; omega)
            have hs8 := hE8.size
            clear hle s8 s9 hdq hdd hbv hv1
            go_wp2_with (at_builtin; refine app_whole rfl _ _ rfl rfl (hQ8.out.ext ((Ext.refl _).alloc _)) rfl (b := W8.heap.size) (z := q2) (by rw [← Hbv.out]; go_simp) (by go_simp) (Hdd.out.ext ((Ext.refl _).alloc _)) (by rw [Hqn.out]; omega) (by simp; omega) ?_; intro gg cap2 w8 hO8 hB8 hG8; rw [← Hstep.out.2] at hO8; rw [Hqn.out] at hO8 ⊢)
            have hE8' : Ext w w8 := Below.trans (hE8.alloc (.cells #[.bool bv, .slice sv nv cv] 66)) hB8
            have hU9 := Lib.hid (rwT_keep (hQ8.out.ext ((Ext.refl _).alloc _)) (HU.out.ext ((Ext.refl W8).alloc (.cells #[.bool bv, .slice sv nv cv] 66))) Hqb.out hG8)
            have hO9 := Lib.hid hO8
            clear hG8 hB8 hO8
            go_wp2_with fail
            go_roundg (m - (i + 1))
            case measure => omega
            case rel => exact ⟨i + 1, su, cu, by omega, by go_num, rfl, rfl, hU9, hO9, hE8'⟩
    · have hie : F.take i = F := List.take_of_length_le (by rw [← Hm.out]; omega)
      rw [hie] at hX hQ
      go_wp2_with fail
      go_ret2
      exact ⟨_, _, rfl, hX.out, hQ.out.rwT, hE⟩
end Go.Proofs.YthmhmkkcjlgbjaaGreatDoor
