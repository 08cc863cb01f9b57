/- Part 31 of the proof of the claim: contracts of the functions that it reaches, and plain laws; no condition. -/
import Derived.Test.YthmhmkkcjlgbjaaGreatDoorV28
import Derived.Test.YthmhmkkcjlgbjaaGreatDoorV29
import Derived.Test.YthmhmkkcjlgbjaaGreatDoorV30
import Derived.Test.YthmhmkkcjlgbjaaGreatDoorV03
import Derived.Test.YthmhmkkcjlgbjaaGreatDoorV13
import Derived.Test.YthmhmkkcjlgbjaaGreatDoorRows
import Derived.ProofKit
import Derived.LaidMore
import Derived.OpenShut
import Derived.Stop.Joined
import Derived.Stop.LaidErr
import Derived.Lib.LaidTab
import Derived.Deep.Matrix
import Derived.Test.YthmhmkkcjlgbjaaGreatDoorCards
import Derived.Test.YthmhmkkcjlgbjaaGreatDoorTie
import Derived.SevenTiedAt
/- schismalaw07: HermiteReduces, the walk -/
namespace Go.Proofs.YthmhmkkcjlgbjaaGreatDoor
open Go.RowKit Go.Sort
def RcF (F : Mx) (x : List Int) (w : World) (s1 : Option Addr) (n1 k1 : Nat) (s2 : Option Addr) (n2 k2 : Nat) (e1 : Int) : Prop :=
  (openE F x ≠ 0 → e1 = openE F x ∧ n1 = 0 ∧ n2 = 0) ∧ (openE F x = 0 → (smallB (redX F x) && smallB (redQ F x)) = false → e1 = 4 ∧ n1 = 0 ∧ n2 = 0) ∧
  (openE F x = 0 → (smallB (redX F x) && smallB (redQ F x)) = true → e1 = 0 ∧ RowR w (.slice s1 n1 k1) (redX F x) ∧ RowR w (.slice s2 n2 k2) (redQ F x))
theorem row_of {B : Nat} {w : World} {v : Value} {r : List Int} (h : RowV B w v r) : ∃ s n k, v = .slice s n k ∧ RowR w v r := by
  have h2 := h.row
  obtain ⟨s, n, k, e⟩ := row_shape h2
  exact ⟨s, n, k, e, h2⟩
theorem rc_open {w : World} {F : Mx} {x : List Int} {e : Ending} {w' : World} (h : RcPost w F x e w') : ∃ s1 n1 k1 s2 n2 k2 e1, e = .returned (.tuple #[.slice s1 n1 k1, .slice s2 n2 k2, .int .i64 e1]) ∧ RcF F x w' s1 n1 k1 s2 n2 k2 e1 ∧ Ext w w' := by
  obtain ⟨h1, hE⟩ := h
  by_cases ho : openE F x = 0
  · rw [if_pos ho] at h1
    cases hb : smallB (redX F x) && smallB (redQ F x)
    · rw [hb, if_neg (by decide)] at h1
      exact ⟨none, 0, 0, none, 0, 0, 4, h1, ⟨fun h => absurd ho h, fun _ _ => ⟨rfl, rfl, rfl⟩, (fun _ h => by rw [hb] at h; cases h)⟩, hE⟩
    · rw [hb, if_pos rfl] at h1
      obtain ⟨v1, v2, he, hv1, hv2⟩ := h1
      obtain ⟨s1, n1, k1, rfl, r1⟩ := row_of hv1
      obtain ⟨s2, n2, k2, rfl, r2⟩ := row_of hv2
      exact ⟨s1, n1, k1, s2, n2, k2, 0, he, ⟨fun h => absurd ho h, (fun _ h => by rw [hb] at h; cases h), fun _ _ => ⟨rfl, r1, r2⟩⟩, hE⟩
  · rw [if_neg ho] at h1
    exact ⟨none, 0, 0, none, 0, 0, openE F x, h1, ⟨fun _ => ⟨rfl, rfl, rfl⟩, fun h => absurd h ho, fun h => absurd h ho⟩, hE⟩
def CoF (F : Mx) (x : List Int) (w : World) (s1 : Option Addr) (n1 k1 : Nat) (fd : Bool) (e1 : Int) : Prop :=
  (openE F x ≠ 0 → e1 = openE F x ∧ n1 = 0 ∧ fd = false) ∧ (openE F x = 0 → inB F x = false → e1 = 0 ∧ n1 = 0 ∧ fd = false) ∧
  (openE F x = 0 → inB F x = true → smallB (redQ F x) = false → e1 = 4 ∧ n1 = 0 ∧ fd = false) ∧
  (openE F x = 0 → inB F x = true → smallB (redQ F x) = true → e1 = 0 ∧ fd = true ∧ RowR w (.slice s1 n1 k1) (redQ F x))
theorem co_open {w : World} {F : Mx} {x : List Int} {e : Ending} {w' : World} (h : CoPost w F x e w') : ∃ s1 n1 k1 fd e1, e = .returned (.tuple #[.slice s1 n1 k1, .bool fd, .int .i64 e1]) ∧ CoF F x w' s1 n1 k1 fd e1 ∧ Ext w w' := by
  obtain ⟨h1, hE⟩ := h
  by_cases ho : openE F x = 0
  · rw [if_pos ho] at h1
    cases hb : inB F x
    · rw [hb, if_neg (by decide)] at h1
      exact ⟨none, 0, 0, false, 0, h1, ⟨fun h => absurd ho h, fun _ _ => ⟨rfl, rfl, rfl⟩, (fun _ h => by rw [hb] at h; cases h), (fun _ h => by rw [hb] at h; cases h)⟩, hE⟩
    · rw [hb, if_pos rfl] at h1
      cases hq : smallB (redQ F x)
      · rw [hq, if_neg (by decide)] at h1
        exact ⟨none, 0, 0, false, 4, h1, ⟨fun h => absurd ho h, (fun _ h => by rw [hb] at h; cases h), fun _ _ _ => ⟨rfl, rfl, rfl⟩, (fun _ _ h => by rw [hq] at h; cases h)⟩, hE⟩
      · rw [hq, if_pos rfl] at h1
        obtain ⟨v1, he, hv1⟩ := h1
        obtain ⟨s1, n1, k1, rfl, r1⟩ := row_of hv1
        exact ⟨s1, n1, k1, true, 0, he, ⟨fun h => absurd ho h, (fun _ h => by rw [hb] at h; cases h), (fun _ _ h => by rw [hq] at h; cases h), fun _ _ _ => ⟨rfl, rfl, r1⟩⟩, hE⟩
  · rw [if_neg ho] at h1
    exact ⟨none, 0, 0, false, openE F x, h1, ⟨fun _ => ⟨rfl, rfl, rfl⟩, fun h => absurd h ho, fun h => absurd h ho, fun h => absurd h ho⟩, hE⟩
theorem fr_open {B : Nat} {r : List Int} {w : World} {e : Ending} {w' : World} (h : FrPost B r w e w') : ∃ s n k o, e = .returned (.tuple #[.slice s n k, .bool o]) ∧ o = smallB r ∧ (o = true → RowR w' (.slice s n k) r) ∧ Ext w w' := by
  rcases h with ⟨hs, u, he, hu, hE⟩ | ⟨hs, he, hE⟩
  · obtain ⟨s, n, k, rfl, r1⟩ := row_of hu
    exact ⟨s, n, k, true, he, hs.symm, fun _ => r1, hE⟩
  · exact ⟨none, 0, 0, false, he, hs.symm, (fun h => by cases h), hE⟩
theorem zero_small {l : List Int} (h : zeroB l = true) : smallB l = true :=
  smallB_iff.2 fun z hz => by have := zeroB_iff.1 h z hz; omega
theorem contains_both {w : World} {vf vx : Value} {F : Mx} {x : List Int} (hF : MatR w vf F) (hx : RowR w vx x) (hL : Laid w) :
    Calls Tryz.prog 18 #[vf, vx] w fun e w' => e = .returned (.tuple #[.bool (decide (openE F x = 0) && inB F x), .int .i64 (openE F x)]) ∧ Ext w w' := by
  by_cases ho : openE F x = 0
  · have := Contains_ok hF hx ho hL
    rw [decide_eq_true ho, ho, Bool.true_and]; exact this
  · have := Contains_err hF hx (c := openE F x) rfl ho
    rw [decide_eq_false ho, Bool.false_and]; exact this
-- the walk
set_option maxRecDepth 100000 in
set_option maxHeartbeats 4000000 in
theorem reduces_ok {w : World} {v vx : Value} {M : Mx} {x : List Int} (hM : MatR w v M) (hX : RowR w vx x) (hL : Laid w) (hf : fewM M = true) (h4 : M.length ≤ 4) (ho : openE M x = 0) :
    Calls Tryz.prog 8 #[v, vx] w fun e w' => e = .returned (.bool true) ∧ Ext w w' := by
  obtain ⟨hc, hq, hc2, hlen⟩ := openE_ok ho
  obtain ⟨hm12, hn12, hrect, hent⟩ := checkM_ok hc
  have HM := Lib.hid hM
  have HX := Lib.hid hX
  have HL := Lib.hid hL
  have hkn := Lib.hid (fun W (hW : Ext w W) => known_any (hL.ext hW))
  have hfw := Lib.hid (fun W (hW : Ext w W) => few_any (hM.ext hW))
  have hck := Lib.hid (fun W (hW : Ext w W) => Check07_any (hM.ext hW))
  have hcr := Lib.hid (fun W (hW : Ext w W) => CheckRow07_any (hX.ext hW))
  have hif := Lib.hid (fun W (hW : Ext w W) => IsForm07_any (hM.ext hW) hrect (by omega) (by omega))
  rw [hf] at hfw
  rw [hc] at hck
  rw [hq] at hif
  rw [hc2] at hcr
  obtain ⟨sa, gb, go, cap, vs, rfl, hcap, hvl, hSl, hr⟩ := hM
  obtain ⟨sx, bx, ox, cx, rfl, hxc, hSx⟩ := hX
  have HSl := Lib.hid hSl
  have Hvl := Lib.hid hvl
  have Hr := Lib.hid hr
  obtain ⟨m, hm⟩ : ∃ m, m = M.length := ⟨_, rfl⟩
  have Hm := Lib.hid hm
  obtain ⟨n, hn⟩ : ∃ n, n = x.length := ⟨_, rfl⟩
  have Hn := Lib.hid hn
  have HM' : Hid (MatR w (.slice sa m cap) M) := by rw [hm]; exact HM
  have HX' : Hid (RowR w (.slice sx n cx) x) := by rw [hn]; exact HX
  have hrow0 : 0 < m → ∃ sr cr, sa = some ⟨gb, go, none⟩ ∧ w.cell? ⟨gb, go, none⟩ = some (.slice sr (ncols M) cr) := fun h => by
    have hM0 : 0 < M.length := by rw [← hm]; exact h
    obtain ⟨sr, br, or, cr, hrow, _, _⟩ := MatR.row hSl hvl hr hM0
    rw [hrect _ (List.getElem_mem hM0), Nat.add_zero] at hrow
    exact ⟨sr, cr, hSl.addr (by rw [hvl]; omega), hrow⟩
  simp only [← hm] at hck hfw hif
  simp only [← hn] at hcr
  have hsz : ¬ (0 < m ∧ n ≠ ncols M) := by rw [hm, hn]; exact fun h => h.2 (hlen h.1)
  have hx64 := (chkRow_ok hc2).1
  rw [← hm] at hcap h4 ⊢
  rw [← hn] at hxc ⊢
  have h4i : ¬ (4 : Int) < (m : Int) := by omega
  have h66i : ¬ (66 : Int) < (n : Int) := by omega
  clear hL hSl hvl hr hm hn HM HX hSx hlen hf hx64
  have hIH := isF_isH hrect hq
  have hRx : Rect x.length M := fun r hr => by
    rw [hrect r hr, ← Hn.out]
    have : 0 < m := by rw [Hm.out]; exact List.length_pos_of_mem hr
    exact Classical.byContradiction fun h => hsz ⟨this, fun e => h e.symm⟩
  have hPx : ∀ i, i < M.length → pv (M.getD i []) < x.length ∧ 0 < (M.getD i []).getD (pv (M.getD i [])) 0 := fun i hi => by
    have h1 := isH_pvp hIH i hi
    have h2 : ncols M = x.length := by
      rw [← Hn.out]
      exact Classical.byContradiction fun h => hsz ⟨by rw [Hm.out]; omega, fun e => h e.symm⟩
    rw [← h2]; exact h1
  have hPv : Piv M := fun i hi => by have := (hPx i hi).2; omega
  obtain ⟨hx64, hxe⟩ := chkRow_ok hc2
  have h30 : ∀ z : Int, -1000000000 ≤ z ∧ z ≤ 1000000000 → z.natAbs < 2 ^ 30 := fun z hz => by
    have e : (2 : Nat) ^ 30 = 1073741824 := by decide
    rw [e]; omega
  have hM30 : ∀ r ∈ M, ∀ z ∈ r, z.natAbs < 2 ^ 30 := fun r hr z hz => h30 z (hent r hr z hz)
  have hx30 : ∀ z ∈ x, z.natAbs < 2 ^ 30 := fun z hz => h30 z (hxe z hz)
  have hbX := redX_small hPv hM30 hx30 M.length (Nat.le_refl _)
  have hbQ := redQ_small hPv hM30 hx30 M.length (Nat.le_refl _)
  rw [List.take_length] at hbX hbQ
  have hrd := Lib.hid (fun W (hW : Ext w W) => Reduce_any (HM'.out.ext hW) (HX'.out.ext hW) (HL.out.ext hW))
  have hcn := Lib.hid (fun W (hW : Ext w W) => Contains_ok (HM'.out.ext hW) (HX'.out.ext hW) ho (HL.out.ext hW))
  have hco := Lib.hid (fun W (hW : Ext w W) => Coordinates_any (HM'.out.ext hW) (HX'.out.ext hW) (HL.out.ext hW))
  have hto := Lib.hid (fun W (hW : Ext w W) => to_m (HM'.out.ext hW) (fun r hr z hz => by have := hent r hr z hz; unfold I64; omega) (by omega) (fun r hr => by rw [hrect r hr]; omega) (HL.out.ext hW))
  have htr := Lib.hid (fun W (hW : Ext w W) => toRow_w (HX'.out.ext hW) (fun z hz => by have := hxe z hz; unfold I64; omega) (by omega) (HL.out.ext hW))
  have hre := Lib.hid (fun W (hW : Ext w W) (v1 v2 : Value) (h1 : MtR W v1 M) (h2 : RwT W v2 x) => reduce_w h1 h2 hRx rfl (by omega) hPx hM30 hx30 (by omega) (HL.out.ext hW))
  have hfX := Lib.hid (fun W (hW : Ext w W) (v1 : Value) (h1 : RwT W v1 (redX M x)) => fromRow_w h1.row (fun z hz => pc_bits (hbX z hz) (by omega)) (by rw [redX_length]; omega) (HL.out.ext hW))
  have hfQ := Lib.hid (fun W (hW : Ext w W) (v1 : Value) (h1 : RwT W v1 (redQ M x)) => fromRow_w h1.row (fun z hz => pc_bits (hbQ z hz) (by omega)) (by rw [redQ_length]; omega) (HL.out.ext hW))
  have hzz := Lib.hid (fun W (v1 : Value) (h1 : RwT W v1 (redX M x)) => zero_w h1.row (by rw [redX_length]; omega))
  have Hx64 := Lib.hid hx64
  obtain ⟨bI, hbI⟩ : ∃ bI, bI = inB M x := ⟨_, rfl⟩
  have haz : allZ (redX M x) = bI := by rw [hbI, allZ_zeroB]; rfl
  rw [haz] at hzz
  have HbI := Lib.hid hbI
  have Ho := Lib.hid ho
  rw [← hbI] at hcn
  clear hc ho hrect hent hq hc2 hIH hRx hPx hPv hxe h30 hM30 hx30 hbX hbQ hbI haz
  rcases Nat.eq_zero_or_pos m with hz0 | hz0
  case' inl =>
    have hm0 : ¬ (0 : Int) < (m : Int) := by omega
    have hmd : decide ((0 : Int) < (m : Int)) = false := decide_eq_false hm0
    clear hz0
  case' inr =>
    have hm0 : (0 : Int) < (m : Int) := by omega
    obtain ⟨sr, cr, rfl, hrow⟩ := hrow0 hz0
    have hkn9 : ncols M = n := Classical.byContradiction fun h => hsz ⟨hz0, fun e => h e.symm⟩
    rw [hkn9] at hrow
    clear hkn9 hz0
  all_goals
    clear hrow0 hsz
    go_enter Tryz.func8, Tryz.ntmps8
    go_wp2_with fail
    refine (hkn.out _ (Ext.refl _)).mono ?_
    rintro e w1 ⟨rfl, hE1⟩
    go_wp2_with fail
    refine (hfw.out _ hE1).mono ?_
    rintro e w2 ⟨rfl, hE2⟩
    have hE12 := hE1.trans hE2
    clear hfw
    go_wp2_with fail
    refine (hrd.out _ hE12).mono ?_
    rintro e w3 hP3
    obtain ⟨s1, n1, k1, s2, n2, k2, e1, rfl, hRc, hE3⟩ := rc_open hP3
    have HRc := Lib.hid hRc
    have hE13 := hE12.trans hE3
    clear hrd hP3 hRc
    go_wp2_with fail
    refine (hcn.out _ hE13).mono ?_
    rintro e w4 ⟨rfl, hE4⟩
    have hE14 := hE13.trans hE4
    clear hcn
    go_wp2_with fail
    refine (hco.out _ hE14).mono ?_
    rintro e w5 hP5
    obtain ⟨s3, n3, k3, fd, e3, rfl, hCo, hE5⟩ := co_open hP5
    have HCo := Lib.hid hCo
    have hE15 := hE14.trans hE5
    clear hco hP5 hCo
    go_wp2_with fail
    refine (hck.out _ hE15).mono ?_
    rintro e w6 ⟨rfl, hE6⟩
    have hE16 := hE15.trans hE6
    clear hck
    go_wp2_with fail
    refine (hif.out _ hE16).mono ?_
    rintro e w7 ⟨rfl, hE7⟩
    have hE17 := hE16.trans hE7
    clear hif
    go_wp2_with fail
    refine (hcr.out _ hE17).mono ?_
    rintro e w8 ⟨rfl, hE8⟩
    have hE18 := hE17.trans hE8
    clear hcr
    try (have hrow8 := hE18.cell hrow)
    go_wp2_with fail
    refine (hto.out _ hE18).mono ?_
    rintro e w9 ⟨u1, rfl, hu1, hF1⟩
    have hE19 := hE18.trans hF1
    have HU1 := Lib.hid hu1.mat
    obtain ⟨sf1, _, _, cf1, _, hvf1, -⟩ := hu1.mat
    subst hvf1
    clear hto hu1
    go_wp2_with fail
    refine (htr.out _ hE19).mono ?_
    rintro e w10 ⟨u2, rfl, hu2, hF2⟩
    have hE20 := hE19.trans hF2
    have HU2 := Lib.hid hu2.rwT
    have HU1b := Lib.hid (HU1.out.ext hF2)
    obtain ⟨sx2, _, _, cx2, hvx2, -⟩ := hu2.rwT.row
    subst hvx2
    have hre2 := Lib.hid (hre.out _ hE20 _ _ HU1b.out HU2.out)
    clear htr hu2 HU1 hre
    go_wp2_with fail
    refine hre2.out.mono ?_
    rintro e w11 ⟨u3, u4, rfl, hu3, hu4, hF3⟩
    have hE21 := hE20.trans hF3
    have HU3 := Lib.hid hu3
    have HU4 := Lib.hid hu4
    obtain ⟨sx3, _, _, cx3, hvx3, -⟩ := hu3.row
    subst hvx3
    obtain ⟨sx4, _, _, cx4, hvx4, -⟩ := hu4.row
    subst hvx4
    have hf1 := Lib.hid (hfX.out _ hE21 _ HU3.out)
    clear hre2 hu3 hu4 hfX HU1b HU2
    rw [redX_length] at hf1
    go_wp2_with fail
    refine hf1.out.mono ?_
    rintro e w12 hP12
    obtain ⟨s4, n4, k4, o1, rfl, ho1, hr4, hF4⟩ := fr_open hP12
    have hE22 := hE21.trans hF4
    have Ho1 := Lib.hid ho1
    have Hr4 := Lib.hid hr4
    have hf2 := Lib.hid (hfQ.out _ hE22 _ (HU4.out.ext hF4))
    rw [redQ_length] at hf2
    clear hf1 hP12 hfQ ho1 hr4
    go_wp2_with fail
    refine hf2.out.mono ?_
    rintro e w13 hP13
    obtain ⟨s5, n5, k5, o2, rfl, ho2, hr5, hF5⟩ := fr_open hP13
    have hE23 := hE22.trans hF5
    have Ho2 := Lib.hid ho2
    have Hr5 := Lib.hid hr5
    have hz2 := Lib.hid (hzz.out w13 _ ((HU3.out.ext hF4).ext hF5))
    rw [redX_length] at hz2
    clear hf2 hP13 hzz ho2 hr5 HU4 HU3
    go_wp2_with fail
    refine hz2.out.mono ?_
    rintro e w14 ⟨rfl, hF6⟩
    have hE24 := hE23.trans hF6
    have h314 : Ext w3 w14 := (((((((((((hE4.trans hE5).trans hE6).trans hE7).trans hE8).trans hF1).trans hF2).trans hF3).trans hF4).trans hF5).trans hF6))
    have h514 : Ext w5 w14 := (((((((((hE6.trans hE7).trans hE8).trans hF1).trans hF2).trans hF3).trans hF4).trans hF5).trans hF6))
    clear hz2
    cases bI
    · obtain ⟨rfl, rfl, rfl⟩ := HCo.out.2.1 Ho.out HbI.out.symm
      cases hs : (o1 && o2)
      · obtain ⟨rfl, rfl, rfl⟩ := HRc.out.2.1 Ho.out (by rw [← Ho1.out, ← Ho2.out]; exact hs)
        clear HCo HRc
        cases o1 <;> cases o2 <;> first | (cases hs; done) | skip
        all_goals
          have hn1 := Lib.hid (none_rows (w := w14.alloc (.cells #[.slice s1 0 k1, .slice s2 0 k2] 35)) (g := w14.heap.size) (k := 2) (fun i hi => by
            have : i = 0 ∨ i = 1 := by omega
            rcases this with rfl | rfl
            · exact ⟨s1, k1, by go_simp⟩
            · exact ⟨s2, k2, by go_simp⟩
            ) (by omega))
          have hA1 := hE24.alloc (.cells #[.slice s1 0 k1, .slice s2 0 k2] 35)
          go_wp2_with fail
          refine hn1.out.mono ?_
          rintro e w15 ⟨rfl, hG1⟩
          have hA2 := (hA1.trans hG1)
          clear hn1
          have hn2 := Lib.hid (none_rows (w := w15.alloc (.cells #[.slice s3 0 k3] 35)) (g := w15.heap.size) (k := 1) (fun i hi => by
            have : i = 0 := by omega
            subst this
            · exact ⟨s3, k3, by go_simp⟩
            ) (by omega))
          have hA3 := hA2.alloc (.cells #[.slice s3 0 k3] 35)
          go_wp2_with fail
          refine hn2.out.mono ?_
          rintro e w16 ⟨rfl, hG2⟩
          have hA4 := hA3.trans hG2
          go_wp2_with fail
          go_ret
          exact ⟨rfl, hA4⟩
      · obtain ⟨rfl, h1, h2⟩ := HRc.out.2.2 Ho.out (by rw [← Ho1.out, ← Ho2.out]; exact hs)
        obtain ⟨rfl, rfl⟩ : o1 = true ∧ o2 = true := by simpa using hs
        clear HCo HRc hs
        have he1 := Lib.hid (EqualRows_any (h1.ext h314) ((Hr4.out rfl).ext (hF5.trans hF6)) (by rw [redX_length]; have := Hx64.out; omega))
        have he2 := Lib.hid (fun W (hW : Ext w14 W) => EqualRows_any ((h2.ext h314).ext hW) (((Hr5.out rfl).ext hF6).ext hW) (by rw [redQ_length]; omega))
        rw [decide_eq_true (rfl : redX M x = redX M x)] at he1
        simp only at he2
        go_wp2_with fail
        refine he1.out.mono ?_
        rintro e w15 ⟨rfl, hG1⟩
        clear he1
        go_wp2_with fail
        refine (he2.out _ hG1).mono ?_
        rintro e w16 ⟨rfl, hG2⟩
        clear he2
        have hG12 := hG1.trans hG2
        go_wp2_with fail
        have hfin := hE24.trans hG12
        go_ret
        exact ⟨rfl, hfin⟩
    · obtain rfl : o1 = true := by rw [Ho1.out]; exact zero_small (HbI.out.symm)
      cases o2
      · obtain ⟨rfl, rfl, rfl⟩ := HRc.out.2.1 Ho.out (by rw [← Ho1.out, ← Ho2.out]; rfl)
        obtain ⟨rfl, rfl, rfl⟩ := HCo.out.2.2.1 Ho.out HbI.out.symm Ho2.out.symm
        clear HCo HRc
        have hn1 := Lib.hid (none_rows (w := w14.alloc (.cells #[.slice s1 0 k1, .slice s2 0 k2] 35)) (g := w14.heap.size) (k := 2) (fun i hi => by
          have : i = 0 ∨ i = 1 := by omega
          rcases this with rfl | rfl
          · exact ⟨s1, k1, by go_simp⟩
          · exact ⟨s2, k2, by go_simp⟩
          ) (by omega))
        have hA1 := hE24.alloc (.cells #[.slice s1 0 k1, .slice s2 0 k2] 35)
        go_wp2_with fail
        refine hn1.out.mono ?_
        rintro e w15 ⟨rfl, hG1⟩
        have hA2 := (hA1.trans hG1)
        clear hn1
        have hn2 := Lib.hid (none_rows (w := w15.alloc (.cells #[.slice s3 0 k3] 35)) (g := w15.heap.size) (k := 1) (fun i hi => by
          have : i = 0 := by omega
          subst this
          · exact ⟨s3, k3, by go_simp⟩
          ) (by omega))
        have hA3 := hA2.alloc (.cells #[.slice s3 0 k3] 35)
        go_wp2_with fail
        refine hn2.out.mono ?_
        rintro e w16 ⟨rfl, hG2⟩
        have hA4 := hA3.trans hG2
        go_wp2_with fail
        go_ret
        exact ⟨rfl, hA4⟩
      · obtain ⟨rfl, h1, h2⟩ := HRc.out.2.2 Ho.out (by rw [← Ho1.out, ← Ho2.out]; rfl)
        obtain ⟨rfl, rfl, h3⟩ := HCo.out.2.2.2 Ho.out HbI.out.symm Ho2.out.symm
        clear HCo HRc
        have he1 := Lib.hid (EqualRows_any (h1.ext h314) ((Hr4.out rfl).ext (hF5.trans hF6)) (by rw [redX_length]; have := Hx64.out; omega))
        have he2 := Lib.hid (fun W (hW : Ext w14 W) => EqualRows_any ((h2.ext h314).ext hW) (((Hr5.out rfl).ext hF6).ext hW) (by rw [redQ_length]; omega))
        rw [decide_eq_true (rfl : redX M x = redX M x)] at he1
        simp only at he2
        have he3 := Lib.hid (fun W (hW : Ext w14 W) => EqualRows_any ((h3.ext h514).ext hW) (((Hr5.out rfl).ext hF6).ext hW) (by rw [redQ_length]; omega))
        simp only at he3
        go_wp2_with fail
        refine he1.out.mono ?_
        rintro e w15 ⟨rfl, hG1⟩
        clear he1
        go_wp2_with fail
        refine (he2.out _ hG1).mono ?_
        rintro e w16 ⟨rfl, hG2⟩
        clear he2
        have hG12 := hG1.trans hG2
        go_wp2_with fail
        refine (he3.out _ hG12).mono ?_
        rintro e w17 ⟨rfl, hG3⟩
        have hfin := hE24.trans (hG12.trans hG3)
        go_wp2_with fail
        go_ret
        exact ⟨rfl, hfin⟩
theorem Reduce_er {w : World} {vf vx : Value} {F : Mx} {x : List Int} {c : Int} (hF : MatR w vf F) (hx : RowR w vx x) (hL : Laid w) (ho : openE F x = c) (hc : c ≠ 0) :
    Calls Tryz.prog 38 #[vf, vx] w fun e w' => e = .returned (.tuple #[.slice none 0 0, .slice none 0 0, .int .i64 c]) ∧ Ext w w' :=
  (Reduce_any hF hx hL).mono fun e w' h => by unfold RcPost at h; rw [ho, if_neg hc] at h; exact h
theorem Coordinates_er {w : World} {vf vx : Value} {F : Mx} {x : List Int} {c : Int} (hF : MatR w vf F) (hx : RowR w vx x) (hL : Laid w) (ho : openE F x = c) (hc : c ≠ 0) :
    Calls Tryz.prog 39 #[vf, vx] w fun e w' => e = .returned (.tuple #[.slice none 0 0, .bool false, .int .i64 c]) ∧ Ext w w' :=
  (Coordinates_any hF hx hL).mono fun e w' h => by unfold CoPost at h; rw [ho, if_neg hc] at h; exact h
set_option maxRecDepth 100000 in
set_option maxHeartbeats 4000000 in
theorem reduces_walk {w : World} {v vx : Value} {M : Mx} {x : List Int} (hM : MatR w v M) (hX : RowR w vx x) (hL : Laid w) :
    Calls Tryz.prog 8 #[v, vx] w fun e w' => e = .returned (.bool true) ∧ Ext w w' := by
  have HM := Lib.hid hM
  have HX := Lib.hid hX
  have HL := Lib.hid hL
  have hkn := Lib.hid (fun W (hW : Ext w W) => known_any (hL.ext hW))
  have hfw := Lib.hid (fun W (hW : Ext w W) => few_any (hM.ext hW))
  have hck := Lib.hid (fun W (hW : Ext w W) => Check07_any (hM.ext hW))
  have hcr := Lib.hid (fun W (hW : Ext w W) => CheckRow07_any (hX.ext hW))
  obtain ⟨sa, gb, go, cap, vs, rfl, hcap, hvl, hSl, hr⟩ := hM
  obtain ⟨sx, bx, ox, cx, rfl, hxc, hSx⟩ := hX
  have HSl := Lib.hid hSl
  have Hvl := Lib.hid hvl
  have Hr := Lib.hid hr
  obtain ⟨m, hm⟩ : ∃ m, m = M.length := ⟨_, rfl⟩
  have Hm := Lib.hid hm
  obtain ⟨n, hn⟩ : ∃ n, n = x.length := ⟨_, rfl⟩
  have Hn := Lib.hid hn
  have HM' : Hid (MatR w (.slice sa m cap) M) := by rw [hm]; exact HM
  have HX' : Hid (RowR w (.slice sx n cx) x) := by rw [hn]; exact HX
  have HM0 := HM'
  have HX0 := HX'
  simp only [← hm] at hck hfw
  simp only [← hn] at hcr
  rw [← hm] at hcap ⊢
  rw [← hn] at hxc ⊢
  clear hL hSl hvl hr hm hn HM HX hSx
  by_cases h4 : 4 < m
  · have h4i : (4 : Int) < (m : Int) := by omega
    clear hck hfw hcr
    go_enter Tryz.func8, Tryz.ntmps8
    go_wp2_with fail
    refine (hkn.out _ (Ext.refl _)).mono ?_
    rintro e w1 ⟨rfl, hE1⟩
    go_wp2_with fail
    refine (hkn.out _ hE1).mono ?_
    rintro e w9 ⟨rfl, hE9⟩
    have hfin := (hE1).trans hE9
    go_wp2_with fail
    go_ret
    exact ⟨rfl, hfin⟩
  have h4i : ¬ (4 : Int) < (m : Int) := by omega
  cases hf : fewM M
  · rw [hf] at hfw
    clear hf hck hcr
    go_enter Tryz.func8, Tryz.ntmps8
    go_wp2_with fail
    refine (hkn.out _ (Ext.refl _)).mono ?_
    rintro e w1 ⟨rfl, hE1⟩
    go_wp2_with fail
    refine (hfw.out _ hE1).mono ?_
    rintro e w2 ⟨rfl, hE2⟩
    have hE12 := hE1.trans hE2
    clear hfw
    go_wp2_with fail
    refine (hkn.out _ hE12).mono ?_
    rintro e w9 ⟨rfl, hE9⟩
    have hfin := (hE12).trans hE9
    go_wp2_with fail
    go_ret
    exact ⟨rfl, hfin⟩
  rw [hf] at hfw
  have Hf := Lib.hid hf
  clear hf
  by_cases h66 : 66 < n
  · have h66i : (66 : Int) < (n : Int) := by omega
    clear hck hcr
    go_enter Tryz.func8, Tryz.ntmps8
    go_wp2_with fail
    refine (hkn.out _ (Ext.refl _)).mono ?_
    rintro e w1 ⟨rfl, hE1⟩
    go_wp2_with fail
    refine (hfw.out _ hE1).mono ?_
    rintro e w2 ⟨rfl, hE2⟩
    have hE12 := hE1.trans hE2
    clear hfw
    go_wp2_with fail
    refine (hkn.out _ hE12).mono ?_
    rintro e w9 ⟨rfl, hE9⟩
    have hfin := (hE12).trans hE9
    go_wp2_with fail
    go_ret
    exact ⟨rfl, hfin⟩
  have h66i : ¬ (66 : Int) < (n : Int) := by omega
  obtain ⟨c, hc⟩ : ∃ c, c = checkM M := ⟨_, rfl⟩
  rw [← hc] at hck
  by_cases hc0 : c = 0
  rotate_left
  · have ho : openE M x = c := by unfold openE; rw [← hc, if_neg hc0]
    have hrd := Lib.hid (fun W (hW : Ext w W) => Reduce_er (HM'.out.ext hW) (HX'.out.ext hW) (HL.out.ext hW) ho hc0)
    have hcn := Lib.hid (fun W (hW : Ext w W) => Contains_err (HM'.out.ext hW) (HX'.out.ext hW) ho hc0)
    have hco := Lib.hid (fun W (hW : Ext w W) => Coordinates_er (HM'.out.ext hW) (HX'.out.ext hW) (HL.out.ext hW) ho hc0)
    have hcb : (c == 0) = false := beq_eq_false_iff_ne.2 hc0
    have hcb2 : (c != 0) = true := by simp [bne, hcb]
    clear hc ho hcr
    go_enter Tryz.func8, Tryz.ntmps8
    go_wp2_with fail
    refine (hkn.out _ (Ext.refl _)).mono ?_
    rintro e w1 ⟨rfl, hE1⟩
    go_wp2_with fail
    refine (hfw.out _ hE1).mono ?_
    rintro e w2 ⟨rfl, hE2⟩
    have hE12 := hE1.trans hE2
    clear hfw
    go_wp2_with fail
    refine (hrd.out _ hE12).mono ?_
    rintro e w3 ⟨rfl, hE3⟩
    have hE13 := hE12.trans hE3
    clear hrd
    go_wp2_with fail
    refine (hcn.out _ hE13).mono ?_
    rintro e w4 ⟨rfl, hE4⟩
    have hE14 := hE13.trans hE4
    clear hcn
    go_wp2_with fail
    refine (hco.out _ hE14).mono ?_
    rintro e w5 ⟨rfl, hE5⟩
    have hE15 := hE14.trans hE5
    clear hco
    go_wp2_with fail
    refine (hck.out _ hE15).mono ?_
    rintro e w6 ⟨rfl, hE6⟩
    have hE16 := hE15.trans hE6
    clear hck
    go_wp2_with fail
    have hnn := Lib.hid (none_rows (w := w6.alloc (.cells #[.slice none 0 0, .slice none 0 0, .slice none 0 0] 35)) (g := w6.heap.size) (k := 3) (fun i hi => ⟨none, 0, by
      have : i = 0 ∨ i = 1 ∨ i = 2 := by omega
      rcases this with rfl | rfl | rfl <;> go_simp⟩) (by omega))
    refine hnn.out.mono ?_
    rintro e w10 ⟨rfl, hE10⟩
    have hfin := (hE16.alloc (.cells #[.slice none 0 0, .slice none 0 0, .slice none 0 0] 35)).trans hE10
    clear hnn
    go_wp2_with fail
    go_ret
    exact ⟨rfl, hfin⟩
  subst hc0
  obtain ⟨hm12, hn12, hrect, hent⟩ := checkM_ok hc.symm
  have hif := Lib.hid (fun W (hW : Ext w W) => IsForm07_any (HM'.out.ext hW) hrect (by omega) (by omega))
  cases hq : isF M
  · have ho : openE M x = 7 := by unfold openE; rw [if_pos hc.symm, hq]; rfl
    have hrd := Lib.hid (fun W (hW : Ext w W) => Reduce_er (HM'.out.ext hW) (HX'.out.ext hW) (HL.out.ext hW) ho (by decide))
    have hcn := Lib.hid (fun W (hW : Ext w W) => Contains_err (HM'.out.ext hW) (HX'.out.ext hW) ho (by decide))
    have hco := Lib.hid (fun W (hW : Ext w W) => Coordinates_er (HM'.out.ext hW) (HX'.out.ext hW) (HL.out.ext hW) ho (by decide))
    rw [hq] at hif
    clear hc ho hcr hrect hent hq
    go_enter Tryz.func8, Tryz.ntmps8
    go_wp2_with fail
    refine (hkn.out _ (Ext.refl _)).mono ?_
    rintro e w1 ⟨rfl, hE1⟩
    go_wp2_with fail
    refine (hfw.out _ hE1).mono ?_
    rintro e w2 ⟨rfl, hE2⟩
    have hE12 := hE1.trans hE2
    clear hfw
    go_wp2_with fail
    refine (hrd.out _ hE12).mono ?_
    rintro e w3 ⟨rfl, hE3⟩
    have hE13 := hE12.trans hE3
    clear hrd
    go_wp2_with fail
    refine (hcn.out _ hE13).mono ?_
    rintro e w4 ⟨rfl, hE4⟩
    have hE14 := hE13.trans hE4
    clear hcn
    go_wp2_with fail
    refine (hco.out _ hE14).mono ?_
    rintro e w5 ⟨rfl, hE5⟩
    have hE15 := hE14.trans hE5
    clear hco
    go_wp2_with fail
    refine (hck.out _ hE15).mono ?_
    rintro e w6 ⟨rfl, hE6⟩
    have hE16 := hE15.trans hE6
    clear hck
    go_wp2_with fail
    refine (hif.out _ hE16).mono ?_
    rintro e w7 ⟨rfl, hE7⟩
    have hE17 := hE16.trans hE7
    clear hif
    go_wp2_with fail
    have hnn := Lib.hid (none_rows (w := w7.alloc (.cells #[.slice none 0 0, .slice none 0 0, .slice none 0 0] 35)) (g := w7.heap.size) (k := 3) (fun i hi => ⟨none, 0, by
      have : i = 0 ∨ i = 1 ∨ i = 2 := by omega
      rcases this with rfl | rfl | rfl <;> go_simp⟩) (by omega))
    refine hnn.out.mono ?_
    rintro e w10 ⟨rfl, hE10⟩
    have hfin := (hE17.alloc (.cells #[.slice none 0 0, .slice none 0 0, .slice none 0 0] 35)).trans hE10
    clear hnn
    go_wp2_with fail
    go_ret
    exact ⟨rfl, hfin⟩
  rw [hq] at hif
  obtain ⟨c2, hc2⟩ : ∃ c2, c2 = chkRow x := ⟨_, rfl⟩
  rw [← hc2] at hcr
  by_cases hc20 : c2 = 0
  rotate_left
  · have ho : openE M x = c2 := by unfold openE; rw [if_pos hc.symm, hq, if_pos rfl, ← hc2, if_neg hc20]
    have hrd := Lib.hid (fun W (hW : Ext w W) => Reduce_er (HM'.out.ext hW) (HX'.out.ext hW) (HL.out.ext hW) ho hc20)
    have hcn := Lib.hid (fun W (hW : Ext w W) => Contains_err (HM'.out.ext hW) (HX'.out.ext hW) ho hc20)
    have hco := Lib.hid (fun W (hW : Ext w W) => Coordinates_er (HM'.out.ext hW) (HX'.out.ext hW) (HL.out.ext hW) ho hc20)
    have hcb : (c2 == 0) = false := beq_eq_false_iff_ne.2 hc20
    have hcb2 : (c2 != 0) = true := by simp [bne, hcb]
    clear hc ho hrect hent hq hc2
    go_enter Tryz.func8, Tryz.ntmps8
    go_wp2_with fail
    refine (hkn.out _ (Ext.refl _)).mono ?_
    rintro e w1 ⟨rfl, hE1⟩
    go_wp2_with fail
    refine (hfw.out _ hE1).mono ?_
    rintro e w2 ⟨rfl, hE2⟩
    have hE12 := hE1.trans hE2
    clear hfw
    go_wp2_with fail
    refine (hrd.out _ hE12).mono ?_
    rintro e w3 ⟨rfl, hE3⟩
    have hE13 := hE12.trans hE3
    clear hrd
    go_wp2_with fail
    refine (hcn.out _ hE13).mono ?_
    rintro e w4 ⟨rfl, hE4⟩
    have hE14 := hE13.trans hE4
    clear hcn
    go_wp2_with fail
    refine (hco.out _ hE14).mono ?_
    rintro e w5 ⟨rfl, hE5⟩
    have hE15 := hE14.trans hE5
    clear hco
    go_wp2_with fail
    refine (hck.out _ hE15).mono ?_
    rintro e w6 ⟨rfl, hE6⟩
    have hE16 := hE15.trans hE6
    clear hck
    go_wp2_with fail
    refine (hif.out _ hE16).mono ?_
    rintro e w7 ⟨rfl, hE7⟩
    have hE17 := hE16.trans hE7
    clear hif
    go_wp2_with fail
    refine (hcr.out _ hE17).mono ?_
    rintro e w8 ⟨rfl, hE8⟩
    have hE18 := hE17.trans hE8
    clear hcr
    go_wp2_with fail
    have hnn := Lib.hid (none_rows (w := w8.alloc (.cells #[.slice none 0 0, .slice none 0 0, .slice none 0 0] 35)) (g := w8.heap.size) (k := 3) (fun i hi => ⟨none, 0, by
      have : i = 0 ∨ i = 1 ∨ i = 2 := by omega
      rcases this with rfl | rfl | rfl <;> go_simp⟩) (by omega))
    refine hnn.out.mono ?_
    rintro e w10 ⟨rfl, hE10⟩
    have hfin := (hE18.alloc (.cells #[.slice none 0 0, .slice none 0 0, .slice none 0 0] 35)).trans hE10
    clear hnn
    go_wp2_with fail
    go_ret
    exact ⟨rfl, hfin⟩
  subst hc20
  have hrow0 : 0 < m → ∃ sr cr, sa = some ⟨gb, go, none⟩ ∧ w.cell? ⟨gb, go, none⟩ = some (.slice sr (ncols M) cr) := fun h => by
    have hM0 : 0 < M.length := by rw [← Hm.out]; exact h
    obtain ⟨sr, br, or, cr, hrow, _, _⟩ := MatR.row HSl.out Hvl.out Hr.out hM0
    rw [hrect _ (List.getElem_mem hM0), Nat.add_zero] at hrow
    exact ⟨sr, cr, HSl.out.addr (by rw [Hvl.out]; omega), hrow⟩
  by_cases hsz : 0 < m ∧ n ≠ ncols M
  · have ho : openE M x = 5 := by unfold openE; rw [if_pos hc.symm, hq, if_pos rfl, if_pos hc2.symm, if_pos (by rw [← Hm.out, ← Hn.out]; exact hsz)]
    have hrd := Lib.hid (fun W (hW : Ext w W) => Reduce_er (HM'.out.ext hW) (HX'.out.ext hW) (HL.out.ext hW) ho (by decide))
    have hcn := Lib.hid (fun W (hW : Ext w W) => Contains_err (HM'.out.ext hW) (HX'.out.ext hW) ho (by decide))
    have hco := Lib.hid (fun W (hW : Ext w W) => Coordinates_er (HM'.out.ext hW) (HX'.out.ext hW) (HL.out.ext hW) ho (by decide))
    obtain ⟨sr, cr, rfl, hrow⟩ := hrow0 hsz.1
    obtain ⟨k, hk⟩ : ∃ k, k = ncols M := ⟨_, rfl⟩
    rw [← hk] at hrow hsz
    have hm0 : (0 : Int) < (m : Int) := by omega
    have hne1 : ((k : Int) == (n : Int)) = false := beq_eq_false_iff_ne.2 (by omega)
    have hne2 : ((k : Int) != (n : Int)) = true := by simp [bne, hne1]
    clear hc ho hrect hent hq hc2 hsz hk hrow0
    go_enter Tryz.func8, Tryz.ntmps8
    go_wp2_with fail
    refine (hkn.out _ (Ext.refl _)).mono ?_
    rintro e w1 ⟨rfl, hE1⟩
    go_wp2_with fail
    refine (hfw.out _ hE1).mono ?_
    rintro e w2 ⟨rfl, hE2⟩
    have hE12 := hE1.trans hE2
    clear hfw
    go_wp2_with fail
    refine (hrd.out _ hE12).mono ?_
    rintro e w3 ⟨rfl, hE3⟩
    have hE13 := hE12.trans hE3
    clear hrd
    go_wp2_with fail
    refine (hcn.out _ hE13).mono ?_
    rintro e w4 ⟨rfl, hE4⟩
    have hE14 := hE13.trans hE4
    clear hcn
    go_wp2_with fail
    refine (hco.out _ hE14).mono ?_
    rintro e w5 ⟨rfl, hE5⟩
    have hE15 := hE14.trans hE5
    clear hco
    go_wp2_with fail
    refine (hck.out _ hE15).mono ?_
    rintro e w6 ⟨rfl, hE6⟩
    have hE16 := hE15.trans hE6
    clear hck
    go_wp2_with fail
    refine (hif.out _ hE16).mono ?_
    rintro e w7 ⟨rfl, hE7⟩
    have hE17 := hE16.trans hE7
    clear hif
    go_wp2_with fail
    have hrow8 := hE17.cell hrow
    refine (hcr.out _ hE17).mono ?_
    rintro e w8 ⟨rfl, hE8⟩
    have hE18 := hE17.trans hE8
    replace hrow8 := hE8.cell hrow8
    clear hcr
    go_wp2_with fail
    have hnn := Lib.hid (none_rows (w := w8.alloc (.cells #[.slice none 0 0, .slice none 0 0, .slice none 0 0] 35)) (g := w8.heap.size) (k := 3) (fun i hi => ⟨none, 0, by
      have : i = 0 ∨ i = 1 ∨ i = 2 := by omega
      rcases this with rfl | rfl | rfl <;> go_simp⟩) (by omega))
    refine hnn.out.mono ?_
    rintro e w10 ⟨rfl, hE10⟩
    have hfin := (hE18.alloc (.cells #[.slice none 0 0, .slice none 0 0, .slice none 0 0] 35)).trans hE10
    clear hnn
    go_wp2_with fail
    go_ret
    exact ⟨rfl, hfin⟩
  have ho : openE M x = 0 := by unfold openE; rw [if_pos hc.symm, hq, if_pos rfl, if_pos hc2.symm, if_neg (by rw [← Hm.out, ← Hn.out]; exact hsz)]
  exact reduces_ok HM0.out HX0.out HL.out Hf.out (by rw [← Hm.out]; omega) ho
end Go.Proofs.YthmhmkkcjlgbjaaGreatDoor
/- what the rows' frames need: the listed variables, matrices opened -/
namespace Go.Proofs.YthmhmkkcjlgbjaaGreatDoor
open Go.ChangeShapes Go.WideShapes Go.ChangeAt Go.WideMaps Go.WideElems Go.RowKit Go.Deep
theorem fr_own : ownKnob Tryz.prog.godebug = none := by kernel_rfl
theorem fr_laidOut : laidOutB Tryz.prog = true := by kernel_rfl
theorem fr_pow : Tryz.prog.globalNamed "internal/strconv.uint64pow10" = some 0 := by kernel_rfl
theorem fr_powT : (Tryz.prog.globals[0]?).map (·.type) = some 212 := by kernel_rfl
theorem fr_rng : Tryz.prog.globalNamed "strconv.ErrRange" = some 3 := by kernel_rfl
theorem fr_rngT : (Tryz.prog.globals[3]?).map (·.type) = some 152 := by kernel_rfl
theorem fr_c20 : Tryz.prog.cellsOf 212 = 20 := by kernel_rfl
theorem fr_cu : Tryz.prog.cellsOf 166 = 1 := by kernel_rfl
theorem fr_cE : Tryz.prog.cellsOf 224 = 1 := by kernel_rfl
theorem fr_cS : Tryz.prog.cellsOf 9 = 1 := by kernel_rfl
theorem fr_cR : Tryz.prog.cellsOf 35 = 1 := by kernel_rfl
theorem fr_cI : Tryz.prog.cellsOf 3 = 1 := by kernel_rfl
theorem fr_star : "*" ++ "errors.errorString" = "*errors.errorString" := by decide
theorem fr_ptr (u : TypeId) (h : Tryz.prog.typeName? 3 u = some "*errors.errorString") : u = 222 :=
  typeName_ptr_named (nm := "errors.errorString") (by rw [fr_star]; kernel_rfl) (by kernel_rfl) (by decide) u (by rw [fr_star]; exact h)
abbrev fr_list : List (String × DataW Unit) := [("math/bits.deBruijn32tab", Rows.laid_math_bits_deBruijn32tab), ("math/bits.deBruijn64tab", Rows.laid_math_bits_deBruijn64tab), ("internal/strconv.uint64pow10", Rows.laid_internal_strconv_uint64pow10), ("strconv.ErrRange", Rows.laid_strconv_ErrRange), ("strconv.ErrSyntax", Rows.laid_strconv_ErrSyntax)]
theorem fr_tab : (Rows.laid_internal_strconv_uint64pow10 : DataW Unit) = Lib.tabData .u64 Lib.pow10Tab := by kernel_rfl
theorem laid_of {W : World} (h : laidMetH Tryz.prog fr_list W) : Laid W := by
  rw [MakeChecks.laidMetH_plain _ _ _ (by kernel_rfl)] at h
  have h3 := h.tail.tail
  rw [fr_tab] at h3
  refine ⟨Lib.tabIs_of_head fr_pow fr_powT Tryz.underlying212 Tryz.underlying166 fr_cu fr_c20 h3, ?_⟩
  obtain ⟨a, s, hv, _⟩ := laid_sentinel h3.tail fr_rng fr_rngT Tryz.underlying152 fr_ptr Tryz.underlying222 Tryz.underlying224 rfl rfl Tryz.underlying9 fr_cE fr_cS
  exact ⟨_, _, hv⟩
/-- The door's own heap meets the condition. -/
theorem door_met (os : Os) (args : Array Value) : laidMetH Tryz.prog fr_list ((World.doorLaid Tryz.prog 400 os).forCall (fun _ _ => 0) ⟨#[], args, []⟩).memory :=
  laidMetH_of_parts3 (fuel := 8) (laidMet_of_run' 8 (by kernel_rfl) (by kernel_rfl)) (by kernel_rfl) (by kernel_rfl)
theorem row_open {W : World} {A : Option Addr} {L C : Nat} {Z : List Int} {base : Nat} (h1 : L ≤ C) (h2 : Z.length = C) (h3 : A = none → C = 0) (h4 : ∀ a', A = some a' → base ≤ a'.block ∧ ∀ c, c < C → W.cell? (a'.add c) = some (.int .i64 (Z.getD c 0))) : RowR W (.slice A L C) (Z.take L) := by
  have hl : (Z.take L).length = L := by rw [List.length_take]; omega
  cases A with
  | none =>
    have hC := h3 rfl
    refine ⟨none, 0, 0, C, by rw [hl], by rw [hl]; exact h1, fun h => ?_, fun i x hx => ?_⟩
    · rw [is_length, hl] at h; omega
    · have := (List.getElem?_eq_some_iff.1 hx).1
      rw [is_length, hl] at this; omega
  | some a =>
    obtain ⟨_, hc⟩ := h4 a rfl
    have hsp : 0 < L → a.spot = none := fun h => by simpa [Addr.add] using World.cell?_spot (hc 0 (by omega))
    obtain ⟨b, o, sp⟩ := a
    refine ⟨some ⟨b, o, sp⟩, b, o, C, by rw [hl], by rw [hl]; exact h1, fun h => ?_, fun i x hx => ?_⟩
    · rw [is_length, hl] at h
      have := hsp h
      simp at this
      rw [this]
    · have hi := (List.getElem?_eq_some_iff.1 hx).1
      rw [is_length, hl] at hi
      have := hsp (by omega)
      simp at this
      subst this
      rw [is_get (by rw [hl]; exact hi)] at hx
      have e := Option.some.inj hx
      rw [← e, ← add_plain, hc i (by omega), List.getElem_take, getD_get (by omega)]
theorem mat_open {H : Type} {enc : TypeId × Value → H} {W : World} {base : Nat} {held : Bool} {fuel : Nat} {v : Value} {x : DataW H × List MemPlace} (hv : v.cells.toList = [v])
    (h : DataW.trod enc Tryz.prog W base (fun _ => true) held fuel 29 v.cells.toList = some x) : ∃ M, MatR W v M := by
  rw [hv] at h
  rcases open_int_rows Tryz.underlying29 Tryz.underlying35 Tryz.underlying3 fr_cR fr_cI h with ⟨hcs, _⟩ | ⟨a, len, cap, A, L, C, Z, hcs, _, hl, _, _, hrows⟩
  · obtain rfl : v = .slice none 0 0 := by simpa using hcs
    exact ⟨[], none, 0, 0, 0, [], rfl, Nat.le_refl _, rfl, Sl.nil _ _ _ _, fun i h => by simp at h⟩
  · obtain rfl : v = .slice (some a) len cap := by simpa using hcs
    have hsp : 0 < len → a.spot = none := fun h => by simpa [Addr.add] using World.cell?_spot (hrows 0 (by omega)).1
    obtain ⟨b, o, sp⟩ := a
    refine ⟨(List.range len).map fun r => (Z r).take (L r), some ⟨b, o, sp⟩, b, o, cap, (List.range len).map fun r => .slice (A r) (L r) (C r), by simp, by simpa using hl, by simp, ⟨fun h => ?_, fun i y hy => ?_⟩, fun i hi hi' => ?_⟩
    · have := hsp (by simpa using h)
      simp at this
      rw [this]
    · have hi := (List.getElem?_eq_some_iff.1 hy).1
      have hil : i < len := by simpa using hi
      have := hsp (by omega)
      simp at this
      subst this
      have e : y = .slice (A i) (L i) (C i) := by
        rw [List.getElem?_eq_getElem hi] at hy
        have := Option.some.inj hy
        rw [← this]; simp
      rw [e, ← add_plain]
      exact (hrows i (by omega)).1
    · have hil : i < len := by simpa using hi
      obtain ⟨_, r1, _, r3, _, r5, r6⟩ := hrows i (by omega)
      have := row_open r1 r3 r5 r6
      simpa using this
end Go.Proofs.YthmhmkkcjlgbjaaGreatDoor
/- schismalaw07.HermiteReduces: for every matrix and every row the law returns true, and they read as they did. No condition but what the card itself prints. -/
namespace Go.Proofs.YthmhmkkcjlgbjaaGreatDoor
open Go.ChangeShapes Go.WideShapes Go.ChangeAt Go.WideMaps Go.WideElems Go.RowKit Go.Deep
theorem introw_open {H : Type} {enc : TypeId × Value → H} {W : World} {base : Nat} {held : Bool} {fuel : Nat} {v : Value} {x : DataW H × List MemPlace} (hv : v.cells.toList = [v])
    (h : DataW.trod enc Tryz.prog W base (fun _ => true) held fuel 35 v.cells.toList = some x) : ∃ r, RowR W v r := by
  rw [hv] at h
  rcases open_ints Tryz.underlying35 Tryz.underlying3 fr_cI h with ⟨hcs, _⟩ | ⟨a, len, cap, zs, hcs, hb, hl, _, hz, _, hc, _⟩
  · obtain rfl : v = .slice none 0 0 := by simpa using hcs
    exact ⟨[], row_open (base := 0) (Z := []) (Nat.le_refl 0) rfl (fun _ => rfl) (fun a' h => by cases h)⟩
  · obtain rfl : v = .slice (some a) len cap := by simpa using hcs
    rw [if_pos rfl] at hz
    exact ⟨zs.take len, row_open (base := base) hl hz (fun h => by cases h) (fun a' h => by cases h; exact ⟨hb, fun c hcc => hc c (by omega)⟩)⟩
set_option maxRecDepth 100000 in
set_option maxHeartbeats 2000000 in
theorem reduces_lifted (os : Os) (started : os.Started) (H : Type) (enc : TypeId × Value → H) :
    ReturnsInHanded {} Tryz.checked os 8 .any (fun w args => (Rows.hermiteReducesSpec.pre enc Tryz.prog Tryz.f8 [] false w args ∧ laidMetH Tryz.prog fr_list w) ∧ sizedMet enc Tryz.prog Tryz.f8 (OpenSpec.ofChange Rows.hermiteReducesSpec) false w args)
      (Rows.hermiteReducesSpec.post enc Tryz.prog Tryz.f8 false true false false) := by
  refine returnsInHanded_of_change_and (C := Tryz.checked) (X := fun w _ => laidMetH Tryz.prog fr_list w) (fun _ _ _ hh h => h.of_heap hh) fr_own started (by kernel_rfl) Tryz.func8
    (ChangeSpec.witness_shaped (enc := enc) (C := Tryz.checked) (os := os) (X := fun w _ => laidMetH Tryz.prog fr_list w) false (World.doorLaid Tryz.prog 400 os) #[.slice none 0 0, .slice none 0 0] 8 rfl (World.shaped_of_RefB (by kernel_rfl) (by kernel_rfl)) (by kernel_rfl) (by kernel_rfl) (by kernel_rfl) (door_met os _)) ?_
  intro W base args ds gs before hval0 hW _ _ hL _
  have hval : ∀ (j : Nat) t v, Tryz.f8.params[j]? = some t → args[j]? = some v → Value.okWide Tryz.prog W .any base t v := hval0
  have hW' := hW
  obtain ⟨p, q, hA0, hV, rfl, hfz, hnd⟩ := hW
  have hA : DataW.TrodAll enc Tryz.prog W 0 (fun _ => true) true Tryz.f8.params.toList args.toList ds p := hA0
  rw [Tryz.params8] at hA hval
  obtain ⟨v0, v1, d0, d1, p0, p1, rfl, rfl, rfl, h0, h1⟩ := trodAll_two hA
  obtain ⟨rfl, rfl⟩ := trodVars_none hV
  obtain ⟨a0, len, cap, rfl⟩ := okWide_slice Tryz.underlying29 (hval 0 29 v0 rfl rfl)
  obtain ⟨a1, len1, cap1, rfl⟩ := okWide_slice Tryz.underlying35 (hval 1 35 v1 rfl rfl)
  have h0k := h0
  have h1k := h1
  obtain ⟨fuel0, hf⟩ := h0
  obtain ⟨fuel1, hf1⟩ := h1
  obtain ⟨M, hM⟩ := mat_open (by simp [Value.cells]) hf
  obtain ⟨x, hX⟩ := introw_open (by simp [Value.cells]) hf1
  clear hA0 hval0
  simp only [List.append_nil] at hW'
  have hlt : ∀ x ∈ p0 ++ p1, x.block < W.heap.size := fun x hx => by simpa using hW'.lt x hx
  refine (reduces_walk hM hX (laid_of hL)).mono ?_
  rintro e W' ⟨rfl, hE⟩
  have e1 : Rows.hermiteReducesSpec.fn H ([d0, d1] ++ []) = { results := [.lit (.bool true)], args := [d0, d1] } := rfl
  refine ⟨_, rfl, _, _, _, [], p0 ++ p1, [], hW', ?_, ?_, ?_, hE.frame _, fun h => by cases h⟩
  · rw [e1]; exact trodAll_mk1 (shut_bool Tryz.underlying4 true)
  · rw [e1]; exact trodAll_mk2 (Below.trod fr_laidOut (by kernel_rfl) (of_decide_eq_true (by kernel_rfl)) h0k hE fun x hx => hlt x (List.mem_append_left _ hx)) (Below.trod fr_laidOut (by kernel_rfl) (of_decide_eq_true (by kernel_rfl)) h1k hE fun x hx => hlt x (List.mem_append_right _ hx))
  · rw [e1]; rfl
theorem reduces_holds : Rows.HermiteReducesSaid :=
  OpenClaim.holds_of_wide 8 Tryz.f8 rfl rfl rfl rfl rfl rfl rfl ⟨rfl, rfl, rfl, rfl, rfl⟩ rfl rfl rfl rfl rfl (by kernel_rfl) Tryz.func8 (by kernel_rfl)
    (of_decide_eq_true (by kernel_rfl)) (by unfold Func.isWrapper; first | (rw [if_pos (by decide +kernel)]; kernel_rfl) | (rw [if_neg (by decide +kernel)]; exact ⟨rfl, rfl⟩))
    (fun os started H enc _ => reduces_lifted os started H enc)
theorem hermiteReduces_card : Rows.HermiteReducesCardSaid :=
  Claim7.holds_tied_plain_at .later [] [.data, .data, .data, .sentinel, .sentinel] true Rows.hermiteReducesCard.stood.harness true
    reduces_holds (fun _ h => by cases h) (by kernel_rfl) (fun _ h => by cases h) hermiteReduces_row_tie rfl ⟨rfl, rfl⟩ (by kernel_rfl) rfl
    (fun f fn hf hfn => by
      obtain rfl : f = 8 := Option.some.inj ((show Tryz.prog.funcNamed "schisma/schismalaw07.HermiteReduces" = some 8 by kernel_rfl).symm.trans hf) |>.symm
      obtain rfl : fn = Tryz.f8 := (Option.some.inj (Tryz.func8.symm.trans hfn)).symm
      exact ⟨by kernel_rfl, fun j t ht => by
        rw [Tryz.params8] at ht
        have hm : t ∈ [29, 35] := by simpa using Array.mem_of_getElem? ht
        have hall : ([29, 35].all fun u => !Tryz.prog.wantsStandIn u) = true := by kernel_rfl
        exact (show Tryz.prog.wantsStandIn t = false by simpa using List.all_eq_true.1 hall t hm)⟩)
    (by kernel_rfl)
#print axioms hermiteReduces_card
end Go.Proofs.YthmhmkkcjlgbjaaGreatDoor
