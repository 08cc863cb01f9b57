/- Part 26 of the proof of the claim: contracts of the functions that it reaches, and plain laws; no condition. -/
import Derived.Test.YtokjolmpdfmnbaaGreatDoorW22
import Derived.Test.YtokjolmpdfmnbaaGreatDoorW25
import Derived.Test.YtokjolmpdfmnbaaGreatDoorW17
import Derived.Test.YtokjolmpdfmnbaaGreatDoorW11
namespace Go.Proofs.YtokjolmpdfmnbaaGreatDoor
open Go.RowKit Go.Sort
theorem HeadInv.next {md : Region.Mode} {ops : Array Oper} {n i : Nat} {listed : Array Bool} (inv : HeadInv md ops n listed) (hB : ((Region.ready md ops listed).contains i && decide (i < n)) = true) : HeadInv md ops n (listed.setIfInBounds i true) := by
  simp only [Bool.and_eq_true, decide_eq_true_eq] at hB
  exact inv.set (by simpa using hB.1) hB.2
set_option maxRecDepth 100000 in
set_option maxHeartbeats 4000000 in
theorem Order_any {w : World} {vm vb : Value} {M : Mx} {x : List Int} {c : Nat} (hM : MatR w vm M) (hb : RowR w vb x) (hs0 : sizeE M x = 0) (h0 : 0 < M.length) (hc : c = ncols M) (hc0 : 0 < c)
    (hk : 2 * (2 * bC M.length 30 c + 2) + 2 < LIM) (hB : ∀ H, HnfOf c M H → BndF c H (x.map fun z => (z, (1 : Int)))) (hL : Laid w) :
    Calls Tryz.prog 11 #[vm, vb] w (OrdPost w M c x) := by
  obtain ⟨hck, hrk, hbl⟩ := sizeE_ok hs0
  obtain ⟨hl12, hn12, hRt, hent⟩ := checkM_ok hck
  obtain ⟨hb64, hbent⟩ := chkRow_ok hrk
  have hbc : x.length = c := by rw [hc]; exact hbl h0
  rw [← hc] at hn12 hRt
  have hsz := Lib.hid (sized_any hM hb)
  rw [hs0] at hsz
  obtain ⟨N, hN⟩ : ∃ N, N = M.length := ⟨_, rfl⟩
  have hbig := Lib.hid (fun W (hW : Ext w W) => sbig_any (hM.ext hW) (by omega) (fun r hr => by rw [hRt r hr]; omega) (fun r hr z hz => by have := hent r hr z hz; unfold I64; omega) (hL.ext hW))
  have hher := Lib.hid (fun W X g cap ad (hG : GrX W.heap.size X (slv g M.length cap) M ad) (hcap : M.length ≤ cap) (hE : Ext W X) (hW : Ext w W) => herm_big hG hcap hRt h0 hc0 (by omega) (by omega) hent hk hE (hL.ext hW))
  obtain ⟨sb, bb, ob, cb, rfl, hcb, hSb⟩ := hb
  obtain rfl := hSb.addr (by rw [is_length]; omega)
  obtain ⟨s0, hs, hy0, hy1, hy2⟩ := info_parts Tryz.infoRat
  have HSb := Lib.hid hSb
  have Hbent := Lib.hid hbent
  have HB := Lib.hid hB
  have HL := Lib.hid hL
  have HN := Lib.hid hN
  have Hbc := Lib.hid hbc
  have hN0 : 0 < N := by omega
  have hN12 : N ≤ 12 := by omega
  rw [hbc] at hsz hcb ⊢
  rw [← hN] at hher
  clear hM hs0 h0 hc hk hB hL hck hrk hbl hl12 hRt hent hb64 hbent hN hSb hbc
  go_enter Tryz.func11, Tryz.ntmps11
  go_wp2_with fail
  refine hsz.out.mono ?_
  rintro e w1 ⟨rfl, hE1⟩
  go_wp2_with fail
  refine (hbig.out w1 hE1).mono ?_
  rintro e w2 ⟨v2, ad2, rfl, hG2, hE2⟩
  obtain ⟨ga2, cap2, rfl, hcap2, hs2⟩ := hG2.shape
  obtain ⟨g2, rfl⟩ := hs2 (by rw [← HN.out]; exact hN0)
  rw [← HN.out] at hcap2 hG2 ⊢
  have hh := Lib.hid (hher.out w1 w2 g2 cap2 ad2 hG2 hcap2 hE2 hE1)
  clear hher hbig hsz hG2
  go_wp2_with fail
  refine hh.out.mono ?_
  rintro e w3 ⟨gH, cH, H, rfl, hHn, hHl, hHg, hHb, hE3⟩
  have hE3w := hE1.trans hE3
  have HHn := Lib.hid hHn
  have HHg := Lib.hid hHg
  have HHl := Lib.hid hHl
  obtain ⟨D, hD⟩ : ∃ D, D = H.length := ⟨_, rfl⟩
  have HD := Lib.hid hD
  have hD12 : D ≤ 12 := by rw [hD]; have := HN.out; omega
  have hBH := Lib.hid (HB.out H hHn)
  rw [← hD]
  clear hh hHn hHg hHb hE2 hE3 hD hHl HB
  go_wp2_with (at_make; refine wpList_make_full _ rfl _ _ 93 rfl w3.heap.size 96 s0 (.agg #[.string ⟨#[]⟩, .string ⟨#[]⟩]) 2 Tryz.underlying93 hs hy0 hy1 .i64 .i64 _ _ c rfl rfl (by omega) (by omega) (by rw [hy2]; omega) (by unfold maxLen; omega) (Nat.le_refl _) ?_; intro w4 hown4 hgrow4)
  have hE4 := ext_grown hgrow4
  have hF4 := Lib.hid (frv_made hown4 (by omega))
  obtain ⟨gr, hgr⟩ : ∃ gr, gr = w3.heap.size := ⟨_, rfl⟩
  rw [← hgr] at hF4 ⊢
  have hgle : w3.heap.size ≤ gr := by omega
  clear hown4 hgrow4 hgr hs hy0 hy1 hy2
  go_wp2_with fail
  go_loopw [40] (fun idx wr => ∃ i : Nat, i ≤ c ∧ idx = .int .i64 i ∧ Hid (FrV gr wr gr (ordS x i)) ∧ Ext w3 wr) (fun idx _ => c - (intOf idx).toNat)
  case atStart => exact ⟨0, by omega, by go_num, Lib.hid (by have := hF4.out; unfold ordS; rw [List.take_zero, Hbc.out, Nat.sub_zero]; exact this), hE4⟩
  case round =>
    obtain ⟨i, hi, rfl, hF, hE⟩ := hrel
    generalize wr = X at *
    by_cases hlt : i < c
    · have hii : (i : Int) < (c : Int) := by omega
      have hix : i < x.length := by rw [Hbc.out]; exact hlt
      obtain ⟨z, hz⟩ : ∃ z, z = x[i] := ⟨_, rfl⟩
      have c0 := (HSb.out.ext (hE3w.trans hE)).cell i (.int .i64 z) (by rw [is_get hix, ← hz])
      have hzb := Hbent.out _ (List.getElem_mem hix)
      rw [← hz] at hzb
      have hof := Lib.hid (fOf_one (n := z) (by omega) (HL.out.ext (hE3w.trans hE)))
      have Hset := Lib.hid (show (ordS x i).set i (I z, I 1) = ordS x (i + 1) by rw [hz]; exact ordS_set x hix)
      have Hat := Lib.hid (ordS_at x hix)
      clear hzb hz
      go_wp2_with fail
      refine hof.out.mono ?_
      rintro e w5 ⟨rfl, hE5⟩
      have hF5 := hF.out.ext hE5
      obtain ⟨q0, q1⟩ := hF5.cells Hat.out
      obtain ⟨hF6, hg6, f0, f1⟩ := hF5.set i (I z, I 1)
      rw [Hset.out] at hF6
      have HF6 := Lib.hid hF6
      have hE6 := Lib.hid (ext_trans_grown (hE.trans hE5) hg6 hgle)
      simp only at q0 q1 HF6 hE6
      clear hF5 hF6 hg6 hE5 hof Hset Hat hF
      go_wp2_with fail
      go_roundw
      case rel => exact ⟨i + 1, by omega, by go_num, HF6, hE6.out⟩
      case measure => simp [intOf] <;> omega
    · have hie : i = c := by omega
      have hii : ¬ (i : Int) < (c : Int) := by omega
      have HFa := Lib.hid (show FrV gr X gr ((x.map fun z => (z, (1 : Int))).map qv) by rw [← ordS_all, Hbc.out, ← hie]; exact hF.out)
      clear hie hF hF4 hE4
      go_wp2_with fail
      have hI1 := (show I ((1 : Nat) : Int) = .string ⟨#[49]⟩ by show I 1 = _; unfold I S; rw [itoa_one])
      have HI1 := Lib.hid hI1
      clear hI1
      go_loopw [12, 56] (fun cv idx wr => ∃ (j : Nat) (s : List (Int × Int)) (k : Nat), j ≤ D ∧ idx = .int .i64 j ∧ cv = I (k : Int) ∧ s.length = c ∧ 0 < k ∧ Hid (ordF (H.drop j) s k = ordF H (x.map fun z => (z, (1 : Int))) 1 ∧ BndF c (H.drop j) s ∧ nd (k : Int) ≤ 1 + j * 20000000) ∧ Hid (FrV gr wr gr (s.map qv)) ∧ Ext w3 wr) (fun _ idx _ => D - (intOf idx).toNat)
      case atStart => exact ⟨0, _, 1, by omega, by go_num, HI1.out.symm, by rw [List.length_map]; exact Hbc.out, by omega, Lib.hid ⟨rfl, by rw [List.drop_zero]; exact hBH.out, by show nd 1 ≤ _; rw [nd_1]; omega⟩, HFa, hE⟩
      case round =>
        obtain ⟨j, s, k, hj, rfl, rfl, hsl, hk0, HK, HF, hE⟩ := hrel
        generalize wr = Y at *
        by_cases hlt2 : j < D
        · have hji : (j : Int) < (D : Int) := by omega
          have hjH : j < H.length := by rw [← HD.out]; exact hlt2
          obtain ⟨r, hr⟩ : ∃ r, r = H[j] := ⟨_, rfl⟩
          have hrc : r.length = c := by obtain ⟨⟨ps, hIs⟩, _, _⟩ := HHn.out; rw [hr]; exact hIs.rect _ (List.getElem_mem hjH)
          have hdr : H.drop j = r :: H.drop (j + 1) := by rw [hr]; exact List.drop_eq_getElem_cons hjH
          obtain ⟨sa, gb, go, cap, vs, ev, hcap, hvl, hS, hrw⟩ := HHg.out
          obtain rfl : sa = some ⟨gH, 0, none⟩ := by injection ev with ev; exact ev.symm
          obtain ⟨sr, br, or, cr, hcell, hcr, hSr⟩ := GridR.row hS hvl hrw hjH
          have ha := hS.addr (by omega)
          injection ha with ha
          injection ha with ha1 ha2
          subst ha1 ha2
          rw [← hr] at hcell hcr hSr
          rw [hrc] at hcell hcr
          obtain rfl := hSr.addr (by rw [ss_length]; omega)
          rw [Nat.zero_add] at hcell
          replace hcell := hE.cell hcell
          have hBn := HK.out.2.1
          rw [hdr] at hBn
          obtain ⟨hb1, hb2, hb3, hb4, hb5⟩ := id hBn
          obtain ⟨P, hP⟩ : ∃ P, P = pv r := ⟨_, rfl⟩
          have hld := Lib.hid (slead_any (cap := cr) (hSr.ext hE) (by omega))
          rw [hrc, ← hP] at hld
          rw [← hP] at hb2 hb3
          obtain ⟨rp, hrp⟩ : ∃ rp, rp = r.getD P 0 := ⟨_, rfl⟩
          have cP := (hSr.ext hE).cell P (I rp) (by rw [hrp]; rw [getD_get (by omega)]; simp [ss, List.getElem?_eq_getElem (show P < r.length by omega)])
          have hnp := hb4 P hb2
          rw [← hrp] at hb3 hnp
          have hnw := Lib.hid (fun W (hL : Laid W) => fNew_one (n := rp) (by unfold LIM; omega) hL)
          have hpi : (P : Int) < (c : Int) := by omega
          have HSr := Lib.hid hSr
          have Hdr := Lib.hid hdr
          have HBn := Lib.hid hBn
          have Hb1 := Lib.hid hb1
          have Hb4 := Lib.hid hb4
          have Hb3 := Lib.hid hb3
          have HP := Lib.hid hP
          have Hrp := Lib.hid hrp
          have HL3 := Lib.hid (HL.out.ext hE3w)
          clear hS hrw hvl hcap ev hr hBn hb1 hb3 hb4 hb5 hSr hdr hP hrp hnp
          go_wp2_with fail
          refine hld.out.mono ?_
          rintro e w5 ⟨rfl, hE5⟩
          replace cP := hE5.cell cP
          go_wp2_with fail
          refine (hnw.out _ (HL3.out.ext (hE.trans hE5))).mono ?_
          rintro e w6 ⟨rfl, hE6⟩
          have hE56 := hE5.trans hE6
          replace HF := Lib.hid (HF.out.ext hE56)
          have hEb := hE.trans hE56
          clear hE5 hE6 hE56 hld cP
          go_wp2_with fail
          have HPb := Lib.hid (two_alloc w6 96 (.string ⟨(Lib.itoa rp).toArray⟩) (.string ⟨(Lib.itoa 1).toArray⟩))
          have dZ : Ext w6 (w6.alloc (.cells #[.string ⟨(Lib.itoa rp).toArray⟩, .string ⟨(Lib.itoa 1).toArray⟩] 96)) := (Ext.refl _).alloc _
          have HFz := Lib.hid (HF.out.ext dZ)
          have p0 : (w6.alloc (.cells #[.string ⟨(Lib.itoa rp).toArray⟩, .string ⟨(Lib.itoa 1).toArray⟩] 96)).cell? ⟨w6.heap.size, 0, none⟩ = some (I rp) := HPb.out.cell (j := 0) (by simp)
          have p1 : (w6.alloc (.cells #[.string ⟨(Lib.itoa rp).toArray⟩, .string ⟨(Lib.itoa 1).toArray⟩] 96)).cell? ⟨w6.heap.size, 1, none⟩ = some (I 1) := HPb.out.cell (j := 1) (by simp)
          have hEz := hEb.trans dZ
          obtain ⟨bp, hbp⟩ : ∃ bp, bp = w6.heap.size := ⟨_, rfl⟩
          rw [← hbp] at p0 p1 ⊢
          clear hbp
          generalize (w6.alloc (.cells #[.string ⟨(Lib.itoa rp).toArray⟩, .string ⟨(Lib.itoa 1).toArray⟩] 96)) = Z at *
          obtain ⟨⟨sn, sd⟩, hsp⟩ : ∃ q : Int × Int, q = s.getD P (0, 1) := ⟨_, rfl⟩
          obtain ⟨q0, q1⟩ : Z.cell? ⟨gr, P * 2, none⟩ = some (I sn) ∧ Z.cell? ⟨gr, P * 2 + 1, none⟩ = some (I sd) := HFz.out.cells (i := P) (p := (I sn, I sd)) (by
            rw [List.getElem?_map, List.getElem?_eq_getElem (by omega)]
            have e : s[P]'(by omega) = (sn, sd) := by rw [hsp]; simp [List.getD, List.getElem?_eq_getElem (show P < s.length by omega)]
            rw [e]; rfl)
          obtain ⟨⟨qa, qb⟩, hq⟩ : ∃ q : Int × Int, q = ordQ r s := ⟨_, rfl⟩
          have hqe : qa = qn (sn * 1) (sd * rp) ∧ qb = qd (sn * 1) (sd * rp) := by
            have : (qa, qb) = qdiv (sn, sd) (rp, 1) := by rw [hq]; unfold ordQ; rw [← HP.out, ← hsp, ← Hrp.out]
            unfold qdiv qmk at this
            injection this with e1 e2
            exact ⟨e1, e2⟩
          have hok := Hb1.out P hb2
          rw [← hsp] at hok
          have hdv := Lib.hid (fun W (hL : Laid W) => fDiv_any (a := sn) (b := sd) (c := rp) (d := 1) (by have := hok.1; simp only at this; omega) (by have := hok.2.1; simp only at this; omega) (by have := Hb4.out P hb2; rw [← Hrp.out] at this; omega) (by rw [nd_1]; omega) hok.2.2 Hb3.out hL)
          rw [← hqe.1, ← hqe.2] at hdv
          have hqo := ordQ_ok HBn.out
          rw [← hq] at hqo
          have Hqo := Lib.hid hqo
          have Hq := Lib.hid hq
          have hgZ := OwnV.lt HFz.out
          clear hok hqe hsp hqo hq HPb HF
          go_cut [18, 56] from 56 to 108 (fun qp iv wx => ∃ bq, qp = .pointer (some ⟨bq, 0, none⟩) ∧ iv = .int .i64 j ∧ bq ≠ gr ∧ Hid (OwnV 96 0 wx bq 2 [I qa, I qb]) ∧ Ext Z wx)
          case first =>
            have d7 : Ext Z Z.drew := (Ext.refl Z).drew
            refine wp_region_held_tail (S := fun W => Ext Z W) 11 (by kernel_rfl) (by simp) ?_
            intro inv
            refine wpAnyLH_take (i := 0) (v := .slice (some ⟨gr, 0, none⟩) c c) rfl (by kernel_rfl) (fun _ _ _ h => h) (.inl ⟨by rfl, fun W hW => by go_simp⟩) d7 inv ?_
            intro inv
            go_simp
            refine wpAnyLH_take (i := 1) (v := .int .i64 P) rfl (by kernel_rfl) (fun _ _ _ h => h) (.inl ⟨by rfl, fun W hW => by go_simp⟩) d7 inv ?_
            intro inv
            go_simp
            refine wpAnyLH_take (i := 2) (v := .pointer (some ⟨gr, P * 2, none⟩)) rfl (by kernel_rfl) (fun _ _ _ h => h) (.inl ⟨by rfl, fun W hW => by go_simp⟩) d7 inv ?_
            intro inv
            go_simp
            refine wpAnyLH_take (i := 3) (v := .agg #[I sn, I sd]) rfl (by kernel_rfl) (fun _ _ _ h => h) (.inl ⟨by rfl, fun W hW => by have z0 := hW.cell q0; have z1 := hW.cell q1; go_simp⟩) d7 inv ?_
            intro inv
            go_simp
            refine wpAnyLH_take (i := 4) (v := .agg #[I rp, I 1]) rfl (by kernel_rfl) (fun _ _ _ h => h) (.inl ⟨by rfl, fun W hW => by have z0 := hW.cell p0; have z1 := hW.cell p1; go_simp⟩) d7 inv ?_
            intro inv
            go_simp
            have inv5 := HeadInv.next (i := 5) inv (by kernel_rfl)
            have inv9 := HeadInv.next (i := 9) inv (by kernel_rfl)
            refine wpAnyLH_two (i := 5) (j := 9) rfl rfl (by kernel_rfl) (fun K0 hK0 => ?_) (fun KA hKA => ?_)
            case refine_1 =>
              go_simp
              refine (hdv.out _ (HL3.out.ext (hEz.trans d7))).mono ?_
              rintro e w7 ⟨rfl, hE7⟩
              have d8 := d7.trans hE7
              refine hK0 _ _ d8 ?_
              clear hK0
              refine wpAnyLH_take (i := 6) (v := .tuple #[.agg #[I qa, I qb], .int .i64 0]) rfl (by kernel_rfl) (fun _ _ _ h => h) (.inl ⟨by rfl, fun W hW => by go_simp⟩) d8 inv5 ?_
              intro inv
              go_simp
              refine wpAnyLH_take (i := 7) (v := .agg #[I qa, I qb]) rfl (by kernel_rfl) (fun _ _ _ h => h) (.inl ⟨by rfl, fun W hW => by go_simp⟩) d8 inv ?_
              intro inv
              go_simp
              refine wpAnyLH_take (i := 8) (v := .int .i64 0) rfl (by kernel_rfl) (fun _ _ _ h => h) (.inl ⟨by rfl, fun W hW => by go_simp⟩) d8 inv ?_
              intro inv
              go_simp
              refine wpAnyLH_one (i := 9) rfl (by kernel_rfl) (fun K1 hK1 => ?_)
              go_simp
              have hN := Lib.hid (two_alloc w7 96 (.string ⟨#[]⟩) (.string ⟨#[]⟩))
              have d9 := d8.alloc (.cells #[.string ⟨#[]⟩, .string ⟨#[]⟩] 96)
              have hsz9 := d8.size
              obtain ⟨bq, hbq⟩ : ∃ bq, bq = w7.heap.size := ⟨_, rfl⟩
              have hbl : bq ≠ gr ∧ Z.heap.size ≤ bq := by omega
              rw [← hbq] at hN ⊢
              clear hbq hsz9
              refine hK1 _ _ d9 ?_
              clear hK1
              generalize w7.alloc (.cells #[.string ⟨#[]⟩, .string ⟨#[]⟩] 96) = w8 at *
              obtain ⟨h1, g1⟩ := hN.out.set 0 (I qa)
              obtain ⟨h2, g5⟩ := h1.set 1 (I qb)
              obtain ⟨y0, y1, f0, f1, _, _, hF9⟩ := two_end d9 hbl.2 hN.out (I qa) (I qb)
              have HO9 := Lib.hid (show OwnV 96 0 _ bq 2 [I qa, I qb] from h2.mono (Nat.zero_le _))
              clear h1 g1 h2 g5
              refine wpAnyLH_one (i := 10) rfl (by kernel_rfl) (fun K2 hK2 => ?_)
              go_simp
              refine hK2 _ _ hF9.out ?_
              clear hK2
              refine wpAnyLH_end (by kernel_rfl) ?_
              go_wp2_with fail
              go_meet
              case rel => exact ⟨bq, rfl, rfl, hbl.1, HO9, hF9.out⟩
            case refine_2 =>
              go_simp
              have hN := Lib.hid ((two_alloc Z 96 (.string ⟨#[]⟩) (.string ⟨#[]⟩)).ext ((Ext.refl _).drew))
              have d9 : Ext Z (Z.alloc (.cells #[.string ⟨#[]⟩, .string ⟨#[]⟩] 96)).drew := ((Ext.refl Z).alloc _).drew
              have hsz9 := d7.size
              obtain ⟨bq, hbq⟩ : ∃ bq, bq = Z.heap.size := ⟨_, rfl⟩
              have hbl : bq ≠ gr ∧ Z.heap.size ≤ bq := by omega
              have hbq2 : Z.heap.size = bq := hbq.symm
              rw [← hbq] at hN
              rw [hbq2]
              clear hbq hsz9
              refine hKA _ _ d9 ?_
              clear hKA
              generalize (Z.alloc (.cells #[.string ⟨#[]⟩, .string ⟨#[]⟩] 96)).drew = w8 at *
              have inv95 := HeadInv.next (i := 5) inv9 (by kernel_rfl)
              refine wpAnyLH_one (i := 5) rfl (by kernel_rfl) (fun K0 hK0 => ?_)
              go_simp
              refine (hdv.out _ (HL3.out.ext (hEz.trans d9))).mono ?_
              rintro e w7 ⟨rfl, hE7⟩
              have d10 := d9.trans hE7
              replace hN := Lib.hid (hN.out.ext hE7)
              refine hK0 _ _ d10 ?_
              clear hK0
              refine wpAnyLH_take (i := 6) (v := .tuple #[.agg #[I qa, I qb], .int .i64 0]) rfl (by kernel_rfl) (fun _ _ _ h => h) (.inl ⟨by rfl, fun W hW => by go_simp⟩) d10 inv95 ?_
              intro inv
              go_simp
              refine wpAnyLH_take (i := 7) (v := .agg #[I qa, I qb]) rfl (by kernel_rfl) (fun _ _ _ h => h) (.inl ⟨by rfl, fun W hW => by go_simp⟩) d10 inv ?_
              intro inv
              go_simp
              refine wpAnyLH_take (i := 8) (v := .int .i64 0) rfl (by kernel_rfl) (fun _ _ _ h => h) (.inl ⟨by rfl, fun W hW => by go_simp⟩) d10 inv ?_
              intro inv
              go_simp
              obtain ⟨h1, g1⟩ := hN.out.set 0 (I qa)
              obtain ⟨h2, g5⟩ := h1.set 1 (I qb)
              obtain ⟨y0, y1, f0, f1, _, _, hF9⟩ := two_end d10 hbl.2 hN.out (I qa) (I qb)
              have HO9 := Lib.hid (show OwnV 96 0 _ bq 2 [I qa, I qb] from h2.mono (Nat.zero_le _))
              clear h1 g1 h2 g5
              refine wpAnyLH_one (i := 10) rfl (by kernel_rfl) (fun K2 hK2 => ?_)
              go_simp
              refine hK2 _ _ hF9.out ?_
              clear hK2
              refine wpAnyLH_end (by kernel_rfl) ?_
              go_wp2_with fail
              go_meet
              case rel => exact ⟨bq, rfl, rfl, hbl.1, HO9, hF9.out⟩
          case rest =>
            obtain ⟨bq, rfl, rfl, hbq, HQ, hEc⟩ := hcut
            have hEc3 := hEz.trans hEc
            replace HFz := Lib.hid (HFz.out.ext hEc)
            have b1 : wc.cell? ⟨bq, 1, none⟩ = some (I qb) := HQ.out.cell (j := 1) (by simp)
            have hlc := Lib.hid (wLcm_any (a := (k : Int)) (b := qb) (by omega) (by have := Hqo.out.2.2; simp only at this; omega) (by have := HK.out.2.2; have := Hqo.out.2.1; simp only at this; unfold LIM; omega) (HL3.out.ext hEc3))
            rw [Int.natAbs_natCast] at hlc
            obtain ⟨k', hk'⟩ : ∃ k', k' = Nat.lcm k qb.natAbs := ⟨_, rfl⟩
            rw [← hk'] at hlc
            have Hk' := Lib.hid hk'
            have hk0' : 0 < k' := by rw [hk']; exact Nat.lcm_pos hk0 (by have := Hqo.out.2.2; simp only at this; omega)
            clear hk' hdv q0 q1 p0 p1 hE hEb dZ hEz hEc
            go_wp2_with fail
            refine hlc.out.mono ?_
            rintro e w9 ⟨rfl, hE9⟩
            have hE39 := hEc3.trans hE9
            replace HFz := Lib.hid (HFz.out.ext hE9)
            replace HQ := Lib.hid (HQ.out.ext hE9)
            clear hlc b1 hEc3 hE9
            go_wp2_with fail
            go_loopw [85] (fun idx wr => ∃ i : Nat, i ≤ c ∧ idx = .int .i64 i ∧ Hid (FrV gr wr gr ((ordTo r (qa, qb) s i).map qv)) ∧ Hid (OwnV 96 0 wr bq 2 [I qa, I qb]) ∧ Ext w3 wr) (fun idx _ => c - (intOf idx).toNat)
            case atStart => exact ⟨0, by omega, by go_num, Lib.hid (by rw [ordTo_zero]; exact HFz.out), HQ, hE39⟩
            case round =>
              obtain ⟨i, hi, rfl, HF, HQ, hE⟩ := hrel
              generalize wr = V at *
              by_cases hlt3 : i < c
              · have hii : (i : Int) < (c : Int) := by omega
                obtain ⟨ri, hri⟩ : ∃ ri, ri = r.getD i 0 := ⟨_, rfl⟩
                have c0 := (HSr.out.ext hE).cell i (I ri) (by rw [hri, getD_get (by omega)]; simp [ss, List.getElem?_eq_getElem (show i < r.length by omega)])
                have hni := Hb4.out i hlt3
                rw [← hri] at hni
                have hnw2 := Lib.hid (fNew_one (n := ri) (by unfold LIM; omega) (HL3.out.ext hE))
                obtain ⟨⟨tn, td⟩, htp⟩ : ∃ q : Int × Int, q = s.getD i (0, 1) := ⟨_, rfl⟩
                have hok := Hb1.out i hlt3
                rw [← htp] at hok
                have hmo := ordM_ok (q := (qa, qb)) (k := ri) Hqo.out hni
                obtain ⟨⟨ma, mb⟩, hm⟩ : ∃ q : Int × Int, q = qmul (qa, qb) (ri, 1) := ⟨_, rfl⟩
                rw [← hm] at hmo
                have hme : ma = qn (qa * ri) (qb * 1) ∧ mb = qd (qa * ri) (qb * 1) := by
                  have := hm; unfold qmul qmk at this; injection this with e1 e2; exact ⟨e1, e2⟩
                have hq1 := Hqo.out
                simp only at hq1 hok hmo
                have hml := Lib.hid (fun W (hL : Laid W) => fMul_any (a := qa) (b := qb) (c := ri) (d := 1) (by omega) (by omega) (by omega) (by rw [nd_1]; omega) hq1.2.2 (by omega) hL)
                rw [← hme.1, ← hme.2] at hml
                obtain ⟨⟨xa, xb⟩, hx⟩ : ∃ q : Int × Int, q = qsub (tn, td) (ma, mb) := ⟨_, rfl⟩
                have hxe : xa = qn (tn * mb - ma * td) (td * mb) ∧ xb = qd (tn * mb - ma * td) (td * mb) := by
                  have := hx; unfold qsub qmk at this; injection this with e1 e2; exact ⟨e1, e2⟩
                have hsb := Lib.hid (fun W (hL : Laid W) => fSub_any (a := tn) (b := td) (c := ma) (d := mb) (by have := hok.1; simp only at this; omega) (by have := hok.2.1; simp only at this; omega) (by omega) (by omega) hok.2.2 hmo.2.2 hL)
                rw [← hxe.1, ← hxe.2] at hsb
                have Hset := Lib.hid (show ((ordTo r (qa, qb) s i).map qv).set i (I xa, I xb) = (ordTo r (qa, qb) s (i + 1)).map qv by
                  rw [← ordTo_set r (qa, qb) s (by omega), List.map_set]
                  have : ordI r (qa, qb) s i = (xa, xb) := by unfold ordI; rw [← htp, ← hri, ← hm, ← hx]
                  rw [this]; rfl)
                have Hat := Lib.hid (show ((ordTo r (qa, qb) s i).map qv)[i]? = some (I tn, I td) by
                  rw [List.getElem?_map, ordTo_at r (qa, qb) s (by omega), List.getElem?_eq_getElem (by omega)]
                  have e : s[i]'(by omega) = (tn, td) := by rw [htp]; simp [List.getD, List.getElem?_eq_getElem (show i < s.length by omega)]
                  rw [e]; rfl)
                clear hni hri htp hok hmo hm hme hq1 hx hxe
                go_wp2_with fail
                refine hnw2.out.mono ?_
                rintro e w11 ⟨rfl, hE11⟩
                replace HF := Lib.hid (HF.out.ext hE11)
                replace HQ := Lib.hid (HQ.out.ext hE11)
                replace hE := hE.trans hE11
                clear hE11 hnw2 c0
                go_wp2_with fail
                have HPk := Lib.hid (two_alloc w11 96 (.string ⟨(Lib.itoa ri).toArray⟩) (.string ⟨(Lib.itoa 1).toArray⟩))
                have dK : Ext w11 (w11.alloc (.cells #[.string ⟨(Lib.itoa ri).toArray⟩, .string ⟨(Lib.itoa 1).toArray⟩] 96)) := (Ext.refl _).alloc _
                replace HF := Lib.hid (HF.out.ext dK)
                replace HQ := Lib.hid (HQ.out.ext dK)
                replace hE := hE.trans dK
                have p0 : (w11.alloc (.cells #[.string ⟨(Lib.itoa ri).toArray⟩, .string ⟨(Lib.itoa 1).toArray⟩] 96)).cell? ⟨w11.heap.size, 0, none⟩ = some (I ri) := HPk.out.cell (j := 0) (by simp)
                have p1 : (w11.alloc (.cells #[.string ⟨(Lib.itoa ri).toArray⟩, .string ⟨(Lib.itoa 1).toArray⟩] 96)).cell? ⟨w11.heap.size, 1, none⟩ = some (I 1) := HPk.out.cell (j := 1) (by simp)
                obtain ⟨bk, hbk⟩ : ∃ bk, bk = w11.heap.size := ⟨_, rfl⟩
                rw [← hbk] at p0 p1 ⊢
                clear hbk HPk dK
                generalize (w11.alloc (.cells #[.string ⟨(Lib.itoa ri).toArray⟩, .string ⟨(Lib.itoa 1).toArray⟩] 96)) = U at *
                obtain ⟨q0, q1⟩ := HF.out.cells Hat.out
                simp only at q0 q1
                have b0 : U.cell? ⟨bq, 0, none⟩ = some (I qa) := HQ.out.cell (j := 0) (by simp)
                have b1 : U.cell? ⟨bq, 1, none⟩ = some (I qb) := HQ.out.cell (j := 1) (by simp)
                have d7 : Ext U U.drew := (Ext.refl U).drew
                refine wp_region_held_tail (S := fun W => Ext U W) 10 (by kernel_rfl) (by simp) ?_
                intro inv
                refine wpAnyLH_take (i := 0) (v := .slice (some ⟨gr, 0, none⟩) c c) rfl (by kernel_rfl) (fun _ _ _ h => h) (.inl ⟨by rfl, fun W hW => by go_simp⟩) d7 inv ?_
                intro inv
                go_simp
                refine wpAnyLH_take (i := 1) (v := .int .i64 i) rfl (by kernel_rfl) (fun _ _ _ h => h) (.inl ⟨by rfl, fun W hW => by go_simp⟩) d7 inv ?_
                intro inv
                go_simp
                refine wpAnyLH_take (i := 2) (v := .slice (some ⟨gr, 0, none⟩) c c) rfl (by kernel_rfl) (fun _ _ _ h => h) (.inl ⟨by rfl, fun W hW => by go_simp⟩) d7 inv ?_
                intro inv
                go_simp
                refine wpAnyLH_take (i := 3) (v := .int .i64 i) rfl (by kernel_rfl) (fun _ _ _ h => h) (.inl ⟨by rfl, fun W hW => by go_simp⟩) d7 inv ?_
                intro inv
                go_simp
                refine wpAnyLH_take (i := 4) (v := .pointer (some ⟨gr, i * 2, none⟩)) rfl (by kernel_rfl) (fun _ _ _ h => h) (.inl ⟨by rfl, fun W hW => by go_simp⟩) d7 inv ?_
                intro inv
                go_simp
                refine wpAnyLH_take (i := 5) (v := .agg #[I tn, I td]) rfl (by kernel_rfl) (fun _ _ _ h => h) (.inl ⟨by rfl, fun W hW => by have z0 := hW.cell q0; have z1 := hW.cell q1; go_simp⟩) d7 inv ?_
                intro inv
                go_simp
                refine wpAnyLH_take (i := 6) (v := .agg #[I qa, I qb]) rfl (by kernel_rfl) (fun _ _ _ h => h) (.inl ⟨by rfl, fun W hW => by have z0 := hW.cell b0; have z1 := hW.cell b1; go_simp⟩) d7 inv ?_
                intro inv
                go_simp
                refine wpAnyLH_take (i := 7) (v := .agg #[I ri, I 1]) rfl (by kernel_rfl) (fun _ _ _ h => h) (.inl ⟨by rfl, fun W hW => by have z0 := hW.cell p0; have z1 := hW.cell p1; go_simp⟩) d7 inv ?_
                intro inv
                go_simp
                refine wpAnyLH_one (i := 8) rfl (by kernel_rfl) (fun K0 hK0 => ?_)
                go_simp
                refine (hml.out _ (HL3.out.ext (hE.trans d7))).mono ?_
                rintro e w12 ⟨rfl, hE12⟩
                have d8 := d7.trans hE12
                refine hK0 _ _ d8 ?_
                clear hK0
                refine wpAnyLH_one (i := 9) rfl (by kernel_rfl) (fun K1 hK1 => ?_)
                go_simp
                refine (hsb.out _ (HL3.out.ext (hE.trans d8))).mono ?_
                rintro e w13 ⟨rfl, hE13⟩
                have d9 := d8.trans hE13
                refine hK1 _ _ d9 ?_
                clear hK1
                refine wpAnyLH_end (by kernel_rfl) ?_
                have hF5 := HF.out.ext d9
                have hQ5 := HQ.out.ext d9
                obtain ⟨y0, y1⟩ := hF5.cells Hat.out
                obtain ⟨hF6, hg6, f0, f1⟩ := hF5.set i (I xa, I xb)
                rw [Hset.out] at hF6
                have HF6 := Lib.hid hF6
                have HQ6 := Lib.hid (hQ5.other hg6 hbq)
                have hE6 := Lib.hid (ext_trans_grown (hE.trans d9) hg6 hgle)
                simp only at y0 y1 HF6 hE6 HQ6
                clear hF5 hQ5 hF6 hg6 hml hsb Hset Hat HF HQ q0 q1 b0 b1 p0 p1 d7 d8 d9 hE12 hE13 hE
                go_wp2_with fail
                go_roundw
                case rel => exact ⟨i + 1, by omega, by go_num, HF6, HQ6, hE6.out⟩
                case measure => simp [intOf] <;> omega
              · have hie : i = c := by omega
                have hii : ¬ (i : Int) < (c : Int) := by omega
                have Hn := Lib.hid (show ordF (H.drop (j + 1)) (ordTo r (qa, qb) s s.length) k' = ordF H (x.map fun z => (z, (1 : Int))) 1 ∧ BndF c (H.drop (j + 1)) (ordTo r (qa, qb) s s.length) ∧ nd (k' : Int) ≤ 1 + (j + 1) * 20000000 by
                  refine ⟨?_, ?_, ?_⟩
                  · have e : ordF (r :: H.drop (j + 1)) s k = ordF (H.drop (j + 1)) (ordTo r (ordQ r s) s s.length) (Nat.lcm k (ordQ r s).2.natAbs) := rfl
                    rw [← HK.out.1, Hdr.out, e, ← Hq.out, Hk'.out]
                  · have := HBn.out.2.2.2.2; rw [← Hq.out] at this; exact this
                  · have h1 := HK.out.2.2
                    have h2 := Hqo.out
                    have h3 := nd_lcm (a := k) (b := qb.natAbs) hk0 (by omega)
                    rw [← Hk'.out, show ((qb.natAbs : Nat) : Int) = qb by omega] at h3
                    omega)
                have hFn := Lib.hid (show FrV gr V gr ((ordTo r (qa, qb) s s.length).map qv) by rw [hsl, ← hie]; exact HF.out)
                have hln : (ordTo r (qa, qb) s s.length).length = c := by rw [ordTo_length _ _ _ (Nat.le_refl _)]; exact hsl
                generalize ordTo r (qa, qb) s s.length = s' at *
                clear hie
                go_wp2_with fail
                go_roundw
                case rel => exact ⟨j + 1, s', k', by omega, by go_num, rfl, hln, hk0', Hn, hFn, hE⟩
                case measure => simp [intOf] <;> omega
        · have hje : j = D := by omega
          have hji : ¬ (j : Int) < (D : Int) := by omega
          have hF' : ordF H (x.map fun z => (z, (1 : Int))) 1 = (s, k) := by
            rw [← HK.out.1, hje, HD.out, List.drop_length]; rfl
          have HF' := Lib.hid hF'
          have hcn := Lib.hid (contains_ratio HF.out (by omega))
          rw [hsl] at hcn
          have HnK := Lib.hid (show nd (k : Int) ≤ LIM by have := HK.out.2.2; unfold LIM; omega)
          have Hsl := Lib.hid hsl
          have hEw := hE3w.trans hE
          have HLY := Lib.hid (HL.out.ext hEw)
          clear hF' hje hsl HK hE3w hE
          cases ha : anyB (fun i => decide ((s.getD i (0, 1)).1 ≠ 0)) c
          · rw [ha] at hcn
            have Ha := Lib.hid (show anyB (fun i => decide ((s.getD i (0, 1)).1 ≠ 0)) s.length = false by rw [Hsl.out]; exact ha)
            have hsml := Lib.hid (fun W b bx (hL : Laid W) (hbx : W.cell? ⟨bx, 0, none⟩ = some (.slice (some ⟨b, 0, none⟩) 1 1)) (hbc : W.cell? ⟨b, 0, none⟩ = some (I (k : Int))) =>
              ssmall_any (w := W) (v := .slice (some ⟨bx, 0, none⟩) 1 1) (M := [[(k : Int)]]) ⟨_, bx, 0, 1, [.slice (some ⟨b, 0, none⟩) 1 1], rfl, Nat.le_refl _, rfl, ⟨fun _ => rfl, fun i x hx => by
                have : i = 0 := by have := (List.getElem?_eq_some_iff.1 hx).1; simp at this; omega
                subst this
                simp only [List.getElem?_cons_zero, Option.some.injEq] at hx
                rw [← hx]; exact hbx⟩, fun i a bb' => by
                have : i = 0 := by simp at a; omega
                subst this
                exact ⟨_, b, 0, 1, rfl, Nat.le_refl _, ⟨fun _ => rfl, fun i x hx => by
                  have : i = 0 := by have := (List.getElem?_eq_some_iff.1 hx).1; simp [ss] at this; omega
                  subst this
                  simp only [List.getElem_cons_zero, ss, List.map_cons, List.getElem?_cons_zero, Option.some.injEq] at hx
                  rw [← hx]; exact hbc⟩⟩⟩ (by simp) (fun r hr => by simp at hr; subst hr; simp) (fun r hr z hz => by simp at hr; subst hr; simp at hz; subst hz; exact HnK.out) hL)
            clear ha
            go_wp2_with fail
            refine hcn.out.mono ?_
            rintro e w20 ⟨rfl, hE20⟩
            have d20 : Ext w20 ((w20.alloc (.cells #[.string ⟨(Lib.itoa (k : Int)).toArray⟩] 94)).alloc (.cells #[.slice (some ⟨w20.heap.size, 0, none⟩) 1 1] 99)) := ((Ext.refl _).alloc _).alloc _
            have hs20 := hsml.out ((w20.alloc (.cells #[.string ⟨(Lib.itoa (k : Int)).toArray⟩] 94)).alloc (.cells #[.slice (some ⟨w20.heap.size, 0, none⟩) 1 1] 99)) w20.heap.size (w20.heap.size + 1) (HLY.out.ext (hE20.trans d20)) (by go_simp) (by go_simp)
            have Hs20 := Lib.hid hs20
            have hE21 := (hEw.trans hE20).trans d20
            clear hs20 hsml hcn d20 hE20
            go_wp2_with fail
            refine Hs20.out.mono ?_
            rintro e w21 ⟨hp, hE22⟩
            have hfin := hE21.trans hE22
            cases hs : smallB [(k : Int)]
            · have hsm : smallM [[(k : Int)]] = false := by simp [smallM, hs]
              rw [if_neg (by rw [hsm]; decide)] at hp
              subst hp
              have Hres := Lib.hid (show OrdPost w M c x (.returned (.tuple #[.int .i64 0, .bool false, .int .i64 4])) w21 from ⟨H, HHn.out, hfin, s, k, HF'.out, by rw [if_neg (by rw [Ha.out]; decide), if_neg (by rw [hs]; decide)]⟩)
              clear hs hsm hfin
              go_wp2_with fail
              go_ret3
              exact Hres.out
            · have hsm : smallM [[(k : Int)]] = true := by simp [smallM, hs]
              rw [if_pos hsm] at hp
              obtain ⟨vr, rfl, hvr⟩ := hp
              obtain ⟨vs9, hv1, hv2, hv3⟩ := hvr
              have h90 := hv3 0 (by simp) (by rw [hv1]; simp)
              rcases hv2.2 with ⟨_, h0'⟩ | ⟨g9, c9, cur9, rfl, _, _, hc9, _⟩
              · simp at h0'
              · have hc9' := World.ownsRow.cellAt hv2 0 (by simp)
                rw [List.getElem?_eq_getElem (by rw [hv1]; simp)] at hc9'
                simp only [List.length_singleton] at hc9 hc9'
                obtain ⟨rv, hrv⟩ : ∃ rv, rv = vs9[0]'(by rw [hv1]; simp) := ⟨_, rfl⟩
                rw [← hrv] at hc9' h90
                have hc10 : w21.cell? ⟨g9, 0, none⟩ = some rv := by simpa using hc9'
                rcases h90.2 with ⟨_, h0'⟩ | ⟨g8, c8, cur8, rfl, _, _, hc8, _⟩
                · simp at h0'
                · have hc8' := World.ownsRow.cellAt h90 0 (by simp)
                  simp only [List.length_singleton, List.getElem_cons_zero] at hc8 hc8'
                  have hc11 : w21.cell? ⟨g8, 0, none⟩ = some (.int .i64 k) := by simpa [is] using hc8'
                  have Hres := Lib.hid (show OrdPost w M c x (.returned (.tuple #[.int .i64 k, .bool true, .int .i64 0])) w21 from ⟨H, HHn.out, hfin, s, k, HF'.out, by rw [if_neg (by rw [Ha.out]; decide), if_pos hs]⟩)
                  clear hs hsm h90 hv1 hv2 hv3 hrv hc9' hc8' hfin
                  go_wp2_with fail
                  go_ret3
                  exact Hres.out
          · rw [ha] at hcn
            have Ha := Lib.hid (show anyB (fun i => decide ((s.getD i (0, 1)).1 ≠ 0)) s.length = true by rw [Hsl.out]; exact ha)
            clear ha
            go_wp2_with fail
            refine hcn.out.mono ?_
            rintro e w20 ⟨rfl, hE20⟩
            have Hres := Lib.hid (show OrdPost w M c x (.returned (.tuple #[.int .i64 0, .bool false, .int .i64 0])) w20 from ⟨H, HHn.out, hEw.trans hE20, s, k, HF'.out, by rw [if_pos Ha.out]⟩)
            clear hE20 hEw hcn
            go_wp2_with fail
            go_ret3
            exact Hres.out
end Go.Proofs.YtokjolmpdfmnbaaGreatDoor
namespace Go.Proofs.YtokjolmpdfmnbaaGreatDoor
open Go.RowKit Go.Sort
def k8A : Mx := [[2, 4], [6, 8]]
def k8B : Mx := [[-4, 4, -1], [7, 0, -3], [2, 0, 0]]
def k8C : Mx := [[2, 0], [0, 3]]
theorem k8_run1 : ∃ a, runD 64 2 2 40 0 (startD k8A 2) = some (2, a) ∧ diagL 2 a.a = [2, 4] ∧ BM 64 a.a := by
  have h : ((runD 64 2 2 40 0 (startD k8A 2)).map fun p => (p.1, diagL 2 p.2.a, p.2.a.all fun r => r.all fun z => decide (z.natAbs < 2 ^ 64))) = some (2, [2, 4], true) := by decide +kernel
  obtain ⟨⟨t, a⟩, h1, h2⟩ := Option.map_eq_some_iff.1 h
  simp only [Prod.mk.injEq] at h2
  obtain ⟨rfl, h3, h4⟩ := h2
  refine ⟨a, h1, h3, fun r hr z hz => ?_⟩
  have := List.all_eq_true.1 (List.all_eq_true.1 h4 r hr) z hz
  exact of_decide_eq_true this
theorem k8_run2 : ∃ a, runD 64 3 3 60 0 (startD k8B 3) = some (3, a) ∧ diagL 3 a.a = [1, 1, 24] ∧ BM 64 a.a := by
  have h : ((runD 64 3 3 60 0 (startD k8B 3)).map fun p => (p.1, diagL 3 p.2.a, p.2.a.all fun r => r.all fun z => decide (z.natAbs < 2 ^ 64))) = some (3, [1, 1, 24], true) := by decide +kernel
  obtain ⟨⟨t, a⟩, h1, h2⟩ := Option.map_eq_some_iff.1 h
  simp only [Prod.mk.injEq] at h2
  obtain ⟨rfl, h3, h4⟩ := h2
  refine ⟨a, h1, h3, fun r hr z hz => ?_⟩
  have := List.all_eq_true.1 (List.all_eq_true.1 h4 r hr) z hz
  exact of_decide_eq_true this
theorem isH_c : IsH 2 [0, 1] k8C := by
  refine ⟨by unfold Rect k8C; decide, rfl, ?_, ?_, ?_, ?_, ?_⟩
  · intro i hi; have : i < 2 := hi; rcases (show i = 0 ∨ i = 1 by omega) with rfl | rfl <;> decide
  · intro i k hik hk; have : k < 2 := hk; obtain ⟨rfl, rfl⟩ : i = 0 ∧ k = 1 := by omega
    decide
  · intro i hi j hj; have : i < 2 := hi; rcases (show i = 0 ∨ i = 1 by omega) with rfl | rfl
    · have : j < 0 := hj; omega
    · have : j < 1 := hj; obtain rfl : j = 0 := by omega
      decide
  · intro i hi; have : i < 2 := hi; rcases (show i = 0 ∨ i = 1 by omega) with rfl | rfl <;> decide
  · intro i k hik hk; have : k < 2 := hk; obtain ⟨rfl, rfl⟩ : i = 0 ∧ k = 1 := by omega
    decide
theorem hnf_c {H : Mx} (h : HnfOf 2 k8C H) : H = k8C :=
  h.unique ⟨⟨[0, 1], isH_c⟩, fun _ hv => .mem hv, fun _ hv => .mem hv⟩ (fun _ hv => .mem hv) (fun _ hv => .mem hv)
def k8W : Mx := [[2, 0, 1, 0], [0, 3, 0, 1]]
theorem wide_c : wideM k8C = k8W := by decide
theorem isH_w : IsH 4 [0, 1] k8W := by
  refine ⟨by unfold Rect k8W; decide, rfl, ?_, ?_, ?_, ?_, ?_⟩
  · intro i hi; have : i < 2 := hi; rcases (show i = 0 ∨ i = 1 by omega) with rfl | rfl <;> decide
  · intro i k hik hk; have : k < 2 := hk; obtain ⟨rfl, rfl⟩ : i = 0 ∧ k = 1 := by omega
    decide
  · intro i hi j hj; have : i < 2 := hi; rcases (show i = 0 ∨ i = 1 by omega) with rfl | rfl
    · have : j < 0 := hj; omega
    · have : j < 1 := hj; obtain rfl : j = 0 := by omega
      decide
  · intro i hi; have : i < 2 := hi; rcases (show i = 0 ∨ i = 1 by omega) with rfl | rfl <;> decide
  · intro i k hik hk; have : k < 2 := hk; obtain ⟨rfl, rfl⟩ : i = 0 ∧ k = 1 := by omega
    decide
theorem hnf_w {H : Mx} (h : HnfOf 4 (wideM k8C) H) : H = k8W := by
  rw [wide_c] at h
  exact h.unique ⟨⟨[0, 1], isH_w⟩, fun v hv => .mem hv, fun v hv => .mem hv⟩ (fun v hv => .mem hv) (fun v hv => .mem hv)
theorem k8_sol : zeroL ((solL 2 k8W 2 [4, 9]).take 2) ∧ smallB (solX 2 k8W 2 [4, 9]) = true ∧ solX 2 k8W 2 [4, 9] = [2, 3] := by
  refine ⟨?_, by decide +kernel, by decide +kernel⟩
  have h : (solL 2 k8W 2 [4, 9]).take 2 = [0, 0] := by decide +kernel
  rw [h]
  intro z hz
  simpa using hz
theorem nd_small {z : Int} (h : z.natAbs < 1000000000) : nd z ≤ 10000000 := by
  have := nDigits_le (u := z.natAbs) (k := 9) (by omega) (by omega)
  unfold nd; omega
theorem k8_bnd : BndF 2 k8C [((1 : Int), (1 : Int)), (1, 1)] := by
  have ok : ∀ q : Int × Int, q.1.natAbs < 1000000000 → q.2.natAbs < 1000000000 → 0 < q.2 → OkQ q := fun q a b c => ⟨nd_small a, nd_small b, c⟩
  have two : ∀ {p : Nat → Prop}, p 0 → p 1 → ∀ i, i < 2 → p i := fun h0 h1 i hi => by
    rcases (show i = 0 ∨ i = 1 by omega) with rfl | rfl <;> assumption
  have e1 : ordTo [2, 0] (ordQ [2, 0] [((1 : Int), (1 : Int)), (1, 1)]) [((1 : Int), (1 : Int)), (1, 1)] 2 = [(0, 1), (1, 1)] := by decide +kernel
  refine ⟨two (ok _ (by decide) (by decide) (by decide)) (ok _ (by decide) (by decide) (by decide)), by decide, by decide, two (nd_small (by decide)) (nd_small (by decide)), ?_⟩
  show BndF 2 [[0, 3]] (ordTo [2, 0] (ordQ [2, 0] [((1 : Int), (1 : Int)), (1, 1)]) [((1 : Int), (1 : Int)), (1, 1)] 2)
  rw [e1]
  exact ⟨two (ok _ (by decide) (by decide) (by decide)) (ok _ (by decide) (by decide) (by decide)), by decide, by decide, two (nd_small (by decide)) (nd_small (by decide)), trivial⟩
theorem k8_ord : ordF k8C [((1 : Int), (1 : Int)), (1, 1)] 1 = ([(0, 1), (0, 1)], 6) := by decide +kernel
end Go.Proofs.YtokjolmpdfmnbaaGreatDoor
namespace Go.Proofs.YtokjolmpdfmnbaaGreatDoor
open Go.RowKit Go.Sort
theorem s08_getD_ext {a b : List Int} (hl : a.length = b.length) (h : ∀ j, j < a.length → a.getD j 0 = b.getD j 0) : a = b := by
  apply List.ext_getElem hl
  intro i h1 h2
  have := h i h1
  rwa [getD_get h1, getD_get h2] at this
set_option maxRecDepth 100000 in
set_option maxHeartbeats 1000000 in
theorem Same08_any {w : World} {va vb : Value} {a b : List Int} (hA : RowR w va a) (hB : RowR w vb b) (hbig : a.length ≤ 1000000) :
    Calls Tryz.prog 41 #[va, vb] w fun e w' => e = .returned (.bool (decide (a = b))) ∧ Ext w w' := by
  obtain ⟨sa, ga, oa, ca, rfl, hca, hSa⟩ := hA
  obtain ⟨sb, gb, ob, cb, rfl, hcb, hSb⟩ := hB
  by_cases hl : a.length = b.length
  · obtain ⟨n, hn⟩ : ∃ n, n = a.length := ⟨_, rfl⟩
    rw [← hl]
    rw [← hn] at hbig ⊢
    have HA := Lib.hid hSa
    have HB := Lib.hid hSb
    have Hn := Lib.hid hn
    have Hm := Lib.hid (hn.trans hl)
    clear hSa hSb hl hn hca hcb
    go_enter Tryz.func41, Tryz.ntmps41
    go_wp2_with fail
    go_loopw [5] (fun idx wr => ∃ i : Nat, i ≤ n ∧ idx = .int .i64 i ∧ Hid (∀ j, j < i → a.getD j 0 = b.getD j 0) ∧ Ext w wr) (fun idx _ => n - (intOf idx).toNat)
    case atStart => exact ⟨0, by omega, by go_num, Lib.hid (fun j h => by omega), Ext.refl _⟩
    case round =>
      obtain ⟨i, hi, rfl, Hz, hE⟩ := hrel
      generalize wr = X at *
      by_cases hlt : i < n
      · have hii : (i : Int) < (n : Int) := by omega
        have c1 := (HA.out.ext hE).cell i (.int .i64 (a[i]'(by rw [← Hn.out]; exact hlt))) (is_get (by rw [← Hn.out]; exact hlt))
        have c2 := (HB.out.ext hE).cell i (.int .i64 (b[i]'(by rw [← Hm.out]; exact hlt))) (is_get (by rw [← Hm.out]; exact hlt))
        obtain rfl := HA.out.addr (by rw [is_length, ← Hn.out]; omega)
        obtain rfl := HB.out.addr (by rw [is_length, ← Hm.out]; omega)
        obtain ⟨x, hx⟩ : ∃ x, x = a[i]'(by rw [← Hn.out]; exact hlt) := ⟨_, rfl⟩
        obtain ⟨y, hy⟩ : ∃ y, y = b[i]'(by rw [← Hm.out]; exact hlt) := ⟨_, rfl⟩
        rw [← hx] at c1
        rw [← hy] at c2
        have Hx := Lib.hid (show a.getD i 0 = x by rw [hx, getD_get (by rw [← Hn.out]; exact hlt)])
        have Hy := Lib.hid (show b.getD i 0 = y by rw [hy, getD_get (by rw [← Hm.out]; exact hlt)])
        clear hx hy
        by_cases hxy : x = y
        · subst hxy
          go_wp2_with fail
          go_quiet (fail)
          go_wp2_with fail
          go_roundw
          case rel => exact ⟨i + 1, by omega, by go_num, Lib.hid (fun j hj => by
            by_cases e : j = i
            · subst e; rw [Hx.out, Hy.out]
            · exact Hz.out j (by omega)), hE.drewN _⟩
          case measure => simp [intOf] <;> omega
        · have hb1 : (x == y) = false := beq_eq_false_iff_ne.2 hxy
          have hb2 : (x != y) = true := by simp [bne, hb1]
          have Hne := Lib.hid (show decide (a = b) = false from decide_eq_false (fun e => hxy (by rw [← Hx.out, ← Hy.out, e])))
          go_wp2_with fail
          go_quiet (fail)
          go_wp2_with fail
          go_ret
          exact ⟨by rw [Hne.out]; rfl, hE.drewN _⟩
      · have Heq := Lib.hid (show decide (a = b) = true from decide_eq_true (s08_getD_ext (by rw [← Hn.out, ← Hm.out]) (fun j hj => Hz.out j (by rw [← Hn.out] at hj; omega))))
        go_wp2_with fail
        go_ret
        exact ⟨by rw [Heq.out]; rfl, hE⟩
  · have hne : decide (a = b) = false := decide_eq_false (fun e => hl (by rw [e]))
    rw [hne]
    have h1 : ¬ ((a.length : Int) = (b.length : Int)) := by omega
    have h2 : ((a.length : Int) == (b.length : Int)) = false := beq_eq_false_iff_ne.2 h1
    have h3 : ((a.length : Int) != (b.length : Int)) = true := by simp [bne, h2]
    clear hSa hSb hca hcb hne
    generalize a.length = n at *
    generalize b.length = m at *
    go_enter Tryz.func41, Tryz.ntmps41
    go_wp2_with fail
    go_ret
    exact ⟨rfl, Ext.refl _⟩
end Go.Proofs.YtokjolmpdfmnbaaGreatDoor
