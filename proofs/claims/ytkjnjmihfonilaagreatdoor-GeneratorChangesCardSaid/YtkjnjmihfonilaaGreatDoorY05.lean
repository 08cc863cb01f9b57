/- Part 5, beside the shared parts, of the proof of the claim: contracts and plain laws; no condition. -/
import Derived.Test.YtkjnjmihfonilaaGreatDoorV01
import Derived.Test.YtkjnjmihfonilaaGreatDoorV02
import Derived.Test.YtkjnjmihfonilaaGreatDoorV03
import Derived.Test.YtkjnjmihfonilaaGreatDoorV04
import Derived.Test.YtkjnjmihfonilaaGreatDoorV05
import Derived.Test.YtkjnjmihfonilaaGreatDoorV06
import Derived.Test.YtkjnjmihfonilaaGreatDoorV07
import Derived.Test.YtkjnjmihfonilaaGreatDoorV08
import Derived.Test.YtkjnjmihfonilaaGreatDoorV09
import Derived.Test.YtkjnjmihfonilaaGreatDoorV10
import Derived.Test.YtkjnjmihfonilaaGreatDoorV11
import Derived.Test.YtkjnjmihfonilaaGreatDoorV12
import Derived.Test.YtkjnjmihfonilaaGreatDoorV13
import Derived.Test.YtkjnjmihfonilaaGreatDoorV14
import Derived.Test.YtkjnjmihfonilaaGreatDoorV15
import Derived.Test.YtkjnjmihfonilaaGreatDoorV16
import Derived.Test.YtkjnjmihfonilaaGreatDoorV17
import Derived.Test.YtkjnjmihfonilaaGreatDoorV18
import Derived.Test.YtkjnjmihfonilaaGreatDoorV19
import Derived.Test.YtkjnjmihfonilaaGreatDoorV20
import Derived.Test.YtkjnjmihfonilaaGreatDoorV21
import Derived.Test.YtkjnjmihfonilaaGreatDoorV22
import Derived.Test.YtkjnjmihfonilaaGreatDoorV23
import Derived.Test.YtkjnjmihfonilaaGreatDoorV24
import Derived.Test.YtkjnjmihfonilaaGreatDoorV25
import Derived.Test.YtkjnjmihfonilaaGreatDoorV26
import Derived.Test.YtkjnjmihfonilaaGreatDoorV27
import Derived.Test.YtkjnjmihfonilaaGreatDoorV28
import Derived.Test.YtkjnjmihfonilaaGreatDoorV29
import Derived.Test.YtkjnjmihfonilaaGreatDoorV30
import Derived.Test.YtkjnjmihfonilaaGreatDoorY01
import Derived.Test.YtkjnjmihfonilaaGreatDoorY02
import Derived.Test.YtkjnjmihfonilaaGreatDoorY03
import Derived.Test.YtkjnjmihfonilaaGreatDoorY04
import Derived.RangeFuncBox
import Derived.RangeFuncNested
import Derived.RangeFuncLeaves
import Derived.Shelf.Abstract
import Derived.OwnWalkIn
import Derived.TacticsInMore
import Derived.LoopNIn
import Derived.LoopIn
import Derived.Maps.AppendAt
namespace Go.Proofs.YtkjnjmihfonilaaGreatDoor
open Go.RowKit Go.Sort
def FrmP (w : World) (M : Mx) (e : Ending) (w' : World) : Prop := ∃ F, HnfOf (ncols M) M F ∧ FrmPost w F e w'
set_option maxRecDepth 100000 in
set_option maxHeartbeats 1000000 in
theorem form_any {w : World} {v : Value} {M : Mx} (hM : MatR w v M) (hc : checkM M = 0) (hk : bC M.length 30 (ncols M) + 2 < LIM) (hL : Laid w) :
    Calls Tryz.prog 31 #[v] w (FrmP w M) := by
  obtain ⟨hm12, hn12, hrect, hent⟩ := checkM_ok hc
  have HM := Lib.hid hM
  have HL := Lib.hid hL
  have h64 : ∀ r ∈ M, ∀ z ∈ r, I64 z := fun r hr z hz => by have := hent r hr z hz; unfold I64; omega
  have hck := Lib.hid (tableCheck_any hM)
  rw [hc] at hck
  have Hent := Lib.hid hent
  have Hrect := Lib.hid hrect
  have H64 := Lib.hid h64
  have Hk := Lib.hid hk
  have Hc := Lib.hid hc
  clear hM hL hent hrect h64 hk hc
  go_enter Tryz.func31, Tryz.ntmps31
  go_wp2_with fail
  refine hck.out.mono ?_
  rintro e w1 ⟨rfl, hE1⟩
  clear hck
  have hli := Lib.hid (lines_any (n := ncols M) (HM.out.ext hE1) Hrect.out (by omega) (by omega) H64.out (HL.out.ext hE1))
  go_wp2_with fail
  refine hli.out.mono ?_
  rintro e w2 ⟨v2, ad, rfl, hV, hE2⟩
  clear hli
  have hE12 := hE1.trans hE2
  have hcol := Lib.hid (fun W (hW : Ext w2 W) => columns_any (HM.out.ext (hE12.trans hW)))
  have hsh : ∃ ga cp, v2 = .slice ga M.length cp ∧ M.length ≤ cp ∧ (0 < M.length → ∃ g, ga = some ⟨g, 0, none⟩) := by
    have hr := hV.row
    rw [lines0_length] at hr
    rcases hr.2 with ⟨rfl, h0⟩ | ⟨g, cap, cur, rfl, hb, hg, hn, hm, hs, ht⟩
    · rw [h0]; exact ⟨none, 0, rfl, Nat.le_refl _, fun h => by omega⟩
    · exact ⟨_, cap, rfl, hn, fun _ => ⟨g, rfl⟩⟩
  obtain ⟨ga, cp, rfl, hcp, hgs⟩ := hsh
  have HV := Lib.hid hV
  clear hV
  by_cases hn0 : ncols M = 0
  · rw [hn0] at hcol
    have HF := Lib.hid (hnf_nil (M := M) (by rw [← hn0]; exact Hrect.out))
    rw [← hn0] at HF
    have hcpi : (0 : Int) ≤ (cp : Int) := by omega
    clear hn0
    go_wp2_with fail
    refine (hcol.out _ (Ext.refl _)).mono ?_
    rintro e w3 ⟨rfl, hE3⟩
    go_wp2_with fail
    refine (echelon_zero rfl).mono ?_
    rintro e w4 ⟨rfl, rfl⟩
    go_wp2_with fail
    go_loopw [6, 25] (fun out idx wr => idx = .int .i64 0 ∧ out = .slice none 0 0 ∧ wr = w4) (fun _ _ _ => 0)
    case atStart => exact ⟨rfl, rfl, rfl⟩
    case round =>
      obtain ⟨rfl, rfl, hwr⟩ := hrel
      subst hwr
      go_wp2_with fail
      go_ret2
      refine ⟨[], HF.out, ?_⟩
      exact ⟨by rw [if_pos (show smallM [] = true from rfl)]; exact ⟨_, rfl, MatO.nil _ _⟩, hE12.trans hE3⟩
  · have hnp : 0 < ncols M := by omega
    have hmp : 0 < M.length := by
      rcases Nat.eq_zero_or_pos M.length with h | h
      · have : M = [] := List.eq_nil_of_length_eq_zero h
        rw [this] at hn0; exact absurd rfl hn0
      · exact h
    obtain ⟨g, rfl⟩ := hgs hmp
    have hlns : Lns w1.heap.size w2 g ad (lines0 M) := by
      have := HV.out
      have h2 : LnsV w1.heap.size w2 (slv g (lines0 M).length cp) ad (lines0 M) (ncols M) M.length := by rw [lines0_length]; exact this
      exact h2.lns hnp
    have Hlns := Lib.hid hlns
    have hech := Lib.hid (fun W (hW : Ext w2 W) => echelon_walk (w0 := w1) (w := W) (g := g) (cp := cp) (n := ncols M) (m := M.length) (L := M.length) (k := 30) (by simp) (by omega) hcp (by omega) (by omega) (Hlns.out.ext hW) (lines0_dim Hrect.out) (lines0_all Hent.out) Hk.out (HL.out.ext hE1) (hE2.trans hW))
    clear hlns hgs hn0
    go_wp2_with fail
    refine (hcol.out _ (Ext.refl _)).mono ?_
    rintro e w3 ⟨rfl, hE3⟩
    go_wp2_with fail
    refine (hech.out _ hE3).mono ?_
    rintro e w4 ⟨d, ps, ad', ls', rfl, hL4, hF4, hO4, hA4, hE4⟩
    have HnF := Lib.hid (form_of Hrect.out hO4 hF4)
    have hdl := hF4.le
    have hll : ls'.length = M.length := by rw [hO4.length]; simp
    have Hfl := Lib.hid (fRows_length hdl)
    have Hfg := Lib.hid (fun i (h : i < d) => fRows_getD (ls := ls') h hdl)
    have Hdim := Lib.hid ((lines0_dim Hrect.out).ops hO4)
    have HA4 := Lib.hid hA4
    have Hll := Lib.hid hll
    have hdm : d ≤ M.length := by omega
    have hdc : (d : Int) ≤ (cp : Int) := by omega
    clear hech hcol hO4 hF4 hA4 Hlns HV hdl hll
    obtain ⟨F, hF⟩ : ∃ F, F = fRows d ls' := ⟨_, rfl⟩
    rw [← hF] at HnF Hfl
    rw [← hF] at Hfg
    clear hF
    go_wp2_with fail
    go_loopw [6, 25] (fun out idx wr => ∃ i : Nat, i ≤ d ∧ idx = .int .i64 i ∧ Hid (MatO w4.heap.size wr out (F.take i)) ∧ Hid (∀ j (h : j < F.length), j < i → smallB F[j] = true) ∧ Ext w4 wr) (fun _ idx _ => d - (intOf idx).toNat)
    case atStart => exact ⟨0, by omega, by go_num, Lib.hid (MatO.nil _ _), Lib.hid (fun j _ h => by omega), Ext.refl _⟩
    case round =>
      obtain ⟨i, hi, rfl, hO, Hs, hE5⟩ := hrel
      generalize wr = X at *
      by_cases hlt : i < d
      · have hii : (i : Int) < (d : Int) := by omega
        obtain ⟨gx, cx, gy, cy, ead, c1, c2, cz, o1, o2, _, _, _⟩ := (hL4.ext hE5).ln (d := 0) (c := 0) (i := i) (o := i * 2) Hdim.out (by rw [Hll.out]; omega) (by omega) hnp
        have hrow : (ls'.getD (0 + i) default).1 = F.getD i [] := by rw [Nat.zero_add]; exact (Hfg.out i hlt).symm
        rw [hrow] at o1
        have hlen : (F.getD i []).length = ncols M := by rw [← hrow]; exact (Hdim.out.getD (by rw [Hll.out]; omega)).1
        have hFi : F.getD i [] = F[i]'(by rw [Hfl.out]; exact hlt) := getD_get (by rw [Hfl.out]; exact hlt) []
        have hbig : ∀ z ∈ F.getD i [], nd z ≤ LIM := fun z hz => by
          rw [← hrow] at hz
          have := nd_lt2 ((HA4.out (0 + i) (by rw [Hll.out]; omega)).1 z hz)
          have := Hk.out
          omega
        have hEw4 : Ext w w4 := hE1.trans hE4
        have hsml := Lib.hid (fun W (hW : Ext X W) => hSmall_any (w := W) (cap := cx) (o1.sl.ext' hW) (by rw [hlen]; omega) hbig (HL.out.ext (hEw4.trans (hE5.trans hW))))
        rw [hlen] at hsml
        have hW0 := (Ext.refl X).alloc (.cells #[slv gx (ncols M) cx, slv gy M.length cy] 106)
        have hEwX := hEw4.trans hE5
        have HFi := Lib.hid hFi
        have hXw4 := hE5.size
        clear hrow hlen hFi hbig ead o1 o2 cz
        obtain ⟨r, hr⟩ : ∃ r, r = F.getD i [] := ⟨_, rfl⟩
        rw [← hr] at hsml HFi
        clear hr
        have hpost := hsml
        have HsI := Lib.hid (show i < F.length by rw [Hfl.out]; exact hlt)
        cases hs : smallB r
        · have Hno := Lib.hid (smallM_not HsI.out (by rw [← HFi.out]; exact hs))
          have Hsb := Lib.hid hs
          clear hs hpost
          go_wp2_with fail
          refine (hsml.out _ hW0).mono ?_
          rintro e W ⟨hp, hEW⟩
          rw [if_neg (by rw [Hsb.out]; decide)] at hp
          obtain rfl := hp
          go_wp2_with fail
          go_ret2
          refine ⟨F, HnF.out, ?_⟩
          refine ⟨?_, hEwX.trans (hW0.trans hEW)⟩
          rw [if_neg (by rw [Hno.out]; decide)]; rfl
        · have Hsb := Lib.hid hs
          clear hs hpost
          go_wp2_with fail
          refine (hsml.out _ hW0).mono ?_
          rintro e W ⟨hp, hEW⟩
          rw [if_pos Hsb.out] at hp
          obtain ⟨rv, rfl, hrv⟩ := hp
          have hEXW := hW0.trans hEW
          have hXW := hEXW.size
          have HO2 := Lib.hid (hO.out.ext hEXW)
          have HR2 := Lib.hid ((hrv.v).mono (B' := w4.heap.size) (by simp; omega))
          obtain ⟨gr, cr, rfl, _⟩ := hrv
          have hE5W := Lib.hid (hE5.trans hEXW)
          have hil : (F.take i).length = i := by rw [List.length_take, Hfl.out]; omega
          have Hil := Lib.hid hil
          clear hil hEW hsml hEXW
          go_wp2_with (at_builtin; refine app_mat rfl _ _ rfl rfl (HO2.out.ext ((Ext.refl _).alloc _)) rfl (b := W.heap.size) (by go_simp) (HR2.out.ext ((Ext.refl _).alloc _)) (by rw [Hil.out]; omega) (by simp; omega) ?_; intro gg cap2 w8 hO8 hB8 hG8; rw [Hil.out] at hO8 ⊢)
          rw [← show F.take (i + 1) = F.take i ++ [r] by rw [take_snocM HsI.out, HFi.out]] at hO8
          have hE8 : Ext w4 w8 := Below.trans ((hE5W.out.alloc (.cells #[slv gr r.length cr] 26))) hB8
          clear hG8 hB8
          go_wp2_with fail
          go_roundw
          case rel => exact ⟨i + 1, by omega, by go_num, Lib.hid hO8, Lib.hid (fun j h hj => by
            by_cases e : j = i
            · subst e; rw [← HFi.out]; exact Hsb.out
            · exact Hs.out j h (by omega)), hE8⟩
          case measure => simp [intOf] <;> omega
      · have hid : i = d := by omega
        subst hid
        go_wp2_with fail
        go_ret2
        refine ⟨F, HnF.out, ?_⟩
        have hsm : smallM F = true := smallM_yes (fun j hj => Hs.out j hj (by rw [← Hfl.out]; exact hj))
        refine ⟨?_, (hE1.trans hE4).trans hE5⟩
        rw [if_pos hsm]
        refine ⟨_, rfl, ?_⟩
        have := hO.out
        rw [List.take_of_length_le (by rw [Hfl.out]; exact Nat.le_refl _)] at this
        exact this.mono ((hE1.trans hE4).size)
end Go.Proofs.YtkjnjmihfonilaaGreatDoor
namespace Go.Proofs.YtkjnjmihfonilaaGreatDoor
open Go.RowKit Go.Sort
theorem nilM (w : World) : MatR w (.slice none 0 0) [] := (MatO.nil 0 w).mat
end Go.Proofs.YtkjnjmihfonilaaGreatDoor
namespace Go.Proofs.YtkjnjmihfonilaaGreatDoor
open Go.RowKit Go.Sort Go.Shelf
attribute [local go_sem] Oper.semAt_some
def PrR (B : Nat) (M : Mx) (k : Nat) (x : Int × Nat × Nat) (W : World) : Prop := x.1 = pvI (M.getD k []) ∧ OwnV 80 B W x.2.1 x.2.2 (ss (M.getD k []))
theorem PrR.put {B k : Nat} {M : Mx} {x : Int × Nat × Nat} {W : World} {l : Nat} {o : Obj} (o' : Obj) (hl : W.heap[l]? = some o) (ho : o.isCells = false) (h : PrR B M k x W) : PrR B M k x (W.putObj l o') :=
  ⟨h.1, ownsRow_putObj h.2 o' hl ho⟩
end Go.Proofs.YtkjnjmihfonilaaGreatDoor
namespace Go.Proofs.YtkjnjmihfonilaaGreatDoor
open Go.RowKit Go.Sort Go.Shelf
attribute [local go_sem] Oper.semAt_some
theorem boxed_ext {W W' : World} {B : Nat} {t : TypeId} {v : Value} (h : Boxed W B t v) (he : Ext W W') : Boxed W' B t v := (he.block B h.lt).trans h
def RdI (w : World) (B4 br bm gr cr n : Nat) (M : Mx) (x : List Int) (pre : List (Int × Nat × Nat)) (W : World) : Prop :=
  (∃ v, Boxed W br 138 v ∧ W.ownsRow w.heap.size 80 1 v n (ss (redX (M.take pre.length) x)) ∧ v = slv gr n cr) ∧
  (∃ v, Boxed W bm 138 v ∧ W.ownsRow B4 80 1 v pre.length (ss (redQ (M.take pre.length) x)) ∧ True) ∧ Below w.heap.size w W ∧ B4 ≤ W.heap.size
theorem RdI.own {w : World} {B4 br bm gr cr n D : Nat} {M : Mx} {x : List Int} (hD : w.heap.size ≤ D) : OwnFrom D (RdI w B4 br bm gr cr n M x) :=
  OwnFrom.and (Own.from (holdsRow_own w.heap.size br 138 80 1 (fun (_ : List (Int × Nat × Nat)) => n) (fun (pre : List (Int × Nat × Nat)) => ss (redX (M.take pre.length) x)) (fun _ v => v = slv gr n cr)) _)
    (OwnFrom.and (Own.from (holdsRow_own B4 bm 138 80 1 (fun (pre : List (Int × Nat × Nat)) => pre.length) (fun (pre : List (Int × Nat × Nat)) => ss (redQ (M.take pre.length) x)) (fun _ _ => True)) _) (OwnFrom.and (ownFrom_below (Nat.le_refl _) hD) (fun _ _ _ _ hs hg _ => Nat.le_trans hs hg.size)))
theorem RdI.ext {w A B : World} {B4 br bm gr cr n : Nat} {M : Mx} {x : List Int} {pre : List (Int × Nat × Nat)} (h : RdI w B4 br bm gr cr n M x pre A) (he : Ext A B) : RdI w B4 br bm gr cr n M x pre B := by
  obtain ⟨⟨v, h1, h2, h3⟩, ⟨u, k1, k2, _⟩, hb, hz⟩ := h
  exact ⟨⟨v, boxed_ext h1 he, ownsRow_ext h2 he, h3⟩, ⟨u, boxed_ext k1 he, ownsRow_ext k2 he, trivial⟩, Below.trans hb (Below.mono he hb.size), Nat.le_trans hz he.size⟩
end Go.Proofs.YtkjnjmihfonilaaGreatDoor
namespace Go.Proofs.YtkjnjmihfonilaaGreatDoor
open Go.RowKit Go.Sort
theorem checkM_rect {c : Nat} {A : Mx} (hR : Rect c A) (hl : A.length ≤ 12) (hc : c ≤ 12) (hs : SmK A) : checkM A = 0 := by
  unfold checkM
  rw [if_neg (by omega)]
  refine chk_all _ _ fun j hj => ?_
  have hj' := hR _ (List.getElem_mem hj)
  have h0 : (A.getD 0 []).length = c := by rw [getD_get (by omega)]; exact hR _ (List.getElem_mem _)
  have hg : A[j].any grt = false := by
    cases h : A[j].any grt
    · rfl
    · obtain ⟨z, hz, hg⟩ := List.any_eq_true.1 h
      have := hs _ (List.getElem_mem hj) z hz
      unfold grt at hg
      have := of_decide_eq_true hg
      omega
  unfold chkR
  rw [if_neg (by omega), if_neg (by omega), hg]; rfl
end Go.Proofs.YtkjnjmihfonilaaGreatDoor
namespace Go.Proofs.YtkjnjmihfonilaaGreatDoor
open Go.RowKit Go.Sort
theorem chg_sym {w w' : World} {M B : Mx} {e : Ending} (h : ∃ ub, (chE M.length B = 0 → 0 < M.length → UnB B ub) ∧ ChgPost w M B ub e w') :
    Ext w w' ∧ ∃ s m c k G, e = .returned (.tuple #[.slice s m c, .int .i64 k]) ∧ MatR w' (.slice s m c) G ∧ (chE M.length B ≠ 0 → k = chE M.length B ∧ G = []) ∧ (chE M.length B = 0 → M.length = 0 → k = 0 ∧ G = []) ∧
      (chE M.length B = 0 → 0 < M.length → ∃ ub, UnB B ub ∧ ((ub = false ∧ k = 7 ∧ G = []) ∨ (ub = true ∧ ((allSm (mulM (ncols M) B M) = true ∧ k = 0 ∧ G = mulM (ncols M) B M) ∨ (allSm (mulM (ncols M) B M) = false ∧ k = 4 ∧ G = []))))) := by
  obtain ⟨ub, hu, hE, (⟨q, rfl⟩ | ⟨q, q2, rfl⟩ | ⟨q, q2, q3, rfl⟩ | ⟨q, q2, q3, _, (⟨ha, v, rfl, hv⟩ | ⟨ha, rfl⟩)⟩)⟩ := h
  · exact ⟨hE, _, _, _, _, [], rfl, nilM _, fun _ => ⟨rfl, rfl⟩, fun h => absurd h q, fun h => absurd h q⟩
  · exact ⟨hE, _, _, _, _, [], rfl, nilM _, fun h => absurd q h, fun _ _ => ⟨rfl, rfl⟩, fun _ h => by omega⟩
  · exact ⟨hE, _, _, _, _, [], rfl, nilM _, fun h => absurd q h, fun _ h => by omega, fun h1 h2 => ⟨ub, hu h1 h2, .inl ⟨q3, rfl, rfl⟩⟩⟩
  · have hr := hv.mat
    obtain ⟨a, _, _, c, _, e, _⟩ := id hr
    subst e
    exact ⟨hE, _, _, _, _, _, rfl, hr, fun h => absurd q h, fun _ h => by omega, fun h1 h2 => ⟨ub, hu h1 h2, .inr ⟨q3, .inl ⟨ha, rfl, rfl⟩⟩⟩⟩
  · exact ⟨hE, _, _, _, _, [], rfl, nilM _, fun h => absurd q h, fun _ h => by omega, fun h1 h2 => ⟨ub, hu h1 h2, .inr ⟨q3, .inr ⟨ha, rfl, rfl⟩⟩⟩⟩
theorem mul_sym {w w' : World} {G : Mx} {e : Ending} (h : MulPost w G e w') :
    Ext w w' ∧ ∃ s m c k H, e = .returned (.tuple #[.slice s m c, .int .i64 k]) ∧ MatR w' (.slice s m c) H ∧ ((allSm G = true ∧ k = 0 ∧ H = G) ∨ (allSm G = false ∧ k = 4 ∧ H = [])) := by
  obtain ⟨hE, (⟨ha, v, rfl, hv⟩ | ⟨ha, rfl⟩)⟩ := h
  · have hr := hv.mat
    obtain ⟨a, _, _, c, _, e, _⟩ := id hr
    subst e
    exact ⟨hE, _, _, _, _, _, rfl, hr, .inl ⟨ha, rfl, rfl⟩⟩
  · exact ⟨hE, _, _, _, _, [], rfl, nilM _, .inr ⟨ha, rfl, rfl⟩⟩
theorem frm_sym {w w' : World} {A F : Mx} {e : Ending} (h : FrmP w A e w') (hF : HnfOf (ncols A) A F) (hs : smallM F = true) :
    Ext w w' ∧ ∃ s m c, e = .returned (.tuple #[.slice s m c, .int .i64 0]) ∧ MatR w' (.slice s m c) F := by
  obtain ⟨F', hF', hp, hE⟩ := h
  have hFF : F = F' := hF.unique hF' (fun v hv => .mem hv) (fun v hv => .mem hv)
  subst hFF
  rw [hs, if_pos rfl] at hp
  obtain ⟨v, rfl, hv⟩ := hp
  have hr := hv.mat
  obtain ⟨a, _, _, c, _, e, _⟩ := id hr
  subst e
  exact ⟨hE, _, _, _, rfl, hr⟩
theorem smallM_of {F : Mx} (h : SmK F) : smallM F = true := List.all_eq_true.2 fun r hr => smallB_iff.2 (h r hr)
theorem frm_num : ∀ n m : Fin 5, bC n.val 30 m.val + 2 < LIM := by decide +kernel
theorem chg_form {n : Nat} {ps : List Nat} {M B : Mx} (hI : IsH n ps M) (hB : checkM B = 0) (hlB : B.length = M.length) (hnB : ncols B = M.length) (hu : UnB B true) : HnfOf n (mulM n B M) M := by
  obtain ⟨G, hG, h1⟩ := hu
  obtain ⟨_, _, hR, _⟩ := checkM_ok hB
  rw [hnB] at hR hG
  exact chg_law hI hR hlB hG (h1.1 rfl)
theorem chk_len {r : Nat} {B : Mx} (h : chE r B = 0) : checkM B = 0 ∧ B.length = r ∧ (0 < r → ncols B = r) := by
  unfold chE at h
  split at h
  · rename_i h1
    split at h
    · cases h
    · rename_i h2
      exact ⟨h1, by omega, fun h0 => by
        refine Classical.byContradiction fun h3 => h2 (.inr ⟨h0, h3⟩)⟩
  · rename_i h1; exact absurd h h1
theorem mulM_ncols {n : Nat} {B M : Mx} (h : 0 < B.length) : ncols (mulM n B M) = n := by
  unfold ncols
  rw [getD_get (by simpa using h)]; exact mulM_rect n B M _ (List.getElem_mem _)
theorem unB_nil : UnB [] true := ⟨[], hnf_nil (fun r hr => by simp at hr), by simp⟩
set_option maxRecDepth 100000 in
set_option maxHeartbeats 8000000 in
theorem chs_walk {w : World} {b : Int} {rv : Value} {Z : List (List Int)} {vals : Bool} {sb : Option Addr} {nb kb : Nat} {B : Mx} (hb : 0 ≤ b ∧ b ≤ 255) (hR : RowsA w rv Z) (hB : MatR w (.slice sb nb kb) B) (hL : Laid w) :
    Calls Tryz.prog 7 #[.agg #[.int .u8 b, rv, .bool vals], .slice sb nb kb] w fun e w' => e = .returned (.bool true) ∧ Ext w w' := by
  have hkn := Lib.hid (fun W (hW : Ext w W) => known20_any (hL.ext hW))
  have hft := Lib.hid (fun W (hW : Ext w W) => fits18_any (b := b) (vals := vals) (hR.ext hW))
  have hmk := Lib.hid (fun W (hW : Ext w W) (h3 : Z.length ≤ 3) => make18_any (vals := vals) hb (hR.ext hW) h3 (hL.ext hW))
  have HL := Lib.hid hL
  have HB := Lib.hid hB
  have hnb : nb = B.length := by obtain ⟨_, _, _, _, _, e, _⟩ := hB; injection e
  subst hnb
  obtain ⟨sa, gb, go, cap, rfl, k1, k2, k3, k4⟩ := id hR
  clear k1 k2 k3 k4
  obtain ⟨rz, hrz⟩ : ∃ rz, rz = Z.length := ⟨_, rfl⟩
  rw [← hrz] at hft hmk ⊢
  have hX := (Ext.refl w).alloc (.cells #[.int .u8 b, .slice sa rz cap, .bool vals] 24)
  have p0 : (w.alloc (.cells #[.int .u8 b, .slice sa rz cap, .bool vals] 24)).cell? ⟨w.heap.size, 0, none⟩ = some (.int .u8 b) := by go_simp
  have p1 : (w.alloc (.cells #[.int .u8 b, .slice sa rz cap, .bool vals] 24)).cell? ⟨w.heap.size, 1, none⟩ = some (.slice sa rz cap) := by go_simp
  have p2 : (w.alloc (.cells #[.int .u8 b, .slice sa rz cap, .bool vals] 24)).cell? ⟨w.heap.size, 2, none⟩ = some (.bool vals) := by go_simp
  clear hrz hb hR hL hB
  by_cases hz3 : rz ≤ 3
  · rw [decide_eq_true hz3] at hft
    replace hmk := Lib.hid (fun W hW => hmk.out W hW hz3)
    clear hz3
    go_enter Tryz.func7, Tryz.ntmps7
    go_wp2_with fail
    refine (hkn.out _ hX).mono ?_
    rintro e X ⟨rfl, hE1⟩
    have p0 := hE1.cell p0
    have p1 := hE1.cell p1
    have p2 := hE1.cell p2
    have e1 := hX.trans hE1
    clear hE1
    go_wp2_with fail
    refine (hft.out _ e1).mono ?_
    rintro e X2 ⟨rfl, hE2⟩
    have p0 := hE2.cell p0
    have p1 := hE2.cell p1
    have p2 := hE2.cell p2
    have e2 := e1.trans hE2
    clear hE2
    by_cases h14 : 14 < B.length
    · have h14I : 14 < (B.length : Int) := by omega
      clear h14
      go_wp2_with fail
      refine (hkn.out _ e2).mono ?_
      rintro e X4 ⟨rfl, hEk⟩
      go_wp2_with fail
      go_ret
      exact ⟨rfl, e2.trans hEk⟩
    · have h14I : (B.length : Int) ≤ 14 := by omega
      obtain ⟨_, gB, oB, kB, vsB, eB, _, hvB, hSB, hrB⟩ := id HB.out
      injection eB with q1 q2 q3
      subst q1 q3
      clear q2
      have HSB := Lib.hid hSB
      have HVB := Lib.hid hvB
      have HrB := Lib.hid hrB
      clear h14 hSB hvB hrB
      go_wp2_with fail
      go_loopw [5] (fun idx wr => ∃ i : Nat, i ≤ B.length ∧ idx = .int .i64 i ∧ Ext X2 wr) (fun idx _ => B.length - (intOf idx).toNat)
      case atStart => exact ⟨0, by omega, by go_num, Ext.refl _⟩
      case round =>
        obtain ⟨i, hi, rfl, hE⟩ := hrel
        generalize wr = Y at *
        have eY := e2.trans hE
        by_cases hlt : i < B.length
        · have hii : (i : Int) < (B.length : Int) := by omega
          obtain rfl := HSB.out.addr (by rw [HVB.out]; omega)
          obtain ⟨sr, br, or, cr, hrow, hrc, hSr⟩ := MatR.row HSB.out HVB.out HrB.out hlt
          have hrY := eY.cell hrow
          generalize B[i].length = nr at *
          by_cases hr14 : 14 < nr
          · have hrI : 14 < (nr : Int) := by omega
            clear hr14
            go_wp2_with fail
            go_ret
            exact ⟨rfl, eY⟩
          · have hrI : (nr : Int) ≤ 14 := by omega
            clear hr14
            go_wp2_with fail
            go_roundw
            case rel => exact ⟨i + 1, by omega, by go_num, hE⟩
            case measure => simp [intOf] <;> omega
        · obtain rfl : i = B.length := by omega
          replace p0 := hE.cell p0
          replace p1 := hE.cell p1
          replace p2 := hE.cell p2
          clear e1 e2 hE hlt hi
          go_wp2_with fail
          refine (hmk.out _ eY).mono ?_
          rintro e X4 ⟨t, C, M, rfl, ht, hE3⟩
          have e4 := eY.trans hE3
          generalize prL b = P at *
          obtain ⟨sp, cp, sc, lc, cc, sm, lm, cm, rfl, hT⟩ := ht.open
          have hml : lm = M.length := by obtain ⟨_, _, _, _, _, e, _⟩ := hT.hM; injection e
          subst hml
          have hp4 := hT.ok.p4
          obtain ⟨psM, hIM⟩ := hT.ok.kM.1
          have hlM := isH_len hIM
          have hsM := hT.ok.sM
          have hckM := (chk_of_form hIM (by omega) (by omega) hsM).1
          have ea := (Ext.refl X4).alloc (.cells #[.slice sp P.length cp, .slice sc lc cc, .slice sm M.length cm] 34)
          have e5 := e4.alloc (.cells #[.slice sp P.length cp, .slice sc lc cc, .slice sm M.length cm] 34)
          have t0 : (X4.alloc (.cells #[.slice sp P.length cp, .slice sc lc cc, .slice sm M.length cm] 34)).cell? ⟨X4.heap.size, 0, none⟩ = some (.slice sp P.length cp) := by go_simp
          have t1 : (X4.alloc (.cells #[.slice sp P.length cp, .slice sc lc cc, .slice sm M.length cm] 34)).cell? ⟨X4.heap.size, 1, none⟩ = some (.slice sc lc cc) := by go_simp
          have t2 : (X4.alloc (.cells #[.slice sp P.length cp, .slice sc lc cc, .slice sm M.length cm] 34)).cell? ⟨X4.heap.size, 2, none⟩ = some (.slice sm M.length cm) := by go_simp
          have HT4 := Lib.hid (hT.ext ea)
          have hcg := Lib.hid (gChange_any HT4.out (HB.out.ext e5) (HL.out.ext e5))
          have htc := Lib.hid (fun W (hW : Ext (X4.alloc (.cells #[.slice sp P.length cp, .slice sc lc cc, .slice sm M.length cm] 34)) W) => tableCheck_any (HB.out.ext (e5.trans hW)))
          have hun := Lib.hid (fun (hc : checkM B = 0) (hl : B.length = M.length) (hn : ncols B = M.length) W (hW : Ext (X4.alloc (.cells #[.slice sp P.length cp, .slice sc lc cc, .slice sm M.length cm] 34)) W) => Unimodular_ok (HB.out.ext (e5.trans hW)) hc (by rw [hl, hn]; exact uni_num ⟨M.length, by omega⟩) (HL.out.ext (e5.trans hW)))
          have hmu := Lib.hid (fun (hc : checkM B = 0) (hn : ncols B = M.length) W (hW : Ext (X4.alloc (.cells #[.slice sp P.length cp, .slice sc lc cc, .slice sm M.length cm] 34)) W) => mul_any (HB.out.ext (e5.trans hW)) (HT4.out.hM.ext hW) hc hckM hn (HL.out.ext (e5.trans hW)))
          have hfo := Lib.hid (fun W v (A : Mx) (hW : Ext (X4.alloc (.cells #[.slice sp P.length cp, .slice sc lc cc, .slice sm M.length cm] 34)) W) (hA : MatR W v A) (hc : checkM A = 0) (hk : bC A.length 30 (ncols A) + 2 < LIM) => form_any hA hc hk (HL.out.ext (e5.trans hW)))
          have hHM := Lib.hid (fun W (hW : Ext (X4.alloc (.cells #[.slice sp P.length cp, .slice sc lc cc, .slice sm M.length cm] 34)) W) => HT4.out.hM.ext hW)
          have hsa := Lib.hid (fun W s n c s' n' c' (U V : Mx) (ha : MatR W (.slice s n c) U) (hb : MatR W (.slice s' n' c') V) (hl : U.length ≤ 1000000) (hr : ∀ r ∈ U, r.length ≤ 1000000) => same20_any ha hb hl hr)
          have HI := Lib.hid hIM
          have HsM := Lib.hid hsM
          clear ht hE3 hmk hft hkn p0 p1 p2 eY e4 hX hT ea hIM hsM hckM
          go_wp2_with fail
          refine hcg.out.mono ?_
          intro e Y1 h
          obtain ⟨hF1, s1, m1, c1, k, G, rfl, hG, g1, g2, g3⟩ := chg_sym h
          replace t0 := hF1.cell t0
          replace t1 := hF1.cell t1
          replace t2 := hF1.cell t2
          have HG := Lib.hid hG
          have G1 := Lib.hid g1
          have G2 := Lib.hid g2
          have G3 := Lib.hid g3
          have hm1 : m1 = G.length := by obtain ⟨_, _, _, _, _, e, _⟩ := hG; injection e
          have Hm1 := Lib.hid hm1
          have htc1 := Lib.hid (htc.out _ hF1)
          clear h hcg hG g1 g2 g3 hm1 htc
          by_cases hE0 : chE M.length B = 0
          · obtain ⟨hc, hl, hn⟩ := chk_len hE0
            rw [hc] at htc1
            by_cases h0 : M.length = 0
            · obtain ⟨hk0, hG0⟩ := G2.out hE0 h0
              have hB0 : B = [] := List.eq_nil_of_length_eq_zero (by omega)
              have hM0 : M = [] := List.eq_nil_of_length_eq_zero h0
              have hn' : ncols B = M.length := by rw [h0, hB0]; rfl
              obtain ⟨ub, hu⟩ : ∃ ub, ub = true := ⟨true, rfl⟩
              have Hub := Lib.hid (show UnB B ub by rw [hB0, hu]; exact unB_nil)
              have Hu := Lib.hid hu
              have Hsq := Lib.hid (show ncols B = B.length by rw [hn', hl])
              have hun1 := Lib.hid (hun.out hc hl hn')
              have hmu1 := Lib.hid (hmu.out hc hn')
              have HG0 := Lib.hid hG0
              have HB0 := Lib.hid hB0
              have HM0 := Lib.hid hM0
              have h0n : ¬ (0 : Int) < (M.length : Int) := by omega
              subst hk0
              rw [hl] at htc1 hun1 hmu1 ⊢
              clear hc hn hn' hE0 hun hmu h0 HB HSB HVB HrB hl h14I hu hG0 hB0 hM0
              go_wp2_with fail
              refine htc1.out.mono ?_
              rintro e Y2 ⟨rfl, hF2⟩
              replace t0 := hF2.cell t0
              replace t1 := hF2.cell t1
              replace t2 := hF2.cell t2
              have f2 := hF1.trans hF2
              have eF := e5.trans f2
              clear htc1
              clear eF
              go_wp2_with fail
              refine (hun1.out _ f2).mono ?_
              rintro e Y3 ⟨ub2, rfl, _, hub2, hF3⟩
              replace t0 := hF3.cell t0
              replace t1 := hF3.cell t1
              replace t2 := hF3.cell t2
              have f3 := f2.trans hF3
              obtain rfl : ub2 = ub := UnB.uniq (hub2 Hsq.out) Hub.out
              clear hub2 hun1
              obtain rfl : ub2 = true := Hu.out
              go_wp2_with fail
              refine (hmu1.out _ f3).mono ?_
              intro e Y4 h
              obtain ⟨hF4, s2, m2, c2, k2, H, rfl, hH, hH2⟩ := mul_sym h
              replace t0 := hF4.cell t0
              replace t1 := hF4.cell t1
              replace t2 := hF4.cell t2
              have f4 := f3.trans hF4
              rcases hH2 with ⟨_, hk2, hHG⟩ | ⟨ha2, _⟩
              · subst hk2
                have hHH : H = G := by rw [hHG, HG0.out, HB0.out]; rfl
                subst hHH
                have Hfr := Lib.hid (show HnfOf (ncols H) H M by
                  rw [HG0.out, HM0.out]; exact hnf_nil (fun r hr => by simp at hr))
                have hfo1 := Lib.hid (hfo.out Y4 _ H f4 (((HG.out.ext hF2).ext hF3).ext hF4) (by rw [HG0.out]; rfl) (by rw [HG0.out]; exact frm_num ⟨0, by omega⟩ ⟨0, by omega⟩))
                replace hfo1 := Lib.hid (fun (W : World) (_ : Ext (X4.alloc (.cells #[.slice sp P.length cp, .slice sc lc cc, .slice sm M.length cm] 34)) Y4) => hfo1.out)
                have Hgl := Lib.hid (show H.length ≤ 1000000 by rw [HG0.out]; decide)
                have Hgr := Lib.hid (show ∀ r ∈ H, r.length ≤ 1000000 from fun r hr => by rw [HG0.out] at hr; simp at hr)
                have Hml := Lib.hid (show M.length ≤ 1000000 by rw [HM0.out]; decide)
                have Hmr := Lib.hid (show ∀ r ∈ M, r.length ≤ 1000000 from fun r hr => by rw [HM0.out] at hr; simp at hr)
                have HH := Lib.hid hH
                clear hHG hmu1 hH h hfo
                go_wp2_with fail
                refine (hfo1.out Y4 f4).mono ?_
                intro e Y5 h
                obtain ⟨hF5, s5, m5, c5, rfl, hm5⟩ := frm_sym h Hfr.out (smallM_of HsM.out)
                replace t2 := hF5.cell t2
                have f5 := f4.trans hF5
                have hs1 := hsa.out Y5 _ _ _ _ _ _ _ _ (((HG.out.ext hF2).ext hF3).ext (hF4.trans hF5)) (HH.out.ext hF5) Hgl.out Hgr.out
                rw [decide_eq_true rfl] at hs1
                have Hs1 := Lib.hid hs1
                have hs2 := Lib.hid (fun W (hW : Ext Y5 W) => hsa.out W _ _ _ _ _ _ M M (hm5.ext hW) (hHM.out _ (f5.trans hW)) Hml.out Hmr.out)
                rw [decide_eq_true rfl] at hs2
                clear h hs1 hm5 hfo1
                go_wp2_with fail
                refine Hs1.out.mono ?_
                rintro e Y6 ⟨rfl, hF6⟩
                replace t2 := hF6.cell t2
                go_wp2_with fail
                refine (hs2.out _ hF6).mono ?_
                rintro e Y7 ⟨rfl, hF7⟩
                have eZ := e5.trans ((f5.trans hF6).trans hF7)
                go_wp2_with fail
                go_ret
                exact ⟨rfl, eZ⟩
              · rw [HB0.out] at ha2; cases ha2
            · have hn' := hn (by omega)
              obtain ⟨ub, hub, hcase⟩ := G3.out hE0 (by omega)
              have Hub := Lib.hid hub
              have Hcase := Lib.hid hcase
              have Hsq := Lib.hid (show ncols B = B.length by rw [hn', hl])
              have hun1 := Lib.hid (hun.out hc hl hn')
              have hmu1 := Lib.hid (hmu.out hc hn')
              have Hc := Lib.hid hc
              have Hl := Lib.hid hl
              have Hn := Lib.hid hn'
              have H0 := Lib.hid (show 0 < M.length by omega)
              obtain ⟨sr, br, or, cr, hrow, hrc, hSr⟩ := MatR.row HSB.out HVB.out HrB.out (show 0 < B.length by omega)
              have hr0 : B[0].length = M.length := by rw [← hn']; unfold ncols; rw [getD_get (by omega)]
              obtain rfl := HSB.out.addr (by rw [HVB.out]; omega)
              rw [hr0, Nat.add_zero] at hrow
              have Hrow := Lib.hid hrow
              have h0p : (0 : Int) < (M.length : Int) := by omega
              rw [hl] at htc1 hun1 hmu1 ⊢
              clear hc hn hn' hE0 hub hcase hun hmu hrow hrc hSr hr0 h0 HB HSB HVB HrB hl h14I
              go_wp2_with fail
              refine htc1.out.mono ?_
              rintro e Y2 ⟨rfl, hF2⟩
              replace t0 := hF2.cell t0
              replace t1 := hF2.cell t1
              replace t2 := hF2.cell t2
              have f2 := hF1.trans hF2
              have eF := e5.trans f2
              clear htc1
              have hrw := eF.cell Hrow.out
              clear eF
              go_wp2_with fail
              refine (hun1.out _ f2).mono ?_
              rintro e Y3 ⟨ub2, rfl, _, hub2, hF3⟩
              replace t0 := hF3.cell t0
              replace t1 := hF3.cell t1
              replace t2 := hF3.cell t2
              have f3 := f2.trans hF3
              obtain rfl : ub2 = ub := UnB.uniq (hub2 Hsq.out) Hub.out
              clear hub2 hun1
              rcases Hcase.out with ⟨hu, hk7, hG0⟩ | ⟨hu, hcs⟩
              · subst hu hk7
                have hm0 : m1 = 0 := by rw [Hm1.out, hG0]; rfl
                subst hm0
                have eZ := e5.trans f3
                clear hG0 hmu1 hfo hsa
                go_wp2_with fail
                go_ret
                exact ⟨rfl, eZ⟩
              · subst hu
                go_wp2_with fail
                refine (hmu1.out _ f3).mono ?_
                intro e Y4 h
                obtain ⟨hF4, s2, m2, c2, k2, H, rfl, hH, hH2⟩ := mul_sym h
                replace t0 := hF4.cell t0
                replace t1 := hF4.cell t1
                replace t2 := hF4.cell t2
                have f4 := f3.trans hF4
                rcases hcs with ⟨ha, hk0, hG0⟩ | ⟨ha, hk4, hG0⟩
                · rcases hH2 with ⟨_, hk2, hHG⟩ | ⟨ha2, _⟩
                  · subst hk0 hk2
                    have hHH : H = G := by rw [hHG, hG0]
                    subst hHH
                    have hmr := mulM_rect (ncols M) B M
                    have hml : (mulM (ncols M) B M).length = M.length := by rw [mulM_length]; exact Hl.out
                    have hmc : ncols H = ncols M := by rw [hG0]; exact mulM_ncols (by rw [Hl.out]; exact H0.out)
                    have hMn : ncols M = P.length := by
                      unfold ncols; rw [getD_get H0.out]; exact HI.out.rect _ (List.getElem_mem _)
                    have hHl : H.length = M.length := by rw [hG0, hml]
                    have hHs : SmK H := fun r hr z hz => smallB_iff.1 (List.all_eq_true.1 ha r (by rw [← hG0]; exact hr)) z hz
                    have hHR : Rect P.length H := by rw [hG0, ← hMn]; exact hmr
                    have Hfr := Lib.hid (show HnfOf (ncols H) H M by
                      rw [hmc, hG0, hMn]; exact chg_form HI.out Hc.out Hl.out Hn.out Hub.out)
                    have hfo1 := Lib.hid (fun W (hW : Ext Y1 W) (hW2 : Ext (X4.alloc (.cells #[.slice sp P.length cp, .slice sc lc cc, .slice sm M.length cm] 34)) W) => hfo.out W _ H hW2 (HG.out.ext hW) (checkM_rect hHR (by omega) (by omega) hHs) (by rw [hHl, hmc, hMn]; exact frm_num ⟨M.length, by omega⟩ ⟨P.length, by omega⟩))
                    replace hfo1 := Lib.hid (fun W (hW : Ext (X4.alloc (.cells #[.slice sp P.length cp, .slice sc lc cc, .slice sm M.length cm] 34)) W) (hW2 : Ext Y1 W) => hfo1.out W hW2 hW)
                    replace hfo1 := Lib.hid (hfo1.out Y4 f4 ((hF2.trans hF3).trans hF4))
                    replace hfo1 := Lib.hid (fun (W : World) (_ : Ext (X4.alloc (.cells #[.slice sp P.length cp, .slice sc lc cc, .slice sm M.length cm] 34)) Y4) => hfo1.out)
                    have Hgl := Lib.hid (show H.length ≤ 1000000 by omega)
                    have Hgr := Lib.hid (show ∀ r ∈ H, r.length ≤ 1000000 from fun r hr => by rw [hHR r hr]; omega)
                    have Hml := Lib.hid (show M.length ≤ 1000000 by omega)
                    have Hmr := Lib.hid (show ∀ r ∈ M, r.length ≤ 1000000 from fun r hr => by rw [HI.out.rect r hr]; omega)
                    have HH := Lib.hid hH
                    clear hHG hG0 hmr hml hmc hMn hHl hHs hHR ha hmu1 hH h hfo
                    go_wp2_with fail
                    refine (hfo1.out Y4 f4).mono ?_
                    intro e Y5 h
                    obtain ⟨hF5, s5, m5, c5, rfl, hm5⟩ := frm_sym h Hfr.out (smallM_of HsM.out)
                    replace t2 := hF5.cell t2
                    have f5 := f4.trans hF5
                    have hs1 := hsa.out Y5 _ _ _ _ _ _ _ _ (((HG.out.ext hF2).ext hF3).ext (hF4.trans hF5)) (HH.out.ext hF5) Hgl.out Hgr.out
                    rw [decide_eq_true rfl] at hs1
                    have Hs1 := Lib.hid hs1
                    have hs2 := Lib.hid (fun W (hW : Ext Y5 W) => hsa.out W _ _ _ _ _ _ M M (hm5.ext hW) (hHM.out _ (f5.trans hW)) Hml.out Hmr.out)
                    rw [decide_eq_true rfl] at hs2
                    clear h hs1 hm5 hfo1
                    go_wp2_with fail
                    refine Hs1.out.mono ?_
                    rintro e Y6 ⟨rfl, hF6⟩
                    replace t2 := hF6.cell t2
                    go_wp2_with fail
                    refine (hs2.out _ hF6).mono ?_
                    rintro e Y7 ⟨rfl, hF7⟩
                    have eZ := e5.trans ((f5.trans hF6).trans hF7)
                    go_wp2_with fail
                    go_ret
                    exact ⟨rfl, eZ⟩
                  · rw [ha] at ha2; cases ha2
                · rcases hH2 with ⟨ha2, _⟩ | ⟨_, hk2, hHn⟩
                  · rw [ha] at ha2; cases ha2
                  · subst hk4 hk2
                    have hm0 : m1 = 0 := by rw [Hm1.out, hG0]; rfl
                    subst hm0
                    have eZ := e5.trans f4
                    clear hG0 hHn ha hmu1 hH h hfo hsa
                    go_wp2_with fail
                    go_ret
                    exact ⟨rfl, eZ⟩
          · obtain ⟨hk, hGn⟩ := G1.out hE0
            have hm0 : m1 = 0 := by rw [Hm1.out, hGn]; rfl
            subst hm0
            by_cases hc : checkM B = 0
            · rw [hc] at htc1
              have hk5 : k = 5 := by
                rw [hk]
                unfold chE at hE0 ⊢
                rw [if_pos hc] at hE0 ⊢
                split at hE0
                · rename_i h5; rw [if_pos h5]
                · exact absurd rfl hE0
              have hcs : B.length ≠ M.length ∨ (B.length = M.length ∧ 0 < M.length ∧ ncols B ≠ M.length) := by
                unfold chE at hE0
                rw [if_pos hc] at hE0
                split at hE0
                · rename_i h5; rcases Nat.decEq B.length M.length with h6 | h6
                  · exact .inl h6
                  · rcases h5 with h7 | h7
                    · exact .inl h7
                    · exact .inr ⟨h6, h7⟩
                · exact absurd rfl hE0
              subst hk5
              rcases hcs with hl | ⟨hl, h0, hn⟩
              · have hlI : ¬ (B.length : Int) = (M.length : Int) := by omega
                have hlb : ((B.length : Int) == (M.length : Int)) = false := beq_eq_false_iff_ne.2 hlI
                have hln : ((B.length : Int) != (M.length : Int)) = true := by simp [bne, hlb]
                clear hl hc hE0 hk hGn hun hmu hfo hsa
                go_wp2_with fail
                refine htc1.out.mono ?_
                rintro e Y2 ⟨rfl, hF2⟩
                replace t0 := hF2.cell t0
                replace t1 := hF2.cell t1
                replace t2 := hF2.cell t2
                have f2 := hF1.trans hF2
                have eF := e5.trans f2
                clear hF2 htc1
                go_wp2_with fail
                go_ret
                exact ⟨rfl, eF⟩
              · obtain ⟨sr, br, or, cr, hrow, hrc, hSr⟩ := MatR.row HSB.out HVB.out HrB.out (show 0 < B.length by omega)
                have hr0 : B[0].length = ncols B := by unfold ncols; rw [getD_get (by omega)]
                obtain rfl := HSB.out.addr (by rw [HVB.out]; omega)
                rw [hr0, Nat.add_zero] at hrow
                have Hrow := Lib.hid hrow
                have h0p : (0 : Int) < (M.length : Int) := by omega
                have hnI : ¬ (ncols B : Int) = (M.length : Int) := by omega
                have hnb : ((ncols B : Int) == (M.length : Int)) = false := beq_eq_false_iff_ne.2 hnI
                have hnn : ((ncols B : Int) != (M.length : Int)) = true := by simp [bne, hnb]
                have Hlb := Lib.hid hl
                clear hc hE0 hk hGn hun hmu hfo hsa hrow hrc hSr hr0 hn h0 HB HSB HVB HrB
                rw [hl] at htc1 ⊢
                clear hl
                generalize ncols B = nc at *
                go_wp2_with fail
                refine htc1.out.mono ?_
                rintro e Y2 ⟨rfl, hF2⟩
                replace t0 := hF2.cell t0
                replace t1 := hF2.cell t1
                replace t2 := hF2.cell t2
                have f2 := hF1.trans hF2
                have eF := e5.trans f2
                clear hF2 htc1
                have hrw := eF.cell Hrow.out
                go_wp2_with fail
                go_ret
                exact ⟨rfl, eF⟩
            · obtain ⟨z, hz⟩ : ∃ z, z = checkM B := ⟨_, rfl⟩
              have hkz : k = z := by rw [hk, hz]; unfold chE; rw [if_neg hc]
              rw [← hz] at hc htc1
              subst hkz
              have h2 : (k == 0) = false := beq_eq_false_iff_ne.2 hc
              have h3 : (k != 0) = true := by simp [bne, h2]
              clear hz hE0 hk hGn hun hmu hfo hsa
              go_wp2_with fail
              refine htc1.out.mono ?_
              rintro e Y2 ⟨rfl, hF2⟩
              replace t0 := hF2.cell t0
              replace t1 := hF2.cell t1
              replace t2 := hF2.cell t2
              have f2 := hF1.trans hF2
              have eF := e5.trans f2
              clear hF2 htc1
              go_wp2_with fail
              go_ret
              exact ⟨rfl, eF⟩
  · rw [decide_eq_false hz3] at hft
    clear hz3 hmk
    go_enter Tryz.func7, Tryz.ntmps7
    go_wp2_with fail
    refine (hkn.out _ hX).mono ?_
    rintro e X ⟨rfl, hE1⟩
    have p0 := hE1.cell p0
    have p1 := hE1.cell p1
    have p2 := hE1.cell p2
    have e1 := hX.trans hE1
    clear hE1
    go_wp2_with fail
    refine (hft.out _ e1).mono ?_
    rintro e X2 ⟨rfl, hE2⟩
    have e2 := e1.trans hE2
    go_wp2_with fail
    refine (hkn.out _ e2).mono ?_
    rintro e X4 ⟨rfl, hEk⟩
    go_wp2_with fail
    go_ret
    exact ⟨rfl, e2.trans hEk⟩
  end Go.Proofs.YtkjnjmihfonilaaGreatDoor
