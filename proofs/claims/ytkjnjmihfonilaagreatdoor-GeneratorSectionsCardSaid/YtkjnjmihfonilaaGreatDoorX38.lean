/- Part 38 of the proof of the claim: contracts of the functions that it reaches, and plain laws; no condition. -/
import Derived.Test.YtkjnjmihfonilaaGreatDoorX37
import Derived.Test.YtkjnjmihfonilaaGreatDoorX31
import Derived.Test.YtkjnjmihfonilaaGreatDoorX34
import Derived.Test.YtkjnjmihfonilaaGreatDoorX32
import Derived.Test.YtkjnjmihfonilaaGreatDoorX23
import Derived.Test.YtkjnjmihfonilaaGreatDoorX02
import Derived.Test.YtkjnjmihfonilaaGreatDoorX11
import Derived.Test.YtkjnjmihfonilaaGreatDoorRows
import Derived.ProofKit
import Derived.LaidMore
import Derived.OpenShut
import Derived.Stop.Joined
import Derived.Stop.LaidErr
import Derived.Lib.LaidTab
import Derived.Deep.Matrix
namespace Go.Proofs.YtkjnjmihfonilaaGreatDoor
open Go.RowKit Go.Sort
theorem setCells_own {T : TypeId} {B g cap : Nat} : ∀ (vs : List Value) (o : Nat) (w : World) (xs : List Value), OwnV T B w g cap xs → ∃ ys, OwnV T B (w.setCells g o vs) g cap ys ∧ ys.length = xs.length ∧ (∀ i, i < o → ys[i]? = xs[i]?) ∧ w.grownBy (w.setCells g o vs) (some g)
  | [], o, w, xs, h => ⟨xs, h, rfl, fun _ _ => rfl, World.grownBy.refl _ _⟩
  | v :: vs, o, w, xs, h => by
    obtain ⟨h1, h2⟩ := h.set o v
    obtain ⟨ys, k1, k2, k3, k4⟩ := setCells_own vs (o + 1) _ _ h1
    exact ⟨ys, k1, by rw [k2, List.length_set], fun i hi => by rw [k3 i (by omega), List.getElem?_set_ne (by omega)], grown_trans h2 k4⟩
set_option maxRecDepth 100000 in
theorem rclone_any {w : World} {vx : Value} {x : List Int} (hx : RowR w vx x) (hn : 0 < x.length) (hl : x.length ≤ 1000000) :
    Calls Tryz.prog 97 #[vx] w fun e w' => ∃ g cap, e = .returned (slv g x.length cap) ∧ OwnV 3 w.heap.size w' g cap (is x) ∧ Ext w w' := by
  obtain ⟨sa, gb, go, cp, rfl, hcp, hS⟩ := hx
  obtain rfl := hS.addr (by rw [is_length]; exact hn)
  obtain ⟨s0, hs, hy0, hy1, hy2⟩ := info_parts Tryz.infoInt
  have HNews := Lib.hid (show ∀ (j : Nat) (u : Value), (is x)[j]? = some u → (w.alloc (.cells #[] 3)).cell? ((⟨gb, go, none⟩ : Addr).add j) = some u from fun j u hj => by
    have h2 := ((Ext.refl w).alloc (.cells #[] 3)).cell (hS.cell j u hj)
    simpa [Addr.add_lit] using h2)
  have HOne := Lib.hid (show ∀ u ∈ is x, u.oneCell' = true from fun u hu => by
    obtain ⟨y, _, rfl⟩ := List.mem_map.1 hu
    rfl)
  have hO : OwnV 3 w.heap.size (w.alloc (.cells #[] 3)) w.heap.size 0 [] := OwnV.of (Nat.le_refl _) (heap_new _ _) (Nat.le_refl _) (Nat.zero_le _) rfl rfl
  have HO := Lib.hid hO
  have hE := (Ext.refl w).alloc (.cells #[] 3)
  have knil := fun (w : World) (a : Option Addr) (n c : Nat) => Lib.run_eql_slice_nil (P := Tryz.prog) w 26 3 a n c 0 0 Tryz.underlying26
  clear hO hS
  go_enter Tryz.func97, Tryz.ntmps97
  go_wp2_with (at_builtin; refine wpList_append_lies _ rfl _ _ 26 rfl w.heap.size 3 s0 _ 1 8 Tryz.underlying26 hs hy0 hy1 hy2 rfl (by omega) (slv w.heap.size 0 0) 0 [] rfl HO.out ⟨gb, go, none⟩ x.length cp (is x) rfl (by rw [is_length]; omega) HNews.out HOne.out hn (by unfold maxLen; omega) (by omega) (by simp) (w.heap.size + 1) (by simp) ?_; intro gg cap6 w6 hown6 hgrow6 hat6 hlt6)
  have hE6 : Ext w w6 := Ext.mk' (Below.grown hE hgrow6 hE.size (fun q hq => (World.ownsRow.lt HO.out q hq).1))
  have HR := Lib.hid (show OwnV 3 w.heap.size w6 gg cap6 (is x) by
    unfold OwnV; rw [is_length]; simpa using hown6)
  clear hown6 hgrow6 hat6 hlt6
  go_wp2_with fail
  go_ret
  exact ⟨gg, cap6, by simp, HR.out, hE6⟩
theorem oneC_any (z : Int) (w : World) : Calls Tryz.prog 98 #[.int .i64 z] w fun e w' => e = .returned (.bool (decide (z = 1))) ∧ Ext w w' := by
  by_cases h : z = 1
  · subst h
    go_enter Tryz.func98, Tryz.ntmps98
    go_wp2
    go_ret
    exact ⟨rfl, Ext.refl _⟩
  · have hb : decide (z = 1) = false := decide_eq_false h
    rw [hb]
    have h1 : (z == 1) = false := beq_eq_false_iff_ne.2 h
    clear hb
    go_enter Tryz.func98, Tryz.ntmps98
    go_wp2
    go_ret
    exact ⟨rfl, Ext.refl _⟩
def not1 (l : List Int) : List Int := l.filter fun z => !decide (z = 1)
theorem not1_snoc {l : List Int} {j : Nat} (h : j < l.length) : not1 (l.take (j + 1)) = if l[j] = 1 then not1 (l.take j) else not1 (l.take j) ++ [l[j]] := by
  unfold not1
  rw [List.take_succ_eq_append_getElem h, List.filter_append]
  by_cases hz : l[j] = 1
  · rw [if_pos hz, List.filter_cons_of_neg (by simp [hz])]; simp
  · rw [if_neg hz, List.filter_cons_of_pos (by simp [hz])]; simp
theorem not1_all {l : List Int} (h : ∀ i (hi : i < l.length), l[i] ≠ 1) : not1 l = l := List.filter_eq_self.2 fun z hz => by
  obtain ⟨i, hi, rfl⟩ := List.getElem_of_mem hz
  simp [h i hi]
set_option maxRecDepth 100000 in
set_option maxHeartbeats 2000000 in
theorem delete_any {w : World} {B g cap : Nat} {l : List Int} (hO : OwnV 3 B w g cap (is l)) (hl : l.length ≤ 1000000) :
    Calls Tryz.prog 96 #[slv g l.length cap, .func (.func 98) #[] #[]] w fun e w' => e = .returned (slv g (not1 l).length cap) ∧ OwnV 3 B w' g cap (is (not1 l)) ∧ w.grownBy w' (some g) := by
  obtain ⟨k, hk⟩ := IxR_ex (fun i => decide (l.getD i 0 = 1)) l.length
  have hix := index_one (cap := cap) (p := fun i => decide (l.getD i 0 = 1)) (k := k) (w := w) hO.sl (by rw [is_length]; exact hl) (fun i hi W hW => by
    have hi' : i < l.length := by simpa using hi
    have e : (is l)[i] = .int .i64 (l.getD i 0) := by rw [getD_get hi']; simp [is]
    rw [e]; exact oneC_any _ W) (by rw [is_length]; exact hk)
  rw [is_length] at hix
  have Hix := Lib.hid hix
  have HO := Lib.hid hO
  have hgc := hO.cap
  rw [is_length] at hgc
  clear hix hO
  rcases hk with ⟨rfl, hno⟩ | ⟨i0, hi0, rfl, hp0, hb0⟩
  · have Hn := Lib.hid (not1_all (l := l) (fun i hi h => by have := hno i hi; dsimp only at this; rw [getD_get hi, h] at this; simp at this))
    rw [Hn.out]
    clear hno
    go_enter Tryz.func96, Tryz.ntmps96
    go_wp2_with fail
    refine Hix.out.mono ?_
    rintro e W ⟨rfl, hW⟩
    go_wp2_with fail
    go_ret
    exact ⟨rfl, HO.out.ext hW, grown_ext hW _⟩
  · have Hl0 := Lib.hid (show l[i0] = 1 by dsimp only at hp0; rw [getD_get hi0] at hp0; exact of_decide_eq_true hp0)
    have hst0 : not1 (l.take (i0 + 1)) = l.take i0 := by
      rw [not1_snoc hi0, if_pos Hl0.out]
      refine not1_all fun t ht => ?_
      have ht2 : t < i0 := by rw [List.length_take] at ht; omega
      rw [List.getElem_take]
      intro h
      have := hb0 t ht2
      dsimp only at this
      rw [getD_get (by omega), h] at this; simp at this
    have Hst0 := Lib.hid hst0
    have hne : ((i0 : Int) == -1) = false := beq_eq_false_iff_ne.2 (by omega)
    have hne2 : ¬ (i0 : Int) = -1 := by omega
    obtain ⟨n, hn⟩ : ∃ n, n = l.length := ⟨_, rfl⟩
    have Hn := Lib.hid hn
    rw [← hn] at Hix hgc hi0 hl ⊢
    clear hp0 hb0 hst0 hn
    go_enter Tryz.func96, Tryz.ntmps96
    go_wp2_with fail
    refine Hix.out.mono ?_
    rintro e W1 ⟨rfl, hW1⟩
    clear Hix
    go_wp2_with fail
    go_loopw [5, 6] (fun iv jv wr => ∃ (i j : Nat) (xs : List Int), j ≤ n ∧ i < j ∧ iv = .int .i64 i ∧ jv = .int .i64 j ∧ Hid (i = (not1 (l.take j)).length) ∧ Hid (OwnV 3 B wr g cap (is xs)) ∧ Hid (xs.length = n) ∧ Hid (xs.take i = not1 (l.take j)) ∧ Hid (∀ t, j ≤ t → xs[t]? = l[t]?) ∧ Hid (w.grownBy wr (some g))) (fun _ jv _ => n - (intOf jv).toNat)
    case atStart => exact ⟨i0, i0 + 1, l, by omega, by omega, rfl, by go_num, Lib.hid (by rw [Hst0.out, List.length_take, ← Hn.out]; omega), Lib.hid (HO.out.ext hW1), Lib.hid Hn.out.symm, Lib.hid Hst0.out.symm, Lib.hid (fun t _ => rfl), Lib.hid (grown_ext hW1 _)⟩
    case round =>
      obtain ⟨i, j, xs, hj, hij, rfl, rfl, hi, hOx, hxl, hxt, hxd, hG⟩ := hrel
      generalize wr = X at *
      by_cases hjl : j < n
      · have hjI : (j : Int) < (n : Int) := by omega
        have hiI : (i : Int) < (n : Int) := by omega
        have hjL : j < l.length := by rw [← Hn.out]; exact hjl
        obtain ⟨z, hz⟩ : ∃ z, z = l[j] := ⟨_, rfl⟩
        have hxj : j < xs.length := by rw [hxl.out]; exact hjl
        have hc := hOx.out.cell (j := j) (by rw [is_length]; exact hxj)
        have hxz : (is xs)[j]'(by rw [is_length]; exact hxj) = .int .i64 z := by
          have h1 := hxd.out j (Nat.le_refl _)
          rw [List.getElem?_eq_getElem hxj, List.getElem?_eq_getElem hjL] at h1
          simp only [is, List.getElem_map]
          rw [Option.some.inj h1, hz]
        rw [hxz] at hc
        have Hsn := Lib.hid (not1_snoc hjL)
        rw [← hz] at Hsn
        have Ho := Lib.hid (oneC_any z X)
        clear hz hxz hxj
        by_cases hz1 : z = 1
        · have hd : decide (z = 1) = true := decide_eq_true hz1
          rw [hd] at Ho
          rw [if_pos hz1] at Hsn
          clear hd hz1
          go_wp2_with fail
          refine Ho.out.mono ?_
          rintro e W ⟨rfl, hW⟩
          go_wp2_with fail
          go_roundw
          case rel => exact ⟨i, j + 1, xs, by omega, by omega, rfl, by go_num, Lib.hid (by rw [Hsn.out]; exact hi.out), Lib.hid (hOx.out.ext hW), hxl, Lib.hid (by rw [Hsn.out]; exact hxt.out), Lib.hid (fun t ht => hxd.out t (by omega)), Lib.hid (grown_trans hG.out (grown_ext hW _))⟩
          case measure => simp [intOf] <;> omega
        · have hd : decide (z = 1) = false := decide_eq_false hz1
          rw [hd] at Ho
          rw [if_neg hz1] at Hsn
          clear hd hz1
          go_wp2_with fail
          refine Ho.out.mono ?_
          rintro e W ⟨rfl, hW⟩
          have fi := (hOx.out.ext hW).frozen i
          have hci := (hOx.out.ext hW).cell (j := i) (by rw [is_length, hxl.out]; omega)
          obtain ⟨hO6, hG6⟩ := (hOx.out.ext hW).set i (.int .i64 z)
          rw [← is_set] at hO6
          have HO6 := Lib.hid hO6
          have HG6 := Lib.hid (grown_trans hG.out (grown_trans (grown_ext hW (some g)) hG6))
          have Ht := Lib.hid (show (xs.set i z).take (i + 1) = not1 (l.take (j + 1)) by
            rw [Hsn.out, ← hxt.out, List.take_succ_eq_append_getElem (by rw [List.length_set, hxl.out]; omega), List.getElem_set_self, List.take_set_of_le (Nat.le_refl _)])
          clear hO6 hG6
          go_wp2_with fail
          go_roundw
          case rel => exact ⟨i + 1, j + 1, xs.set i z, by omega, by omega, by go_num, by go_num, Lib.hid (by rw [Hsn.out, List.length_append, ← hi.out]; rfl), HO6, Lib.hid (by rw [List.length_set]; exact hxl.out), Ht, Lib.hid (fun t ht => by rw [List.getElem?_set_ne (by omega)]; exact hxd.out t (by omega)), HG6⟩
          case measure => simp [intOf] <;> omega
      · have hjn : j = n := by omega
        have hjI : ¬ (j : Int) < (n : Int) := by omega
        have hinI : (i : Int) ≤ (n : Int) := by omega
        have hicI : (i : Int) ≤ (cap : Int) := by omega
        have hcne : ¬ cap = i := by omega
        have hcne2 : ¬ cap - i = 0 := by omega
        have hT : l.take j = l := List.take_of_length_le (by rw [← Hn.out]; omega)
        rw [hT] at hi hxt
        subst hjn
        obtain ⟨i0', hi1, hi2, hi3, hi4⟩ := info_parts Tryz.infoInt
        have hclr := Lib.run_clear_slice (P := Tryz.prog) X 26 3 0 (.int .i64 0) Tryz.underlying26 (fun w => by simp [zeroValue, typeInfo, hi1, hi2, go_sem]) rfl rfl g i (j - i) (cap - i) (by omega) (fun t ht => by rw [hOx.out.cell (j := i + t) (by rw [is_length, hxl.out]; omega)]; rfl) (fun t ht => hOx.out.frozen _)
        obtain ⟨ys, hy1, hy2, hy3, hy4⟩ := setCells_own (List.replicate (j - i) (.int .i64 0)) i X _ hOx.out
        have Hres := Lib.hid (show OwnV 3 B (X.setCells g i (List.replicate (j - i) (.int .i64 0))) g cap (is (not1 l)) by
          have h1 := hy1.take i
          have e : ys.take i = is (not1 l) := by
            rw [← hxt.out]
            refine List.ext_getElem? fun t => ?_
            rw [List.getElem?_take]
            by_cases ht : t < i
            · rw [if_pos ht, hy3 t ht]
              simp only [is, List.getElem?_map, List.getElem?_take, if_pos ht]
            · rw [if_neg ht]
              simp only [is, List.getElem?_map, List.getElem?_take, if_neg ht]; rfl
          rw [e] at h1; exact h1)
        have HGr := Lib.hid (grown_trans hG.out hy4)
        have Hi2 := Lib.hid hi.out
        generalize hW9 : World.setCells X g i _ = W9 at *
        clear hW9 hy1 hy2 hy3 hy4 hi1 hi2 hi3 hi4 hOx hxt hxd hG hT
        go_wp2_with fail
        go_ret
        exact ⟨by rw [← Hi2.out]; rfl, Hres.out, HGr.out⟩
set_option maxRecDepth 100000 in
theorem group_ok {w : World} {v : Value} {M : Mx} {n : Nat} (hM : MatR w v M) (hck : checkM M = 0) (hn : n ≤ 12) (h0 : 0 < M.length) (hc : ncols M = n) :
    Calls Tryz.prog 94 #[v, .int .i64 n] w fun e w' => e = .returned (.int .i64 0) ∧ Ext w w' := by
  have hch := Lib.hid (tableCheck_any hM)
  rw [hck] at hch
  obtain ⟨sa, gb, go, cap, vs, rfl, hcap, hvl, hS, hr⟩ := hM
  obtain ⟨s0, c0, rfl, hrow⟩ := ncols_row hS hvl hr h0
  rw [hc] at hrow
  have hn0 : ¬ (n : Int) < 0 := by omega
  have hn12 : ¬ (12 : Int) < (n : Int) := by omega
  have hMp : (0 : Int) < (M.length : Int) := by omega
  clear hck hS hvl hr hcap hc hn
  go_enter Tryz.func94, Tryz.ntmps94
  go_wp2_with fail
  refine hch.out.mono ?_
  rintro e w1 ⟨rfl, hE1⟩
  have hrow1 := hE1.cell hrow
  go_wp2_with fail
  go_ret
  exact ⟨rfl, hE1⟩
def QuoPost (w : World) (c : Nat) (D : List Int) (e : Ending) (w' : World) : Prop :=
  (if smallB D then ∃ v, e = .returned (.tuple #[v, .int .i64 ((c : Int) - D.length), .int .i64 0]) ∧ RowV w.heap.size w' v (not1 D) else e = .returned (.tuple #[.slice none 0 0, .int .i64 0, .int .i64 4])) ∧ Ext w w'
set_option maxRecDepth 100000 in
set_option maxHeartbeats 2000000 in
theorem Quotient_any {w : World} {v : Value} {M : Mx} {c f rank E : Nat} {fin : Dg} (hM : MatR w v M) (hck : checkM M = 0) (h0 : 0 < M.length) (hc : c = ncols M) (hc0 : 0 < c)
    (hrun : runD E M.length c f 0 (startD M c) = some (rank, fin)) (hr0 : 0 < rank) (hr1 : rank ≤ M.length) (hr2 : rank ≤ c) (hb : BM E fin.a) (hE : 2 * (4 * E + 3) + 2 < LIM) (hE1 : 1 ≤ E) (hL : Laid w) :
    Calls Tryz.prog 54 #[v, .int .i64 c] w (QuoPost w c (diagL rank fin.a)) := by
  obtain ⟨hl12, hn12, hRt, hent⟩ := checkM_ok hck
  have hgr := Lib.hid (group_ok hM hck (by omega : c ≤ 12) h0 hc.symm)
  have hfc := Lib.hid (fun W (hW : Ext w W) => Factors_any (hM.ext hW) hck h0 hc hc0 hrun hr1 hr2 hb hE hE1 (hL.ext hW))
  obtain ⟨D, hD⟩ : ∃ D, D = diagL rank fin.a := ⟨_, rfl⟩
  have hDl : D.length = rank := by rw [hD, diagL_length]
  have hr12 : rank ≤ 12 := by omega
  have hcI : (c : Int) ≤ 12 := by omega
  rw [← hD] at hfc ⊢
  obtain ⟨sa, gb, go, cap, vs, rfl, hcap, hvl, hS, hr⟩ := hM
  have HDl := Lib.hid hDl
  clear hl12 hn12 hRt hent hck hrun hb hE hE1 hL hvl hS hr hcap hD hc hr1 hr2
  go_enter Tryz.func54, Tryz.ntmps54
  go_wp2_with fail
  refine hgr.out.mono ?_
  rintro e w1 ⟨rfl, hX1⟩
  clear hgr
  go_wp2_with fail
  refine (hfc.out _ hX1).mono ?_
  rintro e w2 ⟨hp, hX2⟩
  have hX12 := hX1.trans hX2
  clear hfc
  cases hs : smallB D
  · rw [if_neg (by rw [hs]; decide)] at hp
    subst hp
    have Hres := Lib.hid (show QuoPost w c D (.returned (.tuple #[.slice none 0 0, .int .i64 0, .int .i64 4])) w2 from ⟨by rw [if_neg (by rw [hs]; decide)], hX12⟩)
    clear hs
    go_wp2_with fail
    go_ret3
    exact Hres.out
  · rw [if_pos hs] at hp
    obtain ⟨rv, rfl, hrv⟩ := hp
    obtain ⟨ra, rb, ro, rc, rfl, hrc, hrS⟩ := hrv.row
    have hrow := hrv.row
    rw [hDl] at hrow ⊢
    have hcl := Lib.hid (rclone_any hrow (by omega) (by omega))
    rw [hDl] at hcl
    have hrI : (rank : Int) ≤ 12 := by omega
    have hrI0 : (0 : Int) < (rank : Int) := by omega
    have hdel := Lib.hid (fun W g cap (hO : OwnV 3 w2.heap.size W g cap (is D)) => by
      have h1 := delete_any hO (by rw [HDl.out]; omega)
      rw [HDl.out] at h1
      exact h1)
    clear hrow hrv hrS hDl
    go_wp2_with fail
    refine hcl.out.mono ?_
    rintro e w3 ⟨g9, cap9, rfl, hO3, hX3⟩
    have hb3 := hO3.lt
    have Hd := Lib.hid (hdel.out _ _ _ hO3)
    clear hcl hdel hO3
    go_wp2_with fail
    refine Hd.out.mono ?_
    rintro e w4 ⟨rfl, hO4, hG4⟩
    have hX4 := ext_trans_grown (hX12.trans hX3) hG4 (by have := hX12.size; omega)
    have Hres := Lib.hid (show QuoPost w c D (.returned (.tuple #[slv g9 (not1 D).length cap9, .int .i64 ((c : Int) - rank), .int .i64 0])) w4 from ⟨by rw [if_pos hs, HDl.out]; exact ⟨_, rfl, (ownV_row hO4 rfl).mono hX12.size⟩, hX4⟩)
    clear hs hO4 hG4 Hd
    go_wp2_with fail
    go_ret3
    exact Hres.out
end Go.Proofs.YtkjnjmihfonilaaGreatDoor
namespace Go.Proofs.YtkjnjmihfonilaaGreatDoor
open Go.RowKit Go.Sort
def idM (r : Nat) : Mx := (List.range r).map (unitL r)
theorem id_run : ∀ r : Fin 5, 0 < r.val → ∃ a, runD 5 r.val r.val 40 0 (startD (idM r.val) r.val) = some (r.val, a) ∧ diagL r.val a.a = List.replicate r.val 1 ∧ BM 5 a.a := fun r h0 => by
  have h : ∀ r : Fin 5, 0 < r.val → ((runD 5 r.val r.val 40 0 (startD (idM r.val) r.val)).map fun p => (p.1, diagL r.val p.2.a, p.2.a.all fun r => r.all fun z => decide (z.natAbs < 2 ^ 5))) = some (r.val, List.replicate r.val 1, true) := by decide +kernel
  obtain ⟨⟨t, a⟩, h1, h2⟩ := Option.map_eq_some_iff.1 (h r h0)
  simp only [Prod.mk.injEq] at h2
  obtain ⟨rfl, h3, h4⟩ := h2
  refine ⟨a, h1, h3, fun r hr z hz => ?_⟩
  have := List.all_eq_true.1 (List.all_eq_true.1 h4 r hr) z hz
  exact of_decide_eq_true this
theorem id_chk : ∀ r : Fin 5, 0 < r.val → checkM (idM r.val) = 0 ∧ ncols (idM r.val) = r.val ∧ (idM r.val).length = r.val := by decide +kernel
theorem id_not1 : ∀ r : Fin 5, not1 (List.replicate r.val 1) = [] ∧ smallB (List.replicate r.val 1) = true := by decide +kernel
theorem sec_id {n : Nat} {C M S : Mx} (h : SecOK n C M S) : S.map (tmpL M) = idM M.length := by
  refine List.ext_getElem (by simp [idM, h.len]) fun i h1 h2 => ?_
  have hi : i < S.length := by simpa using h1
  simp only [idM, List.getElem_map, List.getElem_range]
  exact (h.row i hi).2.1
theorem quo_id {w : World} {v : Value} {r : Nat} (hr0 : 0 < r) (hr4 : r ≤ 4) (hM : MatR w v (idM r)) (hL : Laid w) :
    Calls Tryz.prog 54 #[v, .int .i64 r] w fun e w' => (∃ s c, e = .returned (.tuple #[.slice s 0 c, .int .i64 0, .int .i64 0])) ∧ Ext w w' := by
  obtain ⟨k1, k2, k3⟩ := id_chk ⟨r, by omega⟩ hr0
  obtain ⟨a, h1, h2, h3⟩ := id_run ⟨r, by omega⟩ hr0
  obtain ⟨n1, n2⟩ := id_not1 ⟨r, by omega⟩
  simp only at k1 k2 k3 h1 h2 n1 n2
  have h := Quotient_any (E := 5) (f := 40) (c := r) (rank := r) (fin := a) hM k1 (by omega) k2.symm hr0 (by rw [k3]; exact h1) hr0 (by omega) (Nat.le_refl _) h3 (by unfold LIM; omega) (by omega) hL
  refine h.mono fun e w' hq => ?_
  obtain ⟨hq, hE⟩ := hq
  rw [h2, n2, if_pos rfl, n1] at hq
  obtain ⟨u, rfl, hu⟩ := hq
  obtain ⟨s, _, _, c, e1, _⟩ := hu.row
  refine ⟨⟨s, c, ?_⟩, hE⟩
  rw [e1, List.length_replicate]
  simp
set_option maxRecDepth 100000 in
theorem gGenerates_sec {w : World} {P : List Int} {C M : Mx} {sp : Option Addr} {cp : Nat} {sc : Option Addr} {lc cc : Nat} {sm : Option Addr} {lm cm : Nat} {sl : Option Addr} {nl cl : Nat} {S : Mx} (h : TmV w P C M M sp cp sc lc cc sm lm cm) (hl : MatR w (.slice sl nl cl) S) (hS : SecOK P.length C M S) (hL : Laid w) :
    Calls Tryz.prog 26 #[tmS P sp cp sc lc cc sm lm cm, .slice sl nl cl] w fun e w' => e = .returned (.tuple #[.bool true, .int .i64 0]) ∧ Ext w w' := by
  obtain ⟨psM, hIM⟩ := h.ok.kM.1
  have hlM := isH_len hIM
  have hp4 := h.ok.p4
  have hbg : ∀ j (hj : j < S.length), bgE P.length S[j] = 0 := fun j hj => by
    obtain ⟨a, _, _, d⟩ := hS.row j hj
    unfold bgE
    rw [if_pos (small_chk (smallB_iff.2 d) (by omega)), if_pos a]
  have hls : lsE P.length S = 0 := by
    unfold lsE
    rw [if_pos (fbE_none hbg), if_neg (by rw [hS.len]; omega)]
  have hal : allS M S = true := allS_yes fun i hi => by
    rw [(hS.row i hi).2.1]
    unfold unitL
    refine smallB_iff.2 fun z hz => ?_
    rcases List.mem_or_eq_of_mem_set hz with h | h
    · have := (List.mem_replicate.1 h).2; omega
    · omega
  have hg := gGenerates_u (free := 0) (fl := 0) h hl hL hls hal (by rw [hS.len]; omega) (fun h0 W v hW hv => by
    rw [sec_id hS] at hv
    exact quo_id h0 (by omega) hv (hL.ext hW))
  have e : gnB M.length 0 0 = true := by unfold gnB; exact decide_eq_true (.inr ⟨rfl, rfl⟩)
  rw [e] at hg
  exact hg
end Go.Proofs.YtkjnjmihfonilaaGreatDoor
namespace Go.Proofs.YtkjnjmihfonilaaGreatDoor
open Go.RowKit Go.Sort
theorem sec_bg {n : Nat} {C M S : Mx} (h : SecOK n C M S) (hn : n ≤ 4) {i : Nat} (hi : i < S.length) : bgE n S[i] = 0 := by
  obtain ⟨a, _, _, d⟩ := h.row i hi
  unfold bgE
  rw [if_pos (small_chk (smallB_iff.2 d) (by omega)), if_pos a]
theorem unitL_small (r i : Nat) : smallB (unitL r i) = true := by
  unfold unitL
  refine smallB_iff.2 fun z hz => ?_
  rcases List.mem_or_eq_of_mem_set hz with h | h
  · have := (List.mem_replicate.1 h).2; omega
  · omega
set_option maxRecDepth 100000 in
set_option maxHeartbeats 8000000 in
theorem scs_walk {w : World} {b : Int} {rv : Value} {Z : List (List Int)} {vals : Bool} (hb : 0 ≤ b ∧ b ≤ 255) (hR : RowsA w rv Z) (hL : Laid w) :
    Calls Tryz.prog 6 #[.agg #[.int .u8 b, rv, .bool vals]] w fun e w' => e = .returned (.bool true) ∧ Ext w w' := by
  have hkn := Lib.hid (fun W (hW : Ext w W) => known20_any (hL.ext hW))
  have hft := Lib.hid (fun W (hW : Ext w W) => fits18_any (b := b) (vals := vals) (hR.ext hW))
  have hmk := Lib.hid (fun W (hW : Ext w W) (h3 : Z.length ≤ 3) => make18_any (vals := vals) hb (hR.ext hW) h3 (hL.ext hW))
  have HL := Lib.hid hL
  obtain ⟨sa, gb, go, cap, rfl, k1, k2, k3, k4⟩ := id hR
  clear k1 k2 k3 k4
  obtain ⟨rz, hrz⟩ : ∃ rz, rz = Z.length := ⟨_, rfl⟩
  rw [← hrz] at hft hmk ⊢
  have hX := (Ext.refl w).alloc (.cells #[.int .u8 b, .slice sa rz cap, .bool vals] 24)
  have p0 : (w.alloc (.cells #[.int .u8 b, .slice sa rz cap, .bool vals] 24)).cell? ⟨w.heap.size, 0, none⟩ = some (.int .u8 b) := by go_simp
  have p1 : (w.alloc (.cells #[.int .u8 b, .slice sa rz cap, .bool vals] 24)).cell? ⟨w.heap.size, 1, none⟩ = some (.slice sa rz cap) := by go_simp
  have p2 : (w.alloc (.cells #[.int .u8 b, .slice sa rz cap, .bool vals] 24)).cell? ⟨w.heap.size, 2, none⟩ = some (.bool vals) := by go_simp
  clear hrz hb hR hL
  by_cases hz3 : rz ≤ 3
  · rw [decide_eq_true hz3] at hft
    replace hmk := Lib.hid (fun W hW => hmk.out W hW hz3)
    clear hz3
    go_enter Tryz.func6, Tryz.ntmps6
    go_wp2_with fail
    refine (hkn.out _ hX).mono ?_
    rintro e X ⟨rfl, hE1⟩
    have p0 := hE1.cell p0
    have p1 := hE1.cell p1
    have p2 := hE1.cell p2
    have e1 := hX.trans hE1
    clear hE1
    go_wp2_with fail
    refine (hft.out _ e1).mono ?_
    rintro e X2 ⟨rfl, hE2⟩
    have p0 := hE2.cell p0
    have p1 := hE2.cell p1
    have p2 := hE2.cell p2
    have e2 := e1.trans hE2
    clear hE2
    go_wp2_with fail
    refine (hmk.out _ e2).mono ?_
    rintro e X4 ⟨t, C, M, rfl, ht, hE3⟩
    have e4 := e2.trans hE3
    generalize prL b = P at *
    obtain ⟨sp, cp, sc, lc, cc, sm, lm, cm, rfl, hT⟩ := ht.open
    have hml : lm = M.length := by obtain ⟨_, _, _, _, _, e, _⟩ := hT.hM; injection e
    subst hml
    have hp4 := hT.ok.p4
    obtain ⟨psM, hIM⟩ := hT.ok.kM.1
    have hlM : M.length ≤ 4 := by have := isH_len hIM; omega
    have ea := (Ext.refl X4).alloc (.cells #[.slice sp P.length cp, .slice sc lc cc, .slice sm M.length cm] 34)
    have e5 := e4.alloc (.cells #[.slice sp P.length cp, .slice sc lc cc, .slice sm M.length cm] 34)
    have t0 : (X4.alloc (.cells #[.slice sp P.length cp, .slice sc lc cc, .slice sm M.length cm] 34)).cell? ⟨X4.heap.size, 0, none⟩ = some (.slice sp P.length cp) := by go_simp
    have t1 : (X4.alloc (.cells #[.slice sp P.length cp, .slice sc lc cc, .slice sm M.length cm] 34)).cell? ⟨X4.heap.size, 1, none⟩ = some (.slice sc lc cc) := by go_simp
    have t2 : (X4.alloc (.cells #[.slice sp P.length cp, .slice sc lc cc, .slice sm M.length cm] 34)).cell? ⟨X4.heap.size, 2, none⟩ = some (.slice sm M.length cm) := by go_simp
    have HT4 := Lib.hid (hT.ext ea)
    have hse := Lib.hid (gSection_any HT4.out (HL.out.ext e5))
    have hte := Lib.hid (fun W s m c (y : List Int) (hW : Ext (X4.alloc (.cells #[.slice sp P.length cp, .slice sc lc cc, .slice sm M.length cm] 34)) W) (hy : RowR W (.slice s m c) y) => Temper_any (HT4.out.ext hW) hy (HL.out.ext (e5.trans hW)))
    have hre := Lib.hid (fun W s m c (y : List Int) (hW : Ext (X4.alloc (.cells #[.slice sp P.length cp, .slice sc lc cc, .slice sm M.length cm] 34)) W) (hy : RowR W (.slice s m c) y) (hb : bgE P.length y = 0) => tRepresent_ok (HT4.out.ext hW) hy hb (HL.out.ext (e5.trans hW)))
    have hgn := Lib.hid (fun W s m c (S : Mx) (hW : Ext (X4.alloc (.cells #[.slice sp P.length cp, .slice sc lc cc, .slice sm M.length cm] 34)) W) (hS : MatR W (.slice s m c) S) (hO : SecOK P.length C M S) => gGenerates_sec (HT4.out.ext hW) hS hO (HL.out.ext (e5.trans hW)))
    have hsa := Lib.hid (fun W va vb (u v : List Int) (ha : RowR W va u) (hb : RowR W vb v) (hl : u.length ≤ 1000000) => Same_any ha hb hl)
    clear ht hE3 hmk hft hkn p0 p1 p2 e1 e2 hX hT hIM
    go_wp2_with fail
    refine hse.out.mono ?_
    intro e Y2 h
    obtain ⟨hF2, s2, m2, c2, fc, S, rfl, hS, hS2⟩ := sec_sym h
    replace t0 := hF2.cell t0
    replace t1 := hF2.cell t1
    replace t2 := hF2.cell t2
    have HS2 := Lib.hid hS2
    have HSM := Lib.hid hS
    obtain ⟨_, gS, oS, cS, vs, eS, hcS, hvl, hSS, hrw⟩ := id hS
    injection eS with u1 u4 u3
    subst u1 u3
    have HSS := Lib.hid hSS
    have HVl := Lib.hid hvl
    have Hrw := Lib.hid hrw
    clear h hse hS hS2 hSS hvl hrw hcS
    rcases HS2.out with ⟨hfc, hSo⟩ | ⟨hfc, hSn⟩
    rotate_left
    · subst hfc
      have hm0 : m2 = 0 := by rw [u4, hSn]; rfl
      subst hm0
      clear u4 HS2
      have eF := e5.trans hF2
      go_wp2_with fail
      go_ret
      exact ⟨rfl, eF⟩
    · subst hfc
      have hSlen : S.length = M.length := hSo.len
      rw [hSlen] at u4
      subst u4
      have HSl := Lib.hid hSlen
      have HSo := Lib.hid hSo
      have hMM : ((M.length : Int) != (M.length : Int)) = false := by simp
      have hMM2 : ((M.length : Int) == (M.length : Int)) = true := by simp
      generalize X4.heap.size = bt at *
      clear hSlen hSo HS2
      go_wp2_with fail
      go_loopw [6] (fun idx wr => ∃ i : Nat, i ≤ M.length ∧ idx = .int .i64 i ∧ Ext Y2 wr) (fun idx _ => M.length - (intOf idx).toNat)
      case atStart => exact ⟨0, by omega, by go_num, Ext.refl _⟩
      case round =>
        obtain ⟨i, hiM, rfl, hE⟩ := hrel
        generalize wr = U at *
        replace t0 := hE.cell t0
        replace t1 := hE.cell t1
        replace t2 := hE.cell t2
        have g2 := hF2.trans hE
        by_cases hlt : i < M.length
        · have hii : (i : Int) < (M.length : Int) := by omega
          have hiS : i < S.length := by rw [HSl.out]; exact hlt
          obtain ⟨sr, br, or, cr, hrow, hrc, hSr⟩ := MatR.row HSS.out HVl.out Hrw.out hiS
          obtain ⟨s, hs⟩ : ∃ s, s = S[i] := ⟨_, rfl⟩
          have hro := HSo.out.row i hiS
          have hbg := sec_bg HSo.out hp4 hiS
          rw [← hs] at hrow hrc hSr hro hbg
          rw [hro.1] at hrow
          have hrU := hE.cell hrow
          have HRi := Lib.hid (show RowR U (.slice sr P.length cr) s from ⟨_, _, _, _, by rw [hro.1], hrc, hSr.ext hE⟩)
          have Hro := Lib.hid hro
          have hre1 := Lib.hid (fun W (hW : Ext U W) => hre.out W _ _ _ s (g2.trans hW) (HRi.out.ext hW) hbg)
          have hte1 := Lib.hid (fun W (hW : Ext U W) => hte.out W _ _ _ s (g2.trans hW) (HRi.out.ext hW))
          have Hbg := Lib.hid hbg
          obtain rfl := HSS.out.addr (by rw [HVl.out]; omega)
          clear hrow hrc hSr hro hbg hs hiS
          go_wp2_with fail
          have dd : Ext U U.drew := (Ext.refl U).drew
          refine wp_region_held_tail (S := fun W => Ext U W) 10 (by kernel_rfl) (by simp) ?_
          intro inv
          generalize U.drew = U1 at *
          refine wpAnyLH_take (i := 0) (v := tmS P sp cp sc lc cc sm M.length cm) rfl (by kernel_rfl) (fun _ _ _ h => h) (.inl ⟨by rfl, fun W hW => by have q0 := hW.cell t0; have q1 := hW.cell t1; have q2 := hW.cell t2; go_simp⟩) dd inv ?_
          intro inv
          go_simp
          refine wpAnyLH_take (i := 1) (v := .slice (some ⟨gS, oS, none⟩) M.length c2) rfl (by kernel_rfl) (fun _ _ _ h => h) (.inl ⟨by rfl, fun W hW => by go_simp⟩) dd inv ?_
          intro inv
          go_simp
          refine wpAnyLH_take (i := 2) (v := .int .i64 i) rfl (by kernel_rfl) (fun _ _ _ h => h) (.inl ⟨by rfl, fun W hW => by go_simp⟩) dd inv ?_
          intro inv
          go_simp
          refine wpAnyLH_take (i := 3) (v := .pointer (some ⟨gS, oS + i, none⟩)) rfl (by kernel_rfl) (fun _ _ _ h => h) (.inl ⟨by rfl, fun W hW => by go_simp⟩) dd inv ?_
          intro inv
          go_simp
          refine wpAnyLH_take (i := 4) (v := .slice sr P.length cr) rfl (by kernel_rfl) (fun _ _ _ h => h) (.inl ⟨by rfl, fun W hW => by have q0 := hW.cell hrU; go_simp⟩) dd inv ?_
          intro inv
          go_simp
          refine wpAnyLH_oneI (i := 5) rfl (by kernel_rfl) inv (fun inv K0 hK0 => ?_)
          go_simp
          refine (hre1.out _ dd).mono ?_
          rintro e U2 ⟨hG, (⟨_, v, rfl, hv⟩ | ⟨q, _⟩)⟩
          rotate_left
          · rw [Hro.out.2.2.1, smallB_iff.2 Hro.out.2.2.2] at q; cases q
          rw [Hro.out.2.2.1] at hv
          obtain ⟨va, _, _, vk, hve, _⟩ := id hv.row
          have Hv := Lib.hid hv.row
          subst hve
          rw [Hro.out.1] at Hv ⊢
          have d2 := dd.trans hG
          refine hK0 _ _ d2 ?_
          clear hK0 hv
          refine wpAnyLH_take (i := 6) (v := .tuple #[.slice va P.length vk, .int .i64 0]) rfl (by kernel_rfl) (fun _ _ _ h => h) (.inl ⟨by rfl, fun W hW => by go_simp⟩) d2 inv ?_
          intro inv
          go_simp
          refine wpAnyLH_take (i := 7) (v := .slice va P.length vk) rfl (by kernel_rfl) (fun _ _ _ h => h) (.inl ⟨by rfl, fun W hW => by go_simp⟩) d2 inv ?_
          intro inv
          go_simp
          refine wpAnyLH_take (i := 8) (v := .int .i64 0) rfl (by kernel_rfl) (fun _ _ _ h => h) (.inl ⟨by rfl, fun W hW => by go_simp⟩) d2 inv ?_
          intro inv
          go_simp
          refine wpAnyLH_oneI (i := 9) rfl (by kernel_rfl) inv (fun inv K1 hK1 => ?_)
          go_simp
          refine hK1 _ _ d2 ?_
          clear hK1
          refine wpAnyLH_end (by kernel_rfl) ?_
          clear inv hG dd hre1
          replace t0 := d2.cell t0
          replace t1 := d2.cell t1
          replace t2 := d2.cell t2
          replace hrU := d2.cell hrU
          go_wp2_with fail
          have dd : Ext U2 U2.drew := (Ext.refl U2).drew
          refine wp_region_held_tail (S := fun W => Ext U2 W) 10 (by kernel_rfl) (by simp) ?_
          intro inv
          generalize U2.drew = U3 at *
          refine wpAnyLH_take (i := 0) (v := tmS P sp cp sc lc cc sm M.length cm) rfl (by kernel_rfl) (fun _ _ _ h => h) (.inl ⟨by rfl, fun W hW => by have q0 := hW.cell t0; have q1 := hW.cell t1; have q2 := hW.cell t2; go_simp⟩) dd inv ?_
          intro inv
          go_simp
          refine wpAnyLH_take (i := 1) (v := .slice (some ⟨gS, oS, none⟩) M.length c2) rfl (by kernel_rfl) (fun _ _ _ h => h) (.inl ⟨by rfl, fun W hW => by go_simp⟩) dd inv ?_
          intro inv
          go_simp
          refine wpAnyLH_take (i := 2) (v := .int .i64 i) rfl (by kernel_rfl) (fun _ _ _ h => h) (.inl ⟨by rfl, fun W hW => by go_simp⟩) dd inv ?_
          intro inv
          go_simp
          refine wpAnyLH_take (i := 3) (v := .pointer (some ⟨gS, oS + i, none⟩)) rfl (by kernel_rfl) (fun _ _ _ h => h) (.inl ⟨by rfl, fun W hW => by go_simp⟩) dd inv ?_
          intro inv
          go_simp
          refine wpAnyLH_take (i := 4) (v := .slice sr P.length cr) rfl (by kernel_rfl) (fun _ _ _ h => h) (.inl ⟨by rfl, fun W hW => by have q0 := hW.cell hrU; go_simp⟩) dd inv ?_
          intro inv
          go_simp
          refine wpAnyLH_oneI (i := 5) rfl (by kernel_rfl) inv (fun inv K0 hK0 => ?_)
          go_simp
          refine (hte1.out _ (d2.trans dd)).mono ?_
          rintro e U4 ⟨hG, (⟨_, _, v2, rfl, hv2⟩ | ⟨_, q, _⟩ | ⟨q, _⟩)⟩
          rotate_left
          · rw [Hro.out.2.1, unitL_small] at q; cases q
          · exact absurd Hbg.out q
          rw [Hro.out.2.1] at hv2
          obtain ⟨va2, gz, oz, vk2, hve2, _, hsz⟩ := id hv2.row
          have Hz := Lib.hid hsz
          subst hve2
          rw [unitL_length] at ⊢
          have d4 := dd.trans hG
          refine hK0 _ _ d4 ?_
          clear hK0 hv2 hsz
          refine wpAnyLH_take (i := 6) (v := .tuple #[.slice va2 M.length vk2, .int .i64 0]) rfl (by kernel_rfl) (fun _ _ _ h => h) (.inl ⟨by rfl, fun W hW => by go_simp⟩) d4 inv ?_
          intro inv
          go_simp
          refine wpAnyLH_take (i := 7) (v := .slice va2 M.length vk2) rfl (by kernel_rfl) (fun _ _ _ h => h) (.inl ⟨by rfl, fun W hW => by go_simp⟩) d4 inv ?_
          intro inv
          go_simp
          refine wpAnyLH_take (i := 8) (v := .int .i64 0) rfl (by kernel_rfl) (fun _ _ _ h => h) (.inl ⟨by rfl, fun W hW => by go_simp⟩) d4 inv ?_
          intro inv
          go_simp
          refine wpAnyLH_oneI (i := 9) rfl (by kernel_rfl) inv (fun inv K1 hK1 => ?_)
          go_simp
          refine hK1 _ _ d4 ?_
          clear hK1
          refine wpAnyLH_end (by kernel_rfl) ?_
          clear inv hG dd hte1
          replace t0 := d4.cell t0
          replace t1 := d4.cell t1
          replace t2 := d4.cell t2
          replace hrU := d4.cell hrU
          have hs1 := hsa.out U4 _ _ s s (Hv.out.ext d4) (HRi.out.ext (d2.trans d4)) (by rw [Hro.out.1]; omega)
          rw [decide_eq_true rfl] at hs1
          have Hs1 := Lib.hid hs1
          have hE4 := hE.trans (d2.trans d4)
          clear hs1
          go_wp2_with fail
          refine Hs1.out.mono ?_
          rintro e U5 ⟨rfl, hH⟩
          replace t0 := hH.cell t0
          replace t1 := hH.cell t1
          replace t2 := hH.cell t2
          have hE5 := hE4.trans hH
          have Hz5 := Lib.hid (Hz.out.ext hH)
          clear Hs1
          go_wp2_with fail
          go_loopw [11] (fun idx wr => ∃ j : Nat, j ≤ M.length ∧ idx = .int .i64 j ∧ Ext U5 wr) (fun idx _ => M.length - (intOf idx).toNat)
          case atStart => exact ⟨0, by omega, by go_num, Ext.refl _⟩
          case round =>
            obtain ⟨j, hj, rfl, hJ⟩ := hrel
            generalize wr = V at *
            by_cases hjl : j < M.length
            · have hji : (j : Int) < (M.length : Int) := by omega
              have hcz := (Hz5.out.ext hJ).cell j (.int .i64 ((unitL M.length i).getD j 0)) (by rw [getD_get (by rw [unitL_length]; exact hjl)]; exact is_get _)
              rw [unitL_getD hlt] at hcz
              obtain rfl := Hz5.out.addr (by rw [is_length, unitL_length]; omega)
              by_cases hij : j = i
              · subst hij
                rw [if_pos rfl] at hcz
                go_wp2_with fail
                go_roundw
                case rel => exact ⟨j + 1, by omega, by go_num, hJ⟩
                case measure => simp [intOf] <;> omega
              · rw [if_neg hij] at hcz
                have hIJ : ¬ (i : Int) = (j : Int) := by omega
                have hb1 : ((i : Int) == (j : Int)) = false := beq_eq_false_iff_ne.2 hIJ
                have hb2 : ((i : Int) != (j : Int)) = true := by simp [bne, hb1]
                go_wp2_with fail
                go_roundw
                case rel => exact ⟨j + 1, by omega, by go_num, hJ⟩
                case measure => simp [intOf] <;> omega
            · have hE6 := hE5.trans hJ
              go_wp2_with fail
              go_roundw
              case rel => exact ⟨i + 1, by omega, by go_num, hE6⟩
              case measure => simp [intOf] <;> omega
        · obtain rfl : i = M.length := by omega
          have hgn1 := Lib.hid (hgn.out U _ _ _ S g2 (HSM.out.ext hE) HSo.out)
          have eU := e5.trans g2
          go_wp2_with fail
          refine hgn1.out.mono ?_
          rintro e U2 ⟨rfl, hH⟩
          have eZ := eU.trans hH
          go_wp2_with fail
          go_ret
          exact ⟨rfl, eZ⟩
  · rw [decide_eq_false hz3] at hft
    clear hz3 hmk
    go_enter Tryz.func6, Tryz.ntmps6
    go_wp2_with fail
    refine (hkn.out _ hX).mono ?_
    rintro e X ⟨rfl, hE1⟩
    have p0 := hE1.cell p0
    have p1 := hE1.cell p1
    have p2 := hE1.cell p2
    have e1 := hX.trans hE1
    clear hE1
    go_wp2_with fail
    refine (hft.out _ e1).mono ?_
    rintro e X2 ⟨rfl, hE2⟩
    have e2 := e1.trans hE2
    go_wp2_with fail
    refine (hkn.out _ e2).mono ?_
    rintro e X4 ⟨rfl, hEk⟩
    go_wp2_with fail
    go_ret
    exact ⟨rfl, e2.trans hEk⟩
  end Go.Proofs.YtkjnjmihfonilaaGreatDoor
namespace Go.Proofs.YtkjnjmihfonilaaGreatDoor
open Go.ChangeShapes Go.WideShapes Go.ChangeAt Go.WideMaps Go.WideElems Go.RowKit Go.Deep
theorem fr_own : ownKnob Tryz.prog.godebug = none := by kernel_rfl
theorem fr_laidOut : laidOutB Tryz.prog = true := by kernel_rfl
theorem fr_pow : Tryz.prog.globalNamed "internal/strconv.uint64pow10" = some 2 := by kernel_rfl
theorem fr_powT : (Tryz.prog.globals[2]?).map (·.type) = some 260 := by kernel_rfl
theorem fr_rng : Tryz.prog.globalNamed "strconv.ErrRange" = some 1 := by kernel_rfl
theorem fr_rngT : (Tryz.prog.globals[1]?).map (·.type) = some 134 := by kernel_rfl
theorem fr_c20 : Tryz.prog.cellsOf 260 = 20 := by kernel_rfl
theorem fr_cu : Tryz.prog.cellsOf 126 = 1 := by kernel_rfl
theorem fr_cE : Tryz.prog.cellsOf 266 = 1 := by kernel_rfl
theorem fr_cS : Tryz.prog.cellsOf 9 = 1 := by kernel_rfl
theorem fr_star : "*" ++ "errors.errorString" = "*errors.errorString" := by decide
theorem fr_ptr (u : TypeId) (h : Tryz.prog.typeName? 3 u = some "*errors.errorString") : u = 264 :=
  typeName_ptr_named (nm := "errors.errorString") (by rw [fr_star]; kernel_rfl) (by kernel_rfl) (by decide) u (by rw [fr_star]; exact h)
abbrev fr_list : List (String × DataW Unit) := [("math/bits.deBruijn32tab", Rows.laid_math_bits_deBruijn32tab), ("math/bits.deBruijn64tab", Rows.laid_math_bits_deBruijn64tab), ("internal/strconv.uint64pow10", Rows.laid_internal_strconv_uint64pow10), ("strconv.ErrRange", Rows.laid_strconv_ErrRange), ("strconv.ErrSyntax", Rows.laid_strconv_ErrSyntax)]
theorem fr_tab : (Rows.laid_internal_strconv_uint64pow10 : DataW Unit) = Lib.tabData .u64 Lib.pow10Tab := by kernel_rfl
theorem laid_of {W : World} (h : laidMetH Tryz.prog fr_list W) : Laid W := by
  rw [MakeChecks.laidMetH_plain _ _ _ (by kernel_rfl)] at h
  have h3 := h.tail.tail
  rw [fr_tab] at h3
  refine ⟨Lib.tabIs_of_head fr_pow fr_powT Tryz.underlying260 Tryz.underlying126 fr_cu fr_c20 h3, ?_⟩
  obtain ⟨a, s, hv, _⟩ := laid_sentinel h3.tail fr_rng fr_rngT Tryz.underlying134 fr_ptr Tryz.underlying264 Tryz.underlying266 rfl rfl Tryz.underlying9 fr_cE fr_cS
  exact ⟨_, _, hv⟩
theorem door_met (os : Os) (args : Array Value) : laidMetH Tryz.prog fr_list ((World.doorLaid Tryz.prog 400 os).forCall (fun _ _ => 0) ⟨#[], args, []⟩).memory :=
  laidMetH_of_parts3 (fuel := 8) (laidMet_of_run' 8 (by kernel_rfl) (by kernel_rfl)) (by kernel_rfl) (by kernel_rfl)
end Go.Proofs.YtkjnjmihfonilaaGreatDoor
namespace Go.Proofs.YtkjnjmihfonilaaGreatDoor
open Go.ChangeShapes Go.WideShapes Go.ChangeAt Go.WideMaps Go.WideElems Go.RowKit Go.Deep
theorem fr_c8 : Tryz.prog.cellsOf 51 = 1 := by kernel_rfl
theorem take_one {l : List Value} {k : Nat} {x : Value} (h : (l.drop k).take 1 = [x]) : l[k]? = some x := by
  have := congrArg (·[0]?) h
  simpa [List.getElem?_take] using this
theorem i8_bounds {n : Int} (h : (Lit.int .i8 n).wf = true) : -128 ≤ n ∧ n ≤ 127 := by
  simp only [Lit.wf, Bool.and_eq_true, decide_eq_true_eq] at h
  have e1 : IntKind.i8.min = -128 := by rfl
  have e2 : IntKind.i8.max = 127 := by rfl
  omega
theorem u8_bounds {n : Int} (h : (Lit.int .u8 n).wf = true) : 0 ≤ n ∧ n ≤ 255 := by
  simp only [Lit.wf, Bool.and_eq_true, decide_eq_true_eq] at h
  have e1 : IntKind.u8.min = 0 := by rfl
  have e2 : IntKind.u8.max = 255 := by rfl
  omega
theorem i8_cells {H : Type} {enc : TypeId × Value → H} {W : World} {base : Nat} {sp : Nat → Bool} {held : Bool} {fuel n : Nat} {t : TypeId} {l : List Value} {x : DataW H × List MemPlace} (ht : Tryz.prog.underlying t = some (.array n 51))
    (h : DataW.trod enc Tryz.prog W base sp held fuel t l = some x) : ∀ j, j < n → ∃ z : Int, l[j]? = some (.int .i8 z) ∧ -128 ≤ z ∧ z ≤ 127 := by
  obtain ⟨xs, m, _, _, _, hxl, hx⟩ := DataW.trod_array ht h
  intro j hj
  have h1 := hx j hj
  rw [fr_c8, Nat.mul_one, List.getElem?_eq_getElem (by omega)] at h1
  obtain ⟨z, hz, _, hw⟩ := DataW.trod_int Tryz.underlying51 h1
  exact ⟨z, take_one hz, i8_bounds hw⟩
end Go.Proofs.YtkjnjmihfonilaaGreatDoor
