/- Part 28 of the proof of the claim: contracts of the functions that it reaches, and plain laws; no condition. -/
import Derived.Test.YtcklioolpicmcaaGreatDoorV27
import Derived.Test.YtcklioolpicmcaaGreatDoorV20
import Derived.BigQuiet
/- smith: Quotient; slices.Clone and slices.DeleteFunc of a row. -/
namespace Go.Proofs.YtcklioolpicmcaaGreatDoor
open Go.RowKit Go.Sort
theorem setCells_own {T : TypeId} {B g cap : Nat} : ∀ (vs : List Value) (o : Nat) (w : World) (xs : List Value), OwnV T B w g cap xs → ∃ ys, OwnV T B (w.setCells g o vs) g cap ys ∧ ys.length = xs.length ∧ (∀ i, i < o → ys[i]? = xs[i]?) ∧ w.grownBy (w.setCells g o vs) (some g)
  | [], o, w, xs, h => ⟨xs, h, rfl, fun _ _ => rfl, World.grownBy.refl _ _⟩
  | v :: vs, o, w, xs, h => by
    obtain ⟨h1, h2⟩ := h.set o v
    obtain ⟨ys, k1, k2, k3, k4⟩ := setCells_own vs (o + 1) _ _ h1
    exact ⟨ys, k1, by rw [k2, List.length_set], fun i hi => by rw [k3 i (by omega), List.getElem?_set_ne (by omega)], grown_trans h2 k4⟩
set_option maxRecDepth 100000 in
theorem rclone_any {w : World} {vx : Value} {x : List Int} (hx : RowR w vx x) (hn : 0 < x.length) (hl : x.length ≤ 1000000) :
    Calls Tryz.prog 82 #[vx] w fun e w' => ∃ g cap, e = .returned (slv g x.length cap) ∧ OwnV 3 w.heap.size w' g cap (is x) ∧ Ext w w' := by
  obtain ⟨sa, gb, go, cp, rfl, hcp, hS⟩ := hx
  obtain rfl := hS.addr (by rw [is_length]; exact hn)
  obtain ⟨s0, hs, hy0, hy1, hy2⟩ := info_parts Tryz.infoInt
  have HNews := Lib.hid (show ∀ (j : Nat) (u : Value), (is x)[j]? = some u → (w.alloc (.cells #[] 3)).cell? ((⟨gb, go, none⟩ : Addr).add j) = some u from fun j u hj => by
    have h2 := ((Ext.refl w).alloc (.cells #[] 3)).cell (hS.cell j u hj)
    simpa [Addr.add_lit] using h2)
  have HOne := Lib.hid (show ∀ u ∈ is x, u.oneCell' = true from fun u hu => by
    obtain ⟨y, _, rfl⟩ := List.mem_map.1 hu
    rfl)
  have hO : OwnV 3 w.heap.size (w.alloc (.cells #[] 3)) w.heap.size 0 [] := OwnV.of (Nat.le_refl _) (heap_new _ _) (Nat.le_refl _) (Nat.zero_le _) rfl rfl
  have HO := Lib.hid hO
  have hE := (Ext.refl w).alloc (.cells #[] 3)
  have knil := fun (w : World) (a : Option Addr) (n c : Nat) => Lib.run_eql_slice_nil (P := Tryz.prog) w 32 3 a n c 0 0 Tryz.underlying32
  clear hO hS
  go_enter Tryz.func82, Tryz.ntmps82
  go_wp2_with (at_builtin; refine wpList_append_lies _ rfl _ _ 32 rfl w.heap.size 3 s0 _ 1 8 Tryz.underlying32 hs hy0 hy1 hy2 rfl (by omega) (slv w.heap.size 0 0) 0 [] rfl HO.out ⟨gb, go, none⟩ x.length cp (is x) rfl (by rw [is_length]; omega) HNews.out HOne.out hn (by unfold maxLen; omega) (by omega) (by simp) (w.heap.size + 1) (by simp) ?_; intro gg cap6 w6 hown6 hgrow6 hat6 hlt6)
  have hE6 : Ext w w6 := Ext.mk' (Below.grown hE hgrow6 hE.size (fun q hq => (World.ownsRow.lt HO.out q hq).1))
  have HR := Lib.hid (show OwnV 3 w.heap.size w6 gg cap6 (is x) by
    unfold OwnV; rw [is_length]; simpa using hown6)
  clear hown6 hgrow6 hat6 hlt6
  go_wp2_with fail
  go_ret
  exact ⟨gg, cap6, by simp, HR.out, hE6⟩
theorem oneC_any (z : Int) (w : World) : Calls Tryz.prog 83 #[.int .i64 z] w fun e w' => e = .returned (.bool (decide (z = 1))) ∧ Ext w w' := by
  by_cases h : z = 1
  · subst h
    go_enter Tryz.func83, Tryz.ntmps83
    go_wp2
    go_ret
    exact ⟨rfl, Ext.refl _⟩
  · have hb : decide (z = 1) = false := decide_eq_false h
    rw [hb]
    have h1 : (z == 1) = false := beq_eq_false_iff_ne.2 h
    clear hb
    go_enter Tryz.func83, Tryz.ntmps83
    go_wp2
    go_ret
    exact ⟨rfl, Ext.refl _⟩
/-- The elements that are not 1. -/
def not1 (l : List Int) : List Int := l.filter fun z => !decide (z = 1)
theorem not1_snoc {l : List Int} {j : Nat} (h : j < l.length) : not1 (l.take (j + 1)) = if l[j] = 1 then not1 (l.take j) else not1 (l.take j) ++ [l[j]] := by
  unfold not1
  rw [List.take_succ_eq_append_getElem h, List.filter_append]
  by_cases hz : l[j] = 1
  · rw [if_pos hz, List.filter_cons_of_neg (by simp [hz])]; simp
  · rw [if_neg hz, List.filter_cons_of_pos (by simp [hz])]; simp
theorem not1_len (l : List Int) : (not1 l).length ≤ l.length := List.length_filter_le _ _
theorem not1_all {l : List Int} (h : ∀ i (hi : i < l.length), l[i] ≠ 1) : not1 l = l := List.filter_eq_self.2 fun z hz => by
  obtain ⟨i, hi, rfl⟩ := List.getElem_of_mem hz
  simp [h i hi]
set_option maxRecDepth 100000 in
set_option maxHeartbeats 2000000 in
theorem delete_any {w : World} {B g cap : Nat} {l : List Int} (hO : OwnV 3 B w g cap (is l)) (hl : l.length ≤ 1000000) :
    Calls Tryz.prog 81 #[slv g l.length cap, .func (.func 83) #[] #[]] w fun e w' => e = .returned (slv g (not1 l).length cap) ∧ OwnV 3 B w' g cap (is (not1 l)) ∧ w.grownBy w' (some g) := by
  obtain ⟨k, hk⟩ := IxR_ex (fun i => decide (l.getD i 0 = 1)) l.length
  have hix := index_one (cap := cap) (p := fun i => decide (l.getD i 0 = 1)) (k := k) (w := w) hO.sl (by rw [is_length]; exact hl) (fun i hi W hW => by
    have hi' : i < l.length := by simpa using hi
    have e : (is l)[i] = .int .i64 (l.getD i 0) := by rw [getD_get hi']; simp [is]
    rw [e]; exact oneC_any _ W) (by rw [is_length]; exact hk)
  rw [is_length] at hix
  have Hix := Lib.hid hix
  have HO := Lib.hid hO
  have hgc := hO.cap
  rw [is_length] at hgc
  clear hix hO
  rcases hk with ⟨rfl, hno⟩ | ⟨i0, hi0, rfl, hp0, hb0⟩
  · have Hn := Lib.hid (not1_all (l := l) (fun i hi h => by have := hno i hi; dsimp only at this; rw [getD_get hi, h] at this; simp at this))
    rw [Hn.out]
    clear hno
    go_enter Tryz.func81, Tryz.ntmps81
    go_wp2_with fail
    refine Hix.out.mono ?_
    rintro e W ⟨rfl, hW⟩
    go_wp2_with fail
    go_ret
    exact ⟨rfl, HO.out.ext hW, grown_ext hW _⟩
  · have Hl0 := Lib.hid (show l[i0] = 1 by dsimp only at hp0; rw [getD_get hi0] at hp0; exact of_decide_eq_true hp0)
    have hst0 : not1 (l.take (i0 + 1)) = l.take i0 := by
      rw [not1_snoc hi0, if_pos Hl0.out]
      refine not1_all fun t ht => ?_
      have ht2 : t < i0 := by rw [List.length_take] at ht; omega
      rw [List.getElem_take]
      intro h
      have := hb0 t ht2
      dsimp only at this
      rw [getD_get (by omega), h] at this; simp at this
    have Hst0 := Lib.hid hst0
    have hne : ((i0 : Int) == -1) = false := beq_eq_false_iff_ne.2 (by omega)
    have hne2 : ¬ (i0 : Int) = -1 := by omega
    obtain ⟨n, hn⟩ : ∃ n, n = l.length := ⟨_, rfl⟩
    have Hn := Lib.hid hn
    rw [← hn] at Hix hgc hi0 hl ⊢
    clear hp0 hb0 hst0 hn
    go_enter Tryz.func81, Tryz.ntmps81
    go_wp2_with fail
    refine Hix.out.mono ?_
    rintro e W1 ⟨rfl, hW1⟩
    clear Hix
    go_wp2_with fail
    go_loopw [5, 6] (fun iv jv wr => ∃ (i j : Nat) (xs : List Int), j ≤ n ∧ i < j ∧ iv = .int .i64 i ∧ jv = .int .i64 j ∧ Hid (i = (not1 (l.take j)).length) ∧ Hid (OwnV 3 B wr g cap (is xs)) ∧ Hid (xs.length = n) ∧ Hid (xs.take i = not1 (l.take j)) ∧ Hid (∀ t, j ≤ t → xs[t]? = l[t]?) ∧ Hid (w.grownBy wr (some g))) (fun _ jv _ => n - (intOf jv).toNat)
    case atStart => exact ⟨i0, i0 + 1, l, by omega, by omega, rfl, by go_num, Lib.hid (by rw [Hst0.out, List.length_take, ← Hn.out]; omega), Lib.hid (HO.out.ext hW1), Lib.hid Hn.out.symm, Lib.hid Hst0.out.symm, Lib.hid (fun t _ => rfl), Lib.hid (grown_ext hW1 _)⟩
    case round =>
      obtain ⟨i, j, xs, hj, hij, rfl, rfl, hi, hOx, hxl, hxt, hxd, hG⟩ := hrel
      generalize wr = X at *
      by_cases hjl : j < n
      · have hjI : (j : Int) < (n : Int) := by omega
        have hiI : (i : Int) < (n : Int) := by omega
        have hjL : j < l.length := by rw [← Hn.out]; exact hjl
        obtain ⟨z, hz⟩ : ∃ z, z = l[j] := ⟨_, rfl⟩
        have hxj : j < xs.length := by rw [hxl.out]; exact hjl
        have hc := hOx.out.cell (j := j) (by rw [is_length]; exact hxj)
        have hxz : (is xs)[j]'(by rw [is_length]; exact hxj) = .int .i64 z := by
          have h1 := hxd.out j (Nat.le_refl _)
          rw [List.getElem?_eq_getElem hxj, List.getElem?_eq_getElem hjL] at h1
          simp only [is, List.getElem_map]
          rw [Option.some.inj h1, hz]
        rw [hxz] at hc
        have Hsn := Lib.hid (not1_snoc hjL)
        rw [← hz] at Hsn
        have Ho := Lib.hid (oneC_any z X)
        clear hz hxz hxj
        by_cases hz1 : z = 1
        · have hd : decide (z = 1) = true := decide_eq_true hz1
          rw [hd] at Ho
          rw [if_pos hz1] at Hsn
          clear hd hz1
          go_wp2_with fail
          refine Ho.out.mono ?_
          rintro e W ⟨rfl, hW⟩
          go_wp2_with fail
          go_roundw
          case rel => exact ⟨i, j + 1, xs, by omega, by omega, rfl, by go_num, Lib.hid (by rw [Hsn.out]; exact hi.out), Lib.hid (hOx.out.ext hW), hxl, Lib.hid (by rw [Hsn.out]; exact hxt.out), Lib.hid (fun t ht => hxd.out t (by omega)), Lib.hid (grown_trans hG.out (grown_ext hW _))⟩
          case measure => simp [intOf] <;> omega
        · have hd : decide (z = 1) = false := decide_eq_false hz1
          rw [hd] at Ho
          rw [if_neg hz1] at Hsn
          clear hd hz1
          go_wp2_with fail
          refine Ho.out.mono ?_
          rintro e W ⟨rfl, hW⟩
          have fi := (hOx.out.ext hW).frozen i
          have hci := (hOx.out.ext hW).cell (j := i) (by rw [is_length, hxl.out]; omega)
          obtain ⟨hO6, hG6⟩ := (hOx.out.ext hW).set i (.int .i64 z)
          rw [← is_set] at hO6
          have HO6 := Lib.hid hO6
          have HG6 := Lib.hid (grown_trans hG.out (grown_trans (grown_ext hW (some g)) hG6))
          have Ht := Lib.hid (show (xs.set i z).take (i + 1) = not1 (l.take (j + 1)) by
            rw [Hsn.out, ← hxt.out, List.take_succ_eq_append_getElem (by rw [List.length_set, hxl.out]; omega), List.getElem_set_self, List.take_set_of_le (Nat.le_refl _)])
          clear hO6 hG6
          go_wp2_with fail
          go_roundw
          case rel => exact ⟨i + 1, j + 1, xs.set i z, by omega, by omega, by go_num, by go_num, Lib.hid (by rw [Hsn.out, List.length_append, ← hi.out]; rfl), HO6, Lib.hid (by rw [List.length_set]; exact hxl.out), Ht, Lib.hid (fun t ht => by rw [List.getElem?_set_ne (by omega)]; exact hxd.out t (by omega)), HG6⟩
          case measure => simp [intOf] <;> omega
      · have hjn : j = n := by omega
        have hjI : ¬ (j : Int) < (n : Int) := by omega
        have hinI : (i : Int) ≤ (n : Int) := by omega
        have hicI : (i : Int) ≤ (cap : Int) := by omega
        have hcne : ¬ cap = i := by omega
        have hcne2 : ¬ cap - i = 0 := by omega
        have hT : l.take j = l := List.take_of_length_le (by rw [← Hn.out]; omega)
        rw [hT] at hi hxt
        subst hjn
        obtain ⟨i0', hi1, hi2, hi3, hi4⟩ := info_parts Tryz.infoInt
        have hclr := Lib.run_clear_slice (P := Tryz.prog) X 32 3 0 (.int .i64 0) Tryz.underlying32 (fun w => by simp [zeroValue, typeInfo, hi1, hi2, go_sem]) rfl rfl g i (j - i) (cap - i) (by omega) (fun t ht => by rw [hOx.out.cell (j := i + t) (by rw [is_length, hxl.out]; omega)]; rfl) (fun t ht => hOx.out.frozen _)
        obtain ⟨ys, hy1, hy2, hy3, hy4⟩ := setCells_own (List.replicate (j - i) (.int .i64 0)) i X _ hOx.out
        have Hres := Lib.hid (show OwnV 3 B (X.setCells g i (List.replicate (j - i) (.int .i64 0))) g cap (is (not1 l)) by
          have h1 := hy1.take i
          have e : ys.take i = is (not1 l) := by
            rw [← hxt.out]
            refine List.ext_getElem? fun t => ?_
            rw [List.getElem?_take]
            by_cases ht : t < i
            · rw [if_pos ht, hy3 t ht]
              simp only [is, List.getElem?_map, List.getElem?_take, if_pos ht]
            · rw [if_neg ht]
              simp only [is, List.getElem?_map, List.getElem?_take, if_neg ht]; rfl
          rw [e] at h1; exact h1)
        have HGr := Lib.hid (grown_trans hG.out hy4)
        have Hi2 := Lib.hid hi.out
        generalize hW9 : World.setCells X g i _ = W9 at *
        clear hW9 hy1 hy2 hy3 hy4 hi1 hi2 hi3 hi4 hOx hxt hxd hG hT
        go_wp2_with fail
        go_ret
        exact ⟨by rw [← Hi2.out]; rfl, Hres.out, HGr.out⟩
/-- The first error of a matrix with a number of columns. -/
def groupE (M : Mx) (n : Int) : Int := if checkM M = 0 then if n < 0 ∨ 12 < n then 3 else if 0 < M.length ∧ (ncols M : Int) ≠ n then 5 else 0 else checkM M
set_option maxRecDepth 100000 in
theorem group_ok {w : World} {v : Value} {M : Mx} {n : Nat} (hM : MatR w v M) (hck : checkM M = 0) (hn : n ≤ 12) (h0 : 0 < M.length) (hc : ncols M = n) :
    Calls Tryz.prog 80 #[v, .int .i64 n] w fun e w' => e = .returned (.int .i64 0) ∧ Ext w w' := by
  have hch := Lib.hid (tableCheck_any hM)
  rw [hck] at hch
  obtain ⟨sa, gb, go, cap, vs, rfl, hcap, hvl, hS, hr⟩ := hM
  obtain ⟨s0, c0, rfl, hrow⟩ := ncols_row hS hvl hr h0
  rw [hc] at hrow
  have hn0 : ¬ (n : Int) < 0 := by omega
  have hn12 : ¬ (12 : Int) < (n : Int) := by omega
  have hMp : (0 : Int) < (M.length : Int) := by omega
  clear hck hS hvl hr hcap hc hn
  go_enter Tryz.func80, Tryz.ntmps80
  go_wp2_with fail
  refine hch.out.mono ?_
  rintro e w1 ⟨rfl, hE1⟩
  have hrow1 := hE1.cell hrow
  go_wp2_with fail
  go_ret
  exact ⟨rfl, hE1⟩
def QuoPost (w : World) (c : Nat) (D : List Int) (e : Ending) (w' : World) : Prop :=
  (if smallB D then ∃ v, e = .returned (.tuple #[v, .int .i64 ((c : Int) - D.length), .int .i64 0]) ∧ RowV w.heap.size w' v (not1 D) else e = .returned (.tuple #[.slice none 0 0, .int .i64 0, .int .i64 4])) ∧ Ext w w'
set_option maxRecDepth 100000 in
set_option maxHeartbeats 2000000 in
theorem Quotient_any {w : World} {v : Value} {M : Mx} {c f rank E : Nat} {fin : Dg} (hM : MatR w v M) (hck : checkM M = 0) (h0 : 0 < M.length) (hc : c = ncols M) (hc0 : 0 < c)
    (hrun : runD E M.length c f 0 (startD M c) = some (rank, fin)) (hr0 : 0 < rank) (hr1 : rank ≤ M.length) (hr2 : rank ≤ c) (hb : BM E fin.a) (hE : 2 * (4 * E + 3) + 2 < LIM) (hE1 : 1 ≤ E) (hL : Laid w) :
    Calls Tryz.prog 27 #[v, .int .i64 c] w (QuoPost w c (diagL rank fin.a)) := by
  obtain ⟨hl12, hn12, hRt, hent⟩ := checkM_ok hck
  have hgr := Lib.hid (group_ok hM hck (by omega : c ≤ 12) h0 hc.symm)
  have hfc := Lib.hid (fun W (hW : Ext w W) => Factors_any (hM.ext hW) hck h0 hc hc0 hrun hr1 hr2 hb hE hE1 (hL.ext hW))
  obtain ⟨D, hD⟩ : ∃ D, D = diagL rank fin.a := ⟨_, rfl⟩
  have hDl : D.length = rank := by rw [hD, diagL_length]
  have hr12 : rank ≤ 12 := by omega
  have hcI : (c : Int) ≤ 12 := by omega
  rw [← hD] at hfc ⊢
  obtain ⟨sa, gb, go, cap, vs, rfl, hcap, hvl, hS, hr⟩ := hM
  have HDl := Lib.hid hDl
  clear hl12 hn12 hRt hent hck hrun hb hE hE1 hL hvl hS hr hcap hD hc hr1 hr2
  go_enter Tryz.func27, Tryz.ntmps27
  go_wp2_with fail
  refine hgr.out.mono ?_
  rintro e w1 ⟨rfl, hX1⟩
  clear hgr
  go_wp2_with fail
  refine (hfc.out _ hX1).mono ?_
  rintro e w2 ⟨hp, hX2⟩
  have hX12 := hX1.trans hX2
  clear hfc
  cases hs : smallB D
  · rw [if_neg (by rw [hs]; decide)] at hp
    subst hp
    have Hres := Lib.hid (show QuoPost w c D (.returned (.tuple #[.slice none 0 0, .int .i64 0, .int .i64 4])) w2 from ⟨by rw [if_neg (by rw [hs]; decide)], hX12⟩)
    clear hs
    go_wp2_with fail
    go_ret3
    exact Hres.out
  · rw [if_pos hs] at hp
    obtain ⟨rv, rfl, hrv⟩ := hp
    obtain ⟨ra, rb, ro, rc, rfl, hrc, hrS⟩ := hrv.row
    have hrow := hrv.row
    rw [hDl] at hrow ⊢
    have hcl := Lib.hid (rclone_any hrow (by omega) (by omega))
    rw [hDl] at hcl
    have hrI : (rank : Int) ≤ 12 := by omega
    have hrI0 : (0 : Int) < (rank : Int) := by omega
    have hdel := Lib.hid (fun W g cap (hO : OwnV 3 w2.heap.size W g cap (is D)) => by
      have h1 := delete_any hO (by rw [HDl.out]; omega)
      rw [HDl.out] at h1
      exact h1)
    clear hrow hrv hrS hDl
    go_wp2_with fail
    refine hcl.out.mono ?_
    rintro e w3 ⟨g9, cap9, rfl, hO3, hX3⟩
    have hb3 := hO3.lt
    have Hd := Lib.hid (hdel.out _ _ _ hO3)
    clear hcl hdel hO3
    go_wp2_with fail
    refine Hd.out.mono ?_
    rintro e w4 ⟨rfl, hO4, hG4⟩
    have hX4 := ext_trans_grown (hX12.trans hX3) hG4 (by have := hX12.size; omega)
    have Hres := Lib.hid (show QuoPost w c D (.returned (.tuple #[slv g9 (not1 D).length cap9, .int .i64 ((c : Int) - rank), .int .i64 0])) w4 from ⟨by rw [if_pos hs, HDl.out]; exact ⟨_, rfl, (ownV_row hO4 rfl).mono hX12.size⟩, hX4⟩)
    clear hs hO4 hG4 Hd
    go_wp2_with fail
    go_ret3
    exact Hres.out
end Go.Proofs.YtcklioolpicmcaaGreatDoor
/- layout: Check, far, at, Note, of right layouts. -/
namespace Go.Proofs.YtcklioolpicmcaaGreatDoor
open Go.RowKit Go.Sort
set_option maxRecDepth 100000 in
theorem CheckAll_ok {w : World} {v : Value} {F : Mx} {n : Nat} (hM : MatR w v F) (hF : ∀ r ∈ F, chkRow r = 0 ∧ r.length = n) (hl : F.length ≤ 1000) :
    Calls Tryz.prog 103 #[v, .int .i64 n] w fun e w' => e = .returned (.int .i64 0) ∧ Ext w w' := by
  obtain ⟨sa, gb, go, cap, vs, rfl, hcap, hvl, hS, hr⟩ := hM
  have HS := Lib.hid hS
  have HV := Lib.hid hvl
  have HR := Lib.hid hr
  have HF := Lib.hid hF
  clear hS hvl hr hF
  go_enter Tryz.func103, Tryz.ntmps103
  go_wp2_with fail
  go_loopw [10] (fun idx wr => ∃ i : Nat, i ≤ F.length ∧ idx = .int .i64 i ∧ Ext w wr) (fun idx _ => F.length - (intOf idx).toNat)
  case atStart => exact ⟨0, by omega, by go_num, Ext.refl _⟩
  case round =>
    obtain ⟨i, hi, rfl, hE⟩ := hrel
    generalize wr = X at *
    by_cases hlt : i < F.length
    · have hii : (i : Int) < (F.length : Int) := by omega
      obtain rfl := HS.out.addr (by rw [HV.out]; omega)
      obtain ⟨sr, br, or, cr, hrow, hrc, hSr⟩ := MatR.row HS.out HV.out HR.out hlt
      obtain ⟨h1, h2⟩ := HF.out _ (List.getElem_mem hlt)
      have hch := Lib.hid (rowCheck_any (w := X) (v := .slice sr F[i].length cr) (x := F[i]) ⟨sr, br, or, cr, rfl, hrc, hSr.ext hE⟩)
      rw [h1] at hch
      rw [h2] at hch hrow
      have hrow' := hE.cell hrow
      clear hrow hrc hSr h1 h2
      go_wp2_with fail
      refine hch.out.mono ?_
      rintro e W ⟨rfl, hW⟩
      go_wp2_with fail
      go_roundw
      case rel => exact ⟨i + 1, by omega, by go_num, hE.trans hW⟩
      case measure => simp [intOf] <;> omega
    · have hii : ¬ (i : Int) < (F.length : Int) := by omega
      go_wp2_with fail
      go_ret
      exact ⟨rfl, hE⟩
/-- A row of ints at a place of its own (even an empty one). -/
def RowP (w : World) (g cap : Nat) (r : List Int) : Prop := r.length ≤ cap ∧ Sl w (some ⟨g, 0, none⟩) g 0 (is r)
theorem RowP.row {w : World} {g cap : Nat} {r : List Int} (h : RowP w g cap r) : RowR w (slv g r.length cap) r := ⟨_, g, 0, cap, rfl, h.1, h.2⟩
theorem RowP.ext {w w' : World} {g cap : Nat} {r : List Int} (h : RowP w g cap r) (he : Ext w w') : RowP w' g cap r := ⟨h.1, h.2.ext he⟩
/-- A right layout. -/
structure LayP (w : World) (k : Int) (n go co gr cr gu cu : Nat) (o r u : List Int) : Prop where
  kind : k = 1 ∨ k = 2
  n12 : n ≤ 12
  lo : o.length = n
  lr : r.length = n
  lu : u.length = n
  eo : chkRow o = 0
  er : chkRow r = 0
  eu : chkRow u = 0
  po : RowP w go co o
  pr : RowP w gr cr r
  pu : RowP w gu cu u
theorem LayP.ext {w w' : World} {k : Int} {n go co gr cr gu cu : Nat} {o r u : List Int} (h : LayP w k n go co gr cr gu cu o r u) (he : Ext w w') : LayP w' k n go co gr cr gu cu o r u :=
  ⟨h.kind, h.n12, h.lo, h.lr, h.lu, h.eo, h.er, h.eu, h.po.ext he, h.pr.ext he, h.pu.ext he⟩
abbrev layv (k : Int) (n go co gr cr gu cu : Nat) : Value := .agg #[.int .i64 k, slv go n co, slv gr n cr, slv gu n cu]
theorem two_rows {W : World} {b g1 c1 g2 c2 n : Nat} {x y : List Int} (hx : RowP W g1 c1 x) (hy : RowP W g2 c2 y) (lx : x.length = n) (ly : y.length = n) (h0 : W.cell? ⟨b, 0, none⟩ = some (slv g1 n c1)) (h1 : W.cell? ⟨b, 1, none⟩ = some (slv g2 n c2)) : MatR W (.slice (some ⟨b, 0, none⟩) 2 2) [x, y] := by
  refine ⟨_, b, 0, 2, [slv g1 n c1, slv g2 n c2], rfl, Nat.le_refl _, rfl, ⟨fun _ => rfl, fun i v hv => ?_⟩, fun i a a' => ?_⟩
  · have hi : i < 2 := by have := (List.getElem?_eq_some_iff.1 hv).1; simpa using this
    rcases (show i = 0 ∨ i = 1 by omega) with rfl | rfl
    · simp at hv; rw [← hv]; exact h0
    · simp at hv; rw [← hv]; exact h1
  · have hi : i < 2 := by simpa using a
    rcases (show i = 0 ∨ i = 1 by omega) with rfl | rfl
    · have := hx.row; rw [lx] at this; exact this
    · have := hy.row; rw [ly] at this; exact this
set_option maxRecDepth 100000 in
set_option maxHeartbeats 1000000 in
theorem lcheck_ok {w : World} {k : Int} {n go co gr cr gu cu : Nat} {o r u : List Int} (h : LayP w k n go co gr cr gu cu o r u) :
    Calls Tryz.prog 41 #[layv k n go co gr cr gu cu] w fun e w' => e = .returned (.int .i64 0) ∧ Ext w w' := by
  have H := Lib.hid h
  have hck := Lib.hid (fun W (hW : Ext w W) => by
    have h1 := rowCheck_any ((h.po.ext hW).row)
    rw [h.lo, h.eo] at h1
    exact h1)
  have hall := Lib.hid (fun W b (hW : Ext w W) (h0 : W.cell? ⟨b, 0, none⟩ = some (slv gr n cr)) (h1 : W.cell? ⟨b, 1, none⟩ = some (slv gu n cu)) => CheckAll_ok (n := n) (two_rows (h.pr.ext hW) (h.pu.ext hW) h.lr h.lu h0 h1) (fun s hs => by
    simp only [List.mem_cons, List.not_mem_nil, or_false] at hs
    rcases hs with rfl | rfl
    · exact ⟨h.er, h.lr⟩
    · exact ⟨h.eu, h.lu⟩) (by simp))
  have hn : (n : Int) ≤ 12 := by have := h.n12; omega
  have hn2 : ¬ (12 : Int) < (n : Int) := by omega
  rcases h.kind with rfl | rfl
  all_goals
    clear h
    go_enter Tryz.func41, Tryz.ntmps41
    go_wp2_with fail
    generalize hW1 : World.alloc w _ = W1
    have hE1 : Ext w W1 := by rw [← hW1]; exact (Ext.refl w).alloc _
    have c0 : W1.cell? ⟨w.heap.size, 1, none⟩ = some (slv go n co) := by rw [← hW1]; clear hW1; go_simp
    have c1 : W1.cell? ⟨w.heap.size, 2, none⟩ = some (slv gr n cr) := by rw [← hW1]; clear hW1; go_simp
    have c2 : W1.cell? ⟨w.heap.size, 3, none⟩ = some (slv gu n cu) := by rw [← hW1]; clear hW1; go_simp
    clear hW1
    refine (hck.out _ hE1).mono ?_
    rintro e W2 ⟨rfl, hE2⟩
    have d0 := hE2.cell c0
    have d1 := hE2.cell c1
    have d2 := hE2.cell c2
    have dl := World.block_lt_of_cell? _ _ d0
    clear c0 c1 c2 hck
    go_wp2_with fail
    refine (hall.out _ W2.heap.size ((hE1.trans hE2).alloc _) (by go_simp) (by go_simp)).mono ?_
    rintro e W3 ⟨rfl, hE3⟩
    have hE4 := ((hE1.trans hE2).alloc (.cells #[slv gr n cr, slv gu n cu] 32)).trans hE3
    go_wp2_with fail
    go_ret
    exact ⟨rfl, hE4⟩
theorem far_any {w : World} {x y : Int} (hx : I64 x) (hy : I64 y) :
    Calls Tryz.prog 105 #[.agg #[.int .i64 x, .int .i64 y]] w fun e w' => e = .returned (.bool (decide (1000000 < max x y) || decide (min x y < -1000000))) ∧ Ext w w' := by
  unfold I64 at hx hy
  obtain ⟨hx1, hx2⟩ := hx
  obtain ⟨hy1, hy2⟩ := hy
  have hE := (Ext.refl w).alloc (.cells #[.int .i64 x, .int .i64 y] 80)
  obtain ⟨m, hm⟩ : ∃ m, m = max x y := ⟨_, rfl⟩
  obtain ⟨q, hq⟩ : ∃ q, q = min x y := ⟨_, rfl⟩
  have hm' := hm.symm
  have hq' := hq.symm
  rw [← hm, ← hq]
  by_cases h1 : 1000000 < m
  · have hd : decide (1000000 < m) = true := decide_eq_true h1
    rw [hd]
    clear hd hm hq
    go_enter Tryz.func105, Tryz.ntmps105
    go_wp2_with fail
    go_ret
    exact ⟨rfl, hE⟩
  · have hd : decide (1000000 < m) = false := decide_eq_false h1
    rw [hd]
    clear hd hm hq
    go_enter Tryz.func105, Tryz.ntmps105
    go_wp2_with fail
    go_ret
    exact ⟨by simp, hE⟩
/-- The interval of a key. -/
def atL (x y : Int) : List Int → List Int → List Int → List Int
  | o :: os, r :: rs, u :: us => (o + (x * r + y * u)) :: atL x y os rs us
  | _, _, _ => []
theorem atL_length (x y : Int) : ∀ (o r u : List Int), r.length = o.length → u.length = o.length → (atL x y o r u).length = o.length
  | [], _, _, _, _ => by simp [atL]
  | o :: os, [], _, h, _ => by simp at h
  | o :: os, _ :: _, [], _, h => by simp at h
  | o :: os, r :: rs, u :: us, h, h2 => by simp [atL, atL_length x y os rs us (by simpa using h) (by simpa using h2)]
theorem atL_get (x y : Int) : ∀ (o r u : List Int) (i : Nat), i < o.length → r.length = o.length → u.length = o.length → (atL x y o r u).getD i 0 = o.getD i 0 + (x * r.getD i 0 + y * u.getD i 0)
  | [], _, _, _, h, _, _ => by simp at h
  | o :: os, [], _, _, _, h, _ => by simp at h
  | o :: os, _ :: _, [], _, _, _, h => by simp at h
  | o :: os, r :: rs, u :: us, 0, _, _, _ => by simp [atL]
  | o :: os, r :: rs, u :: us, i + 1, hi, h, h2 => by
    have := atL_get x y os rs us i (by simpa using hi) (by simpa using h) (by simpa using h2)
    simpa [atL] using this
end Go.Proofs.YtcklioolpicmcaaGreatDoor
/- layout: at. -/
namespace Go.Proofs.YtcklioolpicmcaaGreatDoor
open Go.RowKit Go.Sort
/-- The first i elements reckoned. -/
def atTo (x y : Int) (i : Nat) (o r u : List Int) : List Int := (atL x y o r u).take i ++ o.drop i
theorem atTo_length {x y : Int} {i n : Nat} {o r u : List Int} (ho : o.length = n) (hr : r.length = n) (hu : u.length = n) (hi : i ≤ n) : (atTo x y i o r u).length = n := by
  unfold atTo
  rw [List.length_append, List.length_take, List.length_drop, atL_length _ _ _ _ _ (by omega) (by omega)]; omega
theorem atTo_getD {x y : Int} {i n : Nat} {o r u : List Int} (ho : o.length = n) (hr : r.length = n) (hu : u.length = n) (hi : i ≤ n) (t : Nat) : (atTo x y i o r u).getD t 0 = if t < i then (atL x y o r u).getD t 0 else o.getD t 0 := by
  have hl := atL_length x y o r u (by omega) (by omega)
  have htl : ((atL x y o r u).take i).length = i := by rw [List.length_take]; omega
  unfold atTo
  simp only [List.getD_eq_getElem?_getD]
  by_cases h : t < i
  · rw [if_pos h, List.getElem?_append_left (by omega), List.getElem?_take, if_pos h]
  · rw [if_neg h, List.getElem?_append_right (by omega), htl, List.getElem?_drop, show i + (t - i) = t by omega]
theorem atTo_step {x y : Int} {i n : Nat} {o r u : List Int} (ho : o.length = n) (hr : r.length = n) (hu : u.length = n) (hi : i < n) : atTo x y (i + 1) o r u = (atTo x y i o r u).set i (o.getD i 0 + (x * r.getD i 0 + y * u.getD i 0)) := by
  have e1 := atTo_length (x := x) (y := y) (i := i) ho hr hu (by omega)
  refine List.ext_getElem (by rw [List.length_set, e1, atTo_length ho hr hu (by omega)]) fun t h1 h2 => ?_
  rw [← getD_get h1 0, ← getD_get h2 0, getD_set _ _ _ _ _ (by omega), atTo_getD ho hr hu (by omega), atTo_getD ho hr hu (by omega)]
  by_cases e : t = i
  · subst e
    rw [if_pos rfl, if_pos (by omega), atL_get _ _ _ _ _ _ (by omega) (by omega) (by omega)]
  · rw [if_neg e]
    by_cases h3 : t < i
    · rw [if_pos (by omega), if_pos h3]
    · rw [if_neg (by omega), if_neg h3]
theorem atTo_at {x y : Int} {i n : Nat} {o r u : List Int} (ho : o.length = n) (hr : r.length = n) (hu : u.length = n) (hi : i < n) : (atTo x y i o r u).getD i 0 = o.getD i 0 := by
  rw [atTo_getD ho hr hu (by omega), if_neg (by omega)]
theorem mul_i64 {x z : Int} (hx : -1000000 ≤ x ∧ x ≤ 1000000) (hz : -1000000000 ≤ z ∧ z ≤ 1000000000) : -1000000000000000 ≤ x * z ∧ x * z ≤ 1000000000000000 := by
  have h : (x * z).natAbs ≤ 1000000 * 1000000000 := by rw [Int.natAbs_mul]; exact Nat.mul_le_mul (by omega) (by omega)
  omega
set_option maxRecDepth 100000 in
set_option maxHeartbeats 1000000 in
theorem at_any {w : World} {k x y : Int} {n go co gr cr gu cu : Nat} {o r u : List Int} (h : LayP w k n go co gr cr gu cu o r u) (hx : -1000000 ≤ x ∧ x ≤ 1000000) (hy : -1000000 ≤ y ∧ y ≤ 1000000) :
    Calls Tryz.prog 104 #[layv k n go co gr cr gu cu, .agg #[.int .i64 x, .int .i64 y]] w fun e w' => ∃ g, e = .returned (slv g n n) ∧ OwnV 3 w.heap.size w' g n (is (atL x y o r u)) ∧ Ext w w' := by
  have H := Lib.hid h
  obtain ⟨i0, hi, hz0, hz1, hz2⟩ := info_parts Tryz.infoInt
  have hinfo : (Tryz.prog.info? 3).map (·.size) = some 1 := by rw [hi]; simp [hz1]
  have Hinfo := Lib.hid hinfo
  have Hlo := Lib.hid h.lo
  have Hlr := Lib.hid h.lr
  have Hlu := Lib.hid h.lu
  have Hbo := Lib.hid (chkRow_ok h.eo).2
  have Hbr := Lib.hid (chkRow_ok h.er).2
  have Hbu := Lib.hid (chkRow_ok h.eu).2
  have hn := h.n12
  obtain ⟨hx1, hx2⟩ := hx
  obtain ⟨hy1, hy2⟩ := hy
  clear h hinfo
  go_enter Tryz.func104, Tryz.ntmps104
  go_wp2_with (at_make; refine wpList_make_full _ rfl _ _ 32 rfl w.heap.size 3 i0 (.int .i64 0) 1 Tryz.underlying32 hi hz0 hz1 .i64 .i64 _ _ n rfl rfl (by omega) (by omega) (by rw [hz2]; omega) (by unfold maxLen; omega) (by simp <;> omega) ?_; intro w1 hown1 hgrow1; have hE1 := ext_grown hgrow1; have c0 : w1.cell? ⟨w.heap.size, 1, none⟩ = some (slv go n co) := hE1.cell (by go_simp); have c1 : w1.cell? ⟨w.heap.size, 2, none⟩ = some (slv gr n cr) := hE1.cell (by go_simp); have c2 : w1.cell? ⟨w.heap.size, 3, none⟩ = some (slv gu n cu) := hE1.cell (by go_simp); have c3 : w1.cell? ⟨w.heap.size + 1, 0, none⟩ = some (.int .i64 x) := hE1.cell (by go_simp); have c4 : w1.cell? ⟨w.heap.size + 1, 1, none⟩ = some (.int .i64 y) := hE1.cell (by go_simp))
  have hX1 : Ext w w1 := (((Ext.refl w).alloc _).alloc _).trans hE1
  rw [show ((w.alloc (.cells #[.int .i64 k, slv go n co, slv gr n cr, slv gu n cu] 62)).alloc (.cells #[.int .i64 x, .int .i64 y] 80)).heap.size = w.heap.size + 1 + 1 by simp] at hown1
  obtain ⟨g, hg⟩ : ∃ g, g = w.heap.size + 1 + 1 := ⟨_, rfl⟩
  rw [← hg] at hown1 ⊢
  have hb0 : OwnV 3 w.heap.size w1 g n (is (List.replicate n 0)) := row_ownV (zero_row hown1) (by simp)
  obtain ⟨cur, k1, k2, k3, k4, k5, k6⟩ := hb0.parts
  have hsrc := ((H.out.po.ext hX1).2)
  have hrun := run_copy_row (P := Tryz.prog) w1 32 32 3 3 g 0 n n ⟨go, 0, none⟩ n co cur 3 (is o) Tryz.underlying32 Hinfo.out k2 (by rw [is_length, Hlo.out]; simp)
    (fun j v hj => by
      have := hsrc.cell j v hj
      simpa [Addr.add_lit] using this) (by rw [is_length, Hlo.out, k5]; omega) (fun v hv => by
      obtain ⟨y, _, rfl⟩ := List.mem_map.1 hv
      rfl)
  rw [is_length, Hlo.out] at hrun
  obtain ⟨w2, hw2⟩ : ∃ w2, w2 = w1.setRow g (cur.toList.take 0 ++ is o ++ cur.toList.drop (0 + n)).toArray := ⟨_, rfl⟩
  rw [← hw2] at hrun
  have hdrop : cur.toList.drop (0 + n) = [] := List.drop_of_length_le (by rw [Array.length_toList, k5]; omega)
  have hO2 : OwnV 3 w.heap.size w2 g n (is o) := by
    rw [hw2, hdrop]
    refine OwnV.of k1 (setRow_heap w1 g cur _ 3 _ k2) (by rw [is_length, Hlo.out]; exact Nat.le_refl _) k4 (by simp [Hlo.out]) ?_
    simp only [List.take_zero, List.nil_append, List.append_nil, is_length]
    exact List.take_of_length_le (by simp)
  have hG2 : w1.grownBy w2 (some g) := by
    rw [hw2]; exact ⟨rfl, rfl, rfl, by simp, fun k _ hk => setRow_other w1 g k _ (fun e => hk (by simp [e]))⟩
  have hX2 := ext_trans_grown hX1 hG2 k1
  have hC2 : Chg (fun k => k = g) w1 w2 := Chg.of_grown hG2 rfl
  have d1 := hC2.cell (by omega) c1
  have d2 := hC2.cell (by omega) c2
  have d3 := hC2.cell (by omega) c3
  have d4 := hC2.cell (by omega) c4
  have HO2 := Lib.hid hO2
  have Hrun := Lib.hid hrun
  have hgb := hO2.lt
  have hgq1 : g ≠ w.heap.size := by omega
  have hgq2 : g ≠ w.heap.size + 1 := by omega
  have hwg : w.heap.size ≤ g := by omega
  clear hg hrun hw2 hdrop hO2 hG2 hC2 hb0 k1 k2 k3 k4 k5 k6 hsrc hown1 hgrow1 hE1 c1 c2 c3 c4
  go_wp2_with fail
  rw [Hrun.out]
  go_wp2_with fail
  obtain ⟨p, hp⟩ : ∃ p, p = w.heap.size := ⟨_, rfl⟩
  rw [← hp] at d1 d2 ⊢
  rw [← hp] at d3 d4
  have hgp : g ≠ p ∧ g ≠ p + 1 := ⟨by omega, by omega⟩
  have hgr : gr ≠ g ∨ n = 0 := by
    rcases Nat.eq_zero_or_pos n with h | h
    · exact .inr h
    · have := H.out.pr.2.lt (by rw [is_length, Hlr.out]; exact h)
      left; omega
  have hgu : gu ≠ g ∨ n = 0 := by
    rcases Nat.eq_zero_or_pos n with h | h
    · exact .inr h
    · have := H.out.pu.2.lt (by rw [is_length, Hlu.out]; exact h)
      left; omega
  have Hp := Lib.hid hp
  have hB := hgb.1
  clear hp Hrun
  go_loopw [17] (fun idx wr => ∃ i : Nat, i ≤ n ∧ idx = .int .i64 i ∧ Hid (OwnV 3 w.heap.size wr g n (is (atTo x y i o r u))) ∧ Hid (w2.grownBy wr (some g))) (fun idx _ => n - (intOf idx).toNat)
  case atStart => exact ⟨0, by omega, by go_num, Lib.hid (by show OwnV _ _ _ _ _ (is (atTo x y 0 o r u)); unfold atTo; simpa using HO2.out), Lib.hid (World.grownBy.refl _ _)⟩
  case round =>
    obtain ⟨i, hi', rfl, hO, hG⟩ := hrel
    generalize wr = X at *
    have hXE := ext_trans_grown hX2 hG.out hB
    by_cases hlt : i < n
    · have hii : (i : Int) < (n : Int) := by omega
      have hC : Chg (fun k => k = g) w2 X := Chg.of_grown hG.out rfl
      have e1 := hC.cell (by omega) d1
      have e2 := hC.cell (by omega) d2
      have e3 := hC.cell (by omega) d3
      have e4 := hC.cell (by omega) d4
      have hlen := atTo_length (x := x) (y := y) (i := i) Hlo.out Hlr.out Hlu.out (by omega)
      have c1 := hO.out.cell (j := i) (by rw [is_length, hlen]; exact hlt)
      obtain ⟨a, ha⟩ : ∃ a, a = o.getD i 0 := ⟨_, rfl⟩
      obtain ⟨b, hb⟩ : ∃ b, b = r.getD i 0 := ⟨_, rfl⟩
      obtain ⟨c, hc⟩ : ∃ c, c = u.getD i 0 := ⟨_, rfl⟩
      have h1 : (is (atTo x y i o r u))[i]'(by rw [is_length, hlen]; exact hlt) = .int .i64 a := by
        rw [ha, ← atTo_at (x := x) (y := y) Hlo.out Hlr.out Hlu.out hlt, getD_get (by omega)]; simp [is]
      rw [h1] at c1
      have c2 := (H.out.pr.ext hXE).2.cell i (.int .i64 b) (by rw [hb, getD_get (by rw [Hlr.out]; exact hlt)]; exact is_get (by rw [Hlr.out]; exact hlt))
      have c3 := (H.out.pu.ext hXE).2.cell i (.int .i64 c) (by rw [hc, getD_get (by rw [Hlu.out]; exact hlt)]; exact is_get (by rw [Hlu.out]; exact hlt))
      rw [Nat.zero_add] at c2 c3
      have ba : -1000000000 ≤ a ∧ a ≤ 1000000000 := by rw [ha, getD_get (by rw [Hlo.out]; exact hlt)]; exact Hbo.out _ (List.getElem_mem _)
      have bb : -1000000000 ≤ b ∧ b ≤ 1000000000 := by rw [hb, getD_get (by rw [Hlr.out]; exact hlt)]; exact Hbr.out _ (List.getElem_mem _)
      have bc : -1000000000 ≤ c ∧ c ≤ 1000000000 := by rw [hc, getD_get (by rw [Hlu.out]; exact hlt)]; exact Hbu.out _ (List.getElem_mem _)
      have m1 := mul_i64 ⟨hx1, hx2⟩ bb
      have m2 := mul_i64 ⟨hy1, hy2⟩ bc
      have w1' : IntKind.i64.wrap (x * b) = x * b := IntWalk.i64_in _ (by omega)
      have w2' : IntKind.i64.wrap (y * c) = y * c := IntWalk.i64_in _ (by omega)
      have w3' : IntKind.i64.wrap (x * b + y * c) = x * b + y * c := IntWalk.i64_in _ (by omega)
      have w4' : IntKind.i64.wrap (a + (x * b + y * c)) = a + (x * b + y * c) := IntWalk.i64_in _ (by omega)
      have Hst := Lib.hid (atTo_step (x := x) (y := y) (i := i) Hlo.out Hlr.out Hlu.out hlt)
      rw [← ha, ← hb, ← hc] at Hst
      have k1 := cell_regrown e1
      have k2 := cell_regrown e2
      have k3 := cell_regrown e3
      have k4 := cell_regrown e4
      have k5 := cell_regrown c1
      have k6 := cell_regrown c2
      have k7 := cell_regrown c3
      have q1 := c1
      clear ha hb hc h1 hlen ba bb bc m1 m2
      go_wp2_with fail
      refine wp_region_quiet_tail 22 (by kernel_rfl) (by kernel_rfl) ?_
      simp only [List.take_succ_cons, List.take_zero, List.drop_succ_cons, List.drop_zero]
      repeat (go_big_quiet_step (fail))
      refine wpQuiet_nil ?_
      intro _ hw'
      obtain ⟨⟨dq, osq⟩, hw''⟩ := hw'
      subst hw''
      have hE5 := ext_regrown X dq osq
      have d5 := hE5.cell q1
      clear k1 k2 k3 k4 k5 k6 k7
      generalize grow (redrawn X dq) osq = w5 at *
      have f5 := (hO.out.ext hE5).frozen i
      obtain ⟨hO6, hG6⟩ := (hO.out.ext hE5).set i (.int .i64 (a + (x * b + y * c)))
      rw [← is_set, ← Hst.out] at hO6
      have HO6 := Lib.hid hO6
      have HG6 := Lib.hid (grown_trans hG.out (grown_trans (grown_ext hE5 (some g)) hG6))
      clear hO6 hG6 hE5
      go_wp2_with fail
      go_roundw
      case rel => exact ⟨i + 1, by omega, by go_num, HO6, HG6⟩
      case measure => simp [intOf] <;> omega
    · have hii : ¬ (i : Int) < (n : Int) := by omega
      have hin : i = n := by omega
      have hall : atTo x y i o r u = atL x y o r u := by
        unfold atTo
        rw [List.take_of_length_le (by rw [atL_length _ _ _ _ _ (by rw [Hlo.out, Hlr.out]) (by rw [Hlo.out, Hlu.out]), Hlo.out]; omega), List.drop_of_length_le (by rw [Hlo.out]; omega), List.append_nil]
      rw [hall] at hO
      clear hall
      go_wp2_with fail
      go_ret
      exact ⟨g, rfl, hO.out, hXE⟩
end Go.Proofs.YtcklioolpicmcaaGreatDoor
/- layout: Note, Move, Complete, of right layouts. -/
namespace Go.Proofs.YtcklioolpicmcaaGreatDoor
open Go.RowKit Go.Sort
def farB (x y : Int) : Bool := decide (1000000 < max x y) || decide (min x y < -1000000)
def NotPost (w : World) (n : Nat) (x y : Int) (o r u : List Int) (e : Ending) (w' : World) : Prop :=
  (if farB x y then e = .returned (.tuple #[.slice none 0 0, .int .i64 3]) else ∃ g, e = .returned (.tuple #[slv g n n, .int .i64 0]) ∧ OwnV 3 w.heap.size w' g n (is (atL x y o r u))) ∧ Ext w w'
set_option maxRecDepth 100000 in
set_option maxHeartbeats 1000000 in
theorem Note_any {w : World} {k x y : Int} {n go co gr cr gu cu : Nat} {o r u : List Int} (h : LayP w k n go co gr cr gu cu o r u) (hx : I64 x) (hy : I64 y) (hres : farB x y = false → chkRow (atL x y o r u) = 0) :
    Calls Tryz.prog 44 #[layv k n go co gr cr gu cu, .agg #[.int .i64 x, .int .i64 y]] w (NotPost w n x y o r u) := by
  have hck := Lib.hid (fun W (hW : Ext w W) => lcheck_ok (h.ext hW))
  have hfar := Lib.hid (fun W => far_any (w := W) hx hy)
  have hl : (atL x y o r u).length = n := by rw [atL_length _ _ _ _ _ (by rw [h.lo, h.lr]) (by rw [h.lo, h.lu])]; exact h.lo
  have Hl := Lib.hid hl
  have hX : Ext w ((w.alloc (.cells #[.int .i64 k, slv go n co, slv gr n cr, slv gu n cu] 62)).alloc (.cells #[.int .i64 x, .int .i64 y] 80)) := ((Ext.refl w).alloc _).alloc _
  cases hf : farB x y
  · have hb : (-1000000 ≤ x ∧ x ≤ 1000000) ∧ (-1000000 ≤ y ∧ y ≤ 1000000) := by
      unfold farB at hf
      simp only [Bool.or_eq_false_iff, decide_eq_false_iff_not] at hf
      omega
    have hat := Lib.hid (fun W (hW : Ext w W) => at_any (h.ext hW) hb.1 hb.2)
    have hr := Lib.hid (hres hf)
    have Hf := Lib.hid hf
    rw [show (decide (1000000 < max x y) || decide (min x y < -1000000)) = false from hf] at hfar
    clear h hres hf hl hb
    go_enter Tryz.func44, Tryz.ntmps44
    go_wp2_with fail
    refine (hck.out _ hX).mono ?_
    rintro e w1 ⟨rfl, hE1⟩
    have d0 := hE1.cell (show ((w.alloc (.cells #[.int .i64 k, slv go n co, slv gr n cr, slv gu n cu] 62)).alloc (.cells #[.int .i64 x, .int .i64 y] 80)).cell? ⟨w.heap.size, 0, none⟩ = some (.int .i64 k) by go_simp)
    have d1 := hE1.cell (show ((w.alloc (.cells #[.int .i64 k, slv go n co, slv gr n cr, slv gu n cu] 62)).alloc (.cells #[.int .i64 x, .int .i64 y] 80)).cell? ⟨w.heap.size, 1, none⟩ = some (slv go n co) by go_simp)
    have d2 := hE1.cell (show ((w.alloc (.cells #[.int .i64 k, slv go n co, slv gr n cr, slv gu n cu] 62)).alloc (.cells #[.int .i64 x, .int .i64 y] 80)).cell? ⟨w.heap.size, 2, none⟩ = some (slv gr n cr) by go_simp)
    have d3 := hE1.cell (show ((w.alloc (.cells #[.int .i64 k, slv go n co, slv gr n cr, slv gu n cu] 62)).alloc (.cells #[.int .i64 x, .int .i64 y] 80)).cell? ⟨w.heap.size, 3, none⟩ = some (slv gu n cu) by go_simp)
    have e0 := hE1.cell (show ((w.alloc (.cells #[.int .i64 k, slv go n co, slv gr n cr, slv gu n cu] 62)).alloc (.cells #[.int .i64 x, .int .i64 y] 80)).cell? ⟨w.heap.size + 1, 0, none⟩ = some (.int .i64 x) by go_simp)
    have e1 := hE1.cell (show ((w.alloc (.cells #[.int .i64 k, slv go n co, slv gr n cr, slv gu n cu] 62)).alloc (.cells #[.int .i64 x, .int .i64 y] 80)).cell? ⟨w.heap.size + 1, 1, none⟩ = some (.int .i64 y) by go_simp)
    have hX1 := hX.trans hE1
    clear hE1 hck hX
    go_wp2_with fail
    refine (hfar.out _).mono ?_
    rintro e w2 ⟨rfl, hE2⟩
    replace d0 := hE2.cell d0
    replace d1 := hE2.cell d1
    replace d2 := hE2.cell d2
    replace d3 := hE2.cell d3
    replace e0 := hE2.cell e0
    replace e1 := hE2.cell e1
    have hX2 := hX1.trans hE2
    clear hfar hX1 hE2
    go_wp2_with fail
    refine (hat.out _ hX2).mono ?_
    rintro e w3 ⟨g, rfl, hO3, hE3⟩
    have hcr := Lib.hid (rowCheck_any (w := w3) (v := slv g n n) (x := atL x y o r u) ⟨_, g, 0, n, by rw [Hl.out], by rw [Hl.out]; exact Nat.le_refl _, hO3.sl⟩)
    rw [hr.out] at hcr
    have HO3 := Lib.hid (hO3.mono hX2.size)
    have hX3 := hX2.trans hE3
    clear hO3 hat hE3 d0 d1 d2 d3 e0 e1
    go_wp2_with fail
    refine hcr.out.mono ?_
    rintro e w4 ⟨rfl, hE4⟩
    go_wp2_with fail
    go_ret2
    exact ⟨by rw [if_neg (by rw [Hf.out]; decide)]; exact ⟨g, rfl, HO3.out.ext hE4⟩, hX3.trans hE4⟩
  · have Hf := Lib.hid hf
    rw [show (decide (1000000 < max x y) || decide (min x y < -1000000)) = true from hf] at hfar
    clear h hres hf hl
    go_enter Tryz.func44, Tryz.ntmps44
    go_wp2_with fail
    refine (hck.out _ hX).mono ?_
    rintro e w1 ⟨rfl, hE1⟩
    have e0 := hE1.cell (show ((w.alloc (.cells #[.int .i64 k, slv go n co, slv gr n cr, slv gu n cu] 62)).alloc (.cells #[.int .i64 x, .int .i64 y] 80)).cell? ⟨w.heap.size + 1, 0, none⟩ = some (.int .i64 x) by go_simp)
    have e1 := hE1.cell (show ((w.alloc (.cells #[.int .i64 k, slv go n co, slv gr n cr, slv gu n cu] 62)).alloc (.cells #[.int .i64 x, .int .i64 y] 80)).cell? ⟨w.heap.size + 1, 1, none⟩ = some (.int .i64 y) by go_simp)
    have hX1 := hX.trans hE1
    clear hE1 hck hX
    go_wp2_with fail
    refine (hfar.out _).mono ?_
    rintro e w2 ⟨rfl, hE2⟩
    go_wp2_with fail
    go_ret2
    exact ⟨by rw [if_pos Hf.out]; rfl, hX1.trans hE2⟩
end Go.Proofs.YtcklioolpicmcaaGreatDoor
