/- Part 20 of the proof of the claim: contracts of the functions that it reaches, and plain laws; no condition. -/
import Derived.Test.YtokjolmpdfmnbaaGreatDoorU19
import Derived.Test.YtokjolmpdfmnbaaGreatDoorU17
namespace Go.Proofs.YtokjolmpdfmnbaaGreatDoor
open Go.RowKit Go.Sort
def sizeE (M : Mx) (b : List Int) : Int := if checkM M = 0 then if chkRow b = 0 then if 0 < M.length ∧ b.length ≠ ncols M then 5 else 0 else chkRow b else checkM M
theorem sizeE_ok {M : Mx} {b : List Int} (h : sizeE M b = 0) : checkM M = 0 ∧ chkRow b = 0 ∧ (0 < M.length → b.length = ncols M) := by
  unfold sizeE at h
  split at h
  · split at h
    · split at h
      · cases h
      · rename_i h1 h2 h3
        exact ⟨h1, h2, fun h5 => Classical.byContradiction fun h6 => h3 ⟨h5, h6⟩⟩
    · exact absurd h ‹_›
  · exact absurd h ‹_›
set_option maxRecDepth 100000 in
theorem sized_any {w : World} {vm vb : Value} {M : Mx} {b : List Int} (hM : MatR w vm M) (hb : RowR w vb b) :
    Calls Tryz.prog 42 #[vm, vb] w fun e w' => e = .returned (.int .i64 (sizeE M b)) ∧ Ext w w' := by
  have hck := Lib.hid (tableCheck_any hM)
  have hrk := Lib.hid (fun W (hW : Ext w W) => rowCheck_any (hb.ext hW))
  obtain ⟨sr, br, or, cr, hbv, hbc, hSb⟩ := hb
  obtain ⟨sa, gb, go, cap, vs, hmv, hcap, hvl, hS, hr⟩ := hM
  by_cases h0 : checkM M = 0
  · rw [h0] at hck
    by_cases h1 : chkRow b = 0
    · rw [h1] at hrk
      by_cases hM0 : M.length = 0
      · have he : sizeE M b = 0 := by unfold sizeE; rw [if_pos h0, if_pos h1, if_neg (by omega)]
        rw [he]
        subst hmv hbv
        rw [hM0] at hck ⊢
        clear hS hvl hr hSb h0 h1 he hM0
        go_enter Tryz.func42, Tryz.ntmps42
        go_wp2_with fail
        refine hck.out.mono ?_
        rintro e w1 ⟨rfl, hE1⟩
        go_wp2_with fail
        refine (hrk.out _ hE1).mono ?_
        rintro e w2 ⟨rfl, hE2⟩
        go_wp2_with fail
        go_ret
        exact ⟨rfl, hE1.trans hE2⟩
      · have hMp : (0 : Int) < (M.length : Int) := by omega
        obtain ⟨s0, c0, rfl, hrow⟩ := ncols_row hS hvl hr (by omega)
        subst hmv hbv
        by_cases hl : b.length = ncols M
        · have he : sizeE M b = 0 := by unfold sizeE; rw [if_pos h0, if_pos h1, if_neg (by omega)]
          rw [he]
          rw [← hl] at hrow
          clear hS hvl hr hSb h0 h1 he hM0 hl
          go_enter Tryz.func42, Tryz.ntmps42
          go_wp2_with fail
          refine hck.out.mono ?_
          rintro e w1 ⟨rfl, hE1⟩
          go_wp2_with fail
          refine (hrk.out _ hE1).mono ?_
          rintro e w2 ⟨rfl, hE2⟩
          have hrow2 := (hE1.trans hE2).cell hrow
          go_wp2_with fail
          go_ret
          exact ⟨rfl, hE1.trans hE2⟩
        · have he : sizeE M b = 5 := by unfold sizeE; rw [if_pos h0, if_pos h1, if_pos ⟨by omega, hl⟩]
          have hlb : ((b.length : Int) == (ncols M : Int)) = false := beq_eq_false_iff_ne.2 (by omega)
          have hlb2 : ((b.length : Int) != (ncols M : Int)) = true := by simp [bne, hlb]
          have hlI : ¬ (b.length : Int) = (ncols M : Int) := by omega
          rw [he]
          clear hS hvl hr hSb h0 h1 he hM0
          go_enter Tryz.func42, Tryz.ntmps42
          go_wp2_with fail
          refine hck.out.mono ?_
          rintro e w1 ⟨rfl, hE1⟩
          go_wp2_with fail
          refine (hrk.out _ hE1).mono ?_
          rintro e w2 ⟨rfl, hE2⟩
          have hrow2 := (hE1.trans hE2).cell hrow
          go_wp2_with fail
          go_ret
          exact ⟨rfl, hE1.trans hE2⟩
    · obtain ⟨q, hq⟩ : ∃ q, q = chkRow b := ⟨_, rfl⟩
      have he : sizeE M b = q := by unfold sizeE; rw [if_pos h0, if_neg h1, hq]
      have hqb : (q == 0) = false := beq_eq_false_iff_ne.2 (by rw [hq]; exact h1)
      have hqb2 : (q != 0) = true := by simp [bne, hqb]
      rw [he]
      rw [← hq] at hrk
      subst hmv hbv
      clear hS hvl hr hSb h0 h1 he hq
      go_enter Tryz.func42, Tryz.ntmps42
      go_wp2_with fail
      refine hck.out.mono ?_
      rintro e w1 ⟨rfl, hE1⟩
      go_wp2_with fail
      refine (hrk.out _ hE1).mono ?_
      rintro e w2 ⟨rfl, hE2⟩
      go_wp2_with fail
      go_ret
      exact ⟨rfl, hE1.trans hE2⟩
  · obtain ⟨q, hq⟩ : ∃ q, q = checkM M := ⟨_, rfl⟩
    have he : sizeE M b = q := by unfold sizeE; rw [if_neg h0, hq]
    have hqb : (q == 0) = false := beq_eq_false_iff_ne.2 (by rw [hq]; exact h0)
    have hqb2 : (q != 0) = true := by simp [bne, hqb]
    rw [he]
    rw [← hq] at hck
    subst hmv hbv
    clear hS hvl hr hSb h0 he hq
    go_enter Tryz.func42, Tryz.ntmps42
    go_wp2_with fail
    refine hck.out.mono ?_
    rintro e w1 ⟨rfl, hE1⟩
    go_wp2_with fail
    go_ret
    exact ⟨rfl, hE1⟩
end Go.Proofs.YtokjolmpdfmnbaaGreatDoor
namespace Go.Proofs.YtokjolmpdfmnbaaGreatDoor
open Go.RowKit Go.Sort
theorem setCells_own {T : TypeId} {B g cap : Nat} : ∀ (vs : List Value) (o : Nat) (w : World) (xs : List Value), OwnV T B w g cap xs → ∃ ys, OwnV T B (w.setCells g o vs) g cap ys ∧ ys.length = xs.length ∧ (∀ i, i < o → ys[i]? = xs[i]?) ∧ w.grownBy (w.setCells g o vs) (some g)
  | [], o, w, xs, h => ⟨xs, h, rfl, fun _ _ => rfl, World.grownBy.refl _ _⟩
  | v :: vs, o, w, xs, h => by
    obtain ⟨h1, h2⟩ := h.set o v
    obtain ⟨ys, k1, k2, k3, k4⟩ := setCells_own vs (o + 1) _ _ h1
    exact ⟨ys, k1, by rw [k2, List.length_set], fun i hi => by rw [k3 i (by omega), List.getElem?_set_ne (by omega)], grown_trans h2 k4⟩
set_option maxRecDepth 100000 in
theorem rclone_any {w : World} {vx : Value} {x : List Int} (hx : RowR w vx x) (hn : 0 < x.length) (hl : x.length ≤ 1000000) :
    Calls Tryz.prog 133 #[vx] w fun e w' => ∃ g cap, e = .returned (slv g x.length cap) ∧ OwnV 3 w.heap.size w' g cap (is x) ∧ Ext w w' := by
  obtain ⟨sa, gb, go, cp, rfl, hcp, hS⟩ := hx
  obtain rfl := hS.addr (by rw [is_length]; exact hn)
  obtain ⟨s0, hs, hy0, hy1, hy2⟩ := info_parts Tryz.infoInt
  have HNews := Lib.hid (show ∀ (j : Nat) (u : Value), (is x)[j]? = some u → (w.alloc (.cells #[] 3)).cell? ((⟨gb, go, none⟩ : Addr).add j) = some u from fun j u hj => by
    have h2 := ((Ext.refl w).alloc (.cells #[] 3)).cell (hS.cell j u hj)
    simpa [Addr.add_lit] using h2)
  have HOne := Lib.hid (show ∀ u ∈ is x, u.oneCell' = true from fun u hu => by
    obtain ⟨y, _, rfl⟩ := List.mem_map.1 hu
    rfl)
  have hO : OwnV 3 w.heap.size (w.alloc (.cells #[] 3)) w.heap.size 0 [] := OwnV.of (Nat.le_refl _) (heap_new _ _) (Nat.le_refl _) (Nat.zero_le _) rfl rfl
  have HO := Lib.hid hO
  have hE := (Ext.refl w).alloc (.cells #[] 3)
  have knil := fun (w : World) (a : Option Addr) (n c : Nat) => Lib.run_eql_slice_nil (P := Tryz.prog) w 32 3 a n c 0 0 Tryz.underlying32
  clear hO hS
  go_enter Tryz.func133, Tryz.ntmps133
  go_wp2_with (at_builtin; refine wpList_append_lies _ rfl _ _ 32 rfl w.heap.size 3 s0 _ 1 8 Tryz.underlying32 hs hy0 hy1 hy2 rfl (by omega) (slv w.heap.size 0 0) 0 [] rfl HO.out ⟨gb, go, none⟩ x.length cp (is x) rfl (by rw [is_length]; omega) HNews.out HOne.out hn (by unfold maxLen; omega) (by omega) (by simp) (w.heap.size + 1) (by simp) ?_; intro gg cap6 w6 hown6 hgrow6 hat6 hlt6)
  have hE6 : Ext w w6 := Ext.mk' (Below.grown hE hgrow6 hE.size (fun q hq => (World.ownsRow.lt HO.out q hq).1))
  have HR := Lib.hid (show OwnV 3 w.heap.size w6 gg cap6 (is x) by
    unfold OwnV; rw [is_length]; simpa using hown6)
  clear hown6 hgrow6 hat6 hlt6
  go_wp2_with fail
  go_ret
  exact ⟨gg, cap6, by simp, HR.out, hE6⟩
theorem oneC_any (z : Int) (w : World) : Calls Tryz.prog 134 #[.int .i64 z] w fun e w' => e = .returned (.bool (decide (z = 1))) ∧ Ext w w' := by
  by_cases h : z = 1
  · subst h
    go_enter Tryz.func134, Tryz.ntmps134
    go_wp2
    go_ret
    exact ⟨rfl, Ext.refl _⟩
  · have hb : decide (z = 1) = false := decide_eq_false h
    rw [hb]
    have h1 : (z == 1) = false := beq_eq_false_iff_ne.2 h
    clear hb
    go_enter Tryz.func134, Tryz.ntmps134
    go_wp2
    go_ret
    exact ⟨rfl, Ext.refl _⟩
def not1 (l : List Int) : List Int := l.filter fun z => !decide (z = 1)
theorem not1_snoc {l : List Int} {j : Nat} (h : j < l.length) : not1 (l.take (j + 1)) = if l[j] = 1 then not1 (l.take j) else not1 (l.take j) ++ [l[j]] := by
  unfold not1
  rw [List.take_succ_eq_append_getElem h, List.filter_append]
  by_cases hz : l[j] = 1
  · rw [if_pos hz, List.filter_cons_of_neg (by simp [hz])]; simp
  · rw [if_neg hz, List.filter_cons_of_pos (by simp [hz])]; simp
theorem not1_all {l : List Int} (h : ∀ i (hi : i < l.length), l[i] ≠ 1) : not1 l = l := List.filter_eq_self.2 fun z hz => by
  obtain ⟨i, hi, rfl⟩ := List.getElem_of_mem hz
  simp [h i hi]
set_option maxRecDepth 100000 in
set_option maxHeartbeats 2000000 in
theorem delete_any {w : World} {B g cap : Nat} {l : List Int} (hO : OwnV 3 B w g cap (is l)) (hl : l.length ≤ 1000000) :
    Calls Tryz.prog 132 #[slv g l.length cap, .func (.func 134) #[] #[]] w fun e w' => e = .returned (slv g (not1 l).length cap) ∧ OwnV 3 B w' g cap (is (not1 l)) ∧ w.grownBy w' (some g) := by
  obtain ⟨k, hk⟩ := IxR_ex (fun i => decide (l.getD i 0 = 1)) l.length
  have hix := index_one (cap := cap) (p := fun i => decide (l.getD i 0 = 1)) (k := k) (w := w) hO.sl (by rw [is_length]; exact hl) (fun i hi W hW => by
    have hi' : i < l.length := by simpa using hi
    have e : (is l)[i] = .int .i64 (l.getD i 0) := by rw [getD_get hi']; simp [is]
    rw [e]; exact oneC_any _ W) (by rw [is_length]; exact hk)
  rw [is_length] at hix
  have Hix := Lib.hid hix
  have HO := Lib.hid hO
  have hgc := hO.cap
  rw [is_length] at hgc
  clear hix hO
  rcases hk with ⟨rfl, hno⟩ | ⟨i0, hi0, rfl, hp0, hb0⟩
  · have Hn := Lib.hid (not1_all (l := l) (fun i hi h => by have := hno i hi; dsimp only at this; rw [getD_get hi, h] at this; simp at this))
    rw [Hn.out]
    clear hno
    go_enter Tryz.func132, Tryz.ntmps132
    go_wp2_with fail
    refine Hix.out.mono ?_
    rintro e W ⟨rfl, hW⟩
    go_wp2_with fail
    go_ret
    exact ⟨rfl, HO.out.ext hW, grown_ext hW _⟩
  · have Hl0 := Lib.hid (show l[i0] = 1 by dsimp only at hp0; rw [getD_get hi0] at hp0; exact of_decide_eq_true hp0)
    have hst0 : not1 (l.take (i0 + 1)) = l.take i0 := by
      rw [not1_snoc hi0, if_pos Hl0.out]
      refine not1_all fun t ht => ?_
      have ht2 : t < i0 := by rw [List.length_take] at ht; omega
      rw [List.getElem_take]
      intro h
      have := hb0 t ht2
      dsimp only at this
      rw [getD_get (by omega), h] at this; simp at this
    have Hst0 := Lib.hid hst0
    have hne : ((i0 : Int) == -1) = false := beq_eq_false_iff_ne.2 (by omega)
    have hne2 : ¬ (i0 : Int) = -1 := by omega
    obtain ⟨n, hn⟩ : ∃ n, n = l.length := ⟨_, rfl⟩
    have Hn := Lib.hid hn
    rw [← hn] at Hix hgc hi0 hl ⊢
    clear hp0 hb0 hst0 hn
    go_enter Tryz.func132, Tryz.ntmps132
    go_wp2_with fail
    refine Hix.out.mono ?_
    rintro e W1 ⟨rfl, hW1⟩
    clear Hix
    go_wp2_with fail
    go_loopw [5, 6] (fun iv jv wr => ∃ (i j : Nat) (xs : List Int), j ≤ n ∧ i < j ∧ iv = .int .i64 i ∧ jv = .int .i64 j ∧ Hid (i = (not1 (l.take j)).length) ∧ Hid (OwnV 3 B wr g cap (is xs)) ∧ Hid (xs.length = n) ∧ Hid (xs.take i = not1 (l.take j)) ∧ Hid (∀ t, j ≤ t → xs[t]? = l[t]?) ∧ Hid (w.grownBy wr (some g))) (fun _ jv _ => n - (intOf jv).toNat)
    case atStart => exact ⟨i0, i0 + 1, l, by omega, by omega, rfl, by go_num, Lib.hid (by rw [Hst0.out, List.length_take, ← Hn.out]; omega), Lib.hid (HO.out.ext hW1), Lib.hid Hn.out.symm, Lib.hid Hst0.out.symm, Lib.hid (fun t _ => rfl), Lib.hid (grown_ext hW1 _)⟩
    case round =>
      obtain ⟨i, j, xs, hj, hij, rfl, rfl, hi, hOx, hxl, hxt, hxd, hG⟩ := hrel
      generalize wr = X at *
      by_cases hjl : j < n
      · have hjI : (j : Int) < (n : Int) := by omega
        have hiI : (i : Int) < (n : Int) := by omega
        have hjL : j < l.length := by rw [← Hn.out]; exact hjl
        obtain ⟨z, hz⟩ : ∃ z, z = l[j] := ⟨_, rfl⟩
        have hxj : j < xs.length := by rw [hxl.out]; exact hjl
        have hc := hOx.out.cell (j := j) (by rw [is_length]; exact hxj)
        have hxz : (is xs)[j]'(by rw [is_length]; exact hxj) = .int .i64 z := by
          have h1 := hxd.out j (Nat.le_refl _)
          rw [List.getElem?_eq_getElem hxj, List.getElem?_eq_getElem hjL] at h1
          simp only [is, List.getElem_map]
          rw [Option.some.inj h1, hz]
        rw [hxz] at hc
        have Hsn := Lib.hid (not1_snoc hjL)
        rw [← hz] at Hsn
        have Ho := Lib.hid (oneC_any z X)
        clear hz hxz hxj
        by_cases hz1 : z = 1
        · have hd : decide (z = 1) = true := decide_eq_true hz1
          rw [hd] at Ho
          rw [if_pos hz1] at Hsn
          clear hd hz1
          go_wp2_with fail
          refine Ho.out.mono ?_
          rintro e W ⟨rfl, hW⟩
          go_wp2_with fail
          go_roundw
          case rel => exact ⟨i, j + 1, xs, by omega, by omega, rfl, by go_num, Lib.hid (by rw [Hsn.out]; exact hi.out), Lib.hid (hOx.out.ext hW), hxl, Lib.hid (by rw [Hsn.out]; exact hxt.out), Lib.hid (fun t ht => hxd.out t (by omega)), Lib.hid (grown_trans hG.out (grown_ext hW _))⟩
          case measure => simp [intOf] <;> omega
        · have hd : decide (z = 1) = false := decide_eq_false hz1
          rw [hd] at Ho
          rw [if_neg hz1] at Hsn
          clear hd hz1
          go_wp2_with fail
          refine Ho.out.mono ?_
          rintro e W ⟨rfl, hW⟩
          have fi := (hOx.out.ext hW).frozen i
          have hci := (hOx.out.ext hW).cell (j := i) (by rw [is_length, hxl.out]; omega)
          obtain ⟨hO6, hG6⟩ := (hOx.out.ext hW).set i (.int .i64 z)
          rw [← is_set] at hO6
          have HO6 := Lib.hid hO6
          have HG6 := Lib.hid (grown_trans hG.out (grown_trans (grown_ext hW (some g)) hG6))
          have Ht := Lib.hid (show (xs.set i z).take (i + 1) = not1 (l.take (j + 1)) by
            rw [Hsn.out, ← hxt.out, List.take_succ_eq_append_getElem (by rw [List.length_set, hxl.out]; omega), List.getElem_set_self, List.take_set_of_le (Nat.le_refl _)])
          clear hO6 hG6
          go_wp2_with fail
          go_roundw
          case rel => exact ⟨i + 1, j + 1, xs.set i z, by omega, by omega, by go_num, by go_num, Lib.hid (by rw [Hsn.out, List.length_append, ← hi.out]; rfl), HO6, Lib.hid (by rw [List.length_set]; exact hxl.out), Ht, Lib.hid (fun t ht => by rw [List.getElem?_set_ne (by omega)]; exact hxd.out t (by omega)), HG6⟩
          case measure => simp [intOf] <;> omega
      · have hjn : j = n := by omega
        have hjI : ¬ (j : Int) < (n : Int) := by omega
        have hinI : (i : Int) ≤ (n : Int) := by omega
        have hicI : (i : Int) ≤ (cap : Int) := by omega
        have hcne : ¬ cap = i := by omega
        have hcne2 : ¬ cap - i = 0 := by omega
        have hT : l.take j = l := List.take_of_length_le (by rw [← Hn.out]; omega)
        rw [hT] at hi hxt
        subst hjn
        obtain ⟨i0', hi1, hi2, hi3, hi4⟩ := info_parts Tryz.infoInt
        have hclr := Lib.run_clear_slice (P := Tryz.prog) X 32 3 0 (.int .i64 0) Tryz.underlying32 (fun w => by simp [zeroValue, typeInfo, hi1, hi2, go_sem]) rfl rfl g i (j - i) (cap - i) (by omega) (fun t ht => by rw [hOx.out.cell (j := i + t) (by rw [is_length, hxl.out]; omega)]; rfl) (fun t ht => hOx.out.frozen _)
        obtain ⟨ys, hy1, hy2, hy3, hy4⟩ := setCells_own (List.replicate (j - i) (.int .i64 0)) i X _ hOx.out
        have Hres := Lib.hid (show OwnV 3 B (X.setCells g i (List.replicate (j - i) (.int .i64 0))) g cap (is (not1 l)) by
          have h1 := hy1.take i
          have e : ys.take i = is (not1 l) := by
            rw [← hxt.out]
            refine List.ext_getElem? fun t => ?_
            rw [List.getElem?_take]
            by_cases ht : t < i
            · rw [if_pos ht, hy3 t ht]
              simp only [is, List.getElem?_map, List.getElem?_take, if_pos ht]
            · rw [if_neg ht]
              simp only [is, List.getElem?_map, List.getElem?_take, if_neg ht]; rfl
          rw [e] at h1; exact h1)
        have HGr := Lib.hid (grown_trans hG.out hy4)
        have Hi2 := Lib.hid hi.out
        generalize hW9 : World.setCells X g i _ = W9 at *
        clear hW9 hy1 hy2 hy3 hy4 hi1 hi2 hi3 hi4 hOx hxt hxd hG hT
        go_wp2_with fail
        go_ret
        exact ⟨by rw [← Hi2.out]; rfl, Hres.out, HGr.out⟩
set_option maxRecDepth 100000 in
theorem group_ok {w : World} {v : Value} {M : Mx} {n : Nat} (hM : MatR w v M) (hck : checkM M = 0) (hn : n ≤ 12) (h0 : 0 < M.length) (hc : ncols M = n) :
    Calls Tryz.prog 57 #[v, .int .i64 n] w fun e w' => e = .returned (.int .i64 0) ∧ Ext w w' := by
  have hch := Lib.hid (tableCheck_any hM)
  rw [hck] at hch
  obtain ⟨sa, gb, go, cap, vs, rfl, hcap, hvl, hS, hr⟩ := hM
  obtain ⟨s0, c0, rfl, hrow⟩ := ncols_row hS hvl hr h0
  rw [hc] at hrow
  have hn0 : ¬ (n : Int) < 0 := by omega
  have hn12 : ¬ (12 : Int) < (n : Int) := by omega
  have hMp : (0 : Int) < (M.length : Int) := by omega
  clear hck hS hvl hr hcap hc hn
  go_enter Tryz.func57, Tryz.ntmps57
  go_wp2_with fail
  refine hch.out.mono ?_
  rintro e w1 ⟨rfl, hE1⟩
  have hrow1 := hE1.cell hrow
  go_wp2_with fail
  go_ret
  exact ⟨rfl, hE1⟩
def QuoPost (w : World) (c : Nat) (D : List Int) (e : Ending) (w' : World) : Prop :=
  (if smallB D then ∃ v, e = .returned (.tuple #[v, .int .i64 ((c : Int) - D.length), .int .i64 0]) ∧ RowV w.heap.size w' v (not1 D) else e = .returned (.tuple #[.slice none 0 0, .int .i64 0, .int .i64 4])) ∧ Ext w w'
set_option maxRecDepth 100000 in
set_option maxHeartbeats 2000000 in
theorem Quotient_any {w : World} {v : Value} {M : Mx} {c f rank E : Nat} {fin : Dg} (hM : MatR w v M) (hck : checkM M = 0) (h0 : 0 < M.length) (hc : c = ncols M) (hc0 : 0 < c)
    (hrun : runD E M.length c f 0 (startD M c) = some (rank, fin)) (hr0 : 0 < rank) (hr1 : rank ≤ M.length) (hr2 : rank ≤ c) (hb : BM E fin.a) (hE : 2 * (4 * E + 3) + 2 < LIM) (hE1 : 1 ≤ E) (hL : Laid w) :
    Calls Tryz.prog 79 #[v, .int .i64 c] w (QuoPost w c (diagL rank fin.a)) := by
  obtain ⟨hl12, hn12, hRt, hent⟩ := checkM_ok hck
  have hgr := Lib.hid (group_ok hM hck (by omega : c ≤ 12) h0 hc.symm)
  have hfc := Lib.hid (fun W (hW : Ext w W) => Factors_any (hM.ext hW) hck h0 hc hc0 hrun hr1 hr2 hb hE hE1 (hL.ext hW))
  obtain ⟨D, hD⟩ : ∃ D, D = diagL rank fin.a := ⟨_, rfl⟩
  have hDl : D.length = rank := by rw [hD, diagL_length]
  have hr12 : rank ≤ 12 := by omega
  have hcI : (c : Int) ≤ 12 := by omega
  rw [← hD] at hfc ⊢
  obtain ⟨sa, gb, go, cap, vs, rfl, hcap, hvl, hS, hr⟩ := hM
  have HDl := Lib.hid hDl
  clear hl12 hn12 hRt hent hck hrun hb hE hE1 hL hvl hS hr hcap hD hc hr1 hr2
  go_enter Tryz.func79, Tryz.ntmps79
  go_wp2_with fail
  refine hgr.out.mono ?_
  rintro e w1 ⟨rfl, hX1⟩
  clear hgr
  go_wp2_with fail
  refine (hfc.out _ hX1).mono ?_
  rintro e w2 ⟨hp, hX2⟩
  have hX12 := hX1.trans hX2
  clear hfc
  cases hs : smallB D
  · rw [if_neg (by rw [hs]; decide)] at hp
    subst hp
    have Hres := Lib.hid (show QuoPost w c D (.returned (.tuple #[.slice none 0 0, .int .i64 0, .int .i64 4])) w2 from ⟨by rw [if_neg (by rw [hs]; decide)], hX12⟩)
    clear hs
    go_wp2_with fail
    go_ret3
    exact Hres.out
  · rw [if_pos hs] at hp
    obtain ⟨rv, rfl, hrv⟩ := hp
    obtain ⟨ra, rb, ro, rc, rfl, hrc, hrS⟩ := hrv.row
    have hrow := hrv.row
    rw [hDl] at hrow ⊢
    have hcl := Lib.hid (rclone_any hrow (by omega) (by omega))
    rw [hDl] at hcl
    have hrI : (rank : Int) ≤ 12 := by omega
    have hrI0 : (0 : Int) < (rank : Int) := by omega
    have hdel := Lib.hid (fun W g cap (hO : OwnV 3 w2.heap.size W g cap (is D)) => by
      have h1 := delete_any hO (by rw [HDl.out]; omega)
      rw [HDl.out] at h1
      exact h1)
    clear hrow hrv hrS hDl
    go_wp2_with fail
    refine hcl.out.mono ?_
    rintro e w3 ⟨g9, cap9, rfl, hO3, hX3⟩
    have hb3 := hO3.lt
    have Hd := Lib.hid (hdel.out _ _ _ hO3)
    clear hcl hdel hO3
    go_wp2_with fail
    refine Hd.out.mono ?_
    rintro e w4 ⟨rfl, hO4, hG4⟩
    have hX4 := ext_trans_grown (hX12.trans hX3) hG4 (by have := hX12.size; omega)
    have Hres := Lib.hid (show QuoPost w c D (.returned (.tuple #[slv g9 (not1 D).length cap9, .int .i64 ((c : Int) - rank), .int .i64 0])) w4 from ⟨by rw [if_pos hs, HDl.out]; exact ⟨_, rfl, (ownV_row hO4 rfl).mono hX12.size⟩, hX4⟩)
    clear hs hO4 hG4 Hd
    go_wp2_with fail
    go_ret3
    exact Hres.out
end Go.Proofs.YtokjolmpdfmnbaaGreatDoor
