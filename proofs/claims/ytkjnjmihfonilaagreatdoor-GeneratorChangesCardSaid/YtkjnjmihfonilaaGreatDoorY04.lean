/- Part 4, beside the shared parts, of the proof of the claim: contracts and plain laws; no condition. -/
import Derived.Test.YtkjnjmihfonilaaGreatDoorV01
import Derived.Test.YtkjnjmihfonilaaGreatDoorV02
import Derived.Test.YtkjnjmihfonilaaGreatDoorV03
import Derived.Test.YtkjnjmihfonilaaGreatDoorV04
import Derived.Test.YtkjnjmihfonilaaGreatDoorV05
import Derived.Test.YtkjnjmihfonilaaGreatDoorV06
import Derived.Test.YtkjnjmihfonilaaGreatDoorV07
import Derived.Test.YtkjnjmihfonilaaGreatDoorV08
import Derived.Test.YtkjnjmihfonilaaGreatDoorV09
import Derived.Test.YtkjnjmihfonilaaGreatDoorV10
import Derived.Test.YtkjnjmihfonilaaGreatDoorV11
import Derived.Test.YtkjnjmihfonilaaGreatDoorV12
import Derived.Test.YtkjnjmihfonilaaGreatDoorV13
import Derived.Test.YtkjnjmihfonilaaGreatDoorV14
import Derived.Test.YtkjnjmihfonilaaGreatDoorV15
import Derived.Test.YtkjnjmihfonilaaGreatDoorV16
import Derived.Test.YtkjnjmihfonilaaGreatDoorV17
import Derived.Test.YtkjnjmihfonilaaGreatDoorV18
import Derived.Test.YtkjnjmihfonilaaGreatDoorV19
import Derived.Test.YtkjnjmihfonilaaGreatDoorV20
import Derived.Test.YtkjnjmihfonilaaGreatDoorV21
import Derived.Test.YtkjnjmihfonilaaGreatDoorV22
import Derived.Test.YtkjnjmihfonilaaGreatDoorV23
import Derived.Test.YtkjnjmihfonilaaGreatDoorV24
import Derived.Test.YtkjnjmihfonilaaGreatDoorV25
import Derived.Test.YtkjnjmihfonilaaGreatDoorV26
import Derived.Test.YtkjnjmihfonilaaGreatDoorV27
import Derived.Test.YtkjnjmihfonilaaGreatDoorV28
import Derived.Test.YtkjnjmihfonilaaGreatDoorV29
import Derived.Test.YtkjnjmihfonilaaGreatDoorV30
import Derived.Test.YtkjnjmihfonilaaGreatDoorY01
import Derived.Test.YtkjnjmihfonilaaGreatDoorY02
import Derived.Test.YtkjnjmihfonilaaGreatDoorY03
namespace Go.Proofs.YtkjnjmihfonilaaGreatDoor
open Go.RowKit Go.Sort
theorem Tryz.infoLine : (Tryz.prog.info? 106).map (fun i => (i.zero, i.size, i.bytes)) = some (some (.agg #[.slice none 0 0, .slice none 0 0]), 2, 48) := by kernel_rfl
theorem lline_step {w X Y w8 : World} {v : Value} {gx cx gy cy gg cap2 i n m : Nat} {ad : List Ad} {ls : List Ln} (hV : LnsV w.heap.size X v ad (ls.take i) n m) (hi : i < ls.length) (hE : Ext w X) (hE5 : Ext X Y)
    (hd : ls[i].1.length = n ∧ ls[i].2.length = m)
    (hOx : Y.ownsRow X.heap.size 80 1 (xv n gx cx) n (ss ls[i].1)) (hNe : 0 < n → gx ≠ gy) (hOy : OwnV 80 X.heap.size Y gy cy (ss ls[i].2))
    (hown8 : w8.ownsRow w.heap.size 106 2 (slv gg (i + 1) cap2) (i + 1) (hdrs n m ad ++ [xv n gx cx, slv gy m cy])) (hgrow8 : (Y.alloc (.cells #[xv n gx cx, slv gy m cy] 106)).grownBy w8 v.ownBlock)
    (hat8 : v.ownBlock = some gg ∨ gg = Y.heap.size + 1) :
    LnsV w.heap.size w8 (slv gg (i + 1) cap2) (ad ++ [⟨gx, cx, gy, cy⟩]) (ls.take (i + 1)) n m ∧ Ext w w8 := by
  have hle : (ls.take i).length = i := by rw [List.length_take]; omega
  have hal : ad.length = i := by rw [hV.len, hle]
  have hE8 : Ext X (Y.alloc (.cells #[xv n gx cx, slv gy m cy] 106)) := hE5.alloc _
  have hEY : Ext Y (Y.alloc (.cells #[xv n gx cx, slv gy m cy] 106)) := (Ext.refl Y).alloc _
  have hvb : ∀ q, v.ownBlock = some q → w.heap.size ≤ q ∧ q < X.heap.size := fun q hq => World.ownsRow.lt hV.row q hq
  have hwX := hE.size
  have hXY := hE5.size
  have hgy := hOy.lt
  have hgx : 0 < n → X.heap.size ≤ gx ∧ gx < Y.heap.size := fun h => World.ownsRow.lt hOx gx (by rw [xv_pos h]; rfl)
  have hoX : 0 < n → OwnV 80 X.heap.size Y gx cx (ss ls[i].1) := fun h => by
    have := hOx; rw [xv_pos h] at this; exact OwnV.of_row this
  have hold : ∀ t (h : t < (ls.take i).length) (h' : t < ad.length), ad[t].gy < X.heap.size ∧ (0 < n → ad[t].gx < X.heap.size) := fun t h h' => ⟨(hV.y t h h').lt.2, fun hn => (hV.x hn t h h').lt.2⟩
  have hgg : gg < X.heap.size ∨ Y.heap.size < gg := by
    rcases hat8 with h | h
    · exact .inl (hvb gg h).2
    · right; omega
  have hkeep : ∀ {g c : Nat} {l : List Int}, OwnV 80 w.heap.size X g c (ss l) → v.ownBlock ≠ some g → OwnV 80 w.heap.size w8 g c (ss l) := fun h hne =>
    World.ownsRow.kept (h.ext hE8) hgrow8 (.inr (fun e => hne e.symm))
  have hnew : ∀ {g c : Nat} {l : List Int}, OwnV 80 X.heap.size Y g c (ss l) → OwnV 80 w.heap.size w8 g c (ss l) := fun {g c l} h => by
    have hg := h.lt
    refine World.ownsRow.kept ((h.ext hEY).mono hwX) hgrow8 (.inr (fun e => ?_))
    have := (hvb g e.symm).2; omega
  have hgo : ∀ t (h' : t < ad.length), gg ≠ ad[t].gy ∧ (0 < n → gg ≠ ad[t].gx) := fun t h' => by
    have ho := hold t (by omega) h'
    have hw := hV.own t h'
    rcases hat8 with h | h
    · rw [h] at hw; exact ⟨fun e => hw.1 (by rw [e]), fun hn e => (hw.2 hn).1 (by rw [e])⟩
    · exact ⟨by omega, fun hn => by have := ho.2 hn; omega⟩
  have hl1 : (ls.take (i + 1)).length = i + 1 := by rw [List.length_take]; omega
  refine ⟨⟨?_, ?_, ?_, fun hn t a b => ?_, fun t a b => ?_, fun t a => ?_, fun s t a b hst => ?_⟩, ?_⟩
  · rw [List.length_append, hal, hl1]; rfl
  · rw [hl1, hdrs_snoc]; exact hown8
  · intro l hl
    obtain ⟨t, ht, rfl⟩ := List.getElem_of_mem hl
    rw [List.getElem_take]
    by_cases hti : t < i
    · have := hV.dim.get (i := t) (by omega)
      rw [List.getElem_take] at this; exact this
    · have : t = i := by omega
      subst this; exact hd
  · rw [hl1] at a
    by_cases hti : t < i
    · have := hV.x hn t (by omega) (by omega)
      rw [List.getElem_append_left (by omega), List.getElem_take]
      rw [List.getElem_take] at this
      exact hkeep this (((hV.own t (by omega)).2 hn).1)
    · have : t = i := by omega
      subst this
      rw [List.getElem_append_right (by omega), List.getElem_take]
      simp only [hal, Nat.sub_self, List.getElem_cons_zero]
      exact hnew (hoX hn)
  · rw [hl1] at a
    by_cases hti : t < i
    · have := hV.y t (by omega) (by omega)
      rw [List.getElem_append_left (by omega), List.getElem_take]
      rw [List.getElem_take] at this
      exact hkeep this (hV.own t (by omega)).1
    · have : t = i := by omega
      subst this
      rw [List.getElem_append_right (by omega), List.getElem_take]
      simp only [hal, Nat.sub_self, List.getElem_cons_zero]
      exact hnew hOy
  · have hob : (slv gg (i + 1) cap2).ownBlock = some gg := rfl
    rw [hob]
    rw [List.length_append, hal] at a
    by_cases hti : t < i
    · rw [List.getElem_append_left (by omega)]
      have h1 := hgo t (by omega)
      exact ⟨fun e => h1.1 (by injection e), fun hn => ⟨fun e => h1.2 hn (by injection e), ((hV.own t (by omega)).2 hn).2⟩⟩
    · have : t = i := by simp at a; omega
      subst this
      rw [List.getElem_append_right (by omega)]
      simp only [hal, Nat.sub_self, List.getElem_cons_zero]
      refine ⟨fun e => ?_, fun hn => ⟨fun e => ?_, hNe hn⟩⟩
      · injection e with e; omega
      · injection e with e; have := hgx hn; omega
  · rw [List.length_append, hal] at a b
    simp only [List.length_cons, List.length_nil] at a b
    by_cases hsi : s < i
    · by_cases hti : t < i
      · rw [List.getElem_append_left (by omega), List.getElem_append_left (by omega)]
        exact hV.dis s t (by omega) (by omega) hst
      · have : t = i := by omega
        subst this
        rw [List.getElem_append_left (by omega), List.getElem_append_right (by omega)]
        simp only [hal, Nat.sub_self, List.getElem_cons_zero]
        have ho := hold s (by omega) (by omega)
        exact ⟨by omega, fun hn => ⟨by have := hgx hn; have := ho.2 hn; omega, by have := ho.2 hn; omega, by have := hgx hn; omega⟩⟩
    · have : s = i := by omega
      subst this
      have hti : t < s := by omega
      rw [List.getElem_append_right (by omega), List.getElem_append_left (by omega)]
      simp only [hal, Nat.sub_self, List.getElem_cons_zero]
      have ho := hold t (by omega) (by omega)
      exact ⟨by omega, fun hn => ⟨by have := hgx hn; have := ho.2 hn; omega, by have := hgx hn; omega, by have := ho.2 hn; omega⟩⟩
  · exact Ext.mk' (Below.grown (hE.trans hE8) hgrow8 (hE.trans hE8).size (fun q hq => (hvb q hq).1))
set_option maxRecDepth 100000 in
set_option maxHeartbeats 1000000 in
theorem lines_any {w : World} {v : Value} {M : Mx} {n : Nat} (hM : MatR w v M) (hR : Rect n M) (hl : M.length ≤ 1000000) (hn : n ≤ 1000000) (h64 : ∀ r ∈ M, ∀ z ∈ r, I64 z) (hL : Laid w) :
    Calls Tryz.prog 58 #[v] w fun e w' => ∃ v' ad, e = .returned v' ∧ LnsV w.heap.size w' v' ad (lines0 M) n M.length ∧ Ext w w' := by
  obtain ⟨sa, gb, go, cap, vs, rfl, hcap, hvl, hS, hr⟩ := hM
  obtain ⟨i0, hi, hz0, hz1, hz2⟩ := info_parts Tryz.infoLine
  obtain ⟨s0, hs, hy0, hy1, hy2⟩ := info_parts Tryz.infoStr
  have HS := Lib.hid hS
  have HV := Lib.hid hvl
  have HR := Lib.hid hr
  have HRt := Lib.hid hR
  have H64 := Lib.hid h64
  have HL := Lib.hid hL
  clear hS hvl hr hR h64 hL
  go_enter Tryz.func58, Tryz.ntmps58
  go_wp2_with fail
  go_loopw [3, 11] (fun out idx wr => ∃ (i : Nat) (ad : List Ad), i ≤ M.length ∧ idx = .int .i64 i ∧ LnsV w.heap.size wr out ad ((lines0 M).take i) n M.length ∧ Ext w wr) (fun _ idx _ => M.length - (intOf idx).toNat)
  case atStart => exact ⟨0, [], by omega, by go_num, LnsV.nil _ _ _ _, Ext.refl _⟩
  case round =>
    obtain ⟨i, ad, hi', rfl, hV, hE⟩ := hrel
    generalize wr = X at *
    by_cases hlt : i < M.length
    · have hii : (i : Int) < (M.length : Int) := by omega
      obtain rfl := HS.out.addr (by rw [HV.out]; omega)
      obtain ⟨sr, br, or, cr, hrow, hrc, hSr⟩ := MatR.row HS.out HV.out HR.out hlt
      rw [HRt.out _ (List.getElem_mem hlt)] at hrow hrc
      have hrow' := hE.cell hrow
      have hrep := Lib.hid (fun W (hW : W.cell? ⟨X.heap.size, 0, none⟩ = some (I 0)) => repeat_any (m := M.length) hl (b := X.heap.size) (o := 0) (c := 1) (z := 0) (w := W) hW)
      clear hrow
      go_wp2_with fail
      have hz1 : I 0 = .string ⟨#[48]⟩ := by unfold I S; rw [itoa_zero]
      have hz49 : I 1 = .string ⟨#[49]⟩ := by unfold I S; rw [show (1 : Int) = ((1 : Nat) : Int) from rfl, itoa_nat, Lib.decDigits]; rfl
      have Hz49 := Lib.hid hz49
      refine (hrep.out _ (by rw [hz1]; go_simp)).mono ?_
      rintro e W1 ⟨gy, cy, rfl, hY, hE1⟩
      clear hrep hz1 hz49
      have hE2 := ((Ext.refl X).alloc (.cells #[.string ⟨#[48]⟩] 80)).trans hE1
      have hYb : X.heap.size < gy := by have := hY.lt.1; simp at this; omega
      have hYT := hY.lt.2
      have y1 := hY.cell (j := i) (by simpa using hlt)
      have y2 := hY.frozen i
      obtain ⟨hY3, hG3⟩ := hY.set i (I 1)
      rw [← ss_set, Hz49.out] at hY3
      rw [Hz49.out] at hG3
      have hE3 := (ext_trans_grown hE2 hG3 (by omega)).alloc (.cells #[.slice none 0 0, slv gy M.length cy] 106)
      have hY4 := hY3.ext ((Ext.refl _).alloc (.cells #[.slice none 0 0, slv gy M.length cy] 106))
      have hY5 : OwnV 80 X.heap.size ((W1.setCell ⟨gy, i, none⟩ (.string ⟨#[49]⟩)).alloc (.cells #[.slice none 0 0, slv gy M.length cy] 106)) gy cy (ss (unitR M.length i)) := hY4.mono (by simp)
      have t0 := show ((W1.setCell ⟨gy, i, none⟩ (.string ⟨#[49]⟩)).alloc (.cells #[.slice none 0 0, slv gy M.length cy] 106)).cell? ⟨W1.heap.size, 0, none⟩ = some (xv 0 0 0) by rw [xv_zero]; go_simp
      have t1 := show ((W1.setCell ⟨gy, i, none⟩ (.string ⟨#[49]⟩)).alloc (.cells #[.slice none 0 0, slv gy M.length cy] 106)).cell? ⟨W1.heap.size, 1, none⟩ = some (slv gy M.length cy) by go_simp
      have t2 := show ((W1.setCell ⟨gy, i, none⟩ (.string ⟨#[49]⟩)).alloc (.cells #[.slice none 0 0, slv gy M.length cy] 106)).frozen? ⟨W1.heap.size, 0, none⟩ = false by go_simp
      have t3 := show W1.heap.size < ((W1.setCell ⟨gy, i, none⟩ (.string ⟨#[49]⟩)).alloc (.cells #[.slice none 0 0, slv gy M.length cy] 106)).heap.size by simp
      have hXT : X.heap.size ≤ W1.heap.size := hE2.size
      clear hY hY3 hY4 hG3
      go_wp2_with fail
      generalize hW2 : World.alloc (World.setCell _ _ _) _ = W2 at *
      clear hW2 y1 y2 hE1 hE2
      generalize W1.heap.size = T at *
      go_loopw [27] (fun idx wr => ∃ (j gx cx : Nat), j ≤ n ∧ idx = .int .i64 j ∧ wr.cell? ⟨T, 0, none⟩ = some (xv j gx cx) ∧ wr.cell? ⟨T, 1, none⟩ = some (slv gy M.length cy) ∧ wr.frozen? ⟨T, 0, none⟩ = false ∧ T < wr.heap.size ∧
        Hid (wr.ownsRow X.heap.size 80 1 (xv j gx cx) j (ss (M[i].take j))) ∧ Hid (0 < j → gx ≠ T ∧ gx ≠ gy) ∧ Hid (OwnV 80 X.heap.size wr gy cy (ss (unitR M.length i))) ∧ Hid (Ext X wr)) (fun idx _ => n - (intOf idx).toNat)
      case atStart => exact ⟨0, 0, 0, by omega, by go_num, t0, t1, t2, t3, Lib.hid ⟨rfl, .inl ⟨rfl, rfl⟩⟩, Lib.hid (fun h => by omega), Lib.hid hY5, Lib.hid hE3⟩
      case round =>
        clear t0 t1 t2 t3 hY5 hE3
        obtain ⟨j, gx, cx, hj, rfl, t0, t1, t2, t3, hOx, hNe, hOy, hE5⟩ := hrel
        generalize wr = Y at *
        by_cases hjl : j < n
        · have hji : (j : Int) < (n : Int) := by omega
          have hrl : M[i].length = n := HRt.out _ (List.getElem_mem hlt)
          have Hrl := Lib.hid hrl
          obtain ⟨z, hz⟩ : ∃ z, z = M[i].getD j 0 := ⟨_, rfl⟩
          have hcz := hSr.cell j (.int .i64 z) (by rw [hz, getD_get (by omega)]; exact is_get (by omega))
          have hz64 := H64.out _ (List.getElem_mem hlt) z (by rw [hz, getD_get (by omega)]; exact List.getElem_mem _)
          have hcz2 := hE5.out.cell (hE.cell hcz)
          obtain rfl := hSr.addr (by simp; omega)
          have hof := Lib.hid (fun W (hW : Ext Y W) => wholeOf_any (n := z) (w := W) hz64.1 hz64.2 (HL.out.ext (hE.trans (hE5.out.trans hW))))
          have Hz := Lib.hid hz
          have hTo : some T ≠ (xv j gx cx).ownBlock := by
            rw [xv_own]
            split
            · simp
            · have := hNe.out (by omega); intro e; injection e with e; exact this.1 e.symm
          have HTo := Lib.hid hTo
          have hXY := hE5.out.size
          clear hTo
          clear hz hz64 hcz hrl
          go_wp2_with fail
          go_region_law (first
              | (go_simp; go_at_call 82; refine (hof.out _ ((Ext.refl _).drew)).mono ?_; rintro e W5 ⟨rfl, hW5⟩; have t5 := hW5.cell (show (World.drew Y).cell? ⟨T, 0, none⟩ = some (xv j gx cx) from t0); have t5s : T < W5.heap.size := Nat.lt_of_lt_of_le t3 hW5.size; have t5y : Y.heap.size ≤ W5.heap.size := hW5.size)
              | (refine step_append_lies _ (by rfl) _ _ _ (by rfl) X.heap.size 80 s0 _ 1 16 Tryz.underlying88 hs hy0 hy1 hy2 rfl (by omega) (xv j gx cx) j (ss (M[i].take j)) (by rfl) ((ownsRow_ext (ownsRow_ext hOx.out ((Ext.refl _).drew)) hW5).alloc _) ⟨W5.heap.size, 0, none⟩ 1 1 [I z] (by rfl) (by rfl) (cell_one_new _ _ _) (one_str _) (by omega) (by unfold maxLen; omega) (by omega) (by simp; omega) (W5.heap.size + 1) (by simp) ?_; intro gg cap2 w6 hown6 hgrow6 hat6 hlt6; have t6 := hgrow6.cell (((Ext.refl W5).alloc (.cells #[I z] 80)).cell t5) HTo.out; have f6 := w6_frozen hW5 t2 t3 hgrow6 HTo.out))
          all_goals
            have hst := lrow_step (L := M.length) (by rw [Hrl.out]; exact hjl) Hz.out hYT hXT t1 t3 hOx.out hNe.out hOy.out hE5.out hW5 HTo.out hown6 hgrow6 hat6 t6 f6
            generalize hw7 : World.setCell w6 _ _ = w7 at *
            obtain ⟨r0, r1, r2, r3, r4, r5, r6, r7⟩ := hst
            clear hw7 hown6 hgrow6 hat6 t6 f6 hlt6 t5 t5s
            go_wp2_with fail
            go_roundw
            case rel => exact ⟨j + 1, gg, cap2, by omega, by go_num, r0, r1, r2, r3, r4, r5, r6, r7⟩
            case measure => simp [intOf] <;> omega
        · have hjn : j = n := by omega
          have Hjn := Lib.hid hjn
          have hil : (List.take i (lines0 M)).length = i := by rw [List.length_take, lines0_length]; omega
          have hVr := hV.row
          rw [hil] at hVr
          have HVr := Lib.hid (ownsRow_ext hVr hE5.out)
          have hYw : w.heap.size ≤ Y.heap.size + 1 := by have := hE.size; have := hE5.out.size; omega
          clear hjn hVr hil
          go_wp2_with (at_builtin; refine wpList_append_lies _ rfl _ _ 102 rfl w.heap.size 106 i0 _ 2 48 Tryz.underlying102 hi hz0 hz1 hz2 rfl (by omega) _ i (hdrs n M.length ad) rfl (HVr.out.alloc _) ⟨Y.heap.size, 0, none⟩ 1 1 [xv j gx cx, slv gy M.length cy] rfl rfl (World.news_of_block (cs := #[xv j gx cx, slv gy M.length cy]) (t := 106) (fr := (0, 0)) (heap_alloc_new Y _)) (line_one _ _ _ _ _ _) (by omega) (by unfold maxLen; omega) (by omega) (by simpa using hYw) (Y.heap.size + 1) (by simp) ?_; intro gg cap2 w8 hown8 hgrow8 hat8 hlt8)
          have hst : LnsV w.heap.size w8 (slv gg (i + 1) cap2) (ad ++ [⟨gx, cx, gy, cy⟩]) ((lines0 M).take (i + 1)) n M.length ∧ Ext w w8 := by
            have hjn := Hjn.out
            subst hjn
            have hil : i < (lines0 M).length := by simpa using hlt
            have hrl : M[i].length = j := HRt.out _ (List.getElem_mem hlt)
            refine lline_step hV hil hE hE5.out ?_ ?_ (fun h => (hNe.out h).2) ?_ hown8 hgrow8 hat8
            · rw [lines0_get hlt]; exact ⟨hrl, by simp [unitR]⟩
            · rw [lines0_get hlt]
              have := hOx.out
              rw [List.take_of_length_le (by omega)] at this
              exact this
            · rw [lines0_get hlt]; exact hOy.out
          obtain ⟨hV8, hE8⟩ := hst
          clear hown8 hgrow8 hat8 hlt8
          go_wp2_with fail
          go_roundw
          case rel => exact ⟨i + 1, _, by omega, by go_num, hV8, hE8⟩
          case measure => simp [intOf] <;> omega
    · have hie : i = M.length := by omega
      subst hie
      go_wp2_with fail
      go_ret
      exact ⟨_, ad, rfl, by rw [List.take_of_length_le (by simp)] at hV; exact hV, hE⟩
end Go.Proofs.YtkjnjmihfonilaaGreatDoor
namespace Go.Proofs.YtkjnjmihfonilaaGreatDoor
open Go.RowKit Go.Sort
theorem itoa_eq_one (z : Int) : (Lib.itoa z != [49]) = decide (z ≠ 1) := by
  have h1 : Lib.itoa 1 = [49] := by
    have := I_one
    unfold I S at this
    injection this with this
    have e := congrArg ByteArray.data this
    exact congrArg Array.toList e
  by_cases h : z = 1
  · subst h; rw [h1]; simp
  · rw [decide_eq_true h]
    simp only [bne_iff_ne, ne_eq]
    intro hc
    exact h (itoa_inj (hc.trans h1.symm))
def UnPost (w : World) (M : Mx) (e : Ending) (w' : World) : Prop :=
  ∃ b, e = .returned (.tuple #[.bool b, .int .i64 0]) ∧ (ncols M ≠ M.length → b = false) ∧ (ncols M = M.length → ∃ G, HnfOf (ncols M) M G ∧ (b = true ↔ (G.length = M.length ∧ ∀ i, i < M.length → eM G i i = 1))) ∧ Ext w w'
set_option maxRecDepth 100000 in
set_option maxHeartbeats 2000000 in
theorem Unimodular_ok {w : World} {v : Value} {S : Mx} (hS : MatR w v S) (hc2 : checkM S = 0) (hk : 13 * (bC S.length 30 (ncols S) + 2) < LIM) (hL : Laid w) :
    Calls Tryz.prog 29 #[v] w (UnPost w S) := by
  obtain ⟨hs12, ht12, hrectS, hentS⟩ := checkM_ok hc2
  have hck := Lib.hid (tableCheck_any hS)
  rw [hc2] at hck
  have HS := Lib.hid hS
  have HL := Lib.hid hL
  have HRS := Lib.hid hrectS
  have HeS := Lib.hid hentS
  have Hk := Lib.hid hk
  have hcol := Lib.hid (fun W (hW : Ext w W) => columns_any (HS.out.ext hW))
  have hli := Lib.hid (fun W (hW : Ext w W) => lines_any (n := ncols S) (HS.out.ext hW) HRS.out (by omega) (by omega) (fun r hr z hz => by have := HeS.out r hr z hz; unfold I64; omega) (HL.out.ext hW))
  obtain ⟨sf, _, _, cf, _, hvs, -⟩ := hS
  subst hvs
  clear hL hc2 hrectS hentS hk
  obtain ⟨m, hm⟩ : ∃ m, m = S.length := ⟨_, rfl⟩
  obtain ⟨c, hc⟩ : ∃ c, c = ncols S := ⟨_, rfl⟩
  have Hm := Lib.hid hm
  have Hc := Lib.hid hc
  rw [← hm] at hs12 hck
  rw [← hc] at ht12
  rw [← hm]
  clear hm hc
  by_cases hne : c = m
  · go_enter Tryz.func29, Tryz.ntmps29
    go_wp2_with fail
    refine hck.out.mono ?_
    rintro e w1 ⟨rfl, hE1⟩
    have hcol1 := Lib.hid (hcol.out w1 hE1)
    rw [← Hm.out, ← Hc.out] at hcol1
    clear hck hcol
    subst hne
    go_wp2_with fail
    refine hcol1.out.mono ?_
    rintro e w2 ⟨rfl, hE2⟩
    have hE12 := hE1.trans hE2
    have hli2 := Lib.hid (hli.out w2 hE12)
    rw [← Hm.out] at hli2
    clear hcol1 hli
    go_wp2_with fail
    refine hli2.out.mono ?_
    rintro e w3 ⟨v3, ad, rfl, hV, hE3⟩
    have hEw3 := hE12.trans hE3
    have hsh : ∃ ga cp, v3 = .slice ga c cp ∧ c ≤ cp ∧ (0 < c → ∃ g, ga = some ⟨g, 0, none⟩) := by
      have hr := hV.row
      rw [lines0_length, ← Hm.out] at hr
      rcases hr.2 with ⟨rfl, h0⟩ | ⟨g, cap, cur, rfl, hb, hg, hn, hm, hs, ht⟩
      · rw [h0]; exact ⟨none, 0, rfl, Nat.le_refl _, fun h => by omega⟩
      · exact ⟨_, cap, rfl, hn, fun _ => ⟨g, rfl⟩⟩
    obtain ⟨ga, cp, rfl, hcp, hgs⟩ := hsh
    have HV := Lib.hid hV
    clear hV hli2
    by_cases hn0 : c = 0
    · have HG := Lib.hid (show HnfOf (ncols S) S [] by rw [← Hc.out, hn0]; exact hnf_nil (M := S) (by rw [← hn0, Hc.out]; exact HRS.out))
      subst hn0
      go_wp2_with fail
      refine (echelon_zero rfl).mono ?_
      rintro e w5 ⟨rfl, rfl⟩
      go_wp2_with fail
      go_loopw [29] (fun idx wr => idx = .int .i64 0 ∧ wr = w5) (fun _ _ => 0)
      case atStart => exact ⟨rfl, rfl⟩
      case round =>
        obtain ⟨rfl, hwr⟩ := hrel
        subst hwr
        go_wp2_with fail
        go_ret2
        exact ⟨true, rfl, fun h => absurd (Hc.out.symm.trans Hm.out) h, fun _ => ⟨[], HG.out, ⟨fun _ => ⟨Hm.out, fun i hi => by rw [← Hm.out] at hi; omega⟩, fun _ => rfl⟩⟩, hEw3⟩
    · have hnp : 0 < c := by omega
      obtain ⟨g, rfl⟩ := hgs hnp
      have hlns : Lns w2.heap.size w3 g ad (lines0 S) := by
        have := HV.out
        have h2 : LnsV w2.heap.size w3 (slv g (lines0 S).length cp) ad (lines0 S) (ncols S) S.length := by rw [lines0_length, ← Hm.out]; exact this
        exact h2.lns (by rw [← Hc.out]; exact hnp)
      have hech := Lib.hid (echelon_walk (w0 := w2) (w := w3) (g := g) (cp := cp) (n := ncols S) (m := S.length) (L := S.length) (k := 30) (by simp) (by have := Hm.out; have := Hc.out; omega) (by have := Hm.out; have := Hc.out; omega) (by have := Hm.out; have := Hc.out; omega) (by have := Hm.out; have := Hc.out; omega) hlns (lines0_dim HRS.out) (lines0_all HeS.out) (by have := Hk.out; omega) (HL.out.ext hE12) hE3)
      rw [← Hm.out, ← Hc.out] at hech
      clear hlns hgs hn0 HV
      go_wp2_with fail
      refine hech.out.mono ?_
      rintro e w5 ⟨d, ps, ad', ls', rfl, hL5, hF5, hO5, hA5, hE5⟩
      rw [Hc.out] at hF5
      have HnF := form_of HRS.out hO5 hF5
      have hdl := hF5.le
      have hll : ls'.length = S.length := by rw [hO5.length]; simp
      have hGl := fRows_length hdl
      have hen := fun i (h : i < d) j => eM_fRows (d := d) (ls := ls') h j hdl
      have Hdim := Lib.hid ((lines0_dim HRS.out).ops hO5)
      have Hll := Lib.hid hll
      have hEw5 := hE12.trans hE5
      obtain ⟨G, hG⟩ : ∃ G, G = fRows d ls' := ⟨_, rfl⟩
      rw [← hG] at HnF hGl
      have Hen := Lib.hid (fun i (h : i < d) j => show eM G i j = en ls' i j by rw [hG]; exact hen i h j)
      have HG := Lib.hid HnF
      have HGl := Lib.hid hGl
      have hdS : d ≤ c := by have := Hm.out; omega
      have hcS : c = S.length := Hm.out
      have HcS := Lib.hid hcS
      have HcN := Lib.hid (show ncols S = S.length by rw [← Hc.out, ← Hm.out])
      clear hech hO5 hF5 hA5 hdl hll hen hG HnF hGl hcS
      by_cases hdF : d < c
      · have hdFi : (d : Int) < (c : Int) := by omega
        have hfin := Lib.hid (show UnPost w S (.returned (.tuple #[.bool false, .int .i64 0])) w5 from ⟨false, rfl, fun _ => rfl, fun _ => ⟨G, HG.out, ⟨(fun h => by cases h), (fun h => by have h1 := h.1; rw [HGl.out, ← HcS.out] at h1; omega)⟩⟩, hEw5⟩)
        go_wp2_with fail
        go_ret2
        exact hfin.out
      · have hdc : d = c := by omega
        subst hdc
        clear hdS hdF
        go_wp2_with fail
        go_loopw [29] (fun idx wr => ∃ i : Nat, i ≤ d ∧ idx = .int .i64 i ∧ Hid (∀ j, j < i → eM G j j = 1) ∧ Ext w5 wr) (fun idx _ => d - (intOf idx).toNat)
        case atStart => exact ⟨0, by omega, by go_num, Lib.hid (fun j h => by omega), Ext.refl _⟩
        case round =>
          obtain ⟨i, hi, rfl, hO, hE6⟩ := hrel
          generalize wr = X at *
          by_cases hlt : i < d
          · have hii : (i : Int) < (d : Int) := by omega
            obtain ⟨gx, cx, gy, cy, ead, c1, c2, cz, o1, o2, _, _, _⟩ := (hL5.ext hE6).ln (d := 0) (c := i) (i := i) (o := i * 2) Hdim.out (by rw [Hll.out, ← HcS.out]; omega) (by omega) (by rw [← Hc.out]; omega)
            have hen : cols i 0 ls' i = eM G i i := by
              rw [Hen.out i hlt]; unfold cols en; rw [Nat.zero_add]
            rw [hen] at cz
            rw [← Hc.out] at c1
            obtain ⟨z, hz⟩ : ∃ z, z = eM G i i := ⟨_, rfl⟩
            rw [← hz] at cz
            have Hz := Lib.hid hz
            have hitz := itoa_eq_one z
            have lgx := o1.lt.2
            have hE7 := hEw5.trans hE6
            clear hen hz o1 o2 ead
            by_cases hz1 : z = 1
            · rw [decide_eq_false (by simpa using hz1)] at hitz
              have hitz2 : (Lib.itoa z == [49]) = true := by simpa [bne] using hitz
              have HO2 := Lib.hid (show ∀ j, j < i + 1 → eM G j j = 1 from fun j hj => by
                by_cases e : j = i
                · subst e; rw [← Hz.out]; exact hz1
                · exact hO.out j (by omega))
              clear hz1
              go_wp2_with fail
              go_roundw
              case rel => exact ⟨i + 1, by omega, by go_num, HO2, hE6.alloc _⟩
              case measure => simp [intOf] <;> omega
            · rw [decide_eq_true hz1] at hitz
              have hitz2 : (Lib.itoa z == [49]) = false := by simpa [bne] using hitz
              have hfin := fun W (hW : Ext w W) => Lib.hid (show UnPost w S (.returned (.tuple #[.bool false, .int .i64 0])) W from ⟨false, rfl, fun _ => rfl, fun _ => ⟨G, HG.out, ⟨(fun h => by cases h), (fun h => absurd (by rw [Hz.out]; exact h.2 i (by rw [← HcS.out]; exact hlt)) hz1)⟩⟩, hW⟩)
              have Hfin := Lib.hid hfin
              clear hfin hz1
              go_wp2_with fail
              go_ret2
              exact (Hfin.out _ (hE7.alloc _)).out
          · have hie : i = d := by omega
            have hfin := Lib.hid (show UnPost w S (.returned (.tuple #[.bool true, .int .i64 0])) X from ⟨true, rfl, fun h => absurd HcN.out h, fun _ => ⟨G, HG.out, ⟨fun _ => ⟨by rw [HGl.out, ← HcS.out], fun j hj => hO.out j (by rw [← HcS.out] at hj; omega)⟩, fun _ => rfl⟩⟩, hEw5.trans hE6⟩)
            go_wp2_with fail
            go_ret2
            exact hfin.out
  · have hne2 : ((c : Int) != (m : Int)) = true := by simp [bne, beq_eq_false_iff_ne.2 (show (c : Int) ≠ (m : Int) by omega)]
    have hne1 : ((c : Int) == (m : Int)) = false := beq_eq_false_iff_ne.2 (by omega)
    have HcN := Lib.hid (show ncols S ≠ S.length by rw [← Hc.out, ← Hm.out]; exact hne)
    go_enter Tryz.func29, Tryz.ntmps29
    go_wp2_with fail
    refine hck.out.mono ?_
    rintro e w1 ⟨rfl, hE1⟩
    have hcol1 := Lib.hid (hcol.out w1 hE1)
    rw [← Hm.out, ← Hc.out] at hcol1
    clear hck hcol hne
    go_wp2_with fail
    refine hcol1.out.mono ?_
    rintro e w2 ⟨rfl, hE2⟩
    have hfin := Lib.hid (show UnPost w S (.returned (.tuple #[.bool false, .int .i64 0])) w2 from ⟨false, rfl, fun _ => rfl, fun h => absurd h HcN.out, hE1.trans hE2⟩)
    go_wp2_with fail
    go_ret2
    exact hfin.out
end Go.Proofs.YtkjnjmihfonilaaGreatDoor
namespace Go.Proofs.YtkjnjmihfonilaaGreatDoor
open Go.RowKit Go.Sort
theorem uni_num : ∀ n : Fin 5, 13 * (bC n.val 30 n.val + 2) < LIM := by decide +kernel
def chE (r : Nat) (B : Mx) : Int := if checkM B = 0 then (if B.length ≠ r ∨ 0 < r ∧ ncols B ≠ r then 5 else 0) else checkM B
def ChgPost (w : World) (M B : Mx) (ub : Bool) (e : Ending) (w' : World) : Prop :=
  Ext w w' ∧ ((chE M.length B ≠ 0 ∧ e = .returned (.tuple #[.slice none 0 0, .int .i64 (chE M.length B)])) ∨ (chE M.length B = 0 ∧ M.length = 0 ∧ e = .returned (.tuple #[.slice none 0 0, .int .i64 0])) ∨
    (chE M.length B = 0 ∧ 0 < M.length ∧ ub = false ∧ e = .returned (.tuple #[.slice none 0 0, .int .i64 7])) ∨ (chE M.length B = 0 ∧ 0 < M.length ∧ ub = true ∧ MulPost w (mulM (ncols M) B M) e w'))
def UnB (B : Mx) (ub : Bool) : Prop := ∃ G, HnfOf (ncols B) B G ∧ (ub = true ↔ (G.length = B.length ∧ ∀ i, i < B.length → eM G i i = 1))
theorem UnB.uniq {B : Mx} {a b : Bool} (ha : UnB B a) (hb : UnB B b) : a = b := by
  obtain ⟨G, hG, h1⟩ := ha
  obtain ⟨H, hH, h2⟩ := hb
  have hGH : G = H := hG.unique hH (fun v hv => .mem hv) (fun v hv => .mem hv)
  subst hGH
  cases a <;> cases b
  · rfl
  · exact h1.2 (h2.1 rfl)
  · exact (h2.2 (h1.1 rfl)).symm
  · rfl
set_option maxRecDepth 100000 in
set_option maxHeartbeats 4000000 in
theorem gChange_any {w : World} {P : List Int} {C M : Mx} {sp : Option Addr} {cp : Nat} {sc : Option Addr} {lc cc : Nat} {sm : Option Addr} {lm cm : Nat} {sb : Option Addr} {nb kb : Nat} {B : Mx} (h : TmV w P C M M sp cp sc lc cc sm lm cm) (hB : MatR w (.slice sb nb kb) B) (hL : Laid w) :
    Calls Tryz.prog 27 #[tmS P sp cp sc lc cc sm lm cm, .slice sb nb kb] w fun e w' => ∃ ub, (chE M.length B = 0 → 0 < M.length → UnB B ub) ∧ ChgPost w M B ub e w' := by
  have hck := fun W (hW : Ext w W) => tCheck_any (h.ext hW) (hL.ext hW)
  rw [tmE_same] at hck
  have Hck := Lib.hid hck
  have hml : lm = M.length := by obtain ⟨_, _, _, _, _, e, _⟩ := h.hM; injection e
  subst hml
  have htc := Lib.hid (fun W (hW : Ext w W) => tableCheck_any (hB.ext hW))
  obtain ⟨psM, hIM⟩ := h.ok.kM.1
  have hlM := isH_len hIM
  have hp4 := h.ok.p4
  have hckM := (chk_of_form hIM (by omega) (by omega) h.ok.sM).1
  have hun := Lib.hid (fun (hc : checkM B = 0) (hl : B.length = M.length) (hn : ncols B = M.length) W (hW : Ext w W) => Unimodular_ok (hB.ext hW) hc (by rw [hl, hn]; exact uni_num ⟨M.length, by omega⟩) (hL.ext hW))
  have hmu := Lib.hid (fun (hc : checkM B = 0) (hn : ncols B = M.length) W (hW : Ext w W) => mul_any (hB.ext hW) (h.hM.ext hW) hc hckM hn (hL.ext hW))
  have hnb : nb = B.length := by obtain ⟨_, _, _, _, _, e, _⟩ := hB; injection e
  subst hnb
  have hX := (Ext.refl w).alloc (.cells #[.slice sp P.length cp, .slice sc lc cc, .slice sm M.length cm] 34)
  have x0 : (w.alloc (.cells #[.slice sp P.length cp, .slice sc lc cc, .slice sm M.length cm] 34)).cell? ⟨w.heap.size, 0, none⟩ = some (.slice sp P.length cp) := by go_simp
  have x1 : (w.alloc (.cells #[.slice sp P.length cp, .slice sc lc cc, .slice sm M.length cm] 34)).cell? ⟨w.heap.size, 1, none⟩ = some (.slice sc lc cc) := by go_simp
  have x2 : (w.alloc (.cells #[.slice sp P.length cp, .slice sc lc cc, .slice sm M.length cm] 34)).cell? ⟨w.heap.size, 2, none⟩ = some (.slice sm M.length cm) := by go_simp
  have HB := Lib.hid hB
  have hchk : ∀ W e, Ext w W → e = .returned (.tuple #[.slice none 0 0, .int .i64 (chE M.length B)]) → chE M.length B ≠ 0 → ∃ ub, (chE M.length B = 0 → 0 < M.length → UnB B ub) ∧ ChgPost w M B ub e W := fun W e hW he hn => ⟨false, fun h => absurd h hn, hW, .inl ⟨hn, he⟩⟩
  have Hchk := Lib.hid hchk
  clear h hB hL hck hIM hckM hlM hp4 hchk
  by_cases hc : checkM B = 0
  · rw [hc] at htc
    by_cases hl : B.length = M.length
    · by_cases h0 : M.length = 0
      · have He := Lib.hid (show chE M.length B = 0 by unfold chE; rw [if_pos hc, if_neg (by omega)])
        have Hl := Lib.hid hl
        have H0 := Lib.hid h0
        have hB0 : B.length = 0 := by omega
        rw [h0] at x2 x1 x0 hX Hck ⊢
        rw [hB0] at htc ⊢
        clear hl h0 hB0 hc hun hmu HB
        go_enter Tryz.func27, Tryz.ntmps27
        go_wp2_with fail
        refine (Hck.out _ hX).mono ?_
        rintro e X1 ⟨rfl, hE1⟩
        replace x2 := hE1.cell x2
        have e1 := hX.trans hE1
        clear hX hE1 Hck x0 x1
        go_wp2_with fail
        refine (htc.out _ e1).mono ?_
        rintro e X2 ⟨rfl, hE2⟩
        replace x2 := hE2.cell x2
        have e2 := e1.trans hE2
        clear hE2 htc
        go_wp2_with fail
        go_ret2
        exact ⟨false, fun _ h => (by have := H0.out; omega), e2, .inr (.inl ⟨He.out, H0.out, rfl⟩)⟩
      · by_cases hn : ncols B = M.length
        · have He := Lib.hid (show chE M.length B = 0 by unfold chE; rw [if_pos hc, if_neg (by omega)])
          have hun1 := Lib.hid (hun.out hc hl hn)
          have hmu1 := Lib.hid (hmu.out hc hn)
          obtain ⟨_, gb, ob, kb', vsb, eb, _, hvb, hSb, hrb⟩ := HB.out
          injection eb with q1 q2 q3
          subst q1 q3
          obtain ⟨sr, br, or, cr, hrow, hrc, hSr⟩ := MatR.row hSb hvb hrb (show 0 < B.length by omega)
          have hr0 : B[0].length = M.length := by rw [← hn]; unfold ncols; rw [getD_get (by omega)]
          obtain rfl := hSb.addr (by omega)
          rw [hr0, Nat.add_zero] at hrow
          have Hl := Lib.hid hl
          have Hn := Lib.hid hn
          have H0 := Lib.hid (show 0 < M.length by omega)
          have h0I : ¬ (M.length : Int) = 0 := by omega
          have h0p : (0 : Int) < (M.length : Int) := by omega
          have h0b : ((M.length : Int) == 0) = false := beq_eq_false_iff_ne.2 h0I
          rw [hl] at htc ⊢
          rw [hl] at hun1 hmu1
          have Hrow := Lib.hid hrow
          clear hl hn h0 hc hun hmu HB q2 hvb hSr hSb hrb hrow hrc hr0
          go_enter Tryz.func27, Tryz.ntmps27
          go_wp2_with fail
          refine (Hck.out _ hX).mono ?_
          rintro e X1 ⟨rfl, hE1⟩
          replace x2 := hE1.cell x2
          have e1 := hX.trans hE1
          clear hX hE1 Hck x0 x1
          go_wp2_with fail
          refine (htc.out _ e1).mono ?_
          rintro e X2 ⟨rfl, hE2⟩
          replace x2 := hE2.cell x2
          have hrw := (e1.trans hE2).cell Hrow.out
          have e2 := e1.trans hE2
          clear hE2 htc
          go_wp2_with fail
          refine (hun1.out _ e2).mono ?_
          rintro e X3 ⟨ub, rfl, _, hub, hE3⟩
          replace x2 := hE3.cell x2
          have e3 := e2.trans hE3
          have Hub := Lib.hid (show UnB B ub from hub (by rw [Hn.out, Hl.out]))
          clear hub hun1
          cases ub
          · go_wp2_with fail
            go_ret2
            exact ⟨false, fun _ _ => Hub.out, e3, .inr (.inr (.inl ⟨He.out, H0.out, rfl, rfl⟩))⟩
          · have hmu2 := Lib.hid (hmu1.out _ e3)
            clear hmu1
            go_wp2_with fail
            refine hmu2.out.mono ?_
            rintro e X4 ⟨hE4, (⟨ha, v, rfl, hv⟩ | ⟨ha, rfl⟩)⟩
            · have hs3 := e3.size
              have e4 := e3.trans hE4
              have Hq := Lib.hid (And.intro ha (hv.mono hs3))
              clear ha hv
              go_wp2_with fail
              go_ret2
              exact ⟨true, fun _ _ => Hub.out, e4, .inr (.inr (.inr ⟨He.out, H0.out, rfl, e4, .inl ⟨Hq.out.1, _, rfl, Hq.out.2⟩⟩))⟩
            · have e4 := e3.trans hE4
              have Ha := Lib.hid ha
              clear ha
              go_wp2_with fail
              go_ret2
              exact ⟨true, fun _ _ => Hub.out, e4, .inr (.inr (.inr ⟨He.out, H0.out, rfl, e4, .inr ⟨Ha.out, rfl⟩⟩))⟩
        · have He := Lib.hid (show chE M.length B = 5 by unfold chE; rw [if_pos hc, if_pos (.inr ⟨by omega, hn⟩)])
          obtain ⟨_, gb, ob, kb', vsb, eb, _, hvb, hSb, hrb⟩ := HB.out
          injection eb with q1 q2 q3
          subst q1 q3
          obtain ⟨sr, br, or, cr, hrow, hrc, hSr⟩ := MatR.row hSb hvb hrb (show 0 < B.length by omega)
          have hr0 : B[0].length = ncols B := by unfold ncols; rw [getD_get (by omega)]
          obtain rfl := hSb.addr (by omega)
          rw [hr0, Nat.add_zero] at hrow
          have h0p : (0 : Int) < (M.length : Int) := by omega
          have hnI : ¬ (ncols B : Int) = (M.length : Int) := by omega
          have hnb : ((ncols B : Int) == (M.length : Int)) = false := beq_eq_false_iff_ne.2 hnI
          have hnn : ((ncols B : Int) != (M.length : Int)) = true := by simp [bne, hnb]
          rw [hl] at htc ⊢
          have Hrow := Lib.hid hrow
          clear hl hn h0 hc hun hmu HB q2 hvb hSr hSb hrb hrow hrc hr0
          generalize ncols B = nc at *
          go_enter Tryz.func27, Tryz.ntmps27
          go_wp2_with fail
          refine (Hck.out _ hX).mono ?_
          rintro e X1 ⟨rfl, hE1⟩
          replace x2 := hE1.cell x2
          have e1 := hX.trans hE1
          clear hX hE1 Hck x0 x1
          go_wp2_with fail
          refine (htc.out _ e1).mono ?_
          rintro e X2 ⟨rfl, hE2⟩
          replace x2 := hE2.cell x2
          have hrw := (e1.trans hE2).cell Hrow.out
          have e2 := e1.trans hE2
          clear hE2 htc
          go_wp2_with fail
          go_ret2
          exact Hchk.out _ _ e2 (by rw [He.out]; rfl) (by rw [He.out]; decide)
    · have He := Lib.hid (show chE M.length B = 5 by unfold chE; rw [if_pos hc, if_pos (.inl hl)])
      have hlI : ¬ (B.length : Int) = (M.length : Int) := by omega
      have hlb : ((B.length : Int) == (M.length : Int)) = false := beq_eq_false_iff_ne.2 hlI
      have hln : ((B.length : Int) != (M.length : Int)) = true := by simp [bne, hlb]
      clear hl hc hun hmu HB
      go_enter Tryz.func27, Tryz.ntmps27
      go_wp2_with fail
      refine (Hck.out _ hX).mono ?_
      rintro e X1 ⟨rfl, hE1⟩
      replace x2 := hE1.cell x2
      have e1 := hX.trans hE1
      clear hX hE1 Hck x0 x1
      go_wp2_with fail
      refine (htc.out _ e1).mono ?_
      rintro e X2 ⟨rfl, hE2⟩
      replace x2 := hE2.cell x2
      have e2 := e1.trans hE2
      clear hE2 htc
      go_wp2_with fail
      go_ret2
      exact Hchk.out _ _ e2 (by rw [He.out]; rfl) (by rw [He.out]; decide)
  · obtain ⟨z, hz⟩ : ∃ z, z = checkM B := ⟨_, rfl⟩
    have He := Lib.hid (show chE M.length B = z by unfold chE; rw [if_neg hc, hz])
    rw [← hz] at hc htc
    have h2 : (z == 0) = false := beq_eq_false_iff_ne.2 hc
    have h3 : (z != 0) = true := by simp [bne, h2]
    have Hc := Lib.hid hc
    clear hz hc hun hmu HB
    go_enter Tryz.func27, Tryz.ntmps27
    go_wp2_with fail
    refine (Hck.out _ hX).mono ?_
    rintro e X1 ⟨rfl, hE1⟩
    replace x2 := hE1.cell x2
    have e1 := hX.trans hE1
    clear hX hE1 Hck x0 x1
    go_wp2_with fail
    refine (htc.out _ e1).mono ?_
    rintro e X2 ⟨rfl, hE2⟩
    replace x2 := hE2.cell x2
    have e2 := e1.trans hE2
    clear hE2 htc
    go_wp2_with fail
    go_ret2
    exact Hchk.out _ _ e2 (by rw [He.out]; rfl) (by rw [He.out]; exact Hc.out)
end Go.Proofs.YtkjnjmihfonilaaGreatDoor
