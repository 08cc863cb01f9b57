/- Part 33 of the proof of the claim: contracts of the functions that it reaches, and plain laws; no condition. -/
import Derived.Test.YtokjolmpdfmnbaaGreatDoorW32
import Derived.Test.YtokjolmpdfmnbaaGreatDoorW11
import Derived.Test.YtokjolmpdfmnbaaGreatDoorW31
import Derived.Test.YtokjolmpdfmnbaaGreatDoorW30
import Derived.Test.YtokjolmpdfmnbaaGreatDoorW17
import Derived.Test.YtokjolmpdfmnbaaGreatDoorW25
namespace Go.Proofs.YtokjolmpdfmnbaaGreatDoor
open Go.RowKit Go.Sort
theorem Tryz.infoLine : (Tryz.prog.info? 171).map (fun i => (i.zero, i.size, i.bytes)) = some (some (.agg #[.slice none 0 0, .slice none 0 0]), 2, 48) := by kernel_rfl
theorem lline_step {w X Y w8 : World} {v : Value} {gx cx gy cy gg cap2 i n m : Nat} {ad : List Ad} {ls : List Ln} (hV : LnsV w.heap.size X v ad (ls.take i) n m) (hi : i < ls.length) (hE : Ext w X) (hE5 : Ext X Y)
    (hd : ls[i].1.length = n ∧ ls[i].2.length = m)
    (hOx : Y.ownsRow X.heap.size 94 1 (xv n gx cx) n (ss ls[i].1)) (hNe : 0 < n → gx ≠ gy) (hOy : OwnV 94 X.heap.size Y gy cy (ss ls[i].2))
    (hown8 : w8.ownsRow w.heap.size 171 2 (slv gg (i + 1) cap2) (i + 1) (hdrs n m ad ++ [xv n gx cx, slv gy m cy])) (hgrow8 : (Y.alloc (.cells #[xv n gx cx, slv gy m cy] 171)).grownBy w8 v.ownBlock)
    (hat8 : v.ownBlock = some gg ∨ gg = Y.heap.size + 1) :
    LnsV w.heap.size w8 (slv gg (i + 1) cap2) (ad ++ [⟨gx, cx, gy, cy⟩]) (ls.take (i + 1)) n m ∧ Ext w w8 := by
  have hle : (ls.take i).length = i := by rw [List.length_take]; omega
  have hal : ad.length = i := by rw [hV.len, hle]
  have hE8 : Ext X (Y.alloc (.cells #[xv n gx cx, slv gy m cy] 171)) := hE5.alloc _
  have hEY : Ext Y (Y.alloc (.cells #[xv n gx cx, slv gy m cy] 171)) := (Ext.refl Y).alloc _
  have hvb : ∀ q, v.ownBlock = some q → w.heap.size ≤ q ∧ q < X.heap.size := fun q hq => World.ownsRow.lt hV.row q hq
  have hwX := hE.size
  have hXY := hE5.size
  have hgy := hOy.lt
  have hgx : 0 < n → X.heap.size ≤ gx ∧ gx < Y.heap.size := fun h => World.ownsRow.lt hOx gx (by rw [xv_pos h]; rfl)
  have hoX : 0 < n → OwnV 94 X.heap.size Y gx cx (ss ls[i].1) := fun h => by
    have := hOx; rw [xv_pos h] at this; exact OwnV.of_row this
  have hold : ∀ t (h : t < (ls.take i).length) (h' : t < ad.length), ad[t].gy < X.heap.size ∧ (0 < n → ad[t].gx < X.heap.size) := fun t h h' => ⟨(hV.y t h h').lt.2, fun hn => (hV.x hn t h h').lt.2⟩
  have hgg : gg < X.heap.size ∨ Y.heap.size < gg := by
    rcases hat8 with h | h
    · exact .inl (hvb gg h).2
    · right; omega
  have hkeep : ∀ {g c : Nat} {l : List Int}, OwnV 94 w.heap.size X g c (ss l) → v.ownBlock ≠ some g → OwnV 94 w.heap.size w8 g c (ss l) := fun h hne =>
    World.ownsRow.kept (h.ext hE8) hgrow8 (.inr (fun e => hne e.symm))
  have hnew : ∀ {g c : Nat} {l : List Int}, OwnV 94 X.heap.size Y g c (ss l) → OwnV 94 w.heap.size w8 g c (ss l) := fun {g c l} h => by
    have hg := h.lt
    refine World.ownsRow.kept ((h.ext hEY).mono hwX) hgrow8 (.inr (fun e => ?_))
    have := (hvb g e.symm).2; omega
  have hgo : ∀ t (h' : t < ad.length), gg ≠ ad[t].gy ∧ (0 < n → gg ≠ ad[t].gx) := fun t h' => by
    have ho := hold t (by omega) h'
    have hw := hV.own t h'
    rcases hat8 with h | h
    · rw [h] at hw; exact ⟨fun e => hw.1 (by rw [e]), fun hn e => (hw.2 hn).1 (by rw [e])⟩
    · exact ⟨by omega, fun hn => by have := ho.2 hn; omega⟩
  have hl1 : (ls.take (i + 1)).length = i + 1 := by rw [List.length_take]; omega
  refine ⟨⟨?_, ?_, ?_, fun hn t a b => ?_, fun t a b => ?_, fun t a => ?_, fun s t a b hst => ?_⟩, ?_⟩
  · rw [List.length_append, hal, hl1]; rfl
  · rw [hl1, hdrs_snoc]; exact hown8
  · intro l hl
    obtain ⟨t, ht, rfl⟩ := List.getElem_of_mem hl
    rw [List.getElem_take]
    by_cases hti : t < i
    · have := hV.dim.get (i := t) (by omega)
      rw [List.getElem_take] at this; exact this
    · have : t = i := by omega
      subst this; exact hd
  · rw [hl1] at a
    by_cases hti : t < i
    · have := hV.x hn t (by omega) (by omega)
      rw [List.getElem_append_left (by omega), List.getElem_take]
      rw [List.getElem_take] at this
      exact hkeep this (((hV.own t (by omega)).2 hn).1)
    · have : t = i := by omega
      subst this
      rw [List.getElem_append_right (by omega), List.getElem_take]
      simp only [hal, Nat.sub_self, List.getElem_cons_zero]
      exact hnew (hoX hn)
  · rw [hl1] at a
    by_cases hti : t < i
    · have := hV.y t (by omega) (by omega)
      rw [List.getElem_append_left (by omega), List.getElem_take]
      rw [List.getElem_take] at this
      exact hkeep this (hV.own t (by omega)).1
    · have : t = i := by omega
      subst this
      rw [List.getElem_append_right (by omega), List.getElem_take]
      simp only [hal, Nat.sub_self, List.getElem_cons_zero]
      exact hnew hOy
  · have hob : (slv gg (i + 1) cap2).ownBlock = some gg := rfl
    rw [hob]
    rw [List.length_append, hal] at a
    by_cases hti : t < i
    · rw [List.getElem_append_left (by omega)]
      have h1 := hgo t (by omega)
      exact ⟨fun e => h1.1 (by injection e), fun hn => ⟨fun e => h1.2 hn (by injection e), ((hV.own t (by omega)).2 hn).2⟩⟩
    · have : t = i := by simp at a; omega
      subst this
      rw [List.getElem_append_right (by omega)]
      simp only [hal, Nat.sub_self, List.getElem_cons_zero]
      refine ⟨fun e => ?_, fun hn => ⟨fun e => ?_, hNe hn⟩⟩
      · injection e with e; omega
      · injection e with e; have := hgx hn; omega
  · rw [List.length_append, hal] at a b
    simp only [List.length_cons, List.length_nil] at a b
    by_cases hsi : s < i
    · by_cases hti : t < i
      · rw [List.getElem_append_left (by omega), List.getElem_append_left (by omega)]
        exact hV.dis s t (by omega) (by omega) hst
      · have : t = i := by omega
        subst this
        rw [List.getElem_append_left (by omega), List.getElem_append_right (by omega)]
        simp only [hal, Nat.sub_self, List.getElem_cons_zero]
        have ho := hold s (by omega) (by omega)
        exact ⟨by omega, fun hn => ⟨by have := hgx hn; have := ho.2 hn; omega, by have := ho.2 hn; omega, by have := hgx hn; omega⟩⟩
    · have : s = i := by omega
      subst this
      have hti : t < s := by omega
      rw [List.getElem_append_right (by omega), List.getElem_append_left (by omega)]
      simp only [hal, Nat.sub_self, List.getElem_cons_zero]
      have ho := hold t (by omega) (by omega)
      exact ⟨by omega, fun hn => ⟨by have := hgx hn; have := ho.2 hn; omega, by have := hgx hn; omega, by have := ho.2 hn; omega⟩⟩
  · exact Ext.mk' (Below.grown (hE.trans hE8) hgrow8 (hE.trans hE8).size (fun q hq => (hvb q hq).1))
set_option maxRecDepth 100000 in
set_option maxHeartbeats 1000000 in
theorem lines_any {w : World} {v : Value} {M : Mx} {n : Nat} (hM : MatR w v M) (hR : Rect n M) (hl : M.length ≤ 1000000) (hn : n ≤ 1000000) (h64 : ∀ r ∈ M, ∀ z ∈ r, I64 z) (hL : Laid w) :
    Calls Tryz.prog 118 #[v] w fun e w' => ∃ v' ad, e = .returned v' ∧ LnsV w.heap.size w' v' ad (lines0 M) n M.length ∧ Ext w w' := by
  obtain ⟨sa, gb, go, cap, vs, rfl, hcap, hvl, hS, hr⟩ := hM
  obtain ⟨i0, hi, hz0, hz1, hz2⟩ := info_parts Tryz.infoLine
  obtain ⟨s0, hs, hy0, hy1, hy2⟩ := info_parts Tryz.infoStr
  have HS := Lib.hid hS
  have HV := Lib.hid hvl
  have HR := Lib.hid hr
  have HRt := Lib.hid hR
  have H64 := Lib.hid h64
  have HL := Lib.hid hL
  clear hS hvl hr hR h64 hL
  go_enter Tryz.func118, Tryz.ntmps118
  go_wp2_with fail
  go_loopw [3, 11] (fun out idx wr => ∃ (i : Nat) (ad : List Ad), i ≤ M.length ∧ idx = .int .i64 i ∧ LnsV w.heap.size wr out ad ((lines0 M).take i) n M.length ∧ Ext w wr) (fun _ idx _ => M.length - (intOf idx).toNat)
  case atStart => exact ⟨0, [], by omega, by go_num, LnsV.nil _ _ _ _, Ext.refl _⟩
  case round =>
    obtain ⟨i, ad, hi', rfl, hV, hE⟩ := hrel
    generalize wr = X at *
    by_cases hlt : i < M.length
    · have hii : (i : Int) < (M.length : Int) := by omega
      obtain rfl := HS.out.addr (by rw [HV.out]; omega)
      obtain ⟨sr, br, or, cr, hrow, hrc, hSr⟩ := MatR.row HS.out HV.out HR.out hlt
      rw [HRt.out _ (List.getElem_mem hlt)] at hrow hrc
      have hrow' := hE.cell hrow
      have hrep := Lib.hid (fun W (hW : W.cell? ⟨X.heap.size, 0, none⟩ = some (I 0)) => repeat_any (m := M.length) hl (b := X.heap.size) (o := 0) (c := 1) (z := 0) (w := W) hW)
      clear hrow
      go_wp2_with fail
      have hz1 : I 0 = .string ⟨#[48]⟩ := by unfold I S; rw [itoa_zero]
      have hz49 : I 1 = .string ⟨#[49]⟩ := by unfold I S; rw [show (1 : Int) = ((1 : Nat) : Int) from rfl, itoa_nat, Lib.decDigits]; rfl
      have Hz49 := Lib.hid hz49
      refine (hrep.out _ (by rw [hz1]; go_simp)).mono ?_
      rintro e W1 ⟨gy, cy, rfl, hY, hE1⟩
      clear hrep hz1 hz49
      have hE2 := ((Ext.refl X).alloc (.cells #[.string ⟨#[48]⟩] 94)).trans hE1
      have hYb : X.heap.size < gy := by have := hY.lt.1; simp at this; omega
      have hYT := hY.lt.2
      have y1 := hY.cell (j := i) (by simpa using hlt)
      have y2 := hY.frozen i
      obtain ⟨hY3, hG3⟩ := hY.set i (I 1)
      rw [← ss_set, Hz49.out] at hY3
      rw [Hz49.out] at hG3
      have hE3 := (ext_trans_grown hE2 hG3 (by omega)).alloc (.cells #[.slice none 0 0, slv gy M.length cy] 171)
      have hY4 := hY3.ext ((Ext.refl _).alloc (.cells #[.slice none 0 0, slv gy M.length cy] 171))
      have hY5 : OwnV 94 X.heap.size ((W1.setCell ⟨gy, i, none⟩ (.string ⟨#[49]⟩)).alloc (.cells #[.slice none 0 0, slv gy M.length cy] 171)) gy cy (ss (unitR M.length i)) := hY4.mono (by simp)
      have t0 := show ((W1.setCell ⟨gy, i, none⟩ (.string ⟨#[49]⟩)).alloc (.cells #[.slice none 0 0, slv gy M.length cy] 171)).cell? ⟨W1.heap.size, 0, none⟩ = some (xv 0 0 0) by rw [xv_zero]; go_simp
      have t1 := show ((W1.setCell ⟨gy, i, none⟩ (.string ⟨#[49]⟩)).alloc (.cells #[.slice none 0 0, slv gy M.length cy] 171)).cell? ⟨W1.heap.size, 1, none⟩ = some (slv gy M.length cy) by go_simp
      have t2 := show ((W1.setCell ⟨gy, i, none⟩ (.string ⟨#[49]⟩)).alloc (.cells #[.slice none 0 0, slv gy M.length cy] 171)).frozen? ⟨W1.heap.size, 0, none⟩ = false by go_simp
      have t3 := show W1.heap.size < ((W1.setCell ⟨gy, i, none⟩ (.string ⟨#[49]⟩)).alloc (.cells #[.slice none 0 0, slv gy M.length cy] 171)).heap.size by simp
      have hXT : X.heap.size ≤ W1.heap.size := hE2.size
      clear hY hY3 hY4 hG3
      go_wp2_with fail
      generalize hW2 : World.alloc (World.setCell _ _ _) _ = W2 at *
      clear hW2 y1 y2 hE1 hE2
      generalize W1.heap.size = T at *
      go_loopw [27] (fun idx wr => ∃ (j gx cx : Nat), j ≤ n ∧ idx = .int .i64 j ∧ wr.cell? ⟨T, 0, none⟩ = some (xv j gx cx) ∧ wr.cell? ⟨T, 1, none⟩ = some (slv gy M.length cy) ∧ wr.frozen? ⟨T, 0, none⟩ = false ∧ T < wr.heap.size ∧
        Hid (wr.ownsRow X.heap.size 94 1 (xv j gx cx) j (ss (M[i].take j))) ∧ Hid (0 < j → gx ≠ T ∧ gx ≠ gy) ∧ Hid (OwnV 94 X.heap.size wr gy cy (ss (unitR M.length i))) ∧ Hid (Ext X wr)) (fun idx _ => n - (intOf idx).toNat)
      case atStart => exact ⟨0, 0, 0, by omega, by go_num, t0, t1, t2, t3, Lib.hid ⟨rfl, .inl ⟨rfl, rfl⟩⟩, Lib.hid (fun h => by omega), Lib.hid hY5, Lib.hid hE3⟩
      case round =>
        clear t0 t1 t2 t3 hY5 hE3
        obtain ⟨j, gx, cx, hj, rfl, t0, t1, t2, t3, hOx, hNe, hOy, hE5⟩ := hrel
        generalize wr = Y at *
        by_cases hjl : j < n
        · have hji : (j : Int) < (n : Int) := by omega
          have hrl : M[i].length = n := HRt.out _ (List.getElem_mem hlt)
          have Hrl := Lib.hid hrl
          obtain ⟨z, hz⟩ : ∃ z, z = M[i].getD j 0 := ⟨_, rfl⟩
          have hcz := hSr.cell j (.int .i64 z) (by rw [hz, getD_get (by omega)]; exact is_get (by omega))
          have hz64 := H64.out _ (List.getElem_mem hlt) z (by rw [hz, getD_get (by omega)]; exact List.getElem_mem _)
          have hcz2 := hE5.out.cell (hE.cell hcz)
          obtain rfl := hSr.addr (by simp; omega)
          have hof := Lib.hid (fun W (hW : Ext Y W) => wholeOf_any (n := z) (w := W) hz64.1 hz64.2 (HL.out.ext (hE.trans (hE5.out.trans hW))))
          have Hz := Lib.hid hz
          have hTo : some T ≠ (xv j gx cx).ownBlock := by
            rw [xv_own]
            split
            · simp
            · have := hNe.out (by omega); intro e; injection e with e; exact this.1 e.symm
          have HTo := Lib.hid hTo
          have hXY := hE5.out.size
          clear hTo
          clear hz hz64 hcz hrl
          go_wp2_with fail
          go_region_law (first
              | (go_simp; go_at_call 95; refine (hof.out _ ((Ext.refl _).drew)).mono ?_; rintro e W5 ⟨rfl, hW5⟩; have t5 := hW5.cell (show (World.drew Y).cell? ⟨T, 0, none⟩ = some (xv j gx cx) from t0); have t5s : T < W5.heap.size := Nat.lt_of_lt_of_le t3 hW5.size; have t5y : Y.heap.size ≤ W5.heap.size := hW5.size)
              | (refine step_append_lies _ (by rfl) _ _ _ (by rfl) X.heap.size 94 s0 _ 1 16 Tryz.underlying99 hs hy0 hy1 hy2 rfl (by omega) (xv j gx cx) j (ss (M[i].take j)) (by rfl) ((ownsRow_ext (ownsRow_ext hOx.out ((Ext.refl _).drew)) hW5).alloc _) ⟨W5.heap.size, 0, none⟩ 1 1 [I z] (by rfl) (by rfl) (cell_one_new _ _ _) (one_str _) (by omega) (by unfold maxLen; omega) (by omega) (by simp; omega) (W5.heap.size + 1) (by simp) ?_; intro gg cap2 w6 hown6 hgrow6 hat6 hlt6; have t6 := hgrow6.cell (((Ext.refl W5).alloc (.cells #[I z] 94)).cell t5) HTo.out; have f6 := w6_frozen hW5 t2 t3 hgrow6 HTo.out))
          all_goals
            have hst := lrow_step (L := M.length) (by rw [Hrl.out]; exact hjl) Hz.out hYT hXT t1 t3 hOx.out hNe.out hOy.out hE5.out hW5 HTo.out hown6 hgrow6 hat6 t6 f6
            generalize hw7 : World.setCell w6 _ _ = w7 at *
            obtain ⟨r0, r1, r2, r3, r4, r5, r6, r7⟩ := hst
            clear hw7 hown6 hgrow6 hat6 t6 f6 hlt6 t5 t5s
            go_wp2_with fail
            go_roundw
            case rel => exact ⟨j + 1, gg, cap2, by omega, by go_num, r0, r1, r2, r3, r4, r5, r6, r7⟩
            case measure => simp [intOf] <;> omega
        · have hjn : j = n := by omega
          have Hjn := Lib.hid hjn
          have hil : (List.take i (lines0 M)).length = i := by rw [List.length_take, lines0_length]; omega
          have hVr := hV.row
          rw [hil] at hVr
          have HVr := Lib.hid (ownsRow_ext hVr hE5.out)
          have hYw : w.heap.size ≤ Y.heap.size + 1 := by have := hE.size; have := hE5.out.size; omega
          clear hjn hVr hil
          go_wp2_with (at_builtin; refine wpList_append_lies _ rfl _ _ 167 rfl w.heap.size 171 i0 _ 2 48 Tryz.underlying167 hi hz0 hz1 hz2 rfl (by omega) _ i (hdrs n M.length ad) rfl (HVr.out.alloc _) ⟨Y.heap.size, 0, none⟩ 1 1 [xv j gx cx, slv gy M.length cy] rfl rfl (World.news_of_block (cs := #[xv j gx cx, slv gy M.length cy]) (t := 171) (fr := (0, 0)) (heap_alloc_new Y _)) (line_one _ _ _ _ _ _) (by omega) (by unfold maxLen; omega) (by omega) (by simpa using hYw) (Y.heap.size + 1) (by simp) ?_; intro gg cap2 w8 hown8 hgrow8 hat8 hlt8)
          have hst : LnsV w.heap.size w8 (slv gg (i + 1) cap2) (ad ++ [⟨gx, cx, gy, cy⟩]) ((lines0 M).take (i + 1)) n M.length ∧ Ext w w8 := by
            have hjn := Hjn.out
            subst hjn
            have hil : i < (lines0 M).length := by simpa using hlt
            have hrl : M[i].length = j := HRt.out _ (List.getElem_mem hlt)
            refine lline_step hV hil hE hE5.out ?_ ?_ (fun h => (hNe.out h).2) ?_ hown8 hgrow8 hat8
            · rw [lines0_get hlt]; exact ⟨hrl, by simp [unitR]⟩
            · rw [lines0_get hlt]
              have := hOx.out
              rw [List.take_of_length_le (by omega)] at this
              exact this
            · rw [lines0_get hlt]; exact hOy.out
          obtain ⟨hV8, hE8⟩ := hst
          clear hown8 hgrow8 hat8 hlt8
          go_wp2_with fail
          go_roundw
          case rel => exact ⟨i + 1, _, by omega, by go_num, hV8, hE8⟩
          case measure => simp [intOf] <;> omega
    · have hie : i = M.length := by omega
      subst hie
      go_wp2_with fail
      go_ret
      exact ⟨_, ad, rfl, by rw [List.take_of_length_le (by simp)] at hV; exact hV, hE⟩
end Go.Proofs.YtokjolmpdfmnbaaGreatDoor
namespace Go.Proofs.YtokjolmpdfmnbaaGreatDoor
open Go.RowKit Go.Sort
theorem itoa_eq_one (z : Int) : (Lib.itoa z != [49]) = decide (z ≠ 1) := by
  have h1 : Lib.itoa 1 = [49] := by
    have := I_one
    unfold I S at this
    injection this with this
    have e := congrArg ByteArray.data this
    exact congrArg Array.toList e
  by_cases h : z = 1
  · subst h; rw [h1]; simp
  · rw [decide_eq_true h]
    simp only [bne_iff_ne, ne_eq]
    intro hc
    exact h (itoa_inj (hc.trans h1.symm))
def UnPost (w : World) (M : Mx) (e : Ending) (w' : World) : Prop :=
  ∃ b, e = .returned (.tuple #[.bool b, .int .i64 0]) ∧ (ncols M ≠ M.length → b = false) ∧ (ncols M = M.length → ∃ G, HnfOf (ncols M) M G ∧ (b = true ↔ (G.length = M.length ∧ ∀ i, i < M.length → eM G i i = 1))) ∧ Ext w w'
set_option maxRecDepth 100000 in
set_option maxHeartbeats 2000000 in
theorem Unimodular_ok {w : World} {v : Value} {S : Mx} (hS : MatR w v S) (hc2 : checkM S = 0) (hk : 13 * (bC S.length 30 (ncols S) + 2) < LIM) (hL : Laid w) :
    Calls Tryz.prog 61 #[v] w (UnPost w S) := by
  obtain ⟨hs12, ht12, hrectS, hentS⟩ := checkM_ok hc2
  have hck := Lib.hid (tableCheck_any hS)
  rw [hc2] at hck
  have HS := Lib.hid hS
  have HL := Lib.hid hL
  have HRS := Lib.hid hrectS
  have HeS := Lib.hid hentS
  have Hk := Lib.hid hk
  have hcol := Lib.hid (fun W (hW : Ext w W) => columns_any (HS.out.ext hW))
  have hli := Lib.hid (fun W (hW : Ext w W) => lines_any (n := ncols S) (HS.out.ext hW) HRS.out (by omega) (by omega) (fun r hr z hz => by have := HeS.out r hr z hz; unfold I64; omega) (HL.out.ext hW))
  obtain ⟨sf, _, _, cf, _, hvs, -⟩ := hS
  subst hvs
  clear hL hc2 hrectS hentS hk
  obtain ⟨m, hm⟩ : ∃ m, m = S.length := ⟨_, rfl⟩
  obtain ⟨c, hc⟩ : ∃ c, c = ncols S := ⟨_, rfl⟩
  have Hm := Lib.hid hm
  have Hc := Lib.hid hc
  rw [← hm] at hs12 hck
  rw [← hc] at ht12
  rw [← hm]
  clear hm hc
  by_cases hne : c = m
  · go_enter Tryz.func61, Tryz.ntmps61
    go_wp2_with fail
    refine hck.out.mono ?_
    rintro e w1 ⟨rfl, hE1⟩
    have hcol1 := Lib.hid (hcol.out w1 hE1)
    rw [← Hm.out, ← Hc.out] at hcol1
    clear hck hcol
    subst hne
    go_wp2_with fail
    refine hcol1.out.mono ?_
    rintro e w2 ⟨rfl, hE2⟩
    have hE12 := hE1.trans hE2
    have hli2 := Lib.hid (hli.out w2 hE12)
    rw [← Hm.out] at hli2
    clear hcol1 hli
    go_wp2_with fail
    refine hli2.out.mono ?_
    rintro e w3 ⟨v3, ad, rfl, hV, hE3⟩
    have hEw3 := hE12.trans hE3
    have hsh : ∃ ga cp, v3 = .slice ga c cp ∧ c ≤ cp ∧ (0 < c → ∃ g, ga = some ⟨g, 0, none⟩) := by
      have hr := hV.row
      rw [lines0_length, ← Hm.out] at hr
      rcases hr.2 with ⟨rfl, h0⟩ | ⟨g, cap, cur, rfl, hb, hg, hn, hm, hs, ht⟩
      · rw [h0]; exact ⟨none, 0, rfl, Nat.le_refl _, fun h => by omega⟩
      · exact ⟨_, cap, rfl, hn, fun _ => ⟨g, rfl⟩⟩
    obtain ⟨ga, cp, rfl, hcp, hgs⟩ := hsh
    have HV := Lib.hid hV
    clear hV hli2
    by_cases hn0 : c = 0
    · have HG := Lib.hid (show HnfOf (ncols S) S [] by rw [← Hc.out, hn0]; exact hnf_nil (M := S) (by rw [← hn0, Hc.out]; exact HRS.out))
      subst hn0
      go_wp2_with fail
      refine (echelon_zero rfl).mono ?_
      rintro e w5 ⟨rfl, rfl⟩
      go_wp2_with fail
      go_loopw [29] (fun idx wr => idx = .int .i64 0 ∧ wr = w5) (fun _ _ => 0)
      case atStart => exact ⟨rfl, rfl⟩
      case round =>
        obtain ⟨rfl, hwr⟩ := hrel
        subst hwr
        go_wp2_with fail
        go_ret2
        exact ⟨true, rfl, fun h => absurd (Hc.out.symm.trans Hm.out) h, fun _ => ⟨[], HG.out, ⟨fun _ => ⟨Hm.out, fun i hi => by rw [← Hm.out] at hi; omega⟩, fun _ => rfl⟩⟩, hEw3⟩
    · have hnp : 0 < c := by omega
      obtain ⟨g, rfl⟩ := hgs hnp
      have hlns : Lns w2.heap.size w3 g ad (lines0 S) := by
        have := HV.out
        have h2 : LnsV w2.heap.size w3 (slv g (lines0 S).length cp) ad (lines0 S) (ncols S) S.length := by rw [lines0_length, ← Hm.out]; exact this
        exact h2.lns (by rw [← Hc.out]; exact hnp)
      have hech := Lib.hid (echelon_walk (w0 := w2) (w := w3) (g := g) (cp := cp) (n := ncols S) (m := S.length) (L := S.length) (k := 30) (by simp) (by have := Hm.out; have := Hc.out; omega) (by have := Hm.out; have := Hc.out; omega) (by have := Hm.out; have := Hc.out; omega) (by have := Hm.out; have := Hc.out; omega) hlns (lines0_dim HRS.out) (lines0_all HeS.out) (by have := Hk.out; omega) (HL.out.ext hE12) hE3)
      rw [← Hm.out, ← Hc.out] at hech
      clear hlns hgs hn0 HV
      go_wp2_with fail
      refine hech.out.mono ?_
      rintro e w5 ⟨d, ps, ad', ls', rfl, hL5, hF5, hO5, hA5, hE5⟩
      rw [Hc.out] at hF5
      have HnF := form_of HRS.out hO5 hF5
      have hdl := hF5.le
      have hll : ls'.length = S.length := by rw [hO5.length]; simp
      have hGl := fRows_length hdl
      have hen := fun i (h : i < d) j => eM_fRows (d := d) (ls := ls') h j hdl
      have Hdim := Lib.hid ((lines0_dim HRS.out).ops hO5)
      have Hll := Lib.hid hll
      have hEw5 := hE12.trans hE5
      obtain ⟨G, hG⟩ : ∃ G, G = fRows d ls' := ⟨_, rfl⟩
      rw [← hG] at HnF hGl
      have Hen := Lib.hid (fun i (h : i < d) j => show eM G i j = en ls' i j by rw [hG]; exact hen i h j)
      have HG := Lib.hid HnF
      have HGl := Lib.hid hGl
      have hdS : d ≤ c := by have := Hm.out; omega
      have hcS : c = S.length := Hm.out
      have HcS := Lib.hid hcS
      have HcN := Lib.hid (show ncols S = S.length by rw [← Hc.out, ← Hm.out])
      clear hech hO5 hF5 hA5 hdl hll hen hG HnF hGl hcS
      by_cases hdF : d < c
      · have hdFi : (d : Int) < (c : Int) := by omega
        have hfin := Lib.hid (show UnPost w S (.returned (.tuple #[.bool false, .int .i64 0])) w5 from ⟨false, rfl, fun _ => rfl, fun _ => ⟨G, HG.out, ⟨(fun h => by cases h), (fun h => by have h1 := h.1; rw [HGl.out, ← HcS.out] at h1; omega)⟩⟩, hEw5⟩)
        go_wp2_with fail
        go_ret2
        exact hfin.out
      · have hdc : d = c := by omega
        subst hdc
        clear hdS hdF
        go_wp2_with fail
        go_loopw [29] (fun idx wr => ∃ i : Nat, i ≤ d ∧ idx = .int .i64 i ∧ Hid (∀ j, j < i → eM G j j = 1) ∧ Ext w5 wr) (fun idx _ => d - (intOf idx).toNat)
        case atStart => exact ⟨0, by omega, by go_num, Lib.hid (fun j h => by omega), Ext.refl _⟩
        case round =>
          obtain ⟨i, hi, rfl, hO, hE6⟩ := hrel
          generalize wr = X at *
          by_cases hlt : i < d
          · have hii : (i : Int) < (d : Int) := by omega
            obtain ⟨gx, cx, gy, cy, ead, c1, c2, cz, o1, o2, _, _, _⟩ := (hL5.ext hE6).ln (d := 0) (c := i) (i := i) (o := i * 2) Hdim.out (by rw [Hll.out, ← HcS.out]; omega) (by omega) (by rw [← Hc.out]; omega)
            have hen : cols i 0 ls' i = eM G i i := by
              rw [Hen.out i hlt]; unfold cols en; rw [Nat.zero_add]
            rw [hen] at cz
            rw [← Hc.out] at c1
            obtain ⟨z, hz⟩ : ∃ z, z = eM G i i := ⟨_, rfl⟩
            rw [← hz] at cz
            have Hz := Lib.hid hz
            have hitz := itoa_eq_one z
            have lgx := o1.lt.2
            have hE7 := hEw5.trans hE6
            clear hen hz o1 o2 ead
            by_cases hz1 : z = 1
            · rw [decide_eq_false (by simpa using hz1)] at hitz
              have hitz2 : (Lib.itoa z == [49]) = true := by simpa [bne] using hitz
              have HO2 := Lib.hid (show ∀ j, j < i + 1 → eM G j j = 1 from fun j hj => by
                by_cases e : j = i
                · subst e; rw [← Hz.out]; exact hz1
                · exact hO.out j (by omega))
              clear hz1
              go_wp2_with fail
              go_roundw
              case rel => exact ⟨i + 1, by omega, by go_num, HO2, hE6.alloc _⟩
              case measure => simp [intOf] <;> omega
            · rw [decide_eq_true hz1] at hitz
              have hitz2 : (Lib.itoa z == [49]) = false := by simpa [bne] using hitz
              have hfin := fun W (hW : Ext w W) => Lib.hid (show UnPost w S (.returned (.tuple #[.bool false, .int .i64 0])) W from ⟨false, rfl, fun _ => rfl, fun _ => ⟨G, HG.out, ⟨(fun h => by cases h), (fun h => absurd (by rw [Hz.out]; exact h.2 i (by rw [← HcS.out]; exact hlt)) hz1)⟩⟩, hW⟩)
              have Hfin := Lib.hid hfin
              clear hfin hz1
              go_wp2_with fail
              go_ret2
              exact (Hfin.out _ (hE7.alloc _)).out
          · have hie : i = d := by omega
            have hfin := Lib.hid (show UnPost w S (.returned (.tuple #[.bool true, .int .i64 0])) X from ⟨true, rfl, fun h => absurd HcN.out h, fun _ => ⟨G, HG.out, ⟨fun _ => ⟨by rw [HGl.out, ← HcS.out], fun j hj => hO.out j (by rw [← HcS.out] at hj; omega)⟩, fun _ => rfl⟩⟩, hEw5.trans hE6⟩)
            go_wp2_with fail
            go_ret2
            exact hfin.out
  · have hne2 : ((c : Int) != (m : Int)) = true := by simp [bne, beq_eq_false_iff_ne.2 (show (c : Int) ≠ (m : Int) by omega)]
    have hne1 : ((c : Int) == (m : Int)) = false := beq_eq_false_iff_ne.2 (by omega)
    have HcN := Lib.hid (show ncols S ≠ S.length by rw [← Hc.out, ← Hm.out]; exact hne)
    go_enter Tryz.func61, Tryz.ntmps61
    go_wp2_with fail
    refine hck.out.mono ?_
    rintro e w1 ⟨rfl, hE1⟩
    have hcol1 := Lib.hid (hcol.out w1 hE1)
    rw [← Hm.out, ← Hc.out] at hcol1
    clear hck hcol hne
    go_wp2_with fail
    refine hcol1.out.mono ?_
    rintro e w2 ⟨rfl, hE2⟩
    have hfin := Lib.hid (show UnPost w S (.returned (.tuple #[.bool false, .int .i64 0])) w2 from ⟨false, rfl, fun _ => rfl, fun h => absurd h HcN.out, hE1.trans hE2⟩)
    go_wp2_with fail
    go_ret2
    exact hfin.out
end Go.Proofs.YtokjolmpdfmnbaaGreatDoor
namespace Go.Proofs.YtokjolmpdfmnbaaGreatDoor
open Go.RowKit Go.Sort
end Go.Proofs.YtokjolmpdfmnbaaGreatDoor
namespace Go.Proofs.YtokjolmpdfmnbaaGreatDoor
open Go.RowKit Go.Sort
theorem ix3_a (w : World) (a b c : Value) : (Instr.index 116 (.agg #[a, b, c]) (.int .i64 0)).run Tryz.prog w = .ok a w := by
  simp [Instr.index, run_underlying Tryz.underlying116, asIntOf, go_sem]
theorem ix3_b (w : World) (a b c : Value) : (Instr.index 116 (.agg #[a, b, c]) (.int .i64 1)).run Tryz.prog w = .ok b w := by
  simp [Instr.index, run_underlying Tryz.underlying116, asIntOf, go_sem]
theorem ix3_c (w : World) (a b c : Value) : (Instr.index 116 (.agg #[a, b, c]) (.int .i64 2)).run Tryz.prog w = .ok c w := by
  simp [Instr.index, run_underlying Tryz.underlying116, asIntOf, go_sem]
end Go.Proofs.YtokjolmpdfmnbaaGreatDoor
