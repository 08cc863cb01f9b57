/- Part 21 of the proof of the claim: contracts of the functions that it reaches, and plain laws; no condition. -/
import Derived.Test.YthmhmkkcjlgbjaaGreatDoorV20
/- hermite: reduce -/
namespace Go.Proofs.YthmhmkkcjlgbjaaGreatDoor
open Go.RowKit Go.Sort
/-- A row of integers of any size, nil or the call's own. -/
def IntsV (B : Nat) (w : World) (v : Value) (l : List Int) : Prop := w.ownsRow B 38 1 v l.length (ss l)
theorem IntsV.nil (B : Nat) (w : World) : IntsV B w (.slice none 0 0) [] := ⟨rfl, .inl ⟨rfl, rfl⟩⟩
theorem IntsV.ext {B : Nat} {w w' : World} {v : Value} {l : List Int} (h : IntsV B w v l) (he : Ext w w') : IntsV B w' v l := ownsRow_ext h he
theorem IntsV.mono {B B' : Nat} {w : World} {v : Value} {l : List Int} (h : IntsV B w v l) (hB : B' ≤ B) : IntsV B' w v l := ownsRow_mono h hB
theorem IntsV.sl {B : Nat} {w : World} {v : Value} {l : List Int} (h : IntsV B w v l) : ∃ ga gb cap, v = .slice ga l.length cap ∧ l.length ≤ cap ∧ Sl w ga gb 0 (ss l) := by
  rcases h.2 with ⟨rfl, h0⟩ | ⟨g, cap, cur, rfl, hb, hg, hn, hm, hs, ht⟩
  · have : l = [] := List.eq_nil_of_length_eq_zero h0
    subst this
    exact ⟨none, 0, 0, rfl, Nat.le_refl _, Sl.nil _ _ _ _⟩
  · have ho : OwnV 38 B w g cap (ss l) := by unfold OwnV; rw [ss_length]; exact h
    exact ⟨_, g, cap, rfl, hn, ho.sl⟩
theorem ss_snoc (l : List Int) (z : Int) : ss (l ++ [z]) = ss l ++ [I z] := by simp only [ss, List.map_append, List.map_cons, List.map_nil]
theorem OwnV.ints {B : Nat} {w : World} {g cap : Nat} {l : List Int} (h : OwnV 38 B w g cap (ss l)) : IntsV B w (slv g l.length cap) l := by
  unfold IntsV; unfold OwnV at h; rw [ss_length] at h; exact h
section
variable {w : World} {ops : Array Oper} {rest : List Oper} {o : Oper} {a : Act} {Q : Exit → Act → World → Prop}
theorem app_ints (hgd : o.guard = none) (s x : Operand) (ho : o.op = .call { callee := .builtin .append, args := #[s, x], argTypes := #[88, 88] })
    {B : Nat} {v : Value} {r : List Int} (hs : a.eval s = v) (hown : IntsV B w v r) {b : Nat} {z : Int} (hx : a.eval x = .slice (some ⟨b, 0, none⟩) 1 1) (hc : w.cell? ⟨b, 0, none⟩ = some (I z)) (hl : r.length ≤ 1000000000) (hB : B ≤ w.heap.size)
    (h : ∀ g cap w', IntsV B w' (slv g (r.length + 1) cap) (r ++ [z]) → Below B w w' → w.grownBy w' v.ownBlock → wpList Tryz.prog ops Q rest (a.put o.dst (slv g (r.length + 1) cap)) w') : wpList Tryz.prog ops Q (o :: rest) a w := by
  obtain ⟨i0, hi, hz0, hz1, hz2⟩ := info_parts Tryz.infoStr
  refine wpList_append_lies w hgd s x 88 ho B 38 i0 _ 1 16 Tryz.underlying88 hi hz0 hz1 hz2 rfl (by omega) v r.length (ss r) hs hown ⟨b, 0, none⟩ 1 1 [I z] hx rfl ?_ (one_str _) (by omega) (by unfold maxLen; omega) (by omega) hB w.heap.size rfl ?_
  · intro j u hj
    have : j = 0 := by have := (List.getElem?_eq_some_iff.1 hj).1; simp at this; omega
    subst this
    simp only [List.getElem?_cons_zero, Option.some.injEq] at hj
    subst hj
    simpa [Addr.add_lit] using hc
  · intro g cap w' h1 h2 h3 h4
    refine h g cap w' ?_ (Below.grown (Below.refl _ _) h2 hB (fun q hq => (World.ownsRow.lt hown q hq).1)) h2
    unfold IntsV
    rw [ss_snoc, List.length_append]; exact h1
end
theorem chg_below {R : Nat → Prop} {a b c : World} (h : Chg R a b) (k : Below a.heap.size b c) : Chg R a c :=
  ⟨(Below.os k).trans h.os, (Below.tape k).trans h.tape, (Below.output k).trans h.output, Nat.le_trans h.size (Below.size k), fun i hi hR => (Below.block k i hi).trans (h.block i hi hR)⟩
theorem reduceC_any (z : Int) (w : World) : Calls Tryz.prog 117 #[I z] w fun e w' => e = .returned (.bool (decide (z ≠ 0))) ∧ Ext w w' := by
  have hitz : (Lib.itoa z == [48]) = decide (z = 0) := itoa_eq_zero z
  by_cases h : z = 0
  · rw [decide_eq_true h] at hitz
    have hb : decide (z ≠ 0) = false := decide_eq_false (by simpa using h)
    rw [hb]
    clear h hb
    go_enter Tryz.func117, Tryz.ntmps117
    go_wp2
    go_ret
    exact ⟨rfl, Ext.refl _⟩
  · rw [decide_eq_false h] at hitz
    have hb : decide (z ≠ 0) = true := decide_eq_true h
    rw [hb]
    have hitz2 : (Lib.itoa z != [48]) = true := by simp [bne, hitz]
    clear h hb
    go_enter Tryz.func117, Tryz.ntmps117
    go_wp2
    go_ret
    exact ⟨rfl, Ext.refl _⟩
theorem xv_slice (n g c : Nat) : ∃ a l k, xv n g c = .slice a l k := by
  unfold xv; split <;> exact ⟨_, _, _, rfl⟩
theorem lines_one {B : Nat} {w : World} {v : Value} {ad : List Ad} {x : List Int} {n : Nat} (h : LnsV B w v ad (lines0 [x]) n [x].length) :
    ∃ g cap gx cx gy cy, v = slv g 1 cap ∧ 1 ≤ cap ∧ w.cell? ⟨g, 0, none⟩ = some (xv n gx cx) ∧ w.cell? ⟨g, 1, none⟩ = some (slv gy 1 cy) ∧ (0 < n → OwnV 38 B w gx cx (ss x) ∧ gx ≠ gy) ∧ OwnV 38 B w gy cy (ss [1]) := by
  have hal : ad.length = 1 := by rw [h.len]; rfl
  have hr := h.row
  have hll : (lines0 [x]).length = 1 := by simp
  rw [hll] at hr
  rcases hr.2 with ⟨_, h0⟩ | ⟨g, cap, cur, rfl, hb, hg, hn, hm, hs, ht⟩
  · cases h0
  · have hg := hdrs_get n 1 ad 0 (by omega)
    have h0 := World.ownsRow.cellAt hr 0 (by omega)
    have h1 := World.ownsRow.cellAt hr 1 (by omega)
    have hx0 := fun hn => h.x hn 0 (by simp) (by omega)
    have hy0 := h.y 0 (by simp) (by omega)
    have ho := h.own 0 (by omega)
    rw [lines0_get (by simp)] at hy0
    simp only [lines0_get (M := [x]) (i := 0) (by simp)] at hx0
    refine ⟨g, cap, ad[0].gx, ad[0].cx, ad[0].gy, ad[0].cy, rfl, hn, by rw [h0]; exact hg.1, by rw [h1]; exact hg.2, fun hn => ⟨hx0 hn, (ho.2 hn).2⟩, ?_⟩
    simpa [unitR] using hy0
def RdPost (w : World) (F : Mx) (x : List Int) (e : Ending) (w' : World) : Prop := ∃ v1 v2, e = .returned (.tuple #[v1, v2]) ∧ IntsV w.heap.size w' v1 (redX F x) ∧ IntsV w.heap.size w' v2 (redQ F x) ∧ Ext w w'
set_option maxRecDepth 100000 in
set_option maxHeartbeats 1000000 in
theorem reduce_any {w : World} {vf vx : Value} {F : Mx} {x : List Int} (hF : MatR w vf F) (hx : RowR w vx x) (hc : checkM F = 0) (hi : isF F = true) (hxl : x.length ≤ 64)
    (hxe : ∀ z ∈ x, -1000000000 ≤ z ∧ z ≤ 1000000000) (hlen : 0 < F.length → x.length = ncols F) (hL : Laid w) :
    Calls Tryz.prog 72 #[vf, vx] w (RdPost w F x) := by
  obtain ⟨hm12, hn12, hrect, hent⟩ := checkM_ok hc
  obtain ⟨sx, bx, ox, cx0, rfl, hxc, hSx⟩ := hx
  have HF := Lib.hid hF
  have HL := Lib.hid hL
  have hisH := isF_isH hrect hi
  have HP := Lib.hid hisH.piv
  have h30 : ∀ z : Int, -1000000000 ≤ z ∧ z ≤ 1000000000 → z.natAbs < 2 ^ 30 := fun z hz => by
    have e : (2 : Nat) ^ 30 = 1073741824 := by decide
    rw [e]; omega
  have HF30 := Lib.hid (fun r (hr : r ∈ F) z (hz : z ∈ r) => h30 z (hent r hr z hz))
  have HX30 := Lib.hid (fun z (hz : z ∈ x) => h30 z (hxe z hz))
  have HXe := Lib.hid hxe
  have hpn : 0 < F.length → 0 < ncols F := fun h => by have := hisH.lt 0 h; omega
  have Hpv := Lib.hid (fun i (h : i < F.length) => show pvI (F.getD i []) = (pv (F.getD i []) : Int) ∧ pv (F.getD i []) < ncols F by
    have h1 := hisH.lt i h
    rw [getD_map pv F i h 0 []] at h1
    have h2 : (F.getD i []).length = ncols F := by rw [getD_get h]; exact hrect _ (List.getElem_mem h)
    exact ⟨by unfold pvI; rw [if_pos (by rw [h2]; exact h1)], h1⟩)
  have HRt := Lib.hid hrect
  have Hent := Lib.hid hent
  have Hlen := Lib.hid hlen
  clear hF hL hc hi hisH h30 hrect hent hxe hlen
  obtain ⟨n, hn⟩ : ∃ n, n = x.length := ⟨_, rfl⟩
  have Hn := Lib.hid hn
  rw [← hn] at hxl hxc ⊢
  clear hn
  have hW0 := (Ext.refl w).alloc (.cells #[.slice sx n cx0] 35)
  have hmx : MatR (w.alloc (.cells #[.slice sx n cx0] 35)) (.slice (some ⟨w.heap.size, 0, none⟩) 1 1) [x] :=
    ⟨_, w.heap.size, 0, 1, [.slice sx n cx0], rfl, by simp, rfl, ⟨fun _ => rfl, fun i u hu => by
      have : i = 0 := by have := (List.getElem?_eq_some_iff.1 hu).1; simp at this; omega
      subst this
      simp only [List.getElem?_cons_zero, Option.some.injEq] at hu
      subst hu
      go_simp⟩, fun i a b => by
      have : i = 0 := by simp at a; omega
      subst this
      exact ⟨sx, bx, ox, cx0, by simp [Hn.out], by simp only [List.getElem_cons_zero]; rw [← Hn.out]; exact hxc, hSx.ext hW0⟩⟩
  have hl1 := Lib.hid (lines_any (n := n) hmx (fun r hr => by simp at hr; subst hr; exact Hn.out.symm) (by simp) (by omega) (fun r hr z hz => by simp at hr; subst hr; have := HXe.out z hz; unfold I64; omega) (HL.out.ext hW0))
  clear hmx
  go_enter Tryz.func72, Tryz.ntmps72
  go_wp2_with fail
  refine hl1.out.mono ?_
  rintro e w1 ⟨v1, ad1, rfl, hV1, hE1⟩
  obtain ⟨g1, cap1, gx, cx, gy, cy, rfl, hcap1, h1, h2, hOx, hOy⟩ := lines_one hV1
  have hw1 := hW0.trans hE1
  have hws : w.heap.size ≤ (w.alloc (.cells #[.slice sx n cx0] 35)).heap.size := by simp
  have HOx := Lib.hid (fun h => And.intro ((hOx h).1.mono hws) (hOx h).2)
  have HOy := Lib.hid (hOy.mono hws)
  have hgyl := hOy.lt.2
  obtain ⟨xa, xl, xk, hxv⟩ := xv_slice n gx cx
  rw [hxv] at h1
  have Hxv := Lib.hid hxv
  clear hxv
  clear hV1 hl1 hOx hOy hws hE1
  have hl2 := Lib.hid (fun W (hW : Ext w W) => lines_any (n := ncols F) (HF.out.ext hW) HRt.out (by omega) (by omega) (fun r hr z hz => by have := Hent.out r hr z hz; unfold I64; omega) (HL.out.ext hW))
  have hE2 := hw1.alloc (.cells #[.slice xa xl xk, slv gy 1 cy] 90)
  have hE12 := (Ext.refl w1).alloc (.cells #[.slice xa xl xk, slv gy 1 cy] 90)
  have t1 := show (w1.alloc (.cells #[.slice xa xl xk, slv gy 1 cy] 90)).cell? ⟨w1.heap.size, 0, none⟩ = some (.slice xa xl xk) by go_simp
  have t2 := show (w1.alloc (.cells #[.slice xa xl xk, slv gy 1 cy] 90)).cell? ⟨w1.heap.size, 1, none⟩ = some (slv gy 1 cy) by go_simp
  have t3 := show w1.heap.size < (w1.alloc (.cells #[.slice xa xl xk, slv gy 1 cy] 90)).heap.size by simp
  go_wp2_with fail
  refine (hl2.out _ hE2).mono ?_
  rintro e w3 ⟨v3, ad3, rfl, hV3, hE3⟩
  replace t1 := hE3.cell t1
  replace t2 := hE3.cell t2
  have t4 : w1.heap.size < w3.heap.size := Nat.lt_of_lt_of_le t3 hE3.size
  have hE13 := hE12.trans hE3
  have hEw3 := hE2.trans hE3
  have hbase3 : w1.heap.size < (w1.alloc (.cells #[.slice xa xl xk, slv gy 1 cy] 90)).heap.size := t3
  have hsh : ∃ ga cp, v3 = .slice ga F.length cp ∧ F.length ≤ cp ∧ (0 < F.length → ∃ g, ga = some ⟨g, 0, none⟩) := by
    have hr := hV3.row
    rw [lines0_length] at hr
    rcases hr.2 with ⟨rfl, h0⟩ | ⟨g, cap, cur, rfl, hb, hg, hn, hm, hs, ht⟩
    · rw [h0]; exact ⟨none, 0, rfl, Nat.le_refl _, fun h => by omega⟩
    · exact ⟨_, cap, rfl, hn, fun _ => ⟨g, rfl⟩⟩
  obtain ⟨ga, cp, rfl, hcp, hgs⟩ := hsh
  have HV3 := Lib.hid hV3
  clear hV3 hl2 t3 hE12 hE2
  by_cases hF0 : F.length = 0
  · have hFn : F = [] := List.eq_nil_of_length_eq_zero hF0
    have HR := Lib.hid (show redX F x = x ∧ redQ F x = [] by rw [hFn]; exact ⟨rfl, rfl⟩)
    have hIx : IntsV w.heap.size w3 (.slice xa xl xk) x := by
      rw [← Hxv.out]
      rcases Nat.eq_zero_or_pos n with h | h
      · have : x = [] := List.eq_nil_of_length_eq_zero (by rw [← Hn.out]; exact h)
        rw [h, this, xv_zero]; exact IntsV.nil _ _
      · rw [xv_pos h]
        have := ((HOx.out h).1.ext hE13).ints
        rw [← Hn.out] at this; exact this
    rw [hF0] at hcp ⊢
    clear hFn hF0 hgs
    go_wp2_with fail
    go_loopw [5, 21] (fun out idx wr => idx = .int .i64 0 ∧ out = .slice none 0 0 ∧ wr = w3) (fun _ _ _ => 0)
    case atStart => exact ⟨rfl, rfl, rfl⟩
    case round =>
      obtain ⟨rfl, rfl, hwr⟩ := hrel
      subst hwr
      go_wp2_with fail
      go_ret2
      exact ⟨_, _, rfl, by rw [HR.out.1]; exact hIx, by rw [HR.out.2]; exact IntsV.nil _ _, hEw3⟩
  · have hFp : 0 < F.length := by omega
    have hnc : n = ncols F := by rw [Hn.out]; exact Hlen.out hFp
    have hnp : 0 < n := by rw [hnc]; exact hpn hFp
    obtain ⟨g, rfl⟩ := hgs hFp
    have hxv := Hxv.out
    rw [xv_pos hnp] at hxv
    injection hxv with q1 q2 q3
    subst q1 q2 q3
    clear Hxv
    have hlns : Lns (w1.alloc (.cells #[slv gx n cx, slv gy 1 cy] 90)).heap.size w3 g ad3 (lines0 F) := by
      have := HV3.out
      have h2 : LnsV (w1.alloc (.cells #[slv gx n cx, slv gy 1 cy] 90)).heap.size w3 (slv g (lines0 F).length cp) ad3 (lines0 F) (ncols F) F.length := by rw [lines0_length]; exact this
      exact h2.lns (hpn hFp)
    have Hlns := Lib.hid hlns
    have hgl := hlns.base
    have HOx2 := Lib.hid ((HOx.out hnp).1.ext hE13)
    have HOy2 := Lib.hid (HOy.out.ext hE13)
    have hxy := (HOx.out hnp).2
    have hgxl := (HOx.out hnp).1.lt
    have hdimF := lines0_dim HRt.out
    rw [← hnc] at hdimF
    have Hdim := Lib.hid hdimF
    have Hnc := Lib.hid hnc
    have hgb : w1.heap.size < g := by simp at hgl; omega
    clear hlns hgl hgs hF0 hpn hnc HOx HOy HV3 hdimF h1 h2 hE13
    go_wp2_with fail
    go_loopw [5, 21] (fun out idx wr => ∃ i : Nat, i ≤ F.length ∧ idx = .int .i64 i ∧ Hid (IntsV w3.heap.size wr out (redQ (F.take i) x)) ∧ Hid (OwnV 38 w.heap.size wr gx cx (ss (redX (F.take i) x))) ∧ Hid (OwnV 38 w.heap.size wr gy cy (ss [1])) ∧ Hid (Chg (fun k => k = gx ∨ k = gy) w3 wr)) (fun _ idx _ => F.length - (intOf idx).toNat)
    case atStart => exact ⟨0, by omega, by go_num, Lib.hid (by rw [List.take_zero]; exact IntsV.nil _ _), Lib.hid (by rw [List.take_zero]; exact HOx2.out), HOy2, Lib.hid (Chg.refl _ _)⟩
    case round =>
      obtain ⟨i, hi, rfl, hO, hX, hY, hC⟩ := hrel
      generalize wr = X at *
      have u1 := hC.out.cell (by omega) t1
      have u2 := hC.out.cell (by omega) t2
      by_cases hlt : i < F.length
      · have hii : (i : Int) < (F.length : Int) := by omega
        obtain ⟨gf, cf, gyf, cyf, eadf, f1, f2, _, of, oyf, _, _, _⟩ := Hlns.out.ln (d := 0) (c := 0) (i := i) (o := i * 2) Hdim.out (by simp; omega) (by omega) hnp
        have hfb := of.lt
        have hyfb := oyf.lt
        have hr0 : ((lines0 F).getD (0 + i) default).1 = F.getD i [] := by
          rw [Nat.zero_add, getD_get (by simpa using hlt), lines0_get hlt, getD_get hlt]
        rw [hr0] at of
        obtain ⟨hpI, hpn⟩ := Hpv.out i hlt
        rw [← Hnc.out] at hpn
        have hPi := HP.out i hlt
        have hrl : (F.getD i []).length = n := by rw [getD_get hlt, Hnc.out]; exact HRt.out _ (List.getElem_mem hlt)
        have hr30 : ∀ z ∈ F.getD i [], z.natAbs < 2 ^ 30 := by rw [getD_get hlt]; exact HF30.out _ (List.getElem_mem hlt)
        have hyS := redX_small HP.out HF30.out HX30.out i (by omega)
        have hyl : (redX (F.take i) x).length = n := by rw [redX_length]; exact Hn.out.symm
        have HtX := Lib.hid (redX_take hlt x)
        have HtQ := Lib.hid (redQ_take hlt x)
        have hql : (redQ (F.take i) x).length = i := by rw [redQ_length, List.length_take]; omega
        have Hql := Lib.hid hql
        generalize hrg : F.getD i [] = r at *
        generalize hyg : redX (F.take i) x = y at *
        have hgfX : gf ≠ gx ∧ gf ≠ gy ∧ gyf ≠ gx ∧ gyf ≠ gy := by simp at hfb hyfb; omega
        have hofX : OwnV 38 (w1.alloc (.cells #[slv gx n cx, slv gy 1 cy] 90)).heap.size X gf cf (ss r) := hC.out.own (by omega) of
        have hY2 := hX.out
        have cq := hY2.cell (j := pv r) (by simp; omega)
        have cr := hofX.cell (j := pv r) (by simp; omega)
        have v1 := hC.out.cell (by omega) f1
        have v2 := hC.out.cell (by omega) f2
        have hpb : (pv r : Int) < (n : Int) := by omega
        have eq1 : (ss y)[pv r]'(by simp; omega) = I (y.getD (pv r) 0) := by rw [getD_get (by omega)]; simp [ss]
        have eq2 : (ss r)[pv r]'(by simp; omega) = I (r.getD (pv r) 0) := by rw [getD_get (by omega)]; simp [ss]
        rw [eq1] at cq
        rw [eq2] at cr
        obtain ⟨E, hEE⟩ : ∃ E : Nat, E = 402 := ⟨_, rfl⟩
        have hEs : 30 + 31 * i ≤ E := by omega
        have hEs0 : 30 ≤ E := by omega
        have hy402 : ∀ z ∈ y, z.natAbs < 2 ^ E := fun z hz => Nat.lt_of_lt_of_le (hyS z hz) (Nat.pow_le_pow_right (by omega) hEs)
        have hr402 : ∀ z ∈ r, z.natAbs < 2 ^ E := fun z hz => Nat.lt_of_lt_of_le (hr30 z hz) (Nat.pow_le_pow_right (by omega) hEs0)
        have hq402 : (stepQ r y).natAbs < 2 ^ E := stepQ_abs hPi (Nat.pow_pos (by omega)) hy402
        have hL402 : 2 * E + 2 < LIM := by unfold LIM; omega
        have hYi : IntsV w.heap.size X (slv gx n cx) y := by have := hY2.ints; rw [hyl] at this; exact this
        have hix := index_reduce (cap := cf) (p := fun j => decide (r.getD j 0 ≠ 0)) (k := pvI r) (w := X.alloc (.cells #[slv gf n cf, slv gyf F.length cyf] 90)) (hofX.sl.ext ((Ext.refl X).alloc (.cells #[slv gf n cf, slv gyf F.length cyf] 90))) (by rw [ss_length, hrl]; omega) (fun j hj W hW => by
          have hj' : j < r.length := by simpa using hj
          have e : (ss r)[j] = I (r.getD j 0) := by rw [getD_get hj']; simp [ss]
          rw [e]; exact reduceC_any _ W) (by rw [ss_length]; exact pvI_ix r)
        rw [ss_length, hrl, hpI] at hix
        have Hix := Lib.hid hix
        have hdy : nd (y.getD (pv r) 0) < LIM := by
          rw [getD_get (by omega)]
          have := nd_lt2 (hy402 _ (List.getElem_mem (by omega : pv r < y.length))); omega
        have hdr : nd (r.getD (pv r) 0) < LIM := by
          rw [getD_get (by omega)]
          have := nd_lt2 (hr402 _ (List.getElem_mem (by omega : pv r < r.length))); omega
        have Hdm := Lib.hid (fun W (hW : Ext w W) => DivMod_any (a := y.getD (pv r) 0) (b := r.getD (pv r) 0) (w := W) hdy hdr hPi (HL.out.ext hW))
        have hEwX : Ext w X := hC.out.ext hEw3 (by
          rintro k (rfl | rfl)
          · exact hgxl.1
          · exact HOy2.out.lt.1)
        have Hle := Lib.hid (fun W (hW : Ext X W) => by
          have h := less_any (w0 := w) (w := W) (gx := gx) (cx := cx) (gy := gy) (cy := cy) (k := stepQ r y) (cb := cf) (cd := 0) (sd := none) (gd := gf) (od := 0) (d := []) (hX.out.ext hW) (hY.out.ext hW) hxy (hofX.sl.ext hW) (by omega) (Sl.nil _ _ _ _) (by omega) (by omega) (by omega) (by simp) (by omega) (by simp)
            (less_big hy402 hr402 hq402 hL402) (fun j hj => by simp at hj) HL.out (hEwX.trans hW)
          rw [hyl, hrl, subK_nil] at h
          exact h)
        have HEwX := Lib.hid hEwX
        have Hmem := Lib.hid (And.intro hyl hrl)
        obtain ⟨p, hp⟩ : ∃ p, p = pv r := ⟨_, rfl⟩
        obtain ⟨a, ha⟩ : ∃ a, a = y.getD p 0 := ⟨_, rfl⟩
        obtain ⟨b, hb⟩ : ∃ b, b = r.getD p 0 := ⟨_, rfl⟩
        have hqe : stepQ r y = a.fdiv b := by rw [ha, hb, hp]; rfl
        rw [← hp, ← ha] at cq
        rw [← hp, ← hb] at cr
        rw [← hp] at Hix hpb
        rw [← hp, ← ha, ← hb] at Hdm
        rw [hqe] at Hle HtX HtQ
        have lgx := hX.out.lt.2
        have lgf := hofX.lt.2
        have lT := World.block_lt_of_cell? _ _ u1
        clear hr0 of oyf hpI hpn hPi hrl hr30 hyS hyl hql hofX hY2 eq1 eq2 hEs hy402 hr402 hq402 hL402 hYi hix hdy hdr hEwX hp ha hb hqe hrg hyg
        go_wp2_with fail
        refine Hix.out.mono ?_
        rintro e W1 ⟨rfl, hW1⟩
        have hXa := (Ext.refl X).alloc (.cells #[slv gf n cf, slv gyf F.length cyf] 90)
        have hXW1 := hXa.trans hW1
        have k0 := hW1.cell (show (X.alloc (.cells #[slv gf n cf, slv gyf F.length cyf] 90)).cell? ⟨X.heap.size, 0, none⟩ = some (slv gf n cf) by go_simp)
        have k1 := cell_regrown (hXW1.cell cq)
        have k2 := cell_regrown (hXW1.cell cr)
        have k3 := cell_regrown (hXW1.cell u1)
        have k4 := cell_regrown k0
        have m1 := hXW1.cell u1
        have m2 := hXW1.cell u2
        have bD := Lib.hid (quietC (w := W1) (fun W h => Hdm.out W (HEwX.out.trans (hXW1.trans h))))
        clear Hix
        go_wp2_with fail
        refine wp_region_quiet_below (by kernel_rfl) (by kernel_rfl) ?_
        repeat (quiet_step (exact bD.out _ _))
        refine wpQuiet_nil ?_
        intro _ hw'
        obtain ⟨⟨dq, osq⟩, hw''⟩ := hw'
        subst hw''
        have hE6 := ext_regrown W1 dq osq
        have hX6 := hXW1.trans hE6
        have n0 := k4 dq osq
        have n1 := hE6.cell m1
        have n2 := hE6.cell m2
        clear bD k1 k2 k3 k4 m1 m2 k0 hE6 hXW1 hXa hW1 Hdm
        generalize hW6 : grow (redrawn _ _) _ = W6 at *
        clear hW6
        go_wp2_with fail
        refine (Hle.out _ hX6).mono ?_
        rintro e W7 ⟨rfl, hX7, hY7, hC7⟩
        rw [← HtX.out] at hX7
        have hC37 := (hC.out.trans (Chg.of_ext hX6)).trans hC7
        have hO6 := hO.out.ext hX6
        have hgxw3 : gx < w3.heap.size ∧ gy < w3.heap.size := by omega
        have hO7 : IntsV w3.heap.size W7 u5 (redQ (F.take i) x) := by
          rcases hO6.2 with ⟨rfl, h0⟩ | ⟨go, co, cur, rfl, hb, hg, hn, hm, hs, ht⟩
          · exact ⟨hO6.1, .inl ⟨rfl, h0⟩⟩
          · have hgo : ¬ (go = gx ∨ go = gy) := by omega
            have hlt' : go < W6.heap.size := (Array.getElem?_eq_some_iff.1 hg).1
            exact ⟨hO6.1, .inr ⟨go, co, cur, rfl, hb, by rw [hC7.block go hlt' hgo]; exact hg, hn, hm, hs, ht⟩⟩
        have hsz7 : w3.heap.size ≤ W7.heap.size := hC37.size
        have HX7 := Lib.hid hX7
        have HY7 := Lib.hid hY7
        have HC7 := Lib.hid hC37
        have HO7 := Lib.hid hO7
        clear hX7 hY7 hC37 hC7 hO6 hO7 Hle n0 n1 n2
        go_wp2_with (at_builtin; refine app_ints rfl _ _ rfl rfl (HO7.out.ext ((Ext.refl _).alloc _)) rfl (b := W7.heap.size) (z := a.fdiv b) (by go_simp) (by rw [Hql.out]; omega) (by simp; omega) ?_; intro gg cap2 w8 hO8 hB8 hG8; rw [Hql.out] at hO8 ⊢)
        rw [← HtQ.out] at hO8
        have hA7 := (Ext.refl W7).alloc (.cells #[I (a.fdiv b)] 38)
        have hC8 : Chg (fun k => k = gx ∨ k = gy) w3 w8 := chg_below (HC7.out.trans (Chg.of_ext hA7)) hB8
        have hkeep : ∀ {g c : Nat} {l : List Int}, g < w3.heap.size → OwnV 38 w.heap.size W7 g c (ss l) → OwnV 38 w.heap.size w8 g c (ss l) := fun {g c l} hg h => by
          obtain ⟨cur, h1, h2, h3, h4, h5, h6⟩ := (h.ext hA7).parts
          exact OwnV.of h1 (by rw [Below.block hB8 g hg]; exact h2) h3 h4 h5 h6
        have hX8 := hkeep hgxw3.1 HX7.out
        have hY8 := hkeep hgxw3.2 HY7.out
        clear hG8 hB8 hA7 hkeep
        go_wp2_with fail
        go_roundw
        case rel => exact ⟨i + 1, by omega, by go_num, Lib.hid hO8, Lib.hid hX8, Lib.hid hY8, Lib.hid hC8⟩
        case measure => simp [intOf] <;> omega
      · have hie : i = F.length := by omega
        subst hie
        go_wp2_with fail
        go_ret2
        refine ⟨_, _, rfl, ?_, ?_, ?_⟩
        · have := hX.out.ints
          rw [List.take_length, redX_length, ← Hn.out] at this
          exact this
        · have := hO.out
          rw [List.take_length] at this
          exact this.mono hEw3.size
        · exact hC.out.ext hEw3 (by
            rintro k (rfl | rfl)
            · exact hgxl.1
            · exact HOy2.out.lt.1)
end Go.Proofs.YthmhmkkcjlgbjaaGreatDoor
/- hermite: row.Check, open, contains, Contains, Reduce -/
namespace Go.Proofs.YthmhmkkcjlgbjaaGreatDoor
open Go.RowKit Go.Sort
theorem fits_any (z : Int) (w : World) : Calls Tryz.prog 144 #[.int .i64 z] w fun e w' => e = .returned (.bool (!grt z)) ∧ w' = w := by
  by_cases h1 : z < -1000000000
  · have hg : grt z = true := decide_eq_true (.inr h1)
    rw [hg]; clear hg
    go_enter Tryz.func144, Tryz.ntmps144
    go_wp2
    go_ret
    exact ⟨rfl, rfl⟩
  · have h2 : -1000000000 ≤ z := by omega
    by_cases h3 : z ≤ 1000000000
    · have hg : grt z = false := decide_eq_false (by omega)
      rw [hg]; clear hg
      go_enter Tryz.func144, Tryz.ntmps144
      go_wp2
      go_ret
      exact ⟨rfl, rfl⟩
    · have h4 : 1000000000 < z := by omega
      have hg : grt z = true := decide_eq_true (.inl h4)
      have hd : decide (z ≤ 1000000000) = false := decide_eq_false h3
      rw [hg]; clear hg h3
      go_enter Tryz.func144, Tryz.ntmps144
      go_wp2
      go_ret
      exact ⟨rfl, rfl⟩
theorem rowCheckC_any (z : Int) (w : World) : Calls Tryz.prog 143 #[.int .i64 z] w fun e w' => e = .returned (.bool (grt z)) ∧ Ext w w' := by
  have hf := Lib.hid (fits_any z)
  obtain ⟨b, hb⟩ : ∃ b, b = grt z := ⟨_, rfl⟩
  rw [← hb] at hf ⊢
  clear hb
  go_enter Tryz.func143, Tryz.ntmps143
  go_wp2_with fail
  refine (hf.out _).mono ?_
  rintro e W ⟨rfl, hw⟩
  have hE : Ext w W := by rw [hw]; exact Ext.refl _
  clear hw
  go_wp2_with fail
  go_ret
  exact ⟨by simp, hE⟩
/-- The error of a row. -/
def chkRow (x : List Int) : Int := if 64 < x.length then 4 else if x.any grt then 4 else 0
theorem chkRow_ok {x : List Int} (h : chkRow x = 0) : x.length ≤ 64 ∧ ∀ z ∈ x, -1000000000 ≤ z ∧ z ≤ 1000000000 := by
  unfold chkRow at h
  split at h
  · cases h
  · split at h
    · cases h
    · rename_i h1 h2
      refine ⟨by omega, fun z hz => ?_⟩
      have : grt z = false := by
        cases hg : grt z
        · rfl
        · exact absurd (List.any_eq_true.2 ⟨z, hz, hg⟩) h2
      unfold grt at this
      have := of_decide_eq_false this
      omega
theorem rowCheck_any {w : World} {v : Value} {x : List Int} (hR : RowR w v x) :
    Calls Tryz.prog 99 #[v] w fun e w' => e = .returned (.int .i64 (chkRow x)) ∧ Ext w w' := by
  obtain ⟨sa, gb, go, cap, rfl, hc, hS⟩ := hR
  by_cases h : 64 < x.length
  · have hi : (64 : Int) < (x.length : Int) := by omega
    have he : chkRow x = 4 := by unfold chkRow; rw [if_pos h]
    rw [he]
    clear he hS
    go_enter Tryz.func99, Tryz.ntmps99
    go_wp2_with fail
    go_ret
    exact ⟨rfl, Ext.refl _⟩
  · have hi : (x.length : Int) ≤ 64 := by omega
    have hcn := contains_rowCheck (cap := cap) (p := fun i => grt (x.getD i 0)) hS (by simp; omega) (fun k hk W hW => by
      have hk' : k < x.length := by simpa using hk
      have e : (is x)[k] = .int .i64 (x.getD k 0) := by rw [getD_get hk']; simp [is]
      rw [e]; exact rowCheckC_any _ W)
    rw [is_length, any_grt] at hcn
    have he : chkRow x = if x.any grt then 4 else 0 := by unfold chkRow; rw [if_neg h]
    rw [he]
    have Hcn := Lib.hid hcn
    clear he hcn hS h
    cases hg : x.any grt
    · rw [hg] at Hcn
      clear hg
      go_enter Tryz.func99, Tryz.ntmps99
      go_wp2_with fail
      refine Hcn.out.mono ?_
      rintro e W ⟨rfl, hW⟩
      go_wp2_with fail
      go_ret
      exact ⟨rfl, hW⟩
    · rw [hg] at Hcn
      clear hg
      go_enter Tryz.func99, Tryz.ntmps99
      go_wp2_with fail
      refine Hcn.out.mono ?_
      rintro e W ⟨rfl, hW⟩
      go_wp2_with fail
      go_ret
      exact ⟨rfl, hW⟩
/-- The first error of a form with a row. -/
def openE (F : Mx) (x : List Int) : Int :=
  if checkM F = 0 then if isF F then if chkRow x = 0 then if 0 < F.length ∧ x.length ≠ ncols F then 5 else 0 else chkRow x else 7 else checkM F
theorem openE_ok {F : Mx} {x : List Int} (h : openE F x = 0) : checkM F = 0 ∧ isF F = true ∧ chkRow x = 0 ∧ (0 < F.length → x.length = ncols F) := by
  unfold openE at h
  split at h
  · split at h
    · split at h
      · split at h
        · cases h
        · rename_i h1 h2 h3 h4
          exact ⟨h1, h2, h3, fun h5 => Classical.byContradiction fun h6 => h4 ⟨h5, h6⟩⟩
      · exact absurd h ‹_›
    · cases h
  · exact absurd h ‹_›
theorem ncols_row {w : World} {sa : Option Addr} {gb go : Nat} {vs : List Value} {M : Mx} (hS : Sl w sa gb go vs) (hl : vs.length = M.length) (hr : ∀ i (h : i < M.length) (h' : i < vs.length), RowR w vs[i] M[i]) (h0 : 0 < M.length) :
    ∃ s0 c0, sa = some ⟨gb, go, none⟩ ∧ w.cell? ⟨gb, go, none⟩ = some (.slice s0 (ncols M) c0) := by
  obtain ⟨s0, b0, o0, c0, hrow0, _, _⟩ := MatR.row hS hl hr h0
  have hn : M[0].length = ncols M := by unfold ncols; rw [getD_get h0]
  rw [hn, Nat.add_zero] at hrow0
  exact ⟨s0, c0, hS.addr (by omega), hrow0⟩
set_option maxRecDepth 100000 in
set_option maxHeartbeats 1000000 in
theorem open_any {w : World} {vf vx : Value} {F : Mx} {x : List Int} (hF : MatR w vf F) (hx : RowR w vx x) :
    Calls Tryz.prog 58 #[vf, vx] w fun e w' => e = .returned (.int .i64 (openE F x)) ∧ Ext w w' := by
  have hif := Lib.hid (IsForm_any hF)
  obtain ⟨c, hc⟩ : ∃ c, c = checkM F := ⟨_, rfl⟩
  by_cases h0 : c = 0
  · have hc0 : checkM F = 0 := by omega
    rw [show isFE F = isF F by unfold isFE; rw [if_pos hc0], hc0] at hif
    cases hf : isF F
    · rw [hf] at hif
      have hE : openE F x = 7 := by unfold openE; rw [if_pos hc0, hf]; rfl
      rw [hE]
      clear hf hE hc0 hF hx h0 hc c
      go_enter Tryz.func58, Tryz.ntmps58
      go_wp2_with fail
      refine hif.out.mono ?_
      rintro e w1 ⟨rfl, hE1⟩
      go_wp2_with fail
      go_ret
      exact ⟨rfl, hE1⟩
    · rw [hf] at hif
      have hrc := Lib.hid (fun W (hW : Ext w W) => rowCheck_any (hx.ext hW))
      obtain ⟨d, hd⟩ : ∃ d, d = chkRow x := ⟨_, rfl⟩
      by_cases hd0 : d = 0
      · rw [← hd, hd0] at hrc
        obtain ⟨sa, gb, go, cap, vs, rfl, hcap, hvl, hS, hr⟩ := hF
        obtain ⟨sx, bx, ox, cx, rfl, hxc, hSx⟩ := hx
        have hE : openE F x = if 0 < F.length ∧ x.length ≠ ncols F then 5 else 0 := by unfold openE; rw [if_pos hc0, hf, if_pos rfl, ← hd, hd0, if_pos rfl]
        rw [hE]
        by_cases hl : F.length = 0
        · have hlb : (F.length : Int) ≤ 0 := by omega
          rw [if_neg (by omega)]
          clear hf hE hc0 h0 hc c hd hd0 hS hr hvl hSx hl
          go_enter Tryz.func58, Tryz.ntmps58
          go_wp2_with fail
          refine hif.out.mono ?_
          rintro e w1 ⟨rfl, hE1⟩
          go_wp2_with fail
          refine (hrc.out _ hE1).mono ?_
          rintro e w2 ⟨rfl, hE2⟩
          go_wp2_with fail
          go_ret
          exact ⟨rfl, hE1.trans hE2⟩
        · have hl0 : 0 < F.length := by omega
          have hlb : (0 : Int) < (F.length : Int) := by omega
          obtain ⟨s0, c0, rfl, hrow⟩ := ncols_row hS hvl hr hl0
          obtain ⟨m, hm⟩ : ∃ m, m = ncols F := ⟨_, rfl⟩
          obtain ⟨n, hn⟩ : ∃ n, n = x.length := ⟨_, rfl⟩
          rw [← hm] at hrow ⊢
          rw [← hn] at hxc hrc ⊢
          have Hrow := Lib.hid hrow
          clear hf hE hc0 h0 hc c hd hd0 hS hr hvl hSx hl hm hn hrow
          by_cases hmn : n = m
          · subst hmn
            rw [if_neg (by omega)]
            go_enter Tryz.func58, Tryz.ntmps58
            go_wp2_with fail
            refine hif.out.mono ?_
            rintro e w1 ⟨rfl, hE1⟩
            go_wp2_with fail
            refine (hrc.out _ hE1).mono ?_
            rintro e w2 ⟨rfl, hE2⟩
            have hrow2 := (hE1.trans hE2).cell Hrow.out
            go_wp2_with fail
            go_ret
            exact ⟨rfl, hE1.trans hE2⟩
          · rw [if_pos ⟨hl0, hmn⟩]
            have hnb : ((n : Int) == (m : Int)) = false := beq_eq_false_iff_ne.2 (by omega)
            have hnb2 : ((n : Int) != (m : Int)) = true := by simp [bne, hnb]
            have hnc' : ¬ (n : Int) = (m : Int) := by omega
            clear hmn
            go_enter Tryz.func58, Tryz.ntmps58
            go_wp2_with fail
            refine hif.out.mono ?_
            rintro e w1 ⟨rfl, hE1⟩
            go_wp2_with fail
            refine (hrc.out _ hE1).mono ?_
            rintro e w2 ⟨rfl, hE2⟩
            have hrow2 := (hE1.trans hE2).cell Hrow.out
            go_wp2_with fail
            go_ret
            exact ⟨rfl, hE1.trans hE2⟩
      · have hE : openE F x = d := by unfold openE; rw [if_pos hc0, hf, if_pos rfl, ← hd, if_neg hd0]
        rw [hE]
        rw [← hd] at hrc
        have hcb : (d == 0) = false := beq_eq_false_iff_ne.2 hd0
        have hcb2 : (d != 0) = true := by simp [bne, hcb]
        clear hf hE hc0 hF hx h0 hc c hd
        go_enter Tryz.func58, Tryz.ntmps58
        go_wp2_with fail
        refine hif.out.mono ?_
        rintro e w1 ⟨rfl, hE1⟩
        go_wp2_with fail
        refine (hrc.out _ hE1).mono ?_
        rintro e w2 ⟨rfl, hE2⟩
        go_wp2_with fail
        go_ret
        exact ⟨rfl, hE1.trans hE2⟩
  · have hE : openE F x = c := by unfold openE; rw [if_neg (by omega), hc]
    rw [hE]
    rw [← hc] at hif
    have hcb : (c == 0) = false := beq_eq_false_iff_ne.2 h0
    have hcb2 : (c != 0) = true := by simp [bne, hcb]
    clear hF hx hc hE
    go_enter Tryz.func58, Tryz.ntmps58
    go_wp2_with fail
    refine hif.out.mono ?_
    rintro e w1 ⟨rfl, hE1⟩
    go_wp2_with fail
    go_ret
    exact ⟨rfl, hE1⟩
end Go.Proofs.YthmhmkkcjlgbjaaGreatDoor
/- hermite: contains, Contains, Reduce, includes -/
namespace Go.Proofs.YthmhmkkcjlgbjaaGreatDoor
open Go.RowKit Go.Sort
theorem containsC_any (z : Int) (w : World) : Calls Tryz.prog 101 #[I z] w fun e w' => e = .returned (.bool (decide (z ≠ 0))) ∧ Ext w w' := by
  have hitz : (Lib.itoa z == [48]) = decide (z = 0) := itoa_eq_zero z
  by_cases h : z = 0
  · rw [decide_eq_true h] at hitz
    have hb : decide (z ≠ 0) = false := decide_eq_false (by simpa using h)
    rw [hb]
    clear h hb
    go_enter Tryz.func101, Tryz.ntmps101
    go_wp2
    go_ret
    exact ⟨rfl, Ext.refl _⟩
  · rw [decide_eq_false h] at hitz
    have hb : decide (z ≠ 0) = true := decide_eq_true h
    rw [hb]
    have hitz2 : (Lib.itoa z != [48]) = true := by simp [bne, hitz]
    clear h hb
    go_enter Tryz.func101, Tryz.ntmps101
    go_wp2
    go_ret
    exact ⟨rfl, Ext.refl _⟩
/-- Zeros alone. -/
def zeroB (l : List Int) : Bool := !(anyB (fun i => decide (l.getD i 0 ≠ 0)) l.length)
theorem zeroB_iff {l : List Int} : zeroB l = true ↔ zeroL l := by
  unfold zeroB zeroL
  rw [Bool.not_eq_true', ← Bool.not_eq_true, anyB_iff]
  constructor
  · intro h z hz
    obtain ⟨i, hi, rfl⟩ := List.getElem_of_mem hz
    exact Classical.byContradiction fun hne => h ⟨i, hi, by rw [getD_get hi]; exact decide_eq_true hne⟩
  · rintro h ⟨i, hi, hd⟩
    rw [getD_get hi] at hd
    exact of_decide_eq_true hd (h _ (List.getElem_mem hi))
/-- The row belongs to the lattice of the form. -/
def inB (F : Mx) (x : List Int) : Bool := zeroB (redX F x)
def CnPost (w : World) (F : Mx) (x : List Int) (e : Ending) (w' : World) : Prop := ∃ v, e = .returned (.tuple #[v, .bool (inB F x)]) ∧ IntsV w.heap.size w' v (redQ F x) ∧ Ext w w'
set_option maxRecDepth 100000 in
theorem contains_any {w : World} {vf vx : Value} {F : Mx} {x : List Int} (hF : MatR w vf F) (hx : RowR w vx x) (ho : openE F x = 0) (hL : Laid w) :
    Calls Tryz.prog 59 #[vf, vx] w (CnPost w F x) := by
  obtain ⟨hc, hi, hr, hlen⟩ := openE_ok ho
  obtain ⟨hxl, hxe⟩ := chkRow_ok hr
  have hrd := Lib.hid (reduce_any hF hx hc hi hxl hxe hlen hL)
  have hxb : x.length ≤ 1000000 := by omega
  clear hF hx ho hL hc hi hr hlen hxe hxl
  go_enter Tryz.func59, Tryz.ntmps59
  go_wp2_with fail
  refine hrd.out.mono ?_
  rintro e W ⟨v1, v2, rfl, h1, h2, hW⟩
  obtain ⟨ga, gb, cp, rfl, hcp, hS⟩ := h1.sl
  have hcn := contains_notin (cap := cp) (p := fun i => decide ((redX F x).getD i 0 ≠ 0)) hS (by simp; omega) (fun k hk W2 hW2 => by
    have hk' : k < (redX F x).length := by simpa using hk
    have e : (ss (redX F x))[k] = I ((redX F x).getD k 0) := by rw [getD_get hk']; simp [ss]
    rw [e]; exact containsC_any _ W2)
  rw [ss_length, redX_length] at hcn
  have hin : inB F x = !(anyB (fun i => decide ((redX F x).getD i 0 ≠ 0)) x.length) := by unfold inB zeroB; rw [redX_length]
  have Hin := Lib.hid hin
  obtain ⟨b, hb⟩ : ∃ b, b = anyB (fun i => decide ((redX F x).getD i 0 ≠ 0)) x.length := ⟨_, rfl⟩
  rw [← hb] at hcn Hin
  have Hcn := Lib.hid hcn
  have H2 := Lib.hid h2
  clear hcn hin hb hS h1 h2 hcp
  go_wp2_with fail
  refine Hcn.out.mono ?_
  rintro e W2 ⟨rfl, hW2⟩
  go_wp2_with fail
  go_ret2
  exact ⟨_, by rw [Hin.out]; rfl, H2.out.ext hW2, hW.trans hW2⟩
theorem Contains_ok {w : World} {vf vx : Value} {F : Mx} {x : List Int} (hF : MatR w vf F) (hx : RowR w vx x) (ho : openE F x = 0) (hL : Laid w) :
    Calls Tryz.prog 18 #[vf, vx] w fun e w' => e = .returned (.tuple #[.bool (inB F x), .int .i64 0]) ∧ Ext w w' := by
  have hop := Lib.hid (open_any hF hx)
  rw [ho] at hop
  have hcn := Lib.hid (fun W (hW : Ext w W) => contains_any (hF.ext hW) (hx.ext hW) ho (hL.ext hW))
  clear hF hx ho hL
  go_enter Tryz.func18, Tryz.ntmps18
  go_wp2_with fail
  refine hop.out.mono ?_
  rintro e w1 ⟨rfl, hE1⟩
  go_wp2_with fail
  refine (hcn.out _ hE1).mono ?_
  rintro e w2 ⟨v, rfl, _, hE2⟩
  go_wp2_with fail
  go_ret2
  exact ⟨rfl, hE1.trans hE2⟩
theorem Contains_err {w : World} {vf vx : Value} {F : Mx} {x : List Int} {c : Int} (hF : MatR w vf F) (hx : RowR w vx x) (ho : openE F x = c) (hc : c ≠ 0) :
    Calls Tryz.prog 18 #[vf, vx] w fun e w' => e = .returned (.tuple #[.bool false, .int .i64 c]) ∧ Ext w w' := by
  have hop := Lib.hid (open_any hF hx)
  rw [ho] at hop
  have hcb : (c == 0) = false := beq_eq_false_iff_ne.2 hc
  have hcb2 : (c != 0) = true := by simp [bne, hcb]
  clear hF hx ho
  go_enter Tryz.func18, Tryz.ntmps18
  go_wp2_with fail
  refine hop.out.mono ?_
  rintro e w1 ⟨rfl, hE1⟩
  go_wp2_with fail
  go_ret2
  exact ⟨rfl, hE1⟩
/-- What Reduce returns. -/
def RcPost (w : World) (F : Mx) (x : List Int) (e : Ending) (w' : World) : Prop :=
  (if openE F x = 0 then
    if smallB (redX F x) && smallB (redQ F x) then ∃ v1 v2, e = .returned (.tuple #[v1, v2, .int .i64 0]) ∧ RowV w.heap.size w' v1 (redX F x) ∧ RowV w.heap.size w' v2 (redQ F x)
    else e = .returned (.tuple #[.slice none 0 0, .slice none 0 0, .int .i64 4])
  else e = .returned (.tuple #[.slice none 0 0, .slice none 0 0, .int .i64 (openE F x)])) ∧ Ext w w'
theorem redQ_small {F : Mx} {x : List Int} (hP : Piv F) (hF : ∀ r ∈ F, ∀ z ∈ r, z.natAbs < 2 ^ 30) (hx : ∀ z ∈ x, z.natAbs < 2 ^ 30) : ∀ i, i ≤ F.length → ∀ z ∈ redQ (F.take i) x, z.natAbs < 2 ^ (30 + 31 * i)
  | 0, _ => by simp [redQ]
  | i + 1, h => by
    have ih := redQ_small hP hF hx i (by omega)
    rw [redQ_take (by omega)]
    intro z hz
    rcases List.mem_append.1 hz with hz | hz
    · exact Nat.lt_of_lt_of_le (ih z hz) (Nat.pow_le_pow_right (by omega) (by omega))
    · simp only [List.mem_cons, List.not_mem_nil, or_false] at hz
      rw [hz]
      exact Nat.lt_of_lt_of_le (stepQ_abs (hP i (by omega)) (Nat.pow_pos (by omega)) (redX_small hP hF hx i (by omega))) (Nat.pow_le_pow_right (by omega) (by omega))
theorem red_nd {F : Mx} {x : List Int} (ho : openE F x = 0) : (∀ z ∈ redX F x, nd z ≤ LIM) ∧ ∀ z ∈ redQ F x, nd z ≤ LIM := by
  obtain ⟨hc, hi, hr, hlen⟩ := openE_ok ho
  obtain ⟨hxl, hxe⟩ := chkRow_ok hr
  obtain ⟨hm12, hn12, hrect, hent⟩ := checkM_ok hc
  have h30 : ∀ z : Int, -1000000000 ≤ z ∧ z ≤ 1000000000 → z.natAbs < 2 ^ 30 := fun z hz => by
    have e : (2 : Nat) ^ 30 = 1073741824 := by decide
    rw [e]; omega
  have hP := (isF_isH hrect hi).piv
  have h1 := redX_small hP (fun r hr z hz => h30 z (hent r hr z hz)) (fun z hz => h30 z (hxe z hz)) F.length (Nat.le_refl _)
  have h2 := redQ_small hP (fun r hr z hz => h30 z (hent r hr z hz)) (fun z hz => h30 z (hxe z hz)) F.length (Nat.le_refl _)
  rw [List.take_length] at h1 h2
  exact ⟨fun z hz => by have := nd_lt2 (h1 z hz); unfold LIM; omega, fun z hz => by have := nd_lt2 (h2 z hz); unfold LIM; omega⟩
set_option maxRecDepth 100000 in
set_option maxHeartbeats 1000000 in
theorem Reduce_any {w : World} {vf vx : Value} {F : Mx} {x : List Int} (hF : MatR w vf F) (hx : RowR w vx x) (hL : Laid w) :
    Calls Tryz.prog 38 #[vf, vx] w (RcPost w F x) := by
  have hop := Lib.hid (open_any hF hx)
  obtain ⟨c, hc⟩ : ∃ c, c = openE F x := ⟨_, rfl⟩
  by_cases h0 : c = 0
  · have ho : openE F x = 0 := by omega
    rw [ho] at hop
    obtain ⟨hc1, hi1, hr1, hlen1⟩ := openE_ok ho
    obtain ⟨hxl, hxe⟩ := chkRow_ok hr1
    have hml := (checkM_ok hc1).1
    have hrd := Lib.hid (fun W (hW : Ext w W) => reduce_any (hF.ext hW) (hx.ext hW) hc1 hi1 hxl hxe hlen1 (hL.ext hW))
    obtain ⟨hn1, hn2⟩ := red_nd ho
    have HN1 := Lib.hid hn1
    have HN2 := Lib.hid hn2
    have HO := Lib.hid ho
    have HL := Lib.hid hL
    clear hF hx hL hc h0 c hc1 hi1 hr1 hlen1 hxe hn1 hn2 ho
    have hfin4 : ∀ W, Ext w W → (smallB (redX F x) && smallB (redQ F x)) = false → RcPost w F x (.returned (.tuple #[.slice none 0 0, .slice none 0 0, .int .i64 4])) W := fun W hW h => by
      unfold RcPost; rw [if_pos HO.out, if_neg (by rw [h]; decide)]; exact ⟨rfl, hW⟩
    have Hf4 := Lib.hid hfin4
    clear hfin4
    go_enter Tryz.func38, Tryz.ntmps38
    go_wp2_with fail
    refine hop.out.mono ?_
    rintro e w1 ⟨rfl, hE1⟩
    go_wp2_with fail
    refine (hrd.out _ hE1).mono ?_
    rintro e w2 ⟨v1, v2, rfl, h1, h2, hE2⟩
    obtain ⟨ga, gb, cp, rfl, hcp, hS1⟩ := h1.sl
    obtain ⟨ha, hb, cq, rfl, hcq, hS2⟩ := h2.sl
    have hEw2 := hE1.trans hE2
    have hs1 := Lib.hid (hSmall_any (w := w2) (cap := cp) hS1 (by rw [redX_length]; omega) HN1.out (HL.out.ext hEw2))
    have hs2 := Lib.hid (fun W (hW : Ext w2 W) => hSmall_any (w := W) (cap := cq) (hS2.ext hW) (by rw [redQ_length]; omega) HN2.out (HL.out.ext (hEw2.trans hW)))
    rw [redX_length] at hs1
    rw [redQ_length] at hs2
    clear hop hrd h1 h2 hS1 hS2 hcp hcq
    cases hb1 : smallB (redX F x)
    · have Hb1 := Lib.hid hb1
      clear hb1
      go_wp2_with fail
      refine hs1.out.mono ?_
      rintro e w3 ⟨hp, hE3⟩
      rw [if_neg (by rw [Hb1.out]; decide)] at hp
      obtain rfl := hp
      go_wp2_with fail
      go_ret3
      exact Hf4.out _ (hEw2.trans hE3) (by rw [Hb1.out]; rfl)
    · have Hb1 := Lib.hid hb1
      clear hb1
      go_wp2_with fail
      refine hs1.out.mono ?_
      rintro e w3 ⟨hp, hE3⟩
      rw [if_pos Hb1.out] at hp
      obtain ⟨u1, rfl, hu1⟩ := hp
      have HU1 := Lib.hid (hu1.v.mono (B' := w.heap.size) hEw2.size)
      clear hu1 hs1
      cases hb2 : smallB (redQ F x)
      · have Hb2 := Lib.hid hb2
        clear hb2
        go_wp2_with fail
        refine (hs2.out _ hE3).mono ?_
        rintro e w4 ⟨hp, hE4⟩
        rw [if_neg (by rw [Hb2.out]; decide)] at hp
        obtain rfl := hp
        go_wp2_with fail
        go_ret3
        exact Hf4.out _ ((hEw2.trans hE3).trans hE4) (by rw [Hb1.out, Hb2.out]; rfl)
      · have Hb2 := Lib.hid hb2
        clear hb2
        go_wp2_with fail
        refine (hs2.out _ hE3).mono ?_
        rintro e w4 ⟨hp, hE4⟩
        rw [if_pos Hb2.out] at hp
        obtain ⟨u2, rfl, hu2⟩ := hp
        have HU2 := Lib.hid (hu2.v.mono (B' := w.heap.size) (hEw2.trans hE3).size)
        clear hu2 hs2
        go_wp2_with fail
        go_ret3
        refine ⟨?_, (hEw2.trans hE3).trans hE4⟩
        rw [if_pos HO.out, if_pos (by rw [Hb1.out, Hb2.out]; rfl)]
        exact ⟨_, _, rfl, HU1.out.ext hE4, HU2.out⟩
  · rw [← hc] at hop
    have hfin : ∀ W, Ext w W → RcPost w F x (.returned (.tuple #[.slice none 0 0, .slice none 0 0, .int .i64 c])) W := fun W hW => by
      unfold RcPost; rw [← hc, if_neg h0]; exact ⟨rfl, hW⟩
    have Hfin := Lib.hid hfin
    have hcb : (c == 0) = false := beq_eq_false_iff_ne.2 h0
    have hcb2 : (c != 0) = true := by simp [bne, hcb]
    clear hF hx hL hc hfin
    go_enter Tryz.func38, Tryz.ntmps38
    go_wp2_with fail
    refine hop.out.mono ?_
    rintro e w1 ⟨rfl, hE1⟩
    go_wp2_with fail
    go_ret3
    exact Hfin.out _ hE1
end Go.Proofs.YthmhmkkcjlgbjaaGreatDoor
