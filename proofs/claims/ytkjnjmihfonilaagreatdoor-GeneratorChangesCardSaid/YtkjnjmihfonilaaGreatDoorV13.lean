/- Part 13 of the proof of the claim: contracts of the functions that it reaches, and plain laws; no condition. -/
import Derived.Test.YtkjnjmihfonilaaGreatDoorV12
import Derived.Test.YtkjnjmihfonilaaGreatDoorV10
namespace Go.Proofs.YtkjnjmihfonilaaGreatDoor
open Go.RowKit Go.Sort
theorem Tryz.infoLong : (Tryz.prog.info? 138).map (fun i => (i.zero, i.size, i.bytes)) = some (some (.slice none 0 0), 1, 24) := by kernel_rfl
structure LrX (B : Nat) (w : World) (v : Value) (F : Mx) (ad : List (Nat × Nat)) : Prop where
  len : ad.length = F.length
  own : w.ownsRow B 138 1 v F.length (hdV ad F)
  row : ∀ i (h : i < F.length) (h' : i < ad.length), 0 < F[i].length → OwnV 80 B w ad[i].1 ad[i].2 (ss F[i])
  dis : ∀ i j (hi : i < ad.length) (hj : j < ad.length) (h : i < F.length) (h' : j < F.length), 0 < F[i].length → 0 < F[j].length → i ≠ j → ad[i].1 ≠ ad[j].1
theorem LrX.nil (B : Nat) (w : World) : LrX B w (.slice none 0 0) [] [] :=
  ⟨rfl, ⟨rfl, .inl ⟨rfl, rfl⟩⟩, (fun i h => by simp at h), (fun i j h => by simp at h)⟩
theorem LrX.ext {B : Nat} {w w' : World} {v : Value} {F : Mx} {ad : List (Nat × Nat)} (h : LrX B w v F ad) (he : Ext w w') : LrX B w' v F ad :=
  ⟨h.len, ownsRow_ext h.own he, fun i a b c => (h.row i a b c).ext he, h.dis⟩
theorem LrX.mono {B B' : Nat} {w : World} {v : Value} {F : Mx} {ad : List (Nat × Nat)} (h : LrX B w v F ad) (hB : B' ≤ B) : LrX B' w v F ad :=
  ⟨h.len, ownsRow_mono h.own hB, fun i a b c => (h.row i a b c).mono hB, h.dis⟩
theorem LrX.shape {B : Nat} {w : World} {v : Value} {F : Mx} {ad : List (Nat × Nat)} (h : LrX B w v F ad) : ∃ ga cap, v = .slice ga F.length cap ∧ F.length ≤ cap ∧ (0 < F.length → ∃ g, ga = some ⟨g, 0, none⟩) := by
  rcases h.own.2 with ⟨rfl, h0⟩ | ⟨g, cap, cur, rfl, hb, hg, hn, hm, hs, ht⟩
  · rw [h0]; exact ⟨none, 0, rfl, Nat.le_refl _, fun h => by omega⟩
  · exact ⟨_, cap, rfl, hn, fun _ => ⟨g, rfl⟩⟩
theorem LrX.outer {B : Nat} {w : World} {g cap : Nat} {F : Mx} {ad : List (Nat × Nat)} (h : LrX B w (slv g F.length cap) F ad) : OwnV 138 B w g cap (hdV ad F) := by
  unfold OwnV; rw [hdV_length _ _ h.len]; exact h.own
theorem ne_outerL {B B' : Nat} {w : World} {g cap gx cx : Nat} {xs ys : List Value} (h : OwnV 138 B w g cap xs) (h' : OwnV 80 B' w gx cx ys) : gx ≠ g := by
  intro e
  exact own_ne (u := slv gx ys.length cx) (v := slv g xs.length cap) h' h (by decide) (g := gx) rfl (by rw [e]; rfl)
theorem LrX.at {B : Nat} {w : World} {g cap n i : Nat} {F : Mx} {ad : List (Nat × Nat)} (h : LrX B w (slv g F.length cap) F ad) (hR : Rect n F) (hn : 0 < n) (hi : i < F.length) :
    ∃ gx cx, ad[i]? = some (gx, cx) ∧ w.cell? ⟨g, i, none⟩ = some (slv gx n cx) ∧ OwnV 80 B w gx cx (ss (F.getD i [])) ∧ gx ≠ g ∧ (F.getD i []).length = n := by
  have hi' : i < ad.length := by rw [h.len]; exact hi
  have hl : F[i].length = n := hR _ (List.getElem_mem hi)
  have hO := h.row i hi hi' (by omega)
  refine ⟨ad[i].1, ad[i].2, by rw [List.getElem?_eq_getElem hi'], ?_, ?_, ne_outerL h.outer hO, by rw [getD_get hi]; exact hl⟩
  · have hg := hdV_get ad F i hi' hi
    obtain ⟨hlt, he⟩ := List.getElem?_eq_some_iff.1 hg
    rw [h.outer.cell (j := i) hlt, he, hl, xv_pos hn]
  · rw [getD_get hi]; exact hO
theorem LrX.wrote {B : Nat} {w w' : World} {g cap i gx cx : Nat} {F : Mx} {ad : List (Nat × Nat)} {r : List Int} (h : LrX B w (slv g F.length cap) F ad) (hi : i < F.length) (ha : ad[i]? = some (gx, cx)) (hr : r.length = (F.getD i []).length) (hr0 : 0 < r.length)
    (hO : OwnV 80 B w' gx cx (ss r)) (hC : Chg (fun k => k = gx) w w') : LrX B w' (slv g F.length cap) (F.set i r) ad := by
  have hi' : i < ad.length := by rw [h.len]; exact hi
  rw [getD_get hi] at hr
  rw [List.getElem?_eq_getElem hi'] at ha
  have ea := Option.some.inj ha
  have hOi := h.row i hi hi' (by omega)
  have hg : g ≠ gx := by
    have := ne_outerL h.outer hOi
    rw [ea] at this; exact Ne.symm this
  have hOut := hC.own hg h.outer
  have hh : hdV ad (F.set i r) = hdV ad F := by
    have e : ad = ad.set i ad[i] := (List.set_getElem_self hi').symm
    have := hdV_set ad F i ad[i] r
    rw [← e] at this
    rw [this]
    have hg2 := hdV_get ad F i hi' hi
    obtain ⟨hlt, he⟩ := List.getElem?_eq_some_iff.1 hg2
    rw [hr, ← he, List.set_getElem_self]
  refine ⟨by rw [List.length_set]; exact h.len, ?_, fun j hj hj' hj0 => ?_, fun j k hj hk hj2 hk2 hj0 hk0 hjk => ?_⟩
  · unfold OwnV at hOut
    rw [hdV_length _ _ h.len] at hOut
    rw [List.length_set, hh]; exact hOut
  · rw [List.length_set] at hj
    by_cases hij : i = j
    · subst hij; simp only [List.getElem_set_self]; rw [ea]; exact hO
    · simp only [List.getElem_set_ne hij] at hj0 ⊢
      have := h.dis j i hj' hi' hj hi hj0 (by omega) (Ne.symm hij)
      rw [ea] at this
      exact hC.own this (h.row j hj hj' hj0)
  · rw [List.length_set] at hj2 hk2
    refine h.dis j k hj hk hj2 hk2 ?_ ?_ hjk
    · by_cases hij : i = j
      · subst hij; omega
      · simpa only [List.getElem_set_ne hij] using hj0
    · by_cases hij : i = k
      · subst hij; omega
      · simpa only [List.getElem_set_ne hij] using hk0
theorem LrX.swapped {B : Nat} {w : World} {g cap n i j gi ci gj cj : Nat} {F : Mx} {ad : List (Nat × Nat)} (h : LrX B w (slv g F.length cap) F ad) (hR : Rect n F) (hn : 0 < n) (hi : i < F.length) (hj : j < F.length) (hai : ad[i]? = some (gi, ci)) (haj : ad[j]? = some (gj, cj)) :
    LrX B ((w.setCell ⟨g, i, none⟩ (slv gj n cj)).setCell ⟨g, j, none⟩ (slv gi n ci)) (slv g F.length cap) (sw2 F [] i j) (sw2 ad (0, 0) i j)
      ∧ w.grownBy ((w.setCell ⟨g, i, none⟩ (slv gj n cj)).setCell ⟨g, j, none⟩ (slv gi n ci)) (some g) ∧ Rect n (sw2 F [] i j) := by
  have hi' : i < ad.length := by rw [h.len]; exact hi
  have hj' : j < ad.length := by rw [h.len]; exact hj
  have h1 := h.outer.set i (slv gj n cj)
  have h2 := h1.1.set j (slv gi n ci)
  have hG := grown_trans h1.2 h2.2
  have ei : ad.getD i (0, 0) = (gi, ci) := by rw [List.getD_eq_getElem?_getD, hai]; rfl
  have ej : ad.getD j (0, 0) = (gj, cj) := by rw [List.getD_eq_getElem?_getD, haj]; rfl
  have fi : (F.getD i []).length = n := by rw [getD_get hi]; exact hR _ (List.getElem_mem hi)
  have fj : (F.getD j []).length = n := by rw [getD_get hj]; exact hR _ (List.getElem_mem hj)
  have eh : hdV (sw2 ad (0, 0) i j) (sw2 F [] i j) = ((hdV ad F).set i (slv gj n cj)).set j (slv gi n ci) := by
    unfold sw2
    rw [hdV_set, hdV_set, ei, ej, fi, fj, xv_pos hn, xv_pos hn]
  have hR2 : Rect n (sw2 F [] i j) := fun s hs => by
    obtain ⟨t, ht, rfl⟩ := List.getElem_of_mem hs
    rw [sw2_get F [] hi hj ht]
    exact hR _ (List.getElem_mem _)
  refine ⟨⟨by simp [h.len], ?_, fun t ht ht' ht0 => ?_, fun t u ht hu ht2 hu2 ht0 hu0 htu => ?_⟩, hG, hR2⟩
  · have := h2.1
    unfold OwnV at this
    rw [← eh, hdV_length _ _ (by simp [h.len]), sw2_length] at this
    rw [sw2_length]; exact this
  · rw [sw2_get F [] hi hj ht] at ht0 ⊢
    rw [sw2_get ad (0, 0) hi' hj' ht']
    have ht2 : t < F.length := by simpa using ht
    have hO := h.row (sg i j t) (sg_lt hi hj ht2) (sg_lt hi' hj' (by simpa using ht')) ht0
    exact hO.other hG (ne_outerL h.outer hO)
  · rw [sw2_get F [] hi hj ht2] at ht0
    rw [sw2_get F [] hi hj hu2] at hu0
    rw [sw2_get ad (0, 0) hi' hj' ht, sw2_get ad (0, 0) hi' hj' hu]
    exact h.dis _ _ _ _ (sg_lt hi hj (by simpa using ht2)) (sg_lt hi hj (by simpa using hu2)) ht0 hu0 (fun e => htu (sg_inj e))
theorem LrX.stored {B : Nat} {w : World} {g cap i gx cx : Nat} {F : Mx} {ad : List (Nat × Nat)} {r : List Int} (h : LrX B w (slv g F.length cap) F ad) (hi : i < F.length) (hr0 : 0 < r.length) (hO : OwnV 80 B w gx cx (ss r))
    (hne : ∀ j (_ : j < ad.length) (h : j < F.length), 0 < F[j].length → j ≠ i → ad[j].1 ≠ gx) :
    LrX B (w.setCell ⟨g, i, none⟩ (slv gx r.length cx)) (slv g F.length cap) (F.set i r) (ad.set i (gx, cx)) ∧ w.grownBy (w.setCell ⟨g, i, none⟩ (slv gx r.length cx)) (some g) := by
  have hi' : i < ad.length := by rw [h.len]; exact hi
  have h1 := h.outer.set i (slv gx r.length cx)
  refine ⟨⟨by simp [h.len], ?_, fun j hj hj' hj0 => ?_, fun j k hj hk hj2 hk2 hj0 hk0 hjk => ?_⟩, h1.2⟩
  · have := h1.1
    unfold OwnV at this
    rw [show slv gx r.length cx = xv r.length (gx, cx).1 (gx, cx).2 from (xv_pos hr0 _ _).symm, ← hdV_set, hdV_length _ _ (by simp [h.len]), List.length_set] at this
    rw [List.length_set, show slv gx r.length cx = xv r.length (gx, cx).1 (gx, cx).2 from (xv_pos hr0 _ _).symm]; exact this
  · rw [List.length_set] at hj hj'
    by_cases hij : i = j
    · subst hij; simp only [List.getElem_set_self]; exact hO.other h1.2 (ne_outerL h.outer hO)
    · simp only [List.getElem_set_ne hij] at hj0 ⊢
      have hOj := h.row j hj hj' hj0
      exact hOj.other h1.2 (ne_outerL h.outer hOj)
  · rw [List.length_set] at hj hk hj2 hk2
    by_cases hij : i = j
    · subst hij
      simp only [List.getElem_set_ne hjk] at hk0
      simp only [List.getElem_set_self, List.getElem_set_ne hjk]
      exact Ne.symm (hne k hk hk2 hk0 (Ne.symm hjk))
    · simp only [List.getElem_set_ne hij] at hj0 ⊢
      by_cases hik : i = k
      · subst hik
        simp only [List.getElem_set_self]
        exact hne j hj hj2 hj0 hjk
      · simp only [List.getElem_set_ne hik] at hk0 ⊢
        exact h.dis j k hj hk hj2 hk2 hj0 hk0 hjk
def LgsR (w : World) (v : Value) (M : Mx) : Prop := ∃ sa gb go cap vs, v = .slice sa M.length cap ∧ M.length ≤ cap ∧ vs.length = M.length ∧ Sl w sa gb go vs ∧ ∀ i (h : i < M.length) (h' : i < vs.length), IntsR w vs[i] M[i]
theorem LgsR.ext {w w' : World} {v : Value} {M : Mx} (h : LgsR w v M) (he : Ext w w') : LgsR w' v M := by
  obtain ⟨sa, gb, go, cap, vs, h1, h2, h3, h4, h5⟩ := h
  exact ⟨sa, gb, go, cap, vs, h1, h2, h3, h4.ext he, fun i a b => (h5 i a b).ext he⟩
theorem LrX.gridR {B : Nat} {w : World} {v : Value} {F : Mx} {ad : List (Nat × Nat)} (h : LrX B w v F ad) : LgsR w v F := by
  have hr : ∀ i (_ : i < F.length) (h' : i < (hdV ad F).length), IntsR w (hdV ad F)[i] F[i] := fun i a b => by
    have hi' : i < ad.length := by rw [h.len]; exact a
    have hg := hdV_get ad F i hi' a
    obtain ⟨_, he⟩ := List.getElem?_eq_some_iff.1 hg
    rw [he]
    rcases Nat.eq_zero_or_pos F[i].length with hn | hn
    · rw [List.eq_nil_of_length_eq_zero hn]
      exact ⟨none, 0, 0, 0, rfl, Nat.le_refl _, Sl.nil _ _ _ _⟩
    · rw [xv_pos hn]; exact (h.row i a hi' hn).intsR rfl
  rcases h.own.2 with ⟨rfl, h0⟩ | ⟨g, cap, cur, rfl, hb, hg, hn, hm, hs, ht⟩
  · have hF : F = [] := List.eq_nil_of_length_eq_zero h0
    subst hF
    exact ⟨none, 0, 0, 0, [], rfl, Nat.le_refl _, rfl, Sl.nil _ _ _ _, fun i h => by simp at h⟩
  · exact ⟨_, g, 0, cap, hdV ad F, rfl, hn, hdV_length _ _ h.len, h.outer.sl, hr⟩
section
variable {w : World} {ops : Array Oper} {rest : List Oper} {o : Oper} {a : Act} {Q : Exit → Act → World → Prop}
theorem app_longs (hgd : o.guard = none) (s x : Operand) (ho : o.op = .call { callee := .builtin .append, args := #[s, x], argTypes := #[166, 166] })
    {B : Nat} {v : Value} {F : Mx} {r : List Int} {ad : List (Nat × Nat)} {g0 c0 : Nat} (hs : a.eval s = v) (hown : LrX B w v F ad) {b : Nat} (hx : a.eval x = .slice (some ⟨b, 0, none⟩) 1 1) (hc : w.cell? ⟨b, 0, none⟩ = some (xv r.length g0 c0)) (hr : 0 < r.length → OwnV 80 B w g0 c0 (ss r)) (hnew : 0 < r.length → ∀ i (h : i < ad.length) (h' : i < F.length), 0 < F[i].length → ad[i].1 ≠ g0) (hl : F.length ≤ 1000000000) (hB : B ≤ w.heap.size)
    (h : ∀ g cap w', LrX B w' (slv g (F.length + 1) cap) (F ++ [r]) (ad ++ [(g0, c0)]) → Below B w w' → w.grownBy w' v.ownBlock → wpList Tryz.prog ops Q rest (a.put o.dst (slv g (F.length + 1) cap)) w') : wpList Tryz.prog ops Q (o :: rest) a w := by
  obtain ⟨i0, hi, hz0, hz1, hz2⟩ := info_parts Tryz.infoLong
  obtain ⟨hlen, h2, h3, hdis⟩ := hown
  refine wpList_append_lies w hgd s x 166 ho B 138 i0 _ 1 24 Tryz.underlying166 hi hz0 hz1 hz2 rfl (by omega) v F.length (hdV ad F) hs h2 ⟨b, 0, none⟩ 1 1 [xv r.length g0 c0] hx rfl ?_ ?_ (by omega) (by unfold maxLen; omega) (by omega) hB w.heap.size rfl ?_
  · intro j u hj
    have : j = 0 := by have := (List.getElem?_eq_some_iff.1 hj).1; simp at this; omega
    subst this
    simp only [List.getElem?_cons_zero, Option.some.injEq] at hj
    subst hj
    simpa [Addr.add_lit] using hc
  · intro u hu
    simp only [List.mem_cons, List.not_mem_nil, or_false] at hu
    subst hu; unfold xv; split <;> rfl
  · intro g cap w' k1 k2 k3 k4
    have hkeep : ∀ {u cu : Nat} {l : List Int}, OwnV 80 B w u cu (ss l) → OwnV 80 B w' u cu (ss l) := fun {u cu l} hu => by
      have h5 : w.ownsRow B 80 1 (slv u (ss l).length cu) (ss l).length (ss l) := hu
      exact own_kept h5 h2 (by decide) k2
    refine h g cap w' ⟨by simp [hlen], ?_, fun i hi1 hi2 hi0 => ?_, fun i j hi1 hj1 hi2 hj2 hi0 hj0 hij => ?_⟩ (Below.grown (Below.refl _ _) k2 hB (fun q hq => (World.ownsRow.lt h2 q hq).1)) k2
    · rw [List.length_append, hdV_snoc ad F (g0, c0) r hlen]; exact k1
    · rcases Nat.lt_or_ge i F.length with hlt | hge
      · simp only [List.getElem_append_left hlt, List.getElem_append_left (show i < ad.length by omega)] at hi0 ⊢
        exact hkeep (h3 i hlt (by omega) hi0)
      · have hie : i = F.length := by simp at hi1; omega
        subst hie
        simp only [List.getElem_append_right (Nat.le_refl F.length), List.getElem_append_right (show ad.length ≤ F.length by omega), hlen, Nat.sub_self, List.getElem_cons_zero] at hi0 ⊢
        exact hkeep (hr hi0)
    · rw [List.length_append, List.length_singleton] at hi1 hj1 hi2 hj2
      rcases Nat.lt_or_ge i ad.length with hil | hig
      · rw [List.getElem_append_left hil]
        rw [List.getElem_append_left (show i < F.length by omega)] at hi0
        rcases Nat.lt_or_ge j ad.length with hlt | hge
        · rw [List.getElem_append_left hlt]
          rw [List.getElem_append_left (show j < F.length by omega)] at hj0
          exact hdis i j (by omega) hlt (by omega) (by omega) hi0 hj0 hij
        · have hje : j = ad.length := by omega
          subst hje
          rw [List.getElem_append_right (Nat.le_refl _)]
          rw [snoc_at F r _ hlen] at hj0
          simp only [Nat.sub_self, List.getElem_cons_zero]
          exact hnew hj0 i hil (by omega) hi0
      · have hie : i = ad.length := by omega
        subst hie
        rw [List.getElem_append_right (Nat.le_refl _), List.getElem_append_left (show j < ad.length by omega)]
        rw [List.getElem_append_left (show j < F.length by omega)] at hj0
        rw [snoc_at F r _ hlen] at hi0
        simp only [Nat.sub_self, List.getElem_cons_zero]
        exact Ne.symm (hnew hi0 j (by omega) (by omega) hj0)
end
end Go.Proofs.YtkjnjmihfonilaaGreatDoor
namespace Go.Proofs.YtkjnjmihfonilaaGreatDoor
open Go.RowKit Go.Sort
set_option maxRecDepth 100000 in
set_option maxHeartbeats 2000000 in
theorem lless_any {w0 w : World} {ga ca gb ob cb : Nat} {sb : Option Addr} {k : Int} {a b : List Int} (hO : OwnV 80 w0.heap.size w ga ca (ss a)) (hB : Sl w sb gb ob (ss b)) (hne : gb ≠ ga)
    (hlen : b.length = a.length) (hl : a.length ≤ 1000000)
    (hbig : ∀ (i : Nat) (h : i < b.length) (h' : i < a.length), nd a[i] < LIM ∧ nd (k * b[i]) < LIM ∧ nd k + nd b[i] ≤ LIM) (hL : Laid w0) (hE0 : Ext w0 w) :
    Calls Tryz.prog 138 #[slv ga a.length ca, I k, .slice sb a.length cb] w fun e w' => e = .returned (.tuple #[]) ∧ OwnV 80 w0.heap.size w' ga ca (ss (subK k a b)) ∧ w.grownBy w' (some ga) := by
  have hkz : (Lib.itoa k == [48]) = decide (k = 0) := itoa_eq_zero k
  by_cases hk0 : k = 0
  · rw [decide_eq_true hk0] at hkz
    subst hk0
    rw [subK_zero a b (by omega)]
    clear hbig hL hlen hl hB
    go_enter Tryz.func138, Tryz.ntmps138
    go_wp2_with fail
    refine bodyPost_ret (results_none rfl _ _ _) rfl ?_
    exact ⟨rfl, hO, World.grownBy.refl _ _⟩
  · rw [decide_eq_false hk0] at hkz
    have HL := Lib.hid hL
    have HB := Lib.hid hB
    have Hbig := Lib.hid hbig
    have Hlen := Lib.hid hlen
    clear hL hB hbig hk0 hlen
    go_enter Tryz.func138, Tryz.ntmps138
    go_wp2_with fail
    go_loopw [12] (fun idx wr => ∃ i : Nat, i ≤ a.length ∧ idx = .int .i64 i ∧ OwnV 80 w0.heap.size wr ga ca (ss (subK k a (b.take i))) ∧ w.grownBy wr (some ga)) (fun idx _ => a.length - (intOf idx).toNat)
    case atStart => exact ⟨0, by omega, by go_num, by simpa [subK_nil] using hO, World.grownBy.refl _ _⟩
    case round =>
      obtain ⟨i, hi, rfl, hOr, hG⟩ := hrel
      have hga := hO.lt.1
      by_cases hlt : i < a.length
      · have hib : i < b.length := by rw [Hlen.out]; exact hlt
        obtain ⟨x, hx⟩ : ∃ x, x = a[i] := ⟨_, rfl⟩
        obtain ⟨y, hy⟩ : ∃ y, y = b[i] := ⟨_, rfl⟩
        obtain rfl := HB.out.addr (by simpa using (by omega : 0 < b.length))
        have cb : wr.cell? ⟨gb, ob + i, none⟩ = some (I y) := by
          refine grown_frozen_cell hG hne ?_
          rw [hy]
          exact HB.out.cell i _ (by simp [ss, hib])
        have ca' : wr.cell? ⟨ga, i, none⟩ = some (I x) := by
          rw [hOr.cell (by simpa using hlt)]
          simp only [ss, List.getElem_map]
          rw [subK_get k a _ i hlt (by rw [List.length_take]; omega), hx]
        have fa := hOr.frozen i
        have hEr : Ext w0 wr := ext_trans_grown hE0 hG hga
        have hstep := subK_step k a b i hib hlt
        rw [← hx, ← hy] at hstep
        have Hstep := Lib.hid hstep
        obtain ⟨n1, n2, n3⟩ := Hbig.out i hib hlt
        rw [← hx] at n1
        rw [← hy] at n2 n3
        have hii : (i : Int) < (a.length : Int) := by omega
        have hEr2 := Lib.hid hEr
        have c1 := Lib.hid (quietC (w := wr) (fun W h => Mul_any (a := k) (b := y) (w := W) n3 (HL.out.ext (hEr2.out.trans h))))
        have c2 := Lib.hid (quietC (w := wr) (fun W h => Sub_any (a := x) (b := k * y) (w := W) n1 n2 (HL.out.ext (hEr2.out.trans h))))
        have k1 := cell_regrown ca'
        have k2 := cell_regrown cb
        clear hx hy hstep n1 n2 n3 hO hEr hib
        go_wp2_with fail
        refine wp_region_quiet_tail 10 (by kernel_rfl) (by kernel_rfl) ?_
        simp only [List.take_succ_cons, List.take_zero, List.drop_succ_cons, List.drop_zero]
        repeat (quiet_step (first | exact c1.out _ _ | exact c2.out _ _))
        refine wpQuiet_nil ?_
        intro _ hw'
        obtain ⟨⟨dq, osq⟩, hw''⟩ := hw'
        subst hw''
        have hE5 := ext_regrown wr dq osq
        have hO5 := hOr.ext hE5
        have d5 := hE5.cell ca'
        clear c1 c2 k1 k2
        generalize grow (redrawn wr dq) osq = w5 at *
        have f5 := hO5.frozen i
        obtain ⟨hO6, hG6⟩ := hO5.set i (I (x - k * y))
        rw [← ss_set, ← Hstep.out] at hO6
        have hG5 := grown_trans hG (grown_trans (grown_ext hE5 (some ga)) hG6)
        clear hE5 hO5 hG6
        go_wp2_with fail
        go_roundw
        case rel => exact ⟨i + 1, by omega, by go_num, hO6, hG5⟩
        case measure => simp [intOf] <;> omega
      · go_wp2_with fail
        go_end0
        refine ⟨rfl, ?_, hG⟩
        rw [List.take_of_length_le (by rw [Hlen.out]; omega)] at hOr
        exact hOr
set_option maxRecDepth 100000 in
set_option maxHeartbeats 2000000 in
theorem lneg_part {B : Nat} {w : World} {gx cx o n cp : Nat} {a : List Int} (hX : OwnV 80 B w gx cx (ss a)) (hn : a.length = o + n) (hl : n ≤ 1000000) (hbig : ∀ z ∈ a, nd z ≤ LIM) :
    Calls Tryz.prog 154 #[.slice (some ⟨gx, o, none⟩) n cp] w fun e w' => e = .returned (.tuple #[]) ∧ OwnV 80 B w' gx cx (ss (a.take o ++ (a.drop o).map fun z => -z)) ∧ w.grownBy w' (some gx) := by
  have Hb := Lib.hid hbig
  have Hn := Lib.hid hn
  clear hbig hn
  go_enter Tryz.func154, Tryz.ntmps154
  go_wp2_with fail
  go_loopw [6] (fun jdx wi => ∃ j : Nat, j ≤ n ∧ jdx = .int .i64 j ∧ OwnV 80 B wi gx cx (ss (negF o j a)) ∧ w.grownBy wi (some gx)) (fun jdx _ => n - (intOf jdx).toNat)
  case atStart => exact ⟨0, by omega, by go_num, by rw [negF_zero]; exact hX, World.grownBy.refl _ _⟩
  case round =>
    obtain ⟨j, hj, rfl, hOj, hG⟩ := hrel
    by_cases hlt : j < n
    · have hjl : o + j < a.length := by rw [Hn.out]; omega
      obtain ⟨x, hx⟩ : ∃ x, x = a[o + j] := ⟨_, rfl⟩
      have cj : wr.cell? ⟨gx, o + j, none⟩ = some (I x) := by
        rw [hOj.cell (by simpa using hjl)]
        simp only [ss, List.getElem_map]
        rw [negF_get Hn.out hlt, hx]
      have hneg := Lib.hid (Neg_any (z := x) (Hb.out x (by rw [hx]; exact List.getElem_mem hjl)))
      have Hst := Lib.hid (negF_step Hn.out hlt)
      rw [← hx] at Hst
      have hjj : (j : Int) < (n : Int) := by omega
      clear hx hX hjl
      go_wp2_with fail
      refine (hneg.out _).mono ?_
      rintro e w5 ⟨rfl, hE5⟩
      have f5 := (hOj.ext hE5).frozen (o + j)
      have d5 := hE5.cell cj
      obtain ⟨hO6, hG6⟩ := (hOj.ext hE5).set (o + j) (I (-x))
      rw [← ss_set, ← Hst.out] at hO6
      have hG7 := grown_trans hG (grown_trans (grown_ext hE5 (some gx)) hG6)
      clear hE5 hOj hG6 hG
      go_wp2_with fail
      go_roundw
      case rel => exact ⟨j + 1, by omega, by go_num, hO6, hG7⟩
      case measure => simp [intOf] <;> omega
    · have hje : j = n := by omega
      subst hje
      rw [negF_all Hn.out] at hOj
      go_wp2_with fail
      go_end0
      exact ⟨rfl, hOj, hG⟩
theorem lneg_row {B : Nat} {w : World} {gx cx n : Nat} {a : List Int} (hX : OwnV 80 B w gx cx (ss a)) (hn : a.length = n) (hl : n ≤ 1000000) (hbig : ∀ z ∈ a, nd z ≤ LIM) :
    Calls Tryz.prog 154 #[slv gx n cx] w fun e w' => e = .returned (.tuple #[]) ∧ OwnV 80 B w' gx cx (ss (a.map fun z => -z)) ∧ w.grownBy w' (some gx) := by
  have := lneg_part (o := 0) (cp := cx) hX (by omega) hl hbig
  simpa using this
end Go.Proofs.YtkjnjmihfonilaaGreatDoor
namespace Go.Proofs.YtkjnjmihfonilaaGreatDoor
open Hnf (V Span Ech Red)
theorem lin_zero {M : List V} {f : V → Int} (h0 : f (fun _ => 0) = 0) (h1 : ∀ v q u, f (Hnf.sub v q u) = f v - q * f u) (h : ∀ r ∈ M, f r = 0) {v : V} (hv : Span M v) : f v = 0 := by
  induction hv with
  | zero => exact h0
  | step q _ hr ih => rw [h1, ih, h _ hr]; simp
theorem lin_row {M : List V} {f : V → Int} (h0 : f (fun _ => 0) = 0) (h1 : ∀ v q u, f (Hnf.sub v q u) = f v - q * f u) {v : V} (hv : Span M v) (hne : f v ≠ 0) : ∃ r ∈ M, f r ≠ 0 :=
  Classical.byContradiction fun hc => hne (lin_zero h0 h1 (fun r hr => Classical.byContradiction fun h => hc ⟨r, hr, h⟩) hv)
def det2 (x y : V) (p q : Nat) : Int := x p * y q - x q * y p
def det3 (x y z : V) (p q s : Nat) : Int := x p * det2 y z q s - x q * det2 y z p s + x s * det2 y z p q
def det4 (x y z t : V) (p q s u : Nat) : Int := x p * det3 y z t q s u - x q * det3 y z t p s u + x s * det3 y z t p q u - x u * det3 y z t p q s
def comb (a : Nat → Int) (w : Nat → V) : Nat → V
  | 0 => fun _ => 0
  | k + 1 => Hnf.sub (comb a w k) (-(a k)) (w k)
theorem comb_span {M : List V} {a : Nat → Int} {w : Nat → V} : ∀ {r : Nat}, (∀ k, k < r → Span M (w k)) → Span M (comb a w r)
  | 0, _ => .zero
  | r + 1, h => (comb_span (r := r) fun k hk => h k (by omega)).sub _ (h r (by omega))
theorem comb_out {a : Nat → Int} {w : Nat → V} {j : Nat} : ∀ {r : Nat}, (∀ k, k < r → w k j = 0) → comb a w r j = 0
  | 0, _ => rfl
  | r + 1, h => by simp only [comb, Hnf.sub]; rw [comb_out (r := r) (fun k hk => h k (by omega)), h r (by omega)]; simp
theorem comb_at {a : Nat → Int} {w : Nat → V} {j s : Nat} {d : Int} : ∀ {r : Nat}, s < r → (∀ k, k < r → w k j = if k = s then d else 0) → comb a w r j = a s * d
  | 0, hs, _ => by omega
  | r + 1, hs, h => by
    simp only [comb, Hnf.sub]
    by_cases e : s = r
    · subst e
      rw [comb_out (r := s) (fun k hk => by rw [h k (by omega), if_neg (by omega)]), h s (by omega), if_pos rfl]; simp [Int.neg_mul]
    · rw [comb_at (r := r) (s := s) (d := d) (by omega) (fun k hk => h k (by omega)), h r (by omega), if_neg (by omega)]; simp
theorem comb_abs {a : Nat → Int} {w : Nat → V} {j A C : Nat} : ∀ {r : Nat}, (∀ k, k < r → (a k).natAbs ≤ A) → (∀ k, k < r → (w k j).natAbs ≤ C) → (comb a w r j).natAbs ≤ r * (A * C)
  | 0, _, _ => by simp [comb]
  | r + 1, h, h' => by
    have ih := comb_abs (r := r) (j := j) (fun k hk => h k (by omega)) (fun k hk => h' k (by omega))
    have h2 : (a r * w r j).natAbs ≤ A * C := by rw [Int.natAbs_mul]; exact Nat.mul_le_mul (h r (by omega)) (h' r (by omega))
    have e : (r + 1) * (A * C) = r * (A * C) + A * C := Nat.succ_mul _ _
    simp only [comb, Hnf.sub, Int.neg_mul]
    omega
structure Duals (M : List V) (ps : List Nat) (r C : Nat) (d : Int) (w : Nat → V) : Prop where
  ne : d ≠ 0
  span : ∀ k, k < r → Span M (w k)
  at' : ∀ k, k < r → ∀ s, s < r → w k (ps.getD s 0) = if k = s then d else 0
  abs : ∀ k, k < r → ∀ j, (w k j).natAbs ≤ C
theorem wps_mem {ps : List Nat} {F : Mx} (hl : ps.length = F.length) {g : Nat × V} (hg : g ∈ wps ps F) : ∃ i, i < F.length ∧ g = (ps.getD i 0, vr (F.getD i [])) := by
  obtain ⟨x, hx, rfl⟩ := List.mem_map.1 hg
  obtain ⟨i, hi, hxe⟩ := List.getElem_of_mem hx
  have hi' : i < ps.length ∧ i < F.length := by simp at hi; omega
  obtain rfl : x = (ps[i]'hi'.1, F[i]'hi'.2) := by rw [← hxe]; exact List.getElem_zip
  exact ⟨i, hi'.2, by rw [getD_get hi'.1, getD_get hi'.2]⟩
theorem pivots_zero {n : Nat} {ps : List Nat} {F : Mx} (h : IsH n ps F) {v : V} (hv : Span (latM F) v) (hz : ∀ i, i < F.length → v (ps.getD i 0) = 0) : ∀ j, v j = 0 := by
  rcases Hnf.first v with h0 | ⟨j, hj, hz'⟩
  · exact h0
  · exfalso
    rw [← wps_rows h.len] at hv
    obtain ⟨g, hg, e, _⟩ := h.ech.lead hv hj hz'
    obtain ⟨i, hi, rfl⟩ := wps_mem h.len hg
    exact hj (by rw [← e]; exact hz i hi)
theorem pivot_dvd {n : Nat} {ps : List Nat} {F : Mx} (h : IsH n ps F) {v : V} (hv : Span (latM F) v) {k : Nat} {d : Int} (hd : d ≠ 0) (hk : k < F.length) (hz : ∀ s, s < F.length → v (ps.getD s 0) = if k = s then d else 0) : eM F k (ps.getD k 0) ∣ d := by
  rcases Hnf.first v with h0 | ⟨j, hj, hz'⟩
  · exact absurd (h0 (ps.getD k 0)) (by rw [hz k hk, if_pos rfl]; exact hd)
  · rw [← wps_rows h.len] at hv
    obtain ⟨g, hg, e, hdv⟩ := h.ech.lead hv hj hz'
    obtain ⟨i, hi, rfl⟩ := wps_mem h.len hg
    simp only at e hdv
    subst e
    have := hz i hi
    by_cases e : k = i
    · subst e
      rw [if_pos rfl] at this
      rw [this] at hdv
      exact hdv
    · rw [if_neg e] at this; exact absurd this hj
theorem duals_small {n C : Nat} {ps : List Nat} {F : Mx} {d : Int} {w : Nat → V} (h : IsH n ps F) (hD : Duals (latM F) ps F.length C d w) (i : Nat) (hi : i < F.length) (j : Nat) : (eM F i j).natAbs ≤ F.length * C := by
  have hpk : ∀ k, k < F.length → (eM F k (ps.getD k 0)).natAbs ≤ d.natAbs := fun k hk => by
    obtain ⟨c, hc⟩ := pivot_dvd h (hD.span k hk) hD.ne hk (hD.at' k hk)
    have := hD.ne
    have hc0 : c ≠ 0 := by intro e; subst e; simp at hc; exact this hc
    rw [hc, Int.natAbs_mul]
    exact Nat.le_mul_of_pos_right _ (by omega)
  have hik : ∀ k, k < F.length → (eM F i (ps.getD k 0)).natAbs ≤ d.natAbs := fun k hk => by
    have := hpk k hk
    rcases Nat.lt_trichotomy i k with hlt | rfl | hgt
    · have := h.red i k hlt hk; omega
    · exact this
    · rw [h.left i hi _ (h.inc k i hgt hi)]; simp
  have hF : Span (latM F) (vr (F.getD i [])) := .mem (by rw [getD_get hi]; exact List.mem_map.2 ⟨F[i], List.getElem_mem hi, rfl⟩)
  have hz := pivots_zero h (v := Hnf.sub (Hnf.sub (fun _ => 0) (-d) (vr (F.getD i []))) 1 (comb (fun k => eM F i (ps.getD k 0)) w F.length)) ((Span.zero.sub (-d) hF).sub 1 (comb_span hD.span)) (by
    intro s hs
    simp only [Hnf.sub]
    rw [comb_at (s := s) (d := d) hs (fun k hk => hD.at' k hk s hs)]
    show 0 - -d * eM F i (ps.getD s 0) - 1 * (eM F i (ps.getD s 0) * d) = 0
    grind) j
  have e : d * eM F i j = comb (fun k => eM F i (ps.getD k 0)) w F.length j := by
    simp only [Hnf.sub] at hz
    have : 0 - -d * eM F i j - 1 * comb (fun k => eM F i (ps.getD k 0)) w F.length j = 0 := hz
    grind
  have hb := comb_abs (a := fun k => eM F i (ps.getD k 0)) (w := w) (j := j) (A := d.natAbs) (C := C) (r := F.length) hik (fun k hk => hD.abs k hk j)
  rw [← e, Int.natAbs_mul] at hb
  have e2 : F.length * (d.natAbs * C) = d.natAbs * (F.length * C) := by grind
  rw [e2] at hb
  exact Nat.le_of_mul_le_mul_left hb (by have := hD.ne; omega)
theorem mul_abs {a b : Int} {A B : Nat} (h : a.natAbs ≤ A) (h' : b.natAbs ≤ B) : (a * b).natAbs ≤ A * B := by rw [Int.natAbs_mul]; exact Nat.mul_le_mul h h'
theorem det2_abs {x y : V} (hx : ∀ j, (x j).natAbs ≤ 20) (hy : ∀ j, (y j).natAbs ≤ 20) (p q : Nat) : (det2 x y p q).natAbs ≤ 800 := by
  have h1 := mul_abs (hx p) (hy q)
  have h2 := mul_abs (hx q) (hy p)
  unfold det2; omega
theorem det3_abs {x y z : V} (hx : ∀ j, (x j).natAbs ≤ 20) (hy : ∀ j, (y j).natAbs ≤ 20) (hz : ∀ j, (z j).natAbs ≤ 20) (p q s : Nat) : (det3 x y z p q s).natAbs ≤ 48000 := by
  have h1 := mul_abs (hx p) (det2_abs hy hz q s)
  have h2 := mul_abs (hx q) (det2_abs hy hz p s)
  have h3 := mul_abs (hx s) (det2_abs hy hz p q)
  unfold det3; omega
theorem det4_abs {x y z t : V} (hx : ∀ j, (x j).natAbs ≤ 20) (hy : ∀ j, (y j).natAbs ≤ 20) (hz : ∀ j, (z j).natAbs ≤ 20) (ht : ∀ j, (t j).natAbs ≤ 20) (p q s u : Nat) : (det4 x y z t p q s u).natAbs ≤ 3840000 := by
  have h1 := mul_abs (hx p) (det3_abs hy hz ht q s u)
  have h2 := mul_abs (hx q) (det3_abs hy hz ht p s u)
  have h3 := mul_abs (hx s) (det3_abs hy hz ht p q u)
  have h4 := mul_abs (hx u) (det3_abs hy hz ht p q s)
  unfold det4; omega
theorem span_of_eq {M : List V} {v u : V} (h : Span M v) (e : ∀ j, u j = v j) : Span M u := by rw [show u = v from funext e]; exact h
theorem lt2 {s : Nat} (h : s < 2) : s = 0 ∨ s = 1 := by omega
theorem lt3 {s : Nat} (h : s < 3) : s = 0 ∨ s = 1 ∨ s = 2 := by omega
theorem lt4 {s : Nat} (h : s < 4) : s = 0 ∨ s = 1 ∨ s = 2 ∨ s = 3 := by omega
theorem duals0 (M : List V) (ps : List Nat) : Duals M ps 0 3840000 1 (fun _ _ => 0) := ⟨by decide, fun k h => by omega, fun k h => by omega, fun k h => by omega⟩
theorem duals1 {M : List V} {p : Nat} {f : V} (hM : ∀ r ∈ M, ∀ j, (r j).natAbs ≤ 20) (hf : Span M f) (h : f p ≠ 0) : ∃ d w, Duals M [p] 1 3840000 d w := by
  obtain ⟨x, hx, hne⟩ := lin_row (f := fun v => v p) rfl (fun v q u => rfl) hf h
  refine ⟨x p, fun _ => x, hne, fun k _ => .mem hx, fun k hk s hs => ?_, fun k _ j => by have := hM x hx j; omega⟩
  obtain rfl : k = 0 := by omega
  obtain rfl : s = 0 := by omega
  rw [if_pos rfl]; rfl
theorem duals2 {M : List V} {p q : Nat} {f g : V} (hM : ∀ r ∈ M, ∀ j, (r j).natAbs ≤ 20) (hf : Span M f) (hg : Span M g) (h : det2 f g p q ≠ 0) : ∃ d w, Duals M [p, q] 2 3840000 d w := by
  obtain ⟨x, hx, h⟩ := lin_row (f := fun v => det2 v g p q) (by simp [det2]) (fun v k u => by simp only [det2, Hnf.sub]; grind) hf h
  obtain ⟨y, hy, h⟩ := lin_row (f := fun v => det2 x v p q) (by simp [det2]) (fun v k u => by simp only [det2, Hnf.sub]; grind) hg h
  have bx := hM x hx
  have bY := hM y hy
  refine ⟨det2 x y p q, fun k => if k = 0 then fun j => det2 x y j q else fun j => det2 x y p j, h, fun k hk => ?_, fun k hk s hs => ?_, fun k hk j => ?_⟩
  · rcases lt2 hk with rfl | rfl
    · exact span_of_eq ((Span.zero.step (-(y q)) hx).step (x q) hy) fun j => by simp [det2, Hnf.sub]; grind
    · exact span_of_eq ((Span.zero.step (y p) hx).step (-(x p)) hy) fun j => by simp [det2, Hnf.sub]; grind
  · rcases lt2 hk with rfl | rfl <;> rcases lt2 hs with rfl | rfl <;> simp [det2] <;> grind
  · rcases lt2 hk with rfl | rfl
    · have := det2_abs bx bY j q; simp; omega
    · have := det2_abs bx bY p j; simp; omega
theorem duals3 {M : List V} {p q s : Nat} {f g e : V} (hM : ∀ r ∈ M, ∀ j, (r j).natAbs ≤ 20) (hf : Span M f) (hg : Span M g) (he : Span M e) (h : det3 f g e p q s ≠ 0) : ∃ d w, Duals M [p, q, s] 3 3840000 d w := by
  obtain ⟨x, hx, h⟩ := lin_row (f := fun v => det3 v g e p q s) (by simp [det3]) (fun v k u => by simp only [det3, Hnf.sub]; grind) hf h
  obtain ⟨y, hy, h⟩ := lin_row (f := fun v => det3 x v e p q s) (by simp [det3, det2]) (fun v k u => by simp only [det3, det2, Hnf.sub]; grind) hg h
  obtain ⟨z, hz, h⟩ := lin_row (f := fun v => det3 x y v p q s) (by simp [det3, det2]) (fun v k u => by simp only [det3, det2, Hnf.sub]; grind) he h
  have bx := hM x hx
  have bY := hM y hy
  have bz := hM z hz
  refine ⟨det3 x y z p q s, fun k => if k = 0 then fun j => det3 x y z j q s else if k = 1 then fun j => det3 x y z p j s else fun j => det3 x y z p q j, h, fun k hk => ?_, fun k hk t ht => ?_, fun k hk j => ?_⟩
  · rcases lt3 hk with rfl | rfl | rfl
    · exact span_of_eq (((Span.zero.step (-(det2 y z q s)) hx).step (det2 x z q s) hy).step (-(det2 x y q s)) hz) fun j => by simp [det3, det2, Hnf.sub]; grind
    · exact span_of_eq (((Span.zero.step (det2 y z p s) hx).step (-(det2 x z p s)) hy).step (det2 x y p s) hz) fun j => by simp [det3, det2, Hnf.sub]; grind
    · exact span_of_eq (((Span.zero.step (-(det2 y z p q)) hx).step (det2 x z p q) hy).step (-(det2 x y p q)) hz) fun j => by simp [det3, det2, Hnf.sub]; grind
  · rcases lt3 hk with rfl | rfl | rfl <;> rcases lt3 ht with rfl | rfl | rfl <;> simp [det3, det2] <;> grind
  · rcases lt3 hk with rfl | rfl | rfl
    · have := det3_abs bx bY bz j q s; simp; omega
    · have := det3_abs bx bY bz p j s; simp; omega
    · have := det3_abs bx bY bz p q j; simp; omega
theorem duals4 {M : List V} {p q s t : Nat} {f g e c : V} (hM : ∀ r ∈ M, ∀ j, (r j).natAbs ≤ 20) (hf : Span M f) (hg : Span M g) (he : Span M e) (hc : Span M c) (h : det4 f g e c p q s t ≠ 0) : ∃ d w, Duals M [p, q, s, t] 4 3840000 d w := by
  obtain ⟨x, hx, h⟩ := lin_row (f := fun v => det4 v g e c p q s t) (by simp [det4]) (fun v k u => by simp only [det4, Hnf.sub]; grind) hf h
  obtain ⟨y, hy, h⟩ := lin_row (f := fun v => det4 x v e c p q s t) (by simp [det4, det3]) (fun v k u => by simp only [det4, det3, Hnf.sub]; grind) hg h
  obtain ⟨z, hz, h⟩ := lin_row (f := fun v => det4 x y v c p q s t) (by simp [det4, det3, det2]) (fun v k u => by simp only [det4, det3, det2, Hnf.sub]; grind) he h
  obtain ⟨o, ho, h⟩ := lin_row (f := fun v => det4 x y z v p q s t) (by simp [det4, det3, det2]) (fun v k u => by simp only [det4, det3, det2, Hnf.sub]; grind) hc h
  have bx := hM x hx
  have bY := hM y hy
  have bz := hM z hz
  have bo := hM o ho
  refine ⟨det4 x y z o p q s t, fun k => if k = 0 then fun j => det4 x y z o j q s t else if k = 1 then fun j => det4 x y z o p j s t else if k = 2 then fun j => det4 x y z o p q j t else fun j => det4 x y z o p q s j, h, fun k hk => ?_, fun k hk i hi => ?_, fun k hk j => ?_⟩
  · rcases lt4 hk with rfl | rfl | rfl | rfl
    · exact span_of_eq ((((Span.zero.step (-(det3 y z o q s t)) hx).step (det3 x z o q s t) hy).step (-(det3 x y o q s t)) hz).step (det3 x y z q s t) ho) fun j => by simp [det4, det3, det2, Hnf.sub]; grind
    · exact span_of_eq ((((Span.zero.step (det3 y z o p s t) hx).step (-(det3 x z o p s t)) hy).step (det3 x y o p s t) hz).step (-(det3 x y z p s t)) ho) fun j => by simp [det4, det3, det2, Hnf.sub]; grind
    · exact span_of_eq ((((Span.zero.step (-(det3 y z o p q t)) hx).step (det3 x z o p q t) hy).step (-(det3 x y o p q t)) hz).step (det3 x y z p q t) ho) fun j => by simp [det4, det3, det2, Hnf.sub]; grind
    · exact span_of_eq ((((Span.zero.step (det3 y z o p q s) hx).step (-(det3 x z o p q s)) hy).step (det3 x y o p q s) hz).step (-(det3 x y z p q s)) ho) fun j => by simp [det4, det3, det2, Hnf.sub]; grind
  · rcases lt4 hk with rfl | rfl | rfl | rfl <;> rcases lt4 hi with rfl | rfl | rfl | rfl <;> simp [det4, det3, det2] <;> grind
  · rcases lt4 hk with rfl | rfl | rfl | rfl
    · have := det4_abs bx bY bz bo j q s t; simp; omega
    · have := det4_abs bx bY bz bo p j s t; simp; omega
    · have := det4_abs bx bY bz bo p q j t; simp; omega
    · have := det4_abs bx bY bz bo p q s j; simp; omega
theorem Duals.mono {M N : List V} {ps : List Nat} {r C : Nat} {d : Int} {w : Nat → V} (h : Duals M ps r C d w) (hM : ∀ v ∈ M, Span N v) : Duals N ps r C d w := ⟨h.ne, fun k hk => (h.span k hk).trans hM, h.at', h.abs⟩
theorem mulpos_ne {a b : Int} (h : 0 < a) (h' : 0 < b) : a * b ≠ 0 := by have := Int.mul_pos h h'; omega
theorem hnf_small {n : Nat} {M F : Mx} (hn : n ≤ 4) (hM : ∀ r ∈ M, ∀ z ∈ r, z.natAbs ≤ 20) (h : HnfOf n M F) : ∀ i, i < F.length → ∀ j, (eM F i j).natAbs ≤ 15360000 := by
  obtain ⟨⟨ps, hF⟩, h1, h2⟩ := h
  have hM' : ∀ r ∈ latM M, ∀ j, (r j).natAbs ≤ 20 := by
    intro r hr j
    obtain ⟨l, hl, rfl⟩ := List.mem_map.1 hr
    show (l.getD j 0).natAbs ≤ 20
    rw [List.getD_eq_getElem?_getD]
    rcases Nat.lt_or_ge j l.length with hj | hj
    · rw [List.getElem?_eq_getElem hj]; exact hM l hl _ (List.getElem_mem hj)
    · rw [List.getElem?_eq_none hj]; simp
  have hD : F.length ≤ 4 ∧ ∃ d w, Duals (latM M) ps F.length 3840000 d w := by
    have hlen := hF.len
    match F, ps, hF, h1, hlen with
    | [], [], hF, h1, _ => exact ⟨by simp, _, _, duals0 _ _⟩
    | [f], [p], hF, h1, _ =>
      exact ⟨by simp, duals1 hM' (h1 (vr f) (by simp [latM])) (by have : 0 < vr f p := hF.pos 0 (by simp); omega)⟩
    | [f, g], [p, q], hF, h1, _ =>
      refine ⟨by simp, duals2 hM' (h1 (vr f) (by simp [latM])) (h1 (vr g) (by simp [latM])) ?_⟩
      have a0 : 0 < vr f p := hF.pos 0 (by simp)
      have a1 : 0 < vr g q := hF.pos 1 (by simp)
      have z1 : vr g p = 0 := hF.left 1 (by simp) p (hF.inc 0 1 (by omega) (by simp))
      unfold det2; rw [z1]
      have := mulpos_ne a0 a1; simpa using this
    | [f, g, e], [p, q, s], hF, h1, _ =>
      refine ⟨by simp, duals3 hM' (h1 (vr f) (by simp [latM])) (h1 (vr g) (by simp [latM])) (h1 (vr e) (by simp [latM])) ?_⟩
      have a0 : 0 < vr f p := hF.pos 0 (by simp)
      have a1 : 0 < vr g q := hF.pos 1 (by simp)
      have a2 : 0 < vr e s := hF.pos 2 (by simp)
      have z1 : vr g p = 0 := hF.left 1 (by simp) p (hF.inc 0 1 (by omega) (by simp))
      have z2 : vr e p = 0 := hF.left 2 (by simp) p (hF.inc 0 2 (by omega) (by simp))
      have z3 : vr e q = 0 := hF.left 2 (by simp) q (hF.inc 1 2 (by omega) (by simp))
      simp only [det3, det2, z1, z2, z3]
      have := mulpos_ne a0 (Int.mul_pos a1 a2); simpa using this
    | [f, g, e, c], [p, q, s, t], hF, h1, _ =>
      refine ⟨by simp, duals4 hM' (h1 (vr f) (by simp [latM])) (h1 (vr g) (by simp [latM])) (h1 (vr e) (by simp [latM])) (h1 (vr c) (by simp [latM])) ?_⟩
      have a0 : 0 < vr f p := hF.pos 0 (by simp)
      have a1 : 0 < vr g q := hF.pos 1 (by simp)
      have a2 : 0 < vr e s := hF.pos 2 (by simp)
      have a3 : 0 < vr c t := hF.pos 3 (by simp)
      have z1 : vr g p = 0 := hF.left 1 (by simp) p (hF.inc 0 1 (by omega) (by simp))
      have z2 : vr e p = 0 := hF.left 2 (by simp) p (hF.inc 0 2 (by omega) (by simp))
      have z3 : vr e q = 0 := hF.left 2 (by simp) q (hF.inc 1 2 (by omega) (by simp))
      have z4 : vr c p = 0 := hF.left 3 (by simp) p (hF.inc 0 3 (by omega) (by simp))
      have z5 : vr c q = 0 := hF.left 3 (by simp) q (hF.inc 1 3 (by omega) (by simp))
      have z6 : vr c s = 0 := hF.left 3 (by simp) s (hF.inc 2 3 (by omega) (by simp))
      simp only [det4, det3, det2, z1, z2, z3, z4, z5, z6]
      have := mulpos_ne a0 (Int.mul_pos a1 (Int.mul_pos a2 a3)); simpa using this
    | _ :: _ :: _ :: _ :: _ :: F', p :: q :: s :: t :: u :: ps', hF, h1, _ =>
      exfalso
      have i1 := hF.inc 0 1 (by omega) (by simp)
      have i2 := hF.inc 1 2 (by omega) (by simp)
      have i3 := hF.inc 2 3 (by omega) (by simp)
      have i4 := hF.inc 3 4 (by omega) (by simp)
      have i5 := hF.lt 4 (by simp)
      omega
    | [], _ :: _, hF, h1, hl => simp at hl
    | [_], [], hF, h1, hl => simp at hl
    | [_], _ :: _ :: _, hF, h1, hl => simp at hl
    | [_, _], [], hF, h1, hl => simp at hl
    | [_, _], [_], hF, h1, hl => simp at hl
    | [_, _], _ :: _ :: _ :: _, hF, h1, hl => simp at hl
    | [_, _, _], [], hF, h1, hl => simp at hl
    | [_, _, _], [_], hF, h1, hl => simp at hl
    | [_, _, _], [_, _], hF, h1, hl => simp at hl
    | [_, _, _], _ :: _ :: _ :: _ :: _, hF, h1, hl => simp at hl
    | _ :: _ :: _ :: _ :: _, [], hF, h1, hl => simp at hl
    | _ :: _ :: _ :: _ :: _, [_], hF, h1, hl => simp at hl
    | _ :: _ :: _ :: _ :: _, [_, _], hF, h1, hl => simp at hl
    | _ :: _ :: _ :: _ :: _, [_, _, _], hF, h1, hl => simp at hl
    | _ :: _ :: _ :: _ :: _ :: _, [_, _, _, _], hF, h1, hl => simp at hl
    | [_, _, _, _], _ :: _ :: _ :: _ :: _ :: _, hF, h1, hl => simp at hl
  obtain ⟨hl, d, w, hD⟩ := hD
  intro i hi j
  have := duals_small hF (hD.mono h2) i hi j
  have : F.length * 3840000 ≤ 4 * 3840000 := Nat.mul_le_mul_right _ hl
  omega
end Go.Proofs.YtkjnjmihfonilaaGreatDoor
