/- Part 12 of the proof of the claim: contracts of the functions that it reaches, and plain laws; no condition. -/
import Derived.Test.YthmhmkkcjlgbjaaGreatDoorV11
import Derived.Test.YthmhmkkcjlgbjaaGreatDoorV10
/- hermite: one line in memory, exchanged lines; digits of numbers below a power of 2. -/
namespace Go.Proofs.YthmhmkkcjlgbjaaGreatDoor
open Go.RowKit Go.Sort
theorem nd_lt2 {z : Int} {E : Nat} (h : z.natAbs < 2 ^ E) : nd z ≤ E + 1 := by
  refine nDigits_le (Nat.lt_of_lt_of_le h ?_) (by omega)
  exact Nat.le_trans (Nat.pow_le_pow_left (by omega) E) (Nat.pow_le_pow_right (by omega) (by omega))
theorem Lns.ln {B : Nat} {w : World} {g n m d i o c : Nat} {ad : List Ad} {ls : List Ln} (h : Lns B w g ad ls) (hd : Dim n m ls) (hi : d + i < ls.length) (ho : o = 2 * d + i * 2) (hc : c < n) :
    ∃ (gx cx gy cy : Nat), ad[d + i]? = some ⟨gx, cx, gy, cy⟩ ∧ w.cell? ⟨g, o, none⟩ = some (slv gx n cx) ∧ w.cell? ⟨g, o + 1, none⟩ = some (slv gy m cy)
      ∧ w.cell? ⟨gx, c, none⟩ = some (I (cols c d ls i)) ∧ OwnV 38 B w gx cx (ss (ls.getD (d + i) default).1) ∧ OwnV 38 B w gy cy (ss (ls.getD (d + i) default).2) ∧ gx ≠ g ∧ gy ≠ g ∧ gx ≠ gy := by
  have hi' : d + i < ad.length := by rw [h.len]; exact hi
  have hh := hd.get hi
  have e := getD_get hi default
  have hX := h.x (d + i) hi hi'
  have ho' : o = 2 * (d + i) := by omega
  subst ho'
  refine ⟨ad[d + i].gx, ad[d + i].cx, ad[d + i].gy, ad[d + i].cy, by rw [List.getElem?_eq_getElem hi'], ?_, ?_, ?_, ?_, ?_, (h.own _ hi').1, (h.own _ hi').2.1, (h.own _ hi').2.2⟩
  · have := h.hx (d + i) hi hi'; rwa [hh.1] at this
  · have := h.hy (d + i) hi hi'; rwa [hh.2] at this
  · rw [hX.cell (j := c) (by simp; omega)]
    unfold cols col
    rw [e, getD_get (by omega)]
    simp [ss]
  · rw [e]; exact hX
  · rw [e]; exact h.y (d + i) hi hi'
def swpA (ad : List Ad) (i j : Nat) : List Ad := (ad.set i (ad.getD j default)).set j (ad.getD i default)
@[simp] theorem swpA_length (ad : List Ad) (i j : Nat) : (swpA ad i j).length = ad.length := by simp [swpA]
def sg (i j t : Nat) : Nat := if t = j then i else if t = i then j else t
theorem sg_lt {i j t n : Nat} (hi : i < n) (hj : j < n) (ht : t < n) : sg i j t < n := by unfold sg; split <;> (try split) <;> omega
theorem sg_inj {i j t u : Nat} (h : sg i j t = sg i j u) : t = u := by unfold sg at h; split at h <;> split at h <;> (try split at h) <;> (try split at h) <;> omega
theorem swp_get {ls : List Ln} {i j : Nat} (hi : i < ls.length) (hj : j < ls.length) {t : Nat} (ht : t < (swp ls i j).length) : (swp ls i j)[t] = ls[sg i j t]'(sg_lt hi hj (by simpa using ht)) := by
  have := swp_getD ls hi hj t
  rw [getD_get ht] at this
  rw [this]
  unfold sg
  split
  · rw [getD_get hi]
  · split
    · rw [getD_get hj]
    · rw [getD_get (by simpa using ht)]
theorem swpA_get {ad : List Ad} {i j : Nat} (hi : i < ad.length) (hj : j < ad.length) {t : Nat} (ht : t < (swpA ad i j).length) : (swpA ad i j)[t] = ad[sg i j t]'(sg_lt hi hj (by simpa using ht)) := by
  have : (swpA ad i j).getD t default = if t = j then ad.getD i default else if t = i then ad.getD j default else ad.getD t default := by
    unfold swpA
    rw [getD_set _ _ _ _ _ (by simpa using hj), getD_set _ _ _ _ _ hi]
  rw [getD_get ht] at this
  rw [this]
  unfold sg
  split
  · rw [getD_get hi]
  · split
    · rw [getD_get hj]
    · rw [getD_get (by simpa using ht)]
/-- Two headers have been exchanged. -/
theorem Lns.swapped {B : Nat} {w w' : World} {g : Nat} {ad : List Ad} {ls : List Ln} (h : Lns B w g ad ls) {i j : Nat} (hi : i < ls.length) (hj : j < ls.length) (hG : w.grownBy w' (some g)) (hf : ∀ o, w'.frozen? ⟨g, o, none⟩ = false)
    (hc : ∀ t, t < ls.length → w'.cell? ⟨g, 2 * t, none⟩ = w.cell? ⟨g, 2 * sg i j t, none⟩ ∧ w'.cell? ⟨g, 2 * t + 1, none⟩ = w.cell? ⟨g, 2 * sg i j t + 1, none⟩) : Lns B w' g (swpA ad i j) (swp ls i j) := by
  have hai : i < ad.length := by rw [h.len]; exact hi
  have haj : j < ad.length := by rw [h.len]; exact hj
  have hs : ∀ t, t < ls.length → sg i j t < ls.length := fun t ht => sg_lt hi hj ht
  have hsa : ∀ t, t < ls.length → sg i j t < ad.length := fun t ht => by rw [h.len]; exact hs t ht
  refine ⟨by simp [h.len], h.base, Nat.lt_of_lt_of_le h.lt hG.size, hf, fun t a b => ?_, fun t a b => ?_, fun t a b => ?_, fun t a b => ?_, fun t a => ?_, fun t u a b htu => ?_⟩
  · have ht : t < ls.length := by simpa using a
    rw [(hc t ht).1, swpA_get hai haj b, swp_get hi hj a]; exact h.hx _ (hs t ht) (hsa t ht)
  · have ht : t < ls.length := by simpa using a
    rw [(hc t ht).2, swpA_get hai haj b, swp_get hi hj a]; exact h.hy _ (hs t ht) (hsa t ht)
  · have ht : t < ls.length := by simpa using a
    rw [swpA_get hai haj b, swp_get hi hj a]; exact (h.x _ (hs t ht) (hsa t ht)).other hG (h.own _ (hsa t ht)).1
  · have ht : t < ls.length := by simpa using a
    rw [swpA_get hai haj b, swp_get hi hj a]; exact (h.y _ (hs t ht) (hsa t ht)).other hG (h.own _ (hsa t ht)).2.1
  · have ht : t < ls.length := by rw [← h.len]; simpa using a
    rw [swpA_get hai haj a]; exact h.own _ (hsa t ht)
  · have ht : t < ls.length := by rw [← h.len]; simpa using a
    have hu : u < ls.length := by rw [← h.len]; simpa using b
    rw [swpA_get hai haj a, swpA_get hai haj b]
    exact h.dis _ _ (hsa t ht) (hsa u hu) (fun e => htu (sg_inj e))
theorem grown_set (w : World) (b i : Nat) (v : Value) : w.grownBy (w.setCell ⟨b, i, none⟩ v) (some b) :=
  ⟨rfl, rfl, rfl, by simp [World.setCell], fun k _ hk => Below.heap_setCell _ _ _ _ (fun e => hk (by simp [e]))⟩
/-- The two headers at d and d + p after 'l[0], l[p] = l[p], l[0]'. -/
theorem Lns.swap4 {B : Nat} {w : World} {g n m d p o gx cx gy cy gxp cxp gyp cyp : Nat} {ad : List Ad} {ls : List Ln} (h : Lns B w g ad ls) (hp0 : 0 < p) (hl : d + p < ls.length) (ho : 2 * d + p * 2 = o)
    (c1 : w.cell? ⟨g, 2 * d, none⟩ = some (slv gx n cx)) (c2 : w.cell? ⟨g, 2 * d + 1, none⟩ = some (slv gy m cy)) (c1p : w.cell? ⟨g, o, none⟩ = some (slv gxp n cxp)) (c2p : w.cell? ⟨g, o + 1, none⟩ = some (slv gyp m cyp)) :
    Lns B ((((w.setCell ⟨g, 2 * d, none⟩ (slv gxp n cxp)).setCell ⟨g, 2 * d + 1, none⟩ (slv gyp m cyp)).setCell ⟨g, o, none⟩ (slv gx n cx)).setCell ⟨g, o + 1, none⟩ (slv gy m cy)) g (swpA ad d (d + p)) (swp ls d (d + p))
      ∧ w.grownBy ((((w.setCell ⟨g, 2 * d, none⟩ (slv gxp n cxp)).setCell ⟨g, 2 * d + 1, none⟩ (slv gyp m cyp)).setCell ⟨g, o, none⟩ (slv gx n cx)).setCell ⟨g, o + 1, none⟩ (slv gy m cy)) (some g) := by
  have ne : ∀ {a b : Nat}, a ≠ b → (⟨g, a, none⟩ : Addr) ≠ ⟨g, b, none⟩ := fun h e => h (by injection e)
  obtain ⟨w1, e1⟩ : ∃ w1, w1 = w.setCell ⟨g, 2 * d, none⟩ (slv gxp n cxp) := ⟨_, rfl⟩
  obtain ⟨w2, e2⟩ : ∃ w2, w2 = w1.setCell ⟨g, 2 * d + 1, none⟩ (slv gyp m cyp) := ⟨_, rfl⟩
  obtain ⟨w3, e3⟩ : ∃ w3, w3 = w2.setCell ⟨g, o, none⟩ (slv gx n cx) := ⟨_, rfl⟩
  obtain ⟨w4, e4⟩ : ∃ w4, w4 = w3.setCell ⟨g, o + 1, none⟩ (slv gy m cy) := ⟨_, rfl⟩
  rw [← e1, ← e2, ← e3, ← e4]
  have hG : w.grownBy w4 (some g) := by
    rw [e4, e3, e2, e1]
    exact grown_trans (grown_trans (grown_trans (grown_set _ _ _ _) (grown_set _ _ _ _)) (grown_set _ _ _ _)) (grown_set _ _ _ _)
  have a1 : ∀ t, t ≠ 2 * d → w1.cell? ⟨g, t, none⟩ = w.cell? ⟨g, t, none⟩ := fun t ht => by rw [e1, World.cell?_setCell_other (h := ne (Ne.symm ht))]
  have a2 : ∀ t, t ≠ 2 * d + 1 → w2.cell? ⟨g, t, none⟩ = w1.cell? ⟨g, t, none⟩ := fun t ht => by rw [e2, World.cell?_setCell_other (h := ne (Ne.symm ht))]
  have a3 : ∀ t, t ≠ o → w3.cell? ⟨g, t, none⟩ = w2.cell? ⟨g, t, none⟩ := fun t ht => by rw [e3, World.cell?_setCell_other (h := ne (Ne.symm ht))]
  have a4 : ∀ t, t ≠ o + 1 → w4.cell? ⟨g, t, none⟩ = w3.cell? ⟨g, t, none⟩ := fun t ht => by rw [e4, World.cell?_setCell_other (h := ne (Ne.symm ht))]
  have b1 : w4.cell? ⟨g, 2 * d, none⟩ = some (slv gxp n cxp) := by
    rw [a4 _ (by omega), a3 _ (by omega), a2 _ (by omega), e1, World.cell?_setCell_same (h := c1)]
  have b2 : w4.cell? ⟨g, 2 * d + 1, none⟩ = some (slv gyp m cyp) := by
    rw [a4 _ (by omega), a3 _ (by omega), e2, World.cell?_setCell_same (h := by rw [a1 _ (by omega)]; exact c2)]
  have b3 : w4.cell? ⟨g, o, none⟩ = some (slv gx n cx) := by
    rw [a4 _ (by omega), e3, World.cell?_setCell_same (h := by rw [a2 _ (by omega), a1 _ (by omega)]; exact c1p)]
  have b4 : w4.cell? ⟨g, o + 1, none⟩ = some (slv gy m cy) := by
    rw [e4, World.cell?_setCell_same (h := by rw [a3 _ (by omega), a2 _ (by omega), a1 _ (by omega)]; exact c2p)]
  refine ⟨h.swapped (by omega) hl hG (fun t => by rw [e4, e3, e2, e1]; simpa using h.fz t) (fun t ht => ?_), hG⟩
  unfold sg
  by_cases h1 : t = d + p
  · subst h1
    rw [if_pos rfl, show 2 * (d + p) = o by omega, b3, b4, c1, c2]; exact ⟨rfl, rfl⟩
  · rw [if_neg h1]
    by_cases h2 : t = d
    · subst h2
      rw [if_pos rfl, show 2 * (t + p) = o by omega, b1, b2, c1p, c2p]; exact ⟨rfl, rfl⟩
    · rw [if_neg h2, a4 _ (by omega), a3 _ (by omega), a2 _ (by omega), a1 _ (by omega), a4 _ (by omega), a3 _ (by omega), a2 _ (by omega), a1 _ (by omega)]
      exact ⟨rfl, rfl⟩
/-- .. and where p is 0. -/
theorem Lns.swap0 {B : Nat} {w : World} {g n m d gx cx gy cy : Nat} {ad : List Ad} {ls : List Ln} (h : Lns B w g ad ls) (hl : d < ls.length)
    (c1 : w.cell? ⟨g, 2 * d, none⟩ = some (slv gx n cx)) (c2 : w.cell? ⟨g, 2 * d + 1, none⟩ = some (slv gy m cy)) :
    Lns B ((((w.setCell ⟨g, 2 * d, none⟩ (slv gx n cx)).setCell ⟨g, 2 * d + 1, none⟩ (slv gy m cy)).setCell ⟨g, 2 * d, none⟩ (slv gx n cx)).setCell ⟨g, 2 * d + 1, none⟩ (slv gy m cy)) g (swpA ad d (d + 0)) (swp ls d (d + 0))
      ∧ w.grownBy ((((w.setCell ⟨g, 2 * d, none⟩ (slv gx n cx)).setCell ⟨g, 2 * d + 1, none⟩ (slv gy m cy)).setCell ⟨g, 2 * d, none⟩ (slv gx n cx)).setCell ⟨g, 2 * d + 1, none⟩ (slv gy m cy)) (some g) := by
  have ne : ∀ {a b : Nat}, a ≠ b → (⟨g, a, none⟩ : Addr) ≠ ⟨g, b, none⟩ := fun h e => h (by injection e)
  have hset : ∀ (w : World) (t : Nat) (v : Value), w.cell? ⟨g, t, none⟩ = some v → ∀ u, (w.setCell ⟨g, t, none⟩ v).cell? ⟨g, u, none⟩ = w.cell? ⟨g, u, none⟩ := fun w t v hv u => by
    by_cases e : u = t
    · subst e; rw [World.cell?_setCell_same (h := hv), hv]
    · rw [World.cell?_setCell_other (h := ne (Ne.symm e))]
  obtain ⟨w1, e1⟩ : ∃ w1, w1 = w.setCell ⟨g, 2 * d, none⟩ (slv gx n cx) := ⟨_, rfl⟩
  obtain ⟨w2, e2⟩ : ∃ w2, w2 = w1.setCell ⟨g, 2 * d + 1, none⟩ (slv gy m cy) := ⟨_, rfl⟩
  obtain ⟨w3, e3⟩ : ∃ w3, w3 = w2.setCell ⟨g, 2 * d, none⟩ (slv gx n cx) := ⟨_, rfl⟩
  obtain ⟨w4, e4⟩ : ∃ w4, w4 = w3.setCell ⟨g, 2 * d + 1, none⟩ (slv gy m cy) := ⟨_, rfl⟩
  rw [← e1, ← e2, ← e3, ← e4]
  have hG : w.grownBy w4 (some g) := by
    rw [e4, e3, e2, e1]
    exact grown_trans (grown_trans (grown_trans (grown_set _ _ _ _) (grown_set _ _ _ _)) (grown_set _ _ _ _)) (grown_set _ _ _ _)
  have a1 : ∀ t, w1.cell? ⟨g, t, none⟩ = w.cell? ⟨g, t, none⟩ := by rw [e1]; exact hset _ _ _ c1
  have a2 : ∀ t, w2.cell? ⟨g, t, none⟩ = w.cell? ⟨g, t, none⟩ := fun t => by rw [e2, hset _ _ _ (by rw [a1]; exact c2), a1]
  have a3 : ∀ t, w3.cell? ⟨g, t, none⟩ = w.cell? ⟨g, t, none⟩ := fun t => by rw [e3, hset _ _ _ (by rw [a2]; exact c1), a2]
  have a4 : ∀ t, w4.cell? ⟨g, t, none⟩ = w.cell? ⟨g, t, none⟩ := fun t => by rw [e4, hset _ _ _ (by rw [a3]; exact c2), a3]
  refine ⟨h.swapped hl (by omega) hG (fun t => by rw [e4, e3, e2, e1]; simpa using h.fz t) (fun t ht => ?_), hG⟩
  rw [a4, a4]
  have : sg d (d + 0) t = t := by unfold sg; split <;> (try split) <;> omega
  rw [this]; exact ⟨rfl, rfl⟩
end Go.Proofs.YthmhmkkcjlgbjaaGreatDoor
/- hermite: line.less, line.turn, at lines in memory. -/
namespace Go.Proofs.YthmhmkkcjlgbjaaGreatDoor
open Go.RowKit Go.Sort
theorem less_big {E : Nat} {q : Int} {a b : List Int} (ha : ∀ z ∈ a, z.natAbs < 2 ^ E) (hb : ∀ z ∈ b, z.natAbs < 2 ^ E) (hq : q.natAbs < 2 ^ E) (hE : 2 * E + 2 < LIM) :
    ∀ (i : Nat) (h : i < b.length) (h' : i < a.length), nd a[i] < LIM ∧ nd (q * b[i]) < LIM ∧ nd q + nd b[i] ≤ LIM := by
  intro i h h'
  have h1 := nd_lt2 (ha _ (List.getElem_mem h'))
  have h2 := nd_lt2 (hb _ (List.getElem_mem h))
  have h3 := nd_lt2 hq
  have h4 := nd_mul q b[i]
  omega
set_option maxRecDepth 100000 in
theorem less_linesC {w0 w : World} {g n m i t E gx cx gy cy gxt cxt gyt cyt : Nat} {q : Int} {ad : List Ad} {ls : List Ln} (hLn : Lns w0.heap.size w g ad ls) (hd : Dim n m ls) (hi : i < ls.length) (ht : t < ls.length) (hne : i ≠ t)
    (hn : n ≤ 1000000) (hm : m ≤ 1000000) (hai : ad[i]? = some ⟨gx, cx, gy, cy⟩) (hat : ad[t]? = some ⟨gxt, cxt, gyt, cyt⟩)
    (hA : All (fun z => z.natAbs < 2 ^ E) (ls.getD i default)) (hB : All (fun z => z.natAbs < 2 ^ E) (ls.getD t default)) (hq : q.natAbs < 2 ^ E) (hE : 2 * E + 2 < LIM) (hL : Laid w0) (hE0 : Ext w0 w) :
    Calls Tryz.prog 84 #[.agg #[slv gx n cx, slv gy m cy], I q, .agg #[slv gxt n cxt, slv gyt m cyt]] w fun e w' =>
      e = .returned (.tuple #[]) ∧ Lns w0.heap.size w' g ad (ls.set i (lsub q (ls.getD i default) (ls.getD t default))) ∧ Ext w0 w' ∧ Chg (fun k => k = gx ∨ k = gy) w w' := by
  have hai' : i < ad.length := by rw [hLn.len]; exact hi
  have hat' : t < ad.length := by rw [hLn.len]; exact ht
  rw [List.getElem?_eq_getElem hai'] at hai
  rw [List.getElem?_eq_getElem hat'] at hat
  have eai := Option.some.inj hai
  have eat := Option.some.inj hat
  have hX := hLn.x i hi hai'
  have hY := hLn.y i hi hai'
  have hXt := hLn.x t ht hat'
  have hYt := hLn.y t ht hat'
  have hoi := hLn.own i hai'
  have hdis := hLn.dis i t hai' hat' hne
  have li := hd.get hi
  have lt := hd.get ht
  rw [getD_get hi] at hA
  rw [getD_get ht] at hB
  rw [getD_get hi, getD_get ht]
  have hwr := fun {w' : World} {l : Ln} (e1 : l.1.length = ls[i].1.length) (e2 : l.2.length = ls[i].2.length) (a : OwnV 38 w0.heap.size w' ad[i].gx ad[i].cx (ss l.1)) (b : OwnV 38 w0.heap.size w' ad[i].gy ad[i].cy (ss l.2)) (c : Chg (fun k => k = ad[i].gx ∨ k = ad[i].gy) w w') => hLn.wrote hai' hi e1 e2 a b c
  rw [eai] at hX hY hoi hdis
  rw [eat] at hXt hYt hdis
  simp only at hX hY hXt hYt hoi hdis
  have h := less_any (w0 := w0) (w := w) (gx := gx) (cx := cx) (gy := gy) (cy := cy) (k := q) (cb := cxt) (cd := cyt) hX hY hoi.2.2 hXt.sl (Ne.symm hdis.1) hYt.sl (Ne.symm hdis.2.1) (Ne.symm hdis.2.2.2) (by rw [lt.1, li.1]; exact Nat.le_refl _) (by rw [lt.2, li.2]; exact Nat.le_refl _) (by rw [li.1]; exact hn) (by rw [li.2]; exact hm)
    (less_big hA.1 hB.1 hq hE) (less_big hA.2 hB.2 hq hE) hL hE0
  rw [li.1, li.2, lt.1, lt.2] at h
  refine h.mono ?_
  rintro e w' ⟨rfl, hX', hY', hC⟩
  have hwr' := hwr (w' := w') (l := lsub q ls[i] ls[t]) (by simp [lsub]) (by simp [lsub])
  rw [eai] at hwr'
  refine ⟨rfl, hwr' hX' hY' hC, hC.ext hE0 ?_, hC⟩
  rintro k (rfl | rfl)
  · exact hX.lt.1
  · exact hY.lt.1
set_option maxRecDepth 100000 in
theorem less_lines {w0 w : World} {g n m i t E gx cx gy cy gxt cxt gyt cyt : Nat} {q : Int} {ad : List Ad} {ls : List Ln} (hLn : Lns w0.heap.size w g ad ls) (hd : Dim n m ls) (hi : i < ls.length) (ht : t < ls.length) (hne : i ≠ t)
    (hn : n ≤ 1000000) (hm : m ≤ 1000000) (hai : ad[i]? = some ⟨gx, cx, gy, cy⟩) (hat : ad[t]? = some ⟨gxt, cxt, gyt, cyt⟩)
    (hA : All (fun z => z.natAbs < 2 ^ E) (ls.getD i default)) (hB : All (fun z => z.natAbs < 2 ^ E) (ls.getD t default)) (hq : q.natAbs < 2 ^ E) (hE : 2 * E + 2 < LIM) (hL : Laid w0) (hE0 : Ext w0 w) :
    Calls Tryz.prog 84 #[.agg #[slv gx n cx, slv gy m cy], I q, .agg #[slv gxt n cxt, slv gyt m cyt]] w fun e w' =>
      e = .returned (.tuple #[]) ∧ Lns w0.heap.size w' g ad (ls.set i (lsub q (ls.getD i default) (ls.getD t default))) ∧ Ext w0 w' :=
  (less_linesC hLn hd hi ht hne hn hm hai hat hA hB hq hE hL hE0).mono fun _ _ h => ⟨h.1, h.2.1, h.2.2.1⟩
theorem turn_linesC {w0 w : World} {g n m i E gx cx gy cy : Nat} {ad : List Ad} {ls : List Ln} (hLn : Lns w0.heap.size w g ad ls) (hd : Dim n m ls) (hi : i < ls.length)
    (hn : n ≤ 1000000) (hm : m ≤ 1000000) (hai : ad[i]? = some ⟨gx, cx, gy, cy⟩) (hA : All (fun z => z.natAbs < 2 ^ E) (ls.getD i default)) (hE : 2 * E + 2 < LIM) (hE0 : Ext w0 w) :
    Calls Tryz.prog 83 #[.agg #[slv gx n cx, slv gy m cy]] w fun e w' =>
      e = .returned (.tuple #[]) ∧ Lns w0.heap.size w' g ad (ls.set i (lneg (ls.getD i default))) ∧ Ext w0 w' ∧ Chg (fun k => k = gx ∨ k = gy) w w' := by
  have hai' : i < ad.length := by rw [hLn.len]; exact hi
  rw [List.getElem?_eq_getElem hai'] at hai
  have eai := Option.some.inj hai
  have hX := hLn.x i hi hai'
  have hY := hLn.y i hi hai'
  have hoi := hLn.own i hai'
  have li := hd.get hi
  rw [getD_get hi] at hA
  rw [getD_get hi]
  have hwr := fun {w' : World} {l : Ln} (e1 : l.1.length = ls[i].1.length) (e2 : l.2.length = ls[i].2.length) (a : OwnV 38 w0.heap.size w' ad[i].gx ad[i].cx (ss l.1)) (b : OwnV 38 w0.heap.size w' ad[i].gy ad[i].cy (ss l.2)) (c : Chg (fun k => k = ad[i].gx ∨ k = ad[i].gy) w w') => hLn.wrote hai' hi e1 e2 a b c
  rw [eai] at hX hY hoi
  simp only at hX hY hoi
  have h := turn_any (w0 := w0) (w := w) (gx := gx) (cx := cx) (gy := gy) (cy := cy) hX hY hoi.2.2 (by rw [li.1]; exact hn) (by rw [li.2]; exact hm)
    (fun z hz => by have := nd_lt2 (hA.1 z hz); omega) (fun z hz => by have := nd_lt2 (hA.2 z hz); omega)
  rw [li.1, li.2] at h
  refine h.mono ?_
  rintro e w' ⟨rfl, hX', hY', hC⟩
  have hwr' := hwr (w' := w') (l := lneg ls[i]) (by simp [lneg]) (by simp [lneg])
  rw [eai] at hwr'
  refine ⟨rfl, hwr' hX' hY' hC, hC.ext hE0 ?_, hC⟩
  rintro k (rfl | rfl)
  · exact hX.lt.1
  · exact hY.lt.1
end Go.Proofs.YthmhmkkcjlgbjaaGreatDoor
/- hermite: sweep -/
namespace Go.Proofs.YthmhmkkcjlgbjaaGreatDoor
open Go.RowKit Go.Sort
def SwPost (w0 : World) (g c d N k : Nat) (ls : List Ln) (e : Ending) (w' : World) : Prop :=
  ∃ r ad' ls', e = .returned (.bool r) ∧ Lns w0.heap.size w' g ad' ls' ∧ SwR c d N k ls ls' r ∧ Ext w0 w'
set_option maxRecDepth 100000 in
set_option maxHeartbeats 1000000 in
theorem sweep_walk {w0 w : World} {g cp n m d c N k : Nat} {ad : List Ad} {ls : List Ln}
    (hN : ls.length = d + N) (hNl : ls.length ≤ 1000000) (hcp : N ≤ cp) (hcn : c < n) (hn : n ≤ 1000000) (hm : m ≤ 1000000)
    (hLn : Lns w0.heap.size w g ad ls) (hdim : Dim n m ls) (hA : ∀ t, t < N → All (fun z => z.natAbs < 2 ^ k) (ls.getD (d + t) default)) (hk : 2 * (k * (N + 2) + 2) + 2 < LIM) (hL : Laid w0) (hE : Ext w0 w) :
    Calls Tryz.prog 81 #[.slice (some ⟨g, 2 * d, none⟩) N cp, .int .i64 c] w (SwPost w0 g c d N k ls) := by
  have HL := Lib.hid hL
  have Hk := Lib.hid hk
  have HN := Lib.hid hN
  have hNb : N ≤ 1000000 := by omega
  clear hk hL hN
  go_enter Tryz.func81, Tryz.ntmps81
  go_wp2_with fail
  go_loopg [] (sm (cols c d ls) N) (fun k' wr => ∃ ad1 ls1, Lns w0.heap.size wr g ad1 ls1 ∧ Ext w0 wr ∧ Hid (k' = sm (cols c d ls1) N ∧ GG c d N k ls1 ∧ Ops d ls ls1))
  case atStart => exact ⟨ad, ls, hLn, hE, rfl, .inl hA, .refl _⟩
  case round =>
    obtain ⟨ad1, ls1, hL1, hE1, hK⟩ := hrel
    have hN1 := Lib.hid (show ls1.length = d + N by rw [hK.out.2.2.length]; exact HN.out)
    have hd1 := hdim.ops hK.out.2.2
    have hlt1 := Lib.hid hK.out.2.1.lt
    generalize wr = V at *
    go_wp2_with fail
    go_loopw [5, 6, 16] (fun be re idx wr => ∃ (i : Nat) (b : Int), i ≤ N ∧ idx = .int .i64 i ∧ be = .int .i64 b ∧ re = .int .i64 (cntNZ (cols c d ls1) i : Nat) ∧ Hid (BestR (cols c d ls1) i b) ∧ Ext V wr) (fun _ _ idx _ => N - (intOf idx).toNat)
    case atStart => exact ⟨0, -1, by omega, by go_num, by go_num, by go_num, .inl ⟨rfl, fun t h => by omega⟩, Ext.refl _⟩
    case round =>
      obtain ⟨i, b, hi, rfl, rfl, rfl, hB, hEV⟩ := hrel
      by_cases hlt : i < N
      · have hii : (i : Int) < (N : Int) := by omega
        obtain ⟨gx, cx, gy, cy, ead, c1, c2, cz, o1, o2, _, _, _⟩ := (hL1.ext hEV).ln (c := c) (i := i) (o := 2 * d + i * 2) hd1 (by rw [hN1.out]; omega) rfl hcn
        obtain ⟨z, hz⟩ : ∃ z, z = cols c d ls1 i := ⟨_, rfl⟩
        have hzE := hlt1.out i hlt
        have hzE2 : nd z ≤ k * (N + 2) + 3 := by rw [hz]; exact nd_lt2 (hzE.col (Q := fun z => z.natAbs < 2 ^ (k * (N + 2) + 2)) (Nat.pow_pos (by omega)) c)
        have Hz2 := Lib.hid hzE2
        rw [← hz] at cz
        have hitz : (Lib.itoa z == [48]) = decide (z = 0) := itoa_eq_zero z
        have Hz := Lib.hid hz
        have lgx := o1.lt.2
        have lgy := o2.lt.2
        have hcl := cntNZ_le (cols c d ls1) i
        have hcs : z ≠ 0 → cntNZ (cols c d ls1) (i + 1) = cntNZ (cols c d ls1) i + 1 := fun h => by rw [cntNZ, if_neg (by rw [← Hz.out]; exact h)]
        have Hcs := Lib.hid hcs
        clear hz o1 o2 ead hzE hzE2 hcs
        by_cases hz0 : z = 0
        · rw [decide_eq_true hz0] at hitz
          have Hz0 := Lib.hid hz0
          clear hz0
          go_wp2_with fail
          go_roundw
          case rel => exact ⟨i + 1, b, by omega, by go_num, rfl, by rw [cntNZ, ← Hz.out, if_pos Hz0.out]; rfl, best_zero hB.out (by rw [← Hz.out]; exact Hz0.out), hEV.alloc _⟩
          case measure => simp [intOf] <;> omega
        · rw [decide_eq_false hz0] at hitz
          have Hz0 := Lib.hid hz0
          clear hz0
          rcases hB.out with ⟨hbm, hall⟩ | ⟨p, hp, hbp, hpz, hmin⟩
          · subst hbm
            have Hall := Lib.hid hall
            clear hall hB
            go_wp2_with fail
            go_quiet (fail)
            go_wp2_with fail
            go_roundw
            case rel => exact ⟨i + 1, i, by omega, by go_num, rfl, by rw [Hcs.out Hz0.out]; go_num, best_first Hall.out (by rw [← Hz.out]; exact Hz0.out), (hEV.alloc _).drewN _⟩
            case measure => simp [intOf] <;> omega
          · subst hbp
            have Hpz := Lib.hid hpz
            have hpN : p < N := by omega
            have hpi : (p : Int) < (N : Int) := by omega
            have hp0 : ¬ (p : Int) < 0 := by omega
            have hpd : decide ((p : Int) < 0) = false := decide_eq_false hp0
            have Hmin := Lib.hid hmin
            obtain ⟨gxp, cxp, gyp, cyp, eadp, c1p, c2p, cy', o1p, o2p, _, _, _⟩ := (hL1.ext hEV).ln (c := c) (i := p) (o := 2 * d + p * 2) hd1 (by rw [hN1.out]; omega) rfl hcn
            obtain ⟨y, hy⟩ : ∃ y, y = cols c d ls1 p := ⟨_, rfl⟩
            have hyE := hlt1.out p hpN
            have hyE2 : nd y ≤ k * (N + 2) + 3 := by rw [hy]; exact nd_lt2 (hyE.col (Q := fun z => z.natAbs < 2 ^ (k * (N + 2) + 2)) (Nat.pow_pos (by omega)) c)
            rw [← hy] at cy'
            have lgxp := o1p.lt.2
            have Hy := Lib.hid hy
            have hzl : nd z ≤ LIM := by have := Hk.out; have := Hz2.out; omega
            have hyl : nd y ≤ LIM := by have := Hk.out; omega
            have hzl' : nd (z.natAbs : Int) ≤ LIM := by unfold nd at *; rw [Int.natAbs_natCast]; exact hzl
            have hyl' : nd (y.natAbs : Int) ≤ LIM := by unfold nd at *; rw [Int.natAbs_natCast]; exact hyl
            obtain ⟨W0, hW0⟩ : ∃ W0, W0 = wr.alloc (.cells #[slv gx n cx, slv gy m cy] 90) := ⟨_, rfl⟩
            have hEW := (Ext.refl wr).alloc (.cells #[slv gx n cx, slv gy m cy] 90)
            have bA := Lib.hid (fun (t : Int) (ht : nd t ≤ LIM) => quietC (w := wr.alloc (.cells #[slv gx n cx, slv gy m cy] 90)) (fun W h => (Abs_any (z := t) ht W)))
            have Hzl := Lib.hid hzl
            have Hyl := Lib.hid hyl
            have k1 := cell_regrown (hEW.cell cy')
            have k2 := cell_regrown (hEW.cell cz)
            have k3 := cell_regrown (hEW.cell c1p)
            have k4 := cell_regrown (show (wr.alloc (.cells #[slv gx n cx, slv gy m cy] 90)).cell? ⟨wr.heap.size, 0, none⟩ = some (slv gx n cx) by go_simp)
            have b3 := Lib.hid (quietC (w := wr.alloc (.cells #[slv gx n cx, slv gy m cy] 90)) (fun W h => (Compare_any (a := (z.natAbs : Int)) (b := (y.natAbs : Int)) hzl' hyl' W)))
            have Hcmp := Lib.hid (show cmpZ z.natAbs y.natAbs < 0 ↔ z.natAbs < y.natAbs by unfold cmpZ; split <;> (try split) <;> omega)
            obtain ⟨q, hq⟩ : ∃ q, q = cmpZ z.natAbs y.natAbs := ⟨_, rfl⟩
            rw [← hq] at b3 Hcmp
            have hEW' := hEW
            clear hpz hmin hy hB o1p o2p eadp c2p hEW hW0 W0 hyE hyE2 hzl hyl hzl' hyl' hq
            rcases Decidable.em (z.natAbs < y.natAbs) with hzy | hzy
            · have hq0 : q < 0 := Hcmp.out.2 hzy
              have hqd : decide (q < 0) = true := decide_eq_true hq0
              go_wp2_with fail
              refine wp_region_quiet_below (by kernel_rfl) (by kernel_rfl) ?_
              repeat (quiet_step (first | (refine bA.out _ ?_ _ _; first | exact Hzl.out | exact Hyl.out) | exact b3.out _ _))
              refine wpQuiet_nil ?_
              intro _ hw'
              obtain ⟨⟨dq, osq⟩, hw''⟩ := hw'
              subst hw''
              have hE5 := (hEV.trans hEW').trans (ext_regrown _ dq osq)
              clear bA b3 k1 k2 k3 k4
              go_wp2_with fail
              go_roundw
              case rel => exact ⟨i + 1, i, by omega, by go_num, rfl, by rw [Hcs.out Hz0.out]; go_num, best_less (p := p) Hmin.out (by rw [← Hz.out]; exact Hz0.out) (by rw [← Hz.out, ← Hy.out]; exact hzy), hE5⟩
              case measure => simp [intOf] <;> omega
            · have hq0 : 0 ≤ q := by have := mt Hcmp.out.1 hzy; omega
              have hqd : decide (q < 0) = false := decide_eq_false (by omega)
              go_wp2_with fail
              refine wp_region_quiet_below (by kernel_rfl) (by kernel_rfl) ?_
              repeat (quiet_step (first | (refine bA.out _ ?_ _ _; first | exact Hzl.out | exact Hyl.out) | exact b3.out _ _))
              refine wpQuiet_nil ?_
              intro _ hw'
              obtain ⟨⟨dq, osq⟩, hw''⟩ := hw'
              subst hw''
              have hE5 := (hEV.trans hEW').trans (ext_regrown _ dq osq)
              clear bA b3 k1 k2 k3 k4
              go_wp2_with fail
              go_roundw
              case rel => exact ⟨i + 1, p, by omega, by go_num, rfl, by rw [Hcs.out Hz0.out]; go_num, best_keep hp Hpz.out Hmin.out (by rw [← Hz.out, ← Hy.out]; omega), hE5⟩
              case measure => simp [intOf] <;> omega
      · have hiN : i = N := by omega
        subst hiN
        rcases hB.out with ⟨hbm, hall⟩ | ⟨p, hp, hbp, hpz, hmin⟩
        · subst hbm
          have Hall := Lib.hid hall
          clear hall
          go_wp2_with fail
          go_ret
          exact ⟨false, ad1, ls1, rfl, hL1.ext hEV, swr_no hK.out.2.2 hK.out.2.1 Hall.out, hE1.trans hEV⟩
        · subst hbp
          have Hpz := Lib.hid hpz
          have Hmin := Lib.hid hmin
          have hpi : (p : Int) < (i : Int) := by omega
          obtain ⟨gxp, cxp, gyp, cyp, eadp, c1p, c2p, cyp', o1p, o2p, _, _, _⟩ := (hL1.ext hEV).ln (c := c) (i := p) (o := 2 * d + p * 2) hd1 (by rw [hN1.out]; omega) rfl hcn
          obtain ⟨gx, cx, gy, cy, ead, c1, c2, cz, o1, o2, _, _, _⟩ := (hL1.ext hEV).ln (c := c) (i := 0) (o := 2 * d) hd1 (by rw [hN1.out]; omega) rfl hcn
          have fz := (hL1.ext hEV).fz
          have hi0 : 0 < i := by omega
          clear hpz hmin o1 o2 o1p o2p ead eadp cz cyp' hB
          rcases Nat.eq_zero_or_pos p with hp0 | hp0
          focus
            subst hp0
            rw [show ((0 : Nat) : Int) = 0 from rfl]
            rw [show 2 * d + 0 * 2 = 2 * d by omega] at *
            clear c1p c2p
            go_wp2_with fail
            go_region
            have hS := (hL1.ext hEV).swap0 (by rw [hN1.out]; omega) c1 c2
            have hLs := hS.1.ext ((Ext.refl _).drew)
            have hEs := (ext_trans_grown (hE1.trans hEV) hS.2 hL1.base).drew
            have hpp : 0 < i := hi0
            obtain ⟨p, hp0⟩ : ∃ p, p = 0 := ⟨_, rfl⟩
            rw [← hp0] at hLs Hpz Hmin hpp
            generalize hW5 : World.drew (World.setCell _ _ _) = W5 at *
            clear hS c1 c2 hp0
          rotate_left
          focus
            obtain ⟨o, ho⟩ : ∃ o, 2 * d + p * 2 = o := ⟨_, rfl⟩
            rw [ho] at c1p c2p
            have d1 : o ≠ 2 * d := by omega
            have d2 : o ≠ 2 * d + 1 := by omega
            have d3 : o + 1 ≠ 2 * d := by omega
            have d4 : o + 1 ≠ 2 * d + 1 := by omega
            go_wp2_with fail
            go_region
            have hS := (hL1.ext hEV).swap4 (p := p) hp0 (by rw [hN1.out]; omega) ho c1 c2 c1p c2p
            have hLs := hS.1.ext ((Ext.refl _).drew)
            have hEs := (ext_trans_grown (hE1.trans hEV) hS.2 hL1.base).drew
            have hpp : p < i := hp
            generalize hW5 : World.drew (World.setCell _ _ _) = W5 at *
            clear hS c1 c2 c1p c2p d1 d2 d3 d4 ho
          all_goals
            clear hW5
            generalize hcn : cntNZ (cols c d ls1) i = cn at *
            have Hcn := Lib.hid hcn
            clear hcn
            by_cases hc1 : cn = 1
            · subst hc1
              go_wp2_with fail
              go_ret
              exact ⟨true, _, _, rfl, hLs, swr_yes hK.out.2.2 hN1.out hK.out.2.1 hpp Hpz.out Hcn.out, hEs⟩
            · have hcb : ((cn : Int) == 1) = false := beq_eq_false_iff_ne.2 (by omega)
              have hcnt : cntNZ (cols c d ls1) i ≠ 1 := by rw [Hcn.out]; exact hc1
              have hi2 : 2 ≤ i := by
                obtain ⟨s, hs, hsp, _⟩ := cnt_other hcnt Hpz.out hpp
                omega
              have hcp2 : 2 ≤ cp := by omega
              have Hless := Lib.hid (sw_less hN1.out hd1 hpp Hpz.out Hmin.out hcnt)
              have HG2 := Lib.hid (hK.out.2.1.swp hN1.out hpp)
              have hd2 : Dim n m (swp ls1 d (d + p)) := hd1.step (swp_step (d := d) ls1 (by rw [hN1.out]; omega) (by rw [hN1.out]; omega) (by omega) (by omega))
              have HN2 := Lib.hid (show (swp ls1 d (d + p)).length = d + i by rw [swp_length]; exact hN1.out)
              have Hz2 := Lib.hid (show cols c d (swp ls1 d (d + p)) 0 ≠ 0 by rw [swp_zero hN1.out hpp]; exact Hpz.out)
              have Hm2 := Lib.hid (swp_best hN1.out hpp Hmin.out)
              have HO2 := Lib.hid (Ops.step hK.out.2.2 (swp_step (d := d) (i := d) (j := d + p) ls1 (by rw [hN1.out]; omega) (by rw [hN1.out]; omega) (by omega) (by omega)))
              generalize swp ls1 d (d + p) = ls2 at *
              generalize swpA ad1 d (d + p) = ad2 at *
              have HG3 := Lib.hid (HG2.out.red HN2.out hd2 Hz2.out Hm2.out)
              have hR : ∀ j, j ≤ i - 1 → ∀ t, t < i → All (fun z => z.natAbs < 2 ^ (k * (i + 2) + 2)) ((redTo c d j ls2).getD (d + t) default) := fun j hj t ht => by
                have h1 := HG2.out.lt t ht
                have h2 := HG3.out.lt t ht
                rw [redTo_getD c d _ (by rw [HN2.out]; omega)] at h2 ⊢
                by_cases htj : d < d + t ∧ d + t ≤ d + j
                · rw [if_pos htj]; rw [if_pos (by omega)] at h2; exact h2
                · rw [if_neg htj]; exact h1
              have HR := Lib.hid hR
              have hi1 : i - 1 ≤ i := by omega
              clear hc1 hcnt hR
              go_wp2_with fail
              go_loopw [71] (fun idx wr => ∃ j : Nat, j ≤ i - 1 ∧ idx = .int .i64 j ∧ Lns w0.heap.size wr g ad2 (redTo c d j ls2) ∧ Ext w0 wr) (fun idx _ => (i - 1) - (intOf idx).toNat)
              case atStart => exact ⟨0, by omega, by go_num, by rw [redTo_zero]; exact hLs, hEs⟩
              case round =>
                obtain ⟨j, hj, rfl, hL3, hE3⟩ := hrel
                generalize wr = X at *
                by_cases hjl : j < i - 1
                · have hji : (j : Int) < ((i - 1 : Nat) : Int) := by omega
                  have hO3 := redTo_ops c d ls2 j (by rw [HN2.out]; omega)
                  have hd3 := hd2.ops hO3
                  have HN3 := Lib.hid (show (redTo c d j ls2).length = d + i by rw [redTo_length]; exact HN2.out)
                  obtain ⟨gx, cx, gy, cy, ead, c1, c2, cz, o1, o2, _, _, _⟩ := hL3.ln (d := d) (c := c) (i := j + 1) (o := 2 * d + 2 + j * 2) hd3 (by rw [HN3.out]; omega) (by omega) hcn
                  obtain ⟨gxt, cxt, gyt, cyt, eadt, c1t, c2t, ct, o1t, o2t, _, _, _⟩ := hL3.ln (d := d) (c := c) (i := 0) (o := 2 * d) hd3 (by rw [HN3.out]; omega) (by omega) hcn
                  have lgx := o1.lt.2
                  have lgy := o2.lt.2
                  have lgxt := o1t.lt.2
                  have lgyt := o2t.lt.2
                  obtain ⟨z, hz⟩ : ∃ z, z = cols c d (redTo c d j ls2) (j + 1) := ⟨_, rfl⟩
                  obtain ⟨y, hy⟩ : ∃ y, y = cols c d (redTo c d j ls2) 0 := ⟨_, rfl⟩
                  rw [← hz] at cz
                  rw [← hy] at ct
                  have hy0 : y ≠ 0 := by
                    rw [hy]; unfold cols; rw [redTo_getD c d _ (by rw [HN2.out]; omega), if_neg (by omega)]; exact Hz2.out
                  have hA1 := HR.out j hj (j + 1) (by omega)
                  have hA0 := HR.out j hj 0 (by omega)
                  have hzE : z.natAbs < 2 ^ (k * (i + 2) + 2) := by rw [hz]; exact hA1.col (Q := fun z => z.natAbs < 2 ^ (k * (i + 2) + 2)) (Nat.pow_pos (by omega)) c
                  have hyE : y.natAbs < 2 ^ (k * (i + 2) + 2) := by rw [hy]; exact hA0.col (Q := fun z => z.natAbs < 2 ^ (k * (i + 2) + 2)) (Nat.pow_pos (by omega)) c
                  have hqE : (z.fdiv y).natAbs < 2 ^ (k * (i + 2) + 2) := Nat.lt_of_le_of_lt (fdiv_abs z hy0) hzE
                  have hstep := redTo_stepD c d j ls2 (by rw [HN2.out]; omega)
                  rw [← hz, ← hy] at hstep
                  have Hy := Lib.hid hy
                  have Hz := Lib.hid hz
                  have Hzl : Hid (nd z < LIM) := by have := nd_lt2 hzE; have := Hk.out; exact Lib.hid (by omega)
                  have Hyl : Hid (nd y < LIM) := by have := nd_lt2 hyE; have := Hk.out; exact Lib.hid (by omega)
                  have Hl := Lib.hid (fun W (hW : Ext X W) => less_lines (w0 := w0) (w := W) (i := d + (j + 1)) (t := d + 0) (hL3.ext hW) hd3 (by rw [HN3.out]; omega) (by rw [HN3.out]; omega) (by omega) hn hm ead eadt hA1 hA0 hqE (by have := Hk.out; omega) HL.out (hE3.trans hW))
                  have Hstep := Lib.hid hstep
                  have Hy0 := Lib.hid hy0
                  clear hy hz ead eadt o1 o2 o1t o2t hA1 hA0 hzE hyE hqE hstep
                  have hEW := (Ext.refl X).alloc (.cells #[slv gx n cx, slv gy m cy] 90)
                  have hW5 : Ext X (X.alloc (.cells #[slv gx n cx, slv gy m cy] 90)) := hEW
                  have k1 := cell_regrown (hEW.cell cz)
                  have k2 := cell_regrown (hEW.cell ct)
                  have k3 := cell_regrown (hEW.cell c1t)
                  have k5 := cell_regrown (hEW.cell c2t)
                  have k4 := cell_regrown (show (X.alloc (.cells #[slv gx n cx, slv gy m cy] 90)).cell? ⟨X.heap.size, 0, none⟩ = some (slv gx n cx) by go_simp)
                  have k6 := cell_regrown (show (X.alloc (.cells #[slv gx n cx, slv gy m cy] 90)).cell? ⟨X.heap.size, 1, none⟩ = some (slv gy m cy) by go_simp)
                  have bD := Lib.hid (quietC (w := X.alloc (.cells #[slv gx n cx, slv gy m cy] 90)) (fun W h => DivMod_any (a := z) (b := y) (w := W) Hzl.out Hyl.out Hy0.out (HL.out.ext (hE3.trans (hW5.trans h)))))
                  clear hEW
                  go_wp2_with fail
                  refine wp_region_quiet_below (by kernel_rfl) (by kernel_rfl) ?_
                  repeat (quiet_step (exact bD.out _ _))
                  refine wpQuiet_nil ?_
                  intro _ hw'
                  obtain ⟨⟨dq, osq⟩, hw''⟩ := hw'
                  subst hw''
                  have hE6 := hW5.trans (ext_regrown _ dq osq)
                  have m4 := k4 dq osq
                  have m6 := k6 dq osq
                  clear bD k1 k2 k3 k4 k5 k6
                  generalize hW6 : grow (redrawn _ _) _ = W6 at *
                  have n1 := cell_regrown (hE6.cell c1t)
                  have n2 := cell_regrown (hE6.cell c2t)
                  have n3 := cell_regrown m4
                  have n4 := cell_regrown m6
                  clear hW6 m4 m6
                  go_wp2_with fail
                  refine wp_region_quiet_tail 5 (by kernel_rfl) (by kernel_rfl) ?_
                  simp only [List.take_succ_cons, List.take_zero, List.drop_succ_cons, List.drop_zero]
                  repeat (quiet_step (fail))
                  refine wpQuiet_nil ?_
                  intro _ hw'
                  obtain ⟨⟨dq, osq⟩, hw''⟩ := hw'
                  subst hw''
                  have hE7 := hE6.trans (ext_regrown _ dq osq)
                  clear n1 n2 n3 n4
                  generalize hW7 : grow (redrawn _ _) _ = W7 at *
                  clear hW7
                  go_wp2_with fail
                  refine (Hl.out _ hE7).mono ?_
                  rintro e W8 ⟨rfl, hL8, hE8⟩
                  rw [← Hstep.out] at hL8
                  go_wp2_with fail
                  go_roundw
                  case rel => exact ⟨j + 1, by omega, by go_num, hL8, hE8⟩
                  case measure => simp [intOf] <;> omega
                · go_wp2_with fail
                  go_roundg (sm (cols c d (redTo c d (i - 1) ls2)) i)
                  case measure => rw [hK.out.1]; exact Hless.out
                  case rel =>
                    have hje : j = i - 1 := by omega
                    subst hje
                    exact ⟨ad2, _, hL3, hE3, Lib.hid ⟨rfl, HG3.out, HO2.out.trans (redTo_ops c d ls2 (i - 1) (by rw [HN2.out]; omega))⟩⟩
end Go.Proofs.YthmhmkkcjlgbjaaGreatDoor
