/- Part 14 of the proof of the claim: contracts of the functions that it reaches, and plain laws; no condition. -/
import Derived.Test.YtjnpakablgommaaGreatDoorV13
import Derived.Test.YtjnpakablgommaaGreatDoorV12
import Derived.Deep.RegionHeld3
import Derived.Deep.AppendLies
set_option maxRecDepth 100000
namespace Go.Proofs.YtjnpakablgommaaGreatDoor
open Go.RowKit Go.Sort
structure Ad where
 gx : Nat
 cx : Nat
 gy : Nat
 cy : Nat
 deriving Inhabited
structure Lns (B : Nat) (w : World) (g : Nat) (ad : List Ad) (ls : List Ln) : Prop where
 len : ad.length = ls.length
 base : B ≤ g
 lt : g < w.heap.size
 fz : ∀ o, w.frozen? ⟨g, o, none⟩ = false
 hx : ∀ i (h : i < ls.length) (h' : i < ad.length), w.cell? ⟨g, 2 * i, none⟩ = some (slv ad[i].gx ls[i].1.length ad[i].cx)
 hy : ∀ i (h : i < ls.length) (h' : i < ad.length), w.cell? ⟨g, 2 * i + 1, none⟩ = some (slv ad[i].gy ls[i].2.length ad[i].cy)
 x : ∀ i (h : i < ls.length) (h' : i < ad.length), OwnV 79 B w ad[i].gx ad[i].cx (ss ls[i].1)
 y : ∀ i (h : i < ls.length) (h' : i < ad.length), OwnV 79 B w ad[i].gy ad[i].cy (ss ls[i].2)
 own : ∀ i (h : i < ad.length), ad[i].gx ≠ g ∧ ad[i].gy ≠ g ∧ ad[i].gx ≠ ad[i].gy
 dis : ∀ i j (hi : i < ad.length) (hj : j < ad.length), i ≠ j → ad[i].gx ≠ ad[j].gx ∧ ad[i].gx ≠ ad[j].gy ∧ ad[i].gy ≠ ad[j].gx ∧ ad[i].gy ≠ ad[j].gy
theorem Lns.ext {B : Nat} {w w' : World} {g : Nat} {ad : List Ad} {ls : List Ln} (h : Lns B w g ad ls) (he : Ext w w') : Lns B w' g ad ls where
 len := h.len
 base := h.base
 lt := Nat.lt_of_lt_of_le h.lt he.size
 fz := fun o => by rw [he.frozen h.lt]; exact h.fz o
 hx := fun i a b => he.cell (h.hx i a b)
 hy := fun i a b => he.cell (h.hy i a b)
 x := fun i a b => (h.x i a b).ext he
 y := fun i a b => (h.y i a b).ext he
 own := h.own
 dis := h.dis
theorem Chg.frozen {R : Nat → Prop} {a b : World} (h : Chg R a b) {g o : Nat} (hg : ¬ R g) (hl : g < a.heap.size) : b.frozen? ⟨g, o, none⟩ = a.frozen? ⟨g, o, none⟩ := by
 have := h.block g hl hg
 unfold World.frozen?
 rw [this]
theorem Lns.wrote {B : Nat} {w w' : World} {g : Nat} {ad : List Ad} {ls : List Ln} (h : Lns B w g ad ls) {i : Nat} (hi : i < ad.length) (hi' : i < ls.length) {l : Ln} (e1 : l.1.length = ls[i].1.length) (e2 : l.2.length = ls[i].2.length)
  (hX : OwnV 79 B w' ad[i].gx ad[i].cx (ss l.1)) (hY : OwnV 79 B w' ad[i].gy ad[i].cy (ss l.2)) (hC : Chg (fun k => k = ad[i].gx ∨ k = ad[i].gy) w w') : Lns B w' g ad (ls.set i l) := by
 have hown := h.own i hi
 have hg : ¬ (g = ad[i].gx ∨ g = ad[i].gy) := by rintro (e | e); exact hown.1 e.symm; exact hown.2.1 e.symm
 refine ⟨by rw [List.length_set]; exact h.len, h.base, Nat.lt_of_lt_of_le h.lt hC.size, fun o => by rw [hC.frozen hg h.lt]; exact h.fz o, ?_, ?_, ?_, ?_, h.own, h.dis⟩
 ·intro j hj hj'
  rw [List.length_set] at hj
  have := hC.cell hg (h.hx j hj hj')
  by_cases hij : i = j
  ·subst hij; simp only [List.getElem_set_self]; rw [e1]; exact this
  ·simp only [List.getElem_set_ne hij]; exact this
 ·intro j hj hj'
  rw [List.length_set] at hj
  have := hC.cell hg (h.hy j hj hj')
  by_cases hij : i = j
  ·subst hij; simp only [List.getElem_set_self]; rw [e2]; exact this
  ·simp only [List.getElem_set_ne hij]; exact this
 ·intro j hj hj'
  rw [List.length_set] at hj
  by_cases hij : i = j
  ·subst hij; simp only [List.getElem_set_self]; exact hX
  ·simp only [List.getElem_set_ne hij]
   have d := h.dis j i hj' hi (Ne.symm hij)
   exact hC.own (by rintro (e | e); exact d.1 e; exact d.2.1 e) (h.x j hj hj')
 ·intro j hj hj'
  rw [List.length_set] at hj
  by_cases hij : i = j
  ·subst hij; simp only [List.getElem_set_self]; exact hY
  ·simp only [List.getElem_set_ne hij]
   have d := h.dis j i hj' hi (Ne.symm hij)
   exact hC.own (by rintro (e | e); exact d.2.2.1 e; exact d.2.2.2 e) (h.y j hj hj')
theorem nd_lt2 {z : Int} {E : Nat} (h : z.natAbs < 2 ^ E) : nd z ≤ E + 1 := by
 refine nDigits_le (Nat.lt_of_lt_of_le h ?_) (by omega)
 exact Nat.le_trans (Nat.pow_le_pow_left (by omega) E) (Nat.pow_le_pow_right (by omega) (by omega))
theorem Lns.ln {B : Nat} {w : World} {g n m d i o c : Nat} {ad : List Ad} {ls : List Ln} (h : Lns B w g ad ls) (hd : Dim n m ls) (hi : d + i < ls.length) (ho : o = 2 * d + i * 2) (hc : c < n) :
  ∃ (gx cx gy cy : Nat), ad[d + i]? = some ⟨gx, cx, gy, cy⟩ ∧ w.cell? ⟨g, o, none⟩ = some (slv gx n cx) ∧ w.cell? ⟨g, o + 1, none⟩ = some (slv gy m cy)
   ∧ w.cell? ⟨gx, c, none⟩ = some (I (cols c d ls i)) ∧ OwnV 79 B w gx cx (ss (ls.getD (d + i) default).1) ∧ OwnV 79 B w gy cy (ss (ls.getD (d + i) default).2) ∧ gx ≠ g ∧ gy ≠ g ∧ gx ≠ gy := by
 have hi' : d + i < ad.length := by rw [h.len]; exact hi
 have hh := hd.get hi
 have e := getD_get hi default
 have hX := h.x (d + i) hi hi'
 have ho' : o = 2 * (d + i) := by omega
 subst ho'
 refine ⟨ad[d + i].gx, ad[d + i].cx, ad[d + i].gy, ad[d + i].cy, by rw [List.getElem?_eq_getElem hi'], ?_, ?_, ?_, ?_, ?_, (h.own _ hi').1, (h.own _ hi').2.1, (h.own _ hi').2.2⟩
 ·have := h.hx (d + i) hi hi'; rwa [hh.1] at this
 ·have := h.hy (d + i) hi hi'; rwa [hh.2] at this
 ·rw [hX.cell (j := c) (by simp; omega)]
  unfold cols col
  rw [e, getD_get (by omega)]
  simp [ss]
 ·rw [e]; exact hX
 ·rw [e]; exact h.y (d + i) hi hi'
def swpA (ad : List Ad) (i j : Nat) : List Ad := (ad.set i (ad.getD j default)).set j (ad.getD i default)
@[simp] theorem swpA_length (ad : List Ad) (i j : Nat) : (swpA ad i j).length = ad.length := by simp [swpA]
def sg (i j t : Nat) : Nat := if t = j then i else if t = i then j else t
theorem sg_lt {i j t n : Nat} (hi : i < n) (hj : j < n) (ht : t < n) : sg i j t < n := by unfold sg; split <;> (try split) <;> omega
theorem sg_inj {i j t u : Nat} (h : sg i j t = sg i j u) : t = u := by unfold sg at h; split at h <;> split at h <;> (try split at h) <;> (try split at h) <;> omega
theorem swp_get {ls : List Ln} {i j : Nat} (hi : i < ls.length) (hj : j < ls.length) {t : Nat} (ht : t < (swp ls i j).length) : (swp ls i j)[t] = ls[sg i j t]'(sg_lt hi hj (by simpa using ht)) := by
 have := swp_getD ls hi hj t
 rw [getD_get ht] at this
 rw [this]
 unfold sg
 split
 ·rw [getD_get hi]
 ·split
  ·rw [getD_get hj]
  ·rw [getD_get (by simpa using ht)]
theorem swpA_get {ad : List Ad} {i j : Nat} (hi : i < ad.length) (hj : j < ad.length) {t : Nat} (ht : t < (swpA ad i j).length) : (swpA ad i j)[t] = ad[sg i j t]'(sg_lt hi hj (by simpa using ht)) := by
 have : (swpA ad i j).getD t default = if t = j then ad.getD i default else if t = i then ad.getD j default else ad.getD t default := by
  unfold swpA
  rw [getD_set _ _ _ _ _ (by simpa using hj), getD_set _ _ _ _ _ hi]
 rw [getD_get ht] at this
 rw [this]
 unfold sg
 split
 ·rw [getD_get hi]
 ·split
  ·rw [getD_get hj]
  ·rw [getD_get (by simpa using ht)]
theorem Lns.swapped {B : Nat} {w w' : World} {g : Nat} {ad : List Ad} {ls : List Ln} (h : Lns B w g ad ls) {i j : Nat} (hi : i < ls.length) (hj : j < ls.length) (hG : w.grownBy w' (some g)) (hf : ∀ o, w'.frozen? ⟨g, o, none⟩ = false)
  (hc : ∀ t, t < ls.length → w'.cell? ⟨g, 2 * t, none⟩ = w.cell? ⟨g, 2 * sg i j t, none⟩ ∧ w'.cell? ⟨g, 2 * t + 1, none⟩ = w.cell? ⟨g, 2 * sg i j t + 1, none⟩) : Lns B w' g (swpA ad i j) (swp ls i j) := by
 have hai : i < ad.length := by rw [h.len]; exact hi
 have haj : j < ad.length := by rw [h.len]; exact hj
 have hs : ∀ t, t < ls.length → sg i j t < ls.length := fun t ht => sg_lt hi hj ht
 have hsa : ∀ t, t < ls.length → sg i j t < ad.length := fun t ht => by rw [h.len]; exact hs t ht
 refine ⟨by simp [h.len], h.base, Nat.lt_of_lt_of_le h.lt hG.size, hf, fun t a b => ?_, fun t a b => ?_, fun t a b => ?_, fun t a b => ?_, fun t a => ?_, fun t u a b htu => ?_⟩
 ·have ht : t < ls.length := by simpa using a
  rw [(hc t ht).1, swpA_get hai haj b, swp_get hi hj a]; exact h.hx _ (hs t ht) (hsa t ht)
 ·have ht : t < ls.length := by simpa using a
  rw [(hc t ht).2, swpA_get hai haj b, swp_get hi hj a]; exact h.hy _ (hs t ht) (hsa t ht)
 ·have ht : t < ls.length := by simpa using a
  rw [swpA_get hai haj b, swp_get hi hj a]; exact (h.x _ (hs t ht) (hsa t ht)).other hG (h.own _ (hsa t ht)).1
 ·have ht : t < ls.length := by simpa using a
  rw [swpA_get hai haj b, swp_get hi hj a]; exact (h.y _ (hs t ht) (hsa t ht)).other hG (h.own _ (hsa t ht)).2.1
 ·have ht : t < ls.length := by rw [← h.len]; simpa using a
  rw [swpA_get hai haj a]; exact h.own _ (hsa t ht)
 ·have ht : t < ls.length := by rw [← h.len]; simpa using a
  have hu : u < ls.length := by rw [← h.len]; simpa using b
  rw [swpA_get hai haj a, swpA_get hai haj b]
  exact h.dis _ _ (hsa t ht) (hsa u hu) (fun e => htu (sg_inj e))
theorem less_big {E : Nat} {q : Int} {a b : List Int} (ha : ∀ z ∈ a, z.natAbs < 2 ^ E) (hb : ∀ z ∈ b, z.natAbs < 2 ^ E) (hq : q.natAbs < 2 ^ E) (hE : 2 * E + 2 < LIM) :
  ∀ (i : Nat) (h : i < b.length) (h' : i < a.length), nd a[i] < LIM ∧ nd (q * b[i]) < LIM ∧ nd q + nd b[i] ≤ LIM := by
 intro i h h'
 have h1 := nd_lt2 (ha _ (List.getElem_mem h'))
 have h2 := nd_lt2 (hb _ (List.getElem_mem h))
 have h3 := nd_lt2 hq
 have h4 := nd_mul q b[i]
 omega
def RowR (w : World) (v : Value) (r : List Int) : Prop := ∃ sa gb go cap, v = .slice sa r.length cap ∧ r.length ≤ cap ∧ Sl w sa gb go (is r)
def MatR (w : World) (v : Value) (M : Mx) : Prop := ∃ sa gb go cap vs, v = .slice sa M.length cap ∧ M.length ≤ cap ∧ vs.length = M.length ∧ Sl w sa gb go vs ∧ ∀ i (h : i < M.length) (h' : i < vs.length), RowR w vs[i] M[i]
theorem RowR.ext {w w' : World} {v : Value} {r : List Int} (h : RowR w v r) (he : Ext w w') : RowR w' v r := by
 obtain ⟨sa, gb, go, cap, e, hc, hs⟩ := h; exact ⟨sa, gb, go, cap, e, hc, hs.ext he⟩
theorem MatR.ext {w w' : World} {v : Value} {M : Mx} (h : MatR w v M) (he : Ext w w') : MatR w' v M := by
 obtain ⟨sa, gb, go, cap, vs, e, hc, hl, hs, hr⟩ := h; exact ⟨sa, gb, go, cap, vs, e, hc, hl, hs.ext he, fun i a b => (hr i a b).ext he⟩
def I64 (z : Int) : Prop := -9223372036854775808 ≤ z ∧ z ≤ 9223372036854775807
theorem MatR.row {w : World} {sa : Option Addr} {gb go : Nat} {vs : List Value} {M : Mx} (hS : Sl w sa gb go vs) (hl : vs.length = M.length) (hr : ∀ i (h : i < M.length) (h' : i < vs.length), RowR w vs[i] M[i]) {i : Nat} (hi : i < M.length) :
  ∃ sa' gb' go' cap', w.cell? ⟨gb, go + i, none⟩ = some (.slice sa' M[i].length cap') ∧ M[i].length ≤ cap' ∧ Sl w sa' gb' go' (is M[i]) := by
 have hi' : i < vs.length := by omega
 obtain ⟨sa', gb', go', cap', e, hc, hs⟩ := hr i hi hi'
 exact ⟨sa', gb', go', cap', by rw [hS.cell i _ (List.getElem?_eq_getElem hi'), e], hc, hs⟩
def xv (n g cap : Nat) : Value := if n = 0 then .slice none 0 0 else slv g n cap
theorem xv_zero (g cap : Nat) : xv 0 g cap = .slice none 0 0 := rfl
theorem xv_pos {n : Nat} (h : 0 < n) (g cap : Nat) : xv n g cap = slv g n cap := by unfold xv; rw [if_neg (by omega)]
theorem ownsRow_ext {w w' : World} {base : Nat} {e : TypeId} {size n : Nat} {v : Value} {xs : List Value} (h : w.ownsRow base e size v n xs) (he : Ext w w') : w'.ownsRow base e size v n xs :=
 World.ownsRow.kept h (grown_ext he none) (by by_cases hv : v.ownBlock = none; exact .inl hv; exact .inr hv)
end Go.Proofs.YtjnpakablgommaaGreatDoor
namespace Go.Proofs.YtjnpakablgommaaGreatDoor
def IxR (p : Nat → Bool) (n : Nat) (k : Int) : Prop := (k = -1 ∧ ∀ i, i < n → p i = false) ∨ ∃ i : Nat, i < n ∧ k = (i : Int) ∧ p i = true ∧ ∀ j, j < i → p j = false
theorem IxR_ex (p : Nat → Bool) : ∀ n, ∃ k, IxR p n k
 | 0 => ⟨-1, .inl ⟨rfl, fun i h => by omega⟩⟩
 | n + 1 => by
  obtain ⟨k, h | ⟨i, hi, e, hp, hj⟩⟩ := IxR_ex p n
  ·cases hn : p n
   ·exact ⟨-1, .inl ⟨rfl, fun i hi => by
     by_cases e : i = n
     ·subst e; exact hn
     ·exact h.2 i (by omega)⟩⟩
   ·exact ⟨n, .inr ⟨n, by omega, rfl, hn, h.2⟩⟩
  ·exact ⟨k, .inr ⟨i, by omega, e, hp, hj⟩⟩
theorem IxR_no {p : Nat → Bool} {n : Nat} {k : Int} (h : IxR p n k) (hp : ∀ i, i < n → p i = false) : k = -1 := by
 rcases h with h | ⟨i, hi, _, hpi, _⟩
 ·exact h.1
 ·rw [hp i hi] at hpi; cases hpi
theorem IxR_at {p : Nat → Bool} {n i : Nat} {k : Int} (h : IxR p n k) (hi : i < n) (hp : p i = true) (hj : ∀ j, j < i → p j = false) : k = i := by
 rcases h with h | ⟨t, ht, e, hpt, hjt⟩
 ·rw [h.2 i hi] at hp; cases hp
 ·rcases Nat.lt_trichotomy i t with h | h | h
  ·rw [hjt i h] at hp; cases hp
  ·rw [e, h]
  ·rw [hj t h] at hpt; cases hpt
def anyB (p : Nat → Bool) (n : Nat) : Bool := (List.range n).any p
theorem anyB_iff {p : Nat → Bool} {n : Nat} : anyB p n = true ↔ ∃ i, i < n ∧ p i = true := by simp [anyB]
theorem anyB_no {p : Nat → Bool} {n : Nat} (h : ∀ i, i < n → p i = false) : anyB p n = false := by
 cases hb : anyB p n
 ·rfl
 ·obtain ⟨i, hi, hp⟩ := anyB_iff.1 hb; rw [h i hi] at hp; cases hp
theorem IxR_ge {p : Nat → Bool} {n : Nat} {k : Int} (h : IxR p n k) : decide (0 ≤ k) = anyB p n := by
 rcases h with ⟨rfl, h⟩ | ⟨i, hi, rfl, hp, _⟩
 ·rw [anyB_no h]; rfl
 ·rw [anyB_iff.2 ⟨i, hi, hp⟩]; exact decide_eq_true (by omega)
end Go.Proofs.YtjnpakablgommaaGreatDoor
namespace Go.Proofs.YtjnpakablgommaaGreatDoor
open Go.RowKit Go.Sort
set_option maxHeartbeats 1000000 in
theorem index_great {w : World} {sa : Option Addr} {gb go cap : Nat} {vs : List Value} {p : Nat → Bool} {k : Int} (hS : Sl w sa gb go vs) (hl : vs.length ≤ 1000000)
  (hF : ∀ i (h : i < vs.length) W, Ext w W → Calls Tryz.prog 285 #[vs[i]] W fun e w' => e = .returned (.bool (p i)) ∧ Ext W w') (hk : IxR p vs.length k) :
  Calls Tryz.prog 192 #[.slice sa vs.length cap, .func (.func 285) #[] #[]] w fun e w' => e = .returned (.int .i64 k) ∧ Ext w w' := by
 have HF := Lib.hid hF
 have HK := Lib.hid hk
 have HS := Lib.hid hS
 clear hF hk hS
 go_enter Tryz.func192, Tryz.ntmps192
 go_wp2_with fail
 go_loopw [8] (fun idx wr => ∃ i : Nat, i ≤ vs.length ∧ idx = .int .i64 i ∧ Hid (∀ j, j < i → p j = false) ∧ Ext w wr) (fun idx _ => vs.length - (intOf idx).toNat)
 case atStart => exact ⟨0, by omega, by go_num, Lib.hid (fun j h => by omega), Ext.refl _⟩
 case round =>
  obtain ⟨i, hi, rfl, Hp, hE⟩ := hrel
  generalize wr = X at *
  by_cases hlt : i < vs.length
  ·have hii : (i : Int) < (vs.length : Int) := by omega
   obtain ⟨u, hu⟩ : ∃ u, u = vs[i] := ⟨_, rfl⟩
   have hc := hE.cell (HS.out.cell i u (by rw [hu]; exact List.getElem?_eq_getElem hlt))
   obtain rfl := HS.out.addr (by omega)
   have hf := HF.out i hlt X hE
   rw [← hu] at hf
   have Hf := Lib.hid hf
   clear hf hu
   cases hpi : p i
   ·rw [hpi] at Hf
    have Hpi := Lib.hid hpi
    clear hpi
    go_wp2_with fail
    refine Hf.out.mono ?_
    rintro e W ⟨rfl, hE2⟩
    go_wp2_with fail
    go_roundw
    case rel => exact ⟨i + 1, by omega, by go_num, Lib.hid (fun j hj => by
     by_cases e : j = i
     ·subst e; exact Hpi.out
     ·exact Hp.out j (by omega)), hE.trans hE2⟩
    case measure => simp [intOf] <;> omega
   ·rw [hpi] at Hf
    have Hki := Lib.hid (IxR_at HK.out hlt hpi Hp.out)
    clear hpi
    go_wp2_with fail
    refine Hf.out.mono ?_
    rintro e W ⟨rfl, hE2⟩
    go_wp2_with fail
    go_ret
    exact ⟨by rw [Hki.out]; rfl, hE.trans hE2⟩
  ·have Hki := Lib.hid (IxR_no HK.out (fun j hj => Hp.out j (by omega)))
   go_wp2_with fail
   go_ret
   exact ⟨by rw [Hki.out]; rfl, hE⟩
theorem contains_great {w : World} {sa : Option Addr} {gb go cap : Nat} {vs : List Value} {p : Nat → Bool} (hS : Sl w sa gb go vs) (hl : vs.length ≤ 1000000)
  (hF : ∀ i (h : i < vs.length) W, Ext w W → Calls Tryz.prog 285 #[vs[i]] W fun e w' => e = .returned (.bool (p i)) ∧ Ext W w') :
  Calls Tryz.prog 129 #[.slice sa vs.length cap, .func (.func 285) #[] #[]] w fun e w' => e = .returned (.bool (anyB p vs.length)) ∧ Ext w w' := by
 obtain ⟨k, hk⟩ := IxR_ex p vs.length
 have Hge := Lib.hid (IxR_ge hk)
 have HI := Lib.hid (index_great (cap := cap) hS hl hF hk)
 clear hS hF hk
 go_enter Tryz.func129, Tryz.ntmps129
 go_wp2_with fail
 refine HI.out.mono ?_
 rintro e W ⟨rfl, hE⟩
 go_wp2_with fail
 go_ret
 exact ⟨by rw [← Hge.out]; rfl, hE⟩
set_option maxHeartbeats 1000000 in
theorem index_rowCheck {w : World} {sa : Option Addr} {gb go cap : Nat} {vs : List Value} {p : Nat → Bool} {k : Int} (hS : Sl w sa gb go vs) (hl : vs.length ≤ 1000000)
  (hF : ∀ i (h : i < vs.length) W, Ext w W → Calls Tryz.prog 130 #[vs[i]] W fun e w' => e = .returned (.bool (p i)) ∧ Ext W w') (hk : IxR p vs.length k) :
  Calls Tryz.prog 192 #[.slice sa vs.length cap, .func (.func 130) #[] #[]] w fun e w' => e = .returned (.int .i64 k) ∧ Ext w w' := by
 have HF := Lib.hid hF
 have HK := Lib.hid hk
 have HS := Lib.hid hS
 clear hF hk hS
 go_enter Tryz.func192, Tryz.ntmps192
 go_wp2_with fail
 go_loopw [8] (fun idx wr => ∃ i : Nat, i ≤ vs.length ∧ idx = .int .i64 i ∧ Hid (∀ j, j < i → p j = false) ∧ Ext w wr) (fun idx _ => vs.length - (intOf idx).toNat)
 case atStart => exact ⟨0, by omega, by go_num, Lib.hid (fun j h => by omega), Ext.refl _⟩
 case round =>
  obtain ⟨i, hi, rfl, Hp, hE⟩ := hrel
  generalize wr = X at *
  by_cases hlt : i < vs.length
  ·have hii : (i : Int) < (vs.length : Int) := by omega
   obtain ⟨u, hu⟩ : ∃ u, u = vs[i] := ⟨_, rfl⟩
   have hc := hE.cell (HS.out.cell i u (by rw [hu]; exact List.getElem?_eq_getElem hlt))
   obtain rfl := HS.out.addr (by omega)
   have hf := HF.out i hlt X hE
   rw [← hu] at hf
   have Hf := Lib.hid hf
   clear hf hu
   cases hpi : p i
   ·rw [hpi] at Hf
    have Hpi := Lib.hid hpi
    clear hpi
    go_wp2_with fail
    refine Hf.out.mono ?_
    rintro e W ⟨rfl, hE2⟩
    go_wp2_with fail
    go_roundw
    case rel => exact ⟨i + 1, by omega, by go_num, Lib.hid (fun j hj => by
     by_cases e : j = i
     ·subst e; exact Hpi.out
     ·exact Hp.out j (by omega)), hE.trans hE2⟩
    case measure => simp [intOf] <;> omega
   ·rw [hpi] at Hf
    have Hki := Lib.hid (IxR_at HK.out hlt hpi Hp.out)
    clear hpi
    go_wp2_with fail
    refine Hf.out.mono ?_
    rintro e W ⟨rfl, hE2⟩
    go_wp2_with fail
    go_ret
    exact ⟨by rw [Hki.out]; rfl, hE.trans hE2⟩
  ·have Hki := Lib.hid (IxR_no HK.out (fun j hj => Hp.out j (by omega)))
   go_wp2_with fail
   go_ret
   exact ⟨by rw [Hki.out]; rfl, hE⟩
theorem contains_rowCheck {w : World} {sa : Option Addr} {gb go cap : Nat} {vs : List Value} {p : Nat → Bool} (hS : Sl w sa gb go vs) (hl : vs.length ≤ 1000000)
  (hF : ∀ i (h : i < vs.length) W, Ext w W → Calls Tryz.prog 130 #[vs[i]] W fun e w' => e = .returned (.bool (p i)) ∧ Ext W w') :
  Calls Tryz.prog 129 #[.slice sa vs.length cap, .func (.func 130) #[] #[]] w fun e w' => e = .returned (.bool (anyB p vs.length)) ∧ Ext w w' := by
 obtain ⟨k, hk⟩ := IxR_ex p vs.length
 have Hge := Lib.hid (IxR_ge hk)
 have HI := Lib.hid (index_rowCheck (cap := cap) hS hl hF hk)
 clear hS hF hk
 go_enter Tryz.func129, Tryz.ntmps129
 go_wp2_with fail
 refine HI.out.mono ?_
 rintro e W ⟨rfl, hE⟩
 go_wp2_with fail
 go_ret
 exact ⟨by rw [← Hge.out]; rfl, hE⟩
def grt (z : Int) : Bool := decide (1000000000 < z ∨ z < -1000000000)
theorem great_any (z : Int) (w : World) : Calls Tryz.prog 285 #[.int .i64 z] w fun e w' => e = .returned (.bool (grt z)) ∧ Ext w w' := by
 by_cases h1 : 1000000000 < z
 ·have hg : grt z = true := decide_eq_true (.inl h1)
  rw [hg]; clear hg
  go_enter Tryz.func285, Tryz.ntmps285
  go_wp2
  go_ret
  exact ⟨rfl, Ext.refl _⟩
 ·have h2 : z ≤ 1000000000 := by omega
  by_cases h3 : z < -1000000000
  ·have hg : grt z = true := decide_eq_true (.inr h3)
   rw [hg]; clear hg
   go_enter Tryz.func285, Tryz.ntmps285
   go_wp2
   go_ret
   exact ⟨rfl, Ext.refl _⟩
  ·have h4 : -1000000000 ≤ z := by omega
   have hg : grt z = false := decide_eq_false (by omega)
   rw [hg]; clear hg
   go_enter Tryz.func285, Tryz.ntmps285
   go_wp2
   go_ret
   exact ⟨rfl, Ext.refl _⟩
def chkR (c : Nat) (r : List Int) : Int := if 12 < r.length then 4 else if r.length ≠ c then 5 else if r.any grt then 4 else 0
def chk (c : Nat) : Mx → Int
 | [] => 0
 | r :: M => if chkR c r = 0 then chk c M else chkR c r
def checkM (M : Mx) : Int := if 12 < M.length then 4 else chk (M.getD 0 []).length M
theorem chk_at (c : Nat) : ∀ (M : Mx) (i : Nat) (h : i < M.length), (∀ j (hj : j < i), chkR c (M[j]'(by omega)) = 0) → chkR c M[i] ≠ 0 → chk c M = chkR c M[i]
 | [], _, h, _, _ => by simp at h
 | r :: M, 0, _, _, hne => by simp only [List.getElem_cons_zero] at hne ⊢; rw [chk, if_neg hne]
 | r :: M, i + 1, h, hz, hne => by
  rw [chk, if_pos (show chkR c r = 0 from hz 0 (by omega))]
  exact chk_at c M i (by simpa using h) (fun j hj => hz (j + 1) (by omega)) hne
theorem chk_all (c : Nat) : ∀ (M : Mx), (∀ j (hj : j < M.length), chkR c M[j] = 0) → chk c M = 0
 | [], _ => rfl
 | r :: M, hz => by
  rw [chk, if_pos (show chkR c r = 0 from hz 0 (by simp))]
  exact chk_all c M (fun j hj => hz (j + 1) (by simpa using hj))
theorem chk_ok {c : Nat} : ∀ {M : Mx}, chk c M = 0 → ∀ r ∈ M, chkR c r = 0
 | [], _, r, hr => by cases hr
 | r :: M, h, x, hx => by
  rw [chk] at h
  split at h
  ·rcases List.mem_cons.1 hx with rfl | hx
   ·assumption
   ·exact chk_ok h x hx
  ·exact absurd h ‹_›
theorem chkR_ok {c : Nat} {r : List Int} (h : chkR c r = 0) : r.length ≤ 12 ∧ r.length = c ∧ ∀ z ∈ r, -1000000000 ≤ z ∧ z ≤ 1000000000 := by
 unfold chkR at h
 split at h
 ·cases h
 ·split at h
  ·cases h
  ·split at h
   ·cases h
   ·rename_i h1 h2 h3
    refine ⟨by omega, by omega, fun z hz => ?_⟩
    have : grt z = false := by
     cases hg : grt z
     ·rfl
     ·exact absurd (List.any_eq_true.2 ⟨z, hz, hg⟩) h3
    unfold grt at this
    have := of_decide_eq_false this
    omega
def ncols (M : Mx) : Nat := (M.getD 0 []).length
theorem checkM_ok {M : Mx} (h : checkM M = 0) : M.length ≤ 12 ∧ ncols M ≤ 12 ∧ Rect (ncols M) M ∧ ∀ r ∈ M, ∀ z ∈ r, -1000000000 ≤ z ∧ z ≤ 1000000000 := by
 unfold checkM at h
 split at h
 ·cases h
 ·have hr := fun r hr => chkR_ok (chk_ok h r hr)
  refine ⟨by omega, ?_, fun r h' => (hr r h').2.1, fun r h' => (hr r h').2.2⟩
  cases M with
  | nil => simp [ncols]
  | cons r M => exact (hr r (by simp)).1
theorem any_grt (r : List Int) : anyB (fun i => grt (r.getD i 0)) r.length = r.any grt := by
 cases h : r.any grt
 ·refine anyB_no fun i hi => ?_
  rw [getD_get hi]
  cases hg : grt r[i]
  ·rfl
  ·rw [List.any_eq_true.2 ⟨_, List.getElem_mem hi, hg⟩] at h; cases h
 ·obtain ⟨z, hz, hg⟩ := List.any_eq_true.1 h
  obtain ⟨i, hi, rfl⟩ := List.getElem_of_mem hz
  exact anyB_iff.2 ⟨i, hi, by rw [getD_get hi]; exact hg⟩
set_option maxHeartbeats 1000000 in
theorem tableCheck_any {w : World} {v : Value} {M : Mx} (hM : MatR w v M) :
  Calls Tryz.prog 236 #[v] w fun e w' => e = .returned (.int .i64 (checkM M)) ∧ Ext w w' := by
 obtain ⟨sa, gb, go, cap, vs, rfl, hcap, hvl, hS, hr⟩ := hM
 by_cases hbig : 12 < M.length
 ·have hbi : (12 : Int) < (M.length : Int) := by omega
  have he : checkM M = 4 := by unfold checkM; rw [if_pos hbig]
  rw [he]
  clear he hS hr hvl
  go_enter Tryz.func236, Tryz.ntmps236
  go_wp2_with fail
  go_ret
  exact ⟨rfl, Ext.refl _⟩
 have he : checkM M = chk (M.getD 0 []).length M := by unfold checkM; rw [if_neg hbig]
 rw [he]
 have hml : M.length ≤ 12 := by omega
 have hmi : (M.length : Int) ≤ 12 := by omega
 have HS := Lib.hid hS
 have HV := Lib.hid hvl
 have HR := Lib.hid hr
 clear hS hvl hr he hbig
 go_enter Tryz.func236, Tryz.ntmps236
 go_wp2_with fail
 go_loopw [10] (fun idx wr => ∃ i : Nat, i ≤ M.length ∧ idx = .int .i64 i ∧ Hid (∀ j (h : j < M.length), j < i → chkR (M.getD 0 []).length M[j] = 0) ∧ Ext w wr) (fun idx _ => M.length - (intOf idx).toNat)
 case atStart => exact ⟨0, by omega, by go_num, Lib.hid (fun j _ h => by omega), Ext.refl _⟩
 case round =>
  obtain ⟨i, hi, rfl, Hz, hE⟩ := hrel
  generalize wr = X at *
  by_cases hlt : i < M.length
  ·have hii : (i : Int) < (M.length : Int) := by omega
   have hi0 : 0 < M.length := by omega
   obtain rfl := HS.out.addr (by rw [HV.out]; omega)
   obtain ⟨sr, br, or, cr, hrow, hrc, hSr⟩ := MatR.row HS.out HV.out HR.out hlt
   obtain ⟨s0, b0, o0, c0, hrow0, hrc0, hS0⟩ := MatR.row HS.out HV.out HR.out hi0
   have hrow' := hE.cell hrow
   have hrow0' := hE.cell hrow0
   rw [Nat.add_zero] at hrow0'
   obtain ⟨c, hc⟩ : ∃ c, c = (M.getD 0 []).length := ⟨_, rfl⟩
   have hc0 : M[0].length = c := by rw [hc, getD_get hi0]
   rw [hc0] at hrow0'
   obtain ⟨n, hn⟩ : ∃ n, n = M[i].length := ⟨_, rfl⟩
   rw [← hn] at hrow'
   have HC := Lib.hid hc
   have Hn := Lib.hid hn
   have hat : chkR c M[i] ≠ 0 → chk (M.getD 0 []).length M = chkR c M[i] := fun h => by
    rw [hc]
    exact chk_at _ M i hlt (fun j hj => Hz.out j (by omega) hj) (by rw [← hc]; exact h)
   have Hat := Lib.hid hat
   clear hrow hrow0 hrc0 hS0 hc hc0 hn hat
   by_cases h12 : 12 < n
   ·have h12i : (12 : Int) < (n : Int) := by omega
    have hch : chkR c M[i] = 4 := by unfold chkR; rw [← Hn.out, if_pos h12]
    have Hch := Lib.hid hch
    clear hch
    go_wp2_with fail
    go_ret
    exact ⟨by rw [Hat.out (by rw [Hch.out]; decide), Hch.out]; rfl, hE⟩
   ·have h12i : (n : Int) ≤ 12 := by omega
    have h12d : decide ((12 : Int) < (n : Int)) = false := decide_eq_false (by omega)
    by_cases hnc : n = c
    ·subst hnc
     have hgr := Lib.hid (contains_great (cap := cr) (p := fun k => grt (M[i].getD k 0)) (vs := is M[i]) (w := X) ((hSr.ext hE)) (by rw [is_length, ← Hn.out]; omega) (fun k hk W hW => by
      have hk' : k < M[i].length := by simpa using hk
      have e : (is M[i])[k] = .int .i64 M[i][k] := by simp [is]
      rw [e, getD_get hk']
      exact great_any M[i][k] W))
     rw [is_length, any_grt, ← Hn.out] at hgr
     cases hg : M[i].any grt
     ·rw [hg] at hgr
      have Hg := Lib.hid hg
      clear hg h12
      go_wp2_with fail
      refine hgr.out.mono ?_
      rintro e W ⟨rfl, hW⟩
      go_wp2_with fail
      go_roundw
      case rel => exact ⟨i + 1, by omega, by go_num, Lib.hid (fun j h hj => by
       by_cases e : j = i
       ·subst e; rw [← HC.out]; unfold chkR; rw [← Hn.out, if_neg (by omega), if_neg (by omega), Hg.out]; rfl
       ·exact Hz.out j h (by omega)), hE.trans hW⟩
      case measure => simp [intOf] <;> omega
     ·rw [hg] at hgr
      have hch : chkR n M[i] = 4 := by unfold chkR; rw [← Hn.out, if_neg (by omega), if_neg (by omega), hg]; rfl
      have Hch := Lib.hid hch
      clear hg h12 hch
      go_wp2_with fail
      refine hgr.out.mono ?_
      rintro e W ⟨rfl, hW⟩
      go_wp2_with fail
      go_ret
      exact ⟨by rw [Hat.out (by rw [Hch.out]; decide), Hch.out]; rfl, hE.trans hW⟩
    ·have hch : chkR c M[i] = 5 := by unfold chkR; rw [← Hn.out, if_neg h12, if_pos hnc]
     have Hch := Lib.hid hch
     have hnb : ((n : Int) == (c : Int)) = false := beq_eq_false_iff_ne.2 (by omega)
     have hnb2 : ((n : Int) != (c : Int)) = true := by simp [bne, hnb]
     have hnc' : ¬ (n : Int) = (c : Int) := by omega
     clear hch hnc h12
     go_wp2_with fail
     go_ret
     exact ⟨by rw [Hat.out (by rw [Hch.out]; decide), Hch.out]; rfl, hE⟩
  ·have Hch := Lib.hid (chk_all (M.getD 0 []).length M (fun j h => Hz.out j h (by omega)))
   go_wp2_with fail
   go_ret
   exact ⟨by rw [Hch.out]; rfl, hE⟩
theorem Tryz.infoInt : (Tryz.prog.info? 3).map (fun i => (i.zero, i.size, i.bytes)) = some (some (.int .i64 0), 1, 8) := by kernel_rfl
def smallB (l : List Int) : Bool := l.all fun z => !grt z
theorem smallB_iff {l : List Int} : smallB l = true ↔ ∀ z ∈ l, -1000000000 ≤ z ∧ z ≤ 1000000000 := by
 unfold smallB
 rw [List.all_eq_true]
 constructor
 ·intro h z hz
  have := h z hz
  unfold grt at this
  simp only [Bool.not_eq_true', decide_eq_false_iff_not] at this
  omega
 ·intro h z hz
  have := h z hz
  unfold grt
  simp only [Bool.not_eq_true', decide_eq_false_iff_not]
  omega
def RowO (B : Nat) (w : World) (v : Value) (r : List Int) : Prop := ∃ g cap, v = slv g r.length cap ∧ OwnV 3 B w g cap (is r)
theorem RowO.row {B : Nat} {w : World} {v : Value} {r : List Int} (h : RowO B w v r) : RowR w v r := by
 obtain ⟨g, cap, e, ho⟩ := h
 have := ho.cap
 rw [is_length] at this
 exact ⟨_, g, 0, cap, e, this, ho.sl⟩
theorem RowO.ext {B : Nat} {w w' : World} {v : Value} {r : List Int} (h : RowO B w v r) (he : Ext w w') : RowO B w' v r := by
 obtain ⟨g, cap, e, ho⟩ := h; exact ⟨g, cap, e, ho.ext he⟩
def SmlPost (w : World) (l : List Int) (e : Ending) (w' : World) : Prop :=
 (if smallB l then ∃ v, e = .returned (.tuple #[v, .int .i64 0]) ∧ RowO w.heap.size w' v l else e = .returned (.tuple #[.slice none 0 0, .int .i64 4])) ∧ Ext w w'
theorem small_not {l : List Int} {i : Nat} (h : i < l.length) (hg : grt l[i] = true) : smallB l = false := by
 cases hs : smallB l
 ·rfl
 ·have := smallB_iff.1 hs _ (List.getElem_mem h)
  unfold grt at hg
  have := of_decide_eq_true hg
  omega
theorem small_yes {l : List Int} (h : ∀ j (hj : j < l.length), grt l[j] = false) : smallB l = true := by
 refine smallB_iff.2 fun z hz => ?_
 obtain ⟨j, hj, rfl⟩ := List.getElem_of_mem hz
 have := h j hj
 unfold grt at this
 have := of_decide_eq_false this
 omega
theorem is_take_snoc {l : List Int} {i : Nat} (h : i < l.length) : is (l.take (i + 1)) = is (l.take i) ++ [.int .i64 l[i]] := by
 rw [List.take_succ_eq_append_getElem h]; simp only [is, List.map_append, List.map_cons, List.map_nil]
theorem Tryz.infoRow : (Tryz.prog.info? 30).map (fun i => (i.zero, i.size, i.bytes)) = some (some (.slice none 0 0), 1, 24) := by kernel_rfl
def RowV (B : Nat) (w : World) (v : Value) (r : List Int) : Prop := w.ownsRow B 3 1 v r.length (is r)
theorem RowV.nil (B : Nat) (w : World) : RowV B w (.slice none 0 0) [] := ⟨rfl, .inl ⟨rfl, rfl⟩⟩
theorem RowV.ext {B : Nat} {w w' : World} {v : Value} {r : List Int} (h : RowV B w v r) (he : Ext w w') : RowV B w' v r := ownsRow_ext h he
theorem ownsRow_mono {w : World} {B B' : Nat} {e : TypeId} {size n : Nat} {v : Value} {xs : List Value} (h : w.ownsRow B e size v n xs) (hB : B' ≤ B) : w.ownsRow B' e size v n xs := by
 refine ⟨h.1, ?_⟩
 rcases h.2 with h' | ⟨g', cap', cur, h', hB', r⟩
 ·exact .inl h'
 ·exact .inr ⟨g', cap', cur, h', by omega, r⟩
theorem RowV.mono {B B' : Nat} {w : World} {v : Value} {r : List Int} (h : RowV B w v r) (hB : B' ≤ B) : RowV B' w v r := ownsRow_mono h hB
theorem RowO.v {B : Nat} {w : World} {v : Value} {r : List Int} (h : RowO B w v r) : RowV B w v r := by
 obtain ⟨g, cap, rfl, ho⟩ := h
 unfold RowV; have := ho; unfold OwnV at this; rw [is_length] at this; exact this
theorem RowV.row {B : Nat} {w : World} {v : Value} {r : List Int} (h : RowV B w v r) : RowR w v r := by
 rcases h.2 with ⟨rfl, h0⟩ | ⟨g, cap, cur, rfl, hb, hg, hn, hm, hs, ht⟩
 ·have : r = [] := by cases r with
   | nil => rfl
   | cons => simp at h0
  subst this
  exact ⟨none, 0, 0, 0, rfl, Nat.le_refl _, Sl.nil _ _ _ _⟩
 ·have ho : OwnV 3 B w g cap (is r) := by unfold OwnV; rw [is_length]; exact h
  exact ⟨_, g, 0, cap, rfl, hn, ho.sl⟩
theorem own_ne {B B' : Nat} {w : World} {T T' : TypeId} {size size' n n' : Nat} {u v : Value} {xs ys : List Value} (h : w.ownsRow B T size u n xs) (h' : w.ownsRow B' T' size' v n' ys) (hT : T ≠ T') {g : Nat} (hg : u.ownBlock = some g) : v.ownBlock ≠ some g := by
 intro e
 rcases h.2 with ⟨rfl, _⟩ | ⟨g1, cap, cur, rfl, _, hg1, _⟩
 ·cases hg
 ·rcases h'.2 with ⟨rfl, _⟩ | ⟨g2, cap2, cur2, rfl, _, hg2, _⟩
  ·cases e
  ·injection hg with hg; injection e with e
   subst hg; subst e
   rw [hg1] at hg2
   injection hg2 with hg2
   injection hg2 with _ h3
   exact hT h3
theorem own_kept {B B' : Nat} {w w' : World} {T T' : TypeId} {size size' n n' : Nat} {u v : Value} {xs ys : List Value} (h : w.ownsRow B T size u n xs) (h' : w.ownsRow B' T' size' v n' ys) (hT : T ≠ T') (hg : w.grownBy w' v.ownBlock) : w'.ownsRow B T size u n xs := by
 refine World.ownsRow.kept h hg ?_
 cases hu : u.ownBlock with
 | none => exact .inl rfl
 | some g => exact .inr (fun e => own_ne h h' hT hu e.symm)
theorem is_snoc (r : List Int) (z : Int) : is (r ++ [z]) = is r ++ [.int .i64 z] := by simp only [is, List.map_append, List.map_cons, List.map_nil]
section
variable {w : World} {ops : Array Oper} {rest : List Oper} {o : Oper} {a : Act} {Q : Exit → Act → World → Prop}
theorem app_int (hgd : o.guard = none) (s x : Operand) (t : TypeId) (ht : Tryz.prog.underlying t = some (.slice 3)) (ho : o.op = .call { callee := .builtin .append, args := #[s, x], argTypes := #[t, t] })
  {B : Nat} {v : Value} {r : List Int} (hs : a.eval s = v) (hown : RowV B w v r) {b : Nat} {z : Int} (hx : a.eval x = .slice (some ⟨b, 0, none⟩) 1 1) (hc : w.cell? ⟨b, 0, none⟩ = some (.int .i64 z)) (hl : r.length ≤ 1000000000) (hB : B ≤ w.heap.size)
  (h : ∀ g cap w', RowV B w' (slv g (r.length + 1) cap) (r ++ [z]) → Below B w w' → w.grownBy w' v.ownBlock → wpList Tryz.prog ops Q rest (a.put o.dst (slv g (r.length + 1) cap)) w') : wpList Tryz.prog ops Q (o :: rest) a w := by
 obtain ⟨i0, hi, hz0, hz1, hz2⟩ := info_parts Tryz.infoInt
 refine wpList_append_lies w hgd s x t ho B 3 i0 _ 1 8 ht hi hz0 hz1 hz2 rfl (by omega) v r.length (is r) hs hown ⟨b, 0, none⟩ 1 1 [.int .i64 z] hx rfl ?_ (one_int _ _) (by omega) (by unfold maxLen; omega) (by omega) hB w.heap.size rfl ?_
 ·intro j u hj
  have : j = 0 := by have := (List.getElem?_eq_some_iff.1 hj).1; simp at this; omega
  subst this
  simp only [List.getElem?_cons_zero, Option.some.injEq] at hj
  subst hj
  simpa [Addr.add_lit] using hc
 ·intro g cap w' h1 h2 h3 h4
  refine h g cap w' ?_ (Below.grown (Below.refl _ _) h2 hB (fun q hq => (World.ownsRow.lt hown q hq).1)) h2
  unfold RowV
  rw [is_snoc, List.length_append]; exact h1
def MatO (B : Nat) (w : World) (v : Value) (F : Mx) : Prop := ∃ vs, vs.length = F.length ∧ w.ownsRow B 30 1 v F.length vs ∧ ∀ t (_ : t < F.length) (h' : t < vs.length), RowV B w vs[t] F[t]
theorem MatO.nil (B : Nat) (w : World) : MatO B w (.slice none 0 0) [] := ⟨[], rfl, ⟨rfl, .inl ⟨rfl, rfl⟩⟩, fun t h => by simp at h⟩
theorem MatO.ext {B : Nat} {w w' : World} {v : Value} {F : Mx} (h : MatO B w v F) (he : Ext w w') : MatO B w' v F := by
 obtain ⟨vs, h1, h2, h3⟩ := h
 exact ⟨vs, h1, ownsRow_ext h2 he, fun t a b => (h3 t a b).ext he⟩
theorem MatO.mono {B B' : Nat} {w : World} {v : Value} {F : Mx} (h : MatO B w v F) (hB : B' ≤ B) : MatO B' w v F := by
 obtain ⟨vs, h1, h2, h3⟩ := h
 exact ⟨vs, h1, ownsRow_mono h2 hB, fun t a b => (h3 t a b).mono hB⟩
theorem MatO.mat {B : Nat} {w : World} {v : Value} {F : Mx} (h : MatO B w v F) : MatR w v F := by
 obtain ⟨vs, h1, h2, h3⟩ := h
 have hr : ∀ i (h : i < F.length) (h' : i < vs.length), RowR w vs[i] F[i] := fun i a b => (h3 i a b).row
 rcases h2.2 with ⟨rfl, h0⟩ | ⟨g, cap, cur, rfl, hb, hg, hn, hm, hs, ht⟩
 ·have : F = [] := List.eq_nil_of_length_eq_zero h0
  subst this
  have hv : vs = [] := List.eq_nil_of_length_eq_zero h1
  subst hv
  exact ⟨none, 0, 0, 0, [], rfl, Nat.le_refl _, rfl, Sl.nil _ _ _ _, hr⟩
 ·have ho : OwnV 30 B w g cap vs := by unfold OwnV; rw [h1]; exact h2
  exact ⟨_, g, 0, cap, vs, rfl, hn, h1, ho.sl, hr⟩
theorem RowV.one {B : Nat} {w : World} {v : Value} {r : List Int} (h : RowV B w v r) : v.oneCell' = true := by
 rcases h.2 with ⟨rfl, _⟩ | ⟨g, cap, cur, rfl, _⟩ <;> rfl
theorem app_mat (hgd : o.guard = none) (s x : Operand) (ho : o.op = .call { callee := .builtin .append, args := #[s, x], argTypes := #[32, 32] })
  {B : Nat} {v rv : Value} {F : Mx} {r : List Int} (hs : a.eval s = v) (hown : MatO B w v F) {b : Nat} (hx : a.eval x = .slice (some ⟨b, 0, none⟩) 1 1) (hc : w.cell? ⟨b, 0, none⟩ = some rv) (hr : RowV B w rv r) (hl : F.length ≤ 1000000000) (hB : B ≤ w.heap.size)
  (h : ∀ g cap w', MatO B w' (slv g (F.length + 1) cap) (F ++ [r]) → Below B w w' → w.grownBy w' v.ownBlock → wpList Tryz.prog ops Q rest (a.put o.dst (slv g (F.length + 1) cap)) w') : wpList Tryz.prog ops Q (o :: rest) a w := by
 obtain ⟨i0, hi, hz0, hz1, hz2⟩ := info_parts Tryz.infoRow
 obtain ⟨vs, h1, h2, h3⟩ := hown
 refine wpList_append_lies w hgd s x 32 ho B 30 i0 _ 1 24 Tryz.underlying32 hi hz0 hz1 hz2 rfl (by omega) v F.length vs hs h2 ⟨b, 0, none⟩ 1 1 [rv] hx rfl ?_ ?_ (by omega) (by unfold maxLen; omega) (by omega) hB w.heap.size rfl ?_
 ·intro j u hj
  have : j = 0 := by have := (List.getElem?_eq_some_iff.1 hj).1; simp at this; omega
  subst this
  simp only [List.getElem?_cons_zero, Option.some.injEq] at hj
  subst hj
  simpa [Addr.add_lit] using hc
 ·intro u hu
  simp only [List.mem_cons, List.not_mem_nil, or_false] at hu
  subst hu; exact hr.one
 ·intro g cap w' k1 k2 k3 k4
  have hkeep : ∀ {u : Value} {l : List Int}, RowV B w u l → RowV B w' u l := fun hu => own_kept hu h2 (by decide) k2
  refine h g cap w' ⟨vs ++ [rv], by simp [h1], ?_, fun t ht ht' => ?_⟩ (Below.grown (Below.refl _ _) k2 hB (fun q hq => (World.ownsRow.lt h2 q hq).1)) k2
  ·rw [List.length_append]; exact k1
  ·rcases Nat.lt_or_ge t F.length with hlt | hge
   ·rw [List.getElem_append_left (by omega), List.getElem_append_left hlt]
    exact hkeep (h3 t hlt (by omega))
   ·have hte : t = F.length := by simp at ht; omega
    subst hte
    rw [List.getElem_append_right (by omega), List.getElem_append_right (by omega)]
    simp only [h1, Nat.sub_self, List.getElem_cons_zero]
    exact hkeep hr
end
end Go.Proofs.YtjnpakablgommaaGreatDoor
