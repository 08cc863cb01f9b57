/- Part 11 of the proof of the claim: contracts of the functions that it reaches, and plain laws; no condition. -/
import Derived.Test.YtokjolmpdfmnbaaGreatDoorW10
import Derived.Laws.CopyOwn
import Derived.Deep.RegionLaw
import Derived.Test.YtokjolmpdfmnbaaGreatDoorW02
import Derived.Deep.RegionHeld3
import Derived.Deep.AppendLies
import Derived.Test.YtokjolmpdfmnbaaGreatDoorW01
namespace Go.Proofs.YtokjolmpdfmnbaaGreatDoor
open Go.RowKit Go.Sort
theorem Tryz.infoStr : (Tryz.prog.info? 94).map (fun i => (i.zero, i.size, i.bytes)) = some (some (.string ⟨#[]⟩), 1, 16) := by kernel_rfl
def fill (z : Int) (n m : Nat) : List Value := List.replicate n (I z) ++ List.replicate (m - n) (.string ⟨#[]⟩)
theorem fill_length (z : Int) {n m : Nat} (h : n ≤ m) : (fill z n m).length = m := by simp [fill]; omega
theorem fill_all (z : Int) (m : Nat) : fill z m m = ss (List.replicate m z) := by simp [fill, ss]
theorem fill_get (z : Int) {n m j : Nat} (h : j < n) : (fill z n m)[j]? = some (I z) := by
  unfold fill; rw [List.getElem?_append_left (by simpa using h)]; simp [h]
theorem fill_splice (z : Int) {n m k : Nat} (h : n + k ≤ m) : splice (fill z n m) n (List.replicate k (I z)) = fill z (n + k) m := by
  unfold splice fill
  rw [List.take_left' (by simp), List.length_replicate, List.drop_append, List.drop_of_length_le (by simp), List.nil_append, List.length_replicate, List.drop_replicate, ← List.append_assoc, List.replicate_append_replicate]
  congr 2
  omega
set_option maxRecDepth 100000 in
set_option maxHeartbeats 1000000 in
theorem repeat_any {m : Nat} (hm : m ≤ 1000000) {b o c : Nat} {z : Int} {w : World} (hc : w.cell? ⟨b, o, none⟩ = some (I z)) :
    Calls Tryz.prog 86 #[.slice (some ⟨b, o, none⟩) 1 c, .int .i64 m] w fun e w' => ∃ g cap, e = .returned (slv g m cap) ∧ OwnV 94 w.heap.size w' g cap (ss (List.replicate m z)) ∧ Ext w w' := by
  obtain ⟨i0, hi, hz0, hz1, hz2⟩ := info_parts Tryz.infoStr
  have hmul := Lib.hid (Tryz.bits_Mul 1 m (by omega) (by omega))
  rw [Nat.one_mul, Nat.div_eq_of_lt (by omega), Nat.mod_eq_of_lt (by omega)] at hmul
  go_enter Tryz.func86, Tryz.ntmps86
  go_wp2_with (first
    | (go_at_call 123; refine (hmul.out _).mono ?_; rintro e w1 ⟨rfl, hw⟩; have hw' := hw.symm; clear hw; subst hw')
    | (at_make; refine wpList_make_full _ rfl _ _ 99 rfl w.heap.size 94 i0 (.string ⟨#[]⟩) 1 Tryz.underlying99 hi hz0 hz1 .i64 .i64 _ _ m rfl rfl (by omega) (by omega) (by rw [hz2]; omega) (by unfold maxLen; omega) (Nat.le_refl _) ?_; intro w1 hown1 hgrow1))
  have he1 := ext_grown hgrow1
  have hb1 : w1.heap[w.heap.size]? = some (.cells (fill z 0 m).toArray 94 (0, 0)) := by
    have hO : OwnV 94 w.heap.size w1 w.heap.size m (fill z 0 m) := by
      have e : (madeCells (Value.string ⟨#[]⟩).cells (m * 1)).toList = fill z 0 m := by
        rw [show (Value.string ⟨#[]⟩).cells = #[.string ⟨#[]⟩] from rfl, toList_madeCells_one, Nat.mul_one]; simp [fill]
      rw [e] at hown1
      unfold OwnV; rw [fill_length z (Nat.zero_le m)]
      exact hown1
    obtain ⟨cur, _, h2, h3, _, h5, h6⟩ := hO.parts
    rw [fill_length z (Nat.zero_le m)] at h6
    have : cur = (fill z 0 m).toArray := by
      apply Array.ext'
      rw [← h6, List.take_of_length_le (by rw [Array.length_toList, h5]; exact Nat.le_refl _)]
    rw [this] at h2; exact h2
  have hc1 := he1.cell hc
  have hlb := World.block_lt_of_cell? _ _ hc
  have Hb1 := Lib.hid hb1
  have Hfl := Lib.hid (fun n (h : n ≤ m) => fill_length z h)
  clear hgrow1 hown1 hb1
  obtain ⟨g, hg⟩ : ∃ g, g = w.heap.size := ⟨_, rfl⟩
  have Hg := Lib.hid hg
  rw [← hg] at Hb1 hlb ⊢
  clear hg
  have hinfo : (Tryz.prog.info? 94).map (·.size) = some 1 := by rw [hi]; simp [hz1]
  have Hinfo := Lib.hid hinfo
  clear hinfo
  have hrun := run_copy_row (P := Tryz.prog) w1 99 99 3 94 g 0 m m ⟨b, o, none⟩ 1 c (fill z 0 m).toArray 94 (List.replicate (min 1 m) (I z)) Tryz.underlying99 Hinfo.out Hb1.out (by simp)
    (fun j v hj => by
      have hj0 : j = 0 := by have := (List.getElem?_eq_some_iff.1 hj).1; simp at this; omega
      subst hj0
      rw [List.getElem?_replicate] at hj
      split at hj
      · rw [← hj]; exact hc1
      · cases hj) (by simp [Hfl.out 0 (Nat.zero_le m)]; omega) (fun v hv => by rw [List.mem_replicate] at hv; rw [hv.2]; rfl)
  have hsp := fill_splice z (n := 0) (m := m) (k := min 1 m) (by omega)
  unfold splice at hsp
  rw [show ((fill z 0 m).toArray.toList.take 0 ++ List.replicate (min 1 m) (I z) ++ (fill z 0 m).toArray.toList.drop (0 + (List.replicate (min 1 m) (I z)).length)) = fill z (0 + min 1 m) m by rw [← hsp]; simp] at hrun
  rw [Nat.zero_add, List.length_replicate] at hrun
  have Hrun := Lib.hid hrun
  clear hrun hsp
  go_wp2_with fail
  rw [Hrun.out]
  have he2 : Ext w (w1.setRow g (fill z (min 1 m) m).toArray) := below_setRow he1 (by rw [Hg.out]; exact Nat.le_refl _) _
  have hb2 : (w1.setRow g (fill z (min 1 m) m).toArray).heap[g]? = some (.cells (fill z (min 1 m) m).toArray 94 (0, 0)) := setRow_heap w1 g _ _ 94 _ Hb1.out
  have Hb2 := Lib.hid hb2
  clear Hrun Hb1 hb2
  generalize w1.setRow g (fill z (min 1 m) m).toArray = w2 at *
  obtain ⟨q, hq⟩ : ∃ q, q = min 1 m := ⟨_, rfl⟩
  have Hq := Lib.hid hq
  rw [← hq] at Hb2 ⊢
  have hqm : q ≤ m := by omega
  have hq1 : 0 < m → 0 < q := fun h => by omega
  have Hq1 := Lib.hid hq1
  clear hq hq1
  go_wp2_with fail
  go_loopw [8] (fun nn wr => ∃ n : Nat, n ≤ m ∧ nn = .int .i64 n ∧ Hid (0 < m → 0 < n) ∧ Hid (wr.heap[g]? = some (.cells (fill z n m).toArray 94 (0, 0))) ∧ Ext w wr) (fun nn _ => m - (intOf nn).toNat)
  case atStart => exact ⟨q, hqm, by go_num, Hq1, Hb2, he2⟩
  case round =>
    obtain ⟨n, hn, rfl, Hn, Hb, hE⟩ := hrel
    generalize wr = X at *
    by_cases hlt : n < m
    · have hni : (n : Int) < (m : Int) := by omega
      have hn0 : 0 < n := Hn.out (by omega)
      obtain ⟨k, hk⟩ : ∃ k, k = min n (m - n) := ⟨_, rfl⟩
      have hk0 : 0 < k := by omega
      have hkm : n + k ≤ m := by omega
      have Hk := Lib.hid hk
      have Hsp := Lib.hid (fill_splice z hkm)
      clear hk
      have hmn : ¬ m = n := by omega
      have Hb5 := Lib.hid (show X.drew.heap[g]? = some (.cells (fill z n m).toArray 94 (0, 0)) from Hb.out)
      have hE6 := hE.drew
      have hrun := run_copy_row (P := Tryz.prog) X.drew 99 99 3 94 g n (m - n) (m - n) ⟨g, 0, none⟩ n m (fill z n m).toArray 94 (List.replicate k (I z)) Tryz.underlying99 Hinfo.out Hb5.out (by rw [List.length_replicate, Hk.out])
        (fun j v hj => by
          have hj0 : j < k := by have := (List.getElem?_eq_some_iff.1 hj).1; simpa using this
          have hjn : j < n := by have := Hk.out; omega
          rw [List.getElem?_replicate, if_pos hj0] at hj
          rw [← hj]
          simp only [Addr.add_lit, Nat.zero_add, World.cell?, Hb5.out]
          have := fill_get z (m := m) hjn
          simpa using this) (by simp only [List.size_toArray, Hfl.out n hn, List.length_replicate]; exact hkm) (fun v hv => by rw [List.mem_replicate] at hv; rw [hv.2]; rfl)
      have hsp := Hsp.out
      unfold splice at hsp
      rw [show ((fill z n m).toArray.toList.take n ++ List.replicate k (I z) ++ (fill z n m).toArray.toList.drop (n + (List.replicate k (I z)).length)) = fill z (n + k) m by rw [← hsp]; simp, List.length_replicate] at hrun
      have hE7 : Ext w (X.drew.setRow g (fill z (n + k) m).toArray) := below_setRow hE6 (by rw [Hg.out]; exact Nat.le_refl _) _
      have Hb7 := Lib.hid (setRow_heap X.drew g _ (fill z (n + k) m).toArray 94 _ Hb5.out)
      obtain ⟨Y, hY⟩ : ∃ Y, Y = X.drew.setRow g (fill z (n + k) m).toArray := ⟨_, rfl⟩
      rw [← hY] at hrun hE7 Hb7
      clear hsp hY hE6 Hb5
      go_wp2_with fail
      go_region
      clear hrun
      go_wp2_with fail
      go_roundw
      case rel => exact ⟨n + k, hkm, by go_num, Lib.hid (fun _ => by omega), Hb7, hE7⟩
      case measure => simp [intOf] <;> omega
    · have hnm : n = m := by omega
      subst hnm
      go_wp2_with fail
      go_ret
      refine ⟨g, n, rfl, ?_, hE⟩
      refine OwnV.of (by rw [Hg.out]; exact Nat.le_refl _) Hb.out (by simp) (by unfold maxLen; omega) (by simp [Hfl.out n hn]) ?_
      rw [fill_all]; exact List.take_of_length_le (by simp)
end Go.Proofs.YtokjolmpdfmnbaaGreatDoor
namespace Go.Proofs.YtokjolmpdfmnbaaGreatDoor
open Go.RowKit Go.Sort
theorem grown_frozen_cell {w w' : World} {g b o : Nat} {v : Value} (h : w.grownBy w' (some g)) (hne : b ≠ g) (hc : w.cell? ⟨b, o, none⟩ = some v) : w'.cell? ⟨b, o, none⟩ = some v := by
  have hb : b < w.heap.size := World.block_lt_of_cell? _ _ hc
  have := h.block b hb (by simpa using hne)
  unfold World.cell? at *
  rw [this]; exact hc
theorem I_inj {a b : Int} (h : I a = I b) : a = b := by
  refine itoa_inj ?_
  unfold I S at h
  injection h with h
  have := congrArg (fun b : ByteArray => b.data.toList) h
  simpa using this
def negTo (j : Nat) (l : List Int) : List Int := (l.take j).map (fun z => -z) ++ l.drop j
theorem negTo_zero (l : List Int) : negTo 0 l = l := by simp [negTo]
theorem negTo_all (l : List Int) : negTo l.length l = l.map (fun z => -z) := by simp [negTo]
@[simp] theorem negTo_length (j : Nat) (l : List Int) : (negTo j l).length = l.length := by simp [negTo]; omega
theorem negTo_get {j : Nat} {l : List Int} (h : j < l.length) : (negTo j l)[j]'(by simpa using h) = l[j] := by
  unfold negTo
  rw [List.getElem_append_right (by simp; omega)]
  simp [Nat.min_eq_left (Nat.le_of_lt h)]
theorem negTo_step {j : Nat} {l : List Int} (h : j < l.length) : negTo (j + 1) l = (negTo j l).set j (-l[j]) := by
  unfold negTo
  rw [List.set_append_right _ _ (by simp; omega)]
  rw [List.take_add_one, List.map_append, List.append_assoc]
  congr 1
  rw [List.getElem?_eq_getElem h]
  simp only [Option.toList_some, List.map_cons, List.map_nil, List.length_map, List.length_take, Nat.min_eq_left (Nat.le_of_lt h), Nat.sub_self]
  conv => rhs; rw [List.drop_eq_getElem_cons h]
  rfl
end Go.Proofs.YtokjolmpdfmnbaaGreatDoor
namespace Go.Proofs.YtokjolmpdfmnbaaGreatDoor
open Go.RowKit Go.Sort
structure Ad where
  gx : Nat
  cx : Nat
  gy : Nat
  cy : Nat
  deriving Inhabited
structure Lns (B : Nat) (w : World) (g : Nat) (ad : List Ad) (ls : List Ln) : Prop where
  len : ad.length = ls.length
  base : B ≤ g
  lt : g < w.heap.size
  fz : ∀ o, w.frozen? ⟨g, o, none⟩ = false
  hx : ∀ i (h : i < ls.length) (h' : i < ad.length), w.cell? ⟨g, 2 * i, none⟩ = some (slv ad[i].gx ls[i].1.length ad[i].cx)
  hy : ∀ i (h : i < ls.length) (h' : i < ad.length), w.cell? ⟨g, 2 * i + 1, none⟩ = some (slv ad[i].gy ls[i].2.length ad[i].cy)
  x : ∀ i (h : i < ls.length) (h' : i < ad.length), OwnV 94 B w ad[i].gx ad[i].cx (ss ls[i].1)
  y : ∀ i (h : i < ls.length) (h' : i < ad.length), OwnV 94 B w ad[i].gy ad[i].cy (ss ls[i].2)
  own : ∀ i (h : i < ad.length), ad[i].gx ≠ g ∧ ad[i].gy ≠ g ∧ ad[i].gx ≠ ad[i].gy
  dis : ∀ i j (hi : i < ad.length) (hj : j < ad.length), i ≠ j → ad[i].gx ≠ ad[j].gx ∧ ad[i].gx ≠ ad[j].gy ∧ ad[i].gy ≠ ad[j].gx ∧ ad[i].gy ≠ ad[j].gy
theorem Lns.ext {B : Nat} {w w' : World} {g : Nat} {ad : List Ad} {ls : List Ln} (h : Lns B w g ad ls) (he : Ext w w') : Lns B w' g ad ls where
  len := h.len
  base := h.base
  lt := Nat.lt_of_lt_of_le h.lt he.size
  fz := fun o => by rw [he.frozen h.lt]; exact h.fz o
  hx := fun i a b => he.cell (h.hx i a b)
  hy := fun i a b => he.cell (h.hy i a b)
  x := fun i a b => (h.x i a b).ext he
  y := fun i a b => (h.y i a b).ext he
  own := h.own
  dis := h.dis
theorem Chg.frozen {R : Nat → Prop} {a b : World} (h : Chg R a b) {g o : Nat} (hg : ¬ R g) (hl : g < a.heap.size) : b.frozen? ⟨g, o, none⟩ = a.frozen? ⟨g, o, none⟩ := by
  have := h.block g hl hg
  unfold World.frozen?
  rw [this]
theorem Lns.wrote {B : Nat} {w w' : World} {g : Nat} {ad : List Ad} {ls : List Ln} (h : Lns B w g ad ls) {i : Nat} (hi : i < ad.length) (hi' : i < ls.length) {l : Ln} (e1 : l.1.length = ls[i].1.length) (e2 : l.2.length = ls[i].2.length)
    (hX : OwnV 94 B w' ad[i].gx ad[i].cx (ss l.1)) (hY : OwnV 94 B w' ad[i].gy ad[i].cy (ss l.2)) (hC : Chg (fun k => k = ad[i].gx ∨ k = ad[i].gy) w w') : Lns B w' g ad (ls.set i l) := by
  have hown := h.own i hi
  have hg : ¬ (g = ad[i].gx ∨ g = ad[i].gy) := by rintro (e | e); exact hown.1 e.symm; exact hown.2.1 e.symm
  refine ⟨by rw [List.length_set]; exact h.len, h.base, Nat.lt_of_lt_of_le h.lt hC.size, fun o => by rw [hC.frozen hg h.lt]; exact h.fz o, ?_, ?_, ?_, ?_, h.own, h.dis⟩
  · intro j hj hj'
    rw [List.length_set] at hj
    have := hC.cell hg (h.hx j hj hj')
    by_cases hij : i = j
    · subst hij; simp only [List.getElem_set_self]; rw [e1]; exact this
    · simp only [List.getElem_set_ne hij]; exact this
  · intro j hj hj'
    rw [List.length_set] at hj
    have := hC.cell hg (h.hy j hj hj')
    by_cases hij : i = j
    · subst hij; simp only [List.getElem_set_self]; rw [e2]; exact this
    · simp only [List.getElem_set_ne hij]; exact this
  · intro j hj hj'
    rw [List.length_set] at hj
    by_cases hij : i = j
    · subst hij; simp only [List.getElem_set_self]; exact hX
    · simp only [List.getElem_set_ne hij]
      have d := h.dis j i hj' hi (Ne.symm hij)
      exact hC.own (by rintro (e | e); exact d.1 e; exact d.2.1 e) (h.x j hj hj')
  · intro j hj hj'
    rw [List.length_set] at hj
    by_cases hij : i = j
    · subst hij; simp only [List.getElem_set_self]; exact hY
    · simp only [List.getElem_set_ne hij]
      have d := h.dis j i hj' hi (Ne.symm hij)
      exact hC.own (by rintro (e | e); exact d.2.2.1 e; exact d.2.2.2 e) (h.y j hj hj')
end Go.Proofs.YtokjolmpdfmnbaaGreatDoor
namespace Go.Proofs.YtokjolmpdfmnbaaGreatDoor
open Go.RowKit Go.Sort
theorem nd_lt2 {z : Int} {E : Nat} (h : z.natAbs < 2 ^ E) : nd z ≤ E + 1 := by
  refine nDigits_le (Nat.lt_of_lt_of_le h ?_) (by omega)
  exact Nat.le_trans (Nat.pow_le_pow_left (by omega) E) (Nat.pow_le_pow_right (by omega) (by omega))
theorem Lns.ln {B : Nat} {w : World} {g n m d i o c : Nat} {ad : List Ad} {ls : List Ln} (h : Lns B w g ad ls) (hd : Dim n m ls) (hi : d + i < ls.length) (ho : o = 2 * d + i * 2) (hc : c < n) :
    ∃ (gx cx gy cy : Nat), ad[d + i]? = some ⟨gx, cx, gy, cy⟩ ∧ w.cell? ⟨g, o, none⟩ = some (slv gx n cx) ∧ w.cell? ⟨g, o + 1, none⟩ = some (slv gy m cy)
      ∧ w.cell? ⟨gx, c, none⟩ = some (I (cols c d ls i)) ∧ OwnV 94 B w gx cx (ss (ls.getD (d + i) default).1) ∧ OwnV 94 B w gy cy (ss (ls.getD (d + i) default).2) ∧ gx ≠ g ∧ gy ≠ g ∧ gx ≠ gy := by
  have hi' : d + i < ad.length := by rw [h.len]; exact hi
  have hh := hd.get hi
  have e := getD_get hi default
  have hX := h.x (d + i) hi hi'
  have ho' : o = 2 * (d + i) := by omega
  subst ho'
  refine ⟨ad[d + i].gx, ad[d + i].cx, ad[d + i].gy, ad[d + i].cy, by rw [List.getElem?_eq_getElem hi'], ?_, ?_, ?_, ?_, ?_, (h.own _ hi').1, (h.own _ hi').2.1, (h.own _ hi').2.2⟩
  · have := h.hx (d + i) hi hi'; rwa [hh.1] at this
  · have := h.hy (d + i) hi hi'; rwa [hh.2] at this
  · rw [hX.cell (j := c) (by simp; omega)]
    unfold cols col
    rw [e, getD_get (by omega)]
    simp [ss]
  · rw [e]; exact hX
  · rw [e]; exact h.y (d + i) hi hi'
def swpA (ad : List Ad) (i j : Nat) : List Ad := (ad.set i (ad.getD j default)).set j (ad.getD i default)
@[simp] theorem swpA_length (ad : List Ad) (i j : Nat) : (swpA ad i j).length = ad.length := by simp [swpA]
def sg (i j t : Nat) : Nat := if t = j then i else if t = i then j else t
theorem sg_lt {i j t n : Nat} (hi : i < n) (hj : j < n) (ht : t < n) : sg i j t < n := by unfold sg; split <;> (try split) <;> omega
theorem sg_inj {i j t u : Nat} (h : sg i j t = sg i j u) : t = u := by unfold sg at h; split at h <;> split at h <;> (try split at h) <;> (try split at h) <;> omega
theorem swp_get {ls : List Ln} {i j : Nat} (hi : i < ls.length) (hj : j < ls.length) {t : Nat} (ht : t < (swp ls i j).length) : (swp ls i j)[t] = ls[sg i j t]'(sg_lt hi hj (by simpa using ht)) := by
  have := swp_getD ls hi hj t
  rw [getD_get ht] at this
  rw [this]
  unfold sg
  split
  · rw [getD_get hi]
  · split
    · rw [getD_get hj]
    · rw [getD_get (by simpa using ht)]
theorem swpA_get {ad : List Ad} {i j : Nat} (hi : i < ad.length) (hj : j < ad.length) {t : Nat} (ht : t < (swpA ad i j).length) : (swpA ad i j)[t] = ad[sg i j t]'(sg_lt hi hj (by simpa using ht)) := by
  have : (swpA ad i j).getD t default = if t = j then ad.getD i default else if t = i then ad.getD j default else ad.getD t default := by
    unfold swpA
    rw [getD_set _ _ _ _ _ (by simpa using hj), getD_set _ _ _ _ _ hi]
  rw [getD_get ht] at this
  rw [this]
  unfold sg
  split
  · rw [getD_get hi]
  · split
    · rw [getD_get hj]
    · rw [getD_get (by simpa using ht)]
theorem Lns.swapped {B : Nat} {w w' : World} {g : Nat} {ad : List Ad} {ls : List Ln} (h : Lns B w g ad ls) {i j : Nat} (hi : i < ls.length) (hj : j < ls.length) (hG : w.grownBy w' (some g)) (hf : ∀ o, w'.frozen? ⟨g, o, none⟩ = false)
    (hc : ∀ t, t < ls.length → w'.cell? ⟨g, 2 * t, none⟩ = w.cell? ⟨g, 2 * sg i j t, none⟩ ∧ w'.cell? ⟨g, 2 * t + 1, none⟩ = w.cell? ⟨g, 2 * sg i j t + 1, none⟩) : Lns B w' g (swpA ad i j) (swp ls i j) := by
  have hai : i < ad.length := by rw [h.len]; exact hi
  have haj : j < ad.length := by rw [h.len]; exact hj
  have hs : ∀ t, t < ls.length → sg i j t < ls.length := fun t ht => sg_lt hi hj ht
  have hsa : ∀ t, t < ls.length → sg i j t < ad.length := fun t ht => by rw [h.len]; exact hs t ht
  refine ⟨by simp [h.len], h.base, Nat.lt_of_lt_of_le h.lt hG.size, hf, fun t a b => ?_, fun t a b => ?_, fun t a b => ?_, fun t a b => ?_, fun t a => ?_, fun t u a b htu => ?_⟩
  · have ht : t < ls.length := by simpa using a
    rw [(hc t ht).1, swpA_get hai haj b, swp_get hi hj a]; exact h.hx _ (hs t ht) (hsa t ht)
  · have ht : t < ls.length := by simpa using a
    rw [(hc t ht).2, swpA_get hai haj b, swp_get hi hj a]; exact h.hy _ (hs t ht) (hsa t ht)
  · have ht : t < ls.length := by simpa using a
    rw [swpA_get hai haj b, swp_get hi hj a]; exact (h.x _ (hs t ht) (hsa t ht)).other hG (h.own _ (hsa t ht)).1
  · have ht : t < ls.length := by simpa using a
    rw [swpA_get hai haj b, swp_get hi hj a]; exact (h.y _ (hs t ht) (hsa t ht)).other hG (h.own _ (hsa t ht)).2.1
  · have ht : t < ls.length := by rw [← h.len]; simpa using a
    rw [swpA_get hai haj a]; exact h.own _ (hsa t ht)
  · have ht : t < ls.length := by rw [← h.len]; simpa using a
    have hu : u < ls.length := by rw [← h.len]; simpa using b
    rw [swpA_get hai haj a, swpA_get hai haj b]
    exact h.dis _ _ (hsa t ht) (hsa u hu) (fun e => htu (sg_inj e))
theorem grown_set (w : World) (b i : Nat) (v : Value) : w.grownBy (w.setCell ⟨b, i, none⟩ v) (some b) :=
  ⟨rfl, rfl, rfl, by simp [World.setCell], fun k _ hk => Below.heap_setCell _ _ _ _ (fun e => hk (by simp [e]))⟩
theorem Lns.swap4 {B : Nat} {w : World} {g n m d p o gx cx gy cy gxp cxp gyp cyp : Nat} {ad : List Ad} {ls : List Ln} (h : Lns B w g ad ls) (hp0 : 0 < p) (hl : d + p < ls.length) (ho : 2 * d + p * 2 = o)
    (c1 : w.cell? ⟨g, 2 * d, none⟩ = some (slv gx n cx)) (c2 : w.cell? ⟨g, 2 * d + 1, none⟩ = some (slv gy m cy)) (c1p : w.cell? ⟨g, o, none⟩ = some (slv gxp n cxp)) (c2p : w.cell? ⟨g, o + 1, none⟩ = some (slv gyp m cyp)) :
    Lns B ((((w.setCell ⟨g, 2 * d, none⟩ (slv gxp n cxp)).setCell ⟨g, 2 * d + 1, none⟩ (slv gyp m cyp)).setCell ⟨g, o, none⟩ (slv gx n cx)).setCell ⟨g, o + 1, none⟩ (slv gy m cy)) g (swpA ad d (d + p)) (swp ls d (d + p))
      ∧ w.grownBy ((((w.setCell ⟨g, 2 * d, none⟩ (slv gxp n cxp)).setCell ⟨g, 2 * d + 1, none⟩ (slv gyp m cyp)).setCell ⟨g, o, none⟩ (slv gx n cx)).setCell ⟨g, o + 1, none⟩ (slv gy m cy)) (some g) := by
  have ne : ∀ {a b : Nat}, a ≠ b → (⟨g, a, none⟩ : Addr) ≠ ⟨g, b, none⟩ := fun h e => h (by injection e)
  obtain ⟨w1, e1⟩ : ∃ w1, w1 = w.setCell ⟨g, 2 * d, none⟩ (slv gxp n cxp) := ⟨_, rfl⟩
  obtain ⟨w2, e2⟩ : ∃ w2, w2 = w1.setCell ⟨g, 2 * d + 1, none⟩ (slv gyp m cyp) := ⟨_, rfl⟩
  obtain ⟨w3, e3⟩ : ∃ w3, w3 = w2.setCell ⟨g, o, none⟩ (slv gx n cx) := ⟨_, rfl⟩
  obtain ⟨w4, e4⟩ : ∃ w4, w4 = w3.setCell ⟨g, o + 1, none⟩ (slv gy m cy) := ⟨_, rfl⟩
  rw [← e1, ← e2, ← e3, ← e4]
  have hG : w.grownBy w4 (some g) := by
    rw [e4, e3, e2, e1]
    exact grown_trans (grown_trans (grown_trans (grown_set _ _ _ _) (grown_set _ _ _ _)) (grown_set _ _ _ _)) (grown_set _ _ _ _)
  have a1 : ∀ t, t ≠ 2 * d → w1.cell? ⟨g, t, none⟩ = w.cell? ⟨g, t, none⟩ := fun t ht => by rw [e1, World.cell?_setCell_other (h := ne (Ne.symm ht))]
  have a2 : ∀ t, t ≠ 2 * d + 1 → w2.cell? ⟨g, t, none⟩ = w1.cell? ⟨g, t, none⟩ := fun t ht => by rw [e2, World.cell?_setCell_other (h := ne (Ne.symm ht))]
  have a3 : ∀ t, t ≠ o → w3.cell? ⟨g, t, none⟩ = w2.cell? ⟨g, t, none⟩ := fun t ht => by rw [e3, World.cell?_setCell_other (h := ne (Ne.symm ht))]
  have a4 : ∀ t, t ≠ o + 1 → w4.cell? ⟨g, t, none⟩ = w3.cell? ⟨g, t, none⟩ := fun t ht => by rw [e4, World.cell?_setCell_other (h := ne (Ne.symm ht))]
  have b1 : w4.cell? ⟨g, 2 * d, none⟩ = some (slv gxp n cxp) := by
    rw [a4 _ (by omega), a3 _ (by omega), a2 _ (by omega), e1, World.cell?_setCell_same (h := c1)]
  have b2 : w4.cell? ⟨g, 2 * d + 1, none⟩ = some (slv gyp m cyp) := by
    rw [a4 _ (by omega), a3 _ (by omega), e2, World.cell?_setCell_same (h := by rw [a1 _ (by omega)]; exact c2)]
  have b3 : w4.cell? ⟨g, o, none⟩ = some (slv gx n cx) := by
    rw [a4 _ (by omega), e3, World.cell?_setCell_same (h := by rw [a2 _ (by omega), a1 _ (by omega)]; exact c1p)]
  have b4 : w4.cell? ⟨g, o + 1, none⟩ = some (slv gy m cy) := by
    rw [e4, World.cell?_setCell_same (h := by rw [a3 _ (by omega), a2 _ (by omega), a1 _ (by omega)]; exact c2p)]
  refine ⟨h.swapped (by omega) hl hG (fun t => by rw [e4, e3, e2, e1]; simpa using h.fz t) (fun t ht => ?_), hG⟩
  unfold sg
  by_cases h1 : t = d + p
  · subst h1
    rw [if_pos rfl, show 2 * (d + p) = o by omega, b3, b4, c1, c2]; exact ⟨rfl, rfl⟩
  · rw [if_neg h1]
    by_cases h2 : t = d
    · subst h2
      rw [if_pos rfl, show 2 * (t + p) = o by omega, b1, b2, c1p, c2p]; exact ⟨rfl, rfl⟩
    · rw [if_neg h2, a4 _ (by omega), a3 _ (by omega), a2 _ (by omega), a1 _ (by omega), a4 _ (by omega), a3 _ (by omega), a2 _ (by omega), a1 _ (by omega)]
      exact ⟨rfl, rfl⟩
theorem Lns.swap0 {B : Nat} {w : World} {g n m d gx cx gy cy : Nat} {ad : List Ad} {ls : List Ln} (h : Lns B w g ad ls) (hl : d < ls.length)
    (c1 : w.cell? ⟨g, 2 * d, none⟩ = some (slv gx n cx)) (c2 : w.cell? ⟨g, 2 * d + 1, none⟩ = some (slv gy m cy)) :
    Lns B ((((w.setCell ⟨g, 2 * d, none⟩ (slv gx n cx)).setCell ⟨g, 2 * d + 1, none⟩ (slv gy m cy)).setCell ⟨g, 2 * d, none⟩ (slv gx n cx)).setCell ⟨g, 2 * d + 1, none⟩ (slv gy m cy)) g (swpA ad d (d + 0)) (swp ls d (d + 0))
      ∧ w.grownBy ((((w.setCell ⟨g, 2 * d, none⟩ (slv gx n cx)).setCell ⟨g, 2 * d + 1, none⟩ (slv gy m cy)).setCell ⟨g, 2 * d, none⟩ (slv gx n cx)).setCell ⟨g, 2 * d + 1, none⟩ (slv gy m cy)) (some g) := by
  have ne : ∀ {a b : Nat}, a ≠ b → (⟨g, a, none⟩ : Addr) ≠ ⟨g, b, none⟩ := fun h e => h (by injection e)
  have hset : ∀ (w : World) (t : Nat) (v : Value), w.cell? ⟨g, t, none⟩ = some v → ∀ u, (w.setCell ⟨g, t, none⟩ v).cell? ⟨g, u, none⟩ = w.cell? ⟨g, u, none⟩ := fun w t v hv u => by
    by_cases e : u = t
    · subst e; rw [World.cell?_setCell_same (h := hv), hv]
    · rw [World.cell?_setCell_other (h := ne (Ne.symm e))]
  obtain ⟨w1, e1⟩ : ∃ w1, w1 = w.setCell ⟨g, 2 * d, none⟩ (slv gx n cx) := ⟨_, rfl⟩
  obtain ⟨w2, e2⟩ : ∃ w2, w2 = w1.setCell ⟨g, 2 * d + 1, none⟩ (slv gy m cy) := ⟨_, rfl⟩
  obtain ⟨w3, e3⟩ : ∃ w3, w3 = w2.setCell ⟨g, 2 * d, none⟩ (slv gx n cx) := ⟨_, rfl⟩
  obtain ⟨w4, e4⟩ : ∃ w4, w4 = w3.setCell ⟨g, 2 * d + 1, none⟩ (slv gy m cy) := ⟨_, rfl⟩
  rw [← e1, ← e2, ← e3, ← e4]
  have hG : w.grownBy w4 (some g) := by
    rw [e4, e3, e2, e1]
    exact grown_trans (grown_trans (grown_trans (grown_set _ _ _ _) (grown_set _ _ _ _)) (grown_set _ _ _ _)) (grown_set _ _ _ _)
  have a1 : ∀ t, w1.cell? ⟨g, t, none⟩ = w.cell? ⟨g, t, none⟩ := by rw [e1]; exact hset _ _ _ c1
  have a2 : ∀ t, w2.cell? ⟨g, t, none⟩ = w.cell? ⟨g, t, none⟩ := fun t => by rw [e2, hset _ _ _ (by rw [a1]; exact c2), a1]
  have a3 : ∀ t, w3.cell? ⟨g, t, none⟩ = w.cell? ⟨g, t, none⟩ := fun t => by rw [e3, hset _ _ _ (by rw [a2]; exact c1), a2]
  have a4 : ∀ t, w4.cell? ⟨g, t, none⟩ = w.cell? ⟨g, t, none⟩ := fun t => by rw [e4, hset _ _ _ (by rw [a3]; exact c2), a3]
  refine ⟨h.swapped hl (by omega) hG (fun t => by rw [e4, e3, e2, e1]; simpa using h.fz t) (fun t ht => ?_), hG⟩
  rw [a4, a4]
  have : sg d (d + 0) t = t := by unfold sg; split <;> (try split) <;> omega
  rw [this]; exact ⟨rfl, rfl⟩
end Go.Proofs.YtokjolmpdfmnbaaGreatDoor
namespace Go.Proofs.YtokjolmpdfmnbaaGreatDoor
open Go.RowKit Go.Sort
theorem less_big {E : Nat} {q : Int} {a b : List Int} (ha : ∀ z ∈ a, z.natAbs < 2 ^ E) (hb : ∀ z ∈ b, z.natAbs < 2 ^ E) (hq : q.natAbs < 2 ^ E) (hE : 2 * E + 2 < LIM) :
    ∀ (i : Nat) (h : i < b.length) (h' : i < a.length), nd a[i] < LIM ∧ nd (q * b[i]) < LIM ∧ nd q + nd b[i] ≤ LIM := by
  intro i h h'
  have h1 := nd_lt2 (ha _ (List.getElem_mem h'))
  have h2 := nd_lt2 (hb _ (List.getElem_mem h))
  have h3 := nd_lt2 hq
  have h4 := nd_mul q b[i]
  omega
end Go.Proofs.YtokjolmpdfmnbaaGreatDoor
namespace Go.Proofs.YtokjolmpdfmnbaaGreatDoor
open Go.RowKit Go.Sort
def RowR (w : World) (v : Value) (r : List Int) : Prop := ∃ sa gb go cap, v = .slice sa r.length cap ∧ r.length ≤ cap ∧ Sl w sa gb go (is r)
def MatR (w : World) (v : Value) (M : Mx) : Prop := ∃ sa gb go cap vs, v = .slice sa M.length cap ∧ M.length ≤ cap ∧ vs.length = M.length ∧ Sl w sa gb go vs ∧ ∀ i (h : i < M.length) (h' : i < vs.length), RowR w vs[i] M[i]
theorem RowR.ext {w w' : World} {v : Value} {r : List Int} (h : RowR w v r) (he : Ext w w') : RowR w' v r := by
  obtain ⟨sa, gb, go, cap, e, hc, hs⟩ := h; exact ⟨sa, gb, go, cap, e, hc, hs.ext he⟩
theorem MatR.ext {w w' : World} {v : Value} {M : Mx} (h : MatR w v M) (he : Ext w w') : MatR w' v M := by
  obtain ⟨sa, gb, go, cap, vs, e, hc, hl, hs, hr⟩ := h; exact ⟨sa, gb, go, cap, vs, e, hc, hl, hs.ext he, fun i a b => (hr i a b).ext he⟩
def I64 (z : Int) : Prop := -9223372036854775808 ≤ z ∧ z ≤ 9223372036854775807
theorem MatR.row {w : World} {sa : Option Addr} {gb go : Nat} {vs : List Value} {M : Mx} (hS : Sl w sa gb go vs) (hl : vs.length = M.length) (hr : ∀ i (h : i < M.length) (h' : i < vs.length), RowR w vs[i] M[i]) {i : Nat} (hi : i < M.length) :
    ∃ sa' gb' go' cap', w.cell? ⟨gb, go + i, none⟩ = some (.slice sa' M[i].length cap') ∧ M[i].length ≤ cap' ∧ Sl w sa' gb' go' (is M[i]) := by
  have hi' : i < vs.length := by omega
  obtain ⟨sa', gb', go', cap', e, hc, hs⟩ := hr i hi hi'
  exact ⟨sa', gb', go', cap', by rw [hS.cell i _ (List.getElem?_eq_getElem hi'), e], hc, hs⟩
def xv (n g cap : Nat) : Value := if n = 0 then .slice none 0 0 else slv g n cap
theorem xv_zero (g cap : Nat) : xv 0 g cap = .slice none 0 0 := rfl
theorem xv_pos {n : Nat} (h : 0 < n) (g cap : Nat) : xv n g cap = slv g n cap := by unfold xv; rw [if_neg (by omega)]
def hdrs (n m : Nat) (ad : List Ad) : List Value := ad.flatMap fun a => [xv n a.gx a.cx, slv a.gy m a.cy]
theorem hdrs_snoc (n m : Nat) (ad : List Ad) (a : Ad) : hdrs n m (ad ++ [a]) = hdrs n m ad ++ [xv n a.gx a.cx, slv a.gy m a.cy] := by simp [hdrs]
theorem hdrs_get (n m : Nat) : ∀ (ad : List Ad) (i : Nat) (h : i < ad.length), (hdrs n m ad)[2 * i]? = some (xv n ad[i].gx ad[i].cx) ∧ (hdrs n m ad)[2 * i + 1]? = some (slv ad[i].gy m ad[i].cy)
  | [], i, h => by simp at h
  | a :: ad, 0, h => by simp [hdrs]
  | a :: ad, i + 1, h => by
    have := hdrs_get n m ad i (by simpa using h)
    simp only [hdrs, List.flatMap_cons, List.getElem_cons_succ] at this ⊢
    rw [show 2 * (i + 1) = 2 * i + 2 by omega, show 2 * i + 2 + 1 = 2 * i + 1 + 2 by omega]
    simpa using this
theorem ownsRow_ext {w w' : World} {base : Nat} {e : TypeId} {size n : Nat} {v : Value} {xs : List Value} (h : w.ownsRow base e size v n xs) (he : Ext w w') : w'.ownsRow base e size v n xs :=
  World.ownsRow.kept h (grown_ext he none) (by by_cases hv : v.ownBlock = none; exact .inl hv; exact .inr hv)
end Go.Proofs.YtokjolmpdfmnbaaGreatDoor
namespace Go.Proofs.YtokjolmpdfmnbaaGreatDoor
open Go.RowKit Go.Sort
theorem xv_own (n g cap : Nat) : (xv n g cap).ownBlock = if n = 0 then none else some g := by
  unfold xv; split <;> rfl
theorem w6_frozen {Y W5 w6 : World} {T : Nat} {o : Obj} {row : Option Nat} (hW5 : Ext Y.drew W5) (t2 : Y.frozen? ⟨T, 0, none⟩ = false) (t3 : T < Y.heap.size) (hg : (W5.alloc o).grownBy w6 row) (hne : some T ≠ row) : w6.frozen? ⟨T, 0, none⟩ = false := by
  have h5 : T < W5.heap.size := Nat.lt_of_lt_of_le t3 hW5.size
  rw [hg.frozen_far ⟨T, 0, none⟩ (by simp; omega) hne, ((Ext.refl W5).alloc o).frozen h5, hW5.frozen t3]
  exact t2
theorem lrow_step {X Y W5 w6 : World} {T gy cy gx cx j L cap2 gg : Nat} {z : Int} {r u : List Int} (hjl : j < r.length) (hz : z = r.getD j 0) (hyT : gy < T) (hXT : X.heap.size ≤ T)
    (t1 : Y.cell? ⟨T, 1, none⟩ = some (slv gy L cy)) (t3 : T < Y.heap.size)
    (hOx : Y.ownsRow X.heap.size 94 1 (xv j gx cx) j (ss (r.take j))) (hNe : 0 < j → gx ≠ T ∧ gx ≠ gy) (hOy : OwnV 94 X.heap.size Y gy cy (ss u)) (hE : Ext X Y) (hW5 : Ext Y.drew W5)
    (hTo : some T ≠ (xv j gx cx).ownBlock)
    (hown6 : w6.ownsRow X.heap.size 94 1 (slv gg (j + 1) cap2) (j + 1) (ss (r.take j) ++ [I z])) (hgrow6 : (W5.alloc (.cells #[I z] 94)).grownBy w6 (xv j gx cx).ownBlock)
    (hat6 : (xv j gx cx).ownBlock = some gg ∨ gg = W5.heap.size + 1) (t6 : w6.cell? ⟨T, 0, none⟩ = some (xv j gx cx)) (f6 : w6.frozen? ⟨T, 0, none⟩ = false) :
    (w6.setCell ⟨T, 0, none⟩ (slv gg (j + 1) cap2)).cell? ⟨T, 0, none⟩ = some (xv (j + 1) gg cap2) ∧ (w6.setCell ⟨T, 0, none⟩ (slv gg (j + 1) cap2)).cell? ⟨T, 1, none⟩ = some (slv gy L cy) ∧ (w6.setCell ⟨T, 0, none⟩ (slv gg (j + 1) cap2)).frozen? ⟨T, 0, none⟩ = false
      ∧ T < (w6.setCell ⟨T, 0, none⟩ (slv gg (j + 1) cap2)).heap.size
      ∧ Hid ((w6.setCell ⟨T, 0, none⟩ (slv gg (j + 1) cap2)).ownsRow X.heap.size 94 1 (xv (j + 1) gg cap2) (j + 1) (ss (r.take (j + 1)))) ∧ Hid (0 < j + 1 → gg ≠ T ∧ gg ≠ gy)
      ∧ Hid (OwnV 94 X.heap.size (w6.setCell ⟨T, 0, none⟩ (slv gg (j + 1) cap2)) gy cy (ss u)) ∧ Hid (Ext X (w6.setCell ⟨T, 0, none⟩ (slv gg (j + 1) cap2))) := by
  have h5 : Y.heap.size ≤ W5.heap.size := hW5.size
  have hE5 : Ext Y (W5.alloc (.cells #[I z] 94)) := (((Ext.refl Y).drew).trans hW5).alloc _
  have hgT : gg ≠ T := by
    rcases hat6 with h | h
    · rw [h] at hTo; exact fun e => hTo (by rw [e])
    · omega
  have hgy : gg ≠ gy := by
    rcases hat6 with h | h
    · rw [xv_own] at h
      split at h
      · cases h
      · injection h with h; subst h; exact (hNe (by omega)).2
    · omega
  have hrow : ∀ q, (xv j gx cx).ownBlock = some q → X.heap.size ≤ q := fun q hq => (World.ownsRow.lt hOx q hq).1
  have hE6 : Ext X w6 := Ext.mk' (Below.grown (hE.trans hE5) hgrow6 (hE.trans hE5).size hrow)
  have hyo : (xv j gx cx).ownBlock ≠ some gy := by
    rw [xv_own]
    split
    · simp
    · intro e; injection e with e; exact (hNe (by omega)).2 e
  have hOy6 : OwnV 94 X.heap.size w6 gy cy (ss u) := World.ownsRow.kept (hOy.ext hE5) hgrow6 (.inr (fun e => hyo e.symm))
  have t16 : w6.cell? ⟨T, 1, none⟩ = some (slv gy L cy) := hgrow6.cell (hE5.cell t1) hTo
  have hTs : T < w6.heap.size := Nat.lt_of_lt_of_le t3 (Nat.le_trans hE5.size hgrow6.size)
  refine ⟨?_, ?_, ?_, ?_, Lib.hid ?_, Lib.hid (fun _ => ⟨hgT, hgy⟩), Lib.hid ?_, Lib.hid ?_⟩
  · rw [World.cell?_setCell_same (h := t6), xv_pos (by omega)]
  · rw [World.cell?_setCell_other (h := by simp)]; exact t16
  · rw [World.frozen?_setCell]; exact f6
  · simpa using hTs
  · rw [xv_pos (by omega)]
    have e : ss (r.take (j + 1)) = ss (r.take j) ++ [I z] := by
      rw [List.take_succ_eq_append_getElem hjl, hz, getD_get hjl]; simp only [ss, List.map_append, List.map_cons, List.map_nil]
    rw [e]
    exact World.ownsRow.kept hown6 (grown_set w6 T 0 _) (.inr (by intro e; injection e with e; exact hgT e))
  · exact hOy6.other (grown_set w6 T 0 _) (by omega)
  · exact hE6.setCell hXT _
theorem line_one (n g c g' m c' : Nat) : ∀ u ∈ [xv n g c, slv g' m c'], u.oneCell' = true := by
  intro u hu
  simp only [List.mem_cons, List.not_mem_nil, or_false] at hu
  rcases hu with rfl | rfl
  · unfold xv; split <;> rfl
  · rfl
end Go.Proofs.YtokjolmpdfmnbaaGreatDoor
namespace Go.Proofs.YtokjolmpdfmnbaaGreatDoor
open Go.RowKit Go.Sort
set_option maxRecDepth 100000 in
set_option maxHeartbeats 1000000 in
theorem index_great {w : World} {sa : Option Addr} {gb go cap : Nat} {vs : List Value} {p : Nat → Bool} {k : Int} (hS : Sl w sa gb go vs) (hl : vs.length ≤ 1000000)
    (hF : ∀ i (h : i < vs.length) W, Ext w W → Calls Tryz.prog 114 #[vs[i]] W fun e w' => e = .returned (.bool (p i)) ∧ Ext W w') (hk : IxR p vs.length k) :
    Calls Tryz.prog 135 #[.slice sa vs.length cap, .func (.func 114) #[] #[]] w fun e w' => e = .returned (.int .i64 k) ∧ Ext w w' := by
  have HF := Lib.hid hF
  have HK := Lib.hid hk
  have HS := Lib.hid hS
  clear hF hk hS
  go_enter Tryz.func135, Tryz.ntmps135
  go_wp2_with fail
  go_loopw [8] (fun idx wr => ∃ i : Nat, i ≤ vs.length ∧ idx = .int .i64 i ∧ Hid (∀ j, j < i → p j = false) ∧ Ext w wr) (fun idx _ => vs.length - (intOf idx).toNat)
  case atStart => exact ⟨0, by omega, by go_num, Lib.hid (fun j h => by omega), Ext.refl _⟩
  case round =>
    obtain ⟨i, hi, rfl, Hp, hE⟩ := hrel
    generalize wr = X at *
    by_cases hlt : i < vs.length
    · have hii : (i : Int) < (vs.length : Int) := by omega
      obtain ⟨u, hu⟩ : ∃ u, u = vs[i] := ⟨_, rfl⟩
      have hc := hE.cell (HS.out.cell i u (by rw [hu]; exact List.getElem?_eq_getElem hlt))
      obtain rfl := HS.out.addr (by omega)
      have hf := HF.out i hlt X hE
      rw [← hu] at hf
      have Hf := Lib.hid hf
      clear hf hu
      cases hpi : p i
      · rw [hpi] at Hf
        have Hpi := Lib.hid hpi
        clear hpi
        go_wp2_with fail
        refine Hf.out.mono ?_
        rintro e W ⟨rfl, hE2⟩
        go_wp2_with fail
        go_roundw
        case rel => exact ⟨i + 1, by omega, by go_num, Lib.hid (fun j hj => by
          by_cases e : j = i
          · subst e; exact Hpi.out
          · exact Hp.out j (by omega)), hE.trans hE2⟩
        case measure => simp [intOf] <;> omega
      · rw [hpi] at Hf
        have Hki := Lib.hid (IxR_at HK.out hlt hpi Hp.out)
        clear hpi
        go_wp2_with fail
        refine Hf.out.mono ?_
        rintro e W ⟨rfl, hE2⟩
        go_wp2_with fail
        go_ret
        exact ⟨by rw [Hki.out]; rfl, hE.trans hE2⟩
    · have Hki := Lib.hid (IxR_no HK.out (fun j hj => Hp.out j (by omega)))
      go_wp2_with fail
      go_ret
      exact ⟨by rw [Hki.out]; rfl, hE⟩
set_option maxRecDepth 100000 in
theorem contains_great {w : World} {sa : Option Addr} {gb go cap : Nat} {vs : List Value} {p : Nat → Bool} (hS : Sl w sa gb go vs) (hl : vs.length ≤ 1000000)
    (hF : ∀ i (h : i < vs.length) W, Ext w W → Calls Tryz.prog 114 #[vs[i]] W fun e w' => e = .returned (.bool (p i)) ∧ Ext W w') :
    Calls Tryz.prog 81 #[.slice sa vs.length cap, .func (.func 114) #[] #[]] w fun e w' => e = .returned (.bool (anyB p vs.length)) ∧ Ext w w' := by
  obtain ⟨k, hk⟩ := IxR_ex p vs.length
  have Hge := Lib.hid (IxR_ge hk)
  have HI := Lib.hid (index_great (cap := cap) hS hl hF hk)
  clear hS hF hk
  go_enter Tryz.func81, Tryz.ntmps81
  go_wp2_with fail
  refine HI.out.mono ?_
  rintro e W ⟨rfl, hE⟩
  go_wp2_with fail
  go_ret
  exact ⟨by rw [← Hge.out]; rfl, hE⟩
set_option maxRecDepth 100000 in
set_option maxHeartbeats 1000000 in
theorem index_rowCheck {w : World} {sa : Option Addr} {gb go cap : Nat} {vs : List Value} {p : Nat → Bool} {k : Int} (hS : Sl w sa gb go vs) (hl : vs.length ≤ 1000000)
    (hF : ∀ i (h : i < vs.length) W, Ext w W → Calls Tryz.prog 82 #[vs[i]] W fun e w' => e = .returned (.bool (p i)) ∧ Ext W w') (hk : IxR p vs.length k) :
    Calls Tryz.prog 135 #[.slice sa vs.length cap, .func (.func 82) #[] #[]] w fun e w' => e = .returned (.int .i64 k) ∧ Ext w w' := by
  have HF := Lib.hid hF
  have HK := Lib.hid hk
  have HS := Lib.hid hS
  clear hF hk hS
  go_enter Tryz.func135, Tryz.ntmps135
  go_wp2_with fail
  go_loopw [8] (fun idx wr => ∃ i : Nat, i ≤ vs.length ∧ idx = .int .i64 i ∧ Hid (∀ j, j < i → p j = false) ∧ Ext w wr) (fun idx _ => vs.length - (intOf idx).toNat)
  case atStart => exact ⟨0, by omega, by go_num, Lib.hid (fun j h => by omega), Ext.refl _⟩
  case round =>
    obtain ⟨i, hi, rfl, Hp, hE⟩ := hrel
    generalize wr = X at *
    by_cases hlt : i < vs.length
    · have hii : (i : Int) < (vs.length : Int) := by omega
      obtain ⟨u, hu⟩ : ∃ u, u = vs[i] := ⟨_, rfl⟩
      have hc := hE.cell (HS.out.cell i u (by rw [hu]; exact List.getElem?_eq_getElem hlt))
      obtain rfl := HS.out.addr (by omega)
      have hf := HF.out i hlt X hE
      rw [← hu] at hf
      have Hf := Lib.hid hf
      clear hf hu
      cases hpi : p i
      · rw [hpi] at Hf
        have Hpi := Lib.hid hpi
        clear hpi
        go_wp2_with fail
        refine Hf.out.mono ?_
        rintro e W ⟨rfl, hE2⟩
        go_wp2_with fail
        go_roundw
        case rel => exact ⟨i + 1, by omega, by go_num, Lib.hid (fun j hj => by
          by_cases e : j = i
          · subst e; exact Hpi.out
          · exact Hp.out j (by omega)), hE.trans hE2⟩
        case measure => simp [intOf] <;> omega
      · rw [hpi] at Hf
        have Hki := Lib.hid (IxR_at HK.out hlt hpi Hp.out)
        clear hpi
        go_wp2_with fail
        refine Hf.out.mono ?_
        rintro e W ⟨rfl, hE2⟩
        go_wp2_with fail
        go_ret
        exact ⟨by rw [Hki.out]; rfl, hE.trans hE2⟩
    · have Hki := Lib.hid (IxR_no HK.out (fun j hj => Hp.out j (by omega)))
      go_wp2_with fail
      go_ret
      exact ⟨by rw [Hki.out]; rfl, hE⟩
set_option maxRecDepth 100000 in
theorem contains_rowCheck {w : World} {sa : Option Addr} {gb go cap : Nat} {vs : List Value} {p : Nat → Bool} (hS : Sl w sa gb go vs) (hl : vs.length ≤ 1000000)
    (hF : ∀ i (h : i < vs.length) W, Ext w W → Calls Tryz.prog 82 #[vs[i]] W fun e w' => e = .returned (.bool (p i)) ∧ Ext W w') :
    Calls Tryz.prog 81 #[.slice sa vs.length cap, .func (.func 82) #[] #[]] w fun e w' => e = .returned (.bool (anyB p vs.length)) ∧ Ext w w' := by
  obtain ⟨k, hk⟩ := IxR_ex p vs.length
  have Hge := Lib.hid (IxR_ge hk)
  have HI := Lib.hid (index_rowCheck (cap := cap) hS hl hF hk)
  clear hS hF hk
  go_enter Tryz.func81, Tryz.ntmps81
  go_wp2_with fail
  refine HI.out.mono ?_
  rintro e W ⟨rfl, hE⟩
  go_wp2_with fail
  go_ret
  exact ⟨by rw [← Hge.out]; rfl, hE⟩
end Go.Proofs.YtokjolmpdfmnbaaGreatDoor
