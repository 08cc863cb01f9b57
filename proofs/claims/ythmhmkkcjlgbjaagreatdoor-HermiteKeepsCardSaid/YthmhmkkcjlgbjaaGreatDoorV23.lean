/- Part 23 of the proof of the claim: contracts of the functions that it reaches, and plain laws; no condition. -/
import Derived.Test.YthmhmkkcjlgbjaaGreatDoorV15
import Derived.Test.YthmhmkkcjlgbjaaGreatDoorV21
import Derived.Test.YthmhmkkcjlgbjaaGreatDoorV18
import Derived.Test.YthmhmkkcjlgbjaaGreatDoorV19
/- Matrices whose rows lie in blocks of their own; append of a whole row; a row of zeros. -/
namespace Go.Proofs.YthmhmkkcjlgbjaaGreatDoor
open Go.RowKit Go.Sort
def hdX (n : Nat) (ad : List (Nat × Nat)) : List Value := ad.map fun a => slv a.1 n a.2
@[simp] theorem hdX_length (n : Nat) (ad : List (Nat × Nat)) : (hdX n ad).length = ad.length := by simp [hdX]
theorem hdX_get (n : Nat) {ad : List (Nat × Nat)} {i : Nat} (h : i < ad.length) (h' : i < (hdX n ad).length) : (hdX n ad)[i] = slv ad[i].1 n ad[i].2 := by simp [hdX]
structure MatX (B : Nat) (w : World) (v : Value) (n : Nat) (F : Mx) (ad : List (Nat × Nat)) : Prop where
  len : ad.length = F.length
  rect : Rect n F
  own : w.ownsRow B 35 1 v F.length (hdX n ad)
  row : ∀ i (h : i < F.length) (h' : i < ad.length), OwnV 3 B w ad[i].1 ad[i].2 (is F[i])
  dis : ∀ i j (hi : i < ad.length) (hj : j < ad.length), i < j → ad[i].1 ≠ ad[j].1
theorem MatX.nil (B : Nat) (w : World) (n : Nat) : MatX B w (.slice none 0 0) n [] [] :=
  ⟨rfl, (fun r h => by cases h), ⟨rfl, .inl ⟨rfl, rfl⟩⟩, (fun i h => by simp at h), (fun i j h => by simp at h)⟩
theorem MatX.ext {B : Nat} {w w' : World} {v : Value} {n : Nat} {F : Mx} {ad : List (Nat × Nat)} (h : MatX B w v n F ad) (he : Ext w w') : MatX B w' v n F ad :=
  ⟨h.len, h.rect, ownsRow_ext h.own he, fun i a b => (h.row i a b).ext he, h.dis⟩
theorem ownV_row {B : Nat} {w : World} {g cap n : Nat} {r : List Int} (h : OwnV 3 B w g cap (is r)) (hn : r.length = n) : RowV B w (slv g n cap) r := by
  subst hn
  unfold RowV
  unfold OwnV at h
  rw [is_length] at h
  exact h
theorem row_ownV {B : Nat} {w : World} {g cap n : Nat} {r : List Int} (h : RowV B w (slv g n cap) r) (hn : r.length = n) : OwnV 3 B w g cap (is r) := by
  subst hn
  unfold RowV at h
  unfold OwnV
  rw [is_length]
  exact h
theorem MatX.mato {B : Nat} {w : World} {v : Value} {n : Nat} {F : Mx} {ad : List (Nat × Nat)} (h : MatX B w v n F ad) : MatO B w v F := by
  refine ⟨hdX n ad, by rw [hdX_length]; exact h.len, h.own, fun t ht ht' => ?_⟩
  have ha : t < ad.length := by rw [h.len]; exact ht
  rw [hdX_get n ha]
  exact ownV_row (h.row t ht ha) (h.rect _ (List.getElem_mem ht))
theorem MatX.lt {B : Nat} {w : World} {v : Value} {n : Nat} {F : Mx} {ad : List (Nat × Nat)} (h : MatX B w v n F ad) : ∀ a ∈ ad, a.1 < w.heap.size := by
  intro a ha
  obtain ⟨i, hi, rfl⟩ := List.getElem_of_mem ha
  exact (h.row i (by rw [← h.len]; exact hi) hi).lt.2
theorem heap_new (w : World) (o : Obj) : (w.alloc o).heap[w.heap.size]? = some o := by
  show (w.heap.push o)[w.heap.size]? = some o
  simp
theorem row_empty {w : World} {g : Nat} (h : w.heap[g]? = some (.cells #[] 3 (0, 0))) {B : Nat} (hB : B ≤ g) : RowV B w (.slice (some ⟨g, 0, none⟩) 0 0) [] :=
  ⟨rfl, .inr ⟨g, 0, #[], rfl, hB, h, Nat.le_refl _, Nat.zero_le _, rfl, rfl⟩⟩
theorem zero_row {B n g : Nat} {w : World} (h : w.ownsRow B 3 1 (.slice (some ⟨g, 0, none⟩) n n) n (madeCells (Value.int .i64 0).cells (n * 1)).toList) : RowV B w (.slice (some ⟨g, 0, none⟩) n n) (List.replicate n 0) := by
  unfold RowV
  have e : (madeCells (Value.int .i64 0).cells (n * 1)).toList = is (List.replicate n 0) := by
    rw [show (Value.int .i64 0).cells = #[.int .i64 0] from rfl, toList_madeCells_one, Nat.mul_one]; simp [is]
  rw [List.length_replicate, ← e]
  exact h
section
variable {w : World} {ops : Array Oper} {rest : List Oper} {o : Oper} {a : Act} {Q : Exit → Act → World → Prop}
/-- append(row, row2...) -/
theorem app_intsX (hgd : o.guard = none) (s x : Operand) (t : TypeId) (ht : Tryz.prog.underlying t = some (.slice 3)) (ho : o.op = .call { callee := .builtin .append, args := #[s, x], argTypes := #[t, t] })
    {B : Nat} {v : Value} {r : List Int} (hs : a.eval s = v) (hown : RowV B w v r) {sa : Option Addr} {b c gc : Nat} {z : List Int} {zl : Nat} (hzl : z.length = zl) (hx : a.eval x = .slice sa zl gc) (hS : Sl w sa b c (is z)) (h0 : 0 < zl) (hl : r.length + zl ≤ 1000000000) (hB : B ≤ w.heap.size)
    (h : ∀ g cap w', RowV B w' (slv g (r.length + zl) cap) (r ++ z) → Below B w w' → w.grownBy w' v.ownBlock → wpList Tryz.prog ops Q rest (a.put o.dst (slv g (r.length + zl) cap)) w') : wpList Tryz.prog ops Q (o :: rest) a w := by
  subst hzl
  obtain ⟨i0, hi, hz0, hz1, hz2⟩ := info_parts Tryz.infoInt
  obtain rfl := hS.addr (by rw [is_length]; exact h0)
  refine wpList_append_lies w hgd s x t ho B 3 i0 _ 1 8 ht hi hz0 hz1 hz2 rfl (by omega) v r.length (is r) hs hown ⟨b, c, none⟩ z.length gc (is z) hx (by rw [is_length, Nat.mul_one]) ?_ ?_ (by omega) (by unfold maxLen; omega) (by omega) hB w.heap.size rfl ?_
  · intro j u hj
    rw [Lib.add_plain]
    exact hS.cell j u hj
  · intro u hu
    obtain ⟨y, _, rfl⟩ := List.mem_map.1 hu
    rfl
  · intro g cap w' h1 h2 h3 h4
    refine h g cap w' ?_ (Below.grown (Below.refl _ _) h2 hB (fun q hq => (World.ownsRow.lt hown q hq).1)) h2
    unfold RowV
    rw [show is (r ++ z) = is r ++ is z by simp [is], List.length_append]; exact h1
theorem app_matX (hgd : o.guard = none) (s x : Operand) (ho : o.op = .call { callee := .builtin .append, args := #[s, x], argTypes := #[29, 29] })
    {B n : Nat} {v : Value} {F : Mx} {r : List Int} {ad : List (Nat × Nat)} {g0 c0 : Nat} (hs : a.eval s = v) (hown : MatX B w v n F ad) {b : Nat} (hx : a.eval x = .slice (some ⟨b, 0, none⟩) 1 1) (hc : w.cell? ⟨b, 0, none⟩ = some (slv g0 n c0)) (hr : OwnV 3 B w g0 c0 (is r)) (hrl : r.length = n) (hnew : ∀ a ∈ ad, a.1 ≠ g0) (hl : F.length ≤ 1000000000) (hB : B ≤ w.heap.size)
    (h : ∀ g cap w', MatX B w' (slv g (F.length + 1) cap) n (F ++ [r]) (ad ++ [(g0, c0)]) → Below B w w' → w.grownBy w' v.ownBlock → wpList Tryz.prog ops Q rest (a.put o.dst (slv g (F.length + 1) cap)) w') : wpList Tryz.prog ops Q (o :: rest) a w := by
  obtain ⟨i0, hi, hz0, hz1, hz2⟩ := info_parts Tryz.infoRow
  obtain ⟨hlen, hrect, h2, h3, hdis⟩ := hown
  refine wpList_append_lies w hgd s x 29 ho B 35 i0 _ 1 24 Tryz.underlying29 hi hz0 hz1 hz2 rfl (by omega) v F.length (hdX n ad) hs h2 ⟨b, 0, none⟩ 1 1 [slv g0 n c0] hx rfl ?_ ?_ (by omega) (by unfold maxLen; omega) (by omega) hB w.heap.size rfl ?_
  · intro j u hj
    have : j = 0 := by have := (List.getElem?_eq_some_iff.1 hj).1; simp at this; omega
    subst this
    simp only [List.getElem?_cons_zero, Option.some.injEq] at hj
    subst hj
    simpa [Addr.add_lit] using hc
  · intro u hu
    simp only [List.mem_cons, List.not_mem_nil, or_false] at hu
    subst hu; rfl
  · intro g cap w' k1 k2 k3 k4
    have hkeep : ∀ {u cu : Nat} {l : List Int}, OwnV 3 B w u cu (is l) → OwnV 3 B w' u cu (is l) := fun {u cu l} hu => by
      have h5 : RowV B w (slv u l.length cu) l := ownV_row hu rfl
      have h6 : RowV B w' (slv u l.length cu) l := own_kept h5 h2 (by decide) k2
      unfold RowV at h6
      unfold OwnV
      rw [is_length]; exact h6
    refine h g cap w' ⟨by simp [hlen], fun y hy => ?_, ?_, fun i hi1 hi2 => ?_, fun i j hi1 hj1 hij => ?_⟩ (Below.grown (Below.refl _ _) k2 hB (fun q hq => (World.ownsRow.lt h2 q hq).1)) k2
    · rcases List.mem_append.1 hy with hy | hy
      · exact hrect y hy
      · rw [List.mem_singleton.1 hy]; exact hrl
    · rw [List.length_append, show hdX n (ad ++ [(g0, c0)]) = hdX n ad ++ [slv g0 n c0] by simp [hdX]]; exact k1
    · rcases Nat.lt_or_ge i F.length with hlt | hge
      · simp only [List.getElem_append_left hlt, List.getElem_append_left (show i < ad.length by omega)]
        exact hkeep (h3 i hlt (by omega))
      · have hie : i = F.length := by simp at hi1; omega
        subst hie
        simp only [List.getElem_append_right (Nat.le_refl F.length), List.getElem_append_right (show ad.length ≤ F.length by omega), hlen, Nat.sub_self, List.getElem_cons_zero]
        exact hkeep hr
    · rw [List.length_append, List.length_singleton] at hi1 hj1
      rw [List.getElem_append_left (show i < ad.length by omega)]
      rcases Nat.lt_or_ge j ad.length with hlt | hge
      · rw [List.getElem_append_left hlt]
        exact hdis i j (by omega) hlt hij
      · have hje : j = ad.length := by omega
        subst hje
        rw [List.getElem_append_right (Nat.le_refl _)]
        simp only [Nat.sub_self, List.getElem_cons_zero]
        exact hnew _ (List.getElem_mem _)
end
/-- The two first rows of a matrix in its memory, and the others: what a store to these rows leaves. -/
theorem MatX.two {B : Nat} {w w' : World} {g cap n : Nat} {a b a' b' : List Int} {rest : Mx} {ad : List (Nat × Nat)} {a0 a1 : Nat × Nat} (h : MatX B w (slv g (rest.length + 2) cap) n (a :: b :: rest) (a0 :: a1 :: ad))
    (hC : Chg (fun k => k = a0.1 ∨ k = a1.1) w w') (h0 : OwnV 3 B w' a0.1 a0.2 (is a')) (h1 : OwnV 3 B w' a1.1 a1.2 (is b')) (l0 : a'.length = n) (l1 : b'.length = n) : MatX B w' (slv g (rest.length + 2) cap) n (a' :: b' :: rest) (a0 :: a1 :: ad) := by
  have hg0 : g ≠ a0.1 := fun e => by
    have := own_ne (ownV_row (n := n) (h.row 0 (by simp) (by simp)) (h.rect a (by simp))) h.own (by decide) (g := a0.1) rfl
    exact this (by rw [e]; rfl)
  have hg1 : g ≠ a1.1 := fun e => by
    have := own_ne (ownV_row (n := n) (h.row 1 (by simp) (by simp)) (h.rect b (by simp))) h.own (by decide) (g := a1.1) rfl
    exact this (by rw [e]; rfl)
  have hOw : OwnV 35 B w g cap (hdX n (a0 :: a1 :: ad)) := by
    unfold OwnV
    have hl := h.len
    rw [hdX_length, hl]; exact h.own
  have hOw' := hC.own (fun hk => by rcases hk with hk | hk; exact hg0 hk; exact hg1 hk) hOw
  refine ⟨h.len, fun r hr => ?_, ?_, fun i hi hi' => ?_, h.dis⟩
  · simp only [List.mem_cons] at hr
    rcases hr with rfl | rfl | hr
    · exact l0
    · exact l1
    · exact h.rect r (by simp [hr])
  · unfold OwnV at hOw'
    have hl := h.len
    simp only [List.length_cons] at hl ⊢
    rw [hdX_length] at hOw'
    simp only [List.length_cons, hl] at hOw'
    exact hOw'
  · match i, hi, hi' with
    | 0, _, _ => exact h0
    | 1, _, _ => exact h1
    | i + 2, hi, hi' =>
      have d0 := h.dis 0 (i + 2) (by simp) hi' (by omega)
      have d1 := h.dis 1 (i + 2) (by simp) hi' (by omega)
      simp only [List.length_cons] at hi
      have := h.row (i + 2) (by simp; omega) hi'
      exact hC.own (fun hk => by rcases hk with hk | hk; exact d0 hk.symm; exact d1 hk.symm) this
end Go.Proofs.YthmhmkkcjlgbjaaGreatDoor
/- plain: what HermiteKeeps does with the rows keeps the lattice -/
namespace Go.Proofs.YthmhmkkcjlgbjaaGreatDoor
open Hnf (Span V)
/-- The rows, begun at s. -/
def rot (s : Nat) (M : Mx) : Mx := (List.range M.length).map fun k => M.getD ((k + s) % M.length) []
@[simp] theorem rot_length (s : Nat) (M : Mx) : (rot s M).length = M.length := by simp [rot]
theorem rot_mem {s : Nat} {M : Mx} {r : List Int} (h : r ∈ rot s M) : r ∈ M := by
  obtain ⟨k, hk, rfl⟩ := List.mem_map.1 h
  have hk := List.mem_range.1 hk
  have : (k + s) % M.length < M.length := Nat.mod_lt _ (by omega)
  rw [getD_get this]
  exact List.getElem_mem _
theorem mem_rot {s : Nat} {M : Mx} {r : List Int} (h : r ∈ M) : r ∈ rot s M := by
  obtain ⟨i, hi, rfl⟩ := List.getElem_of_mem h
  have hm : s % M.length < M.length := Nat.mod_lt _ (by omega)
  have hk : (i + (M.length - s % M.length)) % M.length < M.length := Nat.mod_lt _ (by omega)
  refine List.mem_map.2 ⟨(i + (M.length - s % M.length)) % M.length, List.mem_range.2 hk, ?_⟩
  have e : ((i + (M.length - s % M.length)) % M.length + s) % M.length = i := by
    rw [Nat.mod_add_mod]
    have h1 := Nat.div_add_mod s M.length
    have h2 : i + (M.length - s % M.length) + s = i + M.length * (s / M.length + 1) := by rw [Nat.mul_add]; omega
    rw [h2, Nat.add_mul_mod_self_left, Nat.mod_eq_of_lt hi]
  show M.getD (((i + (M.length - s % M.length)) % M.length + s) % M.length) [] = M[i]
  rw [e, getD_get hi]
theorem rot_snoc {s : Nat} {M : Mx} {k : Nat} (h : k < M.length) : (rot s M).take (k + 1) = (rot s M).take k ++ [M.getD ((k + s) % M.length) []] := by
  rw [List.take_succ_eq_append_getElem (by simpa using h)]
  simp [rot]
def negR (r : List Int) : List Int := r.map fun z => -z
theorem negR_getD (r : List Int) (j : Nat) : (negR r).getD j 0 = -r.getD j 0 := by
  unfold negR
  rw [List.getD_eq_getElem?_getD, List.getD_eq_getElem?_getD, List.getElem?_map]
  cases r[j]? <;> simp
/-- A row of which the first elements are negated. -/
def negT (c : Nat) (b : List Int) : List Int := negR (b.take c) ++ b.drop c
theorem negT_zero (b : List Int) : negT 0 b = b := by simp [negT, negR]
theorem negT_all {b : List Int} {n : Nat} (h : b.length = n) : negT n b = negR b := by subst h; simp [negT]
@[simp] theorem negT_length (c : Nat) (b : List Int) : (negT c b).length = b.length := by simp [negT, negR]; omega
theorem negR_take {b : List Int} {c : Nat} (h : c < b.length) : (negR (b.take c)).length = c := by unfold negR; rw [List.length_map, List.length_take]; omega
theorem negT_at {b : List Int} {c : Nat} (h : c < b.length) : (negT c b)[c]? = some b[c] := by
  unfold negT
  rw [List.getElem?_append_right (by rw [negR_take h]; exact Nat.le_refl _), negR_take h, Nat.sub_self, List.getElem?_drop, Nat.add_zero, List.getElem?_eq_getElem h]
theorem negT_step {b : List Int} {c : Nat} (h : c < b.length) : negT (c + 1) b = (negT c b).set c (-b[c]) := by
  have e1 : negR (b.take (c + 1)) = negR (b.take c) ++ [-b[c]] := by
    unfold negR; rw [List.take_succ_eq_append_getElem h, List.map_append]; rfl
  rw [negT, e1, negT, List.drop_eq_getElem_cons h, List.set_append_right _ _ (by rw [negR_take h]; exact Nat.le_refl _), negR_take h, Nat.sub_self, List.set_cons_zero, List.append_assoc]
  rfl
/-- A multiple of the second row is added to the first one, the second one is negated, and a row of zeros comes behind. -/
def tw (t : Int) : Mx → Mx
  | a :: b :: rest => subK (-t) a b :: negR b :: (rest ++ [List.replicate a.length 0])
  | O => O
theorem lat_mem {M : Mx} {r : List Int} (h : r ∈ M) : vr r ∈ latM M := List.mem_map.2 ⟨r, h, rfl⟩
theorem vr_zero (n : Nat) : vr (List.replicate n 0) = fun _ => 0 := by
  funext j
  simp only [vr, List.getD_eq_getElem?_getD, List.getElem?_replicate]
  split <;> rfl
theorem tw_lat {n : Nat} (t : Int) {O : Mx} (hR : Rect n O) : (∀ v ∈ latM (tw t O), Span (latM O) v) ∧ (∀ v ∈ latM O, Span (latM (tw t O)) v) := by
  match O with
  | [] => exact ⟨fun v hv => .mem hv, fun v hv => .mem hv⟩
  | [a] => exact ⟨fun v hv => .mem hv, fun v hv => .mem hv⟩
  | a :: b :: rest =>
    have ha : a.length = n := hR a (by simp)
    have hb : b.length = n := hR b (by simp)
    have h1 := vr_sub (-t) (show b.length ≤ a.length by omega)
    have h2 : vr (negR b) = Hnf.sub (fun _ => 0) 1 (vr b) := vr_neg b
    constructor
    · intro v hv
      obtain ⟨r, hr, rfl⟩ := List.mem_map.1 hv
      simp only [tw, List.mem_cons, List.mem_append, List.not_mem_nil, or_false] at hr
      rcases hr with rfl | rfl | hr | rfl
      · rw [h1]; exact (Span.mem (lat_mem (by simp))).sub _ (.mem (lat_mem (by simp)))
      · rw [h2]; exact Span.zero.sub _ (.mem (lat_mem (by simp)))
      · exact .mem (lat_mem (by simp [hr]))
      · rw [vr_zero]; exact .zero
    · have m1 : vr (subK (-t) a b) ∈ latM (tw t (a :: b :: rest)) := lat_mem (by simp [tw])
      have m2 : vr (negR b) ∈ latM (tw t (a :: b :: rest)) := lat_mem (by simp [tw])
      intro v hv
      obtain ⟨r, hr, rfl⟩ := List.mem_map.1 hv
      simp only [List.mem_cons] at hr
      rcases hr with rfl | rfl | hr
      · have e : vr r = Hnf.sub (vr (subK (-t) r b)) (-t) (vr (negR b)) := by
          rw [h1, h2]; funext j; simp only [Hnf.sub, Int.one_mul, Int.zero_sub, Int.mul_neg]; omega
        rw [e]; exact (Span.mem m1).sub _ (.mem m2)
      · have e : vr r = Hnf.sub (fun _ => 0) 1 (vr (negR r)) := by
          rw [h2]; funext j; simp only [Hnf.sub, Int.one_mul]; omega
        rw [e]; exact Span.zero.sub _ (.mem m2)
      · exact .mem (lat_mem (by simp [tw, hr]))
theorem tw_rect {n : Nat} (t : Int) {O : Mx} (hR : Rect n O) : Rect n (tw t O) := by
  match O with
  | [] => exact hR
  | [a] => exact hR
  | a :: b :: rest =>
    intro r hr
    simp only [tw, List.mem_cons, List.mem_append, List.not_mem_nil, or_false] at hr
    rcases hr with rfl | rfl | hr | rfl
    · rw [subK_length]; exact hR a (by simp)
    · unfold negR; rw [List.length_map]; exact hR b (by simp)
    · exact hR r (by simp [hr])
    · rw [List.length_replicate]; exact hR a (by simp)
theorem mul_80 {t y : Int} (ht : -4 ≤ t ∧ t ≤ 4) (hy : -20 ≤ y ∧ y ≤ 20) : -80 ≤ t * y ∧ t * y ≤ 80 := by
  have : (t * y).natAbs ≤ 4 * 20 := by rw [Int.natAbs_mul]; exact Nat.mul_le_mul (by omega) (by omega)
  omega
theorem getD_bd {r : List Int} (h : ∀ z ∈ r, -20 ≤ z ∧ z ≤ 20) (j : Nat) : -20 ≤ r.getD j 0 ∧ r.getD j 0 ≤ 20 := by
  rcases Nat.lt_or_ge j r.length with h' | h'
  · rw [getD_get h']; exact h _ (List.getElem_mem h')
  · rw [List.getD_eq_getElem?_getD, List.getElem?_eq_none h']; exact ⟨by decide, by decide⟩
theorem tw_bd {n : Nat} {t : Int} (ht : -4 ≤ t ∧ t ≤ 4) {O : Mx} (hR : Rect n O) (h : ∀ r ∈ O, ∀ z ∈ r, -20 ≤ z ∧ z ≤ 20) : ∀ r ∈ tw t O, ∀ z ∈ r, -100 ≤ z ∧ z ≤ 100 := by
  match O with
  | [] => exact fun r hr => by cases hr
  | [a] => exact fun r hr z hz => by have := h r hr z hz; omega
  | a :: b :: rest =>
    have ha : a.length = n := hR a (by simp)
    have hb : b.length = n := hR b (by simp)
    have h1 := h a (by simp)
    have h2 := h b (by simp)
    intro r hr z hz
    simp only [tw, List.mem_cons, List.mem_append, List.not_mem_nil, or_false] at hr
    rcases hr with rfl | rfl | hr | rfl
    · obtain ⟨j, hj, rfl⟩ := List.getElem_of_mem hz
      have e := subK_getD (-t) a b j (by omega)
      rw [getD_get hj] at e
      rw [e]
      have b1 := getD_bd h1 j
      have b2 := mul_80 ht (getD_bd h2 j)
      rw [Int.neg_mul]
      omega
    · unfold negR at hz
      obtain ⟨y, hy, rfl⟩ := List.mem_map.1 hz
      have := h2 y hy
      omega
    · have := h r (by simp [hr]) z hz; omega
    · rw [List.mem_replicate] at hz; rw [hz.2]; exact ⟨by decide, by decide⟩
theorem tw_length (t : Int) (O : Mx) : (tw t O).length ≤ O.length + 1 ∧ (0 < (tw t O).length → 0 < O.length) := by
  match O with
  | [] => exact ⟨by simp [tw], fun h => by simp [tw] at h⟩
  | [a] => exact ⟨by simp [tw], fun h => by simp⟩
  | a :: b :: rest => exact ⟨by simp [tw], fun h => by simp⟩
/-- The law: the form of the turned rows is the form. -/
theorem keep_law {M F : Mx} {s : Nat} {t : Int} (h : GridM M) (ht : -4 ≤ t ∧ t ≤ 4) (hF : HnfOf (ncols M) M F) :
    checkM (tw t (rot s M)) = 0 ∧ bC (tw t (rot s M)).length 30 (ncols (tw t (rot s M))) + 2 < LIM ∧ ∀ G, HnfOf (ncols (tw t (rot s M))) (tw t (rot s M)) G → F = G := by
  obtain ⟨hR, hn, hm, _⟩ := gridM_rect h
  obtain ⟨_, _, _, _, _, he⟩ := h
  have hR2 : Rect (ncols M) (rot s M) := fun r hr => hR r (rot_mem hr)
  have hR3 := tw_rect t hR2
  have hl := tw_length t (rot s M)
  rw [rot_length] at hl
  have hb := tw_bd ht hR2 (fun r hr => he r (rot_mem hr))
  have hc := check_rect (by omega) (by omega) hR3 fun r hr z hz => by have := hb r hr z hz; omega
  have hnn : ncols (tw t (rot s M)) = ncols M := by
    rcases Nat.eq_zero_or_pos (tw t (rot s M)).length with h0 | h0
    · have h1 : M.length = 0 := by
        rcases Nat.eq_zero_or_pos M.length with h1 | h1
        · exact h1
        · exfalso
          have hrl : 0 < (rot s M).length := by rw [rot_length]; exact h1
          generalize rot s M = O at *
          match O with
          | [] => simp at hrl
          | [a] => simp [tw] at h0
          | a :: b :: rest => simp [tw] at h0
      rw [List.eq_nil_of_length_eq_zero h0, List.eq_nil_of_length_eq_zero h1]
    · exact ncols_of hR3 h0
  refine ⟨hc, by have := bC_lim (L := (tw t (rot s M)).length) (c := ncols (tw t (rot s M))) (by omega) (by omega); omega, fun G hG => ?_⟩
  rw [hnn] at hG
  have hlat := tw_lat t hR2
  refine hF.unique hG (fun v hv => ?_) (fun v hv => ?_)
  · obtain ⟨r, hr, rfl⟩ := List.mem_map.1 hv
    exact hlat.2 _ (lat_mem (mem_rot hr))
  · refine (hlat.1 v hv).trans fun u hu => ?_
    obtain ⟨r, hr, rfl⟩ := List.mem_map.1 hu
    exact .mem (lat_mem (rot_mem hr))
theorem again_law {M F G : Mx} (h : GridM M) (hF : HnfOf (ncols M) M F) (hG : HnfOf (ncols F) F G) : F = G := by
  obtain ⟨hR, hn, hm, _⟩ := gridM_rect h
  have hRF := (grid_form h hF).2.2.2.2
  rcases Nat.eq_zero_or_pos F.length with h0 | h0
  · have hF0 := List.eq_nil_of_length_eq_zero h0
    subst hF0
    obtain ⟨⟨ps, hI⟩, _, _⟩ := hG
    rcases Nat.eq_zero_or_pos G.length with h1 | h1
    · exact (List.eq_nil_of_length_eq_zero h1).symm
    · have := hI.lt 0 h1
      simp [ncols] at this
  · rw [ncols_of hRF h0] at hG
    obtain ⟨⟨ps, hI⟩, _, _⟩ := hF
    exact HnfOf.unique (n := ncols M) ⟨⟨ps, hI⟩, fun v hv => .mem hv, fun v hv => .mem hv⟩ hG (fun v hv => .mem hv) (fun v hv => .mem hv)
/-- Each row belongs to the form's lattice. -/
theorem row_law {M F : Mx} (h : GridM M) (hF : HnfOf (ncols M) M F) : ∀ r ∈ M, openE F r = 0 ∧ inB F r = true := by
  obtain ⟨hR, hn, hm, _⟩ := gridM_rect h
  obtain ⟨_, hcF, hiF, hF4, hRF⟩ := grid_form h hF
  obtain ⟨_, _, _, _, _, he⟩ := h
  intro r hr
  constructor
  · have hx : chkRow r = 0 := by
      unfold chkRow
      have : r.any grt = false := by
        cases hq : r.any grt
        · rfl
        · obtain ⟨z, hz, hg⟩ := List.any_eq_true.1 hq
          have := he _ hr z hz
          unfold grt at hg
          have := of_decide_eq_true hg
          omega
      rw [this, if_neg (by rw [hR r hr]; omega)]; rfl
    unfold openE
    rw [if_pos hcF, if_pos hiF, if_pos hx, if_neg]
    rintro ⟨a, c⟩
    exact c ((hR r hr).trans (ncols_of hRF a).symm)
  · obtain ⟨⟨ps, hI⟩, _, h2⟩ := hF
    exact zeroB_iff.2 ((redX_zero hI (hR r hr)).2 (h2 _ (lat_mem hr)))
end Go.Proofs.YthmhmkkcjlgbjaaGreatDoor
/- schismalaw07: HermiteKeeps, the walk -/
namespace Go.Proofs.YthmhmkkcjlgbjaaGreatDoor
open Go.RowKit Go.Sort
set_option maxRecDepth 100000 in
set_option maxHeartbeats 2000000 in
theorem keep_walk {w : World} {cs : Array Value} {R C s y : Nat} (hG : GridV cs R C) (hs : s < 256) (hy : y < 256) (hL : Laid w) :
    Calls Tryz.prog 4 #[.agg cs, .int .u8 s, .int .u8 y] w fun e w' => e = .returned (.bool true) ∧ Ext w w' := by
  have hgV := heap_new w (.cells cs 25)
  have hVs : w.heap.size < (w.alloc (.cells cs 25)).heap.size := by simp
  have hEw := ((Ext.refl w).alloc (.cells cs 25))
  have HG := Lib.hid hG
  have HL := Lib.hid hL
  have hkn := Lib.hid (known_any (HL.out.ext hEw))
  obtain ⟨t, ht⟩ : ∃ t : Nat, t = y % 9 := ⟨_, rfl⟩
  have ht9 : t < 9 := by omega
  have htI : (y : Int) % 9 = (t : Int) := by omega
  have HtI := Lib.hid htI
  clear hG hL ht htI
  go_enter Tryz.func4, Tryz.ntmps4
  go_wp2_with fail
  refine hkn.out.mono ?_
  rintro e w1 ⟨rfl, hE1⟩
  clear hkn
  generalize (w.alloc (.cells cs 25)) = V at *
  have hEV1 := hEw.trans hE1
  have hmk2 := Lib.hid (Make_any (w := w1) HG.out)
  have hgr : w1.heap[w.heap.size]? = some (.cells cs 25 (0, 0)) := by rw [hE1.block _ hVs]; exact hgV
  have hinf : (Tryz.prog.info? 25).map (·.size) = some cs.size := by rw [HG.out.sz]; kernel_rfl
  go_wp2_with (refine wpList_load_row rfl 25 _ rfl w.heap.size rfl 25 cs (0, 0) _ hgr Tryz.underlying25 rfl hinf ?_)
  refine hmk2.out.mono ?_
  rintro e w2 ⟨v, M, rfl, hM, hGM, hE2⟩
  clear hmk2 hgr hinf
  have hE12 := hE1.trans hE2
  have hEV2 := hEV1.trans hE2
  obtain ⟨hRn, hn4, hm4, hck⟩ := gridM_rect hGM
  have hfo := Lib.hid (form_any hM.mat hck (by have := bC_lim (L := M.length) (c := ncols M) (by omega) (by omega); omega) (HL.out.ext hEV2))
  have HM := Lib.hid hM.mat
  have HGM := Lib.hid hGM
  have HRn := Lib.hid hRn
  clear hM hGM hck hRn hE1 hEV1
  go_wp2_with fail
  refine hfo.out.mono ?_
  rintro e w3 ⟨F, hF, hP, hE3⟩
  obtain ⟨hsm, hcF, hiF, hF4, hRF⟩ := grid_form HGM.out hF
  rw [if_pos hsm] at hP
  obtain ⟨vf, rfl, hFO⟩ := hP
  have HF := Lib.hid hF
  have HFO := Lib.hid hFO.mat
  have hEV3 := hEV2.trans hE3
  have HM3 := Lib.hid (HM.out.ext hE3)
  have hnF : ncols F ≤ 4 := Nat.le_trans (ncols_le hRF) hn4
  have hif := Lib.hid (IsForm_any HFO.out)
  have hfe : isFE F = true := by unfold isFE; rw [if_pos hcF, hiF]
  rw [hfe, hcF] at hif
  have hag := Lib.hid (fun W (hW : Ext w3 W) => form_any (HFO.out.ext hW) hcF (by have := bC_lim (L := F.length) (c := ncols F) (by omega) (by omega); omega) (HL.out.ext (hEV3.trans hW)))
  have hsm2 := Lib.hid hsm
  have hbr := Lib.hid (show ∀ r ∈ F, r.length ≤ 1000000 from fun r hr => by rw [hRF r hr]; omega)
  have HF4 := Lib.hid hF4
  have HcF := Lib.hid hcF
  have hrowL := Lib.hid (row_law HGM.out hF)
  have hkl := Lib.hid (fun t ht => keep_law (s := s) (t := t) HGM.out ht hF)
  clear hfo hsm hF hFO HM hcF hiF hF4 hRF hnF hfe
  obtain ⟨sa, gb, go, cap, vs, rfl, hcap, hvl, hSl, hr⟩ := HM3.out
  have HSl := Lib.hid hSl
  have Hvl := Lib.hid hvl
  have Hr := Lib.hid hr
  have hvf : ∃ a l c, vf = .slice a l c := by obtain ⟨sf, _, _, cf, _, h, _⟩ := HFO.out; exact ⟨_, _, _, h⟩
  obtain ⟨fa, fl, fc, hvf⟩ := hvf
  subst hvf
  clear hSl hvl hr HM3 hgV hVs
  go_wp2_with fail
  refine hif.out.mono ?_
  rintro e w4 ⟨rfl, hE4⟩
  clear hif
  go_wp2_with fail
  refine (hag.out _ hE4).mono ?_
  rintro e w5 ⟨G, hG5, hP, hE5⟩
  obtain rfl := again_law HGM.out HF.out hG5
  rw [if_pos hsm2.out] at hP
  obtain ⟨va, rfl, hva⟩ := hP
  have hE35 := hE4.trans hE5
  have heq := Lib.hid (Equal_any (HFO.out.ext hE35) hva.mat (by have := HF4.out; omega) hbr.out)
  rw [decide_eq_true rfl] at heq
  have hva2 : ∃ a l c, va = .slice a l c := by obtain ⟨sf, _, _, cf, _, h, _⟩ := hva.mat; exact ⟨_, _, _, h⟩
  obtain ⟨ga, gl, gc, hva2⟩ := hva2
  subst hva2
  clear hag hG5 hva
  go_wp2_with fail
  refine heq.out.mono ?_
  rintro e w6 ⟨rfl, hE6⟩
  have hE36 := hE35.trans hE6
  clear heq
  obtain ⟨m, hm⟩ : ∃ m, m = M.length := ⟨_, rfl⟩
  obtain ⟨n, hn⟩ : ∃ n, n = ncols M := ⟨_, rfl⟩
  rw [← hm] at hm4 hcap Hvl ⊢
  rw [← hn] at hn4 HRn
  have Hm := Lib.hid hm
  have Hn := Lib.hid hn
  clear hm hn
  go_wp2_with fail
  go_loopw [14, 15] (fun out idx wr => ∃ (k : Nat) (ad : List (Nat × Nat)), k ≤ m ∧ idx = .int .i64 k ∧ Hid (MatX w6.heap.size wr out n ((rot s M).take k) ad) ∧ Ext w6 wr) (fun _ idx _ => m - (intOf idx).toNat)
  case atStart => exact ⟨0, [], by omega, by go_num, Lib.hid (MatX.nil _ _ _), Ext.refl _⟩
  case round =>
    obtain ⟨k, ad, hk, rfl, hO, hE⟩ := hrel
    generalize wr = X at *
    have hEX := hE36.trans hE
    by_cases hlt : k < m
    · have hki : (k : Int) < (m : Int) := by omega
      obtain ⟨p, hp⟩ : ∃ p, p = (k + s) % m := ⟨_, rfl⟩
      have hpm : p < m := by rw [hp]; exact Nat.mod_lt _ (by omega)
      have hpM : p < M.length := by rw [← Hm.out]; exact hpm
      have hkM : k < M.length := by rw [← Hm.out]; exact hlt
      have hpI : ((k : Int) + (s : Int)) % (m : Int) = (p : Int) := by rw [hp, Int.natCast_emod, Int.natCast_add]
      have hpT : ((k : Int) + (s : Int)).tmod (m : Int) = (p : Int) := by rw [Int.tmod_eq_emod_of_nonneg (by omega)]; exact hpI
      have hpi : (p : Int) < (m : Int) := by omega
      have hm0 : (m : Int) ≠ 0 := by omega
      have hmb : ((m : Int) == 0) = false := beq_eq_false_iff_ne.2 hm0
      obtain ⟨sr, br, orr, cr, hrow, hrc, hSr⟩ := MatR.row HSl.out (Hvl.out.trans Hm.out) Hr.out hpM
      obtain ⟨sk, bk, ok, ck, hrowk, hrck, hSk⟩ := MatR.row HSl.out (Hvl.out.trans Hm.out) Hr.out hkM
      obtain rfl := HSl.out.addr (by rw [Hvl.out]; omega)
      have hrl : M[p].length = n := HRn.out _ (List.getElem_mem hpM)
      have hrlk : M[k].length = n := HRn.out _ (List.getElem_mem hkM)
      have hn0 : 0 < n := by
        obtain ⟨_, n', h1, _, hR', _⟩ := HGM.out
        have := hR' _ (List.getElem_mem hpM)
        omega
      have hsn := Lib.hid (rot_snoc (s := s) hkM)
      rw [← Hm.out, ← hp, getD_get hpM] at hsn
      obtain ⟨ho, hin⟩ := hrowL.out _ (List.getElem_mem hkM)
      have hxk : RowR w3 (.slice sk n ck) M[k] := ⟨sk, bk, ok, ck, by rw [hrlk], hrck, hSk⟩
      have hcn := Lib.hid (fun W (hW : Ext w3 W) => Contains_ok (HFO.out.ext hW) (hxk.ext hW) ho (HL.out.ext (hEV3.trans hW)))
      rw [hin] at hcn
      obtain ⟨r, hr9⟩ : ∃ r, r = M[p] := ⟨_, rfl⟩
      rw [← hr9] at hrow hrc hSr hrl hsn
      rw [hrl] at hrow
      rw [hrlk] at hrowk
      have hrow' := hEX.cell hrow
      have Hrk := Lib.hid hrowk
      have hrowA := ((Ext.refl X).alloc (.cells #[] 3)).cell hrow'
      have HSr := Lib.hid (hSr.ext hEX)
      have Hrl := Lib.hid hrl
      have hXs := hE.size
      have hadX := Lib.hid hO.out.lt
      have hFl : ((rot s M).take k).length = k := by rw [List.length_take, rot_length]; omega
      have HFl := Lib.hid hFl
      clear hrow hrowk hrc hrck hSr hSk hrl hrlk hr9 hp ho hin hxk hFl
      go_wp2_with (first
        | (at_builtin; refine app_intsX rfl _ _ 35 Tryz.underlying35 rfl (B := X.heap.size) rfl (row_empty (heap_new X (.cells #[] 3)) (Nat.le_refl _)) Hrl.out rfl (HSr.out.ext ((Ext.refl _).alloc _)) hn0 (by simp; omega) (by simp) ?_; intro g8 cap8 w8 hO8 hB8 hG8; simp only [List.length_nil, Nat.zero_add, List.nil_append] at hO8 ⊢; have H8 := Lib.hid (row_ownV hO8 Hrl.out); have hE8 : Ext X w8 := Below.trans ((Ext.refl X).alloc (.cells #[] 3)) hB8; have hs8 := hE8.size; have hl8 := H8.out.lt; clear hO8 hB8 hG8)
        | (at_builtin; refine app_matX rfl _ _ rfl (B := w6.heap.size) rfl ((hO.out.ext hE8).ext ((Ext.refl _).alloc _)) rfl (b := w8.heap.size) (g0 := g8) (c0 := cap8) (by go_simp) ((H8.out.mono hXs).ext ((Ext.refl _).alloc _)) Hrl.out (fun a ha => by have := hadX.out a ha; omega) (by rw [HFl.out]; omega) (by simp; omega) ?_; intro g9 cap9 w9 hO9 hB9 hG9; rw [HFl.out, ← hsn.out] at hO9; rw [HFl.out]; have HO9 := Lib.hid hO9; have hE9 : Ext w6 w9 := Below.trans ((hE.trans hE8).alloc (.cells #[slv g8 n cap8] 35)) hB9; have hE39 := hE36.trans hE9; have ck9 := hE39.cell Hrk.out; clear hO9 hB9 hG9))
      refine (hcn.out _ hE39).mono ?_
      rintro e wC ⟨rfl, hEC⟩
      have HOC := Lib.hid (HO9.out.ext hEC)
      have hE6C := hE9.trans hEC
      clear HO9 ck9 hcn
      go_wp2_with fail
      go_roundw
      case rel => exact ⟨k + 1, _, by omega, by go_num, HOC, hE6C⟩
      case measure => simp [intOf] <;> omega
    · have hke : k = m := by omega
      subst hke
      have hall : (rot s M).take k = rot s M := List.take_of_length_le (by rw [rot_length, ← Hm.out]; exact Nat.le_refl _)
      rw [hall] at hO
      have htb : -4 ≤ (t : Int) - 4 ∧ (t : Int) - 4 ≤ 4 := by omega
      have hlaw := hkl.out _ htb
      have hrl : (rot s M).length = k := by rw [rot_length, ← Hm.out]
      have hRr : ∀ r ∈ rot s M, ∀ z ∈ r, -20 ≤ z ∧ z ≤ 20 := by
        obtain ⟨_, _, _, _, _, he⟩ := HGM.out
        exact fun r hr => he r (rot_mem hr)
      clear hall
      obtain ⟨O, hOe⟩ : ∃ O, O = rot s M := ⟨_, rfl⟩
      rw [← hOe] at hO hlaw hrl hRr
      clear hOe hkl
      by_cases h1 : 1 < k
      · obtain ⟨a, b, rest, rfl⟩ : ∃ a b rest, O = a :: b :: rest := by
          match O, hrl with
          | [], h => simp at h; omega
          | [a], h => simp at h; omega
          | a :: b :: rest, _ => exact ⟨a, b, rest, rfl⟩
        obtain ⟨a0, a1, ad, rfl⟩ : ∃ a0 a1 ad', ad = a0 :: a1 :: ad' := by
          have hl := hO.out.len
          match ad, hl with
          | [], h => simp at h
          | [a], h => simp at h
          | a :: b :: rest, _ => exact ⟨a, b, rest, rfl⟩
        obtain ⟨g, cap2, hout, hcap2⟩ : ∃ g cap, u14 = slv g (rest.length + 2) cap ∧ rest.length + 2 ≤ cap := by
          rcases hO.out.own.2 with ⟨_, h0⟩ | ⟨g, cap, cur, h, _, _, hc, _⟩
          · simp at h0
          · exact ⟨g, cap, h, hc⟩
        subst hout
        have hOw : OwnV 35 w6.heap.size X g cap2 (hdX n (a0 :: a1 :: ad)) := by
          unfold OwnV
          have hl := hO.out.len
          rw [hdX_length, hl]; exact hO.out.own
        have d0 : X.cell? ⟨g, 0, none⟩ = some (slv a0.1 n a0.2) := by rw [hOw.cell (j := 0) (by simp)]; simp [hdX]
        have d1 : X.cell? ⟨g, 1, none⟩ = some (slv a1.1 n a1.2) := by rw [hOw.cell (j := 1) (by simp)]; simp [hdX]
        have la : a.length = n := hO.out.rect a (by simp)
        have lb : b.length = n := hO.out.rect b (by simp)
        have hA0 := hO.out.row 0 (by simp) (by simp)
        have hB0 := hO.out.row 1 (by simp) (by simp)
        have hne : a0.1 ≠ a1.1 := hO.out.dis 0 1 (by simp) (by simp) (by omega)
        have hg0 : g ≠ a0.1 := fun e => by
          have := own_ne (ownV_row (n := n) hA0 la) hO.out.own (by decide) (g := a0.1) rfl
          exact this (by rw [e]; rfl)
        have hg1 : g ≠ a1.1 := fun e => by
          have := own_ne (ownV_row (n := n) hB0 lb) hO.out.own (by decide) (g := a1.1) rfl
          exact this (by rw [e]; rfl)
        have hB6a := hA0.lt.1
        have hB6b := hB0.lt.1
        have HA0 := Lib.hid hA0
        have HB0 := Lib.hid hB0
        have D0 := Lib.hid d0
        have D1 := Lib.hid d1
        have Hla := Lib.hid la
        have Hlb := Lib.hid lb
        have Hlaw := Lib.hid hlaw
        have HRr := Lib.hid hRr
        have hlr : k = rest.length + 2 := by rw [← hrl]; rfl
        have Hlr := Lib.hid hlr
        have h1i : (1 : Int) < (k : Int) := by omega
        have h1r : (1 : Int) < (rest.length : Int) + 2 := by omega
        have h2r : (0 : Int) < (rest.length : Int) + 2 := by omega
        clear hOw la lb hA0 hB0 hlaw hRr hrl hlr hlt
        go_wp2_with fail
        go_loopw [18] (fun idx wr => ∃ c : Nat, c ≤ n ∧ idx = .int .i64 c ∧ Hid (OwnV 3 w6.heap.size wr a0.1 a0.2 (is (subK (-((t : Int) - 4)) a (b.take c)))) ∧ Hid (OwnV 3 w6.heap.size wr a1.1 a1.2 (is (negT c b))) ∧ Hid (Chg (fun k => k = a0.1 ∨ k = a1.1) X wr)) (fun idx _ => n - (intOf idx).toNat)
        case atStart => exact ⟨0, by omega, by go_num, Lib.hid (by rw [List.take_zero, subK_nil]; exact HA0.out), Lib.hid (by rw [negT_zero]; exact HB0.out), Lib.hid (Chg.refl _ _)⟩
        case round =>
          obtain ⟨c, hc, rfl, hA, hB, hC⟩ := hrel
          generalize wr = Y at *
          have e0 := hC.out.cell (fun h => by rcases h with h | h; exact hg0 h; exact hg1 h) D0.out
          have e1 := hC.out.cell (fun h => by rcases h with h | h; exact hg0 h; exact hg1 h) D1.out
          by_cases hcn : c < n
          · have hci : (c : Int) < (n : Int) := by omega
            have hca : c < a.length := by rw [Hla.out]; exact hcn
            have hcb : c < b.length := by rw [Hlb.out]; exact hcn
            obtain ⟨x, hx⟩ : ∃ x, x = a[c] := ⟨_, rfl⟩
            obtain ⟨z, hz⟩ : ∃ z, z = b[c] := ⟨_, rfl⟩
            have bx : -20 ≤ x ∧ x ≤ 20 := by rw [hx]; exact HRr.out a (by simp) _ (List.getElem_mem hca)
            have bz : -20 ≤ z ∧ z ≤ 20 := by rw [hz]; exact HRr.out b (by simp) _ (List.getElem_mem hcb)
            have bq := mul_80 htb bz
            obtain ⟨q, hq⟩ : ∃ q, q = ((t : Int) - 4) * z := ⟨_, rfl⟩
            have hqe : ((t : Int) - 4) * z = q := hq.symm
            rw [← hq] at bq
            have cx : Y.cell? ⟨a0.1, c, none⟩ = some (.int .i64 x) := by
              rw [hA.out.cell (j := c) (by simpa using hca), ← List.getElem?_eq_getElem, is_get (by simpa using hca), subK_get _ _ _ c hca (by rw [List.length_take]; omega), hx]
            have cz : Y.cell? ⟨a1.1, c, none⟩ = some (.int .i64 z) := by
              rw [hB.out.cell (j := c) (by simpa using hcb), ← List.getElem?_eq_getElem, is_get (by simpa using hcb)]
              have := negT_at hcb
              rw [List.getElem?_eq_getElem (by simpa using hcb)] at this
              rw [Option.some.inj this, hz]
            have Hs1 := Lib.hid (show (subK (-((t : Int) - 4)) a (b.take c)).set c (x + q) = subK (-((t : Int) - 4)) a (b.take (c + 1)) by
              rw [subK_step _ _ _ c hcb hca, ← hx, ← hz, hq, Int.neg_mul, Int.sub_neg])
            have Hs2 := Lib.hid (show (negT c b).set c (-z) = negT (c + 1) b by rw [negT_step hcb, ← hz])
            have Hw := Lib.hid (show wrap64 (x + wrap64 (((y : Int) % 9 - 4) * z)) = x + q by rw [HtI.out, hqe, IntWalk.wrap64_in q (by omega), IntWalk.wrap64_in _ (by omega)])
            have htI := HtI.out
            have k0 := cell_regrown e0
            have k1 := cell_regrown e1
            have k2 := cell_regrown cx
            have k3 := cell_regrown cz
            clear hx hz hq hca hcb
            go_wp2_with fail
            refine wp_region_quiet_tail 19 (by kernel_rfl) (by kernel_rfl) ?_
            simp only [List.take_succ_cons, List.take_zero, List.drop_succ_cons, List.drop_zero]
            repeat (quiet_step (fail))
            refine wpQuiet_nil ?_
            intro _ hw'
            obtain ⟨⟨dq, osq⟩, hw''⟩ := hw'
            subst hw''
            have hE5 := ext_regrown Y dq osq
            have hA5 := hA.out.ext hE5
            have hB5 := hB.out.ext hE5
            have g0 := hE5.cell e0
            have g1 := hE5.cell e1
            have hC5 := hC.out.trans (Chg.of_ext hE5)
            have g2 := hE5.cell cx
            have g3 := hE5.cell cz
            clear k0 k1 k2 k3 e0 e1 cx cz hE5
            generalize grow (redrawn Y dq) osq = W5 at *
            have f5 := hA5.frozen c
            obtain ⟨hA6, hG6⟩ := hA5.set c (.int .i64 (x + q))
            rw [← is_set, Hs1.out] at hA6
            have hB6 := hB5.other hG6 (fun e => hne e.symm)
            have hC6 := hC5.trans (Chg.of_grown hG6 (.inl rfl))
            have HA6 := Lib.hid hA6
            have HB6 := Lib.hid hB6
            have HC6 := Lib.hid hC6
            clear hA5 hB5 hC5 hA6 hB6 hC6 hG6
            have e0 := HC6.out.cell (fun h => by rcases h with h | h; exact hg0 h; exact hg1 h) D0.out
            have e1 := HC6.out.cell (fun h => by rcases h with h | h; exact hg0 h; exact hg1 h) D1.out
            have cz : (W5.setCell ⟨a0.1, c, none⟩ (.int .i64 (x + q))).cell? ⟨a1.1, c, none⟩ = some (.int .i64 z) := by
              rw [World.cell?_setCell_far _ _ _ _ hne]; exact g3
            have k0 := cell_regrown e0
            have k1 := cell_regrown e1
            have k3 := cell_regrown cz
            clear g0 g1 g3
            go_wp2_with fail
            rw [Hw.out]
            clear g2 f5 htI
            generalize (W5.setCell ⟨a0.1, c, none⟩ (.int .i64 (x + q))) = W6 at *
            refine wp_region_quiet_tail 12 (by kernel_rfl) (by kernel_rfl) ?_
            simp only [List.take_succ_cons, List.take_zero, List.drop_succ_cons, List.drop_zero]
            repeat (quiet_step (fail))
            refine wpQuiet_nil ?_
            intro _ hw'
            obtain ⟨⟨dq, osq⟩, hw''⟩ := hw'
            subst hw''
            have hE7 := ext_regrown W6 dq osq
            have hA7 := HA6.out.ext hE7
            have hB7 := HB6.out.ext hE7
            have hC7 := HC6.out.trans (Chg.of_ext hE7)
            have g3 := hE7.cell cz
            clear k0 k1 k3 e0 e1 cz hE7
            generalize grow (redrawn W6 dq) osq = W7 at *
            have f7 := hB7.frozen c
            obtain ⟨hB8, hG8⟩ := hB7.set c (.int .i64 (-z))
            rw [← is_set, Hs2.out] at hB8
            have hA8 := Lib.hid (hA7.other hG8 hne)
            have hC8 := Lib.hid (hC7.trans (Chg.of_grown hG8 (.inr rfl)))
            have HB8 := Lib.hid hB8
            clear hA7 hB7 hC7 hB8 hG8
            go_wp2_with fail
            go_roundw
            case rel => exact ⟨c + 1, by omega, by go_num, hA8, HB8, hC8⟩
            case measure => simp [intOf] <;> omega
          · have hcn2 : c = n := by omega
            subst hcn2
            have hA2 := hA.out
            rw [List.take_of_length_le (by rw [Hlb.out]; exact Nat.le_refl _)] at hA2
            have hB2 := hB.out
            rw [negT_all Hlb.out] at hB2
            have hMX := (hO.out.two hC.out hA2 hB2 (by rw [subK_length]; exact Hla.out) (by unfold negR; rw [List.length_map]; exact Hlb.out)).mato
            have HMX := Lib.hid hMX
            have hE6Y := hC.out.ext hE (fun k hk => by rcases hk with hk | hk; rw [hk]; exact hB6a; rw [hk]; exact hB6b)
            have hszY := hE6Y.size
            obtain ⟨i0, hi, hz0, hz1, hz2⟩ := info_parts Tryz.infoInt
            have hrl6 : rest.length + 2 ≤ 4 := by have := Hlr.out; omega
            clear hA hB hA2 hB2 hMX hO hC
            go_wp2_with (first
              | (at_make; refine wpList_make_full _ rfl _ _ 35 rfl Y.heap.size 3 i0 (.int .i64 0) 1 Tryz.underlying35 hi hz0 hz1 .i64 .i64 _ _ c rfl rfl (by omega) (by omega) (by rw [hz2]; omega) (by unfold maxLen; omega) (Nat.le_refl _) ?_; intro w8 hown8 hgrow8; have hE8 : Ext Y w8 := ext_grown hgrow8; have hs8 := hE8.size; have HR8 := Lib.hid (zero_row hown8); clear hown8 hgrow8)
              | (at_builtin; refine app_mat rfl _ _ rfl (B := w6.heap.size) rfl ((HMX.out.ext hE8).ext ((Ext.refl _).alloc _)) rfl (b := w8.heap.size) (by go_simp) ((HR8.out.mono hszY).ext ((Ext.refl _).alloc _)) (by simp; omega) (by simp; omega) ?_; intro g9 cap9 w9 hO9 hB9 hG9; have HO9 := Lib.hid hO9.mat; have hE9 : Ext w6 w9 := Below.trans ((hE6Y.trans hE8).alloc (.cells #[.slice (some ⟨Y.heap.size, 0, none⟩) c c] 35)) hB9; clear hO9 hB9 hG9))
            have hEZ3 := hE36.trans hE9
            have HMz : Hid (MatR w9 (slv g9 (rest.length + 1 + 1 + 1) cap9) (tw ((t : Int) - 4) (a :: b :: rest))) := by
              unfold Hid
              have h9 := HO9.out
              rw [← Hla.out] at h9
              exact h9
            clear HO9
            have hfr := Lib.hid (form_any HMz.out Hlaw.out.1 Hlaw.out.2.1 (HL.out.ext (hEV3.trans hEZ3)))
            refine hfr.out.mono ?_
            rintro e wF ⟨G, hG, hP, hEF⟩
            obtain rfl := Hlaw.out.2.2 G hG
            rw [if_pos hsm2.out] at hP
            obtain ⟨vg, rfl, hvg⟩ := hP
            have hEq := Lib.hid (Equal_any (HFO.out.ext (hEZ3.trans hEF)) hvg.mat (by have := HF4.out; omega) hbr.out)
            rw [decide_eq_true rfl] at hEq
            have hvg2 : ∃ a l c, vg = .slice a l c := by obtain ⟨sf, _, _, cf, _, h, _⟩ := hvg.mat; exact ⟨_, _, _, h⟩
            obtain ⟨ha, hl, hc, hvg2⟩ := hvg2
            subst hvg2
            have hfin := Lib.hid (hEV3.trans (hEZ3.trans hEF))
            clear hfr hG hvg
            go_wp2_with fail
            refine hEq.out.mono ?_
            rintro e wZ ⟨rfl, hEZ⟩
            go_wp2_with fail
            go_ret
            exact ⟨rfl, hfin.out.trans hEZ⟩
      · have htw : tw ((t : Int) - 4) O = O := by
          match O, hrl with
          | [], _ => rfl
          | [a], _ => rfl
          | a :: b :: rest, h => simp at h; omega
        rw [htw] at hlaw
        obtain ⟨oa, ol, oc, hol⟩ : ∃ a l c, u14 = .slice a l c := by
          rcases hO.out.own.2 with ⟨h, _⟩ | ⟨g, cap, cur, h, _⟩ <;> exact ⟨_, _, _, h⟩
        obtain rfl : ol = k := by
          rcases hO.out.own.2 with ⟨h, h0⟩ | ⟨g, cap, cur, h, _⟩
          · rw [hol] at h; injection h with _ h _; rw [h, ← hrl, h0]
          · rw [hol] at h; injection h with _ h _; rw [h, hrl]
        subst hol
        have h1i : ¬ (1 : Int) < (ol : Int) := by omega
        have h1d : decide ((1 : Int) < (ol : Int)) = false := decide_eq_false h1i
        have HMt := Lib.hid hO.out.mato.mat
        clear hO hrl hRr htw hlt
        have hfr := Lib.hid (form_any HMt.out hlaw.1 hlaw.2.1 (HL.out.ext (hEV3.trans hEX)))
        go_wp2_with fail
        refine hfr.out.mono ?_
        rintro e wF ⟨G, hG, hP, hEF⟩
        obtain rfl := hlaw.2.2 G hG
        rw [if_pos hsm2.out] at hP
        obtain ⟨vg, rfl, hvg⟩ := hP
        have hEq := Lib.hid (Equal_any (HFO.out.ext (hEX.trans hEF)) hvg.mat (by have := HF4.out; omega) hbr.out)
        rw [decide_eq_true rfl] at hEq
        have hvg2 : ∃ a l c, vg = .slice a l c := by obtain ⟨sf, _, _, cf, _, h, _⟩ := hvg.mat; exact ⟨_, _, _, h⟩
        obtain ⟨ha, hl, hc, hvg2⟩ := hvg2
        subst hvg2
        have hfin := Lib.hid (hEV3.trans (hEX.trans hEF))
        clear hfr hG hlaw hvg
        go_wp2_with fail
        refine hEq.out.mono ?_
        rintro e wZ ⟨rfl, hEZ⟩
        go_wp2_with fail
        go_ret
        exact ⟨rfl, hfin.out.trans hEZ⟩
end Go.Proofs.YthmhmkkcjlgbjaaGreatDoor
