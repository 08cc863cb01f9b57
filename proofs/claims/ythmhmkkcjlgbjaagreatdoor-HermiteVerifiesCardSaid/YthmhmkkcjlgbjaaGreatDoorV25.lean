/- Part 25 of the proof of the claim: contracts of the functions that it reaches, and plain laws; no condition. -/
import Derived.Test.YthmhmkkcjlgbjaaGreatDoorV24
import Derived.Test.YthmhmkkcjlgbjaaGreatDoorV15
import Derived.Test.YthmhmkkcjlgbjaaGreatDoorV14
/- schismaref07: rows of integers of the reference; ToRow -/
namespace Go.Proofs.YthmhmkkcjlgbjaaGreatDoor
open Go.RowKit Go.Sort
theorem Tryz.infoWhole : (Tryz.prog.info? 66).map (fun i => (i.zero, i.size, i.bytes)) = some (some (.agg #[.bool false, .slice none 0 0]), 2, 32) := by kernel_rfl
/-- The cells of integers. -/
def wv : List Int → List Value → List Value
  | z :: r, d :: ds => .bool (decide (z < 0)) :: d :: wv r ds
  | _, _ => []
theorem wv_length : ∀ (r : List Int) (ds : List Value), ds.length = r.length → (wv r ds).length = r.length * 2
  | [], [], _ => rfl
  | z :: r, d :: ds, h => by
    have := wv_length r ds (by simpa using h)
    simp only [wv, List.length_cons, this]; omega
theorem wv_get : ∀ (r : List Int) (ds : List Value) (i : Nat) (h : i < r.length) (h' : i < ds.length), (wv r ds)[i * 2]? = some (.bool (decide (r[i] < 0))) ∧ (wv r ds)[i * 2 + 1]? = some ds[i]
  | z :: r, d :: ds, 0, _, _ => by simp [wv]
  | z :: r, d :: ds, i + 1, h, h' => by
    have := wv_get r ds i (by simpa using h) (by simpa using h')
    rw [show (i + 1) * 2 = i * 2 + 2 by omega, show i * 2 + 2 + 1 = i * 2 + 1 + 2 by omega]
    simpa [wv] using this
theorem wv_snoc : ∀ (r : List Int) (ds : List Value) (z : Int) (d : Value), ds.length = r.length → wv (r ++ [z]) (ds ++ [d]) = wv r ds ++ [.bool (decide (z < 0)), d]
  | [], [], z, d, _ => rfl
  | y :: r, e :: ds, z, d, h => by simp only [List.cons_append, wv, wv_snoc r ds z d (by simpa using h)]
/-- A row of integers that a call has made. -/
def RwV (B : Nat) (w : World) (v : Value) (r : List Int) : Prop := ∃ ds, ds.length = r.length ∧ w.ownsRow B 66 2 v r.length (wv r ds) ∧ ∀ i (h : i < r.length) (h' : i < ds.length), DgR w ds[i] (pc r[i].natAbs)
/-- A value that reads as a row of integers. -/
def RwR (w : World) (v : Value) (r : List Int) : Prop := ∃ sa gb go cap, v = .slice sa r.length cap ∧ r.length ≤ cap ∧ (0 < r.length → sa = some ⟨gb, go, none⟩) ∧ ∀ i (h : i < r.length), ∃ d, w.cell? ⟨gb, go + i * 2, none⟩ = some (.bool (decide (r[i] < 0))) ∧ w.cell? ⟨gb, go + i * 2 + 1, none⟩ = some d ∧ DgR w d (pc r[i].natAbs)
theorem RwR.ext {w w' : World} {v : Value} {r : List Int} (h : RwR w v r) (he : Ext w w') : RwR w' v r := by
  obtain ⟨sa, gb, go, cap, e, hc, ha, hr⟩ := h
  exact ⟨sa, gb, go, cap, e, hc, ha, fun i hi => by obtain ⟨d, c0, c1, hd⟩ := hr i hi; exact ⟨d, he.cell c0, he.cell c1, hd.ext he⟩⟩
theorem RwV.ext {B : Nat} {w w' : World} {v : Value} {r : List Int} (h : RwV B w v r) (he : Ext w w') : RwV B w' v r := by
  obtain ⟨ds, h1, h2, h3⟩ := h
  exact ⟨ds, h1, ownsRow_ext h2 he, fun i a b => (h3 i a b).ext he⟩
theorem RwV.mono {B B' : Nat} {w : World} {v : Value} {r : List Int} (h : RwV B w v r) (hB : B' ≤ B) : RwV B' w v r := by
  obtain ⟨ds, h1, h2, h3⟩ := h
  exact ⟨ds, h1, ownsRow_mono h2 hB, h3⟩
theorem RwV.nil (B : Nat) (w : World) : RwV B w (.slice none 0 0) [] := ⟨[], rfl, ⟨rfl, .inl ⟨rfl, rfl⟩⟩, fun i h => by simp at h⟩
theorem RwV.row {B : Nat} {w : World} {v : Value} {r : List Int} (h : RwV B w v r) : RwR w v r := by
  obtain ⟨ds, h1, h2, h3⟩ := h
  rcases h2.2 with ⟨rfl, h0⟩ | ⟨g, cap, cur, rfl, hb, hg, hn, hm, hs, ht⟩
  · have : r = [] := List.eq_nil_of_length_eq_zero h0
    subst this
    exact ⟨none, 0, 0, 0, rfl, Nat.le_refl _, fun h => by simp at h, fun i h => by simp at h⟩
  · refine ⟨_, g, 0, cap, rfl, hn, fun _ => rfl, fun i hi => ⟨ds[i]'(by omega), ?_, ?_, h3 i hi (by omega)⟩⟩
    · have := World.ownsRow.cellAt h2 (i * 2) (by omega)
      rw [Nat.zero_add, this]; exact (wv_get r ds i hi (by omega)).1
    · have := World.ownsRow.cellAt h2 (i * 2 + 1) (by omega)
      rw [Nat.zero_add, this]; exact (wv_get r ds i hi (by omega)).2
/-- Digits are not in a block of another type. -/
theorem dig_far {r : Nat} {T : TypeId} {cur0 : Array Value} {fr0 : Nat × Nat} {w w' : World} (hg : w.heap[r]? = some (.cells cur0 T fr0)) (hT : T ≠ 3) (hG : w.grownBy w' (some r)) {v : Value} {p : List Nat} (h : DgR w v p) : DgR w' v p := by
  have hne : ∀ a n c, v = .slice (some a) n c → 0 < n → a.block ≠ r := fun a n c e h0 hr => by
    obtain ⟨cur', fr, hh⟩ := h.ty a n c e h0
    rw [hr, hg] at hh
    injection hh with hh
    injection hh with _ h3
    exact hT h3
  obtain ⟨sa, gb, go, cap, e, hc, hS⟩ := h.open
  subst e
  refine DgR.mk' rfl hc ⟨hS.addr, fun i x hx => ?_⟩ (fun a n c e h0 => ?_)
  · have hi := (List.getElem?_eq_some_iff.1 hx).1
    have ha := hS.addr (by omega)
    have hn0 : 0 < p.length := by rw [is_length, nz_length] at hi; omega
    refine grown_frozen_cell hG ?_ (hS.cell i x hx)
    exact hne ⟨gb, go, none⟩ _ _ (by rw [ha]) hn0
  · obtain ⟨cur', fr, hh⟩ := h.ty a n c e h0
    exact ⟨cur', fr, by rw [hG.block _ (Array.getElem?_eq_some_iff.1 hh).1 (fun e2 => hne a n c e h0 (Option.some.inj e2))]; exact hh⟩
theorem dig_own {B size n : Nat} {T : TypeId} {xs : List Value} {u : Value} {w w' : World} (hO : w.ownsRow B T size u n xs) (hT : T ≠ 3) (hG : w.grownBy w' u.ownBlock) {v : Value} {p : List Nat} (h : DgR w v p) : DgR w' v p := by
  rcases hO.2 with ⟨rfl, _⟩ | ⟨g, cap, cur, rfl, _, hg, _⟩
  · exact h.ext (ext_grown hG)
  · exact dig_far hg hT hG h
section
variable {w : World} {ops : Array Oper} {rest : List Oper} {o : Oper} {a : Act} {Q : Exit → Act → World → Prop}
theorem app_whole (hgd : o.guard = none) (s x : Operand) (ho : o.op = .call { callee := .builtin .append, args := #[s, x], argTypes := #[56, 56] })
    {B : Nat} {v : Value} {r : List Int} (hs : a.eval s = v) (hown : RwV B w v r) {b : Nat} {z : Int} {d : Value} (hx : a.eval x = .slice (some ⟨b, 0, none⟩) 1 1) (c0 : w.cell? ⟨b, 0, none⟩ = some (.bool (decide (z < 0)))) (c1 : w.cell? ⟨b, 1, none⟩ = some d) (hd : DgR w d (pc z.natAbs)) (hl : r.length ≤ 1000000000) (hB : B ≤ w.heap.size)
    (h : ∀ g cap w', RwV B w' (slv g (r.length + 1) cap) (r ++ [z]) → Below B w w' → w.grownBy w' v.ownBlock → wpList Tryz.prog ops Q rest (a.put o.dst (slv g (r.length + 1) cap)) w') : wpList Tryz.prog ops Q (o :: rest) a w := by
  obtain ⟨i0, hi, hz0, hz1, hz2⟩ := info_parts Tryz.infoWhole
  obtain ⟨ds, h1, h2, h3⟩ := hown
  obtain ⟨sd, nd', cd, rfl⟩ := row_shape hd.row
  refine wpList_append_lies w hgd s x 56 ho B 66 i0 _ 2 32 Tryz.underlying56 hi hz0 hz1 hz2 rfl (by omega) v r.length (wv r ds) hs h2 ⟨b, 0, none⟩ 1 1 [.bool (decide (z < 0)), .slice sd nd' cd] hx rfl ?_ ?_ (by omega) (by unfold maxLen; omega) (by omega) hB w.heap.size rfl ?_
  · intro j u hj
    rw [Lib.add_plain, Nat.zero_add]
    match j with
    | 0 => simp at hj; subst hj; exact c0
    | 1 => simp at hj; subst hj; exact c1
    | j + 2 => simp at hj
  · intro u hu
    simp only [List.mem_cons, List.not_mem_nil, or_false] at hu
    rcases hu with rfl | rfl <;> rfl
  · intro g cap w' k1 k2 k3 k4
    have hkeep : ∀ {u : Value} {p : List Nat}, DgR w u p → DgR w' u p := fun hu => dig_own h2 (by decide) k2 hu
    refine h g cap w' ⟨ds ++ [.slice sd nd' cd], by simp [h1], ?_, fun i hi1 hi2 => ?_⟩ (Below.grown (Below.refl _ _) k2 hB (fun q hq => (World.ownsRow.lt h2 q hq).1)) k2
    · rw [wv_snoc r ds z _ h1, List.length_append]; exact k1
    · rcases Nat.lt_or_ge i r.length with hlt | hge
      · simp only [List.getElem_append_left hlt, List.getElem_append_left (show i < ds.length by omega)]
        exact hkeep (h3 i hlt (by omega))
      · have hie : i = r.length := by simp at hi1; omega
        subst hie
        simp only [List.getElem_append_right (Nat.le_refl r.length), List.getElem_append_right (show ds.length ≤ r.length by omega), h1, Nat.sub_self, List.getElem_cons_zero]
        exact hkeep hd
end
set_option maxRecDepth 100000 in
set_option maxHeartbeats 1000000 in
theorem toRow_w {w : World} {v : Value} {r : List Int} (hR : RowR w v r) (h64 : ∀ z ∈ r, I64 z) (hl : r.length ≤ 1000000) (hL : Laid w) :
    Calls Tryz.prog 31 #[v] w fun e w' => ∃ u, e = .returned u ∧ RwV w.heap.size w' u r ∧ Ext w w' := by
  obtain ⟨sa, gb, go, cap, rfl, hc, hS⟩ := hR
  obtain ⟨n, hn⟩ : ∃ n, n = r.length := ⟨_, rfl⟩
  rw [← hn] at hl ⊢
  have HS := Lib.hid hS
  have Hn := Lib.hid hn
  have H64 := Lib.hid h64
  have HL := Lib.hid hL
  clear hS hn h64 hL hc
  go_enter Tryz.func31, Tryz.ntmps31
  go_wp2_with fail
  go_loopw [3, 4] (fun out idx wr => ∃ i : Nat, i ≤ n ∧ idx = .int .i64 i ∧ Hid (RwV w.heap.size wr out (r.take i)) ∧ Ext w wr) (fun _ idx _ => n - (intOf idx).toNat)
  case atStart => exact ⟨0, by omega, by go_num, Lib.hid (RwV.nil _ _), Ext.refl _⟩
  case round =>
    obtain ⟨i, hi, rfl, hO, hE⟩ := hrel
    generalize wr = X at *
    by_cases hlt : i < n
    · have hii : (i : Int) < (n : Int) := by omega
      have hir : i < r.length := by rw [← Hn.out]; exact hlt
      obtain rfl := HS.out.addr (by rw [is_length]; omega)
      obtain ⟨z, hz⟩ : ∃ z, z = r[i] := ⟨_, rfl⟩
      have cz : X.cell? ⟨gb, go + i, none⟩ = some (.int .i64 z) := by rw [hz]; exact hE.cell (HS.out.cell i _ (is_get hir))
      have hzb : I64 z := by rw [hz]; exact H64.out _ (List.getElem_mem hir)
      have hof := Lib.hid (of_w (n := z) hzb.1 hzb.2 (HL.out.ext hE))
      have hsn := Lib.hid (show r.take (i + 1) = r.take i ++ [z] by rw [hz, List.take_succ_eq_append_getElem hir])
      have hln := Lib.hid (show (r.take i).length = i by rw [List.length_take]; omega)
      clear hz hzb hir
      go_wp2_with fail
      refine hof.out.mono ?_
      rintro e W ⟨u, rfl, hu, hEW⟩
      obtain ⟨d, rfl, hd⟩ := hu
      obtain ⟨sd, nd', cd, rfl⟩ := row_shape hd.row
      have Hd := Lib.hid hd
      have HOW := Lib.hid (hO.out.ext hEW)
      have hsz := hE.size
      have hszW := hEW.size
      have hEW2 := hE.trans hEW
      clear hof hd
      go_wp2_with (at_builtin; refine app_whole rfl _ _ rfl rfl (HOW.out.ext ((Ext.refl _).alloc _)) rfl (b := W.heap.size) (z := z) (by go_simp) (by go_simp) (Hd.out.ext ((Ext.refl _).alloc _)) (by rw [hln.out]; omega) (by simp; omega) ?_; intro gg cap2 w8 hO8 hB8 hG8; rw [hln.out, ← hsn.out] at hO8; rw [hln.out])
      have hE8 : Ext w w8 := Below.trans (hEW2.alloc (.cells #[.bool (decide (z < 0)), .slice sd nd' cd] 66)) hB8
      have hO9 := Lib.hid hO8
      clear hG8 hB8 hO8
      go_wp2_with fail
      go_roundw
      case rel => exact ⟨i + 1, by omega, by go_num, hO9, hE8⟩
      case measure => simp [intOf] <;> omega
    · have hie : r.take i = r := List.take_of_length_le (by rw [← Hn.out]; omega)
      rw [hie] at hO
      go_wp2_with fail
      go_ret
      exact ⟨_, rfl, hO.out, hE⟩
end Go.Proofs.YthmhmkkcjlgbjaaGreatDoor
/- schismaref07: negative, Zero, magnitude -/
namespace Go.Proofs.YthmhmkkcjlgbjaaGreatDoor
open Go.RowKit Go.Sort
theorem RwR.at {w : World} {v : Value} {r : List Int} (h : RwR w v r) : ∃ sa gb go cap, v = .slice sa r.length cap ∧ Hid (∀ i (h : i < r.length), sa = some ⟨gb, go, none⟩ ∧ ∃ s n c, w.cell? ⟨gb, go + i * 2, none⟩ = some (.bool (decide (r[i] < 0))) ∧ w.cell? ⟨gb, go + i * 2 + 1, none⟩ = some (.slice s n c) ∧ WhR w (.agg #[.bool (decide (r[i] < 0)), .slice s n c]) r[i]) := by
  obtain ⟨sa, gb, go, cap, e, _, ha, hr⟩ := h
  refine ⟨sa, gb, go, cap, e, Lib.hid fun i hi => ⟨ha (by omega), ?_⟩⟩
  obtain ⟨d, c0, c1, hd⟩ := hr i hi
  obtain ⟨s, n, c, rfl⟩ := row_shape hd.row
  exact ⟨s, n, c, c0, c1, ⟨_, rfl, hd⟩⟩
def ngL (r : List Int) : List Int := r.map fun z => -z
set_option maxRecDepth 100000 in
set_option maxHeartbeats 1000000 in
theorem negative_w {w : World} {v : Value} {r : List Int} (hR : RwR w v r) (hb : ∀ z ∈ r, (pc z.natAbs).length ≤ 1000000000) (hl : r.length ≤ 1000000) :
    Calls Tryz.prog 103 #[v] w fun e w' => ∃ u, e = .returned u ∧ RwV w.heap.size w' u (ngL r) ∧ Ext w w' := by
  obtain ⟨sa, gb, go, cap, rfl, hS⟩ := hR.at
  obtain ⟨n, hn⟩ : ∃ n, n = r.length := ⟨_, rfl⟩
  rw [← hn] at hl ⊢
  have Hn := Lib.hid hn
  have Hb := Lib.hid hb
  clear hn hb hR
  go_enter Tryz.func103, Tryz.ntmps103
  go_wp2_with fail
  go_loopw [3, 4] (fun out idx wr => ∃ i : Nat, i ≤ n ∧ idx = .int .i64 i ∧ Hid (RwV w.heap.size wr out (ngL (r.take i))) ∧ Ext w wr) (fun _ idx _ => n - (intOf idx).toNat)
  case atStart => exact ⟨0, by omega, by go_num, Lib.hid (RwV.nil _ _), Ext.refl _⟩
  case round =>
    obtain ⟨i, hi, rfl, hO, hE⟩ := hrel
    generalize wr = X at *
    by_cases hlt : i < n
    · have hii : (i : Int) < (n : Int) := by omega
      have hir : i < r.length := by rw [← Hn.out]; exact hlt
      obtain ⟨rfl, s1, n1, k1, c0, c1, hw⟩ := hS.out i hir
      obtain ⟨z, hz⟩ : ∃ z, z = r[i] := ⟨_, rfl⟩
      rw [← hz] at c0 hw
      have hng := Lib.hid (negW_w (hw.ext hE) (by rw [hz]; exact Hb.out _ (List.getElem_mem hir)))
      have c0 := hE.cell c0
      have c1 := hE.cell c1
      have hsn := Lib.hid (show ngL (r.take (i + 1)) = ngL (r.take i) ++ [-z] by unfold ngL; rw [hz, List.take_succ_eq_append_getElem hir, List.map_append]; rfl)
      have hln := Lib.hid (show (ngL (r.take i)).length = i by unfold ngL; rw [List.length_map, List.length_take]; omega)
      generalize decide (z < 0) = bz at *
      clear hw hir hz
      go_wp2_with fail
      refine hng.out.mono ?_
      rintro e W ⟨u, rfl, hu, hEW⟩
      obtain ⟨d, rfl, hd⟩ := hu
      obtain ⟨sd, nd', cd, rfl⟩ := row_shape hd.row
      have Hd := Lib.hid hd
      have HOW := Lib.hid (hO.out.ext hEW)
      have hsz := hE.size
      have hszW := hEW.size
      have hEW2 := hE.trans hEW
      obtain ⟨bn, hbn⟩ : ∃ bn, bn = decide (-z < 0) := ⟨_, rfl⟩
      rw [← hbn]
      have Hbn := Lib.hid hbn
      clear hng hd hbn
      go_wp2_with (at_builtin; refine app_whole rfl _ _ rfl rfl (HOW.out.ext ((Ext.refl _).alloc _)) rfl (b := W.heap.size) (z := -z) (by rw [← Hbn.out]; go_simp) (by go_simp) (Hd.out.ext ((Ext.refl _).alloc _)) (by rw [hln.out]; omega) (by simp; omega) ?_; intro gg cap2 w8 hO8 hB8 hG8; rw [hln.out, ← hsn.out] at hO8; rw [hln.out])
      have hE8 : Ext w w8 := Below.trans (hEW2.alloc (.cells #[.bool bn, .slice sd nd' cd] 66)) hB8
      have hO9 := Lib.hid hO8
      clear hG8 hB8 hO8
      go_wp2_with fail
      go_roundw
      case rel => exact ⟨i + 1, by omega, by go_num, hO9, hE8⟩
      case measure => simp [intOf] <;> omega
    · have hie : r.take i = r := List.take_of_length_le (by rw [← Hn.out]; omega)
      rw [hie] at hO
      go_wp2_with fail
      go_ret
      exact ⟨_, rfl, hO.out, hE⟩
def allZ (r : List Int) : Bool := r.all fun z => z == 0
theorem allZ_no {r : List Int} {i : Nat} (h : i < r.length) (hz : r[i] ≠ 0) : allZ r = false := by
  cases hq : allZ r
  · rfl
  · have := List.all_eq_true.1 hq _ (List.getElem_mem h)
    exact absurd (by simpa using this) hz
theorem allZ_yes {r : List Int} (h : ∀ j (hj : j < r.length), r[j] = 0) : allZ r = true := by
  refine List.all_eq_true.2 fun z hz => ?_
  obtain ⟨j, hj, rfl⟩ := List.getElem_of_mem hz
  simpa using h j hj
set_option maxRecDepth 100000 in
set_option maxHeartbeats 1000000 in
theorem zero_w {w : World} {v : Value} {r : List Int} (hR : RwR w v r) (hl : r.length ≤ 1000000) :
    Calls Tryz.prog 32 #[v] w fun e w' => e = .returned (.bool (allZ r)) ∧ Ext w w' := by
  obtain ⟨sa, gb, go, cap, rfl, hS⟩ := hR.at
  obtain ⟨n, hn⟩ : ∃ n, n = r.length := ⟨_, rfl⟩
  rw [← hn] at hl ⊢
  have Hn := Lib.hid hn
  clear hn hR
  go_enter Tryz.func32, Tryz.ntmps32
  go_wp2_with fail
  go_loopw [3] (fun idx wr => ∃ i : Nat, i ≤ n ∧ idx = .int .i64 i ∧ Hid (∀ j (hj : j < r.length), j < i → r[j] = 0) ∧ Ext w wr) (fun idx _ => n - (intOf idx).toNat)
  case atStart => exact ⟨0, by omega, by go_num, Lib.hid (fun j _ h => by omega), Ext.refl _⟩
  case round =>
    obtain ⟨i, hi, rfl, hZ, hE⟩ := hrel
    generalize wr = X at *
    by_cases hlt : i < n
    · have hii : (i : Int) < (n : Int) := by omega
      have hir : i < r.length := by rw [← Hn.out]; exact hlt
      obtain ⟨rfl, s1, n1, k1, c0, c1, hw⟩ := hS.out i hir
      obtain ⟨z, hz⟩ : ∃ z, z = r[i] := ⟨_, rfl⟩
      rw [← hz] at c0 hw
      have hsg := Lib.hid (signW_w (hw.ext hE))
      have c0 := hE.cell c0
      have c1 := hE.cell c1
      have Hz := Lib.hid hz
      generalize decide (z < 0) = bz at *
      by_cases hz0 : z = 0
      · have hs : z.sign = 0 := by rw [hz0]; rfl
        rw [hs] at hsg
        have HZ2 := Lib.hid (show ∀ j (hj : j < r.length), j < i + 1 → r[j] = 0 from fun j hj h => by
          by_cases e : j = i
          · subst e; rw [← Hz.out]; exact hz0
          · exact hZ.out j hj (by omega))
        clear hw hz hs hz0
        go_wp2_with fail
        refine hsg.out.mono ?_
        rintro e W ⟨rfl, hEW⟩
        have hE2 := hE.trans hEW
        go_wp2_with fail
        go_roundw
        case rel => exact ⟨i + 1, by omega, by go_num, HZ2, hE2⟩
        case measure => simp [intOf] <;> omega
      · have hs : z.sign ≠ 0 := fun h => hz0 (Int.sign_eq_zero_iff_zero.1 h)
        have Hno := Lib.hid (allZ_no hir (by rw [← Hz.out]; exact hz0))
        generalize z.sign = cs at *
        have hb1 : (cs == 0) = false := beq_eq_false_iff_ne.2 hs
        have hb2 : (cs != 0) = true := by simp [bne, hb1]
        clear hw hz hz0
        go_wp2_with fail
        refine hsg.out.mono ?_
        rintro e W ⟨rfl, hEW⟩
        go_wp2_with fail
        go_ret
        exact ⟨by rw [Hno.out]; rfl, hE.trans hEW⟩
    · have Hyes := Lib.hid (allZ_yes (r := r) fun j hj => hZ.out j hj (by rw [← Hn.out] at hj; omega))
      go_wp2_with fail
      go_ret
      exact ⟨by rw [Hyes.out]; rfl, hE⟩
end Go.Proofs.YthmhmkkcjlgbjaaGreatDoor
/- schismaref07: less -/
namespace Go.Proofs.YthmhmkkcjlgbjaaGreatDoor
open Go.RowKit Go.Sort
section
variable {ops : Array Oper} {o : Oper} {a : Act} {K : Act → World → Prop} {Q : Exit → Act → World → Prop} {E : Prop}
theorem step_app_whole (w : World) (hgd : o.guard = none) (s x : Operand) (ho : o.op = .call { callee := .builtin .append, args := #[s, x], argTypes := #[56, 56] })
    {B : Nat} {v : Value} {r : List Int} (hs : a.eval s = v) (hown : RwV B w v r) {b : Nat} {z : Int} {d : Value} (hx : a.eval x = .slice (some ⟨b, 0, none⟩) 1 1) (c0 : w.cell? ⟨b, 0, none⟩ = some (.bool (decide (z < 0)))) (c1 : w.cell? ⟨b, 1, none⟩ = some d) (hd : DgR w d (pc z.natAbs)) (hl : r.length ≤ 1000000000) (hB : B ≤ w.heap.size)
    (h : ∀ g cap w', RwV B w' (slv g (r.length + 1) cap) (r ++ [z]) → Below B w w' → w.grownBy w' v.ownBlock → K (a.put o.dst (slv g (r.length + 1) cap)) w') : if Region.wanted o (yielded ops a.tmps) = true then Oper.wp Tryz.prog o a w K Q else E := by
  obtain ⟨i0, hi, hz0, hz1, hz2⟩ := info_parts Tryz.infoWhole
  obtain ⟨ds, h1, h2, h3⟩ := hown
  obtain ⟨sd, nd', cd, rfl⟩ := row_shape hd.row
  refine step_append_lies w hgd s x 56 ho B 66 i0 _ 2 32 Tryz.underlying56 hi hz0 hz1 hz2 rfl (by omega) v r.length (wv r ds) hs h2 ⟨b, 0, none⟩ 1 1 [.bool (decide (z < 0)), .slice sd nd' cd] hx rfl ?_ ?_ (by omega) (by unfold maxLen; omega) (by omega) hB w.heap.size rfl ?_
  · intro j u hj
    rw [Lib.add_plain, Nat.zero_add]
    match j with
    | 0 => simp at hj; subst hj; exact c0
    | 1 => simp at hj; subst hj; exact c1
    | j + 2 => simp at hj
  · intro u hu
    simp only [List.mem_cons, List.not_mem_nil, or_false] at hu
    rcases hu with rfl | rfl <;> rfl
  · intro g cap w' k1 k2 k3 k4
    have hkeep : ∀ {u : Value} {p : List Nat}, DgR w u p → DgR w' u p := fun hu => dig_own h2 (by decide) k2 hu
    refine h g cap w' ⟨ds ++ [.slice sd nd' cd], by simp [h1], ?_, fun i hi1 hi2 => ?_⟩ (Below.grown (Below.refl _ _) k2 hB (fun q hq => (World.ownsRow.lt h2 q hq).1)) k2
    · rw [wv_snoc r ds z _ h1, List.length_append]; exact k1
    · rcases Nat.lt_or_ge i r.length with hlt | hge
      · simp only [List.getElem_append_left hlt, List.getElem_append_left (show i < ds.length by omega)]
        exact hkeep (h3 i hlt (by omega))
      · have hie : i = r.length := by simp at hi1; omega
        subst hie
        simp only [List.getElem_append_right (Nat.le_refl r.length), List.getElem_append_right (show ds.length ≤ r.length by omega), h1, Nat.sub_self, List.getElem_cons_zero]
        exact hkeep hd
end
def lessL (k : Int) (x y : List Int) : List Int := List.zipWith (fun a b => a - k * b) x y
set_option maxRecDepth 100000 in
set_option maxHeartbeats 4000000 in
theorem less_w {w : World} {vx vy vk : Value} {x y : List Int} {k : Int} (hX : RwR w vx x) (hY : RwR w vy y) (hK : WhR w vk k) (hlen : y.length = x.length) (hl : x.length ≤ 1000000)
    (hbx : ∀ z ∈ x, (pc z.natAbs).length ≤ 100000000) (hby : ∀ z ∈ y, (pc z.natAbs).length ≤ 100000000) (hbk : (pc k.natAbs).length ≤ 100000000) :
    Calls Tryz.prog 63 #[vx, vy, vk] w fun e w' => ∃ u, e = .returned u ∧ RwV w.heap.size w' u (lessL k x y) ∧ Ext w w' := by
  obtain ⟨sa, gb, go, cap, rfl, hS⟩ := hX.at
  obtain ⟨sb, gy, oy, capy, rfl, hT⟩ := hY.at
  obtain ⟨bk, sk, nk, ck, rfl⟩ := hK.shape
  rw [hlen]
  obtain ⟨n, hn⟩ : ∃ n, n = x.length := ⟨_, rfl⟩
  rw [← hn] at hl hlen ⊢
  have hEw := (Ext.refl w).alloc (.cells #[.bool bk, .slice sk nk ck] 66)
  obtain ⟨f0, f1⟩ : (w.alloc (.cells #[.bool bk, .slice sk nk ck] 66)).cell? ⟨w.heap.size, 0, none⟩ = some (.bool bk) ∧ (w.alloc (.cells #[.bool bk, .slice sk nk ck] 66)).cell? ⟨w.heap.size, 1, none⟩ = some (.slice sk nk ck) := ⟨by go_simp, by go_simp⟩
  have HK := Lib.hid (hK.ext hEw)
  have Hn := Lib.hid hn
  have Hm := Lib.hid hlen
  have Hbx := Lib.hid hbx
  have Hby := Lib.hid hby
  clear hn hX hY hK hbx hby hlen
  go_enter Tryz.func63, Tryz.ntmps63
  go_wp2_with fail
  have hVs : (w.alloc (.cells #[.bool bk, .slice sk nk ck] 66)).heap.size = w.heap.size + 1 := by simp
  generalize (w.alloc (.cells #[.bool bk, .slice sk nk ck] 66)) = V at *
  go_loopw [7, 8] (fun out idx wr => ∃ i : Nat, i ≤ n ∧ idx = .int .i64 i ∧ Hid (RwV V.heap.size wr out (lessL k (x.take i) (y.take i))) ∧ Ext V wr) (fun _ idx _ => n - (intOf idx).toNat)
  case atStart => exact ⟨0, by omega, by go_num, Lib.hid (RwV.nil _ _), Ext.refl _⟩
  case round =>
    obtain ⟨i, hi, rfl, hO, hE⟩ := hrel
    generalize wr = X at *
    by_cases hlt : i < n
    · have hii : (i : Int) < (n : Int) := by omega
      have hir : i < x.length := by rw [← Hn.out]; exact hlt
      have hiy : i < y.length := by rw [Hm.out]; exact hlt
      obtain ⟨rfl, s1, n1, k1, c0, c1, hwx⟩ := hS.out i hir
      obtain ⟨rfl, s2, n2, k2, d0, d1, hwy⟩ := hT.out i hiy
      obtain ⟨p, hp⟩ : ∃ p, p = x[i] := ⟨_, rfl⟩
      obtain ⟨q, hq⟩ : ∃ q, q = y[i] := ⟨_, rfl⟩
      rw [← hp] at c0 hwx
      rw [← hq] at d0 hwy
      have hwX := hEw.trans hE
      have hbp : (pc p.natAbs).length ≤ 100000000 := by rw [hp]; exact Hbx.out _ (List.getElem_mem hir)
      have hbq : (pc q.natAbs).length ≤ 100000000 := by rw [hq]; exact Hby.out _ (List.getElem_mem hiy)
      have hbm : (pc (k * q).natAbs).length ≤ 200000000 := by rw [Int.natAbs_mul]; have := pc_mul k.natAbs q.natAbs; omega
      have hmu := Lib.hid (fun W (hW : Ext X W) => mulW_w (HK.out.ext (hE.trans hW)) (hwy.ext (hwX.trans hW)) (by omega) (by omega))
      have hsu := Lib.hid (fun W (hW : Ext X W) (v : Value) (hv : WhR W v (k * q)) => subW_w (hwx.ext (hwX.trans hW)) hv (by omega) (by omega))
      have hsn := Lib.hid (show lessL k (x.take (i + 1)) (y.take (i + 1)) = lessL k (x.take i) (y.take i) ++ [p - k * q] by
        unfold lessL
        rw [hp, hq, List.take_succ_eq_append_getElem hir, List.take_succ_eq_append_getElem hiy, List.zipWith_append (by simp; omega)]; rfl)
      have hln := Lib.hid (show (lessL k (x.take i) (y.take i)).length = i by unfold lessL; rw [List.length_zipWith, List.length_take, List.length_take]; omega)
      generalize decide (p < 0) = bp at *
      generalize decide (q < 0) = bq at *
      have C0 := Lib.hid c0
      have C1 := Lib.hid c1
      have D0 := Lib.hid d0
      have D1 := Lib.hid d1
      have dX : Ext X X.drew := (Ext.refl X).drew
      have e0 := hwX.cell c0
      have e1 := hwX.cell c1
      have e2 := hwX.cell d0
      have e3 := hwX.cell d1
      have e4 := hE.cell f0
      have e5 := hE.cell f1
      have s7 := And.intro (dX.cell e0) (And.intro (dX.cell e1) (And.intro (dX.cell e2) (And.intro (dX.cell e3) (And.intro (dX.cell e4) (dX.cell e5)))))
      have hXs := hE.size
      clear hwx hwy hp hq hir hiy hbp hbq hbm c0 c1 d0 d1
      go_wp2_with fail
      go_region_held3 (fun w' => w'.cell? ⟨gb, go + i * 2, none⟩ = some (.bool bp) ∧ w'.cell? ⟨gb, go + i * 2 + 1, none⟩ = some (.slice s1 n1 k1) ∧ w'.cell? ⟨gy, oy + i * 2, none⟩ = some (.bool bq) ∧ w'.cell? ⟨gy, oy + i * 2 + 1, none⟩ = some (.slice s2 n2 k2) ∧ w'.cell? ⟨w.heap.size, 0, none⟩ = some (.bool bk) ∧ w'.cell? ⟨w.heap.size, 1, none⟩ = some (.slice sk nk ck)) (first | exact sE | exact sA | exact sB | exact sM | exact s7 | go_keep)
        (first
          | (go_at_call 70; refine (hmu.out _ dX).mono ?_; rintro e WM ⟨vm, rfl, hvm, hEM⟩; have dM := dX.trans hEM; have Hvm := Lib.hid hvm; obtain ⟨bm, sm, nm, cm, rfl⟩ := hvm.shape; clear hvm; have sM := And.intro (dM.cell e0) (And.intro (dM.cell e1) (And.intro (dM.cell e2) (And.intro (dM.cell e3) (And.intro (dM.cell e4) (dM.cell e5))))))
          | (go_at_call 68; refine (hsu.out _ dM _ Hvm.out).mono ?_; rintro e WB ⟨vs, rfl, ⟨ds, hds, hdd⟩, hEB⟩; obtain ⟨ss', ns', cs', hdsh⟩ := row_shape hdd.row; subst hdsh; obtain ⟨bz, hbz⟩ : ∃ bz, bz = decide (p - k * q < 0) := ⟨_, rfl⟩; rw [← hbz] at hds; subst hds; have Hbz := Lib.hid hbz; have Hdd := Lib.hid hdd; clear hbz hdd; have dB := dM.trans hEB; have sB := And.intro (dB.cell e0) (And.intro (dB.cell e1) (And.intro (dB.cell e2) (And.intro (dB.cell e3) (And.intro (dB.cell e4) (dB.cell e5))))); have dA := dB.alloc (.cells #[.bool bz, .slice ss' ns' cs'] 66); have sA := And.intro (dA.cell e0) (And.intro (dA.cell e1) (And.intro (dA.cell e2) (And.intro (dA.cell e3) (And.intro (dA.cell e4) (dA.cell e5))))))
          | (refine step_app_whole _ rfl _ _ rfl rfl (hO.out.ext dA) rfl (b := WB.heap.size) (z := p - k * q) (by rw [← Hbz.out]; go_simp) (by go_simp) (Hdd.out.ext ((Ext.refl _).alloc _)) (by rw [hln.out]; omega) (by have := dB.size; simp; omega) ?_; intro gg cap2 w8 hO8 hB8 hG8; rw [hln.out, ← hsn.out] at hO8; rw [hln.out]; have hE8 : Ext V w8 := Below.trans (hE.trans dA) hB8; have hO9 := Lib.hid hO8; have dW8 := hEw.trans hE8; have sE := And.intro (dW8.cell C0.out) (And.intro (dW8.cell C1.out) (And.intro (dW8.cell D0.out) (And.intro (dW8.cell D1.out) (And.intro (hE8.cell f0) (hE8.cell f1))))); clear hG8 hB8 hO8))
      clear sE sA sB sM s7 hmu hsu
      go_wp2_with fail
      go_roundw
      case rel => exact ⟨i + 1, by omega, by go_num, hO9, hE8⟩
      case measure => simp [intOf] <;> omega
    · have hie : x.take i = x := List.take_of_length_le (by rw [← Hn.out]; omega)
      have hiy : y.take i = y := List.take_of_length_le (by rw [Hm.out]; omega)
      rw [hie, hiy] at hO
      go_wp2_with fail
      go_ret
      exact ⟨_, rfl, hO.out.mono hEw.size, hEw.trans hE⟩
end Go.Proofs.YthmhmkkcjlgbjaaGreatDoor
/- Matrices whose rows lie in blocks of their own; append of a whole row; a row of zeros. -/
namespace Go.Proofs.YthmhmkkcjlgbjaaGreatDoor
open Go.RowKit Go.Sort
def hdX (n : Nat) (ad : List (Nat × Nat)) : List Value := ad.map fun a => slv a.1 n a.2
@[simp] theorem hdX_length (n : Nat) (ad : List (Nat × Nat)) : (hdX n ad).length = ad.length := by simp [hdX]
theorem hdX_get (n : Nat) {ad : List (Nat × Nat)} {i : Nat} (h : i < ad.length) (h' : i < (hdX n ad).length) : (hdX n ad)[i] = slv ad[i].1 n ad[i].2 := by simp [hdX]
structure MatX (B : Nat) (w : World) (v : Value) (n : Nat) (F : Mx) (ad : List (Nat × Nat)) : Prop where
  len : ad.length = F.length
  rect : Rect n F
  own : w.ownsRow B 35 1 v F.length (hdX n ad)
  row : ∀ i (h : i < F.length) (h' : i < ad.length), OwnV 3 B w ad[i].1 ad[i].2 (is F[i])
  dis : ∀ i j (hi : i < ad.length) (hj : j < ad.length), i < j → ad[i].1 ≠ ad[j].1
theorem MatX.nil (B : Nat) (w : World) (n : Nat) : MatX B w (.slice none 0 0) n [] [] :=
  ⟨rfl, (fun r h => by cases h), ⟨rfl, .inl ⟨rfl, rfl⟩⟩, (fun i h => by simp at h), (fun i j h => by simp at h)⟩
theorem MatX.ext {B : Nat} {w w' : World} {v : Value} {n : Nat} {F : Mx} {ad : List (Nat × Nat)} (h : MatX B w v n F ad) (he : Ext w w') : MatX B w' v n F ad :=
  ⟨h.len, h.rect, ownsRow_ext h.own he, fun i a b => (h.row i a b).ext he, h.dis⟩
theorem ownV_row {B : Nat} {w : World} {g cap n : Nat} {r : List Int} (h : OwnV 3 B w g cap (is r)) (hn : r.length = n) : RowV B w (slv g n cap) r := by
  subst hn
  unfold RowV
  unfold OwnV at h
  rw [is_length] at h
  exact h
theorem row_ownV {B : Nat} {w : World} {g cap n : Nat} {r : List Int} (h : RowV B w (slv g n cap) r) (hn : r.length = n) : OwnV 3 B w g cap (is r) := by
  subst hn
  unfold RowV at h
  unfold OwnV
  rw [is_length]
  exact h
theorem MatX.mato {B : Nat} {w : World} {v : Value} {n : Nat} {F : Mx} {ad : List (Nat × Nat)} (h : MatX B w v n F ad) : MatO B w v F := by
  refine ⟨hdX n ad, by rw [hdX_length]; exact h.len, h.own, fun t ht ht' => ?_⟩
  have ha : t < ad.length := by rw [h.len]; exact ht
  rw [hdX_get n ha]
  exact ownV_row (h.row t ht ha) (h.rect _ (List.getElem_mem ht))
theorem MatX.lt {B : Nat} {w : World} {v : Value} {n : Nat} {F : Mx} {ad : List (Nat × Nat)} (h : MatX B w v n F ad) : ∀ a ∈ ad, a.1 < w.heap.size := by
  intro a ha
  obtain ⟨i, hi, rfl⟩ := List.getElem_of_mem ha
  exact (h.row i (by rw [← h.len]; exact hi) hi).lt.2
theorem heap_new (w : World) (o : Obj) : (w.alloc o).heap[w.heap.size]? = some o := by
  show (w.heap.push o)[w.heap.size]? = some o
  simp
theorem row_empty {w : World} {g : Nat} (h : w.heap[g]? = some (.cells #[] 3 (0, 0))) {B : Nat} (hB : B ≤ g) : RowV B w (.slice (some ⟨g, 0, none⟩) 0 0) [] :=
  ⟨rfl, .inr ⟨g, 0, #[], rfl, hB, h, Nat.le_refl _, Nat.zero_le _, rfl, rfl⟩⟩
theorem zero_row {B n g : Nat} {w : World} (h : w.ownsRow B 3 1 (.slice (some ⟨g, 0, none⟩) n n) n (madeCells (Value.int .i64 0).cells (n * 1)).toList) : RowV B w (.slice (some ⟨g, 0, none⟩) n n) (List.replicate n 0) := by
  unfold RowV
  have e : (madeCells (Value.int .i64 0).cells (n * 1)).toList = is (List.replicate n 0) := by
    rw [show (Value.int .i64 0).cells = #[.int .i64 0] from rfl, toList_madeCells_one, Nat.mul_one]; simp [is]
  rw [List.length_replicate, ← e]
  exact h
section
variable {w : World} {ops : Array Oper} {rest : List Oper} {o : Oper} {a : Act} {Q : Exit → Act → World → Prop}
/-- append(row, row2...) -/
theorem app_intsX (hgd : o.guard = none) (s x : Operand) (t : TypeId) (ht : Tryz.prog.underlying t = some (.slice 3)) (ho : o.op = .call { callee := .builtin .append, args := #[s, x], argTypes := #[t, t] })
    {B : Nat} {v : Value} {r : List Int} (hs : a.eval s = v) (hown : RowV B w v r) {sa : Option Addr} {b c gc : Nat} {z : List Int} {zl : Nat} (hzl : z.length = zl) (hx : a.eval x = .slice sa zl gc) (hS : Sl w sa b c (is z)) (h0 : 0 < zl) (hl : r.length + zl ≤ 1000000000) (hB : B ≤ w.heap.size)
    (h : ∀ g cap w', RowV B w' (slv g (r.length + zl) cap) (r ++ z) → Below B w w' → w.grownBy w' v.ownBlock → wpList Tryz.prog ops Q rest (a.put o.dst (slv g (r.length + zl) cap)) w') : wpList Tryz.prog ops Q (o :: rest) a w := by
  subst hzl
  obtain ⟨i0, hi, hz0, hz1, hz2⟩ := info_parts Tryz.infoInt
  obtain rfl := hS.addr (by rw [is_length]; exact h0)
  refine wpList_append_lies w hgd s x t ho B 3 i0 _ 1 8 ht hi hz0 hz1 hz2 rfl (by omega) v r.length (is r) hs hown ⟨b, c, none⟩ z.length gc (is z) hx (by rw [is_length, Nat.mul_one]) ?_ ?_ (by omega) (by unfold maxLen; omega) (by omega) hB w.heap.size rfl ?_
  · intro j u hj
    rw [Lib.add_plain]
    exact hS.cell j u hj
  · intro u hu
    obtain ⟨y, _, rfl⟩ := List.mem_map.1 hu
    rfl
  · intro g cap w' h1 h2 h3 h4
    refine h g cap w' ?_ (Below.grown (Below.refl _ _) h2 hB (fun q hq => (World.ownsRow.lt hown q hq).1)) h2
    unfold RowV
    rw [show is (r ++ z) = is r ++ is z by simp [is], List.length_append]; exact h1
theorem app_matX (hgd : o.guard = none) (s x : Operand) (ho : o.op = .call { callee := .builtin .append, args := #[s, x], argTypes := #[29, 29] })
    {B n : Nat} {v : Value} {F : Mx} {r : List Int} {ad : List (Nat × Nat)} {g0 c0 : Nat} (hs : a.eval s = v) (hown : MatX B w v n F ad) {b : Nat} (hx : a.eval x = .slice (some ⟨b, 0, none⟩) 1 1) (hc : w.cell? ⟨b, 0, none⟩ = some (slv g0 n c0)) (hr : OwnV 3 B w g0 c0 (is r)) (hrl : r.length = n) (hnew : ∀ a ∈ ad, a.1 ≠ g0) (hl : F.length ≤ 1000000000) (hB : B ≤ w.heap.size)
    (h : ∀ g cap w', MatX B w' (slv g (F.length + 1) cap) n (F ++ [r]) (ad ++ [(g0, c0)]) → Below B w w' → w.grownBy w' v.ownBlock → wpList Tryz.prog ops Q rest (a.put o.dst (slv g (F.length + 1) cap)) w') : wpList Tryz.prog ops Q (o :: rest) a w := by
  obtain ⟨i0, hi, hz0, hz1, hz2⟩ := info_parts Tryz.infoRow
  obtain ⟨hlen, hrect, h2, h3, hdis⟩ := hown
  refine wpList_append_lies w hgd s x 29 ho B 35 i0 _ 1 24 Tryz.underlying29 hi hz0 hz1 hz2 rfl (by omega) v F.length (hdX n ad) hs h2 ⟨b, 0, none⟩ 1 1 [slv g0 n c0] hx rfl ?_ ?_ (by omega) (by unfold maxLen; omega) (by omega) hB w.heap.size rfl ?_
  · intro j u hj
    have : j = 0 := by have := (List.getElem?_eq_some_iff.1 hj).1; simp at this; omega
    subst this
    simp only [List.getElem?_cons_zero, Option.some.injEq] at hj
    subst hj
    simpa [Addr.add_lit] using hc
  · intro u hu
    simp only [List.mem_cons, List.not_mem_nil, or_false] at hu
    subst hu; rfl
  · intro g cap w' k1 k2 k3 k4
    have hkeep : ∀ {u cu : Nat} {l : List Int}, OwnV 3 B w u cu (is l) → OwnV 3 B w' u cu (is l) := fun {u cu l} hu => by
      have h5 : RowV B w (slv u l.length cu) l := ownV_row hu rfl
      have h6 : RowV B w' (slv u l.length cu) l := own_kept h5 h2 (by decide) k2
      unfold RowV at h6
      unfold OwnV
      rw [is_length]; exact h6
    refine h g cap w' ⟨by simp [hlen], fun y hy => ?_, ?_, fun i hi1 hi2 => ?_, fun i j hi1 hj1 hij => ?_⟩ (Below.grown (Below.refl _ _) k2 hB (fun q hq => (World.ownsRow.lt h2 q hq).1)) k2
    · rcases List.mem_append.1 hy with hy | hy
      · exact hrect y hy
      · rw [List.mem_singleton.1 hy]; exact hrl
    · rw [List.length_append, show hdX n (ad ++ [(g0, c0)]) = hdX n ad ++ [slv g0 n c0] by simp [hdX]]; exact k1
    · rcases Nat.lt_or_ge i F.length with hlt | hge
      · simp only [List.getElem_append_left hlt, List.getElem_append_left (show i < ad.length by omega)]
        exact hkeep (h3 i hlt (by omega))
      · have hie : i = F.length := by simp at hi1; omega
        subst hie
        simp only [List.getElem_append_right (Nat.le_refl F.length), List.getElem_append_right (show ad.length ≤ F.length by omega), hlen, Nat.sub_self, List.getElem_cons_zero]
        exact hkeep hr
    · rw [List.length_append, List.length_singleton] at hi1 hj1
      rw [List.getElem_append_left (show i < ad.length by omega)]
      rcases Nat.lt_or_ge j ad.length with hlt | hge
      · rw [List.getElem_append_left hlt]
        exact hdis i j (by omega) hlt hij
      · have hje : j = ad.length := by omega
        subst hje
        rw [List.getElem_append_right (Nat.le_refl _)]
        simp only [Nat.sub_self, List.getElem_cons_zero]
        exact hnew _ (List.getElem_mem _)
end
/-- The two first rows of a matrix in its memory, and the others: what a store to these rows leaves. -/
theorem MatX.two {B : Nat} {w w' : World} {g cap n : Nat} {a b a' b' : List Int} {rest : Mx} {ad : List (Nat × Nat)} {a0 a1 : Nat × Nat} (h : MatX B w (slv g (rest.length + 2) cap) n (a :: b :: rest) (a0 :: a1 :: ad))
    (hC : Chg (fun k => k = a0.1 ∨ k = a1.1) w w') (h0 : OwnV 3 B w' a0.1 a0.2 (is a')) (h1 : OwnV 3 B w' a1.1 a1.2 (is b')) (l0 : a'.length = n) (l1 : b'.length = n) : MatX B w' (slv g (rest.length + 2) cap) n (a' :: b' :: rest) (a0 :: a1 :: ad) := by
  have hg0 : g ≠ a0.1 := fun e => by
    have := own_ne (ownV_row (n := n) (h.row 0 (by simp) (by simp)) (h.rect a (by simp))) h.own (by decide) (g := a0.1) rfl
    exact this (by rw [e]; rfl)
  have hg1 : g ≠ a1.1 := fun e => by
    have := own_ne (ownV_row (n := n) (h.row 1 (by simp) (by simp)) (h.rect b (by simp))) h.own (by decide) (g := a1.1) rfl
    exact this (by rw [e]; rfl)
  have hOw : OwnV 35 B w g cap (hdX n (a0 :: a1 :: ad)) := by
    unfold OwnV
    have hl := h.len
    rw [hdX_length, hl]; exact h.own
  have hOw' := hC.own (fun hk => by rcases hk with hk | hk; exact hg0 hk; exact hg1 hk) hOw
  refine ⟨h.len, fun r hr => ?_, ?_, fun i hi hi' => ?_, h.dis⟩
  · simp only [List.mem_cons] at hr
    rcases hr with rfl | rfl | hr
    · exact l0
    · exact l1
    · exact h.rect r (by simp [hr])
  · unfold OwnV at hOw'
    have hl := h.len
    simp only [List.length_cons] at hl ⊢
    rw [hdX_length] at hOw'
    simp only [List.length_cons, hl] at hOw'
    exact hOw'
  · match i, hi, hi' with
    | 0, _, _ => exact h0
    | 1, _, _ => exact h1
    | i + 2, hi, hi' =>
      have d0 := h.dis 0 (i + 2) (by simp) hi' (by omega)
      have d1 := h.dis 1 (i + 2) (by simp) hi' (by omega)
      simp only [List.length_cons] at hi
      have := h.row (i + 2) (by simp; omega) hi'
      exact hC.own (fun hk => by rcases hk with hk | hk; exact d0 hk.symm; exact d1 hk.symm) this
end Go.Proofs.YthmhmkkcjlgbjaaGreatDoor
/- schismaref07: FromRow -/
namespace Go.Proofs.YthmhmkkcjlgbjaaGreatDoor
open Go.RowKit Go.Sort
theorem fitL_no {r : List Int} {i : Nat} (h : i < r.length) (hz : ¬ (-1000000000 ≤ r[i] ∧ r[i] ≤ 1000000000)) : smallB r = false := by
  cases hq : smallB r
  · rfl
  · exact absurd (smallB_iff.1 hq _ (List.getElem_mem h)) hz
theorem fitL_yes {r : List Int} (h : ∀ j (hj : j < r.length), -1000000000 ≤ r[j] ∧ r[j] ≤ 1000000000) : smallB r = true := by
  refine smallB_iff.2 fun z hz => ?_
  obtain ⟨j, hj, rfl⟩ := List.getElem_of_mem hz
  exact h j hj
def FrPost (B : Nat) (r : List Int) (w : World) (e : Ending) (w' : World) : Prop :=
  (smallB r = true ∧ ∃ u, e = .returned (.tuple #[u, .bool true]) ∧ RowV B w' u r ∧ Ext w w') ∨ (smallB r = false ∧ e = .returned (.tuple #[.slice none 0 0, .bool false]) ∧ Ext w w')
theorem nd_pc {z : Int} {k : Nat} (h : (pc z.natAbs).length ≤ k) : nd z ≤ 9 * k + 1 := by
  have hlt := pc_lt z.natAbs
  refine nDigits_le (k := 9 * k + 1) ?_ (by omega)
  refine Nat.lt_of_lt_of_le hlt ?_
  rw [ten9]
  exact Nat.pow_le_pow_right (by omega) (by omega)
set_option maxRecDepth 100000 in
set_option maxHeartbeats 2000000 in
theorem fromRow_w {w : World} {v : Value} {r : List Int} (hR : RwR w v r) (hb : ∀ z ∈ r, (pc z.natAbs).length ≤ 100000000) (hl : r.length ≤ 1000000) (hL : Laid w) :
    Calls Tryz.prog 41 #[v] w (FrPost w.heap.size r w) := by
  obtain ⟨sa, gb, go, cap, rfl, hS⟩ := hR.at
  obtain ⟨n, hn⟩ : ∃ n, n = r.length := ⟨_, rfl⟩
  rw [← hn] at hl ⊢
  have Hn := Lib.hid hn
  have Hb := Lib.hid hb
  have HL := Lib.hid hL
  clear hn hR hb hL
  go_enter Tryz.func41, Tryz.ntmps41
  go_wp2_with fail
  go_loopw [4, 5] (fun out idx wr => ∃ i : Nat, i ≤ n ∧ idx = .int .i64 i ∧ Hid (RowV w.heap.size wr out (r.take i)) ∧ Hid (∀ j (hj : j < r.length), j < i → -1000000000 ≤ r[j] ∧ r[j] ≤ 1000000000) ∧ Ext w wr) (fun _ idx _ => n - (intOf idx).toNat)
  case atStart => exact ⟨0, by omega, by go_num, Lib.hid (row_empty (heap_new w (.cells #[] 3)) (Nat.le_refl _)), Lib.hid (fun j _ h => by omega), (Ext.refl w).alloc _⟩
  case round =>
    obtain ⟨i, hi, rfl, hO, hZ, hE⟩ := hrel
    generalize wr = X at *
    by_cases hlt : i < n
    · have hii : (i : Int) < (n : Int) := by omega
      have hir : i < r.length := by rw [← Hn.out]; exact hlt
      obtain ⟨rfl, s1, n1, k1, c0, c1, hw⟩ := hS.out i hir
      obtain ⟨z, hz⟩ : ∃ z, z = r[i] := ⟨_, rfl⟩
      rw [← hz] at c0 hw
      have hpz : (pc z.natAbs).length ≤ 100000000 := by rw [hz]; exact Hb.out _ (List.getElem_mem hir)
      have hfr := Lib.hid (from_w (hw.ext hE) hpz (HL.out.ext hE))
      have hsm := Lib.hid (small_w (z := z) (Nat.le_trans (nd_pc hpz) (by omega)))
      have c0 := hE.cell c0
      have c1 := hE.cell c1
      have Hz := Lib.hid hz
      generalize decide (z < 0) = bz at *
      by_cases hin : -1000000000 ≤ z ∧ z ≤ 1000000000
      · have hi64 : inI64 z = true := by unfold inI64; exact decide_eq_true (by omega)
        have hsn := Lib.hid (show r.take (i + 1) = r.take i ++ [z] by rw [Hz.out, List.take_succ_eq_append_getElem hir])
        have hln := Lib.hid (show (r.take i).length = i by rw [List.length_take]; omega)
        have HZ2 := Lib.hid (show ∀ j (hj : j < r.length), j < i + 1 → -1000000000 ≤ r[j] ∧ r[j] ≤ 1000000000 from fun j hj h => by
          by_cases e : j = i
          · subst e; rw [← Hz.out]; exact hin
          · exact hZ.out j hj (by omega))
        have hg1 : ¬ (1000000000 : Int) < z := by omega
        have hg2 : ¬ z < (-1000000000 : Int) := by omega
        clear hw hz hpz
        go_wp2_with fail
        refine hfr.out.mono ?_
        rintro e W1 ⟨rfl, hE1⟩
        go_wp2_with fail
        refine (hsm.out _).mono ?_
        rintro e W2 hsp
        obtain ⟨rfl, hE2⟩ := hsp
        rw [hi64, if_pos rfl]
        have hEW := hE1.trans hE2
        have HOW := Lib.hid (hO.out.ext hEW)
        have hsz := hE.size
        have hszW := hEW.size
        have hEW2 := hE.trans hEW
        clear hfr hsm
        go_wp2_with (at_builtin; refine app_int rfl _ _ 35 Tryz.underlying35 rfl rfl (HOW.out.ext ((Ext.refl _).alloc _)) rfl (b := W2.heap.size) (z := z) (by go_simp) (by rw [hln.out]; omega) (by simp; omega) ?_; intro gg cap2 w8 hO8 hB8 hG8; rw [hln.out, ← hsn.out] at hO8; rw [hln.out])
        have hE8 : Ext w w8 := Below.trans (hEW2.alloc (.cells #[.int .i64 z] 3)) hB8
        have hO9 := Lib.hid hO8
        clear hG8 hB8 hO8
        go_wp2_with fail
        go_roundw
        case rel => exact ⟨i + 1, by omega, by go_num, hO9, HZ2, hE8⟩
        case measure => simp [intOf] <;> omega
      · have hno := Lib.hid (fitL_no hir (by rw [← Hz.out]; exact hin))
        clear hw hz hpz
        go_wp2_with fail
        refine hfr.out.mono ?_
        rintro e W1 ⟨rfl, hE1⟩
        go_wp2_with fail
        refine (hsm.out _).mono ?_
        rintro e W2 hsp
        obtain ⟨rfl, hE2⟩ := hsp
        have hEW := hE.trans (hE1.trans hE2)
        have hfin := Lib.hid (show FrPost w.heap.size r w (.returned (.tuple #[.slice none 0 0, .bool false])) W2 from .inr ⟨hno.out, rfl, hEW⟩)
        clear hfr hsm
        cases hi64 : inI64 z with
        | false =>
          go_wp2_with fail
          go_ret2
          exact hfin.out
        | true =>
          rw [if_pos rfl]
          rcases Int.lt_or_le 1000000000 z with hg1 | hg1
          · go_wp2_with fail
            go_ret2
            exact hfin.out
          · have hg2 : z < (-1000000000 : Int) := by omega
            have hg3 : ¬ (1000000000 : Int) < z := by omega
            go_wp2_with fail
            go_ret2
            exact hfin.out
    · have hie : r.take i = r := List.take_of_length_le (by rw [← Hn.out]; omega)
      rw [hie] at hO
      have Hyes := Lib.hid (fitL_yes (r := r) fun j hj => hZ.out j hj (by rw [← Hn.out] at hj; omega))
      go_wp2_with fail
      go_ret2
      exact .inl ⟨Hyes.out, _, rfl, hO.out, hE⟩
end Go.Proofs.YthmhmkkcjlgbjaaGreatDoor
