/- Part 23 of the proof of the claim: contracts of the functions that it reaches, and plain laws; no condition. -/
import Derived.Test.YtokjolmpdfmnbaaGreatDoorU22
import Derived.BigQuiet
import Derived.Lib.Join
import Derived.Lib.Repeat
namespace Go.Proofs.YtokjolmpdfmnbaaGreatDoor
open Go.RowKit Go.Sort
set_option maxRecDepth 100000 in
theorem lsized_g {w : World} {k : Int} {n m co cr cu cq : Nat} {so sr su sq : Option Addr} {o r u q : List Int} (h : LayG w k n so co sr cr su cu o r u) (hq : RowR w (.slice sq m cq) q) :
    Calls Tryz.prog 71 #[layg k n so co sr cr su cu, .slice sq m cq] w fun e w' => e = .returned (.int .i64 (rowE n q)) ∧ Ext w w' := by
  have hck := Lib.hid (fun W (hW : Ext w W) => lcheck_g (h.ext hW))
  have hall := Lib.hid (fun W b (hW : Ext w W) (h0 : W.cell? ⟨b, 0, none⟩ = some (.slice sq m cq)) => CheckAll_one (n := n) (one_rowR (hq.ext hW) h0))
  have hX : Ext w (w.alloc (.cells #[.int .i64 k, .slice so n co, .slice sr n cr, .slice su n cu] 54)) := (Ext.refl w).alloc _
  clear h hq
  generalize rowE n q = z at *
  go_enter Tryz.func71, Tryz.ntmps71
  go_wp2_with fail
  refine (hck.out _ hX).mono ?_
  rintro e w1 ⟨rfl, hE1⟩
  have d1 := hE1.cell (show (w.alloc (.cells #[.int .i64 k, .slice so n co, .slice sr n cr, .slice su n cu] 54)).cell? ⟨w.heap.size, 1, none⟩ = some (.slice so n co) by go_simp)
  have dl := World.block_lt_of_cell? _ _ d1
  have hX1 := hX.trans hE1
  clear hE1 hck hX
  go_wp2_with fail
  refine (hall.out _ w1.heap.size (hX1.alloc _) (by go_simp)).mono ?_
  rintro e w2 ⟨rfl, hE2⟩
  have hX2 := (hX1.alloc (.cells #[.slice sq m cq] 32)).trans hE2
  go_wp2_with fail
  go_ret
  exact ⟨rfl, hX2⟩
def NtgP (B n : Nat) (x y : Int) (o r u : List Int) (e : Ending) (w' : World) : Prop := if chkRow (atL x y o r u) = 0 then ∃ g, e = .returned (.tuple #[slv g n n, .int .i64 0]) ∧ OwnV 3 B w' g n (is (atL x y o r u)) else e = .returned (.tuple #[.slice none 0 0, .int .i64 4])
set_option maxRecDepth 100000 in
set_option maxHeartbeats 1000000 in
theorem Note_g {w : World} {k x y : Int} {n co cr cu : Nat} {so sr su : Option Addr} {o r u : List Int} (h : LayG w k n so co sr cr su cu o r u) (hx : -1000000 ≤ x ∧ x ≤ 1000000) (hy : -1000000 ≤ y ∧ y ≤ 1000000) :
    Calls Tryz.prog 29 #[layg k n so co sr cr su cu, .agg #[.int .i64 x, .int .i64 y]] w fun e w' => NtgP w.heap.size n x y o r u e w' ∧ Ext w w' := by
  have hck := Lib.hid (fun W (hW : Ext w W) => lcheck_g (h.ext hW))
  have hfar := Lib.hid (fun W => far_any (w := W) (x := x) (y := y) (by unfold I64; omega) (by unfold I64; omega))
  have hl : (atL x y o r u).length = n := by rw [atL_length _ _ _ _ _ (by rw [h.lo, h.lr]) (by rw [h.lo, h.lu])]; exact h.lo
  have Hl := Lib.hid hl
  have hX : Ext w ((w.alloc (.cells #[.int .i64 k, .slice so n co, .slice sr n cr, .slice su n cu] 54)).alloc (.cells #[.int .i64 x, .int .i64 y] 68)) := ((Ext.refl w).alloc _).alloc _
  have hf : (decide (1000000 < max x y) || decide (min x y < -1000000)) = false := by
    simp only [Bool.or_eq_false_iff, decide_eq_false_iff_not]
    omega
  rw [hf] at hfar
  have hb : (-1000000 ≤ x ∧ x ≤ 1000000) ∧ (-1000000 ≤ y ∧ y ≤ 1000000) := ⟨hx, hy⟩
  have hat := Lib.hid (fun W (hW : Ext w W) => at_g (h.ext hW) hb.1 hb.2)
  clear h hf hl hb hx hy
  go_enter Tryz.func29, Tryz.ntmps29
  go_wp2_with fail
  refine (hck.out _ hX).mono ?_
  rintro e w1 ⟨rfl, hE1⟩
  have d0 := hE1.cell (show ((w.alloc (.cells #[.int .i64 k, .slice so n co, .slice sr n cr, .slice su n cu] 54)).alloc (.cells #[.int .i64 x, .int .i64 y] 68)).cell? ⟨w.heap.size, 0, none⟩ = some (.int .i64 k) by go_simp)
  have d1 := hE1.cell (show ((w.alloc (.cells #[.int .i64 k, .slice so n co, .slice sr n cr, .slice su n cu] 54)).alloc (.cells #[.int .i64 x, .int .i64 y] 68)).cell? ⟨w.heap.size, 1, none⟩ = some (.slice so n co) by go_simp)
  have d2 := hE1.cell (show ((w.alloc (.cells #[.int .i64 k, .slice so n co, .slice sr n cr, .slice su n cu] 54)).alloc (.cells #[.int .i64 x, .int .i64 y] 68)).cell? ⟨w.heap.size, 2, none⟩ = some (.slice sr n cr) by go_simp)
  have d3 := hE1.cell (show ((w.alloc (.cells #[.int .i64 k, .slice so n co, .slice sr n cr, .slice su n cu] 54)).alloc (.cells #[.int .i64 x, .int .i64 y] 68)).cell? ⟨w.heap.size, 3, none⟩ = some (.slice su n cu) by go_simp)
  have e0 := hE1.cell (show ((w.alloc (.cells #[.int .i64 k, .slice so n co, .slice sr n cr, .slice su n cu] 54)).alloc (.cells #[.int .i64 x, .int .i64 y] 68)).cell? ⟨w.heap.size + 1, 0, none⟩ = some (.int .i64 x) by go_simp)
  have e1 := hE1.cell (show ((w.alloc (.cells #[.int .i64 k, .slice so n co, .slice sr n cr, .slice su n cu] 54)).alloc (.cells #[.int .i64 x, .int .i64 y] 68)).cell? ⟨w.heap.size + 1, 1, none⟩ = some (.int .i64 y) by go_simp)
  have hX1 := hX.trans hE1
  clear hE1 hck hX
  go_wp2_with fail
  refine (hfar.out _).mono ?_
  rintro e w2 ⟨rfl, hE2⟩
  replace d0 := hE2.cell d0
  replace d1 := hE2.cell d1
  replace d2 := hE2.cell d2
  replace d3 := hE2.cell d3
  replace e0 := hE2.cell e0
  replace e1 := hE2.cell e1
  have hX2 := hX1.trans hE2
  clear hfar hX1 hE2
  go_wp2_with fail
  refine (hat.out _ hX2).mono ?_
  rintro e w3 ⟨g, rfl, hO3, hE3⟩
  have hcr := Lib.hid (rowCheck_any (w := w3) (v := slv g n n) (x := atL x y o r u) ⟨_, g, 0, n, by rw [Hl.out], by rw [Hl.out]; exact Nat.le_refl _, hO3.sl⟩)
  have HO3 := Lib.hid (hO3.mono hX2.size)
  have hX3 := hX2.trans hE3
  obtain ⟨z, hz⟩ : ∃ z, z = chkRow (atL x y o r u) := ⟨_, rfl⟩
  rw [← hz] at hcr
  have hz4 : z = 0 ∨ z = 4 := by rw [hz]; unfold chkRow; split; exact .inr rfl; split; exact .inr rfl; exact .inl rfl
  have Hz := Lib.hid hz
  clear hO3 hat hE3 d0 d1 d2 d3 e0 e1 hz
  rcases hz4 with rfl | rfl
  · go_wp2_with fail
    refine hcr.out.mono ?_
    rintro e w4 ⟨rfl, hE4⟩
    go_wp2_with fail
    go_ret2
    exact ⟨by unfold NtgP; rw [if_pos Hz.out.symm]; exact ⟨g, rfl, HO3.out.ext hE4⟩, hX3.trans hE4⟩
  · go_wp2_with fail
    refine hcr.out.mono ?_
    rintro e w4 ⟨rfl, hE4⟩
    go_wp2_with fail
    go_ret2
    exact ⟨by unfold NtgP; rw [if_neg (by rw [← Hz.out]; decide)]; rfl, hX3.trans hE4⟩
end Go.Proofs.YtokjolmpdfmnbaaGreatDoor
namespace Go.Proofs.YtokjolmpdfmnbaaGreatDoor
open Go.RowKit Go.Sort
section
variable {w : World} {ops : Array Oper} {rest : List Oper} {o : Oper} {a : Act} {Q : Exit → Act → World → Prop}
theorem app_rows (hgd : o.guard = none) (s x : Operand) (t : TypeId) (ht : Tryz.prog.underlying t = some (.slice 32)) (ho : o.op = .call { callee := .builtin .append, args := #[s, x], argTypes := #[t, t] })
    {B : Nat} {v rv : Value} {F : Mx} {r : List Int} (hs : a.eval s = v) (hown : MatO B w v F) {b : Nat} (hx : a.eval x = .slice (some ⟨b, 0, none⟩) 1 1) (hc : w.cell? ⟨b, 0, none⟩ = some rv) (hr : RowV B w rv r) (hl : F.length ≤ 1000000000) (hB : B ≤ w.heap.size)
    (h : ∀ g cap w', MatO B w' (slv g (F.length + 1) cap) (F ++ [r]) → Below B w w' → w.grownBy w' v.ownBlock → wpList Tryz.prog ops Q rest (a.put o.dst (slv g (F.length + 1) cap)) w') : wpList Tryz.prog ops Q (o :: rest) a w := by
  obtain ⟨i0, hi, hz0, hz1, hz2⟩ := info_parts Tryz.infoRow
  obtain ⟨vs, h1, h2, h3⟩ := hown
  refine wpList_append_lies w hgd s x t ho B 32 i0 _ 1 24 ht hi hz0 hz1 hz2 rfl (by omega) v F.length vs hs h2 ⟨b, 0, none⟩ 1 1 [rv] hx rfl ?_ ?_ (by omega) (by unfold maxLen; omega) (by omega) hB w.heap.size rfl ?_
  · intro j u hj
    have : j = 0 := by have := (List.getElem?_eq_some_iff.1 hj).1; simp at this; omega
    subst this
    simp only [List.getElem?_cons_zero, Option.some.injEq] at hj
    subst hj
    simpa [Addr.add_lit] using hc
  · intro u hu
    simp only [List.mem_cons, List.not_mem_nil, or_false] at hu
    subst hu; exact hr.one
  · intro g cap w' k1 k2 k3 k4
    have hkeep : ∀ {u : Value} {l : List Int}, RowV B w u l → RowV B w' u l := fun hu => own_kept hu h2 (by decide) k2
    refine h g cap w' ⟨vs ++ [rv], by simp [h1], ?_, fun t ht ht' => ?_⟩ (Below.grown (Below.refl _ _) k2 hB (fun q hq => (World.ownsRow.lt h2 q hq).1)) k2
    · rw [List.length_append]; exact k1
    · rcases Nat.lt_or_ge t F.length with hlt | hge
      · rw [List.getElem_append_left (by omega), List.getElem_append_left hlt]
        exact hkeep (h3 t hlt (by omega))
      · have hte : t = F.length := by simp at ht; omega
        subst hte
        rw [List.getElem_append_right (by omega), List.getElem_append_right (by omega)]
        simp only [h1, Nat.sub_self, List.getElem_cons_zero]
        exact hkeep hr
end
theorem Tryz.infoRows : (Tryz.prog.info? 28).map (fun i => (i.zero, i.size, i.bytes)) = some (some (.slice none 0 0), 1, 24) := by kernel_rfl
def BookO (B : Nat) (w : World) (v : Value) (G : List Mx) : Prop := ∃ vs, vs.length = G.length ∧ w.ownsRow B 28 1 v G.length vs ∧ ∀ t (_ : t < G.length) (h' : t < vs.length), MatO B w vs[t] G[t]
theorem BookO.nil (B : Nat) (w : World) : BookO B w (.slice none 0 0) [] := ⟨[], rfl, ⟨rfl, .inl ⟨rfl, rfl⟩⟩, fun t h => by simp at h⟩
theorem BookO.ext {B : Nat} {w w' : World} {v : Value} {G : List Mx} (h : BookO B w v G) (he : Ext w w') : BookO B w' v G := by
  obtain ⟨vs, h1, h2, h3⟩ := h
  exact ⟨vs, h1, ownsRow_ext h2 he, fun t ht ht' => (h3 t ht ht').ext he⟩
theorem BookO.mono {B B' : Nat} {w : World} {v : Value} {G : List Mx} (h : BookO B w v G) (hB : B' ≤ B) : BookO B' w v G := by
  obtain ⟨vs, h1, h2, h3⟩ := h
  exact ⟨vs, h1, ownsRow_mono h2 hB, fun t ht ht' => (h3 t ht ht').mono hB⟩
theorem mat_kept {B B' : Nat} {w w' : World} {T' : TypeId} {size' n' : Nat} {u v : Value} {F : Mx} {ys : List Value} (h : MatO B w u F) (h' : w.ownsRow B' T' size' v n' ys) (h1 : 32 ≠ T') (h2 : 3 ≠ T') (hg : w.grownBy w' v.ownBlock) : MatO B w' u F := by
  obtain ⟨vs, k1, k2, k3⟩ := h
  exact ⟨vs, k1, own_kept k2 h' h1 hg, fun t ht ht' => own_kept (k3 t ht ht') h' h2 hg⟩
theorem MatO.one {B : Nat} {w : World} {v : Value} {F : Mx} (h : MatO B w v F) : v.oneCell' = true := by
  obtain ⟨vs, k1, k2, k3⟩ := h
  rcases k2.2 with ⟨rfl, _⟩ | ⟨g, cap, cur, rfl, _⟩ <;> rfl
section
variable {w : World} {ops : Array Oper} {rest : List Oper} {o : Oper} {a : Act} {Q : Exit → Act → World → Prop}
theorem app_book (hgd : o.guard = none) (s x : Operand) (ho : o.op = .call { callee := .builtin .append, args := #[s, x], argTypes := #[56, 56] })
    {B : Nat} {v rv : Value} {G : List Mx} {F : Mx} (hs : a.eval s = v) (hown : BookO B w v G) {b : Nat} (hx : a.eval x = .slice (some ⟨b, 0, none⟩) 1 1) (hc : w.cell? ⟨b, 0, none⟩ = some rv) (hr : MatO B w rv F) (hl : G.length ≤ 1000000000) (hB : B ≤ w.heap.size)
    (h : ∀ g cap w', BookO B w' (slv g (G.length + 1) cap) (G ++ [F]) → Below B w w' → w.grownBy w' v.ownBlock → wpList Tryz.prog ops Q rest (a.put o.dst (slv g (G.length + 1) cap)) w') : wpList Tryz.prog ops Q (o :: rest) a w := by
  obtain ⟨i0, hi, hz0, hz1, hz2⟩ := info_parts Tryz.infoRows
  obtain ⟨vs, h1, h2, h3⟩ := hown
  refine wpList_append_lies w hgd s x 56 ho B 28 i0 _ 1 24 Tryz.underlying56 hi hz0 hz1 hz2 rfl (by omega) v G.length vs hs h2 ⟨b, 0, none⟩ 1 1 [rv] hx rfl ?_ ?_ (by omega) (by unfold maxLen; omega) (by omega) hB w.heap.size rfl ?_
  · intro j u hj
    have : j = 0 := by have := (List.getElem?_eq_some_iff.1 hj).1; simp at this; omega
    subst this
    simp only [List.getElem?_cons_zero, Option.some.injEq] at hj
    subst hj
    simpa [Addr.add_lit] using hc
  · intro u hu
    simp only [List.mem_cons, List.not_mem_nil, or_false] at hu
    subst hu; exact hr.one
  · intro g cap w' k1 k2 k3 k4
    have hkeep : ∀ {u : Value} {F : Mx}, MatO B w u F → MatO B w' u F := fun hu => mat_kept hu h2 (by decide) (by decide) k2
    refine h g cap w' ⟨vs ++ [rv], by simp [h1], ?_, fun t ht ht' => ?_⟩ (Below.grown (Below.refl _ _) k2 hB (fun q hq => (World.ownsRow.lt h2 q hq).1)) k2
    · rw [List.length_append]; exact k1
    · rcases Nat.lt_or_ge t G.length with hlt | hge
      · rw [List.getElem_append_left (by omega), List.getElem_append_left hlt]
        exact hkeep (h3 t hlt (by omega))
      · have hte : t = G.length := by simp at ht; omega
        subst hte
        rw [List.getElem_append_right (by omega), List.getElem_append_right (by omega)]
        simp only [h1, Nat.sub_self, List.getElem_cons_zero]
        exact hkeep hr
end
def winRow (m : Nat) (y : Int) (o r u : List Int) (t : Nat) : Mx := (List.range t).map fun (x : Nat) => atL ((x : Int) - m) y o r u
def winTo (m : Nat) (o r u : List Int) (t : Nat) : List Mx := (List.range t).map fun (y : Nat) => winRow m ((y : Int) - m) o r u (2 * m + 1)
theorem winRow_length (m : Nat) (y : Int) (o r u : List Int) (t : Nat) : (winRow m y o r u t).length = t := by simp [winRow]
theorem winTo_length (m : Nat) (o r u : List Int) (t : Nat) : (winTo m o r u t).length = t := by simp [winTo]
theorem winRow_succ (m : Nat) (y : Int) (o r u : List Int) (t : Nat) : winRow m y o r u (t + 1) = winRow m y o r u t ++ [atL ((t : Int) - m) y o r u] := by
  simp [winRow, List.range_succ]
theorem winTo_succ (m : Nat) (o r u : List Int) (t : Nat) : winTo m o r u (t + 1) = winTo m o r u t ++ [winRow m ((t : Int) - m) o r u (2 * m + 1)] := by
  simp [winTo, List.range_succ]
def kyRow (m : Nat) (q : List Int) (y : Int) (o r u : List Int) (t : Nat) : List (Int × Int) := (List.range t).flatMap fun (x : Nat) => if atL ((x : Int) - m) y o r u = q then [((x : Int) - m, y)] else []
def kyTo (m : Nat) (q : List Int) (o r u : List Int) (t : Nat) : List (Int × Int) := (List.range t).flatMap fun (y : Nat) => kyRow m q ((y : Int) - m) o r u (2 * m + 1)
theorem kyRow_succ (m : Nat) (q : List Int) (y : Int) (o r u : List Int) (t : Nat) : kyRow m q y o r u (t + 1) = kyRow m q y o r u t ++ (if atL ((t : Int) - m) y o r u = q then [((t : Int) - m, y)] else []) := by
  simp [kyRow, List.range_succ]
theorem kyTo_succ (m : Nat) (q : List Int) (o r u : List Int) (t : Nat) : kyTo m q o r u (t + 1) = kyTo m q o r u t ++ kyRow m q ((t : Int) - m) o r u (2 * m + 1) := by
  simp [kyTo, List.range_succ]
theorem kyRow_le (m : Nat) (q : List Int) (y : Int) (o r u : List Int) : ∀ t, (kyRow m q y o r u t).length ≤ t
  | 0 => by simp [kyRow]
  | t + 1 => by
    rw [kyRow_succ, List.length_append]
    have := kyRow_le m q y o r u t
    split <;> simp <;> omega
theorem kyTo_le (m : Nat) (q : List Int) (o r u : List Int) : ∀ t, (kyTo m q o r u t).length ≤ (2 * m + 1) * t
  | 0 => by simp [kyTo]
  | t + 1 => by
    rw [kyTo_succ, List.length_append, Nat.mul_succ]
    have := kyTo_le m q o r u t
    have := kyRow_le m q ((t : Int) - m) o r u (2 * m + 1)
    omega
end Go.Proofs.YtokjolmpdfmnbaaGreatDoor
namespace Go.Proofs.YtokjolmpdfmnbaaGreatDoor
open Go.RowKit Go.Sort
def winE (z : Int) : Int := if z < 0 ∨ 20 < z then 3 else 0
theorem window_any (z : Int) (w : World) : Calls Tryz.prog 70 #[.int .i64 z] w fun e w' => e = .returned (.int .i64 (winE z)) ∧ Ext w w' := by
  unfold winE
  by_cases h1 : z < 0
  · rw [if_pos (.inl h1)]
    go_enter Tryz.func70, Tryz.ntmps70
    go_wp2_with fail
    go_ret
    exact ⟨rfl, Ext.refl _⟩
  · by_cases h2 : 20 < z
    · rw [if_pos (.inr h2)]
      have h3 : z > 20 := h2
      go_enter Tryz.func70, Tryz.ntmps70
      go_wp2_with fail
      go_ret
      exact ⟨rfl, Ext.refl _⟩
    · rw [if_neg (by omega)]
      have h3 : ¬ z > 20 := h2
      go_enter Tryz.func70, Tryz.ntmps70
      go_wp2_with fail
      go_ret
      exact ⟨rfl, Ext.refl _⟩
theorem OwnV.rowV {B : Nat} {w : World} {g n : Nat} {x : List Int} (h : OwnV 3 B w g n (is x)) (hl : x.length = n) : RowV B w (slv g n n) x := by
  subst hl
  unfold OwnV at h; unfold RowV
  simpa using h
theorem MatO.shape {B : Nat} {w : World} {v : Value} {F : Mx} (h : MatO B w v F) (h0 : 0 < F.length) : ∃ g cap, v = slv g F.length cap := by
  obtain ⟨vs, k1, k2, k3⟩ := h
  rcases k2.2 with ⟨_, he⟩ | ⟨g, cap, cur, rfl, _⟩
  · rw [he] at k1; simp at k1; omega
  · exact ⟨g, cap, rfl⟩
theorem BookO.shape {B : Nat} {w : World} {v : Value} {F : List Mx} (h : BookO B w v F) (h0 : 0 < F.length) : ∃ g cap, v = slv g F.length cap := by
  obtain ⟨vs, k1, k2, k3⟩ := h
  rcases k2.2 with ⟨_, he⟩ | ⟨g, cap, cur, rfl, _⟩
  · rw [he] at k1; simp at k1; omega
  · exact ⟨g, cap, rfl⟩
theorem winRow_c (m : Nat) (y : Int) (o r u : List Int) {x : Int} (hx : -(m : Int) ≤ x) : winRow m y o r u (x + 1 + m).toNat = winRow m y o r u (x + m).toNat ++ [atL x y o r u] := by
  obtain ⟨t, ht⟩ : ∃ t : Nat, x = (t : Int) - m := ⟨(x + m).toNat, by omega⟩
  subst ht
  rw [show ((t : Int) - m + 1 + m).toNat = t + 1 by omega, show ((t : Int) - m + m).toNat = t by omega, winRow_succ]
theorem winTo_c (m : Nat) (o r u : List Int) {y : Int} (hy : -(m : Int) ≤ y) : winTo m o r u (y + 1 + m).toNat = winTo m o r u (y + m).toNat ++ [winRow m y o r u (2 * m + 1)] := by
  obtain ⟨t, ht⟩ : ∃ t : Nat, y = (t : Int) - m := ⟨(y + m).toNat, by omega⟩
  subst ht
  rw [show ((t : Int) - m + 1 + m).toNat = t + 1 by omega, show ((t : Int) - m + m).toNat = t by omega, winTo_succ]
structure LayC (w : World) (b : Nat) (k : Int) (n go co gr cr gu cu : Nat) : Prop where
  c0 : w.cell? ⟨b, 0, none⟩ = some (.int .i64 k)
  c1 : w.cell? ⟨b, 1, none⟩ = some (slv go n co)
  c2 : w.cell? ⟨b, 2, none⟩ = some (slv gr n cr)
  c3 : w.cell? ⟨b, 3, none⟩ = some (slv gu n cu)
theorem LayC.ext {w w' : World} {b : Nat} {k : Int} {n go co gr cr gu cu : Nat} (h : LayC w b k n go co gr cr gu cu) (he : Ext w w') : LayC w' b k n go co gr cr gu cu :=
  ⟨he.cell h.c0, he.cell h.c1, he.cell h.c2, he.cell h.c3⟩
theorem layC_new (w : World) (k : Int) (n go co gr cr gu cu : Nat) : LayC (w.alloc (.cells #[.int .i64 k, slv go n co, slv gr n cr, slv gu n cu] 54)) w.heap.size k n go co gr cr gu cu :=
  ⟨by go_simp, by go_simp, by go_simp, by go_simp⟩
end Go.Proofs.YtokjolmpdfmnbaaGreatDoor
namespace Go.Proofs.YtokjolmpdfmnbaaGreatDoor
open Go.RowKit Go.Sort
structure LayCG (w : World) (b : Nat) (k : Int) (n : Nat) (so : Option Addr) (co : Nat) (sr : Option Addr) (cr : Nat) (su : Option Addr) (cu : Nat) : Prop where
  c0 : w.cell? ⟨b, 0, none⟩ = some (.int .i64 k)
  c1 : w.cell? ⟨b, 1, none⟩ = some (.slice so n co)
  c2 : w.cell? ⟨b, 2, none⟩ = some (.slice sr n cr)
  c3 : w.cell? ⟨b, 3, none⟩ = some (.slice su n cu)
theorem LayCG.ext {w w' : World} {b : Nat} {k : Int} {n co cr cu : Nat} {so sr su : Option Addr} (h : LayCG w b k n so co sr cr su cu) (he : Ext w w') : LayCG w' b k n so co sr cr su cu :=
  ⟨he.cell h.c0, he.cell h.c1, he.cell h.c2, he.cell h.c3⟩
theorem layCg_new (w : World) (k : Int) (n : Nat) (so : Option Addr) (co : Nat) (sr : Option Addr) (cr : Nat) (su : Option Addr) (cu : Nat) : LayCG (w.alloc (.cells #[.int .i64 k, .slice so n co, .slice sr n cr, .slice su n cu] 54)) w.heap.size k n so co sr cr su cu :=
  ⟨by go_simp, by go_simp, by go_simp, by go_simp⟩
def AllG (M : Int) (o r u : List Int) : Prop := ∀ x y : Int, -M ≤ x → x ≤ M → -M ≤ y → y ≤ M → chkRow (atL x y o r u) = 0
def WinG (B m : Nat) (o r u : List Int) (e : Ending) (w' : World) : Prop :=
  (AllG m o r u ∧ ∃ v, e = .returned (.tuple #[v, .int .i64 0]) ∧ BookO B w' v (winTo m o r u (2 * m + 1))) ∨ (¬ AllG m o r u ∧ e = .returned (.tuple #[.slice none 0 0, .int .i64 4]))
def RowsG (M y : Int) (o r u : List Int) : Prop := ∀ x z : Int, -M ≤ x → x ≤ M → -M ≤ z → z < y → chkRow (atL x z o r u) = 0
def LineG (M x y : Int) (o r u : List Int) : Prop := ∀ z : Int, -M ≤ z → z < x → chkRow (atL z y o r u) = 0
theorem RowsG.next {M y : Int} {o r u : List Int} (h : RowsG M y o r u) (h2 : LineG M (M + 1) y o r u) : RowsG M (y + 1) o r u := fun x z h3 h4 h5 h6 => by
  by_cases e : z = y
  · subst e; exact h2 x h3 (by omega)
  · exact h x z h3 h4 h5 (by omega)
theorem LineG.next {M x y : Int} {o r u : List Int} (h : LineG M x y o r u) (h2 : chkRow (atL x y o r u) = 0) : LineG M (x + 1) y o r u := fun z h3 h4 => by
  by_cases e : z = x
  · subst e; exact h2
  · exact h z h3 (by omega)
set_option maxRecDepth 100000 in
set_option maxHeartbeats 2000000 in
theorem Window_g {w : World} {k : Int} {n co cr cu m : Nat} {so sr su : Option Addr} {o r u : List Int} (h : LayG w k n so co sr cr su cu o r u) (hm : m ≤ 20) :
    Calls Tryz.prog 26 #[layg k n so co sr cr su cu, .int .i64 m] w fun e w' => WinG w.heap.size m o r u e w' ∧ Ext w w' := by
  have hck := Lib.hid (fun W (hW : Ext w W) => lcheck_g (h.ext hW))
  have hwn := Lib.hid (fun W => window_any (m : Int) W)
  rw [show winE (m : Int) = 0 by unfold winE; rw [if_neg (by omega)]] at hwn
  have hnt := Lib.hid (fun W (x y : Int) (hW : Ext w W) (h1 : -20 ≤ x ∧ x ≤ 20) (h2 : -20 ≤ y ∧ y ≤ 20) => Note_g (h.ext hW) (x := x) (y := y) (by omega) (by omega))
  have hol : ∀ x y, (atL x y o r u).length = n := fun x y => by rw [atL_length _ _ _ _ _ (by rw [h.lo, h.lr]) (by rw [h.lo, h.lu])]; exact h.lo
  have Hol := Lib.hid hol
  obtain ⟨M, hM⟩ : ∃ M : Int, M = (m : Int) := ⟨_, rfl⟩
  have hM1 : 0 ≤ M := by omega
  have hM2 : M ≤ 20 := by omega
  rw [← hM] at hwn ⊢
  have HM := Lib.hid hM
  have hX : Ext w (w.alloc (.cells #[.int .i64 k, .slice so n co, .slice sr n cr, .slice su n cu] 54)) := (Ext.refl w).alloc _
  have hb := layCg_new w k n so co sr cr su cu
  obtain ⟨b, hbb⟩ : ∃ b, b = w.heap.size := ⟨_, rfl⟩
  clear h hol hm hM
  go_enter Tryz.func26, Tryz.ntmps26
  go_wp2_with fail
  refine (hck.out _ hX).mono ?_
  rintro e w1 ⟨rfl, hE1⟩
  have hb1 := hb.ext hE1
  have hX1 := hX.trans hE1
  clear hE1 hck hX hb
  go_wp2_with fail
  refine (hwn.out _).mono ?_
  rintro e w2 ⟨rfl, hE2⟩
  have hb2 := Lib.hid (hb1.ext hE2)
  have hX2 := hX1.trans hE2
  have hneg : IntKind.i64.wrap (-M) = -M := IntWalk.i64_in _ (by omega)
  rw [← hbb] at hb2
  clear hE2 hwn hX1 hb1
  rw [← hbb]
  clear hbb
  go_wp2_with fail
  go_loopw [8, 9, 10, 11, 12, 13] (fun out yv line xv rv ev wr => ∃ y : Int, -M ≤ y ∧ y ≤ M + 1 ∧ yv = .int .i64 y ∧ Hid (BookO w2.heap.size wr out (winTo m o r u (y + m).toNat)) ∧ Hid (RowsG M y o r u) ∧ Ext w2 wr) (fun _ yv _ _ _ _ _ => (M + 1 - intOf yv).toNat)
  case atStart => exact ⟨-M, by omega, by omega, rfl, Lib.hid (by rw [HM.out, show (-(m : Int) + m).toNat = 0 by omega]; exact BookO.nil _ _), Lib.hid (fun x z _ _ h5 h6 => by omega), Ext.refl _⟩
  case round =>
    obtain ⟨y, hy1, hy2, rfl, hO, HRo, hE3⟩ := hrel
    generalize wr = Y at *
    by_cases hy3 : y ≤ M
    · go_wp2_with fail
      go_loopw [10, 11, 12, 13] (fun line xv rv ev wr => ∃ x : Int, -M ≤ x ∧ x ≤ M + 1 ∧ xv = .int .i64 x ∧ Hid (MatO Y.heap.size wr line (winRow m y o r u (x + m).toNat)) ∧ Hid (LineG M x y o r u) ∧ Ext Y wr) (fun _ xv _ _ _ => (M + 1 - intOf xv).toNat)
      case atStart => exact ⟨-M, by omega, by omega, rfl, Lib.hid (by rw [HM.out, show (-(m : Int) + m).toNat = 0 by omega]; exact MatO.nil _ _), Lib.hid (fun z h5 h6 => by omega), Ext.refl _⟩
      case round =>
        obtain ⟨x, hx1, hx2, rfl, hI, HLi, hE4⟩ := hrel
        generalize wr = Z at *
        have hXZ := hX2.trans (hE3.trans hE4)
        by_cases hx3 : x ≤ M
        · have hb5 := hb2.out.ext (hE3.trans hE4)
          obtain ⟨c0, c1, c2, c3⟩ := hb5
          have hn := hnt.out Z x y hXZ ⟨by omega, by omega⟩ ⟨by omega, by omega⟩
          have Hx := Lib.hid hx1
          by_cases hc : chkRow (atL x y o r u) = 0
          · simp only [NtgP, if_pos hc] at hn
            replace hn := Lib.hid hn
            have HL2 := Lib.hid (HLi.out.next hc)
            clear hc HLi
            go_wp2_with fail
            refine hn.out.mono ?_
            rintro e w5 ⟨⟨g, rfl, hO5⟩, hE5⟩
            have HR := Lib.hid ((hO5.rowV (Hol.out x y)).mono hE4.size)
            have hE6 := hE4.trans hE5
            have HI := Lib.hid (hI.out.ext hE5)
            have hstep := winRow_c m y o r u (x := x) (by rw [← HM.out]; exact Hx.out)
            have Hstep := Lib.hid hstep
            have Hln := Lib.hid (show (winRow m y o r u (x + m).toNat).length ≤ 1000 by rw [winRow_length, ← HM.out]; omega)
            have hs6 := hE6.size
            clear hn hO5 hI c0 c1 c2 c3 hstep
            go_wp2_with (at_builtin; refine app_rows rfl _ _ _ Tryz.underlying28 rfl rfl (HI.out.ext ((Ext.refl _).alloc _)) rfl (b := w5.heap.size) (rv := slv g n n) (r := atL x y o r u) (by go_simp) (HR.out.ext ((Ext.refl _).alloc _)) (by have := Hln.out; omega) (by simp; omega) ?_; intro gg cap2 w8 hO8 hB8 hG8; rw [← Hstep.out] at hO8; have hE8 := Below.trans (hE6.alloc _) hB8; replace hO8 := Lib.hid hO8; clear hB8 hG8)
            refine ⟨⟨x + 1, by omega, by omega, by go_num, hO8, HL2, hE8⟩, by simp [intOf]; omega⟩
          · have Hc := Lib.hid (show ¬ AllG m o r u from fun hA => hc (hA x y (by rw [← HM.out]; exact hx1) (by rw [← HM.out]; exact hx3) (by rw [← HM.out]; exact hy1) (by rw [← HM.out]; exact hy3)))
            simp only [NtgP, if_neg hc] at hn
            replace hn := Lib.hid hn
            clear hc HLi hI hO
            go_wp2_with fail
            refine hn.out.mono ?_
            rintro e w5 ⟨rfl, hE5⟩
            have hXe := hXZ.trans hE5
            go_wp2_with fail
            go_ret2
            exact ⟨.inr ⟨Hc.out, rfl⟩, hXe⟩
        · have hxe : x = M + 1 := by omega
          have HR2 := Lib.hid (HRo.out.next (by have := HLi.out; rw [hxe] at this; exact this))
          have hT := hI.out
          rw [hxe, show (M + 1 + (m : Int)).toNat = 2 * m + 1 by rw [HM.out]; omega] at hT
          obtain ⟨g, cp, rfl⟩ := hT.shape (by rw [winRow_length]; omega)
          have hsY := hE3.size
          have HT := Lib.hid (hT.mono hsY)
          have HO4 := Lib.hid (hO.out.ext hE4)
          have Hy := Lib.hid hy1
          have hstep := winTo_c m o r u (y := y) (by rw [← HM.out]; exact Hy.out)
          have Hstep := Lib.hid hstep
          have Hln := Lib.hid (show (winTo m o r u (y + m).toNat).length ≤ 1000 by rw [winTo_length, ← HM.out]; omega)
          have hE6 := hE3.trans hE4
          have hs6 := hE6.size
          clear hT hI hO hstep
          go_wp2_with (at_builtin; go_loud (refine app_book rfl _ _ rfl rfl (HO4.out.ext ((Ext.refl _).alloc _)) rfl (b := Z.heap.size) (rv := slv g (winRow m y o r u (2 * m + 1)).length cp) (F := winRow m y o r u (2 * m + 1)) (by go_simp) (HT.out.ext ((Ext.refl _).alloc _)) (by have := Hln.out; omega) (by simp; omega) ?_; intro gg cap2 w8 hO8 hB8 hG8; rw [← Hstep.out] at hO8; have hE8 := Below.trans (hE6.alloc _) hB8; replace hO8 := Lib.hid hO8; clear hB8 hG8))
          refine ⟨⟨y + 1, by omega, by omega, by go_num, hO8, HR2, hE8⟩, by simp [intOf]; omega⟩
    · have hye : y = M + 1 := by omega
      have hT := hO.out
      rw [hye, show (M + 1 + (m : Int)).toNat = 2 * m + 1 by rw [HM.out]; omega] at hT
      have HA := Lib.hid (show AllG m o r u from fun x z h1 h2 h3 h4 => HRo.out x z (by rw [HM.out]; exact h1) (by rw [HM.out]; exact h2) (by rw [HM.out]; exact h3) (by rw [hye, HM.out]; omega))
      have HT := Lib.hid (hT.mono hX2.size)
      have HX := Lib.hid (hX2.trans hE3)
      clear hT hO
      go_wp2_with fail
      go_ret2
      exact ⟨.inl ⟨HA.out, _, rfl, HT.out⟩, HX.out⟩
end Go.Proofs.YtokjolmpdfmnbaaGreatDoor
namespace Go.Proofs.YtokjolmpdfmnbaaGreatDoor
open Go.RowKit Go.Sort
abbrev Nm := ByteArray × List Int
def wdT : List Nm → Nat → Nat
  | [], a => a
  | p :: t, a => wdT t (max a p.1.size)
def picE (n : Nat) : List Nm → Int
  | [] => 0
  | p :: t => if p.1.size = 0 then 13 else if rowE n p.2 = 0 then picE n t else rowE n p.2
def nameOf (q : List Int) : List Nm → ByteArray
  | [] => ⟨#[46]⟩
  | p :: t => if p.2 = q then p.1 else nameOf q t
theorem picE_next {n : Nat} {ns : List Nm} {i : Nat} (h : i < ns.length) (h0 : ns[i].1.size ≠ 0) (h1 : rowE n ns[i].2 = 0) : picE n (ns.drop i) = picE n (ns.drop (i + 1)) := by
  rw [List.drop_eq_getElem_cons h, picE, if_neg h0, if_pos h1]
theorem picE_empty {n : Nat} {ns : List Nm} {i : Nat} (h : i < ns.length) (h0 : ns[i].1.size = 0) : picE n (ns.drop i) = 13 := by
  rw [List.drop_eq_getElem_cons h, picE, if_pos h0]
theorem picE_row {n : Nat} {ns : List Nm} {i : Nat} (h : i < ns.length) (h0 : ns[i].1.size ≠ 0) (h1 : rowE n ns[i].2 ≠ 0) : picE n (ns.drop i) = rowE n ns[i].2 := by
  rw [List.drop_eq_getElem_cons h, picE, if_neg h0, if_neg h1]
theorem wdT_drop {ns : List Nm} {i a : Nat} (h : i < ns.length) : wdT (ns.drop i) a = wdT (ns.drop (i + 1)) (max a ns[i].1.size) := by
  rw [List.drop_eq_getElem_cons h, wdT]
theorem nameOf_hit {q : List Int} {ns : List Nm} {i : Nat} (h : i < ns.length) (h0 : ns[i].2 = q) : nameOf q (ns.drop i) = ns[i].1 := by
  rw [List.drop_eq_getElem_cons h, nameOf, if_pos h0]
theorem nameOf_next {q : List Int} {ns : List Nm} {i : Nat} (h : i < ns.length) (h0 : ns[i].2 ≠ q) : nameOf q (ns.drop i) = nameOf q (ns.drop (i + 1)) := by
  rw [List.drop_eq_getElem_cons h, nameOf, if_neg h0]
theorem picE_all {n : Nat} : ∀ {ns : List Nm}, picE n ns = 0 → ∀ p ∈ ns, p.1.size ≠ 0 ∧ p.2.length = n
  | [], _, p, hp => by simp at hp
  | q :: t, h, p, hp => by
    rw [picE] at h
    split at h
    · cases h
    · rename_i h0
      split at h
      · rename_i h1
        rcases List.mem_cons.1 hp with rfl | hp
        · exact ⟨h0, (rowE_zero h1).1⟩
        · exact picE_all h p hp
      · rename_i h1; exact absurd h h1
theorem wdT_ge : ∀ {ns : List Nm} {a : Nat}, a ≤ wdT ns a ∧ ∀ p ∈ ns, p.1.size ≤ wdT ns a
  | [], a => ⟨Nat.le_refl _, fun p hp => by simp at hp⟩
  | p :: t, a => by
    have h := wdT_ge (ns := t) (a := max a p.1.size)
    rw [wdT]
    refine ⟨Nat.le_trans (Nat.le_max_left _ _) h.1, fun q hq => ?_⟩
    rcases List.mem_cons.1 hq with rfl | hq
    · exact Nat.le_trans (Nat.le_max_right _ _) h.1
    · exact h.2 q hq
theorem nameOf_le {q : List Int} {b : Nat} (hb : 1 ≤ b) : ∀ {ns : List Nm}, (∀ p ∈ ns, p.1.size ≤ b) → (nameOf q ns).size ≤ b
  | [], _ => by rw [nameOf]; exact hb
  | p :: t, h => by
    rw [nameOf]
    split
    · exact h p (by simp)
    · exact nameOf_le hb (fun r hr => h r (by simp [hr]))
def spc (k : Nat) : ByteArray := ⟨(Lib.repeatL [32] k).toArray⟩
def picCell (wd : Nat) (ns : List Nm) (q : List Int) : ByteArray := nameOf q ns ++ spc (wd - (nameOf q ns).size)
def picRow (wd : Nat) (ns : List Nm) (m : Nat) (y : Int) (o r u : List Int) (t : Nat) : List ByteArray := (List.range t).map fun (c : Nat) => picCell wd ns (atL ((c : Int) - m) y o r u)
def joinS (xs : List ByteArray) : ByteArray := ⟨(Lib.join (xs.map (·.data.toList)) [32]).toArray⟩
def indS (k : Int) (i : Nat) : ByteArray := if k = 2 then spc i else ⟨#[]⟩
def picLine (k : Int) (wd : Nat) (ns : List Nm) (m : Nat) (o r u : List Int) (i : Nat) : ByteArray := indS k i ++ joinS (picRow wd ns m ((m : Int) - i) o r u (2 * m + 1))
def picTo (k : Int) (wd : Nat) (ns : List Nm) (m : Nat) (o r u : List Int) (t : Nat) : List ByteArray := (List.range t).map (picLine k wd ns m o r u)
theorem picRow_length (wd : Nat) (ns : List Nm) (m : Nat) (y : Int) (o r u : List Int) (t : Nat) : (picRow wd ns m y o r u t).length = t := by simp [picRow]
theorem picTo_length (k : Int) (wd : Nat) (ns : List Nm) (m : Nat) (o r u : List Int) (t : Nat) : (picTo k wd ns m o r u t).length = t := by simp [picTo]
theorem picRow_succ (wd : Nat) (ns : List Nm) (m : Nat) (y : Int) (o r u : List Int) (t : Nat) : picRow wd ns m y o r u (t + 1) = picRow wd ns m y o r u t ++ [picCell wd ns (atL ((t : Int) - m) y o r u)] := by
  simp [picRow, List.range_succ]
theorem picTo_succ (k : Int) (wd : Nat) (ns : List Nm) (m : Nat) (o r u : List Int) (t : Nat) : picTo k wd ns m o r u (t + 1) = picTo k wd ns m o r u t ++ [picLine k wd ns m o r u t] := by
  simp [picTo, List.range_succ]
theorem rep32_length (k : Nat) : (Lib.repeatL [32] k).length = k := by rw [Lib.repeatL_length]; simp
theorem spc_size (k : Nat) : (spc k).size = k := by
  unfold spc
  show (Lib.repeatL [32] k).toArray.size = k
  simp [rep32_length]
theorem bytes_app (a b : ByteArray) : (a ++ b).data.toList = a.data.toList ++ b.data.toList := by simp
theorem picCell_size {wd : Nat} {ns : List Nm} {q : List Int} (h : (nameOf q ns).size ≤ wd) : (picCell wd ns q).data.toList.length = wd := by
  unfold picCell
  rw [bytes_app, List.length_append]
  have h1 : (nameOf q ns).data.toList.length = (nameOf q ns).size := by simp
  have h2 : (spc (wd - (nameOf q ns).size)).data.toList.length = wd - (nameOf q ns).size := by
    rw [show (spc (wd - (nameOf q ns).size)).data.toList.length = (spc (wd - (nameOf q ns).size)).size by simp, spc_size]
  rw [h1, h2]; omega
theorem joinTail_le {b : Nat} : ∀ {r : List (List UInt8)}, (∀ x ∈ r, x.length ≤ b) → (Lib.joinTail [32] r).length ≤ (b + 1) * r.length
  | [], _ => by simp [Lib.joinTail]
  | x :: t, h => by
    have h1 := joinTail_le (r := t) (fun y hy => h y (by simp [hy]))
    have h2 := h x (by simp)
    have e : Lib.joinTail [32] (x :: t) = ([32] ++ x) ++ Lib.joinTail [32] t := by simp [Lib.joinTail]
    rw [e, List.length_append, List.length_append]
    simp only [List.length_cons, List.length_nil, Nat.mul_succ]
    omega
theorem join_le {b : Nat} {r : List (List UInt8)} (h : ∀ x ∈ r, x.length ≤ b) : (Lib.join r [32]).length ≤ (b + 1) * r.length := by
  cases r with
  | nil => simp [Lib.join_nil]
  | cons x t =>
    rw [Lib.join_cons, List.length_append]
    simp only [List.length_cons, Nat.mul_succ]
    have h1 := joinTail_le (r := t) (fun y hy => h y (by simp [hy]))
    have h2 := h x (by simp)
    omega
theorem picRow_join {wd : Nat} {ns : List Nm} {m : Nat} {y : Int} {o r u : List Int} {t : Nat} (h : ∀ q, (nameOf q ns).size ≤ wd) : (Lib.join ((picRow wd ns m y o r u t).map (·.data.toList)) [32]).length ≤ (wd + 1) * t := by
  have := join_le (b := wd) (r := (picRow wd ns m y o r u t).map (·.data.toList)) (fun x hx => by
    obtain ⟨z, hz, rfl⟩ := List.mem_map.1 hx
    obtain ⟨c, _, rfl⟩ := List.mem_map.1 hz
    exact Nat.le_of_eq (picCell_size (h _)))
  rwa [List.length_map, picRow_length] at this
structure NamesR (w : World) (v : Value) (ns : List Nm) : Prop where
  sl : ∃ sa g o cap, v = .slice sa ns.length cap ∧ (0 < ns.length → sa = some ⟨g, o, none⟩) ∧ ∀ i (h : i < ns.length), w.cell? ⟨g, o + i * 2, none⟩ = some (.string ns[i].1) ∧ ∃ sr nr cr, w.cell? ⟨g, o + i * 2 + 1, none⟩ = some (.slice sr nr cr) ∧ RowR w (.slice sr nr cr) ns[i].2
theorem NamesR.ext {w w' : World} {v : Value} {ns : List Nm} (h : NamesR w v ns) (he : Ext w w') : NamesR w' v ns := by
  obtain ⟨sa, g, o, cap, e, h1, h2⟩ := h.sl
  exact ⟨⟨sa, g, o, cap, e, h1, fun i hi => by
    obtain ⟨a, sr, nr, cr, b, c⟩ := h2 i hi
    exact ⟨he.cell a, sr, nr, cr, he.cell b, c.ext he⟩⟩⟩
theorem NamesR.nil (w : World) : NamesR w (.slice none 0 0) [] := ⟨⟨none, 0, 0, 0, rfl, fun h => by simp at h, fun i h => by simp at h⟩⟩
def StrO (B : Nat) (w : World) (v : Value) (xs : List ByteArray) : Prop := w.ownsRow B 9 1 v xs.length (xs.map .string)
theorem StrO.nil (B : Nat) (w : World) : StrO B w (.slice none 0 0) [] := ⟨rfl, .inl ⟨rfl, rfl⟩⟩
theorem StrO.ext {B : Nat} {w w' : World} {v : Value} {xs : List ByteArray} (h : StrO B w v xs) (he : Ext w w') : StrO B w' v xs := ownsRow_ext h he
theorem StrO.mono {B B' : Nat} {w : World} {v : Value} {xs : List ByteArray} (h : StrO B w v xs) (hB : B' ≤ B) : StrO B' w v xs := ownsRow_mono h hB
theorem StrO.shape {B : Nat} {w : World} {v : Value} {xs : List ByteArray} (h : StrO B w v xs) (h0 : 0 < xs.length) : ∃ g cap, v = slv g xs.length cap ∧ xs.length ≤ cap ∧ g < w.heap.size ∧ ∀ (j : Nat) x, xs[j]? = some x → w.cell? ⟨g, 0 + j, none⟩ = some (.string x) := by
  have hl := World.ownsRow.lt h
  rcases h.2 with ⟨_, he⟩ | ⟨g, cap, cur, rfl, hb, hg, hn, hm, hs, ht⟩
  · rw [he] at h0; cases h0
  · refine ⟨g, cap, rfl, hn, (hl g rfl).2, fun j x hj => ?_⟩
    have hj2 : j < xs.length := (List.getElem?_eq_some_iff.1 hj).1
    have := World.ownsRow.cellAt h j (by omega)
    rw [Nat.zero_add, this, List.getElem?_map, hj]; rfl
theorem Tryz.infoByt : (Tryz.prog.info? 9).map (fun i => (i.zero, i.size, i.bytes)) = some (some (.string ⟨#[]⟩), 1, 16) := by kernel_rfl
theorem one_byt (z : ByteArray) : ∀ u ∈ [Value.string z], u.oneCell' = true := fun u hu => by
  simp only [List.mem_cons, List.not_mem_nil, or_false] at hu
  subst hu; rfl
section
variable {w : World} {ops : Array Oper} {rest : List Oper} {o : Oper} {a : Act} {Q : Exit → Act → World → Prop}
set_option maxRecDepth 100000 in
theorem app_str (hgd : o.guard = none) (s x : Operand) (t : TypeId) (ht : Tryz.prog.underlying t = some (.slice 9)) (ho : o.op = .call { callee := .builtin .append, args := #[s, x], argTypes := #[t, t] })
    {B : Nat} {v : Value} {r : List ByteArray} (hs : a.eval s = v) (hown : StrO B w v r) {b : Nat} {z : ByteArray} (hx : a.eval x = .slice (some ⟨b, 0, none⟩) 1 1) (hc : w.cell? ⟨b, 0, none⟩ = some (.string z)) (hl : r.length ≤ 1000000000) (hB : B ≤ w.heap.size)
    (h : ∀ g cap w', StrO B w' (slv g (r.length + 1) cap) (r ++ [z]) → Below B w w' → w.grownBy w' v.ownBlock → wpList Tryz.prog ops Q rest (a.put o.dst (slv g (r.length + 1) cap)) w') : wpList Tryz.prog ops Q (o :: rest) a w := by
  obtain ⟨i0, hi, hz0, hz1, hz2⟩ := info_parts Tryz.infoByt
  refine wpList_append_lies w hgd s x t ho B 9 i0 _ 1 16 ht hi hz0 hz1 hz2 rfl (by omega) v r.length (r.map Value.string) hs hown ⟨b, 0, none⟩ 1 1 [.string z] hx rfl ?_ (one_byt z) (by omega) (by unfold maxLen; omega) (by omega) hB w.heap.size rfl ?_
  · intro j u hj
    have : j = 0 := by have := (List.getElem?_eq_some_iff.1 hj).1; simp at this; omega
    subst this
    simp only [List.getElem?_cons_zero, Option.some.injEq] at hj
    subst hj
    simpa [Addr.add_lit] using hc
  · intro g cap w' h1 h2 h3 h4
    refine h g cap w' ?_ (Below.grown (Below.refl _ _) h2 hB (fun q hq => (World.ownsRow.lt hown q hq).1)) h2
    unfold StrO
    rw [List.map_append, List.length_append]; exact h1
end
end Go.Proofs.YtokjolmpdfmnbaaGreatDoor
namespace Go.Proofs.YtokjolmpdfmnbaaGreatDoor
open Go.RowKit Go.Sort
theorem MatO.el {B : Nat} {w : World} {g L cap : Nat} {F : Mx} (hL : L = F.length) (h : MatO B w (slv g L cap) F) {c : Nat} (hc : c < F.length) : ∃ sr nr cr, w.cell? ⟨g, c, none⟩ = some (.slice sr nr cr) ∧ RowR w (.slice sr nr cr) F[c] := by
  subst hL
  obtain ⟨vs, k1, k2, k3⟩ := h
  have hcv : c < vs.length := by omega
  have h1 := World.ownsRow.cellAt k2 c (by omega)
  rw [List.getElem?_eq_getElem hcv] at h1
  have h2 := (k3 c hc hcv).row
  obtain ⟨sr, gb, go, cr, e, h3, h4⟩ := h2
  exact ⟨sr, F[c].length, cr, by rw [h1, e], ⟨sr, gb, go, cr, rfl, h3, h4⟩⟩
theorem BookO.el {B : Nat} {w : World} {g L cap : Nat} {G : List Mx} (hL : L = G.length) (h : BookO B w (slv g L cap) G) {y : Nat} (hy : y < G.length) (h0 : 0 < G[y].length) : ∃ g' c', w.cell? ⟨g, y, none⟩ = some (slv g' G[y].length c') ∧ MatO B w (slv g' G[y].length c') G[y] := by
  subst hL
  obtain ⟨vs, k1, k2, k3⟩ := h
  have hcv : y < vs.length := by omega
  have h1 := World.ownsRow.cellAt k2 y (by omega)
  rw [List.getElem?_eq_getElem hcv] at h1
  have h2 := k3 y hy hcv
  obtain ⟨g', c', e⟩ := h2.shape h0
  exact ⟨g', c', by rw [h1, e], by rw [← e]; exact h2⟩
theorem winTo_get {m L : Nat} {o r u : List Int} {y : Nat} (h : y < (winTo m o r u L).length) : (winTo m o r u L)[y] = winRow m ((y : Int) - m) o r u (2 * m + 1) := by simp [winTo]
theorem winRow_get {m L : Nat} {y : Int} {o r u : List Int} {c : Nat} (h : c < (winRow m y o r u L).length) : (winRow m y o r u L)[c] = atL ((c : Int) - m) y o r u := by simp [winRow]
def WinR (w : World) (g L m : Nat) (o r u : List Int) : Prop := ∀ y, y < L → ∃ gy cy, w.cell? ⟨g, y, none⟩ = some (slv gy L cy) ∧ ∀ c, c < L → ∃ sr nr cr, w.cell? ⟨gy, c, none⟩ = some (.slice sr nr cr) ∧ RowR w (.slice sr nr cr) (atL ((c : Int) - m) ((y : Int) - m) o r u)
theorem BookO.win {B : Nat} {w : World} {g L cap m : Nat} {o r u : List Int} (hL : L = 2 * m + 1) (h : BookO B w (slv g L cap) (winTo m o r u L)) : WinR w g L m o r u := by
  intro y hy
  have hy' : y < (winTo m o r u L).length := by rw [winTo_length]; exact hy
  have e := winTo_get hy'
  obtain ⟨gy, cy, h1, h2⟩ := h.el (winTo_length _ _ _ _ _).symm hy' (by rw [e, winRow_length]; omega)
  rw [e] at h1 h2
  rw [winRow_length, ← hL] at h1 h2
  refine ⟨gy, cy, h1, fun c hc => ?_⟩
  have hc' : c < (winRow m ((y : Int) - m) o r u L).length := by rw [winRow_length]; exact hc
  obtain ⟨sr, nr, cr, h3, h4⟩ := h2.el (winRow_length _ _ _ _ _ _).symm hc'
  rw [winRow_get] at h4
  exact ⟨sr, nr, cr, h3, h4⟩
theorem own_rowR {B : Nat} {w : World} {g n : Nat} {x : List Int} (h : OwnV 3 B w g n (is x)) (hl : x.length = n) : RowR w (slv g n n) x := ⟨_, g, 0, n, by rw [hl], by omega, h.sl⟩
end Go.Proofs.YtokjolmpdfmnbaaGreatDoor
namespace Go.Proofs.YtokjolmpdfmnbaaGreatDoor
open Go.RowKit Go.Sort
set_option maxRecDepth 100000 in
set_option maxHeartbeats 1000000 in
theorem Complete_ok {w : World} {k : Int} {n go co gr cr gu cu f rank E : Nat} {fin : Dg} {o r u : List Int} (h : LayP w k n go co gr cr gu cu o r u) (h0 : 0 < n)
    (hrun : runD E 2 n f 0 (startD [r, u] n) = some (rank, fin)) (hr0 : 0 < rank) (hr1 : rank ≤ 2) (hr2 : rank ≤ n) (hb : BM E fin.a) (hE : 2 * (4 * E + 3) + 2 < LIM) (hE1 : 1 ≤ E)
    (hs : smallB (diagL rank fin.a) = true) (hn1 : not1 (diagL rank fin.a) = []) (hn2 : (n : Int) - (diagL rank fin.a).length = 0) (hL : Laid w) :
    Calls Tryz.prog 34 #[layv k n go co gr cr gu cu] w fun e w' => e = .returned (.tuple #[.bool true, .int .i64 0]) ∧ Ext w w' := by
  have hck := Lib.hid (fun W (hW : Ext w W) => lcheck_ok (h.ext hW))
  have hqu := Lib.hid (fun W b (hW : Ext w W) (h0' : W.cell? ⟨b, 0, none⟩ = some (slv gr n cr)) (h1' : W.cell? ⟨b, 1, none⟩ = some (slv gu n cu)) =>
    Quotient_any (c := n) (two_rows (h.pr.ext hW) (h.pu.ext hW) h.lr h.lu h0' h1') (check_two h.n12 h.lr h.lu h.er h.eu) (by simp) h.lr.symm h0 hrun hr0 hr1 hr2 hb hE hE1 (hL.ext hW))
  have hX : Ext w (w.alloc (.cells #[.int .i64 k, slv go n co, slv gr n cr, slv gu n cu] 54)) := (Ext.refl w).alloc _
  have Hs := Lib.hid hs
  have Hn1 := Lib.hid hn1
  have Hn2 := Lib.hid hn2
  clear h h0 hrun hr0 hr1 hr2 hb hE hE1 hs hn1 hn2 hL
  go_enter Tryz.func34, Tryz.ntmps34
  go_wp2_with fail
  refine (hck.out _ hX).mono ?_
  rintro e w1 ⟨rfl, hE1⟩
  have d1 := hE1.cell (show (w.alloc (.cells #[.int .i64 k, slv go n co, slv gr n cr, slv gu n cu] 54)).cell? ⟨w.heap.size, 1, none⟩ = some (slv go n co) by go_simp)
  have d2 := hE1.cell (show (w.alloc (.cells #[.int .i64 k, slv go n co, slv gr n cr, slv gu n cu] 54)).cell? ⟨w.heap.size, 2, none⟩ = some (slv gr n cr) by go_simp)
  have d3 := hE1.cell (show (w.alloc (.cells #[.int .i64 k, slv go n co, slv gr n cr, slv gu n cu] 54)).cell? ⟨w.heap.size, 3, none⟩ = some (slv gu n cu) by go_simp)
  have hX1 := hX.trans hE1
  have dl := World.block_lt_of_cell? _ _ d2
  clear hE1 hck hX
  go_wp2_with fail
  refine (hqu.out _ w1.heap.size (hX1.alloc _) (by go_simp) (by go_simp)).mono ?_
  rintro e w2 ⟨hp, hE2⟩
  rw [if_pos Hs.out, Hn1.out, Hn2.out] at hp
  obtain ⟨v, rfl, hv⟩ := hp
  have hX2 := Lib.hid ((hX1.alloc (.cells #[slv gr n cr, slv gu n cu] 32)).trans hE2)
  clear hE2 hqu d1 d2 d3
  rcases hv.2 with ⟨rfl, _⟩ | ⟨g9, c9, cur9, rfl, _, _, hc9, _⟩
  · go_wp2_with fail
    go_ret2
    exact ⟨rfl, hX2.out⟩
  · simp only [List.length_nil]
    go_wp2_with fail
    go_ret2
    exact ⟨rfl, hX2.out⟩
end Go.Proofs.YtokjolmpdfmnbaaGreatDoor
