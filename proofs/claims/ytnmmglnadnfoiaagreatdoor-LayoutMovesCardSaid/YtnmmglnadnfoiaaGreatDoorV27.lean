/- Part 27 of the proof of the claim: contracts of the functions that it reaches, and plain laws; no condition. -/
import Derived.Test.YtnmmglnadnfoiaaGreatDoorV24
import Derived.BigQuiet
import Derived.Test.YtnmmglnadnfoiaaGreatDoorV25
import Derived.Test.YtnmmglnadnfoiaaGreatDoorV26
/- Lists of rows, and lists of these, that a call makes by append. -/
namespace Go.Proofs.YtnmmglnadnfoiaaGreatDoor
open Go.RowKit Go.Sort
section
variable {w : World} {ops : Array Oper} {rest : List Oper} {o : Oper} {a : Act} {Q : Exit → Act → World → Prop}
theorem app_rows (hgd : o.guard = none) (s x : Operand) (t : TypeId) (ht : Tryz.prog.underlying t = some (.slice 30)) (ho : o.op = .call { callee := .builtin .append, args := #[s, x], argTypes := #[t, t] })
    {B : Nat} {v rv : Value} {F : Mx} {r : List Int} (hs : a.eval s = v) (hown : MatO B w v F) {b : Nat} (hx : a.eval x = .slice (some ⟨b, 0, none⟩) 1 1) (hc : w.cell? ⟨b, 0, none⟩ = some rv) (hr : RowV B w rv r) (hl : F.length ≤ 1000000000) (hB : B ≤ w.heap.size)
    (h : ∀ g cap w', MatO B w' (slv g (F.length + 1) cap) (F ++ [r]) → Below B w w' → w.grownBy w' v.ownBlock → wpList Tryz.prog ops Q rest (a.put o.dst (slv g (F.length + 1) cap)) w') : wpList Tryz.prog ops Q (o :: rest) a w := by
  obtain ⟨i0, hi, hz0, hz1, hz2⟩ := info_parts Tryz.infoRow
  obtain ⟨vs, h1, h2, h3⟩ := hown
  refine wpList_append_lies w hgd s x t ho B 30 i0 _ 1 24 ht hi hz0 hz1 hz2 rfl (by omega) v F.length vs hs h2 ⟨b, 0, none⟩ 1 1 [rv] hx rfl ?_ ?_ (by omega) (by unfold maxLen; omega) (by omega) hB w.heap.size rfl ?_
  · intro j u hj
    have : j = 0 := by have := (List.getElem?_eq_some_iff.1 hj).1; simp at this; omega
    subst this
    simp only [List.getElem?_cons_zero, Option.some.injEq] at hj
    subst hj
    simpa [Addr.add_lit] using hc
  · intro u hu
    simp only [List.mem_cons, List.not_mem_nil, or_false] at hu
    subst hu; exact hr.one
  · intro g cap w' k1 k2 k3 k4
    have hkeep : ∀ {u : Value} {l : List Int}, RowV B w u l → RowV B w' u l := fun hu => own_kept hu h2 (by decide) k2
    refine h g cap w' ⟨vs ++ [rv], by simp [h1], ?_, fun t ht ht' => ?_⟩ (Below.grown (Below.refl _ _) k2 hB (fun q hq => (World.ownsRow.lt h2 q hq).1)) k2
    · rw [List.length_append]; exact k1
    · rcases Nat.lt_or_ge t F.length with hlt | hge
      · rw [List.getElem_append_left (by omega), List.getElem_append_left hlt]
        exact hkeep (h3 t hlt (by omega))
      · have hte : t = F.length := by simp at ht; omega
        subst hte
        rw [List.getElem_append_right (by omega), List.getElem_append_right (by omega)]
        simp only [h1, Nat.sub_self, List.getElem_cons_zero]
        exact hkeep hr
end
theorem Tryz.infoRows : (Tryz.prog.info? 48).map (fun i => (i.zero, i.size, i.bytes)) = some (some (.slice none 0 0), 1, 24) := by kernel_rfl
/-- A list of lists of rows that the call has made. -/
def BookO (B : Nat) (w : World) (v : Value) (G : List Mx) : Prop := ∃ vs, vs.length = G.length ∧ w.ownsRow B 48 1 v G.length vs ∧ ∀ t (_ : t < G.length) (h' : t < vs.length), MatO B w vs[t] G[t]
theorem BookO.nil (B : Nat) (w : World) : BookO B w (.slice none 0 0) [] := ⟨[], rfl, ⟨rfl, .inl ⟨rfl, rfl⟩⟩, fun t h => by simp at h⟩
theorem BookO.ext {B : Nat} {w w' : World} {v : Value} {G : List Mx} (h : BookO B w v G) (he : Ext w w') : BookO B w' v G := by
  obtain ⟨vs, h1, h2, h3⟩ := h
  exact ⟨vs, h1, ownsRow_ext h2 he, fun t ht ht' => (h3 t ht ht').ext he⟩
theorem BookO.mono {B B' : Nat} {w : World} {v : Value} {G : List Mx} (h : BookO B w v G) (hB : B' ≤ B) : BookO B' w v G := by
  obtain ⟨vs, h1, h2, h3⟩ := h
  exact ⟨vs, h1, ownsRow_mono h2 hB, fun t ht ht' => (h3 t ht ht').mono hB⟩
theorem mat_kept {B B' : Nat} {w w' : World} {T' : TypeId} {size' n' : Nat} {u v : Value} {F : Mx} {ys : List Value} (h : MatO B w u F) (h' : w.ownsRow B' T' size' v n' ys) (h1 : 30 ≠ T') (h2 : 3 ≠ T') (hg : w.grownBy w' v.ownBlock) : MatO B w' u F := by
  obtain ⟨vs, k1, k2, k3⟩ := h
  exact ⟨vs, k1, own_kept k2 h' h1 hg, fun t ht ht' => own_kept (k3 t ht ht') h' h2 hg⟩
theorem MatO.one {B : Nat} {w : World} {v : Value} {F : Mx} (h : MatO B w v F) : v.oneCell' = true := by
  obtain ⟨vs, k1, k2, k3⟩ := h
  rcases k2.2 with ⟨rfl, _⟩ | ⟨g, cap, cur, rfl, _⟩ <;> rfl
section
variable {w : World} {ops : Array Oper} {rest : List Oper} {o : Oper} {a : Act} {Q : Exit → Act → World → Prop}
theorem app_book (hgd : o.guard = none) (s x : Operand) (ho : o.op = .call { callee := .builtin .append, args := #[s, x], argTypes := #[72, 72] })
    {B : Nat} {v rv : Value} {G : List Mx} {F : Mx} (hs : a.eval s = v) (hown : BookO B w v G) {b : Nat} (hx : a.eval x = .slice (some ⟨b, 0, none⟩) 1 1) (hc : w.cell? ⟨b, 0, none⟩ = some rv) (hr : MatO B w rv F) (hl : G.length ≤ 1000000000) (hB : B ≤ w.heap.size)
    (h : ∀ g cap w', BookO B w' (slv g (G.length + 1) cap) (G ++ [F]) → Below B w w' → w.grownBy w' v.ownBlock → wpList Tryz.prog ops Q rest (a.put o.dst (slv g (G.length + 1) cap)) w') : wpList Tryz.prog ops Q (o :: rest) a w := by
  obtain ⟨i0, hi, hz0, hz1, hz2⟩ := info_parts Tryz.infoRows
  obtain ⟨vs, h1, h2, h3⟩ := hown
  refine wpList_append_lies w hgd s x 72 ho B 48 i0 _ 1 24 Tryz.underlying72 hi hz0 hz1 hz2 rfl (by omega) v G.length vs hs h2 ⟨b, 0, none⟩ 1 1 [rv] hx rfl ?_ ?_ (by omega) (by unfold maxLen; omega) (by omega) hB w.heap.size rfl ?_
  · intro j u hj
    have : j = 0 := by have := (List.getElem?_eq_some_iff.1 hj).1; simp at this; omega
    subst this
    simp only [List.getElem?_cons_zero, Option.some.injEq] at hj
    subst hj
    simpa [Addr.add_lit] using hc
  · intro u hu
    simp only [List.mem_cons, List.not_mem_nil, or_false] at hu
    subst hu; exact hr.one
  · intro g cap w' k1 k2 k3 k4
    have hkeep : ∀ {u : Value} {F : Mx}, MatO B w u F → MatO B w' u F := fun hu => mat_kept hu h2 (by decide) (by decide) k2
    refine h g cap w' ⟨vs ++ [rv], by simp [h1], ?_, fun t ht ht' => ?_⟩ (Below.grown (Below.refl _ _) k2 hB (fun q hq => (World.ownsRow.lt h2 q hq).1)) k2
    · rw [List.length_append]; exact k1
    · rcases Nat.lt_or_ge t G.length with hlt | hge
      · rw [List.getElem_append_left (by omega), List.getElem_append_left hlt]
        exact hkeep (h3 t hlt (by omega))
      · have hte : t = G.length := by simp at ht; omega
        subst hte
        rw [List.getElem_append_right (by omega), List.getElem_append_right (by omega)]
        simp only [h1, Nat.sub_self, List.getElem_cons_zero]
        exact hkeep hr
end
/-- The intervals of a window. -/
def winRow (m : Nat) (y : Int) (o r u : List Int) (t : Nat) : Mx := (List.range t).map fun (x : Nat) => atL ((x : Int) - m) y o r u
def winTo (m : Nat) (o r u : List Int) (t : Nat) : List Mx := (List.range t).map fun (y : Nat) => winRow m ((y : Int) - m) o r u (2 * m + 1)
theorem winRow_length (m : Nat) (y : Int) (o r u : List Int) (t : Nat) : (winRow m y o r u t).length = t := by simp [winRow]
theorem winTo_length (m : Nat) (o r u : List Int) (t : Nat) : (winTo m o r u t).length = t := by simp [winTo]
theorem winRow_succ (m : Nat) (y : Int) (o r u : List Int) (t : Nat) : winRow m y o r u (t + 1) = winRow m y o r u t ++ [atL ((t : Int) - m) y o r u] := by
  simp [winRow, List.range_succ]
theorem winTo_succ (m : Nat) (o r u : List Int) (t : Nat) : winTo m o r u (t + 1) = winTo m o r u t ++ [winRow m ((t : Int) - m) o r u (2 * m + 1)] := by
  simp [winTo, List.range_succ]
/-- The keys of a window that have an interval. -/
def kyRow (m : Nat) (q : List Int) (y : Int) (o r u : List Int) (t : Nat) : List (Int × Int) := (List.range t).flatMap fun (x : Nat) => if atL ((x : Int) - m) y o r u = q then [((x : Int) - m, y)] else []
def kyTo (m : Nat) (q : List Int) (o r u : List Int) (t : Nat) : List (Int × Int) := (List.range t).flatMap fun (y : Nat) => kyRow m q ((y : Int) - m) o r u (2 * m + 1)
theorem kyRow_succ (m : Nat) (q : List Int) (y : Int) (o r u : List Int) (t : Nat) : kyRow m q y o r u (t + 1) = kyRow m q y o r u t ++ (if atL ((t : Int) - m) y o r u = q then [((t : Int) - m, y)] else []) := by
  simp [kyRow, List.range_succ]
theorem kyTo_succ (m : Nat) (q : List Int) (o r u : List Int) (t : Nat) : kyTo m q o r u (t + 1) = kyTo m q o r u t ++ kyRow m q ((t : Int) - m) o r u (2 * m + 1) := by
  simp [kyTo, List.range_succ]
theorem kyRow_le (m : Nat) (q : List Int) (y : Int) (o r u : List Int) : ∀ t, (kyRow m q y o r u t).length ≤ t
  | 0 => by simp [kyRow]
  | t + 1 => by
    rw [kyRow_succ, List.length_append]
    have := kyRow_le m q y o r u t
    split <;> simp <;> omega
theorem kyTo_le (m : Nat) (q : List Int) (o r u : List Int) : ∀ t, (kyTo m q o r u t).length ≤ (2 * m + 1) * t
  | 0 => by simp [kyTo]
  | t + 1 => by
    rw [kyTo_succ, List.length_append, Nat.mul_succ]
    have := kyTo_le m q o r u t
    have := kyRow_le m q ((t : Int) - m) o r u (2 * m + 1)
    omega
end Go.Proofs.YtnmmglnadnfoiaaGreatDoor
/- layout: window, Window. -/
namespace Go.Proofs.YtnmmglnadnfoiaaGreatDoor
open Go.RowKit Go.Sort
def winE (z : Int) : Int := if z < 0 ∨ 20 < z then 3 else 0
theorem window_any (z : Int) (w : World) : Calls Tryz.prog 75 #[.int .i64 z] w fun e w' => e = .returned (.int .i64 (winE z)) ∧ Ext w w' := by
  unfold winE
  by_cases h1 : z < 0
  · rw [if_pos (.inl h1)]
    go_enter Tryz.func75, Tryz.ntmps75
    go_wp2_with fail
    go_ret
    exact ⟨rfl, Ext.refl _⟩
  · by_cases h2 : 20 < z
    · rw [if_pos (.inr h2)]
      have h3 : z > 20 := h2
      go_enter Tryz.func75, Tryz.ntmps75
      go_wp2_with fail
      go_ret
      exact ⟨rfl, Ext.refl _⟩
    · rw [if_neg (by omega)]
      have h3 : ¬ z > 20 := h2
      go_enter Tryz.func75, Tryz.ntmps75
      go_wp2_with fail
      go_ret
      exact ⟨rfl, Ext.refl _⟩
theorem Note_ok {w : World} {k x y : Int} {n go co gr cr gu cu : Nat} {o r u : List Int} (h : LayP w k n go co gr cr gu cu o r u) (hx : -1000000 ≤ x ∧ x ≤ 1000000) (hy : -1000000 ≤ y ∧ y ≤ 1000000) (hc : chkRow (atL x y o r u) = 0) :
    Calls Tryz.prog 17 #[layv k n go co gr cr gu cu, .agg #[.int .i64 x, .int .i64 y]] w fun e w' => (∃ g, e = .returned (.tuple #[slv g n n, .int .i64 0]) ∧ OwnV 3 w.heap.size w' g n (is (atL x y o r u))) ∧ Ext w w' := by
  refine (Note_any h (by unfold I64; omega) (by unfold I64; omega) (fun _ => hc)).mono ?_
  rintro e w' ⟨hp, hE⟩
  have hf : farB x y = false := by
    unfold farB
    simp only [Bool.or_eq_false_iff, decide_eq_false_iff_not]
    omega
  rw [hf, if_neg (by decide)] at hp
  exact ⟨hp, hE⟩
theorem OwnV.rowV {B : Nat} {w : World} {g n : Nat} {x : List Int} (h : OwnV 3 B w g n (is x)) (hl : x.length = n) : RowV B w (slv g n n) x := by
  subst hl
  unfold OwnV at h; unfold RowV
  simpa using h
theorem MatO.shape {B : Nat} {w : World} {v : Value} {F : Mx} (h : MatO B w v F) (h0 : 0 < F.length) : ∃ g cap, v = slv g F.length cap := by
  obtain ⟨vs, k1, k2, k3⟩ := h
  rcases k2.2 with ⟨_, he⟩ | ⟨g, cap, cur, rfl, _⟩
  · rw [he] at k1; simp at k1; omega
  · exact ⟨g, cap, rfl⟩
theorem BookO.shape {B : Nat} {w : World} {v : Value} {F : List Mx} (h : BookO B w v F) (h0 : 0 < F.length) : ∃ g cap, v = slv g F.length cap := by
  obtain ⟨vs, k1, k2, k3⟩ := h
  rcases k2.2 with ⟨_, he⟩ | ⟨g, cap, cur, rfl, _⟩
  · rw [he] at k1; simp at k1; omega
  · exact ⟨g, cap, rfl⟩
theorem winRow_c (m : Nat) (y : Int) (o r u : List Int) {x : Int} (hx : -(m : Int) ≤ x) : winRow m y o r u (x + 1 + m).toNat = winRow m y o r u (x + m).toNat ++ [atL x y o r u] := by
  obtain ⟨t, ht⟩ : ∃ t : Nat, x = (t : Int) - m := ⟨(x + m).toNat, by omega⟩
  subst ht
  rw [show ((t : Int) - m + 1 + m).toNat = t + 1 by omega, show ((t : Int) - m + m).toNat = t by omega, winRow_succ]
theorem winTo_c (m : Nat) (o r u : List Int) {y : Int} (hy : -(m : Int) ≤ y) : winTo m o r u (y + 1 + m).toNat = winTo m o r u (y + m).toNat ++ [winRow m y o r u (2 * m + 1)] := by
  obtain ⟨t, ht⟩ : ∃ t : Nat, y = (t : Int) - m := ⟨(y + m).toNat, by omega⟩
  subst ht
  rw [show ((t : Int) - m + 1 + m).toNat = t + 1 by omega, show ((t : Int) - m + m).toNat = t by omega, winTo_succ]
/-- The four cells of a layout's box. -/
structure LayC (w : World) (b : Nat) (k : Int) (n go co gr cr gu cu : Nat) : Prop where
  c0 : w.cell? ⟨b, 0, none⟩ = some (.int .i64 k)
  c1 : w.cell? ⟨b, 1, none⟩ = some (slv go n co)
  c2 : w.cell? ⟨b, 2, none⟩ = some (slv gr n cr)
  c3 : w.cell? ⟨b, 3, none⟩ = some (slv gu n cu)
theorem LayC.ext {w w' : World} {b : Nat} {k : Int} {n go co gr cr gu cu : Nat} (h : LayC w b k n go co gr cr gu cu) (he : Ext w w') : LayC w' b k n go co gr cr gu cu :=
  ⟨he.cell h.c0, he.cell h.c1, he.cell h.c2, he.cell h.c3⟩
theorem layC_new (w : World) (k : Int) (n go co gr cr gu cu : Nat) : LayC (w.alloc (.cells #[.int .i64 k, slv go n co, slv gr n cr, slv gu n cu] 32)) w.heap.size k n go co gr cr gu cu :=
  ⟨by go_simp, by go_simp, by go_simp, by go_simp⟩
set_option maxRecDepth 100000 in
set_option maxHeartbeats 2000000 in
theorem Window_any {w : World} {k : Int} {n go co gr cr gu cu m : Nat} {o r u : List Int} (h : LayP w k n go co gr cr gu cu o r u) (hm : m ≤ 20) (hres : ∀ x y : Int, -20 ≤ x → x ≤ 20 → -20 ≤ y → y ≤ 20 → chkRow (atL x y o r u) = 0) :
    Calls Tryz.prog 42 #[layv k n go co gr cr gu cu, .int .i64 m] w fun e w' => (∃ v, e = .returned (.tuple #[v, .int .i64 0]) ∧ BookO w.heap.size w' v (winTo m o r u (2 * m + 1))) ∧ Ext w w' := by
  have hck := Lib.hid (fun W (hW : Ext w W) => lcheck_ok (h.ext hW))
  have hwn := Lib.hid (fun W => window_any (m : Int) W)
  rw [show winE (m : Int) = 0 by unfold winE; rw [if_neg (by omega)]] at hwn
  have hnt := Lib.hid (fun W (x y : Int) (hW : Ext w W) (h1 : -20 ≤ x ∧ x ≤ 20) (h2 : -20 ≤ y ∧ y ≤ 20) => Note_ok (h.ext hW) (x := x) (y := y) (by omega) (by omega) (hres x y h1.1 h1.2 h2.1 h2.2))
  have hol : ∀ x y, (atL x y o r u).length = n := fun x y => by rw [atL_length _ _ _ _ _ (by rw [h.lo, h.lr]) (by rw [h.lo, h.lu])]; exact h.lo
  have Hol := Lib.hid hol
  obtain ⟨M, hM⟩ : ∃ M : Int, M = (m : Int) := ⟨_, rfl⟩
  have hM1 : 0 ≤ M := by omega
  have hM2 : M ≤ 20 := by omega
  rw [← hM] at hwn ⊢
  have HM := Lib.hid hM
  have hX : Ext w (w.alloc (.cells #[.int .i64 k, slv go n co, slv gr n cr, slv gu n cu] 32)) := (Ext.refl w).alloc _
  have hb := layC_new w k n go co gr cr gu cu
  obtain ⟨b, hbb⟩ : ∃ b, b = w.heap.size := ⟨_, rfl⟩
  clear h hres hol hm hM
  go_enter Tryz.func42, Tryz.ntmps42
  go_wp2_with fail
  refine (hck.out _ hX).mono ?_
  rintro e w1 ⟨rfl, hE1⟩
  have hb1 := hb.ext hE1
  have hX1 := hX.trans hE1
  clear hE1 hck hX hb
  go_wp2_with fail
  refine (hwn.out _).mono ?_
  rintro e w2 ⟨rfl, hE2⟩
  have hb2 := Lib.hid (hb1.ext hE2)
  have hX2 := hX1.trans hE2
  have hneg : IntKind.i64.wrap (-M) = -M := IntWalk.i64_in _ (by omega)
  rw [← hbb] at hb2
  clear hE2 hwn hX1 hb1
  rw [← hbb]
  clear hbb
  go_wp2_with fail
  go_loopw [8, 9, 10, 11, 12, 13] (fun out yv line xv rv ev wr => ∃ y : Int, -M ≤ y ∧ y ≤ M + 1 ∧ yv = .int .i64 y ∧ Hid (BookO w2.heap.size wr out (winTo m o r u (y + m).toNat)) ∧ Ext w2 wr) (fun _ yv _ _ _ _ _ => (M + 1 - intOf yv).toNat)
  case atStart => exact ⟨-M, by omega, by omega, rfl, Lib.hid (by rw [HM.out, show (-(m : Int) + m).toNat = 0 by omega]; exact BookO.nil _ _), Ext.refl _⟩
  case round =>
    obtain ⟨y, hy1, hy2, rfl, hO, hE3⟩ := hrel
    generalize wr = Y at *
    by_cases hy3 : y ≤ M
    · go_wp2_with fail
      go_loopw [10, 11, 12, 13] (fun line xv rv ev wr => ∃ x : Int, -M ≤ x ∧ x ≤ M + 1 ∧ xv = .int .i64 x ∧ Hid (MatO Y.heap.size wr line (winRow m y o r u (x + m).toNat)) ∧ Ext Y wr) (fun _ xv _ _ _ => (M + 1 - intOf xv).toNat)
      case atStart => exact ⟨-M, by omega, by omega, rfl, Lib.hid (by rw [HM.out, show (-(m : Int) + m).toNat = 0 by omega]; exact MatO.nil _ _), Ext.refl _⟩
      case round =>
        obtain ⟨x, hx1, hx2, rfl, hI, hE4⟩ := hrel
        generalize wr = Z at *
        have hXZ := hX2.trans (hE3.trans hE4)
        by_cases hx3 : x ≤ M
        · have hb5 := hb2.out.ext (hE3.trans hE4)
          obtain ⟨c0, c1, c2, c3⟩ := hb5
          have hn := Lib.hid (hnt.out Z x y hXZ ⟨by omega, by omega⟩ ⟨by omega, by omega⟩)
          have Hx := Lib.hid hx1
          go_wp2_with fail
          refine hn.out.mono ?_
          rintro e w5 ⟨⟨g, rfl, hO5⟩, hE5⟩
          have HR := Lib.hid ((hO5.rowV (Hol.out x y)).mono hE4.size)
          have hE6 := hE4.trans hE5
          have HI := Lib.hid (hI.out.ext hE5)
          have hstep := winRow_c m y o r u (x := x) (by rw [← HM.out]; exact Hx.out)
          have Hstep := Lib.hid hstep
          have Hln := Lib.hid (show (winRow m y o r u (x + m).toNat).length ≤ 1000 by rw [winRow_length, ← HM.out]; omega)
          have hs6 := hE6.size
          clear hn hO5 hI c0 c1 c2 c3 hstep
          go_wp2_with (at_builtin; refine app_rows rfl _ _ _ Tryz.underlying48 rfl rfl (HI.out.ext ((Ext.refl _).alloc _)) rfl (b := w5.heap.size) (rv := slv g n n) (r := atL x y o r u) (by go_simp) (HR.out.ext ((Ext.refl _).alloc _)) (by have := Hln.out; omega) (by simp; omega) ?_; intro gg cap2 w8 hO8 hB8 hG8; rw [← Hstep.out] at hO8; have hE8 := Below.trans (hE6.alloc _) hB8; replace hO8 := Lib.hid hO8; clear hB8 hG8)
          refine ⟨⟨x + 1, by omega, by omega, by go_num, hO8, hE8⟩, by simp [intOf]; omega⟩
        · have hxe : x = M + 1 := by omega
          have hT := hI.out
          rw [hxe, show (M + 1 + (m : Int)).toNat = 2 * m + 1 by rw [HM.out]; omega] at hT
          obtain ⟨g, cp, rfl⟩ := hT.shape (by rw [winRow_length]; omega)
          have hsY := hE3.size
          have HT := Lib.hid (hT.mono hsY)
          have HO4 := Lib.hid (hO.out.ext hE4)
          have Hy := Lib.hid hy1
          have hstep := winTo_c m o r u (y := y) (by rw [← HM.out]; exact Hy.out)
          have Hstep := Lib.hid hstep
          have Hln := Lib.hid (show (winTo m o r u (y + m).toNat).length ≤ 1000 by rw [winTo_length, ← HM.out]; omega)
          have hE6 := hE3.trans hE4
          have hs6 := hE6.size
          clear hT hI hO hstep
          go_wp2_with (at_builtin; go_loud (refine app_book rfl _ _ rfl rfl (HO4.out.ext ((Ext.refl _).alloc _)) rfl (b := Z.heap.size) (rv := slv g (winRow m y o r u (2 * m + 1)).length cp) (F := winRow m y o r u (2 * m + 1)) (by go_simp) (HT.out.ext ((Ext.refl _).alloc _)) (by have := Hln.out; omega) (by simp; omega) ?_; intro gg cap2 w8 hO8 hB8 hG8; rw [← Hstep.out] at hO8; have hE8 := Below.trans (hE6.alloc _) hB8; replace hO8 := Lib.hid hO8; clear hB8 hG8))
          refine ⟨⟨y + 1, by omega, by omega, by go_num, hO8, hE8⟩, by simp [intOf]; omega⟩
    · have hye : y = M + 1 := by omega
      have hT := hO.out
      rw [hye, show (M + 1 + (m : Int)).toNat = 2 * m + 1 by rw [HM.out]; omega] at hT
      have HT := Lib.hid (hT.mono hX2.size)
      have HX := Lib.hid (hX2.trans hE3)
      clear hT hO
      go_wp2_with fail
      go_ret2
      exact ⟨⟨_, rfl, HT.out⟩, HX.out⟩
end Go.Proofs.YtnmmglnadnfoiaaGreatDoor
/- layout: First, and Move of wrong rows; what Move and Solve find, plain. -/
namespace Go.Proofs.YtnmmglnadnfoiaaGreatDoor
open Go.RowKit Go.Sort
def RetV (w : World) (v : Value) (e : Ending) (w' : World) : Prop := e = .returned v ∧ Ext w w'
/-- What Move and Solve find. -/
def MovRes (n : Nat) (r u q : List Int) (a b : Int) (f : Bool) (z : Int) : Prop :=
  ∃ H, HnfOf (n + 2) (wideM [r, u]) H ∧ ((¬ zeroL ((solL n H 2 q).take n) ∧ a = 0 ∧ b = 0 ∧ f = false ∧ z = 0)
    ∨ (zeroL ((solL n H 2 q).take n) ∧ smallB (solX n H 2 q) = true ∧ solX n H 2 q = [a, b] ∧ f = true ∧ z = 0)
    ∨ (zeroL ((solL n H 2 q).take n) ∧ smallB (solX n H 2 q) = false ∧ a = 0 ∧ b = 0 ∧ f = false ∧ z = 4))
theorem solX_pair {n : Nat} {H : Mx} {q : List Int} (lq : q.length = n) : solX n H 2 q = [(solX n H 2 q).getD 0 0, (solX n H 2 q).getD 1 0] := by
  have hl := solX_length (n := 2) (H := H) lq
  match hh : solX n H 2 q, hl with
  | [x0, x1], _ => rfl
theorem MovPost.res {w w' : World} {n : Nat} {r u q : List Int} {e : Ending} (lq : q.length = n) (h : MovPost w n r u q e w') : ∃ a b f z, e = .returned (.tuple #[keyv a b, .bool f, .int .i64 z]) ∧ MovRes n r u q a b f z ∧ Ext w w' := by
  obtain ⟨H, hH, hE, hp⟩ := h
  rcases hp with ⟨h1, rfl⟩ | ⟨h1, h2, rfl⟩ | ⟨h1, h2, rfl⟩
  · exact ⟨_, _, _, _, rfl, ⟨H, hH, .inl ⟨h1, rfl, rfl, rfl, rfl⟩⟩, hE⟩
  · exact ⟨_, _, _, _, rfl, ⟨H, hH, .inr (.inl ⟨h1, h2, solX_pair lq, rfl, rfl⟩)⟩, hE⟩
  · exact ⟨_, _, _, _, rfl, ⟨H, hH, .inr (.inr ⟨h1, h2, rfl, rfl, rfl, rfl⟩)⟩, hE⟩
theorem SolPost.res {w w' : World} {n : Nat} {r u q : List Int} {e : Ending} (lq : q.length = n) (h : SolPost w [r, u] n q e w') : ∃ a b f z v, e = .returned (.tuple #[v, .bool f, .int .i64 z]) ∧ MovRes n r u q a b f z ∧ ((f = true ∧ RowV w.heap.size w' v [a, b]) ∨ (f = false ∧ v = .slice none 0 0)) ∧ Ext w w' := by
  obtain ⟨H, hH, hE, hp⟩ := h
  rcases hp with ⟨h1, rfl⟩ | ⟨h1, h2, v, rfl, hv⟩ | ⟨h1, h2, rfl⟩
  · exact ⟨_, _, _, _, _, rfl, ⟨H, hH, .inl ⟨h1, rfl, rfl, rfl, rfl⟩⟩, .inr ⟨rfl, rfl⟩, hE⟩
  · refine ⟨_, _, _, _, _, rfl, ⟨H, hH, .inr (.inl ⟨h1, h2, solX_pair lq, rfl, rfl⟩)⟩, .inl ⟨rfl, ?_⟩, hE⟩
    rw [← solX_pair lq]; exact hv
  · exact ⟨_, _, _, _, _, rfl, ⟨H, hH, .inr (.inr ⟨h1, h2, rfl, rfl, rfl, rfl⟩)⟩, .inr ⟨rfl, rfl⟩, hE⟩
theorem MovRes.uniq {n : Nat} {r u q : List Int} {a b a' b' : Int} {f f' : Bool} {z z' : Int} (h : MovRes n r u q a b f z) (h' : MovRes n r u q a' b' f' z') : a = a' ∧ b = b' ∧ f = f' ∧ z = z' := by
  obtain ⟨H, hH, hp⟩ := h
  obtain ⟨H', hH', hp'⟩ := h'
  obtain rfl := hH.unique hH' (fun v hv => .mem hv) (fun v hv => .mem hv)
  rcases hp with ⟨h1, rfl, rfl, rfl, rfl⟩ | ⟨h1, h2, h3, rfl, rfl⟩ | ⟨h1, h2, rfl, rfl, rfl, rfl⟩ <;> rcases hp' with ⟨k1, rfl, rfl, rfl, rfl⟩ | ⟨k1, k2, k3, rfl, rfl⟩ | ⟨k1, k2, rfl, rfl, rfl, rfl⟩
  · exact ⟨rfl, rfl, rfl, rfl⟩
  · exact absurd k1 h1
  · exact absurd k1 h1
  · exact absurd h1 k1
  · rw [h3] at k3
    injection k3 with k4 k5
    injection k5 with k5 k6
    exact ⟨k4, k5, rfl, rfl⟩
  · rw [h2] at k2; cases k2
  · exact absurd h1 k1
  · rw [h2] at k2; cases k2
  · exact ⟨rfl, rfl, rfl, rfl⟩
theorem MovRes.nil {n : Nat} {r u q : List Int} {a b z : Int} (h : MovRes n r u q a b false z) : a = 0 ∧ b = 0 := by
  obtain ⟨H, hH, hp⟩ := h
  rcases hp with ⟨h1, rfl, rfl, _, rfl⟩ | ⟨h1, h2, h3, hf, rfl⟩ | ⟨h1, h2, rfl, rfl, _, rfl⟩
  · exact ⟨rfl, rfl⟩
  · cases hf
  · exact ⟨rfl, rfl⟩
theorem MovRes.found {n : Nat} {r u q : List Int} {a b z : Int} (lr : r.length = n) (lu : u.length = n) (lq : q.length = n) (h : MovRes n r u q a b true z) : z = 0 ∧ (-1000000000 ≤ a ∧ a ≤ 1000000000) ∧ (-1000000000 ≤ b ∧ b ≤ 1000000000) ∧ ∀ j, j < n → a * vr r j + b * vr u j = vr q j := by
  obtain ⟨H, hH, hp⟩ := h
  have hM : Rect n [r, u] := fun s hs => by
    simp only [List.mem_cons, List.not_mem_nil, or_false] at hs
    rcases hs with rfl | rfl
    · exact lr
    · exact lu
  rcases hp with ⟨h1, _, _, hf, _⟩ | ⟨h1, h2, h3, _, rfl⟩ | ⟨h1, h2, _, _, hf, _⟩
  · cases hf
  · have hc := solX_cmb (M := [r, u]) hM hH lq h1
    rw [h3] at h2
    have hs : ∀ y ∈ [a, b], -1000000000 ≤ y ∧ y ≤ 1000000000 := fun y hy => by
      have := List.all_eq_true.1 h2 y hy
      unfold grt at this
      simp only [Bool.not_eq_true', decide_eq_false_iff_not] at this
      omega
    refine ⟨rfl, hs a (by simp), hs b (by simp), fun j hj => ?_⟩
    have := hc j hj
    rw [show solX n H ([r, u] : Mx).length q = [a, b] from h3] at this
    simpa [cmb, sumZ, eM, vr] using this
  · cases hf
set_option maxRecDepth 100000 in
set_option maxHeartbeats 1000000 in
theorem Move_bad {w : World} {k : Int} {n m go co gr cr gu cu cq : Nat} {sq : Option Addr} {o r u q : List Int} {z : Int} (h : LayP w k n go co gr cr gu cu o r u) (hq : RowR w (.slice sq m cq) q) (hz : rowE n q = z) (hz0 : ¬ z = 0) :
    Calls Tryz.prog 40 #[layv k n go co gr cr gu cu, .slice sq m cq] w fun e w' => e = .returned (.tuple #[keyv 0 0, .bool false, .int .i64 z]) ∧ Ext w w' := by
  have hsz := Lib.hid (fun W (hW : Ext w W) => lsized_any (h.ext hW) (hq.ext hW))
  rw [hz] at hsz
  have h2 : (z == 0) = false := beq_eq_false_iff_ne.2 hz0
  have h3 : (z != 0) = true := by simp [bne, h2]
  have hX : Ext w ((w.alloc (.cells #[.int .i64 k, slv go n co, slv gr n cr, slv gu n cu] 32)).alloc (.cells #[.int .i64 0, .int .i64 0] 27)) := ((Ext.refl w).alloc _).alloc _
  have HO := Lib.hid (key_alloc w (.cells #[.int .i64 k, slv go n co, slv gr n cr, slv gu n cu] 32) 27 (.int .i64 0) (.int .i64 0))
  clear h hq hz
  go_enter Tryz.func40, Tryz.ntmps40
  go_wp2_with fail
  refine (hsz.out _ hX).mono ?_
  rintro e w1 ⟨rfl, hE1⟩
  have HO1 := Lib.hid (HO.out.ext hE1)
  have hX1 := hX.trans hE1
  clear hE1 hsz hX
  obtain ⟨q0, q1, f0, f1, r0, r1, hF⟩ := key_end hX1 (by omega) HO1.out (.int .i64 0) (.int .i64 0)
  have Hres := Lib.hid (show RetV w (.tuple #[keyv 0 0, .bool false, .int .i64 z]) (.returned (.tuple #[keyv 0 0, .bool false, .int .i64 z])) _ from ⟨rfl, hF.out⟩)
  go_wp2_with fail
  refine bodyPost_ret (v := .tuple #[keyv 0 0, .bool false, .int .i64 z]) (by simp [results, Tryz.results40, go_sem, r0, r1]) rfl Hres.out
/-- What First hands back of a right row. -/
def FirPost (w : World) (n : Nat) (o r u q : List Int) (e : Ending) (w' : World) : Prop :=
  ∃ a b f z, e = .returned (.tuple #[keyv a b, .bool f, .int .i64 z]) ∧ (if chkRow (subR q o) = 0 then MovRes n r u (subR q o) a b f z else a = 0 ∧ b = 0 ∧ f = false ∧ z = chkRow (subR q o)) ∧ Ext w w'
theorem subR_length {a b : List Int} {n : Nat} (ha : a.length = n) (hb : b.length = n) : (subR a b).length = n := by simp [subR, ha, hb]
set_option maxRecDepth 100000 in
set_option maxHeartbeats 1000000 in
theorem First_any {w : World} {k : Int} {n go co gr cr gu cu cq : Nat} {sq : Option Addr} {o r u q : List Int} (h : LayP w k n go co gr cr gu cu o r u) (hq : RowR w (.slice sq n cq) q) (lq : q.length = n) (eq : chkRow q = 0) (hn : n ≤ 3) (hL : Laid w) :
    Calls Tryz.prog 39 #[layv k n go co gr cr gu cu, .slice sq n cq] w (FirPost w n o r u q) := by
  have hsz := Lib.hid (fun W (hW : Ext w W) => lsized_ok (h.ext hW) (hq.ext hW) lq eq)
  have hsb := Lib.hid (fun W (hW : Ext w W) => rowSub_any (hq.ext hW) (show RowR W (slv go n co) o from by have := (h.ext hW).po.row; rw [h.lo] at this; exact this) eq h.eo lq h.lo)
  have hmv := Lib.hid (fun W sd cd (hW : Ext w W) (hd : RowR W (.slice sd n cd) (subR q o)) (hc : chkRow (subR q o) = 0) => Move_any (h.ext hW) hd (subR_length lq h.lo) hc hn (hL.ext hW))
  have Hld := Lib.hid (subR_length lq h.lo)
  have hX : Ext w ((w.alloc (.cells #[.int .i64 k, slv go n co, slv gr n cr, slv gu n cu] 32)).alloc (.cells #[.int .i64 0, .int .i64 0] 27)) := ((Ext.refl w).alloc _).alloc _
  have HO := Lib.hid (key_alloc w (.cells #[.int .i64 k, slv go n co, slv gr n cr, slv gu n cu] 32) 27 (.int .i64 0) (.int .i64 0))
  have hlc := (layC_new w k n go co gr cr gu cu).ext ((Ext.refl _).alloc (.cells #[.int .i64 0, .int .i64 0] 27))
  clear h hq lq eq hn hL
  go_enter Tryz.func39, Tryz.ntmps39
  go_wp2_with fail
  refine (hsz.out _ hX).mono ?_
  rintro e w1 ⟨rfl, hE1⟩
  obtain ⟨c0, c1, c2, c3⟩ := hlc.ext hE1
  have HO1 := Lib.hid (HO.out.ext hE1)
  have hX1 := hX.trans hE1
  clear hE1 hsz hX hlc
  go_wp2_with fail
  refine (hsb.out _ hX1).mono ?_
  rintro e w2 ⟨gd, cd, rfl, hd, hE2⟩
  replace c0 := hE2.cell c0
  replace c1 := hE2.cell c1
  replace c2 := hE2.cell c2
  replace c3 := hE2.cell c3
  have HO2 := Lib.hid (HO1.out.ext hE2)
  have hX2 := hX1.trans hE2
  have Hd := Lib.hid hd
  clear hd hE2 hsb hX1 HO1
  by_cases hc : chkRow (subR q o) = 0
  · have hm := Lib.hid (hmv.out w2 _ _ hX2 Hd.out.row hc)
    have Hc := Lib.hid hc
    rw [if_pos hc, hc]
    clear hc hmv Hd
    go_wp2_with fail
    refine hm.out.mono ?_
    rintro e w3 hp
    obtain ⟨a, b, f, z, rfl, hR, hE3⟩ := hp.res Hld.out
    have HR := Lib.hid hR
    have HO3 := Lib.hid (HO2.out.ext hE3)
    have hX3 := hX2.trans hE3
    clear hR hp hE3 hm
    obtain ⟨q0, q1, f0, f1, r0, r1, hF⟩ := key_end hX3 (by omega) HO3.out (.int .i64 a) (.int .i64 b)
    have Hres := Lib.hid (show FirPost w n o r u q (.returned (.tuple #[keyv a b, .bool f, .int .i64 z])) _ from ⟨a, b, f, z, rfl, by rw [if_pos Hc.out]; exact HR.out, hF.out⟩)
    go_wp2_with fail
    refine bodyPost_ret (v := .tuple #[keyv a b, .bool f, .int .i64 z]) (by simp [results, Tryz.results39, go_sem, r0, r1]) rfl Hres.out
  · have Hc := Lib.hid hc
    obtain ⟨z, hz⟩ : ∃ z, z = chkRow (subR q o) := ⟨_, rfl⟩
    rw [if_neg hc, ← hz]
    have Hz := Lib.hid hz
    have hz0 : ¬ z = 0 := by rw [hz]; exact hc
    have h2 : (z == 0) = false := beq_eq_false_iff_ne.2 hz0
    have h3 : (z != 0) = true := by simp [bne, h2]
    clear hc hmv Hd hz
    obtain ⟨q0, q1, f0, f1, r0, r1, hF⟩ := key_end hX2 (by omega) HO2.out (.int .i64 0) (.int .i64 0)
    have Hres := Lib.hid (show FirPost w n o r u q (.returned (.tuple #[keyv 0 0, .bool false, .int .i64 z])) _ from ⟨0, 0, false, z, rfl, by rw [if_neg Hc.out]; exact ⟨rfl, rfl, rfl, Hz.out⟩, hF.out⟩)
    go_wp2_with fail
    refine bodyPost_ret (v := .tuple #[keyv 0 0, .bool false, .int .i64 z]) (by simp [results, Tryz.results39, go_sem, r0, r1]) rfl Hres.out
set_option maxRecDepth 100000 in
set_option maxHeartbeats 1000000 in
theorem First_bad {w : World} {k : Int} {n m go co gr cr gu cu cq : Nat} {sq : Option Addr} {o r u q : List Int} {z : Int} (h : LayP w k n go co gr cr gu cu o r u) (hq : RowR w (.slice sq m cq) q) (hz : rowE n q = z) (hz0 : ¬ z = 0) :
    Calls Tryz.prog 39 #[layv k n go co gr cr gu cu, .slice sq m cq] w fun e w' => e = .returned (.tuple #[keyv 0 0, .bool false, .int .i64 z]) ∧ Ext w w' := by
  have hsz := Lib.hid (fun W (hW : Ext w W) => lsized_any (h.ext hW) (hq.ext hW))
  rw [hz] at hsz
  have h2 : (z == 0) = false := beq_eq_false_iff_ne.2 hz0
  have h3 : (z != 0) = true := by simp [bne, h2]
  have hX : Ext w ((w.alloc (.cells #[.int .i64 k, slv go n co, slv gr n cr, slv gu n cu] 32)).alloc (.cells #[.int .i64 0, .int .i64 0] 27)) := ((Ext.refl w).alloc _).alloc _
  have HO := Lib.hid (key_alloc w (.cells #[.int .i64 k, slv go n co, slv gr n cr, slv gu n cu] 32) 27 (.int .i64 0) (.int .i64 0))
  clear h hq hz
  go_enter Tryz.func39, Tryz.ntmps39
  go_wp2_with fail
  refine (hsz.out _ hX).mono ?_
  rintro e w1 ⟨rfl, hE1⟩
  have HO1 := Lib.hid (HO.out.ext hE1)
  have hX1 := hX.trans hE1
  clear hE1 hsz hX
  obtain ⟨q0, q1, f0, f1, r0, r1, hF⟩ := key_end hX1 (by omega) HO1.out (.int .i64 0) (.int .i64 0)
  have Hres := Lib.hid (show RetV w (.tuple #[keyv 0 0, .bool false, .int .i64 z]) (.returned (.tuple #[keyv 0 0, .bool false, .int .i64 z])) _ from ⟨rfl, hF.out⟩)
  go_wp2_with fail
  refine bodyPost_ret (v := .tuple #[keyv 0 0, .bool false, .int .i64 z]) (by simp [results, Tryz.results39, go_sem, r0, r1]) rfl Hres.out
end Go.Proofs.YtnmmglnadnfoiaaGreatDoor
/- schismalaw44: note, at keys of whatever numbers a row may have. -/
namespace Go.Proofs.YtnmmglnadnfoiaaGreatDoor
open Go.RowKit Go.Sort
theorem mul_i9 {x z : Int} (hx : -1000000000 ≤ x ∧ x ≤ 1000000000) (hz : -1000000000 ≤ z ∧ z ≤ 1000000000) : -1000000000000000000 ≤ x * z ∧ x * z ≤ 1000000000000000000 := by
  have h1 : (x * z).natAbs ≤ 1000000000 * 1000000000 := by rw [Int.natAbs_mul]; exact Nat.mul_le_mul (by omega) (by omega)
  omega
set_option maxRecDepth 100000 in
set_option maxHeartbeats 1000000 in
theorem note44_big {w : World} {k x y : Int} {n go co gr cr gu cu : Nat} {o r u : List Int} (h : LayP w k n go co gr cr gu cu o r u) (hx : -1000000000 ≤ x ∧ x ≤ 1000000000) (hy : -1000000000 ≤ y ∧ y ≤ 1000000000) :
    Calls Tryz.prog 19 #[layv k n go co gr cr gu cu, .int .i64 x, .int .i64 y] w fun e w' => ∃ g, e = .returned (slv g n n) ∧ OwnV 3 w.heap.size w' g n (is (atL x y o r u)) ∧ Ext w w' := by
  have H := Lib.hid h
  obtain ⟨i0, hi, hz0, hz1, hz2⟩ := info_parts Tryz.infoInt
  have hinfo : (Tryz.prog.info? 3).map (·.size) = some 1 := by rw [hi]; simp [hz1]
  have Hinfo := Lib.hid hinfo
  have Hlo := Lib.hid h.lo
  have Hlr := Lib.hid h.lr
  have Hlu := Lib.hid h.lu
  have Hbo := Lib.hid (chkRow_ok h.eo).2
  have Hbr := Lib.hid (chkRow_ok h.er).2
  have Hbu := Lib.hid (chkRow_ok h.eu).2
  have hn := h.n12
  obtain ⟨hx1, hx2⟩ := hx
  obtain ⟨hy1, hy2⟩ := hy
  clear h hinfo
  go_enter Tryz.func19, Tryz.ntmps19
  go_wp2_with (at_make; refine wpList_make_full _ rfl _ _ 30 rfl w.heap.size 3 i0 (.int .i64 0) 1 Tryz.underlying30 hi hz0 hz1 .i64 .i64 _ _ n rfl rfl (by omega) (by omega) (by rw [hz2]; omega) (by unfold maxLen; omega) (by simp <;> omega) ?_; intro w1 hown1 hgrow1; have hE1 := ext_grown hgrow1; have d0 : w1.cell? ⟨w.heap.size, 1, none⟩ = some (slv go n co) := hE1.cell (by go_simp); have d1 : w1.cell? ⟨w.heap.size, 2, none⟩ = some (slv gr n cr) := hE1.cell (by go_simp); have d2 : w1.cell? ⟨w.heap.size, 3, none⟩ = some (slv gu n cu) := hE1.cell (by go_simp))
  have hX2 : Ext w w1 := ((Ext.refl w).alloc _).trans hE1
  rw [show (w.alloc (.cells #[.int .i64 k, slv go n co, slv gr n cr, slv gu n cu] 32)).heap.size = w.heap.size + 1 by simp] at hown1
  obtain ⟨g, hg⟩ : ∃ g, g = w.heap.size + 1 := ⟨_, rfl⟩
  rw [← hg] at hown1 ⊢
  have hb0 : OwnV 3 w.heap.size w1 g n (is (List.replicate n 0)) := row_ownV (zero_row hown1) (by simp)
  have HO2 := Lib.hid hb0
  have hgb := hb0.lt
  have hwg : w.heap.size ≤ g := by omega
  obtain ⟨p, hp⟩ : ∃ p, p = w.heap.size := ⟨_, rfl⟩
  have hgp : g ≠ p := by omega
  clear hg hb0 hown1 hgrow1 hE1
  rw [← hp] at d0 d1 d2 ⊢
  have hgo : go ≠ g ∨ n = 0 := by
    rcases Nat.eq_zero_or_pos n with h | h
    · exact .inr h
    · have := H.out.po.2.lt (by rw [is_length, Hlo.out]; exact h)
      left; omega
  have hgr : gr ≠ g ∨ n = 0 := by
    rcases Nat.eq_zero_or_pos n with h | h
    · exact .inr h
    · have := H.out.pr.2.lt (by rw [is_length, Hlr.out]; exact h)
      left; omega
  have hgu : gu ≠ g ∨ n = 0 := by
    rcases Nat.eq_zero_or_pos n with h | h
    · exact .inr h
    · have := H.out.pu.2.lt (by rw [is_length, Hlu.out]; exact h)
      left; omega
  have Hp := Lib.hid hp
  have hB := hgb.1
  clear hp
  go_loopw [8] (fun idx wr => ∃ i : Nat, i ≤ n ∧ idx = .int .i64 i ∧ Hid (OwnV 3 w.heap.size wr g n (is (noTo x y n i o r u))) ∧ Hid (w1.grownBy wr (some g))) (fun idx _ => n - (intOf idx).toNat)
  case atStart => exact ⟨0, by omega, by go_num, Lib.hid (by show OwnV _ _ _ _ _ (is (noTo x y n 0 o r u)); unfold noTo; simpa using HO2.out), Lib.hid (World.grownBy.refl _ _)⟩
  case round =>
    obtain ⟨i, hi', rfl, hO, hG⟩ := hrel
    generalize wr = X at *
    have hXE := ext_trans_grown hX2 hG.out hB
    by_cases hlt : i < n
    · have hii : (i : Int) < (n : Int) := by omega
      have hC : Chg (fun k => k = g) w1 X := Chg.of_grown hG.out rfl
      have e0 := hC.cell (by omega) d0
      have e1 := hC.cell (by omega) d1
      have e2 := hC.cell (by omega) d2
      have hlen := noTo_length (x := x) (y := y) (i := i) Hlo.out Hlr.out Hlu.out (by omega)
      have c1 := hO.out.cell (j := i) (by rw [is_length, hlen]; exact hlt)
      obtain ⟨a, ha⟩ : ∃ a, a = o.getD i 0 := ⟨_, rfl⟩
      obtain ⟨b, hb⟩ : ∃ b, b = r.getD i 0 := ⟨_, rfl⟩
      obtain ⟨c, hc⟩ : ∃ c, c = u.getD i 0 := ⟨_, rfl⟩
      obtain ⟨old, hcl⟩ : ∃ old, X.cell? ⟨g, i, none⟩ = some old := ⟨_, c1⟩
      clear c1
      have c1 := (H.out.po.ext hXE).2.cell i (.int .i64 a) (by rw [ha, getD_get (by rw [Hlo.out]; exact hlt)]; exact is_get (by rw [Hlo.out]; exact hlt))
      have c2 := (H.out.pr.ext hXE).2.cell i (.int .i64 b) (by rw [hb, getD_get (by rw [Hlr.out]; exact hlt)]; exact is_get (by rw [Hlr.out]; exact hlt))
      have c3 := (H.out.pu.ext hXE).2.cell i (.int .i64 c) (by rw [hc, getD_get (by rw [Hlu.out]; exact hlt)]; exact is_get (by rw [Hlu.out]; exact hlt))
      rw [Nat.zero_add] at c1 c2 c3
      have ba : -1000000000 ≤ a ∧ a ≤ 1000000000 := by rw [ha, getD_get (by rw [Hlo.out]; exact hlt)]; exact Hbo.out _ (List.getElem_mem _)
      have bb : -1000000000 ≤ b ∧ b ≤ 1000000000 := by rw [hb, getD_get (by rw [Hlr.out]; exact hlt)]; exact Hbr.out _ (List.getElem_mem _)
      have bc : -1000000000 ≤ c ∧ c ≤ 1000000000 := by rw [hc, getD_get (by rw [Hlu.out]; exact hlt)]; exact Hbu.out _ (List.getElem_mem _)
      have m1 := mul_i9 ⟨hx1, hx2⟩ bb
      have m2 := mul_i9 ⟨hy1, hy2⟩ bc
      have w1' : IntKind.i64.wrap (x * b) = x * b := IntWalk.i64_in _ (by omega)
      have w2' : IntKind.i64.wrap (y * c) = y * c := IntWalk.i64_in _ (by omega)
      have w3' : IntKind.i64.wrap (a + x * b) = a + x * b := IntWalk.i64_in _ (by omega)
      have w4' : IntKind.i64.wrap (a + x * b + y * c) = a + x * b + y * c := IntWalk.i64_in _ (by omega)
      have Hst := Lib.hid (noTo_step (x := x) (y := y) (i := i) Hlo.out Hlr.out Hlu.out hlt)
      rw [← ha, ← hb, ← hc] at Hst
      have k1 := cell_regrown e1
      have k2 := cell_regrown e2
      have k3 := cell_regrown e0
      have k4 := cell_regrown hcl
      have k5 := cell_regrown c1
      have k6 := cell_regrown c2
      have k7 := cell_regrown c3
      have q1 := hcl
      clear ha hb hc ba bb bc m1 m2
      go_wp2_with fail
      refine wp_region_quiet_tail 23 (by kernel_rfl) (by kernel_rfl) ?_
      simp only [List.take_succ_cons, List.take_zero, List.drop_succ_cons, List.drop_zero]
      repeat (go_big_quiet_step (fail))
      refine wpQuiet_nil ?_
      intro _ hw'
      obtain ⟨⟨dq, osq⟩, hw''⟩ := hw'
      subst hw''
      have hE5 := ext_regrown X dq osq
      have d5 := hE5.cell q1
      clear k1 k2 k3 k4 k5 k6 k7
      generalize grow (redrawn X dq) osq = w5 at *
      have f5 := (hO.out.ext hE5).frozen i
      obtain ⟨hO6, hG6⟩ := (hO.out.ext hE5).set i (.int .i64 (a + x * b + y * c))
      rw [← is_set, ← Hst.out] at hO6
      have HO6 := Lib.hid hO6
      have HG6 := Lib.hid (grown_trans hG.out (grown_trans (grown_ext hE5 (some g)) hG6))
      clear hO6 hG6 hE5
      go_wp2_with fail
      go_roundw
      case rel => exact ⟨i + 1, by omega, by go_num, HO6, HG6⟩
      case measure => simp [intOf] <;> omega
    · have hii : ¬ (i : Int) < (n : Int) := by omega
      have hin : i = n := by omega
      have hall : noTo x y n i o r u = atL x y o r u := by
        unfold noTo
        rw [List.take_of_length_le (by rw [atL_length _ _ _ _ _ (by rw [Hlo.out, Hlr.out]) (by rw [Hlo.out, Hlu.out]), Hlo.out]; omega), show n - i = 0 by omega, List.replicate_zero, List.append_nil]
      rw [hall] at hO
      clear hall
      go_wp2_with fail
      go_ret
      exact ⟨g, rfl, hO.out, hXE⟩
end Go.Proofs.YtnmmglnadnfoiaaGreatDoor
/- slices.Equal of rows, row.Equal. -/
namespace Go.Proofs.YtnmmglnadnfoiaaGreatDoor
open Go.RowKit Go.Sort
set_option maxRecDepth 100000 in
set_option maxHeartbeats 1000000 in
theorem SlEq_any {w : World} {va vb : Value} {a b : List Int} (hA : RowR w va a) (hB : RowR w vb b) (hbig : a.length ≤ 1000000) :
    Calls Tryz.prog 79 #[va, vb] w fun e w' => e = .returned (.bool (decide (a = b))) ∧ Ext w w' := by
  obtain ⟨sa, ga, oa, ca, rfl, hca, hSa⟩ := hA
  obtain ⟨sb, gb, ob, cb, rfl, hcb, hSb⟩ := hB
  by_cases hl : a.length = b.length
  · obtain ⟨n, hn⟩ : ∃ n, n = a.length := ⟨_, rfl⟩
    rw [← hl]
    rw [← hn] at hbig ⊢
    have HA := Lib.hid hSa
    have HB := Lib.hid hSb
    have Hn := Lib.hid hn
    have Hm := Lib.hid (hn.trans hl)
    clear hSa hSb hl hn hca hcb
    go_enter Tryz.func79, Tryz.ntmps79
    go_wp2_with fail
    go_loopw [13] (fun idx wr => ∃ i : Nat, i ≤ n ∧ idx = .int .i64 i ∧ Hid (∀ j, j < i → a.getD j 0 = b.getD j 0) ∧ Ext w wr) (fun idx _ => n - (intOf idx).toNat)
    case atStart => exact ⟨0, by omega, by go_num, Lib.hid (fun j h => by omega), Ext.refl _⟩
    case round =>
      obtain ⟨i, hi, rfl, Hz, hE⟩ := hrel
      generalize wr = X at *
      by_cases hlt : i < n
      · have hii : (i : Int) < (n : Int) := by omega
        have c1 := (HA.out.ext hE).cell i (.int .i64 (a[i]'(by rw [← Hn.out]; exact hlt))) (is_get (by rw [← Hn.out]; exact hlt))
        have c2 := (HB.out.ext hE).cell i (.int .i64 (b[i]'(by rw [← Hm.out]; exact hlt))) (is_get (by rw [← Hm.out]; exact hlt))
        obtain rfl := HA.out.addr (by rw [is_length, ← Hn.out]; omega)
        obtain rfl := HB.out.addr (by rw [is_length, ← Hm.out]; omega)
        obtain ⟨x, hx⟩ : ∃ x, x = a[i]'(by rw [← Hn.out]; exact hlt) := ⟨_, rfl⟩
        obtain ⟨y, hy⟩ : ∃ y, y = b[i]'(by rw [← Hm.out]; exact hlt) := ⟨_, rfl⟩
        rw [← hx] at c1
        rw [← hy] at c2
        have Hx := Lib.hid (show a.getD i 0 = x by rw [hx, getD_get (by rw [← Hn.out]; exact hlt)])
        have Hy := Lib.hid (show b.getD i 0 = y by rw [hy, getD_get (by rw [← Hm.out]; exact hlt)])
        clear hx hy
        by_cases hxy : x = y
        · subst hxy
          go_wp2_with fail
          go_quiet (fail)
          go_wp2_with fail
          go_roundw
          case rel => exact ⟨i + 1, by omega, by go_num, Lib.hid (fun j hj => by
            by_cases e : j = i
            · subst e; rw [Hx.out, Hy.out]
            · exact Hz.out j (by omega)), hE.drewN _⟩
          case measure => simp [intOf] <;> omega
        · have hb1 : (x == y) = false := beq_eq_false_iff_ne.2 hxy
          have hb2 : (x != y) = true := by simp [bne, hb1]
          have Hne := Lib.hid (show decide (a = b) = false from decide_eq_false (fun e => hxy (by rw [← Hx.out, ← Hy.out, e])))
          go_wp2_with fail
          go_quiet (fail)
          go_wp2_with fail
          go_ret
          exact ⟨by rw [Hne.out]; rfl, hE.drewN _⟩
      · have Heq := Lib.hid (show decide (a = b) = true from decide_eq_true (sam_getD_ext (by rw [← Hn.out, ← Hm.out]) (fun j hj => Hz.out j (by rw [← Hn.out] at hj; omega))))
        go_wp2_with fail
        go_ret
        exact ⟨by rw [Heq.out]; rfl, hE⟩
  · have hne : decide (a = b) = false := decide_eq_false (fun e => hl (by rw [e]))
    rw [hne]
    have h1 : ¬ ((a.length : Int) = (b.length : Int)) := by omega
    have h2 : ((a.length : Int) == (b.length : Int)) = false := beq_eq_false_iff_ne.2 h1
    have h3 : ((a.length : Int) != (b.length : Int)) = true := by simp [bne, h2]
    clear hSa hSb hca hcb hne
    generalize a.length = n at *
    generalize b.length = m at *
    go_enter Tryz.func79, Tryz.ntmps79
    go_wp2_with fail
    go_ret
    exact ⟨rfl, Ext.refl _⟩
theorem rowEqual_any {w : World} {va vb : Value} {a b : List Int} (hA : RowR w va a) (hB : RowR w vb b) (hbig : a.length ≤ 1000000) :
    Calls Tryz.prog 46 #[va, vb] w fun e w' => e = .returned (.bool (decide (a = b))) ∧ Ext w w' := by
  have h := Lib.hid (SlEq_any hA hB hbig)
  clear hA hB
  go_enter Tryz.func46, Tryz.ntmps46
  go_wp2_with fail
  refine h.out.mono ?_
  rintro e w1 ⟨rfl, hE⟩
  go_wp2_with fail
  go_ret
  exact ⟨rfl, hE⟩
end Go.Proofs.YtnmmglnadnfoiaaGreatDoor
