/- Part 25 of the proof of the claim: contracts of the functions that it reaches, and plain laws; no condition. -/
import Derived.Test.YtnmmglnadnfoiaaGreatDoorV24
import Derived.BigQuiet
import Derived.Test.YtnmmglnadnfoiaaGreatDoorV03
import Derived.Test.YtnmmglnadnfoiaaGreatDoorV11
import Derived.Test.YtnmmglnadnfoiaaGreatDoorRows
import Derived.ProofKit
import Derived.LaidMore
import Derived.OpenShut
import Derived.Stop.Joined
import Derived.Stop.LaidErr
import Derived.Lib.LaidTab
import Derived.Deep.Matrix
import Derived.Test.YtnmmglnadnfoiaaGreatDoorCards
import Derived.Test.YtnmmglnadnfoiaaGreatDoorTie
import Derived.SevenTiedAt
/- schismalaw44: the known answers. -/
namespace Go.Proofs.YtnmmglnadnfoiaaGreatDoor
open Go.RowKit Go.Sort
theorem wik_run : ∃ fin, runD 64 2 2 10 0 (startD [[-3, 2], [-1, 1]] 2) = some (2, fin) ∧ fin.a = [[1, 0], [0, 1]] := by
  have h : (runD 64 2 2 10 0 (startD [[-3, 2], [-1, 1]] 2)).map (fun p => (p.1, p.2.a)) = some (2, [[1, 0], [0, 1]]) := by decide
  cases hr : runD 64 2 2 10 0 (startD [[-3, 2], [-1, 1]] 2) with
  | none => rw [hr] at h; cases h
  | some p =>
    rw [hr] at h
    obtain ⟨a, fin⟩ := p
    simp only [Option.map_some, Option.some.injEq, Prod.mk.injEq] at h
    obtain ⟨rfl, h⟩ := h
    exact ⟨fin, rfl, h⟩
theorem wik_bm : BM 64 [[1, 0], [0, 1]] := by
  intro r hr z hz
  simp only [List.mem_cons, List.not_mem_nil, or_false] at hr
  rcases hr with rfl | rfl <;> simp only [List.mem_cons, List.not_mem_nil, or_false] at hz <;> rcases hz with rfl | rfl <;> decide
theorem wik_complete {w : World} {g1 g2 g3 : Nat} (h : WikP w g1 g2 g3) (hL : Laid w) :
    Calls Tryz.prog 52 #[layv 2 2 g1 2 g2 2 g3 2] w fun e w' => e = .returned (.tuple #[.bool true, .int .i64 0]) ∧ Ext w w' := by
  obtain ⟨fin, h1, h2⟩ := wik_run
  exact Complete_ok h (by omega) h1 (by omega) (by omega) (by omega) (by rw [h2]; exact wik_bm) (by decide) (by omega) (by rw [h2]; decide) (by rw [h2]; decide) (by rw [h2]; decide) hL
theorem wik_note {w : World} {g1 g2 g3 : Nat} (h : WikP w g1 g2 g3) :
    Calls Tryz.prog 17 #[layv 2 2 g1 2 g2 2 g3 2, .agg #[.int .i64 (-1), .int .i64 2]] w (NotPost w 2 (-1) 2 [0, 0] [-3, 2] [-1, 1]) :=
  Note_any h (by unfold I64; omega) (by unfold I64; omega) (fun _ => by decide)
theorem wik_span : Hnf.Span (latM [[-3, 2], [-1, 1]]) (vr [1, 0]) := by
  have e : vr [1, 0] = Hnf.sub (Hnf.sub (fun _ => 0) 1 (vr [-3, 2])) (-2) (vr [-1, 1]) := by
    funext j
    match j with
    | 0 => simp [Hnf.sub, vr]
    | 1 => simp [Hnf.sub, vr]
    | j + 2 => simp [Hnf.sub, vr]
  rw [e]
  exact Hnf.Span.step _ (Hnf.Span.step _ Hnf.Span.zero (by simp [latM])) (by simp [latM])
theorem wik_rect : Rect 2 [[-3, 2], [-1, 1]] := by
  intro r hr
  simp at hr; rcases hr with rfl | rfl <;> rfl
theorem wik_sol {H : Mx} (hH : HnfOf 4 (wideM [[-3, 2], [-1, 1]]) H) : zeroL ((solL 2 H 2 [1, 0]).take 2) ∧ solX 2 H 2 [1, 0] = [-1, 2] := by
  have hz := (sol_zero (c := 2) (M := [[-3, 2], [-1, 1]]) (b := [1, 0]) wik_rect hH rfl).2 wik_span
  refine ⟨hz, ?_⟩
  have hc := solX_cmb (c := 2) (M := [[-3, 2], [-1, 1]]) (b := [1, 0]) wik_rect hH rfl hz
  have hl := solX_length (c := 2) (n := 2) (H := H) (b := [1, 0]) rfl
  have h0 := hc 0 (by omega)
  have h1 := hc 1 (by omega)
  match hh : solX 2 H 2 [1, 0], hl with
  | [x0, x1], _ =>
    have hh2 : solX 2 H ([[-3, 2], [-1, 1]] : Mx).length [1, 0] = [x0, x1] := hh
    rw [hh2] at h0 h1
    simp [cmb, sumZ, vr, eM] at h0 h1
    have e0 : x0 = -1 := by omega
    have e1 : x1 = 2 := by omega
    rw [e0, e1]
theorem wik_move {w : World} {g1 g2 g3 gq cq : Nat} (h : WikP w g1 g2 g3) (hq : RowP w gq cq [1, 0]) (hL : Laid w) :
    Calls Tryz.prog 40 #[layv 2 2 g1 2 g2 2 g3 2, slv gq 2 cq] w fun e w' => e = .returned (.tuple #[keyv (-1) 2, .bool true, .int .i64 0]) ∧ Ext w w' := by
  refine (Move_any h (hq.row) rfl (by decide) (by omega) hL).mono ?_
  rintro e w' ⟨H, hH, hE, hp⟩
  obtain ⟨hz, hx⟩ := wik_sol hH
  rcases hp with ⟨hn, _⟩ | ⟨_, _, rfl⟩ | ⟨_, hs, _⟩
  · exact absurd hz hn
  · rw [hx]; exact ⟨rfl, hE⟩
  · rw [hx] at hs; exact absurd hs (by decide)
theorem wik_keys {B : Nat} {w : World} {v : Value} (h : KeysV B w v (nbs true 0 0)) : ∃ g cap, v = .slice (some ⟨g, 0, none⟩) 6 cap := by
  rcases h.2 with ⟨_, h0⟩ | ⟨g, cap, cur, rfl, _⟩
  · exact absurd h0 (by decide)
  · exact ⟨g, cap, rfl⟩
theorem wik_row {B g : Nat} {w : World} (h : OwnV 3 B w g 2 (is (atL (-1) 2 [0, 0] [-3, 2] [-1, 1]))) : RowR w (slv g 2 2) [1, 0] :=
  ⟨_, g, 0, 2, rfl, Nat.le_refl _, h.sl⟩
theorem same_ok {w : World} {va vb : Value} {a b : List Int} (hA : RowR w va a) (hB : RowR w vb b) (hl : a.length ≤ 1000000) (he : a = b) : Calls Tryz.prog 18 #[va, vb] w fun e w' => e = .returned (.bool true) ∧ Ext w w' := by
  have h := Same_any hA hB hl
  rw [decide_eq_true he] at h
  exact h
set_option maxRecDepth 100000 in
set_option maxHeartbeats 1000000 in
theorem known44_any {w : World} (hL : Laid w) : Calls Tryz.prog 15 #[] w fun e w' => e = .returned (.bool true) ∧ Ext w w' := by
  have HL := Lib.hid hL
  clear hL
  go_enter Tryz.func15, Tryz.ntmps15
  go_wp2_with fail
  refine (wicki_any _).mono ?_
  rintro e w1 ⟨g1, g2, g3, rfl, hP1, hE1⟩
  go_wp2_with fail
  refine (wik_note hP1).mono ?_
  rintro e w2 ⟨hp, hE2⟩
  rw [if_neg (by decide)] at hp
  obtain ⟨gn, rfl, hO⟩ := hp
  have hR2 := Lib.hid (wik_row hO)
  have hX2 := hE1.trans hE2
  clear hE1 hE2 hP1 hO
  go_wp2_with fail
  refine (wicki_any _).mono ?_
  rintro e w3 ⟨g4, g5, g6, rfl, hP3, hE3⟩
  have hX3 := hX2.trans hE3
  have hR3 := Lib.hid (hR2.out.ext hE3)
  clear hE3 hR2 hX2
  go_wp2_with fail
  refine (wik_move (gq := w3.heap.size) (cq := 2) (hP3.ext ((Ext.refl _).alloc _)) (rowp2 (by go_simp) (by go_simp)) (HL.out.ext (hX3.alloc _))).mono ?_
  rintro e w4 ⟨rfl, hE4⟩
  have hR4 := Lib.hid ((hR3.out.ext ((Ext.refl _).alloc _)).ext hE4)
  have hX4 := (hX3.alloc _).trans hE4
  clear hE4 hR3 hX3 hP3
  go_wp2_with fail
  refine (wicki_any _).mono ?_
  rintro e w5 ⟨g7, g8, g9, rfl, hP5, hE5⟩
  have k0 := hE5.cell (show (w4.alloc (.cells #[.int .i64 (-1), .int .i64 2] 27)).cell? ⟨w4.heap.size, 0, none⟩ = some (.int .i64 (-1)) by go_simp)
  have k1 := hE5.cell (show (w4.alloc (.cells #[.int .i64 (-1), .int .i64 2] 27)).cell? ⟨w4.heap.size, 1, none⟩ = some (.int .i64 2) by go_simp)
  have hR5 := Lib.hid ((hR4.out.ext ((Ext.refl _).alloc _)).ext hE5)
  have hX5 := (hX4.alloc _).trans hE5
  clear hE5 hR4 hX4
  go_wp2_with fail
  refine (wik_complete hP5 (HL.out.ext hX5)).mono ?_
  rintro e w6 ⟨rfl, hE6⟩
  have j0 := hE6.cell k0
  have j1 := hE6.cell k1
  have hR6 := Lib.hid (hR5.out.ext hE6)
  have hX6 := hX5.trans hE6
  clear hE6 hR5 hX5 k0 k1 hP5
  go_wp2_with fail
  refine (Neighbours_ok (k := 2) (h := true) (.inr ⟨rfl, rfl⟩) (by omega) (by omega)).mono ?_
  rintro e w7 ⟨⟨v, rfl, hv⟩, hE7⟩
  obtain ⟨gk, ck, rfl⟩ := wik_keys hv
  have k0 := hE7.cell j0
  have k1 := hE7.cell j1
  have hR7 := Lib.hid (hR6.out.ext hE7)
  have hX7 := hX6.trans hE7
  have dl := World.block_lt_of_cell? _ _ k0
  clear hE7 hR6 hX6 j0 j1 hv
  have hsm := Lib.hid (fun W (hW : Ext w7 W) gq (c0 : W.cell? ⟨gq, 0, none⟩ = some (.int .i64 1)) (c1 : W.cell? ⟨gq, 1, none⟩ = some (.int .i64 0)) => same_ok (hR7.out.ext hW) (show RowR W (slv gq 2 2) [1, 0] from (rowp2 c0 c1).row) (by simp) rfl)
  go_wp2_with fail
  refine (hsm.out _ ((Ext.refl _).alloc _) w7.heap.size (by go_simp) (by go_simp)).mono ?_
  rintro e w8 ⟨rfl, hE8⟩
  have j0 := hE8.cell (show (w7.alloc (.cells #[.int .i64 1, .int .i64 0] 3)).cell? ⟨w4.heap.size, 0, none⟩ = some (.int .i64 (-1)) by go_simp)
  have j1 := hE8.cell (show (w7.alloc (.cells #[.int .i64 1, .int .i64 0] 3)).cell? ⟨w4.heap.size, 1, none⟩ = some (.int .i64 2) by go_simp)
  have hX8 := (hX7.alloc _).trans hE8
  clear hE8 hsm k0 k1
  go_wp2_with fail
  go_ret
  exact ⟨by simp, hX8⟩
end Go.Proofs.YtnmmglnadnfoiaaGreatDoor
/- layout.Neighbours: the errors. -/
namespace Go.Proofs.YtnmmglnadnfoiaaGreatDoor
open Go.RowKit Go.Sort
set_option maxRecDepth 100000 in
theorem Neighbours_kind {w : World} {k x y : Int} (h1 : k ≠ 1) (h2 : k ≠ 2) :
    Calls Tryz.prog 20 #[.int .i64 k, .agg #[.int .i64 x, .int .i64 y]] w fun e w' => e = .returned (.tuple #[.slice none 0 0, .int .i64 12]) ∧ Ext w w' := by
  have hE := (Ext.refl w).alloc (.cells #[.int .i64 x, .int .i64 y] 27)
  have b1 : (k != 1) = true := by simp [bne_iff_ne, h1]
  have b2 : (k != 2) = true := by simp [bne_iff_ne, h2]
  go_enter Tryz.func20, Tryz.ntmps20
  go_wp2_with fail
  go_ret2
  exact ⟨rfl, hE⟩
set_option maxRecDepth 100000 in
theorem Neighbours_far {w : World} {k x y : Int} (hk : k = 1 ∨ k = 2) (hx : I64 x) (hy : I64 y) (hf : farB x y = true) :
    Calls Tryz.prog 20 #[.int .i64 k, .agg #[.int .i64 x, .int .i64 y]] w fun e w' => e = .returned (.tuple #[.slice none 0 0, .int .i64 3]) ∧ Ext w w' := by
  have hfar := Lib.hid (fun W => far_any (w := W) hx hy)
  rw [show (decide (1000000 < max x y) || decide (min x y < -1000000)) = true from hf] at hfar
  have hX : Ext w (w.alloc (.cells #[.int .i64 x, .int .i64 y] 27)) := (Ext.refl w).alloc _
  clear hf hx hy
  rcases hk with rfl | rfl
  all_goals
    go_enter Tryz.func20, Tryz.ntmps20
    go_wp2_with fail
    refine (hfar.out _).mono ?_
    rintro e w1 ⟨rfl, hE1⟩
    have hX1 := hX.trans hE1
    go_wp2_with fail
    go_ret2
    exact ⟨rfl, hX1⟩
end Go.Proofs.YtnmmglnadnfoiaaGreatDoor
/- schismalaw44: keys. -/
namespace Go.Proofs.YtnmmglnadnfoiaaGreatDoor
open Go.RowKit Go.Sort
theorem kv_get : ∀ {l : List (Int × Int)} {i : Nat} (h : i < l.length), (kv l)[i * 2]? = some (.int .i64 l[i].1) ∧ (kv l)[i * 2 + 1]? = some (.int .i64 l[i].2)
  | [], i, h => by simp at h
  | p :: l, 0, h => by simp [kv]
  | p :: l, i + 1, h => by
    have := kv_get (l := l) (i := i) (by simpa using h)
    have e : kv (p :: l) = .int .i64 p.1 :: .int .i64 p.2 :: kv l := by simp [kv]
    rw [e, show (i + 1) * 2 = i * 2 + 1 + 1 by omega]
    simpa using this
/-- A list of keys in memory. -/
structure KeysR (w : World) (g : Nat) (l : List (Int × Int)) : Prop where
  x : ∀ i (h : i < l.length), w.cell? ⟨g, i * 2, none⟩ = some (.int .i64 l[i].1)
  y : ∀ i (h : i < l.length), w.cell? ⟨g, i * 2 + 1, none⟩ = some (.int .i64 l[i].2)
theorem KeysR.ext {w w' : World} {g : Nat} {l : List (Int × Int)} (h : KeysR w g l) (he : Ext w w') : KeysR w' g l := ⟨fun i hi => he.cell (h.x i hi), fun i hi => he.cell (h.y i hi)⟩
theorem KeysV.open {B : Nat} {w : World} {v : Value} {l : List (Int × Int)} (h : KeysV B w v l) (h0 : 0 < l.length) : ∃ g cap, v = slv g l.length cap ∧ KeysR w g l := by
  rcases h.2 with ⟨_, he⟩ | ⟨g, cap, cur, rfl, _⟩
  · rw [he] at h0; cases h0
  · refine ⟨g, cap, rfl, fun i hi => ?_, fun i hi => ?_⟩
    · have := World.ownsRow.cellAt h (i * 2) (by omega)
      rw [(kv_get hi).1] at this
      simpa using this
    · have := World.ownsRow.cellAt h (i * 2 + 1) (by omega)
      rw [(kv_get hi).2] at this
      simpa using this
set_option maxRecDepth 100000 in
set_option maxHeartbeats 1000000 in
theorem keys_same {w : World} {g1 c1 g2 c2 n : Nat} {l : List (Int × Int)} (hn : n = l.length) (hA : KeysR w g1 l) (hB : KeysR w g2 l) (hl : n ≤ 1000000) :
    Calls Tryz.prog 21 #[slv g1 n c1, slv g2 n c2] w fun e w' => e = .returned (.bool true) ∧ Ext w w' := by
  have HA := Lib.hid hA
  have HB := Lib.hid hB
  have Hn := Lib.hid hn
  clear hA hB hn
  go_enter Tryz.func21, Tryz.ntmps21
  go_wp2_with fail
  go_loopw [5] (fun idx wr => ∃ i : Nat, i ≤ n ∧ idx = .int .i64 i ∧ Ext w wr) (fun idx _ => n - (intOf idx).toNat)
  case atStart => exact ⟨0, by omega, by go_num, Ext.refl _⟩
  case round =>
    obtain ⟨i, hi, rfl, hE⟩ := hrel
    generalize wr = X at *
    by_cases hlt : i < n
    · have hii : (i : Int) < (n : Int) := by omega
      have a0 := (HA.out.ext hE).x i (by rw [← Hn.out]; exact hlt)
      have a1 := (HA.out.ext hE).y i (by rw [← Hn.out]; exact hlt)
      have b0 := (HB.out.ext hE).x i (by rw [← Hn.out]; exact hlt)
      have b1 := (HB.out.ext hE).y i (by rw [← Hn.out]; exact hlt)
      generalize (l[i]'(by rw [← Hn.out]; exact hlt)).1 = x at *
      generalize (l[i]'(by rw [← Hn.out]; exact hlt)).2 = y at *
      go_wp2_with fail
      go_quiet (fail)
      go_wp2_with fail
      go_roundw
      case rel => exact ⟨i + 1, by omega, by go_num, hE.drewN _⟩
      case measure => simp [intOf] <;> omega
    · have hie : i = n := by omega
      subst hie
      go_wp2_with fail
      go_ret
      exact ⟨rfl, hE⟩
end Go.Proofs.YtnmmglnadnfoiaaGreatDoor
/- schismalaw44: LayoutNeighbours. -/
namespace Go.Proofs.YtnmmglnadnfoiaaGreatDoor
open Go.RowKit Go.Sort
theorem nbs_false (x y : Int) : nbs false x y = [(x, y + -1), (x + -1, y), (x + 1, y), (x, y + 1)] := by
  simp [nbs, nbTo, nbRow, nbB, List.range, List.range.loop]
theorem nbs_true (x y : Int) : nbs true x y = [(x, y + -1), (x + 1, y + -1), (x + -1, y), (x + 1, y), (x + -1, y + 1), (x, y + 1)] := by
  simp [nbs, nbTo, nbRow, nbB, List.range, List.range.loop]
/-- A neighbour's neighbour. -/
theorem nbs_back (h : Bool) {x y : Int} {p : Int × Int} (hp : p ∈ nbs h x y) : (x, y) ∈ nbs h p.1 p.2 := by
  cases h
  · rw [nbs_false] at hp ⊢
    simp only [List.mem_cons, List.not_mem_nil, or_false] at hp ⊢
    rcases hp with rfl | rfl | rfl | rfl <;> simp <;> omega
  · rw [nbs_true] at hp ⊢
    simp only [List.mem_cons, List.not_mem_nil, or_false] at hp ⊢
    rcases hp with rfl | rfl | rfl | rfl | rfl | rfl <;> simp <;> omega
theorem nbs_near (h : Bool) {x y : Int} {p : Int × Int} (hp : p ∈ nbs h x y) : x - 1 ≤ p.1 ∧ p.1 ≤ x + 1 ∧ y - 1 ≤ p.2 ∧ p.2 ≤ y + 1 := by
  cases h
  · rw [nbs_false] at hp
    simp only [List.mem_cons, List.not_mem_nil, or_false] at hp
    rcases hp with rfl | rfl | rfl | rfl <;> simp <;> omega
  · rw [nbs_true] at hp
    simp only [List.mem_cons, List.not_mem_nil, or_false] at hp
    rcases hp with rfl | rfl | rfl | rfl | rfl | rfl <;> simp <;> omega
theorem nbs_len (h : Bool) (x y : Int) : 0 < (nbs h x y).length ∧ (nbs h x y).length ≤ 6 := by
  cases h
  · rw [nbs_false]; simp
  · rw [nbs_true]; simp
set_option maxRecDepth 100000 in
theorem ln4_kind {w : World} {k x y : Int} (hL : Laid w) (h1 : k ≠ 1) (h2 : k ≠ 2) :
    Calls Tryz.prog 4 #[.int .i64 k, .agg #[.int .i64 x, .int .i64 y]] w fun e w' => e = .returned (.bool true) ∧ Ext w w' := by
  have hX := (Ext.refl w).alloc (.cells #[.int .i64 x, .int .i64 y] 27)
  have b1 : (k != 1) = true := by simp [bne_iff_ne, h1]
  have b2 : (k != 2) = true := by simp [bne_iff_ne, h2]
  have hn := Lib.hid (fun W => Neighbours_kind (w := W) (x := x) (y := y) h1 h2)
  have hkn := Lib.hid (known44_any (hL.ext hX))
  clear hL
  go_enter Tryz.func4, Tryz.ntmps4
  go_wp2_with fail
  refine hkn.out.mono ?_
  rintro e w1 ⟨rfl, hE1⟩
  have d0 := hE1.cell (show (w.alloc (.cells #[.int .i64 x, .int .i64 y] 27)).cell? ⟨w.heap.size, 0, none⟩ = some (.int .i64 x) by go_simp)
  have d1 := hE1.cell (show (w.alloc (.cells #[.int .i64 x, .int .i64 y] 27)).cell? ⟨w.heap.size, 1, none⟩ = some (.int .i64 y) by go_simp)
  have hX1 := hX.trans hE1
  clear hE1 hkn hX
  go_wp2_with fail
  refine (hn.out _).mono ?_
  rintro e w2 ⟨rfl, hE2⟩
  have hX2 := hX1.trans hE2
  go_wp2_with fail
  go_ret
  exact ⟨by simp, hX2⟩
set_option maxRecDepth 100000 in
set_option maxHeartbeats 2000000 in
theorem ln4_far {w : World} {k x y : Int} (hL : Laid w) (hk : k = 1 ∨ k = 2) (hx : I64 x) (hy : I64 y) (hf : farB x y = true) :
    Calls Tryz.prog 4 #[.int .i64 k, .agg #[.int .i64 x, .int .i64 y]] w fun e w' => e = .returned (.bool true) ∧ Ext w w' := by
  have hX := (Ext.refl w).alloc (.cells #[.int .i64 x, .int .i64 y] 27)
  have hn := Lib.hid (fun W => Neighbours_far (w := W) hk hx hy hf)
  have hkn := Lib.hid (known44_any (hL.ext hX))
  have hc : x > 1000000 ∨ ¬ x > 1000000 ∧ x < -1000000 ∨ ¬ x > 1000000 ∧ ¬ x < -1000000 ∧ y > 1000000 ∨ ¬ x > 1000000 ∧ ¬ x < -1000000 ∧ ¬ y > 1000000 ∧ y < -1000000 := by
    unfold farB at hf
    simp only [Bool.or_eq_true, decide_eq_true_eq] at hf
    omega
  clear hL hf hx hy
  rcases hk with rfl | rfl
  all_goals
    go_enter Tryz.func4, Tryz.ntmps4
    go_wp2_with fail
    refine hkn.out.mono ?_
    rintro e w1 ⟨rfl, hE1⟩
    have d0 := hE1.cell (show (w.alloc (.cells #[.int .i64 x, .int .i64 y] 27)).cell? ⟨w.heap.size, 0, none⟩ = some (.int .i64 x) by go_simp)
    have d1 := hE1.cell (show (w.alloc (.cells #[.int .i64 x, .int .i64 y] 27)).cell? ⟨w.heap.size, 1, none⟩ = some (.int .i64 y) by go_simp)
    have hX1 := hX.trans hE1
    clear hE1 hkn hX
    go_wp2_with fail
    refine (hn.out _).mono ?_
    rintro e w2 ⟨rfl, hE2⟩
    have e0 := hE2.cell d0
    have e1 := hE2.cell d1
    have hX2 := hX1.trans hE2
    clear d0 d1 hE2 hX1 hn
    rcases hc with h1 | ⟨h1, h2⟩ | ⟨h1, h2, h3⟩ | ⟨h1, h2, h3, h4⟩
    all_goals
      go_wp2_with fail
      go_ret
      exact ⟨by simp, hX2⟩
end Go.Proofs.YtnmmglnadnfoiaaGreatDoor
/- schismalaw44: LayoutNeighbours of right kinds and keys. -/
namespace Go.Proofs.YtnmmglnadnfoiaaGreatDoor
open Go.RowKit Go.Sort
theorem fnd_step {b : Bool} {x y : Int} {l : List (Int × Int)} (x2 y2 : Int) (hb : b = decide ((x, y) ∈ l)) : (b || decide (x2 = x ∧ y2 = y)) = decide ((x, y) ∈ l ++ [(x2, y2)]) := by
  rw [hb, Bool.eq_iff_iff]
  simp only [Bool.or_eq_true, decide_eq_true_eq, List.mem_append, List.mem_singleton, Prod.mk.injEq]
  constructor
  · rintro (h | ⟨h1, h2⟩)
    · exact .inl h
    · exact .inr ⟨h1.symm, h2.symm⟩
  · rintro (h | ⟨h1, h2⟩)
    · exact .inl h
    · exact .inr ⟨h1.symm, h2.symm⟩
set_option maxRecDepth 100000 in
set_option maxHeartbeats 4000000 in
theorem ln4_ok {w : World} {k x y : Int} {h : Bool} (hL : Laid w) (hk : k = 1 ∧ h = false ∨ k = 2 ∧ h = true) (hx : -1000000 ≤ x ∧ x ≤ 1000000) (hy : -1000000 ≤ y ∧ y ≤ 1000000) :
    Calls Tryz.prog 4 #[.int .i64 k, .agg #[.int .i64 x, .int .i64 y]] w fun e w' => e = .returned (.bool true) ∧ Ext w w' := by
  have hX := (Ext.refl w).alloc (.cells #[.int .i64 x, .int .i64 y] 27)
  have hn := Lib.hid (fun W => Neighbours_ok (w := W) hk hx hy)
  have hkn := Lib.hid (known44_any (hL.ext hX))
  have hfar := Lib.hid (fun W (x y : Int) (hx : I64 x) (hy : I64 y) (hf : farB x y = true) => Neighbours_far (w := W) (k := k) (by omega) hx hy hf)
  have hnb := Lib.hid (fun W (x y : Int) (hx : -1000000 ≤ x ∧ x ≤ 1000000) (hy : -1000000 ≤ y ∧ y ≤ 1000000) => Neighbours_ok (w := W) hk hx hy)
  obtain ⟨hx1, hx2⟩ := hx
  obtain ⟨hy1, hy2⟩ := hy
  have z1 : ¬ x > 1000000 := by omega
  have z2 : ¬ x < -1000000 := by omega
  have z3 : ¬ y > 1000000 := by omega
  have z4 : ¬ y < -1000000 := by omega
  clear hL
  rcases hk with ⟨rfl, hh⟩ | ⟨rfl, hh⟩
  all_goals
    have Hh := Lib.hid hh
    clear hh
    go_enter Tryz.func4, Tryz.ntmps4
    go_wp2_with fail
    refine hkn.out.mono ?_
    rintro e w1 ⟨rfl, hE1⟩
    have d0 := hE1.cell (show (w.alloc (.cells #[.int .i64 x, .int .i64 y] 27)).cell? ⟨w.heap.size, 0, none⟩ = some (.int .i64 x) by go_simp)
    have d1 := hE1.cell (show (w.alloc (.cells #[.int .i64 x, .int .i64 y] 27)).cell? ⟨w.heap.size, 1, none⟩ = some (.int .i64 y) by go_simp)
    have hX1 := hX.trans hE1
    clear hE1 hkn hX
    go_wp2_with fail
    refine (hn.out _).mono ?_
    rintro e w2 ⟨⟨v, rfl, hv⟩, hE2⟩
    obtain ⟨gl, cl, rfl, hK⟩ := hv.open (nbs_len h x y).1
    replace d0 := hE2.cell d0
    replace d1 := hE2.cell d1
    have dl := World.block_lt_of_cell? _ _ d0
    have hX2 := hX1.trans hE2
    have HK := Lib.hid hK
    clear hE2 hX1 hn hv hK
    go_wp2_with fail
    go_loopw [8, 9, 10] (fun out yv xv wr => ∃ c : Int, -1 ≤ c ∧ c ≤ 2 ∧ yv = .int .i64 c ∧ Hid (KeysV w2.heap.size wr out (nbTo h x y (c + 1).toNat)) ∧ Ext w2 wr) (fun _ yv _ _ => 3 - (intOf yv + 1).toNat)
    case atStart => exact ⟨-1, by omega, by omega, rfl, Lib.hid (KeysV.nil _ _), Ext.refl _⟩
    case round =>
      obtain ⟨c, hc1, hc2, rfl, hO, hE2⟩ := hrel
      generalize wr = Y at *
      by_cases hc3 : c ≤ 1
      · go_wp2_with fail
        go_loopw [8, 10] (fun out xv wr => ∃ d : Int, -1 ≤ d ∧ d ≤ 2 ∧ xv = .int .i64 d ∧ Hid (KeysV w2.heap.size wr out (nbTo h x y (c + 1).toNat ++ nbRow h x y c (d + 1).toNat)) ∧ Ext w2 wr) (fun _ xv _ => 3 - (intOf xv + 1).toNat)
        case atStart => exact ⟨-1, by omega, by omega, rfl, Lib.hid (by have := hO.out; simpa [nbRow] using this), hE2⟩
        case round =>
          obtain ⟨d, hd1, hd2, rfl, hI, hE3⟩ := hrel
          generalize wr = Z at *
          clear hO
          by_cases hd3 : d ≤ 1
          · obtain ⟨xd, hxd⟩ : ∃ xd, xd = x + d := ⟨_, rfl⟩
            obtain ⟨yc, hyc⟩ : ∃ yc, yc = y + c := ⟨_, rfl⟩
            have Hln := Lib.hid (show (nbTo h x y (c + 1).toNat ++ nbRow h x y c (d + 1).toNat).length ≤ 100 by
              have h1 := nbTo_le h x y (c + 1).toNat
              have h2 := nbRow_le h x y c (d + 1).toNat
              rw [List.length_append]; omega)
            have Hn := Lib.hid (congrArg (fun z => nbTo h x y (c + 1).toNat ++ z) (nbRow_c h x y c hd1))
            simp only [← List.append_assoc] at Hn
            rw [← hxd, ← hyc] at Hn
            obtain ⟨L, hL⟩ : ∃ L, L = nbTo h x y (c + 1).toNat ++ nbRow h x y c (d + 1).toNat := ⟨_, rfl⟩
            rw [← hL] at Hn Hln hI
            clear hL
            have Hxd := Lib.hid hxd
            have Hyc := Lib.hid hyc
            clear hxd hyc
            have c0 := hE3.cell d0
            have c1 := hE3.cell d1
            have hsz := hE3.size
            cases hB : nbB h d c
            · have hB := Lib.hid hB
              rcases (show c = -1 ∨ c = 0 ∨ c = 1 by omega) with rfl | rfl | rfl <;> rcases (show d = -1 ∨ d = 0 ∨ d = 1 by omega) with rfl | rfl | rfl
              all_goals try (exfalso; have := hB.out; rw [Hh.out] at this; revert this; decide)
              all_goals
                clear hc1 hc2 hc3 hd1 hd2 hd3
                have hO8 := hI.out
                have hnn := Hn.out
                rw [hB.out, if_neg (by decide), List.append_nil] at hnn
                rw [← hnn] at hO8
                have HO8 := Lib.hid hO8
                clear hO8 hnn
                go_wp2_with fail
                go_roundw
                case rel => exact ⟨_, by decide, by decide, rfl, HO8, hE3⟩
                case measure => simp [intOf]
            · have hB := Lib.hid hB
              rcases (show c = -1 ∨ c = 0 ∨ c = 1 by omega) with rfl | rfl | rfl <;> rcases (show d = -1 ∨ d = 0 ∨ d = 1 by omega) with rfl | rfl | rfl
              all_goals try (exfalso; have := hB.out; rw [Hh.out] at this; revert this; decide)
              all_goals
                clear hc1 hc2 hc3 hd1 hd2 hd3
                have hnn := Hn.out
                rw [hB.out, if_pos rfl] at hnn
                have Hnn := Lib.hid hnn
                clear hnn
                go_wp2_with (at_builtin; refine app_key rfl _ _ rfl rfl (hI.out.ext ((Ext.refl _).alloc _)) rfl (b := Z.heap.size) (y := xd) (z := yc) (by rw [Hxd.out]; go_simp) (by rw [Hyc.out]; go_simp) (by have := Hln.out; omega) (by simp; omega) ?_; intro gg cap2 w8 hO8 hB8 hG8; rw [← Hnn.out] at hO8; have hE8 := Below.trans (hE3.alloc _) hB8; replace hO8 := Lib.hid hO8; clear hB8 hG8)
                refine ⟨⟨_, by decide, by decide, rfl, hO8, hE8⟩, by simp [intOf]⟩
          · have hde : d = 2 := by omega
            subst hde
            have HO3 := Lib.hid (show KeysV w2.heap.size Z _ (nbTo h x y (c + 1 + 1).toNat) by rw [nbTo_c h x y hc1]; exact hI.out)
            go_wp2_with fail
            go_roundw
            case rel => exact ⟨c + 1, by omega, by omega, by go_num, HO3, hE3⟩
            case measure => simp [intOf] <;> omega
      · have hce : c = 2 := by omega
        subst hce
        have hO3 : KeysV w2.heap.size Y _ (nbs h x y) := hO.out
        obtain ⟨gd, cd, rfl, hD⟩ := hO3.open (nbs_len h x y).1
        have hky := Lib.hid (keys_same (w := Y) (g1 := gl) (c1 := cl) (g2 := gd) (c2 := cd) rfl (HK.out.ext hE2) hD (by have := (nbs_len h x y).2; omega))
        have e0 := hE2.cell d0
        have e1 := hE2.cell d1
        have hX3 := hX2.trans hE2
        have HK2 := Lib.hid (HK.out.ext hE2)
        clear hO hO3 hD d0 d1 hE2 hc1 hc2 hc3
        have Hmem := Lib.hid (fun i (hi : i < (nbs h x y).length) => List.getElem_mem hi)
        have hln := (nbs_len h x y).2
        obtain ⟨l, hl⟩ : ∃ l, l = nbs h x y := ⟨_, rfl⟩
        have Hl := Lib.hid hl
        rw [← hl] at hky HK2 hln ⊢
        clear hl Hmem
        obtain ⟨n, hn⟩ : ∃ n, n = l.length := ⟨_, rfl⟩
        rw [← hn] at hky hln ⊢
        have Hn := Lib.hid hn
        clear hn
        go_wp2_with fail
        refine hky.out.mono ?_
        rintro e w3 ⟨rfl, hE3⟩
        have d0 := hE3.cell e0
        have d1 := hE3.cell e1
        have HK3 := Lib.hid (HK2.out.ext hE3)
        have hX4 := hX3.trans hE3
        clear e0 e1 HK2 hky hX3 hE3
        go_wp2_with fail
        go_loopw [11, 12, 13, 14, 15] (fun idx bk f fd nn wr => ∃ i : Nat, i ≤ n ∧ idx = .int .i64 i ∧ Ext w3 wr) (fun idx _ _ _ _ _ => n - (intOf idx).toNat)
        case atStart => exact ⟨0, by omega, by go_num, Ext.refl _⟩
        case round =>
          obtain ⟨i, hi, rfl, hE4⟩ := hrel
          generalize wr = X at *
          by_cases hlt : i < n
          · have hii : (i : Int) < (n : Int) := by omega
            have hil : i < l.length := by rw [← Hn.out]; exact hlt
            have a0 := (HK3.out.ext hE4).x i hil
            have a1 := (HK3.out.ext hE4).y i hil
            have hm : l[i] ∈ nbs h x y := by rw [← Hl.out]; exact List.getElem_mem hil
            have hnr := nbs_near h hm
            have hbk := Lib.hid (nbs_back h hm)
            obtain ⟨x', hx'⟩ : ∃ x', x' = l[i].1 := ⟨_, rfl⟩
            obtain ⟨y', hy'⟩ : ∃ y', y' = l[i].2 := ⟨_, rfl⟩
            rw [← hx', ← hy'] at hbk hnr
            rw [← hx'] at a0
            rw [← hy'] at a1
            have f0 := hE4.cell d0
            have f1 := hE4.cell d1
            clear hm hx' hy' hil
            obtain ⟨n1, n2, n3, n4⟩ := hnr
            by_cases hf : farB x' y' = true
            · have hq := Lib.hid (hfar.out X x' y' (by unfold I64; omega) (by unfold I64; omega) hf)
              clear hf
              go_wp2_with fail
              refine hq.out.mono ?_
              rintro e w5 ⟨rfl, hE5⟩
              have hX5 := hE4.trans hE5
              clear hq
              go_wp2_with fail
              go_roundw
              case rel => exact ⟨i + 1, by omega, by go_num, hX5⟩
              case measure => simp [intOf] <;> omega
            · have hfb : (-1000000 ≤ x' ∧ x' ≤ 1000000) ∧ (-1000000 ≤ y' ∧ y' ≤ 1000000) := by
                unfold farB at hf
                simp only [Bool.or_eq_true, decide_eq_true_eq] at hf
                omega
              have hq := Lib.hid (hnb.out X x' y' hfb.1 hfb.2)
              clear hf hfb
              go_wp2_with fail
              refine hq.out.mono ?_
              rintro e w5 ⟨⟨v, rfl, hv⟩, hE5⟩
              obtain ⟨gv, cv, rfl, hV⟩ := hv.open (nbs_len h x' y').1
              have hvn := (nbs_len h x' y').2
              obtain ⟨m, hm⟩ : ∃ m, m = nbs h x' y' := ⟨_, rfl⟩
              rw [← hm] at hV hvn hbk ⊢
              obtain ⟨q, hqn⟩ : ∃ q, q = m.length := ⟨_, rfl⟩
              rw [← hqn] at hvn ⊢
              have Hq := Lib.hid hqn
              have HV := Lib.hid hV
              have hX5 := hE4.trans hE5
              have j0 := hE5.cell f0
              have j1 := hE5.cell f1
              clear hq hv hV hqn hm hE5 f0 f1 a0 a1 n1 n2 n3 n4
              go_wp2_with fail
              go_loopw [14, 15] (fun fd nn wr => ∃ (j : Nat) (b : Bool), j ≤ q ∧ nn = .int .i64 j ∧ fd = .bool b ∧ Hid (b = decide ((x, y) ∈ m.take j)) ∧ Ext w5 wr) (fun _ nn _ => q - (intOf nn).toNat)
              case atStart => exact ⟨0, false, by omega, by go_num, rfl, Lib.hid (by simp), Ext.refl _⟩
              case round =>
                obtain ⟨j, b, hj, rfl, rfl, Hb, hE6⟩ := hrel
                generalize wr = V at *
                by_cases hjt : j < q
                · have hjj : (j : Int) < (q : Int) := by omega
                  have hjl : j < m.length := by rw [← Hq.out]; exact hjt
                  have b0 := (HV.out.ext hE6).x j hjl
                  have b1 := (HV.out.ext hE6).y j hjl
                  have f0 := hE6.cell j0
                  have f1 := hE6.cell j1
                  have Htk := Lib.hid (show m.take (j + 1) = m.take j ++ [(m[j].1, m[j].2)] from List.take_succ_eq_append_getElem hjl)
                  obtain ⟨x2, hx2⟩ : ∃ x2, x2 = m[j].1 := ⟨_, rfl⟩
                  obtain ⟨y2, hy2⟩ : ∃ y2, y2 = m[j].2 := ⟨_, rfl⟩
                  rw [← hx2, ← hy2] at Htk
                  rw [← hx2] at b0
                  rw [← hy2] at b1
                  clear hx2 hy2 hjl
                  have Hx := Lib.hid (fnd_step x2 y2 Hb.out)
                  rw [← Htk.out] at Hx
                  clear Htk Hb
                  have hX7 := hE6.drewN
                  cases b
                  · by_cases h1 : x2 = x
                    · by_cases h2 : y2 = y
                      · subst h1 h2
                        have HB := Lib.hid (show true = decide ((x2, y2) ∈ m.take (j + 1)) by rw [← Hx.out]; simp)
                        go_wp2_with fail
                        go_quiet (fail)
                        go_wp2_with fail
                        go_roundw
                        case rel => exact ⟨j + 1, true, by omega, by go_num, rfl, HB, hX7 _⟩
                        case measure => simp [intOf] <;> omega
                      · subst h1
                        have HB := Lib.hid (show false = decide ((x2, y) ∈ m.take (j + 1)) by rw [← Hx.out]; simp [h2])
                        have hb2 : (y2 == y) = false := beq_eq_false_iff_ne.2 h2
                        go_wp2_with fail
                        go_quiet (fail)
                        go_wp2_with fail
                        go_roundw
                        case rel => exact ⟨j + 1, false, by omega, by go_num, rfl, HB, hX7 _⟩
                        case measure => simp [intOf] <;> omega
                    · have HB := Lib.hid (show false = decide ((x, y) ∈ m.take (j + 1)) by rw [← Hx.out]; simp [h1])
                      have hb2 : (x2 == x) = false := beq_eq_false_iff_ne.2 h1
                      go_wp2_with fail
                      go_quiet (fail)
                      go_wp2_with fail
                      go_roundw
                      case rel => exact ⟨j + 1, false, by omega, by go_num, rfl, HB, hX7 _⟩
                      case measure => simp [intOf] <;> omega
                  · have HB := Lib.hid (show true = decide ((x, y) ∈ m.take (j + 1)) by rw [← Hx.out]; simp)
                    go_wp2_with fail
                    go_quiet (fail)
                    go_wp2_with fail
                    go_roundw
                    case rel => exact ⟨j + 1, true, by omega, by go_num, rfl, HB, hX7 _⟩
                    case measure => simp [intOf] <;> omega
                · have hje : j = q := by omega
                  subst hje
                  have hbt : b = true := by rw [Hb.out, Hq.out, List.take_length]; exact decide_eq_true hbk.out
                  subst hbt
                  have hX6 := hX5.trans hE6
                  go_wp2_with fail
                  go_roundw
                  case rel => exact ⟨i + 1, by omega, by go_num, hX6⟩
                  case measure => simp [intOf] <;> omega
          · have hie : i = n := by omega
            subst hie
            have hX5 := hX4.trans hE4
            go_wp2_with fail
            go_ret
            exact ⟨rfl, hX5⟩
end Go.Proofs.YtnmmglnadnfoiaaGreatDoor
/- what the rows' frames need: the listed variables, matrices opened -/
namespace Go.Proofs.YtnmmglnadnfoiaaGreatDoor
open Go.ChangeShapes Go.WideShapes Go.ChangeAt Go.WideMaps Go.WideElems Go.RowKit Go.Deep
theorem fr_own : ownKnob Tryz.prog.godebug = none := by kernel_rfl
theorem fr_laidOut : laidOutB Tryz.prog = true := by kernel_rfl
theorem fr_pow : Tryz.prog.globalNamed "internal/strconv.uint64pow10" = some 3 := by kernel_rfl
theorem fr_powT : (Tryz.prog.globals[3]?).map (·.type) = some 253 := by kernel_rfl
theorem fr_rng : Tryz.prog.globalNamed "strconv.ErrRange" = some 2 := by kernel_rfl
theorem fr_rngT : (Tryz.prog.globals[2]?).map (·.type) = some 174 := by kernel_rfl
theorem fr_c20 : Tryz.prog.cellsOf 253 = 20 := by kernel_rfl
theorem fr_cu : Tryz.prog.cellsOf 193 = 1 := by kernel_rfl
theorem fr_cE : Tryz.prog.cellsOf 258 = 1 := by kernel_rfl
theorem fr_cS : Tryz.prog.cellsOf 9 = 1 := by kernel_rfl
theorem fr_cR : Tryz.prog.cellsOf 30 = 1 := by kernel_rfl
theorem fr_cI : Tryz.prog.cellsOf 3 = 1 := by kernel_rfl
theorem fr_star : "*" ++ "errors.errorString" = "*errors.errorString" := by decide
theorem fr_ptr (u : TypeId) (h : Tryz.prog.typeName? 3 u = some "*errors.errorString") : u = 256 :=
  typeName_ptr_named (nm := "errors.errorString") (by rw [fr_star]; kernel_rfl) (by kernel_rfl) (by decide) u (by rw [fr_star]; exact h)
abbrev fr_list : List (String × DataW Unit) := [("math/bits.deBruijn32tab", Rows.laid_math_bits_deBruijn32tab), ("math/bits.deBruijn64tab", Rows.laid_math_bits_deBruijn64tab), ("internal/strconv.uint64pow10", Rows.laid_internal_strconv_uint64pow10), ("strconv.ErrRange", Rows.laid_strconv_ErrRange), ("strconv.ErrSyntax", Rows.laid_strconv_ErrSyntax)]
theorem fr_tab : (Rows.laid_internal_strconv_uint64pow10 : DataW Unit) = Lib.tabData .u64 Lib.pow10Tab := by kernel_rfl
theorem laid_of {W : World} (h : laidMetH Tryz.prog fr_list W) : Laid W := by
  rw [MakeChecks.laidMetH_plain _ _ _ (by kernel_rfl)] at h
  have h3 := h.tail.tail
  rw [fr_tab] at h3
  refine ⟨Lib.tabIs_of_head fr_pow fr_powT Tryz.underlying253 Tryz.underlying193 fr_cu fr_c20 h3, ?_⟩
  obtain ⟨a, s, hv, _⟩ := laid_sentinel h3.tail fr_rng fr_rngT Tryz.underlying174 fr_ptr Tryz.underlying256 Tryz.underlying258 rfl rfl Tryz.underlying9 fr_cE fr_cS
  exact ⟨_, _, hv⟩
/-- The door's own heap meets the condition. -/
theorem door_met (os : Os) (args : Array Value) : laidMetH Tryz.prog fr_list ((World.doorLaid Tryz.prog 400 os).forCall (fun _ _ => 0) ⟨#[], args, []⟩).memory :=
  laidMetH_of_parts3 (fuel := 8) (laidMet_of_run' 8 (by kernel_rfl) (by kernel_rfl)) (by kernel_rfl) (by kernel_rfl)
theorem row_open {W : World} {A : Option Addr} {L C : Nat} {Z : List Int} {base : Nat} (h1 : L ≤ C) (h2 : Z.length = C) (h3 : A = none → C = 0) (h4 : ∀ a', A = some a' → base ≤ a'.block ∧ ∀ c, c < C → W.cell? (a'.add c) = some (.int .i64 (Z.getD c 0))) : RowR W (.slice A L C) (Z.take L) := by
  have hl : (Z.take L).length = L := by rw [List.length_take]; omega
  cases A with
  | none =>
    have hC := h3 rfl
    refine ⟨none, 0, 0, C, by rw [hl], by rw [hl]; exact h1, fun h => ?_, fun i x hx => ?_⟩
    · rw [is_length, hl] at h; omega
    · have := (List.getElem?_eq_some_iff.1 hx).1
      rw [is_length, hl] at this; omega
  | some a =>
    obtain ⟨_, hc⟩ := h4 a rfl
    have hsp : 0 < L → a.spot = none := fun h => by simpa [Addr.add] using World.cell?_spot (hc 0 (by omega))
    obtain ⟨b, o, sp⟩ := a
    refine ⟨some ⟨b, o, sp⟩, b, o, C, by rw [hl], by rw [hl]; exact h1, fun h => ?_, fun i x hx => ?_⟩
    · rw [is_length, hl] at h
      have := hsp h
      simp at this
      rw [this]
    · have hi := (List.getElem?_eq_some_iff.1 hx).1
      rw [is_length, hl] at hi
      have := hsp (by omega)
      simp at this
      subst this
      rw [is_get (by rw [hl]; exact hi)] at hx
      have e := Option.some.inj hx
      rw [← e, ← add_plain, hc i (by omega), List.getElem_take, getD_get (by omega)]
theorem mat_open {H : Type} {enc : TypeId × Value → H} {W : World} {base : Nat} {held : Bool} {fuel : Nat} {v : Value} {x : DataW H × List MemPlace} (hv : v.cells.toList = [v])
    (h : DataW.trod enc Tryz.prog W base (fun _ => true) held fuel 49 v.cells.toList = some x) : ∃ M, MatR W v M := by
  rw [hv] at h
  rcases open_int_rows Tryz.underlying49 Tryz.underlying30 Tryz.underlying3 fr_cR fr_cI h with ⟨hcs, _⟩ | ⟨a, len, cap, A, L, C, Z, hcs, _, hl, _, _, hrows⟩
  · obtain rfl : v = .slice none 0 0 := by simpa using hcs
    exact ⟨[], none, 0, 0, 0, [], rfl, Nat.le_refl _, rfl, Sl.nil _ _ _ _, fun i h => by simp at h⟩
  · obtain rfl : v = .slice (some a) len cap := by simpa using hcs
    have hsp : 0 < len → a.spot = none := fun h => by simpa [Addr.add] using World.cell?_spot (hrows 0 (by omega)).1
    obtain ⟨b, o, sp⟩ := a
    refine ⟨(List.range len).map fun r => (Z r).take (L r), some ⟨b, o, sp⟩, b, o, cap, (List.range len).map fun r => .slice (A r) (L r) (C r), by simp, by simpa using hl, by simp, ⟨fun h => ?_, fun i y hy => ?_⟩, fun i hi hi' => ?_⟩
    · have := hsp (by simpa using h)
      simp at this
      rw [this]
    · have hi := (List.getElem?_eq_some_iff.1 hy).1
      have hil : i < len := by simpa using hi
      have := hsp (by omega)
      simp at this
      subst this
      have e : y = .slice (A i) (L i) (C i) := by
        rw [List.getElem?_eq_getElem hi] at hy
        have := Option.some.inj hy
        rw [← this]; simp
      rw [e, ← add_plain]
      exact (hrows i (by omega)).1
    · have hil : i < len := by simpa using hi
      obtain ⟨_, r1, _, r3, _, r5, r6⟩ := hrows i (by omega)
      have := row_open r1 r3 r5 r6
      simpa using this
end Go.Proofs.YtnmmglnadnfoiaaGreatDoor
/- schismalaw44.LayoutNeighbours: for every kind and key the law returns true, and they read as they did. No condition but what the card itself prints. -/
namespace Go.Proofs.YtnmmglnadnfoiaaGreatDoor
open Go.ChangeShapes Go.WideShapes Go.ChangeAt Go.WideMaps Go.WideElems Go.RowKit Go.Deep
theorem fr_cK : Tryz.prog.cellsOf 27 = 2 := by kernel_rfl
theorem i64_bounds {n : Int} (h : (Lit.int .i64 n).wf = true) : I64 n := by
  simp only [Lit.wf, Bool.and_eq_true, decide_eq_true_eq] at h
  have e1 : IntKind.i64.min = -9223372036854775808 := by rfl
  have e2 : IntKind.i64.max = 9223372036854775807 := by rfl
  unfold I64
  omega
set_option maxRecDepth 100000 in
theorem key_open {H : Type} {enc : TypeId × Value → H} {W : World} {base : Nat} {sp : Nat → Bool} {held : Bool} {fuel : Nat} {cs : Array Value} {x : DataW H × List MemPlace} (hs : cs.size = 2)
    (h : DataW.trod enc Tryz.prog W base sp held fuel 27 cs.toList = some x) : ∃ a b, cs = #[.int .i64 a, .int .i64 b] ∧ I64 a ∧ I64 b := by
  obtain ⟨xs, n, _, _, _, hxl, hx⟩ := DataW.trod_struct Tryz.underlying27 h
  have hx3 : xs.length = 2 := hxl
  have h0 := hx 0 _ rfl
  have h1 := hx 1 _ rfl
  rw [List.getElem?_eq_getElem (by omega)] at h0 h1
  have h0' : DataW.trod enc Tryz.prog W base sp held n 3 ((cs.toList.drop 0).take 1) = some xs[0] := h0
  have h1' : DataW.trod enc Tryz.prog W base sp held n 3 ((cs.toList.drop 1).take 1) = some xs[1] := h1
  obtain ⟨r, hr, _, wr⟩ := DataW.trod_int Tryz.underlying3 h0'
  obtain ⟨c, hc, _, wc⟩ := DataW.trod_int Tryz.underlying3 h1'
  obtain ⟨l⟩ := cs
  match l, hs with
  | [a, b], _ =>
    simp at hr hc
    subst hr hc
    exact ⟨r, c, rfl, i64_bounds wr, i64_bounds wc⟩
theorem ln_walk {w : World} {k x y : Int} (hL : Laid w) (hx : I64 x) (hy : I64 y) :
    Calls Tryz.prog 4 #[.int .i64 k, .agg #[.int .i64 x, .int .i64 y]] w fun e w' => e = .returned (.bool true) ∧ Ext w w' := by
  by_cases h1 : k = 1 ∨ k = 2
  · by_cases hf : farB x y = true
    · exact ln4_far hL h1 hx hy hf
    · have hb : (-1000000 ≤ x ∧ x ≤ 1000000) ∧ (-1000000 ≤ y ∧ y ≤ 1000000) := by
        unfold farB at hf
        simp only [Bool.or_eq_true, decide_eq_true_eq] at hf
        omega
      rcases h1 with h1 | h1
      · exact ln4_ok (h := false) hL (.inl ⟨h1, rfl⟩) hb.1 hb.2
      · exact ln4_ok (h := true) hL (.inr ⟨h1, rfl⟩) hb.1 hb.2
  · exact ln4_kind hL (fun h => h1 (.inl h)) (fun h => h1 (.inr h))
set_option maxRecDepth 100000 in
set_option maxHeartbeats 2000000 in
theorem lns_lifted (os : Os) (started : os.Started) (H : Type) (enc : TypeId × Value → H) :
    ReturnsInHanded {} Tryz.checked os 4 .any (fun w args => (Rows.layoutNeighboursSpec.pre enc Tryz.prog Tryz.f4 [] false w args ∧ laidMetH Tryz.prog fr_list w) ∧ sizedMet enc Tryz.prog Tryz.f4 (OpenSpec.ofChange Rows.layoutNeighboursSpec) false w args)
      (Rows.layoutNeighboursSpec.post enc Tryz.prog Tryz.f4 false true false false) := by
  refine returnsInHanded_of_change_and (C := Tryz.checked) (X := fun w _ => laidMetH Tryz.prog fr_list w) (fun _ _ _ hh h => h.of_heap hh) fr_own started (by kernel_rfl) Tryz.func4
    (ChangeSpec.witness_shaped (enc := enc) (C := Tryz.checked) (os := os) (X := fun w _ => laidMetH Tryz.prog fr_list w) false (World.doorLaid Tryz.prog 400 os) #[.int .i64 0, .agg #[.int .i64 0, .int .i64 0]] 8 rfl (World.shaped_of_RefB (by kernel_rfl) (by kernel_rfl)) (by kernel_rfl) (by kernel_rfl) (by kernel_rfl) (door_met os _)) ?_
  intro W base args ds gs before hval0 hW _ _ hL _
  have hval : ∀ (j : Nat) t v, Tryz.f4.params[j]? = some t → args[j]? = some v → Value.okWide Tryz.prog W .any base t v := hval0
  have hW' := hW
  obtain ⟨p, q, hA0, hV, rfl, hfz, hnd⟩ := hW
  have hA : DataW.TrodAll enc Tryz.prog W 0 (fun _ => true) true Tryz.f4.params.toList args.toList ds p := hA0
  rw [Tryz.params4] at hA hval
  obtain ⟨v0, v1, d0, d1, p0, p1, rfl, rfl, rfl, h0, h1⟩ := trodAll_two hA
  obtain ⟨rfl, rfl⟩ := trodVars_none hV
  obtain ⟨k, rfl, rfl, rfl, hw⟩ := open_int Tryz.underlying3 (hval 0 3 v0 rfl rfl) h0
  obtain ⟨bs, rfl, hs1⟩ := okWide_struct Tryz.underlying27 (hval 1 27 v1 rfl rfl)
  rw [fr_cK] at hs1
  have h0k := h0
  have h1k := h1
  obtain ⟨fuel1, hf1⟩ := h1
  obtain ⟨x, y, rfl, hx, hy⟩ := key_open hs1 hf1
  clear hA0 hval0 hf1
  simp only [List.append_nil] at hW'
  have hlt : ∀ z ∈ [] ++ p1, z.block < W.heap.size := fun z hz => by simpa using hW'.lt z hz
  refine (ln_walk (laid_of hL) hx hy).mono ?_
  rintro e W' ⟨rfl, hE⟩
  have e1 : Rows.layoutNeighboursSpec.fn H ([.lit (.int .i64 k), d1] ++ []) = { results := [.lit (.bool true)], args := [.lit (.int .i64 k), d1] } := rfl
  refine ⟨_, rfl, _, _, _, [], [] ++ p1, [], hW', ?_, ?_, ?_, hE.frame _, fun h => by cases h⟩
  · rw [e1]; exact trodAll_mk1 (shut_bool Tryz.underlying4 true)
  · rw [e1]; exact trodAll_mk2 (Below.trod fr_laidOut (by kernel_rfl) (of_decide_eq_true (by kernel_rfl)) h0k hE fun x hx => hlt x (List.mem_append_left _ hx)) (Below.trod fr_laidOut (by kernel_rfl) (of_decide_eq_true (by kernel_rfl)) h1k hE fun x hx => hlt x (List.mem_append_right _ hx))
  · rw [e1]; rfl
theorem lns_holds : Rows.LayoutNeighboursSaid :=
  OpenClaim.holds_of_wide 4 Tryz.f4 rfl rfl rfl rfl rfl rfl rfl ⟨rfl, rfl, rfl, rfl, rfl⟩ rfl rfl rfl rfl rfl (by kernel_rfl) Tryz.func4 (by kernel_rfl)
    (of_decide_eq_true (by kernel_rfl)) (by unfold Func.isWrapper; first | (rw [if_pos (by decide +kernel)]; kernel_rfl) | (rw [if_neg (by decide +kernel)]; exact ⟨rfl, rfl⟩))
    (fun os started H enc _ => lns_lifted os started H enc)
theorem layoutNeighbours_card : Rows.LayoutNeighboursCardSaid :=
  Claim7.holds_tied_plain_at .later [] [.data, .data, .data, .sentinel, .sentinel] true Rows.layoutNeighboursCard.stood.harness true
    lns_holds (fun _ h => by cases h) (by kernel_rfl) (fun _ h => by cases h) layoutNeighbours_row_tie rfl ⟨rfl, rfl⟩ (by kernel_rfl) rfl
    (fun f fn hf hfn => by
      obtain rfl : f = 4 := Option.some.inj ((show Tryz.prog.funcNamed "schisma/schismalaw44.LayoutNeighbours" = some 4 by kernel_rfl).symm.trans hf) |>.symm
      obtain rfl : fn = Tryz.f4 := (Option.some.inj (Tryz.func4.symm.trans hfn)).symm
      exact ⟨by kernel_rfl, fun j t ht => by
        rw [Tryz.params4] at ht
        have hm : t ∈ [3, 27] := by simpa using Array.mem_of_getElem? ht
        have hall : ([3, 27].all fun u => !Tryz.prog.wantsStandIn u) = true := by kernel_rfl
        exact (show Tryz.prog.wantsStandIn t = false by simpa using List.all_eq_true.1 hall t hm)⟩)
    (by kernel_rfl)
#print axioms layoutNeighbours_card
end Go.Proofs.YtnmmglnadnfoiaaGreatDoor
