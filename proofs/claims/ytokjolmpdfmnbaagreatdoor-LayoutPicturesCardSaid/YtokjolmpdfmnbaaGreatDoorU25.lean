/- Part 25 of the proof of the claim: contracts of the functions that it reaches, and plain laws; no condition. -/
import Derived.Test.YtokjolmpdfmnbaaGreatDoorU24
import Derived.Test.YtokjolmpdfmnbaaGreatDoorU03
import Derived.Test.YtokjolmpdfmnbaaGreatDoorU11
import Derived.Test.YtokjolmpdfmnbaaGreatDoorRows
import Derived.ProofKit
import Derived.LaidMore
import Derived.OpenShut
import Derived.Stop.Joined
import Derived.Stop.LaidErr
import Derived.Lib.LaidTab
import Derived.Deep.Matrix
namespace Go.Proofs.YtokjolmpdfmnbaaGreatDoor
open Go.RowKit Go.Sort
theorem rowp2 {W : World} {b : Nat} {x y : Int} (c0 : W.cell? ⟨b, 0, none⟩ = some (.int .i64 x)) (c1 : W.cell? ⟨b, 1, none⟩ = some (.int .i64 y)) : RowP W b 2 [x, y] :=
  ⟨Nat.le_refl _, fun _ => rfl, fun i v hv => by
    match i, hv with
    | 0, hv => simp [is] at hv; rw [← hv]; exact c0
    | 1, hv => simp [is] at hv; rw [← hv]; exact c1
    | i + 2, hv => simp [is] at hv⟩
abbrev WikP (W : World) (g1 g2 g3 : Nat) : Prop := LayP W 2 2 g1 2 g2 2 g3 2 [0, 0] [-3, 2] [-1, 1]
theorem wik_of {W : World} {g1 g2 g3 : Nat} (h1 : RowP W g1 2 [0, 0]) (h2 : RowP W g2 2 [-3, 2]) (h3 : RowP W g3 2 [-1, 1]) : WikP W g1 g2 g3 :=
  ⟨.inr rfl, by omega, rfl, rfl, rfl, by decide, by decide, by decide, h1, h2, h3⟩
set_option maxRecDepth 100000 in
set_option maxHeartbeats 1000000 in
theorem wicki_any (w : World) : Calls Tryz.prog 67 #[] w fun e w' => ∃ g1 g2 g3, e = .returned (layv 2 2 g1 2 g2 2 g3 2) ∧ WikP w' g1 g2 g3 ∧ Ext w w' := by
  go_enter Tryz.func67, Tryz.ntmps67
  go_wp2_with fail
  obtain ⟨W, hW⟩ : ∃ W, W = ((((w.alloc (.cells #[.int .i64 2, slv (w.heap.size + 1) 2 2, slv (w.heap.size + 1 + 1) 2 2, slv (w.heap.size + 1 + 1 + 1) 2 2] 54)).alloc (.cells #[.int .i64 0, .int .i64 0] 3)).alloc (.cells #[.int .i64 (-3), .int .i64 2] 3)).alloc (.cells #[.int .i64 (-1), .int .i64 1] 3)) := ⟨_, rfl⟩
  have hE : Ext w W := by rw [hW]; exact ((((Ext.refl w).alloc _).alloc _).alloc _).alloc _
  have q0 : W.cell? ⟨w.heap.size, 0, none⟩ = some (.int .i64 2) := by rw [hW]; go_simp
  have q1 : W.cell? ⟨w.heap.size, 1, none⟩ = some (slv (w.heap.size + 1) 2 2) := by rw [hW]; go_simp
  have q2 : W.cell? ⟨w.heap.size, 2, none⟩ = some (slv (w.heap.size + 1 + 1) 2 2) := by rw [hW]; go_simp
  have q3 : W.cell? ⟨w.heap.size, 3, none⟩ = some (slv (w.heap.size + 1 + 1 + 1) 2 2) := by rw [hW]; go_simp
  have hP : WikP W (w.heap.size + 1) (w.heap.size + 1 + 1) (w.heap.size + 1 + 1 + 1) := by
    rw [hW]
    exact wik_of (rowp2 (by go_simp) (by go_simp)) (rowp2 (by go_simp) (by go_simp)) (rowp2 (by go_simp) (by go_simp))
  rw [← hW]
  refine bodyPost_ret (v := layv 2 2 (w.heap.size + 1) 2 (w.heap.size + 1 + 1) 2 (w.heap.size + 1 + 1 + 1) 2) (by simp [results, Tryz.results67, go_sem, q0, q1, q2, q3]) rfl ⟨_, _, _, rfl, hP, hE⟩
end Go.Proofs.YtokjolmpdfmnbaaGreatDoor
namespace Go.Proofs.YtokjolmpdfmnbaaGreatDoor
open Go.RowKit Go.Sort
theorem wik_run : ∃ fin, runD 64 2 2 10 0 (startD [[-3, 2], [-1, 1]] 2) = some (2, fin) ∧ fin.a = [[1, 0], [0, 1]] := by
  have h : (runD 64 2 2 10 0 (startD [[-3, 2], [-1, 1]] 2)).map (fun p => (p.1, p.2.a)) = some (2, [[1, 0], [0, 1]]) := by decide
  cases hr : runD 64 2 2 10 0 (startD [[-3, 2], [-1, 1]] 2) with
  | none => rw [hr] at h; cases h
  | some p =>
    rw [hr] at h
    obtain ⟨a, fin⟩ := p
    simp only [Option.map_some, Option.some.injEq, Prod.mk.injEq] at h
    obtain ⟨rfl, h⟩ := h
    exact ⟨fin, rfl, h⟩
theorem wik_bm : BM 64 [[1, 0], [0, 1]] := by
  intro r hr z hz
  simp only [List.mem_cons, List.not_mem_nil, or_false] at hr
  rcases hr with rfl | rfl <;> simp only [List.mem_cons, List.not_mem_nil, or_false] at hz <;> rcases hz with rfl | rfl <;> decide
theorem wik_complete {w : World} {g1 g2 g3 : Nat} (h : WikP w g1 g2 g3) (hL : Laid w) :
    Calls Tryz.prog 34 #[layv 2 2 g1 2 g2 2 g3 2] w fun e w' => e = .returned (.tuple #[.bool true, .int .i64 0]) ∧ Ext w w' := by
  obtain ⟨fin, h1, h2⟩ := wik_run
  exact Complete_ok h (by omega) h1 (by omega) (by omega) (by omega) (by rw [h2]; exact wik_bm) (by decide) (by omega) (by rw [h2]; decide) (by rw [h2]; decide) (by rw [h2]; decide) hL
theorem wik_note {w : World} {g1 g2 g3 : Nat} (h : WikP w g1 g2 g3) :
    Calls Tryz.prog 29 #[layv 2 2 g1 2 g2 2 g3 2, .agg #[.int .i64 (-1), .int .i64 2]] w (NotPost w 2 (-1) 2 [0, 0] [-3, 2] [-1, 1]) :=
  Note_any h (by unfold I64; omega) (by unfold I64; omega) (fun _ => by decide)
theorem wik_span : Hnf.Span (latM [[-3, 2], [-1, 1]]) (vr [1, 0]) := by
  have e : vr [1, 0] = Hnf.sub (Hnf.sub (fun _ => 0) 1 (vr [-3, 2])) (-2) (vr [-1, 1]) := by
    funext j
    match j with
    | 0 => simp [Hnf.sub, vr]
    | 1 => simp [Hnf.sub, vr]
    | j + 2 => simp [Hnf.sub, vr]
  rw [e]
  exact Hnf.Span.step _ (Hnf.Span.step _ Hnf.Span.zero (by simp [latM])) (by simp [latM])
theorem wik_rect : Rect 2 [[-3, 2], [-1, 1]] := by
  intro r hr
  simp at hr; rcases hr with rfl | rfl <;> rfl
theorem wik_sol {H : Mx} (hH : HnfOf 4 (wideM [[-3, 2], [-1, 1]]) H) : zeroL ((solL 2 H 2 [1, 0]).take 2) ∧ solX 2 H 2 [1, 0] = [-1, 2] := by
  have hz := (sol_zero (c := 2) (M := [[-3, 2], [-1, 1]]) (b := [1, 0]) wik_rect hH rfl).2 wik_span
  refine ⟨hz, ?_⟩
  have hc := solX_cmb (c := 2) (M := [[-3, 2], [-1, 1]]) (b := [1, 0]) wik_rect hH rfl hz
  have hl := solX_length (c := 2) (n := 2) (H := H) (b := [1, 0]) rfl
  have h0 := hc 0 (by omega)
  have h1 := hc 1 (by omega)
  match hh : solX 2 H 2 [1, 0], hl with
  | [x0, x1], _ =>
    have hh2 : solX 2 H ([[-3, 2], [-1, 1]] : Mx).length [1, 0] = [x0, x1] := hh
    rw [hh2] at h0 h1
    simp [cmb, sumZ, vr, eM] at h0 h1
    have e0 : x0 = -1 := by omega
    have e1 : x1 = 2 := by omega
    rw [e0, e1]
theorem wik_move {w : World} {g1 g2 g3 gq cq : Nat} (h : WikP w g1 g2 g3) (hq : RowP w gq cq [1, 0]) (hL : Laid w) :
    Calls Tryz.prog 31 #[layv 2 2 g1 2 g2 2 g3 2, slv gq 2 cq] w fun e w' => e = .returned (.tuple #[keyv (-1) 2, .bool true, .int .i64 0]) ∧ Ext w w' := by
  refine (Move_any h (hq.row) rfl (by decide) (by omega) hL).mono ?_
  rintro e w' ⟨H, hH, hE, hp⟩
  obtain ⟨hz, hx⟩ := wik_sol hH
  rcases hp with ⟨hn, _⟩ | ⟨_, _, rfl⟩ | ⟨_, hs, _⟩
  · exact absurd hz hn
  · rw [hx]; exact ⟨rfl, hE⟩
  · rw [hx] at hs; exact absurd hs (by decide)
theorem wik_keys {B : Nat} {w : World} {v : Value} (h : KeysV B w v (nbs true 0 0)) : ∃ g cap, v = .slice (some ⟨g, 0, none⟩) 6 cap := by
  rcases h.2 with ⟨_, h0⟩ | ⟨g, cap, cur, rfl, _⟩
  · exact absurd h0 (by decide)
  · exact ⟨g, cap, rfl⟩
theorem wik_row {B g : Nat} {w : World} (h : OwnV 3 B w g 2 (is (atL (-1) 2 [0, 0] [-3, 2] [-1, 1]))) : RowR w (slv g 2 2) [1, 0] :=
  ⟨_, g, 0, 2, rfl, Nat.le_refl _, h.sl⟩
theorem same_ok {w : World} {va vb : Value} {a b : List Int} (hA : RowR w va a) (hB : RowR w vb b) (hl : a.length ≤ 1000000) (he : a = b) : Calls Tryz.prog 38 #[va, vb] w fun e w' => e = .returned (.bool true) ∧ Ext w w' := by
  have h := Same_any hA hB hl
  rw [decide_eq_true he] at h
  exact h
set_option maxRecDepth 100000 in
set_option maxHeartbeats 1000000 in
theorem known44_any {w : World} (hL : Laid w) : Calls Tryz.prog 23 #[] w fun e w' => e = .returned (.bool true) ∧ Ext w w' := by
  have HL := Lib.hid hL
  clear hL
  go_enter Tryz.func23, Tryz.ntmps23
  go_wp2_with fail
  refine (wicki_any _).mono ?_
  rintro e w1 ⟨g1, g2, g3, rfl, hP1, hE1⟩
  go_wp2_with fail
  refine (wik_note hP1).mono ?_
  rintro e w2 ⟨hp, hE2⟩
  rw [if_neg (by decide)] at hp
  obtain ⟨gn, rfl, hO⟩ := hp
  have hR2 := Lib.hid (wik_row hO)
  have hX2 := hE1.trans hE2
  clear hE1 hE2 hP1 hO
  go_wp2_with fail
  refine (wicki_any _).mono ?_
  rintro e w3 ⟨g4, g5, g6, rfl, hP3, hE3⟩
  have hX3 := hX2.trans hE3
  have hR3 := Lib.hid (hR2.out.ext hE3)
  clear hE3 hR2 hX2
  go_wp2_with fail
  refine (wik_move (gq := w3.heap.size) (cq := 2) (hP3.ext ((Ext.refl _).alloc _)) (rowp2 (by go_simp) (by go_simp)) (HL.out.ext (hX3.alloc _))).mono ?_
  rintro e w4 ⟨rfl, hE4⟩
  have hR4 := Lib.hid ((hR3.out.ext ((Ext.refl _).alloc _)).ext hE4)
  have hX4 := (hX3.alloc _).trans hE4
  clear hE4 hR3 hX3 hP3
  go_wp2_with fail
  refine (wicki_any _).mono ?_
  rintro e w5 ⟨g7, g8, g9, rfl, hP5, hE5⟩
  have k0 := hE5.cell (show (w4.alloc (.cells #[.int .i64 (-1), .int .i64 2] 68)).cell? ⟨w4.heap.size, 0, none⟩ = some (.int .i64 (-1)) by go_simp)
  have k1 := hE5.cell (show (w4.alloc (.cells #[.int .i64 (-1), .int .i64 2] 68)).cell? ⟨w4.heap.size, 1, none⟩ = some (.int .i64 2) by go_simp)
  have hR5 := Lib.hid ((hR4.out.ext ((Ext.refl _).alloc _)).ext hE5)
  have hX5 := (hX4.alloc _).trans hE5
  clear hE5 hR4 hX4
  go_wp2_with fail
  refine (wik_complete hP5 (HL.out.ext hX5)).mono ?_
  rintro e w6 ⟨rfl, hE6⟩
  have j0 := hE6.cell k0
  have j1 := hE6.cell k1
  have hR6 := Lib.hid (hR5.out.ext hE6)
  have hX6 := hX5.trans hE6
  clear hE6 hR5 hX5 k0 k1 hP5
  go_wp2_with fail
  refine (Neighbours_ok (k := 2) (h := true) (.inr ⟨rfl, rfl⟩) (by omega) (by omega)).mono ?_
  rintro e w7 ⟨⟨v, rfl, hv⟩, hE7⟩
  obtain ⟨gk, ck, rfl⟩ := wik_keys hv
  have k0 := hE7.cell j0
  have k1 := hE7.cell j1
  have hR7 := Lib.hid (hR6.out.ext hE7)
  have hX7 := hX6.trans hE7
  have dl := World.block_lt_of_cell? _ _ k0
  clear hE7 hR6 hX6 j0 j1 hv
  have hsm := Lib.hid (fun W (hW : Ext w7 W) gq (c0 : W.cell? ⟨gq, 0, none⟩ = some (.int .i64 1)) (c1 : W.cell? ⟨gq, 1, none⟩ = some (.int .i64 0)) => same_ok (hR7.out.ext hW) (show RowR W (slv gq 2 2) [1, 0] from (rowp2 c0 c1).row) (by simp) rfl)
  go_wp2_with fail
  refine (hsm.out _ ((Ext.refl _).alloc _) w7.heap.size (by go_simp) (by go_simp)).mono ?_
  rintro e w8 ⟨rfl, hE8⟩
  have j0 := hE8.cell (show (w7.alloc (.cells #[.int .i64 1, .int .i64 0] 3)).cell? ⟨w4.heap.size, 0, none⟩ = some (.int .i64 (-1)) by go_simp)
  have j1 := hE8.cell (show (w7.alloc (.cells #[.int .i64 1, .int .i64 0] 3)).cell? ⟨w4.heap.size, 1, none⟩ = some (.int .i64 2) by go_simp)
  have hX8 := (hX7.alloc _).trans hE8
  clear hE8 hsm k0 k1
  go_wp2_with fail
  go_ret
  exact ⟨by simp, hX8⟩
end Go.Proofs.YtokjolmpdfmnbaaGreatDoor
namespace Go.Proofs.YtokjolmpdfmnbaaGreatDoor
open Go.ChangeShapes Go.WideShapes Go.ChangeAt Go.WideMaps Go.WideElems Go.RowKit Go.Deep
theorem fr_own : ownKnob Tryz.prog.godebug = none := by kernel_rfl
theorem fr_laidOut : laidOutB Tryz.prog = true := by kernel_rfl
theorem fr_pow : Tryz.prog.globalNamed "internal/strconv.uint64pow10" = some 3 := by kernel_rfl
theorem fr_powT : (Tryz.prog.globals[3]?).map (·.type) = some 265 := by kernel_rfl
theorem fr_rng : Tryz.prog.globalNamed "strconv.ErrRange" = some 2 := by kernel_rfl
theorem fr_rngT : (Tryz.prog.globals[2]?).map (·.type) = some 183 := by kernel_rfl
theorem fr_c20 : Tryz.prog.cellsOf 265 = 20 := by kernel_rfl
theorem fr_cu : Tryz.prog.cellsOf 214 = 1 := by kernel_rfl
theorem fr_cE : Tryz.prog.cellsOf 270 = 1 := by kernel_rfl
theorem fr_cS : Tryz.prog.cellsOf 9 = 1 := by kernel_rfl
theorem fr_cI : Tryz.prog.cellsOf 3 = 1 := by kernel_rfl
theorem fr_star : "*" ++ "errors.errorString" = "*errors.errorString" := by decide
theorem fr_ptr (u : TypeId) (h : Tryz.prog.typeName? 3 u = some "*errors.errorString") : u = 268 :=
  typeName_ptr_named (nm := "errors.errorString") (by rw [fr_star]; kernel_rfl) (by kernel_rfl) (by decide) u (by rw [fr_star]; exact h)
abbrev fr_list : List (String × DataW Unit) := [("math/bits.deBruijn32tab", Rows.laid_math_bits_deBruijn32tab), ("math/bits.deBruijn64tab", Rows.laid_math_bits_deBruijn64tab), ("internal/strconv.uint64pow10", Rows.laid_internal_strconv_uint64pow10), ("strconv.ErrRange", Rows.laid_strconv_ErrRange), ("strconv.ErrSyntax", Rows.laid_strconv_ErrSyntax)]
theorem fr_tab : (Rows.laid_internal_strconv_uint64pow10 : DataW Unit) = Lib.tabData .u64 Lib.pow10Tab := by kernel_rfl
theorem laid_of {W : World} (h : laidMetH Tryz.prog fr_list W) : Laid W := by
  rw [MakeChecks.laidMetH_plain _ _ _ (by kernel_rfl)] at h
  have h3 := h.tail.tail
  rw [fr_tab] at h3
  refine ⟨Lib.tabIs_of_head fr_pow fr_powT Tryz.underlying265 Tryz.underlying214 fr_cu fr_c20 h3, ?_⟩
  obtain ⟨a, s, hv, _⟩ := laid_sentinel h3.tail fr_rng fr_rngT Tryz.underlying183 fr_ptr Tryz.underlying268 Tryz.underlying270 rfl rfl Tryz.underlying9 fr_cE fr_cS
  exact ⟨_, _, hv⟩
theorem door_met (os : Os) (args : Array Value) : laidMetH Tryz.prog fr_list ((World.doorLaid Tryz.prog 400 os).forCall (fun _ _ => 0) ⟨#[], args, []⟩).memory :=
  laidMetH_of_parts3 (fuel := 8) (laidMet_of_run' 8 (by kernel_rfl) (by kernel_rfl)) (by kernel_rfl) (by kernel_rfl)
theorem row_open {W : World} {A : Option Addr} {L C : Nat} {Z : List Int} {base : Nat} (h1 : L ≤ C) (h2 : Z.length = C) (h3 : A = none → C = 0) (h4 : ∀ a', A = some a' → base ≤ a'.block ∧ ∀ c, c < C → W.cell? (a'.add c) = some (.int .i64 (Z.getD c 0))) : RowR W (.slice A L C) (Z.take L) := by
  have hl : (Z.take L).length = L := by rw [List.length_take]; omega
  cases A with
  | none =>
    have hC := h3 rfl
    refine ⟨none, 0, 0, C, by rw [hl], by rw [hl]; exact h1, fun h => ?_, fun i x hx => ?_⟩
    · rw [is_length, hl] at h; omega
    · have := (List.getElem?_eq_some_iff.1 hx).1
      rw [is_length, hl] at this; omega
  | some a =>
    obtain ⟨_, hc⟩ := h4 a rfl
    have hsp : 0 < L → a.spot = none := fun h => by simpa [Addr.add] using World.cell?_spot (hc 0 (by omega))
    obtain ⟨b, o, sp⟩ := a
    refine ⟨some ⟨b, o, sp⟩, b, o, C, by rw [hl], by rw [hl]; exact h1, fun h => ?_, fun i x hx => ?_⟩
    · rw [is_length, hl] at h
      have := hsp h
      simp at this
      rw [this]
    · have hi := (List.getElem?_eq_some_iff.1 hx).1
      rw [is_length, hl] at hi
      have := hsp (by omega)
      simp at this
      subst this
      rw [is_get (by rw [hl]; exact hi)] at hx
      have e := Option.some.inj hx
      rw [← e, ← add_plain, hc i (by omega), List.getElem_take, getD_get (by omega)]
end Go.Proofs.YtokjolmpdfmnbaaGreatDoor
namespace Go.Proofs.YtokjolmpdfmnbaaGreatDoor
open Go.ChangeShapes Go.WideShapes Go.ChangeAt Go.WideMaps Go.WideElems Go.RowKit Go.Deep
end Go.Proofs.YtokjolmpdfmnbaaGreatDoor
namespace Go.Proofs.YtokjolmpdfmnbaaGreatDoor
open Go.ChangeShapes Go.WideShapes Go.ChangeAt Go.WideMaps Go.WideElems Go.RowKit Go.Deep
theorem i64_bounds {n : Int} (h : (Lit.int .i64 n).wf = true) : I64 n := by
  simp only [Lit.wf, Bool.and_eq_true, decide_eq_true_eq] at h
  have e1 : IntKind.i64.min = -9223372036854775808 := by rfl
  have e2 : IntKind.i64.max = 9223372036854775807 := by rfl
  unfold I64
  omega
end Go.Proofs.YtokjolmpdfmnbaaGreatDoor
namespace Go.Proofs.YtokjolmpdfmnbaaGreatDoor
open Go.ChangeShapes Go.WideShapes Go.ChangeAt Go.WideMaps Go.WideElems Go.RowKit Go.Deep
theorem fr_cLa : Tryz.prog.cellsOf 54 = 4 := by kernel_rfl
theorem introw_list {H : Type} {enc : TypeId × Value → H} {W : World} {base : Nat} {held : Bool} {fuel : Nat} {l : List Value} {x : DataW H × List MemPlace}
    (h : DataW.trod enc Tryz.prog W base (fun _ => true) held fuel 32 l = some x) : ∃ s n c r, l = [.slice s n c] ∧ RowR W (.slice s n c) r := by
  rcases open_ints Tryz.underlying32 Tryz.underlying3 fr_cI h with ⟨hcs, _⟩ | ⟨a, len, cap, zs, hcs, hb, hl, _, hz, _, hc, _⟩
  · exact ⟨none, 0, 0, [], hcs, row_open (base := 0) (Z := []) (Nat.le_refl 0) rfl (fun _ => rfl) (fun a' h => by cases h)⟩
  · rw [if_pos rfl] at hz
    exact ⟨some a, len, cap, zs.take len, hcs, row_open (base := base) hl hz (fun h => by cases h) (fun a' h => by cases h; exact ⟨hb, fun c hcc => hc c (by omega)⟩)⟩
theorem list4 {l : List Value} {a b c d : Value} (hl : l.length = 4) (h0 : (l.drop 0).take 1 = [a]) (h1 : (l.drop 1).take 1 = [b]) (h2 : (l.drop 2).take 1 = [c]) (h3 : (l.drop 3).take 1 = [d]) : l = [a, b, c, d] := by
  match l, hl with
  | [p, q, r, s], _ =>
    simp at h0 h1 h2 h3
    subst h0 h1 h2 h3
    rfl
set_option maxRecDepth 100000 in
theorem lay_open {H : Type} {enc : TypeId × Value → H} {W : World} {base : Nat} {held : Bool} {fuel : Nat} {cs : Array Value} {x : DataW H × List MemPlace} (hs : cs.size = 4)
    (h : DataW.trod enc Tryz.prog W base (fun _ => true) held fuel 54 cs.toList = some x) : ∃ k so no co sr nr cr su nu cu o r u, cs = #[.int .i64 k, .slice so no co, .slice sr nr cr, .slice su nu cu] ∧ I64 k ∧ RowR W (.slice so no co) o ∧ RowR W (.slice sr nr cr) r ∧ RowR W (.slice su nu cu) u := by
  obtain ⟨xs, n, _, _, _, hxl, hx⟩ := DataW.trod_struct Tryz.underlying54 h
  have hx3 : xs.length = 4 := hxl
  have h0 := hx 0 _ rfl
  have h1 := hx 1 _ rfl
  have h2 := hx 2 _ rfl
  have h3 := hx 3 _ rfl
  rw [List.getElem?_eq_getElem (by omega)] at h0 h1 h2 h3
  have h0' : DataW.trod enc Tryz.prog W base (fun _ => true) held n 3 ((cs.toList.drop 0).take 1) = some xs[0] := h0
  have h1' : DataW.trod enc Tryz.prog W base (fun _ => true) held n 32 ((cs.toList.drop 1).take 1) = some xs[1] := h1
  have h2' : DataW.trod enc Tryz.prog W base (fun _ => true) held n 32 ((cs.toList.drop 2).take 1) = some xs[2] := h2
  have h3' : DataW.trod enc Tryz.prog W base (fun _ => true) held n 32 ((cs.toList.drop 3).take 1) = some xs[3] := h3
  obtain ⟨k, hk, _, wk⟩ := DataW.trod_int Tryz.underlying3 h0'
  obtain ⟨so, no, co, o, ho, hO⟩ := introw_list h1'
  obtain ⟨sr, nr, cr, r, hr, hR⟩ := introw_list h2'
  obtain ⟨su, nu, cu, u, hu, hU⟩ := introw_list h3'
  have hl := list4 (by simpa using hs) hk ho hr hu
  exact ⟨k, so, no, co, sr, nr, cr, su, nu, cu, o, r, u, by rw [show cs = cs.toList.toArray from Array.toArray_toList.symm, hl], i64_bounds wk, hO, hR, hU⟩
end Go.Proofs.YtokjolmpdfmnbaaGreatDoor
namespace Go.Proofs.YtokjolmpdfmnbaaGreatDoor
open Go.ChangeShapes Go.WideShapes Go.ChangeAt Go.WideMaps Go.WideElems Go.RowKit Go.Deep
theorem fr_c8 : Tryz.prog.cellsOf 22 = 1 := by kernel_rfl
theorem take_one {l : List Value} {k : Nat} {x : Value} (h : (l.drop k).take 1 = [x]) : l[k]? = some x := by
  have := congrArg (·[0]?) h
  simpa [List.getElem?_take] using this
theorem i8_bounds {n : Int} (h : (Lit.int .i8 n).wf = true) : -128 ≤ n ∧ n ≤ 127 := by
  simp only [Lit.wf, Bool.and_eq_true, decide_eq_true_eq] at h
  have e1 : IntKind.i8.min = -128 := by rfl
  have e2 : IntKind.i8.max = 127 := by rfl
  omega
theorem u8_bounds {n : Int} (h : (Lit.int .u8 n).wf = true) : 0 ≤ n ∧ n ≤ 255 := by
  simp only [Lit.wf, Bool.and_eq_true, decide_eq_true_eq] at h
  have e1 : IntKind.u8.min = 0 := by rfl
  have e2 : IntKind.u8.max = 255 := by rfl
  omega
theorem i8_cells {H : Type} {enc : TypeId × Value → H} {W : World} {base : Nat} {sp : Nat → Bool} {held : Bool} {fuel n : Nat} {t : TypeId} {l : List Value} {x : DataW H × List MemPlace} (ht : Tryz.prog.underlying t = some (.array n 22))
    (h : DataW.trod enc Tryz.prog W base sp held fuel t l = some x) : ∀ j, j < n → ∃ z : Int, l[j]? = some (.int .i8 z) ∧ -128 ≤ z ∧ z ≤ 127 := by
  obtain ⟨xs, m, _, _, _, hxl, hx⟩ := DataW.trod_array ht h
  intro j hj
  have h1 := hx j hj
  rw [fr_c8, Nat.mul_one, List.getElem?_eq_getElem (by omega)] at h1
  obtain ⟨z, hz, _, hw⟩ := DataW.trod_int Tryz.underlying22 h1
  exact ⟨z, take_one hz, i8_bounds hw⟩
end Go.Proofs.YtokjolmpdfmnbaaGreatDoor
