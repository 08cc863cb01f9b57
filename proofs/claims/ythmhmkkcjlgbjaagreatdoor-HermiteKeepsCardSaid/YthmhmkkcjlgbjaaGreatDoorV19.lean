/- Part 19 of the proof of the claim: contracts of the functions that it reaches, and plain laws; no condition. -/
import Derived.Test.YthmhmkkcjlgbjaaGreatDoorV18
import Derived.Test.YthmhmkkcjlgbjaaGreatDoorV03
import Derived.Test.YthmhmkkcjlgbjaaGreatDoorV13
import Derived.Test.YthmhmkkcjlgbjaaGreatDoorRows
import Derived.ProofKit
import Derived.LaidMore
import Derived.OpenShut
import Derived.Stop.Joined
import Derived.Stop.LaidErr
import Derived.Lib.LaidTab
import Derived.Deep.Matrix
/- literals in memory; the known answers in plain Lean -/
namespace Go.Proofs.YthmhmkkcjlgbjaaGreatDoor
open Go.RowKit Go.Sort
theorem row2 {W : World} {b : Nat} {x y : Int} (c0 : W.cell? ⟨b, 0, none⟩ = some (.int .i64 x)) (c1 : W.cell? ⟨b, 1, none⟩ = some (.int .i64 y)) : RowR W (.slice (some ⟨b, 0, none⟩) 2 2) [x, y] :=
  ⟨_, b, 0, 2, rfl, Nat.le_refl _, fun _ => rfl, fun i v hv => by
    match i, hv with
    | 0, hv => simp [is] at hv; rw [← hv]; exact c0
    | 1, hv => simp [is] at hv; rw [← hv]; exact c1
    | i + 2, hv => simp [is] at hv⟩
theorem row3 {W : World} {b : Nat} {x y z : Int} (c0 : W.cell? ⟨b, 0, none⟩ = some (.int .i64 x)) (c1 : W.cell? ⟨b, 1, none⟩ = some (.int .i64 y)) (c2 : W.cell? ⟨b, 2, none⟩ = some (.int .i64 z)) : RowR W (.slice (some ⟨b, 0, none⟩) 3 3) [x, y, z] :=
  ⟨_, b, 0, 3, rfl, Nat.le_refl _, fun _ => rfl, fun i v hv => by
    match i, hv with
    | 0, hv => simp [is] at hv; rw [← hv]; exact c0
    | 1, hv => simp [is] at hv; rw [← hv]; exact c1
    | 2, hv => simp [is] at hv; rw [← hv]; exact c2
    | i + 3, hv => simp [is] at hv⟩
theorem mat2 {W : World} {b : Nat} {v1 v2 : Value} {r1 r2 : List Int} (c0 : W.cell? ⟨b, 0, none⟩ = some v1) (c1 : W.cell? ⟨b, 1, none⟩ = some v2) (R1 : RowR W v1 r1) (R2 : RowR W v2 r2) : MatR W (.slice (some ⟨b, 0, none⟩) 2 2) [r1, r2] :=
  ⟨_, b, 0, 2, [v1, v2], rfl, Nat.le_refl _, rfl, ⟨fun _ => rfl, fun i v hv => by
    match i, hv with
    | 0, hv => simp at hv; rw [← hv]; exact c0
    | 1, hv => simp at hv; rw [← hv]; exact c1
    | i + 2, hv => simp at hv⟩, fun i h h' => by
    match i, h with
    | 0, _ => exact R1
    | 1, _ => exact R2⟩
theorem span2 {r1 r2 v : Hnf.V} (a b : Int) (h : ∀ j, v j = a * r1 j + b * r2 j) : Hnf.Span [r1, r2] v := by
  have e : v = Hnf.sub (Hnf.sub (fun _ => 0) (-a) r1) (-b) r2 := by
    funext j
    rw [h j]; simp only [Hnf.sub]; grind
  rw [e]
  exact Hnf.Span.step _ (Hnf.Span.step _ Hnf.Span.zero (by simp)) (by simp)
theorem vr3 {x y z x1 y1 z1 x2 y2 z2 : Int} (a b : Int) (h0 : x = a * x1 + b * x2) (h1 : y = a * y1 + b * y2) (h2 : z = a * z1 + b * z2) : ∀ j, vr [x, y, z] j = a * vr [x1, y1, z1] j + b * vr [x2, y2, z2] j
  | 0 => by simpa [vr] using h0
  | 1 => by simpa [vr] using h1
  | 2 => by simpa [vr] using h2
  | j + 3 => by simp [vr]
theorem known_hnf : HnfOf 3 [[-4, 4, -1], [7, 0, -3]] [[1, 20, -14], [0, 28, -19]] := by
  refine ⟨⟨_, isF_isH (fun r hr => ?_) (by decide)⟩, fun v hv => ?_, fun v hv => ?_⟩
  · simp at hr; rcases hr with rfl | rfl <;> rfl
  · simp only [latM, List.map_cons, List.map_nil, List.mem_cons, List.not_mem_nil, or_false] at hv
    rcases hv with rfl | rfl
    · exact span2 5 3 (vr3 5 3 (by decide) (by decide) (by decide))
    · exact span2 7 4 (vr3 7 4 (by decide) (by decide) (by decide))
  · simp only [latM, List.map_cons, List.map_nil, List.mem_cons, List.not_mem_nil, or_false] at hv
    rcases hv with rfl | rfl
    · exact span2 (-4) 3 (vr3 (-4) 3 (by decide) (by decide) (by decide))
    · exact span2 7 (-5) (vr3 7 (-5) (by decide) (by decide) (by decide))
theorem known_hnf2 : HnfOf 2 [[2, 0], [0, 3]] [[2, 0], [0, 3]] := by
  refine ⟨⟨_, isF_isH (fun r hr => ?_) (by decide)⟩, fun v hv => .mem hv, fun v hv => .mem hv⟩
  simp at hr; rcases hr with rfl | rfl <;> rfl
theorem known_c1 : checkM [[-4, 4, -1], [7, 0, -3]] = 0 := by decide
theorem known_k1 : bC ([[-4, 4, -1], [7, 0, -3]] : Mx).length 30 (ncols [[-4, 4, -1], [7, 0, -3]]) + 2 < LIM := by decide
theorem known_s1 : smallM [[1, 20, -14], [0, 28, -19]] = true := by decide
theorem known_o : openE [[2, 0], [0, 3]] [5, -1] = 0 := by decide
theorem known_x : redX [[2, 0], [0, 3]] [5, -1] = [1, 2] := by decide
theorem known_q : redQ [[2, 0], [0, 3]] [5, -1] = [2, -1] := by decide
theorem known_sm : (smallB [1, 2] && smallB [2, -1]) = true := by decide
theorem known_p : pairE [[1, 0], [0, 1]] [[2, 0], [0, 3]] = 0 := by decide
theorem known_k2 : 13 * (bC ([[2, 0], [0, 3]] : Mx).length 30 (ncols [[2, 0], [0, 3]]) + 2) < LIM := by decide
theorem known_in : inclB [[1, 0], [0, 1]] [[2, 0], [0, 3]] = true := by decide
theorem known_ix : idxN [[1, 0], [0, 1]] [[2, 0], [0, 3]] 2 = 6 := by decide
theorem I_six : I 6 = .string ⟨#[54]⟩ := by unfold I S; rw [show (6 : Int) = ((6 : Nat) : Int) from rfl, itoa_nat, Lib.decDigits]; rfl
theorem known_form {w : World} {v : Value} (hM : MatR w v [[-4, 4, -1], [7, 0, -3]]) (hL : Laid w) :
    Calls Tryz.prog 12 #[v] w fun e w' => ∃ u, e = .returned (.tuple #[u, .int .i64 0]) ∧ MatR w' u [[1, 20, -14], [0, 28, -19]] ∧ Ext w w' :=
  (form_any hM known_c1 known_k1 hL).mono fun e w' ⟨F, hF, hP, hE⟩ => by
    have : F = [[1, 20, -14], [0, 28, -19]] := hF.unique known_hnf (fun v hv => .mem hv) (fun v hv => .mem hv)
    subst this
    rw [if_pos known_s1] at hP
    obtain ⟨u, rfl, hO⟩ := hP
    exact ⟨u, rfl, hO.mat, hE⟩
theorem known_reduce {w : World} {v x : Value} (hM : MatR w v [[2, 0], [0, 3]]) (hx : RowR w x [5, -1]) (hL : Laid w) :
    Calls Tryz.prog 38 #[v, x] w fun e w' => ∃ u1 u2, e = .returned (.tuple #[u1, u2, .int .i64 0]) ∧ RowR w' u1 [1, 2] ∧ RowR w' u2 [2, -1] ∧ Ext w w' :=
  (Reduce_any hM hx hL).mono fun e w' ⟨hP, hE⟩ => by
    rw [if_pos known_o, known_x, known_q, if_pos known_sm] at hP
    obtain ⟨u1, u2, rfl, h1, h2⟩ := hP
    exact ⟨u1, u2, rfl, h1.row, h2.row, hE⟩
theorem known_index {w : World} {v u : Value} (hM : MatR w v [[1, 0], [0, 1]]) (hu : MatR w u [[2, 0], [0, 3]]) (hL : Laid w) :
    Calls Tryz.prog 14 #[v, u] w fun e w' => e = .returned (.tuple #[.string ⟨#[54]⟩, .bool true, .int .i64 0]) ∧ Ext w w' :=
  (Index_ok hM hu known_p known_k2 hL).mono fun e w' ⟨hP, hE⟩ => by
    rw [if_pos known_in] at hP
    obtain ⟨G, hG, hP⟩ := hP
    have : G = [[2, 0], [0, 3]] := hG.unique known_hnf2 (fun v hv => .mem hv) (fun v hv => .mem hv)
    subst this
    rw [if_neg (by decide), show ([[1, 0], [0, 1]] : Mx).length = 2 from rfl, known_ix, I_six] at hP
    exact ⟨hP, hE⟩
theorem eqr_same {w : World} {va vb : Value} {a : List Int} (hA : RowR w va a) (hB : RowR w vb a) (hb : a.length ≤ 1000000) :
    Calls Tryz.prog 26 #[va, vb] w fun e w' => e = .returned (.bool true) ∧ Ext w w' := by
  have := EqualRows_any hA hB hb
  rwa [decide_eq_true rfl] at this
theorem eqm_same {w : World} {va vb : Value} {A : Mx} (hA : MatR w va A) (hB : MatR w vb A) (hb : A.length ≤ 1000000) (hr : ∀ r ∈ A, r.length ≤ 1000000) :
    Calls Tryz.prog 17 #[va, vb] w fun e w' => e = .returned (.bool true) ∧ Ext w w' := by
  have := Equal_any hA hB hb hr
  rwa [decide_eq_true rfl] at this
end Go.Proofs.YthmhmkkcjlgbjaaGreatDoor
/- schismalaw07: known -/
namespace Go.Proofs.YthmhmkkcjlgbjaaGreatDoor
open Go.RowKit Go.Sort
set_option maxRecDepth 100000 in
set_option maxHeartbeats 2000000 in
theorem known_any {w : World} (hL : Laid w) : Calls Tryz.prog 10 #[] w fun e w' => e = .returned (.bool true) ∧ Ext w w' := by
  have HL := Lib.hid hL
  clear hL
  go_enter Tryz.func10, Tryz.ntmps10
  go_wp2_with fail
  refine (known_form (mat2 (v1 := .slice (some ⟨w.heap.size, 0, none⟩) 3 3) (v2 := .slice (some ⟨w.heap.size + 1, 0, none⟩) 3 3) (by go_simp) (by go_simp) (row3 (by go_simp) (by go_simp) (by go_simp)) (row3 (by go_simp) (by go_simp) (by go_simp))) (HL.out.ext ((((Ext.refl w).alloc _).alloc _).alloc _))).mono ?_
  rintro e w1 ⟨u, rfl, hu, hE1⟩
  have hE1' := Lib.hid (((((Ext.refl w).alloc _).alloc _).alloc _).trans hE1)
  have Hu := Lib.hid hu
  clear hu hE1
  go_wp2_with fail
  refine (known_reduce (mat2 (v1 := .slice (some ⟨w1.heap.size, 0, none⟩) 2 2) (v2 := .slice (some ⟨w1.heap.size + 1, 0, none⟩) 2 2) (by go_simp) (by go_simp) (row2 (by go_simp) (by go_simp)) (row2 (by go_simp) (by go_simp))) (row2 (by go_simp) (by go_simp)) (HL.out.ext (hE1'.out.trans (((((Ext.refl w1).alloc _).alloc _).alloc _).alloc _)))).mono ?_
  rintro e w2 ⟨u1, u2, rfl, hu1, hu2, hE2⟩
  have hE2' := Lib.hid (hE1'.out.trans ((((((Ext.refl w1).alloc _).alloc _).alloc _).alloc _).trans hE2))
  have Hu' := Lib.hid (Hu.out.ext ((((((Ext.refl w1).alloc _).alloc _).alloc _).alloc _).trans hE2))
  have Hu1 := Lib.hid hu1
  have Hu2 := Lib.hid hu2
  clear hu1 hu2 hE2 Hu hE1'
  go_wp2_with fail
  refine (known_index (mat2 (v1 := .slice (some ⟨w2.heap.size, 0, none⟩) 2 2) (v2 := .slice (some ⟨w2.heap.size + 1, 0, none⟩) 2 2) (by go_simp) (by go_simp) (row2 (by go_simp) (by go_simp)) (row2 (by go_simp) (by go_simp))) (mat2 (v1 := .slice (some ⟨w2.heap.size + 3, 0, none⟩) 2 2) (v2 := .slice (some ⟨w2.heap.size + 4, 0, none⟩) 2 2) (by go_simp) (by go_simp) (row2 (by go_simp) (by go_simp)) (row2 (by go_simp) (by go_simp))) (HL.out.ext (hE2'.out.trans (((((((Ext.refl w2).alloc _).alloc _).alloc _).alloc _).alloc _).alloc _)))).mono ?_
  rintro e w3 ⟨rfl, hE3⟩
  have hE23 := Lib.hid ((((((((Ext.refl w2).alloc _).alloc _).alloc _).alloc _).alloc _).alloc _).trans hE3)
  have hE3' := Lib.hid (hE2'.out.trans hE23.out)
  clear hE3 hE2'
  go_wp2_with fail
  refine (eqm_same (A := [[1, 20, -14], [0, 28, -19]]) (Hu'.out.ext (hE23.out.trans ((((Ext.refl w3).alloc _).alloc _).alloc _))) (mat2 (v1 := .slice (some ⟨w3.heap.size, 0, none⟩) 3 3) (v2 := .slice (some ⟨w3.heap.size + 1, 0, none⟩) 3 3) (by go_simp) (by go_simp) (row3 (by go_simp) (by go_simp) (by go_simp)) (row3 (by go_simp) (by go_simp) (by go_simp))) (by decide) (by decide)).mono ?_
  rintro e w4 ⟨rfl, hE4⟩
  have hE34 := Lib.hid (((((Ext.refl w3).alloc _).alloc _).alloc _).trans hE4)
  clear hE4
  go_wp2_with fail
  refine (eqr_same (a := [1, 2]) (Hu1.out.ext ((hE23.out.trans hE34.out).trans ((Ext.refl w4).alloc _))) (row2 (by go_simp) (by go_simp)) (by decide)).mono ?_
  rintro e w5 ⟨rfl, hE5⟩
  have hE45 := Lib.hid (((Ext.refl w4).alloc _).trans hE5)
  clear hE5
  go_wp2_with fail
  refine (eqr_same (a := [2, -1]) (Hu2.out.ext (((hE23.out.trans hE34.out).trans hE45.out).trans ((Ext.refl w5).alloc _))) (row2 (by go_simp) (by go_simp)) (by decide)).mono ?_
  rintro e w6 ⟨rfl, hE6⟩
  have hE56 := Lib.hid (((Ext.refl w5).alloc _).trans hE6)
  clear hE6
  go_wp2_with fail
  go_ret
  exact ⟨rfl, ((hE3'.out.trans hE34.out).trans hE45.out).trans hE56.out⟩
end Go.Proofs.YthmhmkkcjlgbjaaGreatDoor
/- what the rows' frames need: the listed variables, matrices opened -/
namespace Go.Proofs.YthmhmkkcjlgbjaaGreatDoor
open Go.ChangeShapes Go.WideShapes Go.ChangeAt Go.WideMaps Go.WideElems Go.RowKit Go.Deep
theorem fr_own : ownKnob Tryz.prog.godebug = none := by kernel_rfl
theorem fr_laidOut : laidOutB Tryz.prog = true := by kernel_rfl
theorem fr_pow : Tryz.prog.globalNamed "internal/strconv.uint64pow10" = some 0 := by kernel_rfl
theorem fr_powT : (Tryz.prog.globals[0]?).map (·.type) = some 212 := by kernel_rfl
theorem fr_rng : Tryz.prog.globalNamed "strconv.ErrRange" = some 3 := by kernel_rfl
theorem fr_rngT : (Tryz.prog.globals[3]?).map (·.type) = some 152 := by kernel_rfl
theorem fr_c20 : Tryz.prog.cellsOf 212 = 20 := by kernel_rfl
theorem fr_cu : Tryz.prog.cellsOf 166 = 1 := by kernel_rfl
theorem fr_cE : Tryz.prog.cellsOf 224 = 1 := by kernel_rfl
theorem fr_cS : Tryz.prog.cellsOf 9 = 1 := by kernel_rfl
theorem fr_cR : Tryz.prog.cellsOf 35 = 1 := by kernel_rfl
theorem fr_cI : Tryz.prog.cellsOf 3 = 1 := by kernel_rfl
theorem fr_star : "*" ++ "errors.errorString" = "*errors.errorString" := by decide
theorem fr_ptr (u : TypeId) (h : Tryz.prog.typeName? 3 u = some "*errors.errorString") : u = 222 :=
  typeName_ptr_named (nm := "errors.errorString") (by rw [fr_star]; kernel_rfl) (by kernel_rfl) (by decide) u (by rw [fr_star]; exact h)
abbrev fr_list : List (String × DataW Unit) := [("math/bits.deBruijn32tab", Rows.laid_math_bits_deBruijn32tab), ("math/bits.deBruijn64tab", Rows.laid_math_bits_deBruijn64tab), ("internal/strconv.uint64pow10", Rows.laid_internal_strconv_uint64pow10), ("strconv.ErrRange", Rows.laid_strconv_ErrRange), ("strconv.ErrSyntax", Rows.laid_strconv_ErrSyntax)]
theorem fr_tab : (Rows.laid_internal_strconv_uint64pow10 : DataW Unit) = Lib.tabData .u64 Lib.pow10Tab := by kernel_rfl
theorem laid_of {W : World} (h : laidMetH Tryz.prog fr_list W) : Laid W := by
  rw [MakeChecks.laidMetH_plain _ _ _ (by kernel_rfl)] at h
  have h3 := h.tail.tail
  rw [fr_tab] at h3
  refine ⟨Lib.tabIs_of_head fr_pow fr_powT Tryz.underlying212 Tryz.underlying166 fr_cu fr_c20 h3, ?_⟩
  obtain ⟨a, s, hv, _⟩ := laid_sentinel h3.tail fr_rng fr_rngT Tryz.underlying152 fr_ptr Tryz.underlying222 Tryz.underlying224 rfl rfl Tryz.underlying9 fr_cE fr_cS
  exact ⟨_, _, hv⟩
/-- The door's own heap meets the condition. -/
theorem door_met (os : Os) (args : Array Value) : laidMetH Tryz.prog fr_list ((World.doorLaid Tryz.prog 400 os).forCall (fun _ _ => 0) ⟨#[], args, []⟩).memory :=
  laidMetH_of_parts3 (fuel := 8) (laidMet_of_run' 8 (by kernel_rfl) (by kernel_rfl)) (by kernel_rfl) (by kernel_rfl)
theorem row_open {W : World} {A : Option Addr} {L C : Nat} {Z : List Int} {base : Nat} (h1 : L ≤ C) (h2 : Z.length = C) (h3 : A = none → C = 0) (h4 : ∀ a', A = some a' → base ≤ a'.block ∧ ∀ c, c < C → W.cell? (a'.add c) = some (.int .i64 (Z.getD c 0))) : RowR W (.slice A L C) (Z.take L) := by
  have hl : (Z.take L).length = L := by rw [List.length_take]; omega
  cases A with
  | none =>
    have hC := h3 rfl
    refine ⟨none, 0, 0, C, by rw [hl], by rw [hl]; exact h1, fun h => ?_, fun i x hx => ?_⟩
    · rw [is_length, hl] at h; omega
    · have := (List.getElem?_eq_some_iff.1 hx).1
      rw [is_length, hl] at this; omega
  | some a =>
    obtain ⟨_, hc⟩ := h4 a rfl
    have hsp : 0 < L → a.spot = none := fun h => by simpa [Addr.add] using World.cell?_spot (hc 0 (by omega))
    obtain ⟨b, o, sp⟩ := a
    refine ⟨some ⟨b, o, sp⟩, b, o, C, by rw [hl], by rw [hl]; exact h1, fun h => ?_, fun i x hx => ?_⟩
    · rw [is_length, hl] at h
      have := hsp h
      simp at this
      rw [this]
    · have hi := (List.getElem?_eq_some_iff.1 hx).1
      rw [is_length, hl] at hi
      have := hsp (by omega)
      simp at this
      subst this
      rw [is_get (by rw [hl]; exact hi)] at hx
      have e := Option.some.inj hx
      rw [← e, ← add_plain, hc i (by omega), List.getElem_take, getD_get (by omega)]
theorem mat_open {H : Type} {enc : TypeId × Value → H} {W : World} {base : Nat} {held : Bool} {fuel : Nat} {v : Value} {x : DataW H × List MemPlace} (hv : v.cells.toList = [v])
    (h : DataW.trod enc Tryz.prog W base (fun _ => true) held fuel 29 v.cells.toList = some x) : ∃ M, MatR W v M := by
  rw [hv] at h
  rcases open_int_rows Tryz.underlying29 Tryz.underlying35 Tryz.underlying3 fr_cR fr_cI h with ⟨hcs, _⟩ | ⟨a, len, cap, A, L, C, Z, hcs, _, hl, _, _, hrows⟩
  · obtain rfl : v = .slice none 0 0 := by simpa using hcs
    exact ⟨[], none, 0, 0, 0, [], rfl, Nat.le_refl _, rfl, Sl.nil _ _ _ _, fun i h => by simp at h⟩
  · obtain rfl : v = .slice (some a) len cap := by simpa using hcs
    have hsp : 0 < len → a.spot = none := fun h => by simpa [Addr.add] using World.cell?_spot (hrows 0 (by omega)).1
    obtain ⟨b, o, sp⟩ := a
    refine ⟨(List.range len).map fun r => (Z r).take (L r), some ⟨b, o, sp⟩, b, o, cap, (List.range len).map fun r => .slice (A r) (L r) (C r), by simp, by simpa using hl, by simp, ⟨fun h => ?_, fun i y hy => ?_⟩, fun i hi hi' => ?_⟩
    · have := hsp (by simpa using h)
      simp at this
      rw [this]
    · have hi := (List.getElem?_eq_some_iff.1 hy).1
      have hil : i < len := by simpa using hi
      have := hsp (by omega)
      simp at this
      subst this
      have e : y = .slice (A i) (L i) (C i) := by
        rw [List.getElem?_eq_getElem hi] at hy
        have := Option.some.inj hy
        rw [← this]; simp
      rw [e, ← add_plain]
      exact (hrows i (by omega)).1
    · have hil : i < len := by simpa using hi
      obtain ⟨_, r1, _, r3, _, r5, r6⟩ := hrows i (by omega)
      have := row_open r1 r3 r5 r6
      simpa using this
end Go.Proofs.YthmhmkkcjlgbjaaGreatDoor
