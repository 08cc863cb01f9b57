/- Part 29 of the proof of the claim: contracts of the functions that it reaches, and plain laws; no condition. -/
import Derived.Test.YtcklioolpicmcaaGreatDoorV28
/- layout: sized, Move, Complete. -/
namespace Go.Proofs.YtcklioolpicmcaaGreatDoor
open Go.RowKit Go.Sort
theorem one_row {W : World} {b g1 c1 n : Nat} {x : List Int} (hx : RowP W g1 c1 x) (lx : x.length = n) (h0 : W.cell? ⟨b, 0, none⟩ = some (slv g1 n c1)) : MatR W (.slice (some ⟨b, 0, none⟩) 1 1) [x] := by
  refine ⟨_, b, 0, 1, [slv g1 n c1], rfl, Nat.le_refl _, rfl, ⟨fun _ => rfl, fun i v hv => ?_⟩, fun i a a' => ?_⟩
  · have : i = 0 := by have := (List.getElem?_eq_some_iff.1 hv).1; simpa using this
    subst this
    simp at hv; rw [← hv]; exact h0
  · have : i = 0 := by simpa using a
    subst this
    have := hx.row; rw [lx] at this; exact this
theorem one_rowR {W : World} {b : Nat} {v : Value} {x : List Int} (hx : RowR W v x) (h0 : W.cell? ⟨b, 0, none⟩ = some v) : MatR W (.slice (some ⟨b, 0, none⟩) 1 1) [x] := by
  refine ⟨_, b, 0, 1, [v], rfl, Nat.le_refl _, rfl, ⟨fun _ => rfl, fun i u hu => ?_⟩, fun i a a' => ?_⟩
  · have : i = 0 := by have := (List.getElem?_eq_some_iff.1 hu).1; simpa using this
    subst this
    simp at hu; rw [← hu]; exact h0
  · have : i = 0 := by simpa using a
    subst this
    exact hx
/-- The error of a row that has n elements. -/
def rowE (n : Nat) (q : List Int) : Int := if chkRow q = 0 then (if q.length = n then 0 else 5) else chkRow q
theorem rowE_ok {n : Nat} {q : List Int} (lq : q.length = n) (eq : chkRow q = 0) : rowE n q = 0 := by unfold rowE; rw [if_pos eq, if_pos lq]
theorem rowE_zero {n : Nat} {q : List Int} (h : rowE n q = 0) : q.length = n ∧ chkRow q = 0 := by
  unfold rowE at h
  split at h
  · rename_i h1
    split at h
    · rename_i h2; exact ⟨h2, h1⟩
    · cases h
  · rename_i h1; exact absurd h h1
set_option maxRecDepth 100000 in
theorem CheckAll_one {w : World} {v : Value} {q : List Int} {n : Nat} (hM : MatR w v [q]) :
    Calls Tryz.prog 103 #[v, .int .i64 n] w fun e w' => e = .returned (.int .i64 (rowE n q)) ∧ Ext w w' := by
  obtain ⟨sa, gb, go, cap, vs, rfl, hcap, hvl, hS, hr⟩ := hM
  obtain rfl := hS.addr (by rw [hvl]; simp)
  obtain ⟨sr, br, or, cr, hrow, hrc, hSr⟩ := MatR.row hS hvl hr (i := 0) (by simp)
  simp only [List.getElem_cons_zero, Nat.add_zero] at hrow hrc hSr
  have hck := Lib.hid (fun W (hW : Ext w W) => rowCheck_any (w := W) (v := .slice sr q.length cr) (x := q) ⟨sr, br, or, cr, rfl, hrc, hSr.ext hW⟩)
  obtain ⟨z, hz⟩ : ∃ z, z = chkRow q := ⟨_, rfl⟩
  have Hz := Lib.hid hz
  rw [← hz] at hck
  obtain ⟨m, hm⟩ : ∃ m, m = q.length := ⟨_, rfl⟩
  have Hm := Lib.hid hm
  rw [← hm] at hck hrow
  simp only [List.length_cons, List.length_nil, Nat.zero_add] at hcap ⊢
  clear hS hr hvl hz hm hrc hSr
  by_cases hz0 : z = 0
  · subst hz0
    by_cases hmn : m = n
    · subst hmn
      have HR := Lib.hid (show rowE m q = 0 from rowE_ok Hm.out.symm Hz.out.symm)
      go_enter Tryz.func103, Tryz.ntmps103
      go_wp2_with fail
      go_loopw [10] (fun idx wr => ∃ i : Nat, i ≤ 1 ∧ idx = .int .i64 i ∧ Ext w wr) (fun idx _ => 1 - (intOf idx).toNat)
      case atStart => exact ⟨0, by omega, by go_num, Ext.refl _⟩
      case round =>
        obtain ⟨i, hi, rfl, hE⟩ := hrel
        generalize wr = X at *
        rcases (show i = 0 ∨ i = 1 by omega) with rfl | rfl
        · have hrow' := hE.cell hrow
          clear hrow
          go_wp2_with fail
          refine (hck.out _ hE).mono ?_
          rintro e W ⟨rfl, hW⟩
          go_wp2_with fail
          go_roundw
          case rel => exact ⟨1, by omega, by go_num, hE.trans hW⟩
          case measure => simp [intOf]
        · go_wp2_with fail
          go_ret
          exact ⟨by rw [HR.out]; rfl, hE⟩
    · have HR := Lib.hid (show rowE n q = 5 by unfold rowE; rw [if_pos Hz.out.symm, if_neg (by rw [← Hm.out]; exact hmn)])
      have h1 : ¬ ((m : Int) = (n : Int)) := by omega
      have h2 : ((m : Int) == (n : Int)) = false := beq_eq_false_iff_ne.2 h1
      have h3 : ((m : Int) != (n : Int)) = true := by simp [bne, h2]
      go_enter Tryz.func103, Tryz.ntmps103
      go_wp2_with fail
      go_loopw [10] (fun idx wr => idx = .int .i64 0 ∧ Ext w wr) (fun idx _ => 1 - (intOf idx).toNat)
      case atStart => exact ⟨by go_num, Ext.refl _⟩
      case round =>
        obtain ⟨rfl, hE⟩ := hrel
        generalize wr = X at *
        have hrow' := hE.cell hrow
        clear hrow
        go_wp2_with fail
        refine (hck.out _ hE).mono ?_
        rintro e W ⟨rfl, hW⟩
        go_wp2_with fail
        go_ret
        exact ⟨by rw [HR.out]; rfl, hE.trans hW⟩
  · have HR := Lib.hid (show rowE n q = z by unfold rowE; rw [if_neg (by rw [← Hz.out]; exact hz0), ← Hz.out])
    have h2 : (z == 0) = false := beq_eq_false_iff_ne.2 hz0
    have h3 : (z != 0) = true := by simp [bne, h2]
    go_enter Tryz.func103, Tryz.ntmps103
    go_wp2_with fail
    go_loopw [10] (fun idx wr => idx = .int .i64 0 ∧ Ext w wr) (fun idx _ => 1 - (intOf idx).toNat)
    case atStart => exact ⟨by go_num, Ext.refl _⟩
    case round =>
      obtain ⟨rfl, hE⟩ := hrel
      generalize wr = X at *
      have hrow' := hE.cell hrow
      clear hrow
      go_wp2_with fail
      refine (hck.out _ hE).mono ?_
      rintro e W ⟨rfl, hW⟩
      go_wp2_with fail
      go_ret
      exact ⟨by rw [HR.out]; rfl, hE.trans hW⟩
set_option maxRecDepth 100000 in
theorem lsized_any {w : World} {k : Int} {n m go co gr cr gu cu cq : Nat} {sq : Option Addr} {o r u q : List Int} (h : LayP w k n go co gr cr gu cu o r u) (hq : RowR w (.slice sq m cq) q) :
    Calls Tryz.prog 99 #[layv k n go co gr cr gu cu, .slice sq m cq] w fun e w' => e = .returned (.int .i64 (rowE n q)) ∧ Ext w w' := by
  have hck := Lib.hid (fun W (hW : Ext w W) => lcheck_ok (h.ext hW))
  have hall := Lib.hid (fun W b (hW : Ext w W) (h0 : W.cell? ⟨b, 0, none⟩ = some (.slice sq m cq)) => CheckAll_one (n := n) (one_rowR (hq.ext hW) h0))
  have hX : Ext w (w.alloc (.cells #[.int .i64 k, slv go n co, slv gr n cr, slv gu n cu] 62)) := (Ext.refl w).alloc _
  clear h hq
  generalize rowE n q = z at *
  go_enter Tryz.func99, Tryz.ntmps99
  go_wp2_with fail
  refine (hck.out _ hX).mono ?_
  rintro e w1 ⟨rfl, hE1⟩
  have d1 := hE1.cell (show (w.alloc (.cells #[.int .i64 k, slv go n co, slv gr n cr, slv gu n cu] 62)).cell? ⟨w.heap.size, 1, none⟩ = some (slv go n co) by go_simp)
  have dl := World.block_lt_of_cell? _ _ d1
  have hX1 := hX.trans hE1
  clear hE1 hck hX
  go_wp2_with fail
  refine (hall.out _ w1.heap.size (hX1.alloc _) (by go_simp)).mono ?_
  rintro e w2 ⟨rfl, hE2⟩
  have hX2 := (hX1.alloc (.cells #[.slice sq m cq] 32)).trans hE2
  go_wp2_with fail
  go_ret
  exact ⟨rfl, hX2⟩
theorem lsized_ok {w : World} {k : Int} {n go co gr cr gu cu cq : Nat} {sq : Option Addr} {o r u q : List Int} (h : LayP w k n go co gr cr gu cu o r u) (hq : RowR w (.slice sq n cq) q) (lq : q.length = n) (eq : chkRow q = 0) :
    Calls Tryz.prog 99 #[layv k n go co gr cr gu cu, .slice sq n cq] w fun e w' => e = .returned (.int .i64 0) ∧ Ext w w' := by
  have := lsized_any h hq
  rw [rowE_ok lq eq] at this
  exact this
abbrev keyv (x y : Int) : Value := .agg #[.int .i64 x, .int .i64 y]
def MovPost (w : World) (n : Nat) (r u q : List Int) (e : Ending) (w' : World) : Prop :=
  ∃ H, HnfOf (n + 2) (wideM [r, u]) H ∧ Ext w w' ∧
    ((¬ zeroL ((solL n H 2 q).take n) ∧ e = .returned (.tuple #[keyv 0 0, .bool false, .int .i64 0]))
      ∨ (zeroL ((solL n H 2 q).take n) ∧ smallB (solX n H 2 q) = true ∧ e = .returned (.tuple #[keyv ((solX n H 2 q).getD 0 0) ((solX n H 2 q).getD 1 0), .bool true, .int .i64 0]))
      ∨ (zeroL ((solL n H 2 q).take n) ∧ smallB (solX n H 2 q) = false ∧ e = .returned (.tuple #[keyv 0 0, .bool false, .int .i64 4])))
theorem check_rcm {M : Mx} {n : Nat} (hl : M.length ≤ 12) (hn : n ≤ 12) (hR : Rect n M) (he : ∀ r ∈ M, ∀ z ∈ r, -1000000000 ≤ z ∧ z ≤ 1000000000) : checkM M = 0 := by
  unfold checkM
  rw [if_neg (by omega)]
  refine chk_all _ _ fun j hj => ?_
  have hj' := hR _ (List.getElem_mem hj)
  have h0 : (M.getD 0 []).length = n := by rw [getD_get (by omega)]; exact hR _ (List.getElem_mem _)
  have ha : M[j].any grt = false := by
    cases h : M[j].any grt
    · rfl
    · obtain ⟨z, hz, hg⟩ := List.any_eq_true.1 h
      have := he _ (List.getElem_mem hj) z hz
      unfold grt at hg
      have := of_decide_eq_true hg
      omega
  unfold chkR
  rw [if_neg (by omega), if_neg (by omega), ha]; rfl
theorem check_two {r u : List Int} {n : Nat} (hn : n ≤ 12) (lr : r.length = n) (lu : u.length = n) (er : chkRow r = 0) (eu : chkRow u = 0) : checkM [r, u] = 0 := by
  refine check_rcm (n := n) (by simp) hn (fun s hs => ?_) (fun s hs => ?_)
  · simp only [List.mem_cons, List.not_mem_nil, or_false] at hs
    rcases hs with rfl | rfl
    · exact lr
    · exact lu
  · simp only [List.mem_cons, List.not_mem_nil, or_false] at hs
    rcases hs with rfl | rfl
    · exact (chkRow_ok er).2
    · exact (chkRow_ok eu).2
/-- A key's own cells. -/
theorem key_alloc (w : World) (o : Obj) (T : TypeId) (a b : Value) : OwnV T w.heap.size ((w.alloc o).alloc (.cells #[a, b] T)) (w.heap.size + 1) 2 [a, b] :=
  OwnV.of (by omega) (by
    have h : ((w.alloc o).heap.push (.cells #[a, b] T))[(w.alloc o).heap.size]? = some (.cells #[a, b] T) := Array.getElem?_push_size
    rw [show (w.alloc o).heap.size = w.heap.size + 1 by simp] at h
    exact h) (by simp) (by unfold maxLen; omega) rfl rfl
theorem key_end {T : TypeId} {g : Nat} {w W : World} {a b : Value} (hE : Ext w W) (hg : w.heap.size ≤ g) (h : OwnV T w.heap.size W g 2 [a, b]) (c d : Value) :
    W.cell? ⟨g, 0, none⟩ = some a ∧ W.cell? ⟨g, 1, none⟩ = some b ∧ W.frozen? ⟨g, 0, none⟩ = false ∧ W.frozen? ⟨g, 1, none⟩ = false ∧
      ((W.setCell ⟨g, 0, none⟩ c).setCell ⟨g, 1, none⟩ d).cell? ⟨g, 0, none⟩ = some c ∧ ((W.setCell ⟨g, 0, none⟩ c).setCell ⟨g, 1, none⟩ d).cell? ⟨g, 1, none⟩ = some d ∧
      Hid (Ext w ((W.setCell ⟨g, 0, none⟩ c).setCell ⟨g, 1, none⟩ d)) := by
  obtain ⟨h1, g1⟩ := h.set 0 c
  obtain ⟨h2, g2⟩ := h1.set 1 d
  exact ⟨h.cell (j := 0) (by simp), h.cell (j := 1) (by simp), h.frozen 0, h.frozen 1, h2.cell (j := 0) (by simp), h2.cell (j := 1) (by simp), Lib.hid (ext_trans_grown hE (grown_trans g1 g2) hg)⟩
theorem lim2 {n E : Nat} (hn : n ≤ 3) (hE : E = bC 2 30 (n + 2)) : 2 * ((E + (E + 1) * 2) + ((E + (E + 1) * 2) + 1) * 2) + 6 < LIM := by
  subst hE
  rcases (show n = 0 ∨ n = 1 ∨ n = 2 ∨ n = 3 by omega) with rfl | rfl | rfl | rfl <;> decide
theorem size_two {r u q : List Int} {n : Nat} (hn : n ≤ 12) (lr : r.length = n) (lu : u.length = n) (lq : q.length = n) (er : chkRow r = 0) (eu : chkRow u = 0) (eq : chkRow q = 0) : sizeE [r, u] q = 0 := by
  unfold sizeE
  rw [if_pos (check_two hn lr lu er eu), if_pos eq, if_neg]
  rintro ⟨_, h⟩
  exact h (by rw [lq]; exact lr.symm)
set_option maxRecDepth 100000 in
set_option maxHeartbeats 1000000 in
theorem Move_any {w : World} {k : Int} {n go co gr cr gu cu cq : Nat} {sq : Option Addr} {o r u q : List Int} (h : LayP w k n go co gr cr gu cu o r u) (hq : RowR w (.slice sq n cq) q) (lq : q.length = n) (eq : chkRow q = 0) (hn : n ≤ 3) (hL : Laid w) :
    Calls Tryz.prog 46 #[layv k n go co gr cr gu cu, .slice sq n cq] w (MovPost w n r u q) := by
  have hsz := Lib.hid (fun W (hW : Ext w W) => lsized_ok (h.ext hW) (hq.ext hW) lq eq)
  have hso := Lib.hid (fun W b (hW : Ext w W) (h0 : W.cell? ⟨b, 0, none⟩ = some (slv gr n cr)) (h1 : W.cell? ⟨b, 1, none⟩ = some (slv gu n cu)) =>
    Solve_any (c := n) (two_rows (h.pr.ext hW) (h.pu.ext hW) h.lr h.lu h0 h1) (hq.ext hW) (size_two h.n12 h.lr h.lu lq h.er h.eu eq) (by simp) h.lr.symm rfl (lim2 hn rfl) (hL.ext hW))
  have hX : Ext w ((w.alloc (.cells #[.int .i64 k, slv go n co, slv gr n cr, slv gu n cu] 62)).alloc (.cells #[.int .i64 0, .int .i64 0] 80)) := ((Ext.refl w).alloc _).alloc _
  have HO := Lib.hid (key_alloc w (.cells #[.int .i64 k, slv go n co, slv gr n cr, slv gu n cu] 62) 80 (.int .i64 0) (.int .i64 0))
  have Hlq := Lib.hid lq
  clear h hq lq eq hn hL
  go_enter Tryz.func46, Tryz.ntmps46
  go_wp2_with fail
  refine (hsz.out _ hX).mono ?_
  rintro e w1 ⟨rfl, hE1⟩
  have d2 := hE1.cell (show ((w.alloc (.cells #[.int .i64 k, slv go n co, slv gr n cr, slv gu n cu] 62)).alloc (.cells #[.int .i64 0, .int .i64 0] 80)).cell? ⟨w.heap.size, 2, none⟩ = some (slv gr n cr) by go_simp)
  have d3 := hE1.cell (show ((w.alloc (.cells #[.int .i64 k, slv go n co, slv gr n cr, slv gu n cu] 62)).alloc (.cells #[.int .i64 0, .int .i64 0] 80)).cell? ⟨w.heap.size, 3, none⟩ = some (slv gu n cu) by go_simp)
  have HO1 := Lib.hid (HO.out.ext hE1)
  have hX1 := hX.trans hE1
  have dl := World.block_lt_of_cell? _ _ d2
  clear hE1 hsz hX
  go_wp2_with fail
  refine (hso.out _ w1.heap.size (hX1.alloc _) (by go_simp) (by go_simp)).mono ?_
  rintro e w2 ⟨H, hH, hE2, hp⟩
  have HH := Lib.hid hH
  have HO2 := Lib.hid ((HO1.out.ext ((Ext.refl w1).alloc (.cells #[slv gr n cr, slv gu n cu] 32))).ext hE2)
  have hX2 := (hX1.alloc (.cells #[slv gr n cr, slv gu n cu] 32)).trans hE2
  clear hH hE2 hso d2 d3
  rcases hp with ⟨hz, rfl⟩ | ⟨hz, hs, v, rfl, hv⟩ | ⟨hz, hs, rfl⟩
  · have Hz := Lib.hid hz
    clear hz
    obtain ⟨q0, q1, f0, f1, r0, r1, hF⟩ := key_end hX2 (by omega) HO2.out (.int .i64 0) (.int .i64 0)
    have Hres := Lib.hid (show MovPost w n r u q (.returned (.tuple #[keyv 0 0, .bool false, .int .i64 0])) _ from ⟨H, HH.out, hF.out, .inl ⟨Hz.out, rfl⟩⟩)
    go_wp2_with fail
    refine bodyPost_ret (v := .tuple #[keyv 0 0, .bool false, .int .i64 0]) (by simp [results, Tryz.results46, go_sem, r0, r1]) rfl Hres.out
  · have Hz := Lib.hid hz
    have Hs := Lib.hid hs
    obtain ⟨x0, x1, hxe⟩ : ∃ x0 x1, solX n H 2 q = [x0, x1] := by
      have hl := solX_length (n := 2) (H := H) Hlq.out
      match hh : solX n H 2 q, hl with
      | [x0, x1], _ => exact ⟨x0, x1, rfl⟩
    have hv' : RowV (w1.alloc (.cells #[slv gr n cr, slv gu n cu] 32)).heap.size w2 v [x0, x1] := by rw [← hxe]; exact hv
    have Hxe := Lib.hid hxe
    clear hz hs hv hxe
    rcases hv'.2 with ⟨_, h0'⟩ | ⟨g9, c9, cur9, rfl, hB9, _, hc9, _⟩
    · simp at h0'
    · have p0 : w2.cell? ⟨g9, 0, none⟩ = some (.int .i64 x0) := by simpa [is] using World.ownsRow.cellAt hv' 0 (by simp)
      have p1 : w2.cell? ⟨g9, 1, none⟩ = some (.int .i64 x1) := by simpa [is] using World.ownsRow.cellAt hv' 1 (by simp)
      have hne : w.heap.size + 1 < g9 := by simp at hB9; omega
      clear hv'
      simp only [List.length_cons, List.length_nil] at hc9 ⊢
      obtain ⟨q0, q1, f0, f1, r0, r1, hF⟩ := key_end hX2 (by omega) HO2.out (.int .i64 x0) (.int .i64 x1)
      have Hres := Lib.hid (show MovPost w n r u q (.returned (.tuple #[keyv x0 x1, .bool true, .int .i64 0])) _ from ⟨H, HH.out, hF.out.trans (Ext.refl _).drew, .inr (.inl ⟨Hz.out, Hs.out, by rw [Hxe.out]; rfl⟩)⟩)
      go_wp2_with fail
      go_region
      go_wp2_with fail
      refine bodyPost_ret (v := .tuple #[keyv x0 x1, .bool true, .int .i64 0]) (by simp [results, Tryz.results46, go_sem, r0, r1]) rfl Hres.out
  · have Hz := Lib.hid hz
    have Hs := Lib.hid hs
    clear hz hs
    obtain ⟨q0, q1, f0, f1, r0, r1, hF⟩ := key_end hX2 (by omega) HO2.out (.int .i64 0) (.int .i64 0)
    have Hres := Lib.hid (show MovPost w n r u q (.returned (.tuple #[keyv 0 0, .bool false, .int .i64 4])) _ from ⟨H, HH.out, hF.out, .inr (.inr ⟨Hz.out, Hs.out, rfl⟩)⟩)
    go_wp2_with fail
    refine bodyPost_ret (v := .tuple #[keyv 0 0, .bool false, .int .i64 4]) (by simp [results, Tryz.results46, go_sem, r0, r1]) rfl Hres.out
end Go.Proofs.YtcklioolpicmcaaGreatDoor
/- layout: Complete of a right layout. -/
namespace Go.Proofs.YtcklioolpicmcaaGreatDoor
open Go.RowKit Go.Sort
set_option maxRecDepth 100000 in
set_option maxHeartbeats 1000000 in
/-- Two ways that reach all intervals. -/
theorem Complete_ok {w : World} {k : Int} {n go co gr cr gu cu f rank E : Nat} {fin : Dg} {o r u : List Int} (h : LayP w k n go co gr cr gu cu o r u) (h0 : 0 < n)
    (hrun : runD E 2 n f 0 (startD [r, u] n) = some (rank, fin)) (hr0 : 0 < rank) (hr1 : rank ≤ 2) (hr2 : rank ≤ n) (hb : BM E fin.a) (hE : 2 * (4 * E + 3) + 2 < LIM) (hE1 : 1 ≤ E)
    (hs : smallB (diagL rank fin.a) = true) (hn1 : not1 (diagL rank fin.a) = []) (hn2 : (n : Int) - (diagL rank fin.a).length = 0) (hL : Laid w) :
    Calls Tryz.prog 49 #[layv k n go co gr cr gu cu] w fun e w' => e = .returned (.tuple #[.bool true, .int .i64 0]) ∧ Ext w w' := by
  have hck := Lib.hid (fun W (hW : Ext w W) => lcheck_ok (h.ext hW))
  have hqu := Lib.hid (fun W b (hW : Ext w W) (h0' : W.cell? ⟨b, 0, none⟩ = some (slv gr n cr)) (h1' : W.cell? ⟨b, 1, none⟩ = some (slv gu n cu)) =>
    Quotient_any (c := n) (two_rows (h.pr.ext hW) (h.pu.ext hW) h.lr h.lu h0' h1') (check_two h.n12 h.lr h.lu h.er h.eu) (by simp) h.lr.symm h0 hrun hr0 hr1 hr2 hb hE hE1 (hL.ext hW))
  have hX : Ext w (w.alloc (.cells #[.int .i64 k, slv go n co, slv gr n cr, slv gu n cu] 62)) := (Ext.refl w).alloc _
  have Hs := Lib.hid hs
  have Hn1 := Lib.hid hn1
  have Hn2 := Lib.hid hn2
  clear h h0 hrun hr0 hr1 hr2 hb hE hE1 hs hn1 hn2 hL
  go_enter Tryz.func49, Tryz.ntmps49
  go_wp2_with fail
  refine (hck.out _ hX).mono ?_
  rintro e w1 ⟨rfl, hE1⟩
  have d1 := hE1.cell (show (w.alloc (.cells #[.int .i64 k, slv go n co, slv gr n cr, slv gu n cu] 62)).cell? ⟨w.heap.size, 1, none⟩ = some (slv go n co) by go_simp)
  have d2 := hE1.cell (show (w.alloc (.cells #[.int .i64 k, slv go n co, slv gr n cr, slv gu n cu] 62)).cell? ⟨w.heap.size, 2, none⟩ = some (slv gr n cr) by go_simp)
  have d3 := hE1.cell (show (w.alloc (.cells #[.int .i64 k, slv go n co, slv gr n cr, slv gu n cu] 62)).cell? ⟨w.heap.size, 3, none⟩ = some (slv gu n cu) by go_simp)
  have hX1 := hX.trans hE1
  have dl := World.block_lt_of_cell? _ _ d2
  clear hE1 hck hX
  go_wp2_with fail
  refine (hqu.out _ w1.heap.size (hX1.alloc _) (by go_simp) (by go_simp)).mono ?_
  rintro e w2 ⟨hp, hE2⟩
  rw [if_pos Hs.out, Hn1.out, Hn2.out] at hp
  obtain ⟨v, rfl, hv⟩ := hp
  have hX2 := Lib.hid ((hX1.alloc (.cells #[slv gr n cr, slv gu n cu] 32)).trans hE2)
  clear hE2 hqu d1 d2 d3
  rcases hv.2 with ⟨rfl, _⟩ | ⟨g9, c9, cur9, rfl, _, _, hc9, _⟩
  · go_wp2_with fail
    go_ret2
    exact ⟨rfl, hX2.out⟩
  · simp only [List.length_nil]
    go_wp2_with fail
    go_ret2
    exact ⟨rfl, hX2.out⟩
end Go.Proofs.YtcklioolpicmcaaGreatDoor
/- layout: Neighbours. -/
namespace Go.Proofs.YtcklioolpicmcaaGreatDoor
open Go.RowKit Go.Sort
theorem Tryz.infoKey : (Tryz.prog.info? 80).map (fun i => (i.zero, i.size, i.bytes)) = some (some (.agg #[.int .i64 0, .int .i64 0]), 2, 16) := by kernel_rfl
/-- The cells of keys. -/
def kv (l : List (Int × Int)) : List Value := l.flatMap fun p => [.int .i64 p.1, .int .i64 p.2]
theorem kv_snoc (l : List (Int × Int)) (p : Int × Int) : kv (l ++ [p]) = kv l ++ [.int .i64 p.1, .int .i64 p.2] := by simp [kv]
theorem kv_length (l : List (Int × Int)) : (kv l).length = 2 * l.length := by
  unfold kv
  induction l with
  | nil => rfl
  | cons p l ih => simp only [List.flatMap_cons, List.length_append, ih, List.length_cons, List.length_nil]; omega
/-- A list of keys, nil or the call's own. -/
def KeysV (B : Nat) (w : World) (v : Value) (l : List (Int × Int)) : Prop := w.ownsRow B 80 2 v l.length (kv l)
theorem KeysV.nil (B : Nat) (w : World) : KeysV B w (.slice none 0 0) [] := ⟨rfl, .inl ⟨rfl, rfl⟩⟩
theorem KeysV.ext {B : Nat} {w w' : World} {v : Value} {l : List (Int × Int)} (h : KeysV B w v l) (he : Ext w w') : KeysV B w' v l := ownsRow_ext h he
theorem KeysV.mono {B B' : Nat} {w : World} {v : Value} {l : List (Int × Int)} (h : KeysV B w v l) (hB : B' ≤ B) : KeysV B' w v l := ownsRow_mono h hB
section
variable {w : World} {ops : Array Oper} {rest : List Oper} {o : Oper} {a : Act} {Q : Exit → Act → World → Prop}
theorem app_key (hgd : o.guard = none) (s x : Operand) (ho : o.op = .call { callee := .builtin .append, args := #[s, x], argTypes := #[75, 75] })
    {B : Nat} {v : Value} {r : List (Int × Int)} (hs : a.eval s = v) (hown : KeysV B w v r) {b : Nat} {y z : Int} (hx : a.eval x = .slice (some ⟨b, 0, none⟩) 1 1) (c0 : w.cell? ⟨b, 0, none⟩ = some (.int .i64 y)) (c1 : w.cell? ⟨b, 1, none⟩ = some (.int .i64 z)) (hl : r.length ≤ 1000000000) (hB : B ≤ w.heap.size)
    (h : ∀ g cap w', KeysV B w' (slv g (r.length + 1) cap) (r ++ [(y, z)]) → Below B w w' → w.grownBy w' v.ownBlock → wpList Tryz.prog ops Q rest (a.put o.dst (slv g (r.length + 1) cap)) w') : wpList Tryz.prog ops Q (o :: rest) a w := by
  obtain ⟨i0, hi, hz0, hz1, hz2⟩ := info_parts Tryz.infoKey
  refine wpList_append_lies w hgd s x 75 ho B 80 i0 _ 2 16 Tryz.underlying75 hi hz0 hz1 hz2 rfl (by omega) v r.length (kv r) hs hown ⟨b, 0, none⟩ 1 1 [.int .i64 y, .int .i64 z] hx rfl ?_ ?_ (by omega) (by unfold maxLen; omega) (by omega) hB w.heap.size rfl ?_
  · intro j u hj
    rw [Lib.add_plain, Nat.zero_add]
    match j with
    | 0 => simp at hj; subst hj; exact c0
    | 1 => simp at hj; subst hj; exact c1
    | j + 2 => simp at hj
  · intro u hu
    simp only [List.mem_cons, List.not_mem_nil, or_false] at hu
    rcases hu with rfl | rfl <;> rfl
  · intro g cap w' k1 k2 k3 k4
    refine h g cap w' ?_ (Below.grown (Below.refl _ _) k2 hB (fun q hq => (World.ownsRow.lt hown q hq).1)) k2
    unfold KeysV
    rw [kv_snoc, List.length_append]; exact k1
end
/-- Whether the place at (d, e) is beside the key. -/
def nbB (h : Bool) (d e : Int) : Bool := (decide (d = 0) != decide (e = 0)) || (h && decide (d * e < 0))
/-- The keys of the first places of a line, and of the first lines. -/
def nbRow (h : Bool) (x y : Int) (e : Int) (t : Nat) : List (Int × Int) := (List.range t).flatMap fun (d : Nat) => if nbB h ((d : Int) - 1) e then [(x + ((d : Int) - 1), y + e)] else []
def nbTo (h : Bool) (x y : Int) (t : Nat) : List (Int × Int) := (List.range t).flatMap fun (e : Nat) => nbRow h x y ((e : Int) - 1) 3
def nbs (h : Bool) (x y : Int) : List (Int × Int) := nbTo h x y 3
theorem nbRow_succ (h : Bool) (x y e : Int) (t : Nat) : nbRow h x y e (t + 1) = nbRow h x y e t ++ (if nbB h ((t : Int) - 1) e then [(x + ((t : Int) - 1), y + e)] else []) := by
  unfold nbRow; rw [List.range_succ, List.flatMap_append]; simp
theorem nbTo_succ (h : Bool) (x y : Int) (t : Nat) : nbTo h x y (t + 1) = nbTo h x y t ++ nbRow h x y ((t : Int) - 1) 3 := by
  unfold nbTo; rw [List.range_succ, List.flatMap_append]; simp
theorem nbRow_le (h : Bool) (x y e : Int) : ∀ t, (nbRow h x y e t).length ≤ t
  | 0 => by simp [nbRow]
  | t + 1 => by
    rw [nbRow_succ, List.length_append]
    have := nbRow_le h x y e t
    split <;> simp <;> omega
theorem nbTo_le (h : Bool) (x y : Int) : ∀ t, (nbTo h x y t).length ≤ 3 * t
  | 0 => by simp [nbTo]
  | t + 1 => by
    rw [nbTo_succ, List.length_append]
    have := nbTo_le h x y t
    have := nbRow_le h x y ((t : Int) - 1) 3
    omega
theorem nbRow_c (h : Bool) (x y e : Int) {d : Int} (hd : -1 ≤ d) : nbRow h x y e (d + 1 + 1).toNat = nbRow h x y e (d + 1).toNat ++ (if nbB h d e then [(x + d, y + e)] else []) := by
  obtain ⟨t, ht⟩ : ∃ t : Nat, d = (t : Int) - 1 := ⟨(d + 1).toNat, by omega⟩
  subst ht
  rw [show ((t : Int) - 1 + 1 + 1).toNat = t + 1 by omega, show ((t : Int) - 1 + 1).toNat = t by omega, nbRow_succ]
theorem nbTo_c (h : Bool) (x y : Int) {c : Int} (hc : -1 ≤ c) : nbTo h x y (c + 1 + 1).toNat = nbTo h x y (c + 1).toNat ++ nbRow h x y c 3 := by
  obtain ⟨t, ht⟩ : ∃ t : Nat, c = (t : Int) - 1 := ⟨(c + 1).toNat, by omega⟩
  subst ht
  rw [show ((t : Int) - 1 + 1 + 1).toNat = t + 1 by omega, show ((t : Int) - 1 + 1).toNat = t by omega, nbTo_succ]
def NbrPost (w : World) (k x y : Int) (e : Ending) (w' : World) : Prop :=
  (if k ≠ 1 ∧ k ≠ 2 then e = .returned (.tuple #[.slice none 0 0, .int .i64 12]) else if farB x y then e = .returned (.tuple #[.slice none 0 0, .int .i64 3]) else ∃ v, e = .returned (.tuple #[v, .int .i64 0]) ∧ KeysV w.heap.size w' v (nbs (decide (k = 2)) x y)) ∧ Ext w w'
set_option maxRecDepth 100000 in
set_option maxHeartbeats 2000000 in
theorem Neighbours_ok {w : World} {k x y : Int} {h : Bool} (hk : k = 1 ∧ h = false ∨ k = 2 ∧ h = true) (hx : -1000000 ≤ x ∧ x ≤ 1000000) (hy : -1000000 ≤ y ∧ y ≤ 1000000) :
    Calls Tryz.prog 93 #[.int .i64 k, .agg #[.int .i64 x, .int .i64 y]] w fun e w' => (∃ v, e = .returned (.tuple #[v, .int .i64 0]) ∧ KeysV w.heap.size w' v (nbs h x y)) ∧ Ext w w' := by
  obtain ⟨hx1, hx2⟩ := hx
  obtain ⟨hy1, hy2⟩ := hy
  have hfar := Lib.hid (fun W => far_any (w := W) (x := x) (y := y) (by unfold I64; omega) (by unfold I64; omega))
  rw [show (decide (1000000 < max x y) || decide (min x y < -1000000)) = false by simp; omega] at hfar
  have hX : Ext w (w.alloc (.cells #[.int .i64 x, .int .i64 y] 80)) := (Ext.refl w).alloc _
  rcases hk with ⟨rfl, hh⟩ | ⟨rfl, hh⟩
  all_goals
    go_enter Tryz.func93, Tryz.ntmps93
    go_wp2_with fail
    refine (hfar.out _).mono ?_
    rintro e w1 ⟨rfl, hE1⟩
    have d0 := hE1.cell (show (w.alloc (.cells #[.int .i64 x, .int .i64 y] 80)).cell? ⟨w.heap.size, 0, none⟩ = some (.int .i64 x) by go_simp)
    have d1 := hE1.cell (show (w.alloc (.cells #[.int .i64 x, .int .i64 y] 80)).cell? ⟨w.heap.size, 1, none⟩ = some (.int .i64 y) by go_simp)
    have dl := World.block_lt_of_cell? _ _ d0
    have hX1 := hX.trans hE1
    clear hE1 hX hfar
    go_wp2_with fail
    have Hh := Lib.hid hh
    clear hh
    go_loopw [6, 7, 8, 9] (fun out yv xv sv wr => ∃ c : Int, -1 ≤ c ∧ c ≤ 2 ∧ yv = .int .i64 c ∧ Hid (KeysV w1.heap.size wr out (nbTo h x y (c + 1).toNat)) ∧ Ext w1 wr) (fun _ yv _ _ _ => 3 - (intOf yv + 1).toNat)
    case atStart => exact ⟨-1, by omega, by omega, rfl, Lib.hid (KeysV.nil _ _), Ext.refl _⟩
    case round =>
      obtain ⟨c, hc1, hc2, rfl, hO, hE2⟩ := hrel
      generalize wr = Y at *
      by_cases hc3 : c ≤ 1
      · go_wp2_with fail
        go_loopw [6, 8, 9] (fun out xv sv wr => ∃ d : Int, -1 ≤ d ∧ d ≤ 2 ∧ xv = .int .i64 d ∧ Hid (KeysV w1.heap.size wr out (nbTo h x y (c + 1).toNat ++ nbRow h x y c (d + 1).toNat)) ∧ Ext w1 wr) (fun _ xv _ _ => 3 - (intOf xv + 1).toNat)
        case atStart => exact ⟨-1, by omega, by omega, rfl, Lib.hid (by have := hO.out; simpa [nbRow] using this), hE2⟩
        case round =>
          obtain ⟨d, hd1, hd2, rfl, hI, hE3⟩ := hrel
          generalize wr = Z at *
          clear hO
          by_cases hd3 : d ≤ 1
          · obtain ⟨xd, hxd⟩ : ∃ xd, xd = x + d := ⟨_, rfl⟩
            obtain ⟨yc, hyc⟩ : ∃ yc, yc = y + c := ⟨_, rfl⟩
            have Hln := Lib.hid (show (nbTo h x y (c + 1).toNat ++ nbRow h x y c (d + 1).toNat).length ≤ 100 by
              have h1 := nbTo_le h x y (c + 1).toNat
              have h2 := nbRow_le h x y c (d + 1).toNat
              rw [List.length_append]; omega)
            have Hn := Lib.hid (congrArg (fun z => nbTo h x y (c + 1).toNat ++ z) (nbRow_c h x y c hd1))
            simp only [← List.append_assoc] at Hn
            rw [← hxd, ← hyc] at Hn
            obtain ⟨L, hL⟩ : ∃ L, L = nbTo h x y (c + 1).toNat ++ nbRow h x y c (d + 1).toNat := ⟨_, rfl⟩
            rw [← hL] at Hn Hln hI
            clear hL
            have Hxd := Lib.hid hxd
            have Hyc := Lib.hid hyc
            clear hxd hyc
            have c0 := hE3.cell d0
            have c1 := hE3.cell d1
            have hsz := hE3.size
            cases hB : nbB h d c
            · have hB := Lib.hid hB
              rcases (show c = -1 ∨ c = 0 ∨ c = 1 by omega) with rfl | rfl | rfl <;> rcases (show d = -1 ∨ d = 0 ∨ d = 1 by omega) with rfl | rfl | rfl
              all_goals try (exfalso; have := hB.out; rw [Hh.out] at this; revert this; decide)
              all_goals
                clear hc1 hc2 hc3 hd1 hd2 hd3
                have hO8 := hI.out
                have hnn := Hn.out
                rw [hB.out, if_neg (by decide), List.append_nil] at hnn
                rw [← hnn] at hO8
                have HO8 := Lib.hid hO8
                clear hO8 hnn
                go_wp2_with fail
                go_roundw
                case rel => exact ⟨_, by decide, by decide, rfl, HO8, hE3⟩
                case measure => simp [intOf]
            · have hB := Lib.hid hB
              rcases (show c = -1 ∨ c = 0 ∨ c = 1 by omega) with rfl | rfl | rfl <;> rcases (show d = -1 ∨ d = 0 ∨ d = 1 by omega) with rfl | rfl | rfl
              all_goals try (exfalso; have := hB.out; rw [Hh.out] at this; revert this; decide)
              all_goals
                clear hc1 hc2 hc3 hd1 hd2 hd3
                have hnn := Hn.out
                rw [hB.out, if_pos rfl] at hnn
                have Hnn := Lib.hid hnn
                clear hnn
                go_wp2_with (at_builtin; refine app_key rfl _ _ rfl rfl (hI.out.ext ((Ext.refl _).alloc _)) rfl (b := Z.heap.size) (y := xd) (z := yc) (by rw [Hxd.out]; go_simp) (by rw [Hyc.out]; go_simp) (by have := Hln.out; omega) (by simp; omega) ?_; intro gg cap2 w8 hO8 hB8 hG8; rw [← Hnn.out] at hO8; have hE8 := Below.trans (hE3.alloc _) hB8; replace hO8 := Lib.hid hO8; clear hB8 hG8)
                refine ⟨⟨_, by decide, by decide, rfl, hO8, hE8⟩, by simp [intOf]⟩
          · have hde : d = 2 := by omega
            subst hde
            have HO3 := Lib.hid (show KeysV w1.heap.size Z _ (nbTo h x y (c + 1 + 1).toNat) by rw [nbTo_c h x y hc1]; exact hI.out)
            go_wp2_with fail
            go_roundw
            case rel => exact ⟨c + 1, by omega, by omega, by go_num, HO3, hE3⟩
            case measure => simp [intOf] <;> omega
      · have hce : c = 2 := by omega
        subst hce
        have HO3 := Lib.hid (show KeysV w.heap.size Y _ (nbs h x y) from KeysV.mono hO.out hX1.size)
        have HX := Lib.hid (hX1.trans hE2)
        go_wp2_with fail
        go_ret2
        exact ⟨⟨_, rfl, HO3.out⟩, HX.out⟩
end Go.Proofs.YtcklioolpicmcaaGreatDoor
/- schismalaw12: Same -/
namespace Go.Proofs.YtcklioolpicmcaaGreatDoor
open Go.RowKit Go.Sort
theorem sam_getD_ext {a b : List Int} (hl : a.length = b.length) (h : ∀ j, j < a.length → a.getD j 0 = b.getD j 0) : a = b := by
  apply List.ext_getElem hl
  intro i h1 h2
  have := h i h1
  rwa [getD_get h1, getD_get h2] at this
set_option maxRecDepth 100000 in
set_option maxHeartbeats 1000000 in
theorem Same_any {w : World} {va vb : Value} {a b : List Int} (hA : RowR w va a) (hB : RowR w vb b) (hbig : a.length ≤ 1000000) :
    Calls Tryz.prog 39 #[va, vb] w fun e w' => e = .returned (.bool (decide (a = b))) ∧ Ext w w' := by
  obtain ⟨sa, ga, oa, ca, rfl, hca, hSa⟩ := hA
  obtain ⟨sb, gb, ob, cb, rfl, hcb, hSb⟩ := hB
  by_cases hl : a.length = b.length
  · obtain ⟨n, hn⟩ : ∃ n, n = a.length := ⟨_, rfl⟩
    rw [← hl]
    rw [← hn] at hbig ⊢
    have HA := Lib.hid hSa
    have HB := Lib.hid hSb
    have Hn := Lib.hid hn
    have Hm := Lib.hid (hn.trans hl)
    clear hSa hSb hl hn hca hcb
    go_enter Tryz.func39, Tryz.ntmps39
    go_wp2_with fail
    go_loopw [5] (fun idx wr => ∃ i : Nat, i ≤ n ∧ idx = .int .i64 i ∧ Hid (∀ j, j < i → a.getD j 0 = b.getD j 0) ∧ Ext w wr) (fun idx _ => n - (intOf idx).toNat)
    case atStart => exact ⟨0, by omega, by go_num, Lib.hid (fun j h => by omega), Ext.refl _⟩
    case round =>
      obtain ⟨i, hi, rfl, Hz, hE⟩ := hrel
      generalize wr = X at *
      by_cases hlt : i < n
      · have hii : (i : Int) < (n : Int) := by omega
        have c1 := (HA.out.ext hE).cell i (.int .i64 (a[i]'(by rw [← Hn.out]; exact hlt))) (is_get (by rw [← Hn.out]; exact hlt))
        have c2 := (HB.out.ext hE).cell i (.int .i64 (b[i]'(by rw [← Hm.out]; exact hlt))) (is_get (by rw [← Hm.out]; exact hlt))
        obtain rfl := HA.out.addr (by rw [is_length, ← Hn.out]; omega)
        obtain rfl := HB.out.addr (by rw [is_length, ← Hm.out]; omega)
        obtain ⟨x, hx⟩ : ∃ x, x = a[i]'(by rw [← Hn.out]; exact hlt) := ⟨_, rfl⟩
        obtain ⟨y, hy⟩ : ∃ y, y = b[i]'(by rw [← Hm.out]; exact hlt) := ⟨_, rfl⟩
        rw [← hx] at c1
        rw [← hy] at c2
        have Hx := Lib.hid (show a.getD i 0 = x by rw [hx, getD_get (by rw [← Hn.out]; exact hlt)])
        have Hy := Lib.hid (show b.getD i 0 = y by rw [hy, getD_get (by rw [← Hm.out]; exact hlt)])
        clear hx hy
        by_cases hxy : x = y
        · subst hxy
          go_wp2_with fail
          go_quiet (fail)
          go_wp2_with fail
          go_roundw
          case rel => exact ⟨i + 1, by omega, by go_num, Lib.hid (fun j hj => by
            by_cases e : j = i
            · subst e; rw [Hx.out, Hy.out]
            · exact Hz.out j (by omega)), hE.drewN _⟩
          case measure => simp [intOf] <;> omega
        · have hb1 : (x == y) = false := beq_eq_false_iff_ne.2 hxy
          have hb2 : (x != y) = true := by simp [bne, hb1]
          have Hne := Lib.hid (show decide (a = b) = false from decide_eq_false (fun e => hxy (by rw [← Hx.out, ← Hy.out, e])))
          go_wp2_with fail
          go_quiet (fail)
          go_wp2_with fail
          go_ret
          exact ⟨by rw [Hne.out]; rfl, hE.drewN _⟩
      · have Heq := Lib.hid (show decide (a = b) = true from decide_eq_true (sam_getD_ext (by rw [← Hn.out, ← Hm.out]) (fun j hj => Hz.out j (by rw [← Hn.out] at hj; omega))))
        go_wp2_with fail
        go_ret
        exact ⟨by rw [Heq.out]; rfl, hE⟩
  · have hne : decide (a = b) = false := decide_eq_false (fun e => hl (by rw [e]))
    rw [hne]
    have h1 : ¬ ((a.length : Int) = (b.length : Int)) := by omega
    have h2 : ((a.length : Int) == (b.length : Int)) = false := beq_eq_false_iff_ne.2 h1
    have h3 : ((a.length : Int) != (b.length : Int)) = true := by simp [bne, h2]
    clear hSa hSb hca hcb hne
    generalize a.length = n at *
    generalize b.length = m at *
    go_enter Tryz.func39, Tryz.ntmps39
    go_wp2_with fail
    go_ret
    exact ⟨rfl, Ext.refl _⟩
end Go.Proofs.YtcklioolpicmcaaGreatDoor
/- schismalaw44: wicki. -/
namespace Go.Proofs.YtcklioolpicmcaaGreatDoor
open Go.RowKit Go.Sort
theorem rowp2 {W : World} {b : Nat} {x y : Int} (c0 : W.cell? ⟨b, 0, none⟩ = some (.int .i64 x)) (c1 : W.cell? ⟨b, 1, none⟩ = some (.int .i64 y)) : RowP W b 2 [x, y] :=
  ⟨Nat.le_refl _, fun _ => rfl, fun i v hv => by
    match i, hv with
    | 0, hv => simp [is] at hv; rw [← hv]; exact c0
    | 1, hv => simp [is] at hv; rw [← hv]; exact c1
    | i + 2, hv => simp [is] at hv⟩
abbrev WikP (W : World) (g1 g2 g3 : Nat) : Prop := LayP W 2 2 g1 2 g2 2 g3 2 [0, 0] [-3, 2] [-1, 1]
theorem wik_of {W : World} {g1 g2 g3 : Nat} (h1 : RowP W g1 2 [0, 0]) (h2 : RowP W g2 2 [-3, 2]) (h3 : RowP W g3 2 [-1, 1]) : WikP W g1 g2 g3 :=
  ⟨.inr rfl, by omega, rfl, rfl, rfl, by decide, by decide, by decide, h1, h2, h3⟩
set_option maxRecDepth 100000 in
set_option maxHeartbeats 1000000 in
theorem wicki_any (w : World) : Calls Tryz.prog 92 #[] w fun e w' => ∃ g1 g2 g3, e = .returned (layv 2 2 g1 2 g2 2 g3 2) ∧ WikP w' g1 g2 g3 ∧ Ext w w' := by
  go_enter Tryz.func92, Tryz.ntmps92
  go_wp2_with fail
  obtain ⟨W, hW⟩ : ∃ W, W = ((((w.alloc (.cells #[.int .i64 2, slv (w.heap.size + 1) 2 2, slv (w.heap.size + 1 + 1) 2 2, slv (w.heap.size + 1 + 1 + 1) 2 2] 62)).alloc (.cells #[.int .i64 0, .int .i64 0] 3)).alloc (.cells #[.int .i64 (-3), .int .i64 2] 3)).alloc (.cells #[.int .i64 (-1), .int .i64 1] 3)) := ⟨_, rfl⟩
  have hE : Ext w W := by rw [hW]; exact ((((Ext.refl w).alloc _).alloc _).alloc _).alloc _
  have q0 : W.cell? ⟨w.heap.size, 0, none⟩ = some (.int .i64 2) := by rw [hW]; go_simp
  have q1 : W.cell? ⟨w.heap.size, 1, none⟩ = some (slv (w.heap.size + 1) 2 2) := by rw [hW]; go_simp
  have q2 : W.cell? ⟨w.heap.size, 2, none⟩ = some (slv (w.heap.size + 1 + 1) 2 2) := by rw [hW]; go_simp
  have q3 : W.cell? ⟨w.heap.size, 3, none⟩ = some (slv (w.heap.size + 1 + 1 + 1) 2 2) := by rw [hW]; go_simp
  have hP : WikP W (w.heap.size + 1) (w.heap.size + 1 + 1) (w.heap.size + 1 + 1 + 1) := by
    rw [hW]
    exact wik_of (rowp2 (by go_simp) (by go_simp)) (rowp2 (by go_simp) (by go_simp)) (rowp2 (by go_simp) (by go_simp))
  rw [← hW]
  refine bodyPost_ret (v := layv 2 2 (w.heap.size + 1) 2 (w.heap.size + 1 + 1) 2 (w.heap.size + 1 + 1 + 1) 2) (by simp [results, Tryz.results92, go_sem, q0, q1, q2, q3]) rfl ⟨_, _, _, rfl, hP, hE⟩
end Go.Proofs.YtcklioolpicmcaaGreatDoor
/- schismalaw44: the known answers. -/
namespace Go.Proofs.YtcklioolpicmcaaGreatDoor
open Go.RowKit Go.Sort
theorem wik_run : ∃ fin, runD 64 2 2 10 0 (startD [[-3, 2], [-1, 1]] 2) = some (2, fin) ∧ fin.a = [[1, 0], [0, 1]] := by
  have h : (runD 64 2 2 10 0 (startD [[-3, 2], [-1, 1]] 2)).map (fun p => (p.1, p.2.a)) = some (2, [[1, 0], [0, 1]]) := by decide
  cases hr : runD 64 2 2 10 0 (startD [[-3, 2], [-1, 1]] 2) with
  | none => rw [hr] at h; cases h
  | some p =>
    rw [hr] at h
    obtain ⟨a, fin⟩ := p
    simp only [Option.map_some, Option.some.injEq, Prod.mk.injEq] at h
    obtain ⟨rfl, h⟩ := h
    exact ⟨fin, rfl, h⟩
theorem wik_bm : BM 64 [[1, 0], [0, 1]] := by
  intro r hr z hz
  simp only [List.mem_cons, List.not_mem_nil, or_false] at hr
  rcases hr with rfl | rfl <;> simp only [List.mem_cons, List.not_mem_nil, or_false] at hz <;> rcases hz with rfl | rfl <;> decide
theorem wik_complete {w : World} {g1 g2 g3 : Nat} (h : WikP w g1 g2 g3) (hL : Laid w) :
    Calls Tryz.prog 49 #[layv 2 2 g1 2 g2 2 g3 2] w fun e w' => e = .returned (.tuple #[.bool true, .int .i64 0]) ∧ Ext w w' := by
  obtain ⟨fin, h1, h2⟩ := wik_run
  exact Complete_ok h (by omega) h1 (by omega) (by omega) (by omega) (by rw [h2]; exact wik_bm) (by decide) (by omega) (by rw [h2]; decide) (by rw [h2]; decide) (by rw [h2]; decide) hL
theorem wik_note {w : World} {g1 g2 g3 : Nat} (h : WikP w g1 g2 g3) :
    Calls Tryz.prog 44 #[layv 2 2 g1 2 g2 2 g3 2, .agg #[.int .i64 (-1), .int .i64 2]] w (NotPost w 2 (-1) 2 [0, 0] [-3, 2] [-1, 1]) :=
  Note_any h (by unfold I64; omega) (by unfold I64; omega) (fun _ => by decide)
theorem wik_span : Hnf.Span (latM [[-3, 2], [-1, 1]]) (vr [1, 0]) := by
  have e : vr [1, 0] = Hnf.sub (Hnf.sub (fun _ => 0) 1 (vr [-3, 2])) (-2) (vr [-1, 1]) := by
    funext j
    match j with
    | 0 => simp [Hnf.sub, vr]
    | 1 => simp [Hnf.sub, vr]
    | j + 2 => simp [Hnf.sub, vr]
  rw [e]
  exact Hnf.Span.step _ (Hnf.Span.step _ Hnf.Span.zero (by simp [latM])) (by simp [latM])
theorem wik_rect : Rect 2 [[-3, 2], [-1, 1]] := by
  intro r hr
  simp at hr; rcases hr with rfl | rfl <;> rfl
theorem wik_sol {H : Mx} (hH : HnfOf 4 (wideM [[-3, 2], [-1, 1]]) H) : zeroL ((solL 2 H 2 [1, 0]).take 2) ∧ solX 2 H 2 [1, 0] = [-1, 2] := by
  have hz := (sol_zero (c := 2) (M := [[-3, 2], [-1, 1]]) (b := [1, 0]) wik_rect hH rfl).2 wik_span
  refine ⟨hz, ?_⟩
  have hc := solX_cmb (c := 2) (M := [[-3, 2], [-1, 1]]) (b := [1, 0]) wik_rect hH rfl hz
  have hl := solX_length (c := 2) (n := 2) (H := H) (b := [1, 0]) rfl
  have h0 := hc 0 (by omega)
  have h1 := hc 1 (by omega)
  match hh : solX 2 H 2 [1, 0], hl with
  | [x0, x1], _ =>
    have hh2 : solX 2 H ([[-3, 2], [-1, 1]] : Mx).length [1, 0] = [x0, x1] := hh
    rw [hh2] at h0 h1
    simp [cmb, sumZ, vr, eM] at h0 h1
    have e0 : x0 = -1 := by omega
    have e1 : x1 = 2 := by omega
    rw [e0, e1]
theorem wik_move {w : World} {g1 g2 g3 gq cq : Nat} (h : WikP w g1 g2 g3) (hq : RowP w gq cq [1, 0]) (hL : Laid w) :
    Calls Tryz.prog 46 #[layv 2 2 g1 2 g2 2 g3 2, slv gq 2 cq] w fun e w' => e = .returned (.tuple #[keyv (-1) 2, .bool true, .int .i64 0]) ∧ Ext w w' := by
  refine (Move_any h (hq.row) rfl (by decide) (by omega) hL).mono ?_
  rintro e w' ⟨H, hH, hE, hp⟩
  obtain ⟨hz, hx⟩ := wik_sol hH
  rcases hp with ⟨hn, _⟩ | ⟨_, _, rfl⟩ | ⟨_, hs, _⟩
  · exact absurd hz hn
  · rw [hx]; exact ⟨rfl, hE⟩
  · rw [hx] at hs; exact absurd hs (by decide)
theorem wik_keys {B : Nat} {w : World} {v : Value} (h : KeysV B w v (nbs true 0 0)) : ∃ g cap, v = .slice (some ⟨g, 0, none⟩) 6 cap := by
  rcases h.2 with ⟨_, h0⟩ | ⟨g, cap, cur, rfl, _⟩
  · exact absurd h0 (by decide)
  · exact ⟨g, cap, rfl⟩
theorem wik_row {B g : Nat} {w : World} (h : OwnV 3 B w g 2 (is (atL (-1) 2 [0, 0] [-3, 2] [-1, 1]))) : RowR w (slv g 2 2) [1, 0] :=
  ⟨_, g, 0, 2, rfl, Nat.le_refl _, h.sl⟩
theorem same_ok {w : World} {va vb : Value} {a b : List Int} (hA : RowR w va a) (hB : RowR w vb b) (hl : a.length ≤ 1000000) (he : a = b) : Calls Tryz.prog 39 #[va, vb] w fun e w' => e = .returned (.bool true) ∧ Ext w w' := by
  have h := Same_any hA hB hl
  rw [decide_eq_true he] at h
  exact h
set_option maxRecDepth 100000 in
set_option maxHeartbeats 1000000 in
theorem known44_any {w : World} (hL : Laid w) : Calls Tryz.prog 34 #[] w fun e w' => e = .returned (.bool true) ∧ Ext w w' := by
  have HL := Lib.hid hL
  clear hL
  go_enter Tryz.func34, Tryz.ntmps34
  go_wp2_with fail
  refine (wicki_any _).mono ?_
  rintro e w1 ⟨g1, g2, g3, rfl, hP1, hE1⟩
  go_wp2_with fail
  refine (wik_note hP1).mono ?_
  rintro e w2 ⟨hp, hE2⟩
  rw [if_neg (by decide)] at hp
  obtain ⟨gn, rfl, hO⟩ := hp
  have hR2 := Lib.hid (wik_row hO)
  have hX2 := hE1.trans hE2
  clear hE1 hE2 hP1 hO
  go_wp2_with fail
  refine (wicki_any _).mono ?_
  rintro e w3 ⟨g4, g5, g6, rfl, hP3, hE3⟩
  have hX3 := hX2.trans hE3
  have hR3 := Lib.hid (hR2.out.ext hE3)
  clear hE3 hR2 hX2
  go_wp2_with fail
  refine (wik_move (gq := w3.heap.size) (cq := 2) (hP3.ext ((Ext.refl _).alloc _)) (rowp2 (by go_simp) (by go_simp)) (HL.out.ext (hX3.alloc _))).mono ?_
  rintro e w4 ⟨rfl, hE4⟩
  have hR4 := Lib.hid ((hR3.out.ext ((Ext.refl _).alloc _)).ext hE4)
  have hX4 := (hX3.alloc _).trans hE4
  clear hE4 hR3 hX3 hP3
  go_wp2_with fail
  refine (wicki_any _).mono ?_
  rintro e w5 ⟨g7, g8, g9, rfl, hP5, hE5⟩
  have k0 := hE5.cell (show (w4.alloc (.cells #[.int .i64 (-1), .int .i64 2] 80)).cell? ⟨w4.heap.size, 0, none⟩ = some (.int .i64 (-1)) by go_simp)
  have k1 := hE5.cell (show (w4.alloc (.cells #[.int .i64 (-1), .int .i64 2] 80)).cell? ⟨w4.heap.size, 1, none⟩ = some (.int .i64 2) by go_simp)
  have hR5 := Lib.hid ((hR4.out.ext ((Ext.refl _).alloc _)).ext hE5)
  have hX5 := (hX4.alloc _).trans hE5
  clear hE5 hR4 hX4
  go_wp2_with fail
  refine (wik_complete hP5 (HL.out.ext hX5)).mono ?_
  rintro e w6 ⟨rfl, hE6⟩
  have j0 := hE6.cell k0
  have j1 := hE6.cell k1
  have hR6 := Lib.hid (hR5.out.ext hE6)
  have hX6 := hX5.trans hE6
  clear hE6 hR5 hX5 k0 k1 hP5
  go_wp2_with fail
  refine (Neighbours_ok (k := 2) (h := true) (.inr ⟨rfl, rfl⟩) (by omega) (by omega)).mono ?_
  rintro e w7 ⟨⟨v, rfl, hv⟩, hE7⟩
  obtain ⟨gk, ck, rfl⟩ := wik_keys hv
  have k0 := hE7.cell j0
  have k1 := hE7.cell j1
  have hR7 := Lib.hid (hR6.out.ext hE7)
  have hX7 := hX6.trans hE7
  have dl := World.block_lt_of_cell? _ _ k0
  clear hE7 hR6 hX6 j0 j1 hv
  have hsm := Lib.hid (fun W (hW : Ext w7 W) gq (c0 : W.cell? ⟨gq, 0, none⟩ = some (.int .i64 1)) (c1 : W.cell? ⟨gq, 1, none⟩ = some (.int .i64 0)) => same_ok (hR7.out.ext hW) (show RowR W (slv gq 2 2) [1, 0] from (rowp2 c0 c1).row) (by simp) rfl)
  go_wp2_with fail
  refine (hsm.out _ ((Ext.refl _).alloc _) w7.heap.size (by go_simp) (by go_simp)).mono ?_
  rintro e w8 ⟨rfl, hE8⟩
  have j0 := hE8.cell (show (w7.alloc (.cells #[.int .i64 1, .int .i64 0] 3)).cell? ⟨w4.heap.size, 0, none⟩ = some (.int .i64 (-1)) by go_simp)
  have j1 := hE8.cell (show (w7.alloc (.cells #[.int .i64 1, .int .i64 0] 3)).cell? ⟨w4.heap.size, 1, none⟩ = some (.int .i64 2) by go_simp)
  have hX8 := (hX7.alloc _).trans hE8
  clear hE8 hsm k0 k1
  go_wp2_with fail
  go_ret
  exact ⟨by simp, hX8⟩
end Go.Proofs.YtcklioolpicmcaaGreatDoor
