/- Part 22 of the proof of the claim: contracts of the functions that it reaches, and plain laws; no condition. -/
import Derived.Test.YtokjolmpdfmnbaaGreatDoorU21
import Derived.BigQuiet
namespace Go.Proofs.YtokjolmpdfmnbaaGreatDoor
open Go.RowKit Go.Sort
def farB (x y : Int) : Bool := decide (1000000 < max x y) || decide (min x y < -1000000)
def NotPost (w : World) (n : Nat) (x y : Int) (o r u : List Int) (e : Ending) (w' : World) : Prop :=
  (if farB x y then e = .returned (.tuple #[.slice none 0 0, .int .i64 3]) else ∃ g, e = .returned (.tuple #[slv g n n, .int .i64 0]) ∧ OwnV 3 w.heap.size w' g n (is (atL x y o r u))) ∧ Ext w w'
set_option maxRecDepth 100000 in
set_option maxHeartbeats 1000000 in
theorem Note_any {w : World} {k x y : Int} {n go co gr cr gu cu : Nat} {o r u : List Int} (h : LayP w k n go co gr cr gu cu o r u) (hx : I64 x) (hy : I64 y) (hres : farB x y = false → chkRow (atL x y o r u) = 0) :
    Calls Tryz.prog 29 #[layv k n go co gr cr gu cu, .agg #[.int .i64 x, .int .i64 y]] w (NotPost w n x y o r u) := by
  have hck := Lib.hid (fun W (hW : Ext w W) => lcheck_ok (h.ext hW))
  have hfar := Lib.hid (fun W => far_any (w := W) hx hy)
  have hl : (atL x y o r u).length = n := by rw [atL_length _ _ _ _ _ (by rw [h.lo, h.lr]) (by rw [h.lo, h.lu])]; exact h.lo
  have Hl := Lib.hid hl
  have hX : Ext w ((w.alloc (.cells #[.int .i64 k, slv go n co, slv gr n cr, slv gu n cu] 54)).alloc (.cells #[.int .i64 x, .int .i64 y] 68)) := ((Ext.refl w).alloc _).alloc _
  cases hf : farB x y
  · have hb : (-1000000 ≤ x ∧ x ≤ 1000000) ∧ (-1000000 ≤ y ∧ y ≤ 1000000) := by
      unfold farB at hf
      simp only [Bool.or_eq_false_iff, decide_eq_false_iff_not] at hf
      omega
    have hat := Lib.hid (fun W (hW : Ext w W) => at_any (h.ext hW) hb.1 hb.2)
    have hr := Lib.hid (hres hf)
    have Hf := Lib.hid hf
    rw [show (decide (1000000 < max x y) || decide (min x y < -1000000)) = false from hf] at hfar
    clear h hres hf hl hb
    go_enter Tryz.func29, Tryz.ntmps29
    go_wp2_with fail
    refine (hck.out _ hX).mono ?_
    rintro e w1 ⟨rfl, hE1⟩
    have d0 := hE1.cell (show ((w.alloc (.cells #[.int .i64 k, slv go n co, slv gr n cr, slv gu n cu] 54)).alloc (.cells #[.int .i64 x, .int .i64 y] 68)).cell? ⟨w.heap.size, 0, none⟩ = some (.int .i64 k) by go_simp)
    have d1 := hE1.cell (show ((w.alloc (.cells #[.int .i64 k, slv go n co, slv gr n cr, slv gu n cu] 54)).alloc (.cells #[.int .i64 x, .int .i64 y] 68)).cell? ⟨w.heap.size, 1, none⟩ = some (slv go n co) by go_simp)
    have d2 := hE1.cell (show ((w.alloc (.cells #[.int .i64 k, slv go n co, slv gr n cr, slv gu n cu] 54)).alloc (.cells #[.int .i64 x, .int .i64 y] 68)).cell? ⟨w.heap.size, 2, none⟩ = some (slv gr n cr) by go_simp)
    have d3 := hE1.cell (show ((w.alloc (.cells #[.int .i64 k, slv go n co, slv gr n cr, slv gu n cu] 54)).alloc (.cells #[.int .i64 x, .int .i64 y] 68)).cell? ⟨w.heap.size, 3, none⟩ = some (slv gu n cu) by go_simp)
    have e0 := hE1.cell (show ((w.alloc (.cells #[.int .i64 k, slv go n co, slv gr n cr, slv gu n cu] 54)).alloc (.cells #[.int .i64 x, .int .i64 y] 68)).cell? ⟨w.heap.size + 1, 0, none⟩ = some (.int .i64 x) by go_simp)
    have e1 := hE1.cell (show ((w.alloc (.cells #[.int .i64 k, slv go n co, slv gr n cr, slv gu n cu] 54)).alloc (.cells #[.int .i64 x, .int .i64 y] 68)).cell? ⟨w.heap.size + 1, 1, none⟩ = some (.int .i64 y) by go_simp)
    have hX1 := hX.trans hE1
    clear hE1 hck hX
    go_wp2_with fail
    refine (hfar.out _).mono ?_
    rintro e w2 ⟨rfl, hE2⟩
    replace d0 := hE2.cell d0
    replace d1 := hE2.cell d1
    replace d2 := hE2.cell d2
    replace d3 := hE2.cell d3
    replace e0 := hE2.cell e0
    replace e1 := hE2.cell e1
    have hX2 := hX1.trans hE2
    clear hfar hX1 hE2
    go_wp2_with fail
    refine (hat.out _ hX2).mono ?_
    rintro e w3 ⟨g, rfl, hO3, hE3⟩
    have hcr := Lib.hid (rowCheck_any (w := w3) (v := slv g n n) (x := atL x y o r u) ⟨_, g, 0, n, by rw [Hl.out], by rw [Hl.out]; exact Nat.le_refl _, hO3.sl⟩)
    rw [hr.out] at hcr
    have HO3 := Lib.hid (hO3.mono hX2.size)
    have hX3 := hX2.trans hE3
    clear hO3 hat hE3 d0 d1 d2 d3 e0 e1
    go_wp2_with fail
    refine hcr.out.mono ?_
    rintro e w4 ⟨rfl, hE4⟩
    go_wp2_with fail
    go_ret2
    exact ⟨by rw [if_neg (by rw [Hf.out]; decide)]; exact ⟨g, rfl, HO3.out.ext hE4⟩, hX3.trans hE4⟩
  · have Hf := Lib.hid hf
    rw [show (decide (1000000 < max x y) || decide (min x y < -1000000)) = true from hf] at hfar
    clear h hres hf hl
    go_enter Tryz.func29, Tryz.ntmps29
    go_wp2_with fail
    refine (hck.out _ hX).mono ?_
    rintro e w1 ⟨rfl, hE1⟩
    have e0 := hE1.cell (show ((w.alloc (.cells #[.int .i64 k, slv go n co, slv gr n cr, slv gu n cu] 54)).alloc (.cells #[.int .i64 x, .int .i64 y] 68)).cell? ⟨w.heap.size + 1, 0, none⟩ = some (.int .i64 x) by go_simp)
    have e1 := hE1.cell (show ((w.alloc (.cells #[.int .i64 k, slv go n co, slv gr n cr, slv gu n cu] 54)).alloc (.cells #[.int .i64 x, .int .i64 y] 68)).cell? ⟨w.heap.size + 1, 1, none⟩ = some (.int .i64 y) by go_simp)
    have hX1 := hX.trans hE1
    clear hE1 hck hX
    go_wp2_with fail
    refine (hfar.out _).mono ?_
    rintro e w2 ⟨rfl, hE2⟩
    go_wp2_with fail
    go_ret2
    exact ⟨by rw [if_pos Hf.out]; rfl, hX1.trans hE2⟩
end Go.Proofs.YtokjolmpdfmnbaaGreatDoor
namespace Go.Proofs.YtokjolmpdfmnbaaGreatDoor
open Go.RowKit Go.Sort
theorem one_rowR {W : World} {b : Nat} {v : Value} {x : List Int} (hx : RowR W v x) (h0 : W.cell? ⟨b, 0, none⟩ = some v) : MatR W (.slice (some ⟨b, 0, none⟩) 1 1) [x] := by
  refine ⟨_, b, 0, 1, [v], rfl, Nat.le_refl _, rfl, ⟨fun _ => rfl, fun i u hu => ?_⟩, fun i a a' => ?_⟩
  · have : i = 0 := by have := (List.getElem?_eq_some_iff.1 hu).1; simpa using this
    subst this
    simp at hu; rw [← hu]; exact h0
  · have : i = 0 := by simpa using a
    subst this
    exact hx
def rowE (n : Nat) (q : List Int) : Int := if chkRow q = 0 then (if q.length = n then 0 else 5) else chkRow q
theorem rowE_ok {n : Nat} {q : List Int} (lq : q.length = n) (eq : chkRow q = 0) : rowE n q = 0 := by unfold rowE; rw [if_pos eq, if_pos lq]
theorem rowE_zero {n : Nat} {q : List Int} (h : rowE n q = 0) : q.length = n ∧ chkRow q = 0 := by
  unfold rowE at h
  split at h
  · rename_i h1
    split at h
    · rename_i h2; exact ⟨h2, h1⟩
    · cases h
  · rename_i h1; exact absurd h h1
set_option maxRecDepth 100000 in
theorem CheckAll_one {w : World} {v : Value} {q : List Int} {n : Nat} (hM : MatR w v [q]) :
    Calls Tryz.prog 69 #[v, .int .i64 n] w fun e w' => e = .returned (.int .i64 (rowE n q)) ∧ Ext w w' := by
  obtain ⟨sa, gb, go, cap, vs, rfl, hcap, hvl, hS, hr⟩ := hM
  obtain rfl := hS.addr (by rw [hvl]; simp)
  obtain ⟨sr, br, or, cr, hrow, hrc, hSr⟩ := MatR.row hS hvl hr (i := 0) (by simp)
  simp only [List.getElem_cons_zero, Nat.add_zero] at hrow hrc hSr
  have hck := Lib.hid (fun W (hW : Ext w W) => rowCheck_any (w := W) (v := .slice sr q.length cr) (x := q) ⟨sr, br, or, cr, rfl, hrc, hSr.ext hW⟩)
  obtain ⟨z, hz⟩ : ∃ z, z = chkRow q := ⟨_, rfl⟩
  have Hz := Lib.hid hz
  rw [← hz] at hck
  obtain ⟨m, hm⟩ : ∃ m, m = q.length := ⟨_, rfl⟩
  have Hm := Lib.hid hm
  rw [← hm] at hck hrow
  simp only [List.length_cons, List.length_nil, Nat.zero_add] at hcap ⊢
  clear hS hr hvl hz hm hrc hSr
  by_cases hz0 : z = 0
  · subst hz0
    by_cases hmn : m = n
    · subst hmn
      have HR := Lib.hid (show rowE m q = 0 from rowE_ok Hm.out.symm Hz.out.symm)
      go_enter Tryz.func69, Tryz.ntmps69
      go_wp2_with fail
      go_loopw [10] (fun idx wr => ∃ i : Nat, i ≤ 1 ∧ idx = .int .i64 i ∧ Ext w wr) (fun idx _ => 1 - (intOf idx).toNat)
      case atStart => exact ⟨0, by omega, by go_num, Ext.refl _⟩
      case round =>
        obtain ⟨i, hi, rfl, hE⟩ := hrel
        generalize wr = X at *
        rcases (show i = 0 ∨ i = 1 by omega) with rfl | rfl
        · have hrow' := hE.cell hrow
          clear hrow
          go_wp2_with fail
          refine (hck.out _ hE).mono ?_
          rintro e W ⟨rfl, hW⟩
          go_wp2_with fail
          go_roundw
          case rel => exact ⟨1, by omega, by go_num, hE.trans hW⟩
          case measure => simp [intOf]
        · go_wp2_with fail
          go_ret
          exact ⟨by rw [HR.out]; rfl, hE⟩
    · have HR := Lib.hid (show rowE n q = 5 by unfold rowE; rw [if_pos Hz.out.symm, if_neg (by rw [← Hm.out]; exact hmn)])
      have h1 : ¬ ((m : Int) = (n : Int)) := by omega
      have h2 : ((m : Int) == (n : Int)) = false := beq_eq_false_iff_ne.2 h1
      have h3 : ((m : Int) != (n : Int)) = true := by simp [bne, h2]
      go_enter Tryz.func69, Tryz.ntmps69
      go_wp2_with fail
      go_loopw [10] (fun idx wr => idx = .int .i64 0 ∧ Ext w wr) (fun idx _ => 1 - (intOf idx).toNat)
      case atStart => exact ⟨by go_num, Ext.refl _⟩
      case round =>
        obtain ⟨rfl, hE⟩ := hrel
        generalize wr = X at *
        have hrow' := hE.cell hrow
        clear hrow
        go_wp2_with fail
        refine (hck.out _ hE).mono ?_
        rintro e W ⟨rfl, hW⟩
        go_wp2_with fail
        go_ret
        exact ⟨by rw [HR.out]; rfl, hE.trans hW⟩
  · have HR := Lib.hid (show rowE n q = z by unfold rowE; rw [if_neg (by rw [← Hz.out]; exact hz0), ← Hz.out])
    have h2 : (z == 0) = false := beq_eq_false_iff_ne.2 hz0
    have h3 : (z != 0) = true := by simp [bne, h2]
    go_enter Tryz.func69, Tryz.ntmps69
    go_wp2_with fail
    go_loopw [10] (fun idx wr => idx = .int .i64 0 ∧ Ext w wr) (fun idx _ => 1 - (intOf idx).toNat)
    case atStart => exact ⟨by go_num, Ext.refl _⟩
    case round =>
      obtain ⟨rfl, hE⟩ := hrel
      generalize wr = X at *
      have hrow' := hE.cell hrow
      clear hrow
      go_wp2_with fail
      refine (hck.out _ hE).mono ?_
      rintro e W ⟨rfl, hW⟩
      go_wp2_with fail
      go_ret
      exact ⟨by rw [HR.out]; rfl, hE.trans hW⟩
set_option maxRecDepth 100000 in
theorem lsized_any {w : World} {k : Int} {n m go co gr cr gu cu cq : Nat} {sq : Option Addr} {o r u q : List Int} (h : LayP w k n go co gr cr gu cu o r u) (hq : RowR w (.slice sq m cq) q) :
    Calls Tryz.prog 71 #[layv k n go co gr cr gu cu, .slice sq m cq] w fun e w' => e = .returned (.int .i64 (rowE n q)) ∧ Ext w w' := by
  have hck := Lib.hid (fun W (hW : Ext w W) => lcheck_ok (h.ext hW))
  have hall := Lib.hid (fun W b (hW : Ext w W) (h0 : W.cell? ⟨b, 0, none⟩ = some (.slice sq m cq)) => CheckAll_one (n := n) (one_rowR (hq.ext hW) h0))
  have hX : Ext w (w.alloc (.cells #[.int .i64 k, slv go n co, slv gr n cr, slv gu n cu] 54)) := (Ext.refl w).alloc _
  clear h hq
  generalize rowE n q = z at *
  go_enter Tryz.func71, Tryz.ntmps71
  go_wp2_with fail
  refine (hck.out _ hX).mono ?_
  rintro e w1 ⟨rfl, hE1⟩
  have d1 := hE1.cell (show (w.alloc (.cells #[.int .i64 k, slv go n co, slv gr n cr, slv gu n cu] 54)).cell? ⟨w.heap.size, 1, none⟩ = some (slv go n co) by go_simp)
  have dl := World.block_lt_of_cell? _ _ d1
  have hX1 := hX.trans hE1
  clear hE1 hck hX
  go_wp2_with fail
  refine (hall.out _ w1.heap.size (hX1.alloc _) (by go_simp)).mono ?_
  rintro e w2 ⟨rfl, hE2⟩
  have hX2 := (hX1.alloc (.cells #[.slice sq m cq] 32)).trans hE2
  go_wp2_with fail
  go_ret
  exact ⟨rfl, hX2⟩
theorem lsized_ok {w : World} {k : Int} {n go co gr cr gu cu cq : Nat} {sq : Option Addr} {o r u q : List Int} (h : LayP w k n go co gr cr gu cu o r u) (hq : RowR w (.slice sq n cq) q) (lq : q.length = n) (eq : chkRow q = 0) :
    Calls Tryz.prog 71 #[layv k n go co gr cr gu cu, .slice sq n cq] w fun e w' => e = .returned (.int .i64 0) ∧ Ext w w' := by
  have := lsized_any h hq
  rw [rowE_ok lq eq] at this
  exact this
abbrev keyv (x y : Int) : Value := .agg #[.int .i64 x, .int .i64 y]
def MovPost (w : World) (n : Nat) (r u q : List Int) (e : Ending) (w' : World) : Prop :=
  ∃ H, HnfOf (n + 2) (wideM [r, u]) H ∧ Ext w w' ∧
    ((¬ zeroL ((solL n H 2 q).take n) ∧ e = .returned (.tuple #[keyv 0 0, .bool false, .int .i64 0]))
      ∨ (zeroL ((solL n H 2 q).take n) ∧ smallB (solX n H 2 q) = true ∧ e = .returned (.tuple #[keyv ((solX n H 2 q).getD 0 0) ((solX n H 2 q).getD 1 0), .bool true, .int .i64 0]))
      ∨ (zeroL ((solL n H 2 q).take n) ∧ smallB (solX n H 2 q) = false ∧ e = .returned (.tuple #[keyv 0 0, .bool false, .int .i64 4])))
theorem check_rcm {M : Mx} {n : Nat} (hl : M.length ≤ 12) (hn : n ≤ 12) (hR : Rect n M) (he : ∀ r ∈ M, ∀ z ∈ r, -1000000000 ≤ z ∧ z ≤ 1000000000) : checkM M = 0 := by
  unfold checkM
  rw [if_neg (by omega)]
  refine chk_all _ _ fun j hj => ?_
  have hj' := hR _ (List.getElem_mem hj)
  have h0 : (M.getD 0 []).length = n := by rw [getD_get (by omega)]; exact hR _ (List.getElem_mem _)
  have ha : M[j].any grt = false := by
    cases h : M[j].any grt
    · rfl
    · obtain ⟨z, hz, hg⟩ := List.any_eq_true.1 h
      have := he _ (List.getElem_mem hj) z hz
      unfold grt at hg
      have := of_decide_eq_true hg
      omega
  unfold chkR
  rw [if_neg (by omega), if_neg (by omega), ha]; rfl
theorem check_two {r u : List Int} {n : Nat} (hn : n ≤ 12) (lr : r.length = n) (lu : u.length = n) (er : chkRow r = 0) (eu : chkRow u = 0) : checkM [r, u] = 0 := by
  refine check_rcm (n := n) (by simp) hn (fun s hs => ?_) (fun s hs => ?_)
  · simp only [List.mem_cons, List.not_mem_nil, or_false] at hs
    rcases hs with rfl | rfl
    · exact lr
    · exact lu
  · simp only [List.mem_cons, List.not_mem_nil, or_false] at hs
    rcases hs with rfl | rfl
    · exact (chkRow_ok er).2
    · exact (chkRow_ok eu).2
theorem key_alloc (w : World) (o : Obj) (T : TypeId) (a b : Value) : OwnV T w.heap.size ((w.alloc o).alloc (.cells #[a, b] T)) (w.heap.size + 1) 2 [a, b] :=
  OwnV.of (by omega) (by
    have h : ((w.alloc o).heap.push (.cells #[a, b] T))[(w.alloc o).heap.size]? = some (.cells #[a, b] T) := Array.getElem?_push_size
    rw [show (w.alloc o).heap.size = w.heap.size + 1 by simp] at h
    exact h) (by simp) (by unfold maxLen; omega) rfl rfl
theorem key_end {T : TypeId} {g : Nat} {w W : World} {a b : Value} (hE : Ext w W) (hg : w.heap.size ≤ g) (h : OwnV T w.heap.size W g 2 [a, b]) (c d : Value) :
    W.cell? ⟨g, 0, none⟩ = some a ∧ W.cell? ⟨g, 1, none⟩ = some b ∧ W.frozen? ⟨g, 0, none⟩ = false ∧ W.frozen? ⟨g, 1, none⟩ = false ∧
      ((W.setCell ⟨g, 0, none⟩ c).setCell ⟨g, 1, none⟩ d).cell? ⟨g, 0, none⟩ = some c ∧ ((W.setCell ⟨g, 0, none⟩ c).setCell ⟨g, 1, none⟩ d).cell? ⟨g, 1, none⟩ = some d ∧
      Hid (Ext w ((W.setCell ⟨g, 0, none⟩ c).setCell ⟨g, 1, none⟩ d)) := by
  obtain ⟨h1, g1⟩ := h.set 0 c
  obtain ⟨h2, g2⟩ := h1.set 1 d
  exact ⟨h.cell (j := 0) (by simp), h.cell (j := 1) (by simp), h.frozen 0, h.frozen 1, h2.cell (j := 0) (by simp), h2.cell (j := 1) (by simp), Lib.hid (ext_trans_grown hE (grown_trans g1 g2) hg)⟩
theorem lim2 {n E : Nat} (hn : n ≤ 3) (hE : E = bC 2 30 (n + 2)) : 2 * ((E + (E + 1) * 2) + ((E + (E + 1) * 2) + 1) * 2) + 6 < LIM := by
  subst hE
  rcases (show n = 0 ∨ n = 1 ∨ n = 2 ∨ n = 3 by omega) with rfl | rfl | rfl | rfl <;> decide
theorem size_two {r u q : List Int} {n : Nat} (hn : n ≤ 12) (lr : r.length = n) (lu : u.length = n) (lq : q.length = n) (er : chkRow r = 0) (eu : chkRow u = 0) (eq : chkRow q = 0) : sizeE [r, u] q = 0 := by
  unfold sizeE
  rw [if_pos (check_two hn lr lu er eu), if_pos eq, if_neg]
  rintro ⟨_, h⟩
  exact h (by rw [lq]; exact lr.symm)
set_option maxRecDepth 100000 in
set_option maxHeartbeats 1000000 in
theorem Move_any {w : World} {k : Int} {n go co gr cr gu cu cq : Nat} {sq : Option Addr} {o r u q : List Int} (h : LayP w k n go co gr cr gu cu o r u) (hq : RowR w (.slice sq n cq) q) (lq : q.length = n) (eq : chkRow q = 0) (hn : n ≤ 3) (hL : Laid w) :
    Calls Tryz.prog 31 #[layv k n go co gr cr gu cu, .slice sq n cq] w (MovPost w n r u q) := by
  have hsz := Lib.hid (fun W (hW : Ext w W) => lsized_ok (h.ext hW) (hq.ext hW) lq eq)
  have hso := Lib.hid (fun W b (hW : Ext w W) (h0 : W.cell? ⟨b, 0, none⟩ = some (slv gr n cr)) (h1 : W.cell? ⟨b, 1, none⟩ = some (slv gu n cu)) =>
    Solve_any (c := n) (two_rows (h.pr.ext hW) (h.pu.ext hW) h.lr h.lu h0 h1) (hq.ext hW) (size_two h.n12 h.lr h.lu lq h.er h.eu eq) (by simp) h.lr.symm rfl (lim2 hn rfl) (hL.ext hW))
  have hX : Ext w ((w.alloc (.cells #[.int .i64 k, slv go n co, slv gr n cr, slv gu n cu] 54)).alloc (.cells #[.int .i64 0, .int .i64 0] 68)) := ((Ext.refl w).alloc _).alloc _
  have HO := Lib.hid (key_alloc w (.cells #[.int .i64 k, slv go n co, slv gr n cr, slv gu n cu] 54) 68 (.int .i64 0) (.int .i64 0))
  have Hlq := Lib.hid lq
  clear h hq lq eq hn hL
  go_enter Tryz.func31, Tryz.ntmps31
  go_wp2_with fail
  refine (hsz.out _ hX).mono ?_
  rintro e w1 ⟨rfl, hE1⟩
  have d2 := hE1.cell (show ((w.alloc (.cells #[.int .i64 k, slv go n co, slv gr n cr, slv gu n cu] 54)).alloc (.cells #[.int .i64 0, .int .i64 0] 68)).cell? ⟨w.heap.size, 2, none⟩ = some (slv gr n cr) by go_simp)
  have d3 := hE1.cell (show ((w.alloc (.cells #[.int .i64 k, slv go n co, slv gr n cr, slv gu n cu] 54)).alloc (.cells #[.int .i64 0, .int .i64 0] 68)).cell? ⟨w.heap.size, 3, none⟩ = some (slv gu n cu) by go_simp)
  have HO1 := Lib.hid (HO.out.ext hE1)
  have hX1 := hX.trans hE1
  have dl := World.block_lt_of_cell? _ _ d2
  clear hE1 hsz hX
  go_wp2_with fail
  refine (hso.out _ w1.heap.size (hX1.alloc _) (by go_simp) (by go_simp)).mono ?_
  rintro e w2 ⟨H, hH, hE2, hp⟩
  have HH := Lib.hid hH
  have HO2 := Lib.hid ((HO1.out.ext ((Ext.refl w1).alloc (.cells #[slv gr n cr, slv gu n cu] 32))).ext hE2)
  have hX2 := (hX1.alloc (.cells #[slv gr n cr, slv gu n cu] 32)).trans hE2
  clear hH hE2 hso d2 d3
  rcases hp with ⟨hz, rfl⟩ | ⟨hz, hs, v, rfl, hv⟩ | ⟨hz, hs, rfl⟩
  · have Hz := Lib.hid hz
    clear hz
    obtain ⟨q0, q1, f0, f1, r0, r1, hF⟩ := key_end hX2 (by omega) HO2.out (.int .i64 0) (.int .i64 0)
    have Hres := Lib.hid (show MovPost w n r u q (.returned (.tuple #[keyv 0 0, .bool false, .int .i64 0])) _ from ⟨H, HH.out, hF.out, .inl ⟨Hz.out, rfl⟩⟩)
    go_wp2_with fail
    refine bodyPost_ret (v := .tuple #[keyv 0 0, .bool false, .int .i64 0]) (by simp [results, Tryz.results31, go_sem, r0, r1]) rfl Hres.out
  · have Hz := Lib.hid hz
    have Hs := Lib.hid hs
    obtain ⟨x0, x1, hxe⟩ : ∃ x0 x1, solX n H 2 q = [x0, x1] := by
      have hl := solX_length (n := 2) (H := H) Hlq.out
      match hh : solX n H 2 q, hl with
      | [x0, x1], _ => exact ⟨x0, x1, rfl⟩
    have hv' : RowV (w1.alloc (.cells #[slv gr n cr, slv gu n cu] 32)).heap.size w2 v [x0, x1] := by rw [← hxe]; exact hv
    have Hxe := Lib.hid hxe
    clear hz hs hv hxe
    rcases hv'.2 with ⟨_, h0'⟩ | ⟨g9, c9, cur9, rfl, hB9, _, hc9, _⟩
    · simp at h0'
    · have p0 : w2.cell? ⟨g9, 0, none⟩ = some (.int .i64 x0) := by simpa [is] using World.ownsRow.cellAt hv' 0 (by simp)
      have p1 : w2.cell? ⟨g9, 1, none⟩ = some (.int .i64 x1) := by simpa [is] using World.ownsRow.cellAt hv' 1 (by simp)
      have hne : w.heap.size + 1 < g9 := by simp at hB9; omega
      clear hv'
      simp only [List.length_cons, List.length_nil] at hc9 ⊢
      obtain ⟨q0, q1, f0, f1, r0, r1, hF⟩ := key_end hX2 (by omega) HO2.out (.int .i64 x0) (.int .i64 x1)
      have Hres := Lib.hid (show MovPost w n r u q (.returned (.tuple #[keyv x0 x1, .bool true, .int .i64 0])) _ from ⟨H, HH.out, hF.out.trans (Ext.refl _).drew, .inr (.inl ⟨Hz.out, Hs.out, by rw [Hxe.out]; rfl⟩)⟩)
      go_wp2_with fail
      go_region
      go_wp2_with fail
      refine bodyPost_ret (v := .tuple #[keyv x0 x1, .bool true, .int .i64 0]) (by simp [results, Tryz.results31, go_sem, r0, r1]) rfl Hres.out
  · have Hz := Lib.hid hz
    have Hs := Lib.hid hs
    clear hz hs
    obtain ⟨q0, q1, f0, f1, r0, r1, hF⟩ := key_end hX2 (by omega) HO2.out (.int .i64 0) (.int .i64 0)
    have Hres := Lib.hid (show MovPost w n r u q (.returned (.tuple #[keyv 0 0, .bool false, .int .i64 4])) _ from ⟨H, HH.out, hF.out, .inr (.inr ⟨Hz.out, Hs.out, rfl⟩)⟩)
    go_wp2_with fail
    refine bodyPost_ret (v := .tuple #[keyv 0 0, .bool false, .int .i64 4]) (by simp [results, Tryz.results31, go_sem, r0, r1]) rfl Hres.out
end Go.Proofs.YtokjolmpdfmnbaaGreatDoor
namespace Go.Proofs.YtokjolmpdfmnbaaGreatDoor
open Go.RowKit Go.Sort
theorem RowR.opened {w : World} {s : Option Addr} {n c : Nat} {x : List Int} (h : RowR w (.slice s n c) x) : n = x.length ∧ x.length ≤ c ∧ ∃ g o, Sl w s g o (is x) := by
  obtain ⟨sa, g, o, cap, e, h1, h2⟩ := h
  injection e with e1 e2 e3
  subst e1 e3
  exact ⟨e2, h1, g, o, h2⟩
def allE (n : Nat) : List (List Int) → Int
  | [] => 0
  | q :: t => if rowE n q = 0 then allE n t else rowE n q
theorem allE_drop {n : Nat} {F : List (List Int)} : ∀ {i : Nat}, (h : i < F.length) → rowE n F[i] = 0 → allE n (F.drop i) = allE n (F.drop (i + 1)) := fun {i} h h0 => by
  rw [List.drop_eq_getElem_cons h, allE, if_pos h0]
theorem allE_stop {n : Nat} {F : List (List Int)} {i : Nat} (h : i < F.length) (h0 : rowE n F[i] ≠ 0) : allE n (F.drop i) = rowE n F[i] := by
  rw [List.drop_eq_getElem_cons h, allE, if_neg h0]
theorem allE_zero {n : Nat} : ∀ {F : List (List Int)}, allE n F = 0 → ∀ r ∈ F, chkRow r = 0 ∧ r.length = n
  | [], _, r, hr => by simp at hr
  | q :: t, h, r, hr => by
    rw [allE] at h
    split at h
    · rename_i h1
      rcases List.mem_cons.1 hr with rfl | hr
      · exact ⟨(rowE_zero h1).2, (rowE_zero h1).1⟩
      · exact allE_zero h r hr
    · rename_i h1; exact absurd h h1
set_option maxRecDepth 100000 in
set_option maxHeartbeats 1000000 in
theorem CheckAll_any {w : World} {v : Value} {F : Mx} {n : Nat} (hM : MatR w v F) (hl : F.length ≤ 1000) :
    Calls Tryz.prog 69 #[v, .int .i64 n] w fun e w' => e = .returned (.int .i64 (allE n F)) ∧ Ext w w' := by
  obtain ⟨sa, gb, go, cap, vs, rfl, hcap, hvl, hS, hr⟩ := hM
  have HS := Lib.hid hS
  have HV := Lib.hid hvl
  have HR := Lib.hid hr
  clear hS hvl hr
  go_enter Tryz.func69, Tryz.ntmps69
  go_wp2_with fail
  go_loopw [10] (fun idx wr => ∃ i : Nat, i ≤ F.length ∧ idx = .int .i64 i ∧ Hid (allE n F = allE n (F.drop i)) ∧ Ext w wr) (fun idx _ => F.length - (intOf idx).toNat)
  case atStart => exact ⟨0, by omega, by go_num, Lib.hid rfl, Ext.refl _⟩
  case round =>
    obtain ⟨i, hi, rfl, HA, hE⟩ := hrel
    generalize wr = X at *
    by_cases hlt : i < F.length
    · have hii : (i : Int) < (F.length : Int) := by omega
      obtain rfl := HS.out.addr (by rw [HV.out]; omega)
      obtain ⟨sr, br, or, cr, hrow, hrc, hSr⟩ := MatR.row HS.out HV.out HR.out hlt
      have hch := Lib.hid (rowCheck_any (w := X) (v := .slice sr F[i].length cr) (x := F[i]) ⟨sr, br, or, cr, rfl, hrc, hSr.ext hE⟩)
      obtain ⟨z, hz⟩ : ∃ z, z = chkRow F[i] := ⟨_, rfl⟩
      obtain ⟨m, hm⟩ : ∃ m, m = F[i].length := ⟨_, rfl⟩
      have Hz := Lib.hid hz
      have Hm := Lib.hid hm
      have Hst := Lib.hid (allE_drop (n := n) hlt)
      have Hsp := Lib.hid (allE_stop (n := n) hlt)
      rw [← hz] at hch
      rw [← hm] at hch hrow
      have hrow' := hE.cell hrow
      clear hrow hrc hSr hz hm
      by_cases hz0 : z = 0
      · subst hz0
        by_cases hmn : m = n
        · subst hmn
          have HA2 := Lib.hid (HA.out.trans (Hst.out (rowE_ok Hm.out.symm Hz.out.symm)))
          clear Hst Hsp HA
          go_wp2_with fail
          refine hch.out.mono ?_
          rintro e W ⟨rfl, hW⟩
          go_wp2_with fail
          go_roundw
          case rel => exact ⟨i + 1, by omega, by go_num, HA2, hE.trans hW⟩
          case measure => simp [intOf] <;> omega
        · have hre : rowE n F[i] = 5 := by unfold rowE; rw [if_pos Hz.out.symm, if_neg (by rw [← Hm.out]; exact hmn)]
          have HA2 := Lib.hid (HA.out.trans (Hsp.out (by rw [hre]; decide)))
          rw [hre] at HA2
          have h1 : ¬ ((m : Int) = (n : Int)) := by omega
          have h2 : ((m : Int) == (n : Int)) = false := beq_eq_false_iff_ne.2 h1
          have h3 : ((m : Int) != (n : Int)) = true := by simp [bne, h2]
          clear Hst Hsp HA hre
          go_wp2_with fail
          refine hch.out.mono ?_
          rintro e W ⟨rfl, hW⟩
          go_wp2_with fail
          go_ret
          exact ⟨by rw [HA2.out]; rfl, hE.trans hW⟩
      · have hre : rowE n F[i] = z := by unfold rowE; rw [if_neg (by rw [← Hz.out]; exact hz0), ← Hz.out]
        have HA2 := Lib.hid (HA.out.trans (Hsp.out (by rw [hre]; exact hz0)))
        rw [hre] at HA2
        have h2 : (z == 0) = false := beq_eq_false_iff_ne.2 hz0
        have h3 : (z != 0) = true := by simp [bne, h2]
        clear Hst Hsp HA hre
        go_wp2_with fail
        refine hch.out.mono ?_
        rintro e W ⟨rfl, hW⟩
        go_wp2_with fail
        go_ret
        exact ⟨by rw [HA2.out]; rfl, hE.trans hW⟩
    · have hii : ¬ (i : Int) < (F.length : Int) := by omega
      have HA2 := Lib.hid (show allE n F = 0 by rw [HA.out, List.drop_of_length_le (by omega)]; rfl)
      clear HA
      go_wp2_with fail
      go_ret
      exact ⟨by rw [HA2.out]; rfl, hE⟩
theorem two_rowsG {W : World} {b : Nat} {v1 v2 : Value} {x y : List Int} (hx : RowR W v1 x) (hy : RowR W v2 y) (h0 : W.cell? ⟨b, 0, none⟩ = some v1) (h1 : W.cell? ⟨b, 1, none⟩ = some v2) : MatR W (.slice (some ⟨b, 0, none⟩) 2 2) [x, y] := by
  refine ⟨_, b, 0, 2, [v1, v2], rfl, Nat.le_refl _, rfl, ⟨fun _ => rfl, fun i v hv => ?_⟩, fun i a a' => ?_⟩
  · have hi : i < 2 := by have := (List.getElem?_eq_some_iff.1 hv).1; simpa using this
    rcases (show i = 0 ∨ i = 1 by omega) with rfl | rfl
    · simp at hv; rw [← hv]; exact h0
    · simp at hv; rw [← hv]; exact h1
  · have hi : i < 2 := by simpa using a
    rcases (show i = 0 ∨ i = 1 by omega) with rfl | rfl
    · exact hx
    · exact hy
def checkE (k : Int) (o r u : List Int) : Int := if k = 1 ∨ k = 2 then (if chkRow o = 0 then (if o.length ≤ 12 then allE o.length [r, u] else 4) else chkRow o) else 12
abbrev layq (k : Int) (so : Option Addr) (no co : Nat) (sr : Option Addr) (nr cr : Nat) (su : Option Addr) (nu cu : Nat) : Value := .agg #[.int .i64 k, .slice so no co, .slice sr nr cr, .slice su nu cu]
set_option maxRecDepth 100000 in
set_option maxHeartbeats 2000000 in
theorem lcheck_any {w : World} {k : Int} {so sr su : Option Addr} {no co nr cr nu cu : Nat} {o r u : List Int} (ho : RowR w (.slice so no co) o) (hr : RowR w (.slice sr nr cr) r) (hu : RowR w (.slice su nu cu) u) :
    Calls Tryz.prog 25 #[layq k so no co sr nr cr su nu cu] w fun e w' => e = .returned (.int .i64 (checkE k o r u)) ∧ Ext w w' := by
  obtain ⟨hno, -, -⟩ := ho.opened
  have hck := Lib.hid (fun W (hW : Ext w W) => rowCheck_any (ho.ext hW))
  have hall := Lib.hid (fun W b (hW : Ext w W) (h0 : W.cell? ⟨b, 0, none⟩ = some (.slice sr nr cr)) (h1 : W.cell? ⟨b, 1, none⟩ = some (.slice su nu cu)) => CheckAll_any (n := no) (two_rowsG (hr.ext hW) (hu.ext hW) h0 h1) (by simp))
  obtain ⟨z, hz⟩ : ∃ z, z = chkRow o := ⟨_, rfl⟩
  rw [← hz] at hck
  by_cases hk : k = 1 ∨ k = 2
  case neg =>
    have HP := Lib.hid (show checkE k o r u = 12 by unfold checkE; rw [if_neg hk])
    have b1 : (k != 1) = true := by simp [bne_iff_ne]; exact fun h => hk (.inl h)
    have b2 : (k != 2) = true := by simp [bne_iff_ne]; exact fun h => hk (.inr h)
    have hE1 : Ext w (w.alloc (.cells #[.int .i64 k, .slice so no co, .slice sr nr cr, .slice su nu cu] 54)) := (Ext.refl w).alloc _
    clear ho hr hu hck hall hz hno
    go_enter Tryz.func25, Tryz.ntmps25
    go_wp2_with fail
    go_ret
    exact ⟨by rw [HP.out]; rfl, hE1⟩
  case pos =>
    by_cases hz0 : z = 0
    case neg =>
      have HP := Lib.hid (show checkE k o r u = z by unfold checkE; rw [if_pos hk, ← hz, if_neg hz0])
      have h2 : (z == 0) = false := beq_eq_false_iff_ne.2 hz0
      have h3 : (z != 0) = true := by simp [bne, h2]
      clear ho hr hu hall hz hno
      rcases hk with rfl | rfl
      all_goals
        go_enter Tryz.func25, Tryz.ntmps25
        go_wp2_with fail
        refine (hck.out _ ((Ext.refl w).alloc _)).mono ?_
        rintro e W2 ⟨rfl, hE2⟩
        have hE3 := ((Ext.refl w).alloc (.cells #[.int .i64 _, .slice so no co, .slice sr nr cr, .slice su nu cu] 54)).trans hE2
        go_wp2_with fail
        go_ret
        exact ⟨by rw [HP.out]; rfl, hE3⟩
    case pos =>
      subst hz0
      by_cases h12 : no ≤ 12
      case neg =>
        have HP := Lib.hid (show checkE k o r u = 4 by unfold checkE; rw [if_pos hk, if_pos hz.symm, if_neg (by rw [← hno]; exact h12)])
        have hn : ¬ (no : Int) ≤ 12 := by omega
        have hn2 : (12 : Int) < (no : Int) := by omega
        have hn3 : (no : Int) > 12 := by omega
        clear ho hr hu hall hz hno
        rcases hk with rfl | rfl
        all_goals
          go_enter Tryz.func25, Tryz.ntmps25
          go_wp2_with fail
          generalize hW1 : World.alloc w _ = W1
          have hE1 : Ext w W1 := by rw [← hW1]; exact (Ext.refl w).alloc _
          have c0 : W1.cell? ⟨w.heap.size, 1, none⟩ = some (.slice so no co) := by rw [← hW1]; clear hW1; go_simp
          clear hW1
          refine (hck.out _ hE1).mono ?_
          rintro e W2 ⟨rfl, hE2⟩
          have d0 := hE2.cell c0
          have hE3 := hE1.trans hE2
          go_wp2_with fail
          go_ret
          exact ⟨by rw [HP.out]; rfl, hE3⟩
      case pos =>
        have HP := Lib.hid (show checkE k o r u = allE no [r, u] by unfold checkE; rw [if_pos hk, if_pos hz.symm, if_pos (by rw [← hno]; exact h12), hno])
        have hn : (no : Int) ≤ 12 := by omega
        have hn2 : ¬ (12 : Int) < (no : Int) := by omega
        have hn3 : ¬ (no : Int) > 12 := by omega
        clear ho hr hu hz hno
        rcases hk with rfl | rfl
        all_goals
          go_enter Tryz.func25, Tryz.ntmps25
          go_wp2_with fail
          generalize hW1 : World.alloc w _ = W1
          have hE1 : Ext w W1 := by rw [← hW1]; exact (Ext.refl w).alloc _
          have c0 : W1.cell? ⟨w.heap.size, 1, none⟩ = some (.slice so no co) := by rw [← hW1]; clear hW1; go_simp
          have c1 : W1.cell? ⟨w.heap.size, 2, none⟩ = some (.slice sr nr cr) := by rw [← hW1]; clear hW1; go_simp
          have c2 : W1.cell? ⟨w.heap.size, 3, none⟩ = some (.slice su nu cu) := by rw [← hW1]; clear hW1; go_simp
          clear hW1
          refine (hck.out _ hE1).mono ?_
          rintro e W2 ⟨rfl, hE2⟩
          have d0 := hE2.cell c0
          have d1 := hE2.cell c1
          have d2 := hE2.cell c2
          have dl := World.block_lt_of_cell? _ _ d0
          clear c0 c1 c2 hck
          go_wp2_with fail
          refine (hall.out _ W2.heap.size ((hE1.trans hE2).alloc _) (by go_simp) (by go_simp)).mono ?_
          rintro e W3 ⟨rfl, hE3⟩
          have hE4 := ((hE1.trans hE2).alloc (.cells #[.slice sr nr cr, .slice su nu cu] 32)).trans hE3
          obtain ⟨q, hq⟩ : ∃ q, q = allE no [r, u] := ⟨_, rfl⟩
          rw [← hq] at HP ⊢
          clear hq
          go_wp2_with fail
          go_ret
          exact ⟨by rw [HP.out]; rfl, hE4⟩
structure LayG (w : World) (k : Int) (n : Nat) (so : Option Addr) (co : Nat) (sr : Option Addr) (cr : Nat) (su : Option Addr) (cu : Nat) (o r u : List Int) : Prop where
  kind : k = 1 ∨ k = 2
  n12 : n ≤ 12
  lo : o.length = n
  lr : r.length = n
  lu : u.length = n
  eo : chkRow o = 0
  er : chkRow r = 0
  eu : chkRow u = 0
  po : RowR w (.slice so n co) o
  pr : RowR w (.slice sr n cr) r
  pu : RowR w (.slice su n cu) u
theorem LayG.ext {w w' : World} {k : Int} {n co cr cu : Nat} {so sr su : Option Addr} {o r u : List Int} (h : LayG w k n so co sr cr su cu o r u) (he : Ext w w') : LayG w' k n so co sr cr su cu o r u :=
  ⟨h.kind, h.n12, h.lo, h.lr, h.lu, h.eo, h.er, h.eu, h.po.ext he, h.pr.ext he, h.pu.ext he⟩
abbrev layg (k : Int) (n : Nat) (so : Option Addr) (co : Nat) (sr : Option Addr) (cr : Nat) (su : Option Addr) (cu : Nat) : Value := .agg #[.int .i64 k, .slice so n co, .slice sr n cr, .slice su n cu]
theorem LayG.chk {w : World} {k : Int} {n co cr cu : Nat} {so sr su : Option Addr} {o r u : List Int} (h : LayG w k n so co sr cr su cu o r u) : checkE k o r u = 0 := by
  unfold checkE
  rw [if_pos h.kind, if_pos h.eo, if_pos (by rw [h.lo]; exact h.n12), h.lo, allE, if_pos (rowE_ok h.lr h.er), allE, if_pos (rowE_ok h.lu h.eu), allE]
theorem checkE_zero {w : World} {k : Int} {no co nr cr nu cu : Nat} {so sr su : Option Addr} {o r u : List Int} (h : checkE k o r u = 0) (ho : RowR w (.slice so no co) o) (hr : RowR w (.slice sr nr cr) r) (hu : RowR w (.slice su nu cu) u) : nr = no ∧ nu = no ∧ LayG w k no so co sr cr su cu o r u := by
  unfold checkE at h
  split at h
  case isFalse => cases h
  rename_i hk
  split at h
  case isFalse h1 => exact absurd h h1
  rename_i h1
  split at h
  case isFalse => cases h
  rename_i h2
  obtain ⟨e1, -, -⟩ := ho.opened
  obtain ⟨e2, -, -⟩ := hr.opened
  obtain ⟨e3, -, -⟩ := hu.opened
  have ha := allE_zero h r (by simp)
  have hb := allE_zero h u (by simp)
  have f1 : nr = no := by rw [e2, ha.2, e1]
  have f2 : nu = no := by rw [e3, hb.2, e1]
  subst f1 f2
  exact ⟨rfl, rfl, hk, by omega, e1.symm, by omega, by omega, h1, ha.1, hb.1, ho, hr, hu⟩
theorem lcheck_g {w : World} {k : Int} {n co cr cu : Nat} {so sr su : Option Addr} {o r u : List Int} (h : LayG w k n so co sr cr su cu o r u) :
    Calls Tryz.prog 25 #[layg k n so co sr cr su cu] w fun e w' => e = .returned (.int .i64 0) ∧ Ext w w' := by
  have := lcheck_any (k := k) h.po h.pr h.pu
  rwa [h.chk] at this
theorem LayP.g {w : World} {k : Int} {n go co gr cr gu cu : Nat} {o r u : List Int} (h : LayP w k n go co gr cr gu cu o r u) : LayG w k n (some ⟨go, 0, none⟩) co (some ⟨gr, 0, none⟩) cr (some ⟨gu, 0, none⟩) cu o r u :=
  ⟨h.kind, h.n12, h.lo, h.lr, h.lu, h.eo, h.er, h.eu, by have := h.po.row; rw [h.lo] at this; exact this, by have := h.pr.row; rw [h.lr] at this; exact this, by have := h.pu.row; rw [h.lu] at this; exact this⟩
theorem copy_any {B : Nat} {w : World} {g n co go oo : Nat} {so : Option Addr} {z o : List Int} (hs : Sl w so go oo (is o)) (hl : o.length = n) (hO : OwnV 3 B w g n (is z)) (lz : z.length = n) (hinfo : (Tryz.prog.info? 3).map (·.size) = some 1) :
    ∃ w2, (Builtin.copy_ #[32, 32] 3 #[.slice (some ⟨g, 0, none⟩) n n, .slice so n co]).run Tryz.prog w = .ok (goInt n) w2 ∧ OwnV 3 B w2 g n (is o) ∧ w.grownBy w2 (some g) := by
  rcases Nat.eq_zero_or_pos n with h0 | h0
  · subst h0
    have : o = [] := List.eq_nil_of_length_eq_zero hl
    subst this
    have : z = [] := List.eq_nil_of_length_eq_zero lz
    subst this
    exact ⟨w, run_copy_none w _ _ _ _ _ _ _ _ _ _ Tryz.underlying32 hinfo rfl, hO, World.grownBy.refl _ _⟩
  · obtain rfl := hs.addr (by rw [is_length, hl]; exact h0)
    obtain ⟨cur, k1, k2, k3, k4, k5, k6⟩ := hO.parts
    have hrun := run_copy_row (P := Tryz.prog) w 32 32 3 3 g 0 n n ⟨go, oo, none⟩ n co cur 3 (is o) Tryz.underlying32 hinfo k2 (by rw [is_length, hl]; simp)
      (fun j v hj => by
        have := hs.cell j v hj
        simpa [Addr.add_lit] using this) (by rw [is_length, hl, k5]; omega) (fun v hv => by
        obtain ⟨y, _, rfl⟩ := List.mem_map.1 hv
        rfl)
    rw [is_length, hl] at hrun
    refine ⟨_, hrun, ?_, ?_⟩
    · have hdrop : cur.toList.drop (0 + n) = [] := List.drop_of_length_le (by rw [Array.length_toList, k5]; omega)
      rw [hdrop]
      refine OwnV.of k1 (setRow_heap w g cur _ 3 _ k2) (by rw [is_length, hl]; exact Nat.le_refl _) k4 (by simp [hl]) ?_
      simp only [List.take_zero, List.nil_append, List.append_nil, is_length]
      exact List.take_of_length_le (by simp)
    · exact ⟨rfl, rfl, rfl, by simp, fun k _ hk => setRow_other w g k _ (fun e => hk (by simp [e]))⟩
end Go.Proofs.YtokjolmpdfmnbaaGreatDoor
namespace Go.Proofs.YtokjolmpdfmnbaaGreatDoor
open Go.RowKit Go.Sort
set_option maxRecDepth 100000 in
set_option maxHeartbeats 1000000 in
theorem at_g {w : World} {k x y : Int} {n co cr cu : Nat} {so sr su : Option Addr} {o r u : List Int} (h : LayG w k n so co sr cr su cu o r u) (hx : -1000000 ≤ x ∧ x ≤ 1000000) (hy : -1000000 ≤ y ∧ y ≤ 1000000) :
    Calls Tryz.prog 73 #[layg k n so co sr cr su cu, .agg #[.int .i64 x, .int .i64 y]] w fun e w' => ∃ g, e = .returned (slv g n n) ∧ OwnV 3 w.heap.size w' g n (is (atL x y o r u)) ∧ Ext w w' := by
  have H := Lib.hid h
  obtain ⟨i0, hi, hz0, hz1, hz2⟩ := info_parts Tryz.infoInt
  have hinfo : (Tryz.prog.info? 3).map (·.size) = some 1 := by rw [hi]; simp [hz1]
  have Hinfo := Lib.hid hinfo
  have Hlo := Lib.hid h.lo
  have Hlr := Lib.hid h.lr
  have Hlu := Lib.hid h.lu
  have Hbo := Lib.hid (chkRow_ok h.eo).2
  have Hbr := Lib.hid (chkRow_ok h.er).2
  have Hbu := Lib.hid (chkRow_ok h.eu).2
  have hn := h.n12
  obtain ⟨hx1, hx2⟩ := hx
  obtain ⟨hy1, hy2⟩ := hy
  clear h hinfo
  go_enter Tryz.func73, Tryz.ntmps73
  go_wp2_with (at_make; refine wpList_make_full _ rfl _ _ 32 rfl w.heap.size 3 i0 (.int .i64 0) 1 Tryz.underlying32 hi hz0 hz1 .i64 .i64 _ _ n rfl rfl (by omega) (by omega) (by rw [hz2]; omega) (by unfold maxLen; omega) (by simp <;> omega) ?_; intro w1 hown1 hgrow1; have hE1 := ext_grown hgrow1; have c0 : w1.cell? ⟨w.heap.size, 1, none⟩ = some (.slice so n co) := hE1.cell (by go_simp); have c1 : w1.cell? ⟨w.heap.size, 2, none⟩ = some (.slice sr n cr) := hE1.cell (by go_simp); have c2 : w1.cell? ⟨w.heap.size, 3, none⟩ = some (.slice su n cu) := hE1.cell (by go_simp); have c3 : w1.cell? ⟨w.heap.size + 1, 0, none⟩ = some (.int .i64 x) := hE1.cell (by go_simp); have c4 : w1.cell? ⟨w.heap.size + 1, 1, none⟩ = some (.int .i64 y) := hE1.cell (by go_simp))
  have hX1 : Ext w w1 := (((Ext.refl w).alloc _).alloc _).trans hE1
  rw [show ((w.alloc (.cells #[.int .i64 k, .slice so n co, .slice sr n cr, .slice su n cu] 54)).alloc (.cells #[.int .i64 x, .int .i64 y] 68)).heap.size = w.heap.size + 1 + 1 by simp] at hown1
  obtain ⟨g, hg⟩ : ∃ g, g = w.heap.size + 1 + 1 := ⟨_, rfl⟩
  rw [← hg] at hown1 ⊢
  have hb0 : OwnV 3 w.heap.size w1 g n (is (List.replicate n 0)) := row_ownV (zero_row hown1) (by simp)
  obtain ⟨k1, -⟩ := hb0.lt
  obtain ⟨-, -, go, oo, hSo⟩ := (H.out.po.ext hX1).opened
  obtain ⟨w2, hrun, hO2, hG2⟩ := copy_any (co := co) hSo Hlo.out hb0 (by simp) Hinfo.out
  have hX2 := ext_trans_grown hX1 hG2 k1
  have hC2 : Chg (fun k => k = g) w1 w2 := Chg.of_grown hG2 rfl
  have d1 := hC2.cell (by omega) c1
  have d2 := hC2.cell (by omega) c2
  have d3 := hC2.cell (by omega) c3
  have d4 := hC2.cell (by omega) c4
  have HO2 := Lib.hid hO2
  have Hrun := Lib.hid hrun
  have hgb := hO2.lt
  have hgq1 : g ≠ w.heap.size := by omega
  have hgq2 : g ≠ w.heap.size + 1 := by omega
  have hwg : w.heap.size ≤ g := by omega
  clear hg hrun hO2 hG2 hC2 hb0 k1 hSo hown1 hgrow1 hE1 c1 c2 c3 c4
  go_wp2_with fail
  rw [Hrun.out]
  go_wp2_with fail
  obtain ⟨p, hp⟩ : ∃ p, p = w.heap.size := ⟨_, rfl⟩
  rw [← hp] at d1 d2 ⊢
  rw [← hp] at d3 d4
  have hgp : g ≠ p ∧ g ≠ p + 1 := ⟨by omega, by omega⟩
  have Hp := Lib.hid hp
  have hB := hgb.1
  clear hp Hrun
  go_loopw [17] (fun idx wr => ∃ i : Nat, i ≤ n ∧ idx = .int .i64 i ∧ Hid (OwnV 3 w.heap.size wr g n (is (atTo x y i o r u))) ∧ Hid (w2.grownBy wr (some g))) (fun idx _ => n - (intOf idx).toNat)
  case atStart => exact ⟨0, by omega, by go_num, Lib.hid (by show OwnV _ _ _ _ _ (is (atTo x y 0 o r u)); unfold atTo; simpa using HO2.out), Lib.hid (World.grownBy.refl _ _)⟩
  case round =>
    obtain ⟨i, hi', rfl, hO, hG⟩ := hrel
    generalize wr = X at *
    have hXE := ext_trans_grown hX2 hG.out hB
    by_cases hlt : i < n
    · have hii : (i : Int) < (n : Int) := by omega
      have hC : Chg (fun k => k = g) w2 X := Chg.of_grown hG.out rfl
      have e1 := hC.cell (by omega) d1
      have e2 := hC.cell (by omega) d2
      have e3 := hC.cell (by omega) d3
      have e4 := hC.cell (by omega) d4
      have hlen := atTo_length (x := x) (y := y) (i := i) Hlo.out Hlr.out Hlu.out (by omega)
      have c1 := hO.out.cell (j := i) (by rw [is_length, hlen]; exact hlt)
      obtain ⟨a, ha⟩ : ∃ a, a = o.getD i 0 := ⟨_, rfl⟩
      obtain ⟨b, hb⟩ : ∃ b, b = r.getD i 0 := ⟨_, rfl⟩
      obtain ⟨c, hc⟩ : ∃ c, c = u.getD i 0 := ⟨_, rfl⟩
      have h1 : (is (atTo x y i o r u))[i]'(by rw [is_length, hlen]; exact hlt) = .int .i64 a := by
        rw [ha, ← atTo_at (x := x) (y := y) Hlo.out Hlr.out Hlu.out hlt, getD_get (by omega)]; simp [is]
      rw [h1] at c1
      obtain ⟨-, -, gr, orr, hSr⟩ := (H.out.pr.ext hXE).opened
      obtain ⟨-, -, gu, ou, hSu⟩ := (H.out.pu.ext hXE).opened
      have hsr := hSr.addr (by rw [is_length, Hlr.out]; omega)
      have hsu := hSu.addr (by rw [is_length, Hlu.out]; omega)
      rw [hsr] at e1
      rw [hsu] at e2
      have c2 := hSr.cell i (.int .i64 b) (by rw [hb, getD_get (by rw [Hlr.out]; exact hlt)]; exact is_get (by rw [Hlr.out]; exact hlt))
      have c3 := hSu.cell i (.int .i64 c) (by rw [hc, getD_get (by rw [Hlu.out]; exact hlt)]; exact is_get (by rw [Hlu.out]; exact hlt))
      clear hSr hSu hsr hsu
      have ba : -1000000000 ≤ a ∧ a ≤ 1000000000 := by rw [ha, getD_get (by rw [Hlo.out]; exact hlt)]; exact Hbo.out _ (List.getElem_mem _)
      have bb : -1000000000 ≤ b ∧ b ≤ 1000000000 := by rw [hb, getD_get (by rw [Hlr.out]; exact hlt)]; exact Hbr.out _ (List.getElem_mem _)
      have bc : -1000000000 ≤ c ∧ c ≤ 1000000000 := by rw [hc, getD_get (by rw [Hlu.out]; exact hlt)]; exact Hbu.out _ (List.getElem_mem _)
      have m1 := mul_i64 ⟨hx1, hx2⟩ bb
      have m2 := mul_i64 ⟨hy1, hy2⟩ bc
      have w1' : IntKind.i64.wrap (x * b) = x * b := IntWalk.i64_in _ (by omega)
      have w2' : IntKind.i64.wrap (y * c) = y * c := IntWalk.i64_in _ (by omega)
      have w3' : IntKind.i64.wrap (x * b + y * c) = x * b + y * c := IntWalk.i64_in _ (by omega)
      have w4' : IntKind.i64.wrap (a + (x * b + y * c)) = a + (x * b + y * c) := IntWalk.i64_in _ (by omega)
      have Hst := Lib.hid (atTo_step (x := x) (y := y) (i := i) Hlo.out Hlr.out Hlu.out hlt)
      rw [← ha, ← hb, ← hc] at Hst
      have k1 := cell_regrown e1
      have k2 := cell_regrown e2
      have k3 := cell_regrown e3
      have k4 := cell_regrown e4
      have k5 := cell_regrown c1
      have k6 := cell_regrown c2
      have k7 := cell_regrown c3
      have q1 := c1
      clear ha hb hc h1 hlen ba bb bc m1 m2
      go_wp2_with fail
      refine wp_region_quiet_tail 22 (by kernel_rfl) (by kernel_rfl) ?_
      simp only [List.take_succ_cons, List.take_zero, List.drop_succ_cons, List.drop_zero]
      repeat (go_big_quiet_step (fail))
      refine wpQuiet_nil ?_
      intro _ hw'
      obtain ⟨⟨dq, osq⟩, hw''⟩ := hw'
      subst hw''
      have hE5 := ext_regrown X dq osq
      have d5 := hE5.cell q1
      clear k1 k2 k3 k4 k5 k6 k7
      generalize grow (redrawn X dq) osq = w5 at *
      have f5 := (hO.out.ext hE5).frozen i
      obtain ⟨hO6, hG6⟩ := (hO.out.ext hE5).set i (.int .i64 (a + (x * b + y * c)))
      rw [← is_set, ← Hst.out] at hO6
      have HO6 := Lib.hid hO6
      have HG6 := Lib.hid (grown_trans hG.out (grown_trans (grown_ext hE5 (some g)) hG6))
      clear hO6 hG6 hE5
      go_wp2_with fail
      go_roundw
      case rel => exact ⟨i + 1, by omega, by go_num, HO6, HG6⟩
      case measure => simp [intOf] <;> omega
    · have hii : ¬ (i : Int) < (n : Int) := by omega
      have hin : i = n := by omega
      have hall : atTo x y i o r u = atL x y o r u := by
        unfold atTo
        rw [List.take_of_length_le (by rw [atL_length _ _ _ _ _ (by rw [Hlo.out, Hlr.out]) (by rw [Hlo.out, Hlu.out]), Hlo.out]; omega), List.drop_of_length_le (by rw [Hlo.out]; omega), List.append_nil]
      rw [hall] at hO
      clear hall
      go_wp2_with fail
      go_ret
      exact ⟨g, rfl, hO.out, hXE⟩
end Go.Proofs.YtokjolmpdfmnbaaGreatDoor
