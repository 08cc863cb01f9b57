/- Part 21 of the proof of the claim: contracts of the functions that it reaches, and plain laws; no condition. -/
import Derived.Test.YtcklioolpicmcaaGreatDoorV20
import Derived.BigQuiet
import Derived.Test.YtcklioolpicmcaaGreatDoorV13
import Derived.OrdersHeld
/- schismaref08: Combine, the walk; Columns -/
namespace Go.Proofs.YtcklioolpicmcaaGreatDoor
open Go.RowKit Go.Sort
set_option maxRecDepth 100000 in
set_option maxHeartbeats 2000000 in
theorem Combine08_any {w : World} {vm vl : Value} {M : Mx} {l : List Int} {c : Nat} (hM : MatR w vm M) (hl : RowR w vl l) (h : CbOk M l c) :
    Calls Tryz.prog 17 #[vm, vl, .int .i64 c] w fun e w' => ∃ v, e = .returned v ∧ RowV w.heap.size w' v ((List.range c).map (cmb M (vr l))) ∧ Ext w w' := by
  obtain ⟨sa, gb, go, cap, vs, rfl, hcap, hvl, hS, hr⟩ := id hM
  obtain ⟨sl, bl, ol, cl, rfl, hcl, hSl⟩ := hl
  obtain ⟨i0, hi, hz0, hz1, hz2⟩ := info_parts Tryz.infoInt
  have H := Lib.hid h
  obtain ⟨N, hN⟩ : ∃ N, N = M.length := ⟨_, rfl⟩
  have hN3 : N ≤ 3 := by rw [hN]; exact h.n3
  have hc3 := h.c3
  have hll : l.length = N := by rw [hN]; exact h.len
  have HrowM := Lib.hid (fun k (hk : k < M.length) => MatR.row hS hvl hr hk)
  have Haddr := Lib.hid hS.addr
  have Hvl := Lib.hid hvl
  have HN := Lib.hid hN
  have HSl := Lib.hid hSl
  have Hll := Lib.hid hll
  rw [hll] at hcl ⊢
  rw [← hN] at hcap ⊢
  clear hM h hN hll hS hr hvl hSl
  go_enter Tryz.func17, Tryz.ntmps17
  go_wp2_with (at_make; refine wpList_make_full _ rfl _ _ 32 rfl w.heap.size 3 i0 (.int .i64 0) 1 Tryz.underlying32 hi hz0 hz1 .i64 .i64 _ _ c rfl rfl (by omega) (by omega) (by rw [hz2]; omega) (by unfold maxLen; omega) (Nat.le_refl _) ?_; intro w1 hown1 hgrow1)
  have hE1 := ext_grown hgrow1
  obtain ⟨g, hg⟩ : ∃ g, g = w.heap.size := ⟨_, rfl⟩
  have hb0 : OwnV 3 w.heap.size w1 w.heap.size c (is (List.replicate c 0)) := row_ownV (zero_row hown1) (by simp)
  rw [← hg] at hb0 ⊢
  have HO1 := Lib.hid hb0
  have hgle : w.heap.size ≤ g := by omega
  clear hown1 hgrow1 hb0 hg hi hz0 hz1 hz2
  go_wp2_with fail
  go_loopw [8] (fun kv wr => ∃ k : Nat, k ≤ N ∧ kv = .int .i64 k ∧ Hid (OwnV 3 g wr g c (is (cbTo M l c k 0))) ∧ Ext w wr) (fun kv _ => N - (intOf kv).toNat)
  case atStart => exact ⟨0, by omega, by go_num, Lib.hid (by rw [cbTo_zero]; exact HO1.out), hE1⟩
  case round =>
    obtain ⟨k, hk, rfl, hO, hE⟩ := hrel
    generalize wr = X at *
    by_cases hlt : k < N
    · have hki : (k : Int) < (N : Int) := by omega
      have hkM : k < M.length := by rw [← HN.out]; exact hlt
      obtain ⟨sr, br, or, cr, hcell, hcr, hSr⟩ := HrowM.out k hkM
      have ha := Haddr.out (by rw [Hvl.out]; omega)
      obtain rfl := ha
      have hrl : M[k].length = c := H.out.rect _ (List.getElem_mem hkM)
      rw [hrl] at hcell hcr
      have HSr := Lib.hid hSr
      have Hrl := Lib.hid hrl
      have hcX := hE.cell hcell
      clear hSr hrl
      go_wp2_with fail
      go_loopw [9] (fun jv wr => ∃ j : Nat, j ≤ c ∧ jv = .int .i64 j ∧ Hid (OwnV 3 g wr g c (is (cbTo M l c k j))) ∧ Ext w wr) (fun jv _ => c - (intOf jv).toNat)
      case atStart => exact ⟨0, by omega, by go_num, hO, hE⟩
      case round =>
        obtain ⟨j, hj, rfl, hO, hE⟩ := hrel
        generalize wr = Y at *
        replace hcX := hE.cell hcell
        by_cases hlt2 : j < c
        · have hji : (j : Int) < (c : Int) := by omega
          have c1 := hO.out.cell (j := j) (by rw [is_length, cbTo_length]; exact hlt2)
          obtain ⟨a, ha⟩ : ∃ a, a = sumZ (fun t => vr l t * eM M t j) k := ⟨_, rfl⟩
          have h1 : (is (cbTo M l c k j))[j]'(by rw [is_length, cbTo_length]; exact hlt2) = .int .i64 a := by
            have := cbTo_get M l (k := k) (j := j) hlt2
            rw [if_neg (by omega), Int.add_zero] at this
            rw [ha, ← this]; simp [is]
          rw [h1] at c1
          obtain ⟨b, hb⟩ : ∃ b, b = vr l k := ⟨_, rfl⟩
          obtain ⟨d, hd⟩ : ∃ d, d = eM M k j := ⟨_, rfl⟩
          have c2 := (HSl.out.ext hE).cell k (.int .i64 b) (by
            have hkl : k < l.length := by rw [Hll.out]; exact hlt
            rw [hb, is_get hkl]; unfold vr; rw [getD_get hkl])
          have c3 := (HSr.out.ext hE).cell j (.int .i64 d) (by
            have hjl : j < M[k].length := by rw [Hrl.out]; exact hlt2
            rw [hd, is_get hjl]; unfold eM; rw [getD_get hkM, getD_get hjl])
          obtain rfl := HSl.out.addr (by rw [is_length, Hll.out]; omega)
          obtain rfl := HSr.out.addr (by rw [is_length, Hrl.out]; omega)
          have m1 := H.out.term k j
          have m2 := H.out.sum j (k := k) (by omega)
          have Hst := Lib.hid (cbTo_step M l (c := c) (k := k) (j := j))
          rw [← ha, ← hb, ← hd] at Hst
          rw [← hb, ← hd] at m1
          rw [← ha] at m2
          have w1' : IntKind.i64.wrap (b * d) = b * d := IntWalk.i64_in _ (by omega)
          have w2' : IntKind.i64.wrap (a + b * d) = a + b * d := IntWalk.i64_in _ (by omega)
          have k1 := cell_regrown c1
          have k2 := cell_regrown c2
          have k3 := cell_regrown c3
          have k4 := cell_regrown hcX
          have q1 := c1
          clear ha hb hd h1 m1 m2
          go_wp2_with fail
          refine wp_region_quiet_tail 18 (by kernel_rfl) (by kernel_rfl) ?_
          simp only [List.take_succ_cons, List.take_zero, List.drop_succ_cons, List.drop_zero]
          repeat (go_big_quiet_step (fail))
          refine wpQuiet_nil ?_
          intro _ hw'
          obtain ⟨⟨dq, osq⟩, hw''⟩ := hw'
          subst hw''
          have hE5 := ext_regrown Y dq osq
          have d5 := hE5.cell q1
          clear k1 k2 k3 k4
          generalize grow (redrawn Y dq) osq = w5 at *
          have f5 := (hO.out.ext hE5).frozen j
          obtain ⟨hO6, hG6⟩ := (hO.out.ext hE5).set j (.int .i64 (a + b * d))
          rw [← is_set, Hst.out] at hO6
          have HO6 := Lib.hid hO6
          have hE6 := Lib.hid (ext_trans_grown (hE.trans hE5) hG6 hgle)
          clear hO6 hG6 hE5
          go_wp2_with fail
          go_roundw
          case rel => exact ⟨j + 1, by omega, by go_num, HO6, hE6.out⟩
          case measure => simp [intOf] <;> omega
        · have hje : j = c := by omega
          have hji : ¬ (j : Int) < (c : Int) := by omega
          have HO7 := Lib.hid (show OwnV 3 g Y g c (is (cbTo M l c (k + 1) 0)) by have h2 := hO.out; rw [hje, cbTo_next] at h2; exact h2)
          clear hje
          go_wp2_with fail
          go_roundw
          case rel => exact ⟨k + 1, by omega, by go_num, HO7, hE⟩
          case measure => simp [intOf] <;> omega
    · have hke : k = N := by omega
      have hki : ¬ (k : Int) < (N : Int) := by omega
      have Hres := Lib.hid (show RowV w.heap.size X (.slice (some ⟨g, 0, none⟩) c c) ((List.range c).map (cmb M (vr l))) by
        have h2 := hO.out
        rw [hke, HN.out, cb_all] at h2
        have h3 := h2.mono hgle
        unfold OwnV at h3
        unfold RowV
        simpa using h3)
      clear hke
      go_wp2_with fail
      go_ret
      exact ⟨_, rfl, Hres.out, hE⟩
end Go.Proofs.YtcklioolpicmcaaGreatDoor
/- schismalaw08: Make; schismaref08: Columns -/
namespace Go.Proofs.YtcklioolpicmcaaGreatDoor
open Go.RowKit Go.Sort
/-- The cells of a shape: rows, columns, nine elements. -/
structure ShapeV (cs : Array Value) (R C : Nat) (es : List Int) : Prop where
  sz : cs.size = 11
  c0 : cs[0]? = some (.int .u8 R)
  c1 : cs[1]? = some (.int .u8 C)
  len : es.length = 9
  ent : ∀ j, j < 9 → cs[2 + j]? = some (.int .i8 (es.getD j 0))
  rng : ∀ j, j < 9 → -128 ≤ es.getD j 0 ∧ es.getD j 0 ≤ 127
  r8 : R < 256
  c8 : C < 256
def shE (es : List Int) (i k : Nat) : Int := (es.getD (3 * i + k) 0).tmod 10
def shRow (es : List Int) (n i : Nat) : List Int := (List.range n).map (shE es i)
def shM (es : List Int) (n i : Nat) : Mx := (List.range i).map (shRow es n)
def shTo (es : List Int) (n i k : Nat) : List Int := (List.range k).map (shE es i) ++ List.replicate (n - k) 0
theorem shTo_zero (es : List Int) (n i : Nat) : shTo es n i 0 = List.replicate n 0 := by simp [shTo]
theorem shTo_all (es : List Int) (n i : Nat) : shTo es n i n = shRow es n i := by simp [shTo, shRow]
theorem shTo_length (es : List Int) {n i k : Nat} (h : k ≤ n) : (shTo es n i k).length = n := by simp [shTo]; omega
theorem shTo_set (es : List Int) {n i k : Nat} (h : k < n) : (shTo es n i k).set k (shE es i k) = shTo es n i (k + 1) := by
  unfold shTo
  rw [List.set_append_right _ _ (by simp), List.range_succ, List.map_append, List.append_assoc]
  congr 1
  simp only [List.length_map, List.length_range, Nat.sub_self]
  rw [show n - k = (n - (k + 1)) + 1 by omega, List.replicate_succ, List.set_cons_zero]
  rfl
theorem shM_snoc (es : List Int) (n i : Nat) : shM es n i ++ [shRow es n i] = shM es n (i + 1) := by
  unfold shM; rw [List.range_succ, List.map_append]; rfl
@[simp] theorem shM_length (es : List Int) (n i : Nat) : (shM es n i).length = i := by simp [shM]
theorem shM_rect (es : List Int) (n i : Nat) : Rect n (shM es n i) := fun r hr => by
  obtain ⟨t, _, rfl⟩ := List.mem_map.1 hr
  simp [shRow]
theorem shE_b (es : List Int) (i k : Nat) : -9 ≤ shE es i k ∧ shE es i k ≤ 9 := by
  unfold shE
  generalize es.getD (3 * i + k) 0 = z
  have h1 := Int.tmod_lt_of_pos z (b := 10) (by omega)
  have h2 := Int.lt_tmod_of_pos z (b := 10) (by omega)
  omega
theorem shM_b (es : List Int) (n i : Nat) : ∀ r ∈ shM es n i, ∀ z ∈ r, -9 ≤ z ∧ z ≤ 9 := fun r hr z hz => by
  obtain ⟨t, _, rfl⟩ := List.mem_map.1 hr
  obtain ⟨k, _, rfl⟩ := List.mem_map.1 hz
  exact shE_b es t k
theorem sh_cell {w : World} {cs : Array Value} {T : TypeId} {j : Nat} {x : Value} (h : cs[j]? = some x) : (w.alloc (.cells cs T)).cell? ⟨w.heap.size, j, none⟩ = some x := by
  have e : (w.alloc (.cells cs T)).cell? ⟨w.heap.size, j, none⟩ = cs[j]? := by go_simp
  rw [e, h]
set_option maxRecDepth 100000 in
set_option maxHeartbeats 2000000 in
theorem Make08_any {w : World} {cs : Array Value} {R C : Nat} {es : List Int} (hG : ShapeV cs R C es) :
    Calls Tryz.prog 16 #[.agg cs] w fun e w' => ∃ v, e = .returned v ∧ MatO w.heap.size w' v (shM es (C % 4) (R % 4)) ∧ Ext w w' := by
  have h0 := sh_cell (w := w) (T := 25) hG.c0
  have h1 := sh_cell (w := w) (T := 25) hG.c1
  have Hent := Lib.hid (fun j hj => sh_cell (w := w) (T := 25) (hG.ent j hj))
  have Hrng := Lib.hid hG.rng
  have hR := hG.r8
  have hC := hG.c8
  have hEw := (Ext.refl w).alloc (.cells cs 25)
  have hsz : w.heap.size < (w.alloc (.cells cs 25)).heap.size := by simp
  obtain ⟨i0, hi, hz0, hz1, hz2⟩ := info_parts Tryz.infoInt
  obtain ⟨m, hm⟩ : ∃ m, m = R % 4 := ⟨_, rfl⟩
  obtain ⟨n, hn⟩ : ∃ n, n = C % 4 := ⟨_, rfl⟩
  have hmI : (R : Int) % 4 = (m : Int) := by omega
  have hnI : (C : Int) % 4 = (n : Int) := by omega
  have hm4 : m < 4 := by omega
  have hn4 : n < 4 := by omega
  rw [← hm, ← hn]
  clear hm hn hG
  go_enter Tryz.func16, Tryz.ntmps16
  go_wp2_with fail
  generalize (w.alloc (.cells cs 25)) = V at *
  go_loopw [3, 4] (fun out idx wr => ∃ i : Nat, i ≤ m ∧ idx = .int .i64 i ∧ Hid (MatO V.heap.size wr out (shM es n i)) ∧ Ext V wr) (fun _ idx _ => m - (intOf idx).toNat)
  case atStart => exact ⟨0, by omega, by go_num, Lib.hid (MatO.nil _ _), Ext.refl _⟩
  case round =>
    obtain ⟨i, hi', rfl, hO, hE⟩ := hrel
    generalize wr = X at *
    have h0X := hE.cell h0
    have h1X := hE.cell h1
    by_cases hlt : i < m
    · have hii : (i : Int) < (m : Int) := by omega
      go_wp2_with (at_make; refine wpList_make_full _ rfl _ _ 32 rfl X.heap.size 3 i0 (.int .i64 0) 1 Tryz.underlying32 hi hz0 hz1 .i64 .i64 _ _ n rfl rfl (by omega) (by omega) (by rw [hz2]; omega) (by unfold maxLen; omega) (Nat.le_refl _) ?_; intro w1 hown1 hgrow1)
      have hEm := ext_grown hgrow1
      obtain ⟨gx, hgx⟩ : ∃ gx, gx = X.heap.size := ⟨_, rfl⟩
      have hb0 : OwnV 3 X.heap.size w1 X.heap.size n (is (List.replicate n 0)) := row_ownV (zero_row hown1) (by simp)
      rw [← hgx] at hb0 ⊢
      have HO1 := Lib.hid hb0
      have hgle : X.heap.size ≤ gx := by omega
      have hVX := hE.size
      clear hown1 hgrow1 hb0 hgx
      go_wp2_with fail
      go_loopw [6] (fun kv wr => ∃ k : Nat, k ≤ n ∧ kv = .int .i64 k ∧ Hid (OwnV 3 gx wr gx n (is (shTo es n i k))) ∧ Ext X wr) (fun kv _ => n - (intOf kv).toNat)
      case atStart => exact ⟨0, by omega, by go_num, Lib.hid (by rw [shTo_zero]; exact HO1.out), hEm⟩
      case round =>
        obtain ⟨k, hk, rfl, hI, hEX⟩ := hrel
        generalize wr = Y at *
        by_cases hlt2 : k < n
        · have hki : (k : Int) < (n : Int) := by omega
          obtain ⟨z, hz⟩ : ∃ z, z = es.getD (3 * i + k) 0 := ⟨_, rfl⟩
          have cz := (hE.trans hEX).cell (Hent.out (3 * i + k) (by omega))
          rw [← hz] at cz
          have hzr := Hrng.out (3 * i + k) (by omega)
          rw [← hz] at hzr
          have hset := shTo_set es (i := i) hlt2
          have he : shE es i k = z.tmod 10 := by unfold shE; rw [hz]
          rw [he] at hset
          have Hset := Lib.hid hset
          have hi3 : (3 * (i : Int) + k) < 9 := by omega
          have hq : -9 ≤ z.tmod 10 ∧ z.tmod 10 ≤ 9 := by rw [← he]; exact shE_b es i k
          obtain ⟨u, hu⟩ := (show ∃ u, Y.cell? ⟨gx, k, none⟩ = some u from ⟨_, hI.out.cell (j := k) (by rw [is_length, shTo_length es (by omega)]; exact hlt2)⟩)
          have fz := hI.out.frozen k
          obtain ⟨hO6, hG6⟩ := hI.out.set k (.int .i64 (z.tmod 10))
          rw [← is_set, Hset.out] at hO6
          have HO6 := Lib.hid hO6
          have hE6 := Lib.hid (ext_trans_grown hEX hG6 hgle)
          clear hO6 hG6 hz hset he
          go_wp2_with fail
          go_roundw
          case rel => exact ⟨k + 1, by omega, by go_num, HO6, hE6.out⟩
          case measure => simp [intOf] <;> omega
        · have hke : k = n := by omega
          have hki : ¬ (k : Int) < (n : Int) := by omega
          have HR := Lib.hid (show RowV V.heap.size Y (.slice (some ⟨gx, 0, none⟩) n n) (shRow es n i) by
            have h2 := hI.out
            rw [hke, shTo_all] at h2
            have h3 := h2.mono (show V.heap.size ≤ gx by omega)
            unfold OwnV at h3
            unfold RowV
            simpa [shRow] using h3)
          have HOy := Lib.hid (hO.out.ext hEX)
          have hEY := hE.trans hEX
          have hVY := hEY.size
          have HM9 := Lib.hid (show (shM es n i).length ≤ 1000000000 by rw [shM_length]; omega)
          have hMk := shM_length es n i
          have Hsn := Lib.hid (shM_snoc es n i)
          clear hke hI HO1 hEX
          generalize shM es n i = Mi at *
          go_wp2_with (at_builtin; refine app_mat rfl _ _ rfl rfl (HOy.out.ext ((Ext.refl _).alloc _)) rfl (b := Y.heap.size) (by go_simp) (HR.out.ext ((Ext.refl _).alloc _)) HM9.out (by simp; omega) ?_; intro gg cap2 w8 hO8 hB8 hG8; rw [hMk] at hO8 ⊢)
          have hE8 : Ext V w8 := Below.trans (hEY.alloc (.cells #[.slice (some ⟨gx, 0, none⟩) n n] 32)) hB8
          rw [Hsn.out] at hO8
          have hO9 := Lib.hid hO8
          clear hG8 hB8 hO8
          go_wp2_with fail
          go_roundw
          case rel => exact ⟨i + 1, by omega, by go_num, hO9, hE8⟩
          case measure => simp [intOf] <;> omega
    · have hie : i = m := by omega
      have hii : ¬ (i : Int) < (m : Int) := by omega
      subst hie
      have Hres := Lib.hid (show MatO w.heap.size X _ (shM es n i) from hO.out.mono (by omega))
      go_wp2_with fail
      go_ret
      exact ⟨_, rfl, Hres.out, hEw.trans hE⟩
end Go.Proofs.YtcklioolpicmcaaGreatDoor
/- schismaref08: Columns -/
namespace Go.Proofs.YtcklioolpicmcaaGreatDoor
open Go.RowKit Go.Sort
theorem Columns08_any {w : World} {vm : Value} {M : Mx} (hM : MatR w vm M) :
    Calls Tryz.prog 19 #[vm] w fun e w' => e = .returned (.int .i64 (ncols M : Nat)) ∧ Ext w w' := by
  obtain ⟨sa, gb, go, cap, vs, rfl, hcap, hvl, hS, hr⟩ := id hM
  rcases Nat.eq_zero_or_pos M.length with h0 | h0
  · have hn : ncols M = 0 := by
      have : M = [] := List.length_eq_zero_iff.1 h0
      rw [this]; rfl
    rw [hn, h0]
    clear hS hr hvl hM
    go_enter Tryz.func19, Tryz.ntmps19
    go_wp2_with fail
    go_ret
    exact ⟨rfl, Ext.refl _⟩
  · obtain ⟨sr, br, or, cr, hrow, _, _⟩ := MatR.row hS hvl hr h0
    have hn : M[0].length = ncols M := by unfold ncols; rw [getD_get h0]
    rw [hn, Nat.add_zero] at hrow
    obtain rfl := hS.addr (by omega)
    have hl0 : ((M.length : Int) == 0) = false := beq_eq_false_iff_ne.2 (by omega)
    have hl1 : M.length ≠ 0 := by omega
    have hl2 : (0 : Int) < (M.length : Int) := by omega
    rename_i hk9 hk8
    clear hk9 hk8 hS hr hvl hM hn hcap h0
    generalize ncols M = c at *
    generalize M.length = N at *
    go_enter Tryz.func19, Tryz.ntmps19
    go_wp2_with fail
    go_ret
    exact ⟨rfl, Ext.refl _⟩
theorem Solve_nil {w : World} {sa : Option Addr} {cap : Nat} {vb : Value} {b : List Int} (hb : RowR w vb b) (hs0 : sizeE [] b = 0) (hl : b.length ≤ 64) :
    Calls Tryz.prog 20 #[.slice sa 0 cap, vb] w fun e w' => e = .returned (.tuple #[.slice none 0 0, .bool (zeroB b), .int .i64 0]) ∧ Ext w w' := by
  have hM : MatR w (.slice sa 0 cap) [] := ⟨sa, 0, 0, cap, [], rfl, Nat.zero_le _, rfl, Sl.nil _ _ _ _, fun i h => by simp at h⟩
  have hM' : MatR w (.slice none 0 0) [] := ⟨none, 0, 0, 0, [], rfl, Nat.zero_le _, rfl, Sl.nil _ _ _ _, fun i h => by simp at h⟩
  have hsz := Lib.hid (sized_any hM hb)
  rw [hs0] at hsz
  have hz := Lib.hid (fun W (hW : Ext w W) => isZero_any (hb.ext hW) (by omega))
  clear hM hM' hb hs0 hl
  generalize zeroB b = z at *
  go_enter Tryz.func20, Tryz.ntmps20
  go_wp2_with fail
  refine hsz.out.mono ?_
  rintro e w1 ⟨rfl, hE1⟩
  go_wp2_with fail
  refine (hz.out w1 hE1).mono ?_
  rintro e w2 ⟨rfl, hE2⟩
  go_wp2_with fail
  go_ret3
  exact ⟨rfl, hE1.trans hE2⟩
end Go.Proofs.YtcklioolpicmcaaGreatDoor
/- decimal.Gcd, Lcm; whole.gcd, Gcd, Lcm -/
namespace Go.Proofs.YtcklioolpicmcaaGreatDoor
open Go.RowKit Go.Sort
theorem I_nat (u : Nat) : I (u : Int) = D u := by unfold I D; rw [itoa_nat]
set_option maxHeartbeats 1000000 in
theorem dGcd_any {u v : Nat} (hu : Lib.nDigits u < LIM) (hv : Lib.nDigits v < LIM) {w : World} (hL : Laid w) :
    Calls Tryz.prog 168 #[D u, D v] w fun e w' => e = .returned (D (Nat.gcd u v)) ∧ Ext w w' := by
  have HL := Lib.hid hL
  obtain ⟨g, hg⟩ : ∃ g, g = Nat.gcd u v := ⟨_, rfl⟩
  have H0 := Lib.hid (⟨hu, hv, hg.symm⟩ : Lib.nDigits u < LIM ∧ Lib.nDigits v < LIM ∧ Nat.gcd u v = g)
  rw [← hg]
  clear hL hu hv hg
  go_enter Tryz.func168, Tryz.ntmps168
  go_wp2_with fail
  go_loopg [0, 1, 5, 6, 7] v (fun k av bv _ _ _ wr => ∃ (x y : Nat), av = D x ∧ bv = D y ∧ k = y ∧ Hid (Lib.nDigits x < LIM ∧ Lib.nDigits y < LIM ∧ Nat.gcd x y = g) ∧ Ext w wr)
  case atStart => exact ⟨u, v, rfl, rfl, rfl, Lib.hid ⟨H0.out.1, H0.out.2.1, H0.out.2.2⟩, Ext.refl _⟩
  case round =>
    obtain ⟨x, y, rfl, rfl, rfl, HK, hE⟩ := hrel
    generalize wr = V at *
    by_cases hy : gk = 0
    · have hvz : (Lib.decDigits gk == [48]) = true := by rw [dec_eq_zero, decide_eq_true hy]
      have Hg := Lib.hid (show g = x by have := HK.out.2.2; rw [hy, Nat.gcd_zero_right] at this; exact this.symm)
      clear hy
      go_wp2_with fail
      go_ret
      exact ⟨ret_val (by rw [Hg.out]; rfl), hE⟩
    · have hvz : (Lib.decDigits gk == [48]) = false := by rw [dec_eq_zero, decide_eq_false hy]
      have hdm := Lib.hid (dDivMod_any HK.out.1 HK.out.2.1 hy (HL.out.ext hE))
      have Hm := Lib.hid (Nat.mod_lt x (Nat.pos_of_ne_zero hy))
      have HK2 := Lib.hid (show Lib.nDigits gk < LIM ∧ Lib.nDigits (x % gk) < LIM ∧ Nat.gcd gk (x % gk) = g from ⟨HK.out.2.1, Nat.lt_of_le_of_lt (nDigits_mono (Nat.le_of_lt Hm.out)) HK.out.2.1, by rw [← HK.out.2.2, Nat.gcd_comm gk, ← Nat.gcd_rec, Nat.gcd_comm]⟩)
      generalize x % gk = r at *
      clear hy HK
      go_wp2_with fail
      refine hdm.out.mono ?_
      rintro e w1 ⟨rfl, hE1⟩
      go_wp2_with fail
      go_roundg r
      case measure => exact Hm.out
      case rel => exact ⟨gk, r, rfl, rfl, rfl, HK2, hE.trans hE1⟩
theorem dLcm_any {u v : Nat} (hu0 : u ≠ 0) (hv0 : v ≠ 0) (huv : Lib.nDigits u + Lib.nDigits v < LIM) {w : World} (hL : Laid w) :
    Calls Tryz.prog 126 #[D u, D v] w fun e w' => e = .returned (D (Nat.lcm u v)) ∧ Ext w w' := by
  have HL := Lib.hid hL
  have hvz : (Lib.decDigits v == [48]) = false := by rw [dec_eq_zero, decide_eq_false hv0]
  have huz : (Lib.decDigits u == [48]) = false := by rw [dec_eq_zero, decide_eq_false hu0]
  have hgp : Nat.gcd u v ≠ 0 := Nat.gcd_ne_zero_left hu0
  have hgl : Nat.gcd u v ≤ u := Nat.gcd_le_left _ (by omega)
  have pu := Lib.nDigits_pos u
  have pv := Lib.nDigits_pos v
  have hg := Lib.hid (dGcd_any (u := u) (v := v) (by omega) (by omega) hL)
  have hd := Lib.hid (fun w hL => dDivMod_any (u := u) (v := Nat.gcd u v) (w := w) (by omega) (by have := nDigits_mono hgl; omega) hgp hL)
  have hm := Lib.hid (fun w hL => dMul_any (u := u / Nat.gcd u v) (v := v) (w := w) (by have := nDigits_mono (Nat.div_le_self u (Nat.gcd u v)); omega) hL)
  have He := Lib.hid (show u / Nat.gcd u v * v = Nat.lcm u v by
    rw [Nat.lcm, Nat.div_mul_right_comm (Nat.gcd_dvd_left u v)])
  rw [He.out] at hm
  clear hu0 hv0 huv hgp hgl pu pv hL He
  generalize Nat.gcd u v = g at *
  generalize Nat.lcm u v = L at *
  generalize u / g = q at *
  generalize u % g = r at *
  go_enter Tryz.func126, Tryz.ntmps126
  go_wp2_with fail
  refine hg.out.mono ?_
  rintro e w1 ⟨rfl, hE1⟩
  go_wp2_with fail
  refine (hd.out _ (HL.out.ext hE1)).mono ?_
  rintro e w2 ⟨rfl, hE2⟩
  go_wp2_with fail
  refine (hm.out _ (HL.out.ext (hE1.trans hE2))).mono ?_
  rintro e w3 ⟨rfl, hE3⟩
  go_wp2_with fail
  go_ret
  exact ⟨rfl, (hE1.trans hE2).trans hE3⟩
theorem wgcd_any {u v : Nat} (hu : u < 1000000000000000000) (hv : v < 1000000000000000000) (w : World) :
    Calls Tryz.prog 194 #[.int .i64 u, .int .i64 v] w fun e w' => e = .returned (.int .i64 (Nat.gcd u v : Nat)) ∧ Ext w w' := by
  obtain ⟨g, hg⟩ : ∃ g, g = Nat.gcd u v := ⟨_, rfl⟩
  have H0 := Lib.hid hg.symm
  rw [← hg]
  clear hg
  go_enter Tryz.func194, Tryz.ntmps194
  go_wp2_with fail
  go_loopg [0, 1] v (fun k av bv wr => ∃ (x y : Nat), av = .int .i64 x ∧ bv = .int .i64 y ∧ k = y ∧ x < 1000000000000000000 ∧ y < 1000000000000000000 ∧ Hid (Nat.gcd x y = g) ∧ Ext w wr)
  case atStart => exact ⟨u, v, rfl, rfl, rfl, hu, hv, H0, Ext.refl _⟩
  case round =>
    obtain ⟨x, y, rfl, rfl, rfl, hx, hy, HK, hE⟩ := hrel
    generalize wr = V at *
    by_cases hz : gk = 0
    · subst hz
      have Hg := Lib.hid (show g = x by have := HK.out; rw [Nat.gcd_zero_right] at this; exact this.symm)
      go_wp2_with fail
      go_ret
      exact ⟨ret_val (by rw [Hg.out]; rfl), hE⟩
    · have hzi : ((gk : Int) == 0) = false := beq_eq_false_iff_ne.2 (by omega)
      have hr : Int.tmod (x : Int) (gk : Int) = ((x % gk : Nat) : Int) := by rw [Int.tmod_eq_emod_of_nonneg (by omega)]; omega
      have Hm := Nat.mod_lt x (Nat.pos_of_ne_zero hz)
      have HK2 := Lib.hid (show Nat.gcd gk (x % gk) = g by rw [← HK.out, Nat.gcd_comm gk, ← Nat.gcd_rec, Nat.gcd_comm])
      generalize x % gk = r at *
      clear hz HK
      go_wp2_with fail
      go_quiet (fail)
      go_wp2_with fail
      go_roundg r
      case measure => exact Hm
      case rel => exact ⟨gk, r, rfl, rfl, rfl, hy, by omega, HK2, hE.drewN _⟩
theorem fits_abs {z : Int} : fits 18 (z.natAbs : Int) = decide (Lib.nDigits z.natAbs ≤ 18) := by
  unfold fits; rw [itoa_nat, Lib.decDigits_length]
/-- whole.Gcd. -/
theorem wGcd_any {a b : Int} (ha : nd a < LIM) (hb : nd b < LIM) {w : World} (hL : Laid w) :
    Calls Tryz.prog 166 #[I a, I b] w fun e w' => e = .returned (I (Nat.gcd a.natAbs b.natAbs : Nat)) ∧ Ext w w' := by
  have HL := Lib.hid hL
  have h1 := Lib.hid (Abs_any (z := a) (Nat.le_of_lt ha))
  have h2 := Lib.hid (Abs_any (z := b) (Nat.le_of_lt hb))
  have l1 := Lib.hid (little_any (z := (a.natAbs : Int)) (m := 18) (by show Lib.nDigits _ ≤ _; rw [Int.natAbs_natCast]; exact Nat.le_of_lt ha) (by omega))
  have l2 := Lib.hid (little_any (z := (b.natAbs : Int)) (m := 18) (by show Lib.nDigits _ ≤ _; rw [Int.natAbs_natCast]; exact Nat.le_of_lt hb) (by omega))
  have hdg := Lib.hid (fun w hL => dGcd_any (u := a.natAbs) (v := b.natAbs) (w := w) ha hb hL)
  rw [fits_abs] at l1 l2
  rw [I_nat]
  rw [I_nat] at h1 h2 l1 l2
  clear hL ha hb
  generalize a.natAbs = u at *
  generalize b.natAbs = v at *
  by_cases hs1 : Lib.nDigits u ≤ 18
  · rw [decide_eq_true hs1] at l1
    by_cases hs2 : Lib.nDigits v ≤ 18
    · rw [decide_eq_true hs2] at l2
      rw [if_pos rfl] at l1 l2
      have b1 := lt_pow_of_nd hs1
      have b2 := lt_pow_of_nd hs2
      have hgl : Nat.gcd u v < 1000000000000000000 := by
        by_cases h0 : u = 0
        · subst h0; rw [Nat.gcd_zero_left]; omega
        · have := Nat.gcd_le_left v (Nat.pos_of_ne_zero h0); omega
      have hg := Lib.hid (wgcd_any (u := u) (v := v) (by omega) (by omega))
      have hof := Lib.hid (fun w hL => wholeOf_any (n := (Nat.gcd u v : Nat)) (w := w) (by omega) (by omega) hL)
      rw [I_nat] at hof
      clear hs1 hs2 hdg b1 b2
      generalize Nat.gcd u v = g at *
      go_enter Tryz.func166, Tryz.ntmps166
      go_wp2_with fail
      refine (h1.out _).mono ?_
      rintro e w1 ⟨rfl, hE1⟩
      go_wp2_with fail
      refine (h2.out _).mono ?_
      rintro e w2 ⟨rfl, hE2⟩
      go_wp2_with fail
      refine (l1.out _).mono ?_
      rintro e w3 ⟨rfl, hE3⟩
      go_wp2_with fail
      refine (l2.out _).mono ?_
      rintro e w4 ⟨rfl, hE4⟩
      go_wp2_with fail
      refine (hg.out _).mono ?_
      rintro e w5 ⟨rfl, hE5⟩
      go_wp2_with fail
      have hE := (((hE1.trans hE2).trans hE3).trans hE4).trans hE5
      refine (hof.out _ (HL.out.ext hE)).mono ?_
      rintro e w6 ⟨rfl, hE6⟩
      go_wp2_with fail
      go_ret
      exact ⟨rfl, hE.trans hE6⟩
    · rw [decide_eq_false hs2] at l2
      rw [if_pos rfl] at l1
      clear hs1 hs2
      go_enter Tryz.func166, Tryz.ntmps166
      go_wp2_with fail
      refine (h1.out _).mono ?_
      rintro e w1 ⟨rfl, hE1⟩
      go_wp2_with fail
      refine (h2.out _).mono ?_
      rintro e w2 ⟨rfl, hE2⟩
      go_wp2_with fail
      refine (l1.out _).mono ?_
      rintro e w3 ⟨rfl, hE3⟩
      go_wp2_with fail
      refine (l2.out _).mono ?_
      rintro e w4 ⟨rfl, hE4⟩
      go_wp2_with fail
      have hE := ((hE1.trans hE2).trans hE3).trans hE4
      refine (hdg.out _ (HL.out.ext hE)).mono ?_
      rintro e w5 ⟨rfl, hE5⟩
      go_wp2_with fail
      go_ret
      exact ⟨rfl, hE.trans hE5⟩
  · rw [decide_eq_false hs1] at l1
    clear hs1
    go_enter Tryz.func166, Tryz.ntmps166
    go_wp2_with fail
    refine (h1.out _).mono ?_
    rintro e w1 ⟨rfl, hE1⟩
    go_wp2_with fail
    refine (h2.out _).mono ?_
    rintro e w2 ⟨rfl, hE2⟩
    go_wp2_with fail
    refine (l1.out _).mono ?_
    rintro e w3 ⟨rfl, hE3⟩
    go_wp2_with fail
    have hE := (hE1.trans hE2).trans hE3
    refine (hdg.out _ (HL.out.ext hE)).mono ?_
    rintro e w5 ⟨rfl, hE5⟩
    go_wp2_with fail
    go_ret
    exact ⟨rfl, hE.trans hE5⟩
theorem wLcm_any {a b : Int} (ha : a ≠ 0) (hb : b ≠ 0) (hab : nd a + nd b < LIM) {w : World} (hL : Laid w) :
    Calls Tryz.prog 74 #[I a, I b] w fun e w' => e = .returned (I (Nat.lcm a.natAbs b.natAbs : Nat)) ∧ Ext w w' := by
  have HL := Lib.hid hL
  have h1 := Lib.hid (Abs_any (z := a) (by omega))
  have h2 := Lib.hid (Abs_any (z := b) (by omega))
  have hl := Lib.hid (fun w hL => dLcm_any (u := a.natAbs) (v := b.natAbs) (w := w) (by omega) (by omega) hab hL)
  rw [I_nat]
  rw [I_nat] at h1 h2
  clear hL ha hb hab
  generalize a.natAbs = u at *
  generalize b.natAbs = v at *
  go_enter Tryz.func74, Tryz.ntmps74
  go_wp2_with fail
  refine (h1.out _).mono ?_
  rintro e w1 ⟨rfl, hE1⟩
  go_wp2_with fail
  refine (h2.out _).mono ?_
  rintro e w2 ⟨rfl, hE2⟩
  go_wp2_with fail
  refine (hl.out _ (HL.out.ext (hE1.trans hE2))).mono ?_
  rintro e w3 ⟨rfl, hE3⟩
  go_wp2_with fail
  go_ret
  exact ⟨rfl, (hE1.trans hE2).trans hE3⟩
end Go.Proofs.YtcklioolpicmcaaGreatDoor
/- A region that draws its order: loads of cells that nobody writes but its last operations, calls that make memory, and a forced tail (stores). The loads are taken first; after the kit's OrdersHeld and StillTail. -/
namespace Go.Proofs.YtcklioolpicmcaaGreatDoor
open Go Go.Sort
section
variable {P : Program} {ops : Array Oper} {md : Region.Mode} {Q : Exit → Act → World → Prop} {S : World → Prop}
def wpAnyLH (P : Program) (md : Region.Mode) (ops : Array Oper) (Q : Exit → Act → World → Prop) (S : World → Prop) (n : Nat) (L : Array Bool → Act → World → Prop) : Nat → Array Bool → Act → World → Prop
  | 0, listed, a, w => L listed a w
  | f + 1, listed, a, w => Region.ready md ops listed ≠ [] ∧ ∀ i ∈ Region.ready md ops listed, i < n ∧ wpOp P ops Q i (fun a' w' => S w' ∧ wpAnyLH P md ops Q S n L f (listed.setIfInBounds i true) a' w') a w
theorem wpAny_of_headH {n g : Nat} {L : Array Bool → Act → World → Prop} (hL : ∀ listed a w, L listed a w → wpAny P md ops Q g listed a w) :
    ∀ (f : Nat) (listed : Array Bool) (a : Act) (w : World), wpAnyLH P md ops Q S n L f listed a w → wpAny P md ops Q (f + g) listed a w
  | 0, listed, a, w, h => by rw [Nat.zero_add]; exact hL _ _ _ h
  | f + 1, listed, a, w, h => by
    rw [show f + 1 + g = (f + g) + 1 by omega]
    exact ⟨fun h0 => absurd h0 h.1, fun i hi => wpOp_mono (fun a' w' h' => wpAny_of_headH hL f _ a' w' h'.2) (h.2 i hi).2⟩
theorem wpAnyLH_first {n i : Nat} {oi : Oper} {v : Value} {L : Array Bool → Act → World → Prop} (hi : ops[i]? = some oi) (hsel : ∀ (j : Nat) (o : Oper) cs b, ops[j]? = some o → o.op ≠ .select cs b)
    (hQ : ∀ c a w, Q (.panic c) (a.put oi.dst v) w → Q (.panic c) a w)
    (hs : Region.sinkB md ops n = true) (hc : Region.chainB md ops n = true) (hn : n < ops.size) (hin : i < n)
    (hdone : ∀ listed a w, L listed a w → ∀ j ∈ Region.ready md ops listed, n ≤ j) :
    ∀ (f : Nat) (listed : Array Bool) (a : Act) (w : World), HeadInv md ops n listed →
      (∀ j oj, ops[j]? = some oj → j ≠ i → listed.getD j true = false → (∀ e ∈ oj.after, Region.binds md e = true → e.on ≠ i) → oi.apart ops oj = true) →
      i ∈ Region.ready md ops listed → YieldsIf P ops S oi v a → S w →
      wpAnyLH P md ops Q S n L f (listed.setIfInBounds i true) (a.put oi.dst v) w → wpAnyLH P md ops Q S n L (f + 1) listed a w := by
  intro f
  induction f with
  | zero =>
    intro listed a w inv _ hr hy hS H
    have hun := (mem_ready.1 hr).1
    refine ⟨fun h => (by rw [h] at hr; cases hr), fun j hj => ?_⟩
    have hjn : j < n := by
      rcases Nat.lt_or_ge j n with h | h
      · exact h
      · exact absurd hj (tail_waits hs hc hn inv _ i rfl hin hun j h)
    refine ⟨hjn, ?_⟩
    by_cases hji : j = i
    · subst hji; exact hy.wpOp hi hS ⟨hS, H⟩
    · have := hdone _ _ _ H j (ready_mono hj hji)
      omega
  | succ f ih =>
    intro listed a w inv hfree hr hy hS H
    have hun := (mem_ready.1 hr).1
    refine ⟨fun h => (by rw [h] at hr; cases hr), fun j hj => ?_⟩
    have hjn : j < n := by
      rcases Nat.lt_or_ge j n with h | h
      · exact h
      · exact absurd hj (tail_waits hs hc hn inv _ i rfl hin hun j h)
    refine ⟨hjn, ?_⟩
    by_cases hji : j = i
    · subst hji; exact hy.wpOp hi hS ⟨hS, H⟩
    · have h1 := (H.2 j (ready_mono hj hji)).2
      obtain ⟨hjun, oj, hoj, hall⟩ := mem_ready.1 hj
      have hnot : ∀ e ∈ oj.after, Region.binds md e = true → e.on ≠ i := fun e he hb heq => by
        have h1 := hall e he hb
        rw [heq, getD_both hun] at h1
        cases h1
      have h2 := wpOp_putIf hoj (hfree j oj hoj hji hjun hnot) (fun cs b => hsel i oi cs b hi) (fun cs b => hsel j oj cs b hoj) hQ hy h1
      have hfree' : ∀ k ok, ops[k]? = some ok → k ≠ i → (listed.setIfInBounds j true).getD k true = false →
          (∀ e ∈ ok.after, Region.binds md e = true → e.on ≠ i) → oi.apart ops ok = true := fun k ok hk hki hun hno => by
        refine hfree k ok hk hki ?_ hno
        by_cases hjk : j = k
        · subst hjk; exact hjun
        · rw [getD_set_ne true hjk] at hun; exact hun
      refine wpOp_mono (fun a' w' h3 => ⟨h3.2.1, ih (listed.setIfInBounds j true) a' w' (inv.set hj hjn) hfree' (ready_mono hr (Ne.symm hji)) h3.1 h3.2.1 ?_⟩) h2
      rw [Array.setIfInBounds_comm _ _ hji]
      exact h3.2.2
/-- What the tail must meet. -/
def LTail (P : Program) (md : Region.Mode) (ops : Array Oper) (Q : Exit → Act → World → Prop) (n : Nat) (rest : List Oper) (listed : Array Bool) (a : Act) (w : World) : Prop := Region.seqB md ops (ops.size - n) n listed = true ∧ wpList P ops Q rest a w
/-- A load is taken first. -/
theorem wpAnyLH_take {n i f : Nat} {oi : Oper} {v : Value} {rest : List Oper} {listed : Array Bool} {a : Act} {w : World} (hi : ops[i]? = some oi)
    (hB : (Region.noSelect ops && decide (n < ops.size) && Region.sinkB md ops n && Region.chainB md ops n && decide (i < n) && Region.free md ops listed i && (Region.ready md ops listed).contains i) = true)
    (hQ : ∀ c a w, Q (.panic c) (a.put oi.dst v) w → Q (.panic c) a w) (hy : YieldsIf P ops S oi v a) (hS : S w) (inv : HeadInv md ops n listed)
    (h : HeadInv md ops n (listed.setIfInBounds i true) → wpAnyLH P md ops Q S n (LTail P md ops Q n rest) f (listed.setIfInBounds i true) (a.put oi.dst v) w) : wpAnyLH P md ops Q S n (LTail P md ops Q n rest) (f + 1) listed a w := by
  simp only [Bool.and_eq_true, decide_eq_true_eq] at hB
  obtain ⟨⟨⟨⟨⟨⟨hsel, hn⟩, hs⟩, hc⟩, hin⟩, hf⟩, hr⟩ := hB
  have hr' : i ∈ Region.ready md ops listed := by simpa using hr
  exact wpAnyLH_first hi (Region.noSelect_spec hsel) hQ hs hc hn hin (fun _ _ _ hL => seqB_ready hL.1) f listed a w inv (Region.free_spec hi hf) hr' hy hS (h (inv.set hr' hin))
/-- The one operation that may come up. -/
theorem wpAnyLH_one {n i f : Nat} {o : Oper} {L : Array Bool → Act → World → Prop} {listed : Array Bool} {a : Act} {w : World} (ho : ops[i]? = some o) (hr : (Region.ready md ops listed == [i] && decide (i < n)) = true)
    (h : ∀ K' : Act → World → Prop, (∀ a w, S w → wpAnyLH P md ops Q S n L f (listed.setIfInBounds i true) a w → K' a w) → if Region.wanted o (yielded ops a.tmps) = true then Oper.wp P o a w K' Q else K' (a.put o.dst undef) w) : wpAnyLH P md ops Q S n L (f + 1) listed a w := by
  simp only [Bool.and_eq_true, decide_eq_true_eq, beq_iff_eq] at hr
  refine ⟨fun h0 => (by rw [hr.1] at h0; cases h0), fun j hj => ?_⟩
  rw [hr.1] at hj
  obtain rfl : j = i := by simpa using hj
  exact ⟨hr.2, wpOp_step ho (fun K' hK => h K' (fun a w hS hW => hK a w ⟨hS, hW⟩))⟩
theorem wpAnyLH_end {n : Nat} {rest : List Oper} {listed : Array Bool} {a : Act} {w : World} (hB : Region.seqB md ops (ops.size - n) n listed = true) (h : wpList P ops Q rest a w) : wpAnyLH P md ops Q S n (LTail P md ops Q n rest) 0 listed a w := ⟨hB, h⟩
theorem wp_region_held_tail {id : Nat} {a : Act} {w : World} {l : List Oper} (n : Nat) (hm : P.follows .mixedOrders = true) (hn : n < l.length)
    (h : HeadInv .any l.toArray n (Array.replicate l.toArray.size false) → wpAnyLH P .any l.toArray Q S n (LTail P .any l.toArray Q n (l.drop n)) n (Array.replicate l.toArray.size false) a w.drew) : (Code.region id l.toArray true).wp P Q a w := by
  have hdl : (l.drop n).length = l.toArray.size - n := by simp
  have inv0 : HeadInv .any l.toArray n (Array.replicate l.toArray.size false) :=
    ⟨by simp, fun j oj _ hl => (by rw [getD_replicate_false] at hl; cases hl), fun t _ ht => getD_in (by simpa using ht) (getD_replicate_false _ _)⟩
  refine wp_region_any hm ?_
  have := wpAny_of_headH (Q := Q) (g := l.toArray.size - n) (fun listed a' w' hL => by
    have := wpAny_of_seq (md := .any) (Q' := Q) (l.drop n) n listed a' w' (fun j => by simp [List.getElem?_drop]) (by rw [hdl]; exact hL.1) hL.2
    rwa [hdl] at this) _ _ _ _ (h inv0)
  rw [show n + (l.toArray.size - n) = l.toArray.size by simp; omega] at this
  exact this
end
end Go.Proofs.YtcklioolpicmcaaGreatDoor
