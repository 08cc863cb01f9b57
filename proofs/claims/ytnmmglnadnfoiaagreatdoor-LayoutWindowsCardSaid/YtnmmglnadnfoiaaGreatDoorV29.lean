/- Part 29 of the proof of the claim: contracts of the functions that it reaches, and plain laws; no condition. -/
import Derived.Test.YtnmmglnadnfoiaaGreatDoorV24
import Derived.Test.YtnmmglnadnfoiaaGreatDoorV25
import Derived.BigQuiet
import Derived.Test.YtnmmglnadnfoiaaGreatDoorV26
import Derived.Test.YtnmmglnadnfoiaaGreatDoorV27
/- slices.Equal of rows, row.Equal. -/
namespace Go.Proofs.YtnmmglnadnfoiaaGreatDoor
open Go.RowKit Go.Sort
set_option maxRecDepth 100000 in
set_option maxHeartbeats 1000000 in
theorem SlEq_any {w : World} {va vb : Value} {a b : List Int} (hA : RowR w va a) (hB : RowR w vb b) (hbig : a.length ≤ 1000000) :
    Calls Tryz.prog 79 #[va, vb] w fun e w' => e = .returned (.bool (decide (a = b))) ∧ Ext w w' := by
  obtain ⟨sa, ga, oa, ca, rfl, hca, hSa⟩ := hA
  obtain ⟨sb, gb, ob, cb, rfl, hcb, hSb⟩ := hB
  by_cases hl : a.length = b.length
  · obtain ⟨n, hn⟩ : ∃ n, n = a.length := ⟨_, rfl⟩
    rw [← hl]
    rw [← hn] at hbig ⊢
    have HA := Lib.hid hSa
    have HB := Lib.hid hSb
    have Hn := Lib.hid hn
    have Hm := Lib.hid (hn.trans hl)
    clear hSa hSb hl hn hca hcb
    go_enter Tryz.func79, Tryz.ntmps79
    go_wp2_with fail
    go_loopw [13] (fun idx wr => ∃ i : Nat, i ≤ n ∧ idx = .int .i64 i ∧ Hid (∀ j, j < i → a.getD j 0 = b.getD j 0) ∧ Ext w wr) (fun idx _ => n - (intOf idx).toNat)
    case atStart => exact ⟨0, by omega, by go_num, Lib.hid (fun j h => by omega), Ext.refl _⟩
    case round =>
      obtain ⟨i, hi, rfl, Hz, hE⟩ := hrel
      generalize wr = X at *
      by_cases hlt : i < n
      · have hii : (i : Int) < (n : Int) := by omega
        have c1 := (HA.out.ext hE).cell i (.int .i64 (a[i]'(by rw [← Hn.out]; exact hlt))) (is_get (by rw [← Hn.out]; exact hlt))
        have c2 := (HB.out.ext hE).cell i (.int .i64 (b[i]'(by rw [← Hm.out]; exact hlt))) (is_get (by rw [← Hm.out]; exact hlt))
        obtain rfl := HA.out.addr (by rw [is_length, ← Hn.out]; omega)
        obtain rfl := HB.out.addr (by rw [is_length, ← Hm.out]; omega)
        obtain ⟨x, hx⟩ : ∃ x, x = a[i]'(by rw [← Hn.out]; exact hlt) := ⟨_, rfl⟩
        obtain ⟨y, hy⟩ : ∃ y, y = b[i]'(by rw [← Hm.out]; exact hlt) := ⟨_, rfl⟩
        rw [← hx] at c1
        rw [← hy] at c2
        have Hx := Lib.hid (show a.getD i 0 = x by rw [hx, getD_get (by rw [← Hn.out]; exact hlt)])
        have Hy := Lib.hid (show b.getD i 0 = y by rw [hy, getD_get (by rw [← Hm.out]; exact hlt)])
        clear hx hy
        by_cases hxy : x = y
        · subst hxy
          go_wp2_with fail
          go_quiet (fail)
          go_wp2_with fail
          go_roundw
          case rel => exact ⟨i + 1, by omega, by go_num, Lib.hid (fun j hj => by
            by_cases e : j = i
            · subst e; rw [Hx.out, Hy.out]
            · exact Hz.out j (by omega)), hE.drewN _⟩
          case measure => simp [intOf] <;> omega
        · have hb1 : (x == y) = false := beq_eq_false_iff_ne.2 hxy
          have hb2 : (x != y) = true := by simp [bne, hb1]
          have Hne := Lib.hid (show decide (a = b) = false from decide_eq_false (fun e => hxy (by rw [← Hx.out, ← Hy.out, e])))
          go_wp2_with fail
          go_quiet (fail)
          go_wp2_with fail
          go_ret
          exact ⟨by rw [Hne.out]; rfl, hE.drewN _⟩
      · have Heq := Lib.hid (show decide (a = b) = true from decide_eq_true (sam_getD_ext (by rw [← Hn.out, ← Hm.out]) (fun j hj => Hz.out j (by rw [← Hn.out] at hj; omega))))
        go_wp2_with fail
        go_ret
        exact ⟨by rw [Heq.out]; rfl, hE⟩
  · have hne : decide (a = b) = false := decide_eq_false (fun e => hl (by rw [e]))
    rw [hne]
    have h1 : ¬ ((a.length : Int) = (b.length : Int)) := by omega
    have h2 : ((a.length : Int) == (b.length : Int)) = false := beq_eq_false_iff_ne.2 h1
    have h3 : ((a.length : Int) != (b.length : Int)) = true := by simp [bne, h2]
    clear hSa hSb hca hcb hne
    generalize a.length = n at *
    generalize b.length = m at *
    go_enter Tryz.func79, Tryz.ntmps79
    go_wp2_with fail
    go_ret
    exact ⟨rfl, Ext.refl _⟩
theorem rowEqual_any {w : World} {va vb : Value} {a b : List Int} (hA : RowR w va a) (hB : RowR w vb b) (hbig : a.length ≤ 1000000) :
    Calls Tryz.prog 46 #[va, vb] w fun e w' => e = .returned (.bool (decide (a = b))) ∧ Ext w w' := by
  have h := Lib.hid (SlEq_any hA hB hbig)
  clear hA hB
  go_enter Tryz.func46, Tryz.ntmps46
  go_wp2_with fail
  refine h.out.mono ?_
  rintro e w1 ⟨rfl, hE⟩
  go_wp2_with fail
  go_ret
  exact ⟨rfl, hE⟩
end Go.Proofs.YtnmmglnadnfoiaaGreatDoor
/- layout.Neighbours: the errors. -/
namespace Go.Proofs.YtnmmglnadnfoiaaGreatDoor
open Go.RowKit Go.Sort
set_option maxRecDepth 100000 in
theorem Neighbours_kind {w : World} {k x y : Int} (h1 : k ≠ 1) (h2 : k ≠ 2) :
    Calls Tryz.prog 20 #[.int .i64 k, .agg #[.int .i64 x, .int .i64 y]] w fun e w' => e = .returned (.tuple #[.slice none 0 0, .int .i64 12]) ∧ Ext w w' := by
  have hE := (Ext.refl w).alloc (.cells #[.int .i64 x, .int .i64 y] 27)
  have b1 : (k != 1) = true := by simp [bne_iff_ne, h1]
  have b2 : (k != 2) = true := by simp [bne_iff_ne, h2]
  go_enter Tryz.func20, Tryz.ntmps20
  go_wp2_with fail
  go_ret2
  exact ⟨rfl, hE⟩
set_option maxRecDepth 100000 in
theorem Neighbours_far {w : World} {k x y : Int} (hk : k = 1 ∨ k = 2) (hx : I64 x) (hy : I64 y) (hf : farB x y = true) :
    Calls Tryz.prog 20 #[.int .i64 k, .agg #[.int .i64 x, .int .i64 y]] w fun e w' => e = .returned (.tuple #[.slice none 0 0, .int .i64 3]) ∧ Ext w w' := by
  have hfar := Lib.hid (fun W => far_any (w := W) hx hy)
  rw [show (decide (1000000 < max x y) || decide (min x y < -1000000)) = true from hf] at hfar
  have hX : Ext w (w.alloc (.cells #[.int .i64 x, .int .i64 y] 27)) := (Ext.refl w).alloc _
  clear hf hx hy
  rcases hk with rfl | rfl
  all_goals
    go_enter Tryz.func20, Tryz.ntmps20
    go_wp2_with fail
    refine (hfar.out _).mono ?_
    rintro e w1 ⟨rfl, hE1⟩
    have hX1 := hX.trans hE1
    go_wp2_with fail
    go_ret2
    exact ⟨rfl, hX1⟩
end Go.Proofs.YtnmmglnadnfoiaaGreatDoor
/- schismalaw44: keys. -/
namespace Go.Proofs.YtnmmglnadnfoiaaGreatDoor
open Go.RowKit Go.Sort
theorem kv_get : ∀ {l : List (Int × Int)} {i : Nat} (h : i < l.length), (kv l)[i * 2]? = some (.int .i64 l[i].1) ∧ (kv l)[i * 2 + 1]? = some (.int .i64 l[i].2)
  | [], i, h => by simp at h
  | p :: l, 0, h => by simp [kv]
  | p :: l, i + 1, h => by
    have := kv_get (l := l) (i := i) (by simpa using h)
    have e : kv (p :: l) = .int .i64 p.1 :: .int .i64 p.2 :: kv l := by simp [kv]
    rw [e, show (i + 1) * 2 = i * 2 + 1 + 1 by omega]
    simpa using this
/-- A list of keys in memory. -/
structure KeysR (w : World) (g : Nat) (l : List (Int × Int)) : Prop where
  x : ∀ i (h : i < l.length), w.cell? ⟨g, i * 2, none⟩ = some (.int .i64 l[i].1)
  y : ∀ i (h : i < l.length), w.cell? ⟨g, i * 2 + 1, none⟩ = some (.int .i64 l[i].2)
theorem KeysR.ext {w w' : World} {g : Nat} {l : List (Int × Int)} (h : KeysR w g l) (he : Ext w w') : KeysR w' g l := ⟨fun i hi => he.cell (h.x i hi), fun i hi => he.cell (h.y i hi)⟩
theorem KeysV.open {B : Nat} {w : World} {v : Value} {l : List (Int × Int)} (h : KeysV B w v l) (h0 : 0 < l.length) : ∃ g cap, v = slv g l.length cap ∧ KeysR w g l := by
  rcases h.2 with ⟨_, he⟩ | ⟨g, cap, cur, rfl, _⟩
  · rw [he] at h0; cases h0
  · refine ⟨g, cap, rfl, fun i hi => ?_, fun i hi => ?_⟩
    · have := World.ownsRow.cellAt h (i * 2) (by omega)
      rw [(kv_get hi).1] at this
      simpa using this
    · have := World.ownsRow.cellAt h (i * 2 + 1) (by omega)
      rw [(kv_get hi).2] at this
      simpa using this
set_option maxRecDepth 100000 in
set_option maxHeartbeats 1000000 in
theorem keys_same {w : World} {g1 c1 g2 c2 n : Nat} {l : List (Int × Int)} (hn : n = l.length) (hA : KeysR w g1 l) (hB : KeysR w g2 l) (hl : n ≤ 1000000) :
    Calls Tryz.prog 21 #[slv g1 n c1, slv g2 n c2] w fun e w' => e = .returned (.bool true) ∧ Ext w w' := by
  have HA := Lib.hid hA
  have HB := Lib.hid hB
  have Hn := Lib.hid hn
  clear hA hB hn
  go_enter Tryz.func21, Tryz.ntmps21
  go_wp2_with fail
  go_loopw [5] (fun idx wr => ∃ i : Nat, i ≤ n ∧ idx = .int .i64 i ∧ Ext w wr) (fun idx _ => n - (intOf idx).toNat)
  case atStart => exact ⟨0, by omega, by go_num, Ext.refl _⟩
  case round =>
    obtain ⟨i, hi, rfl, hE⟩ := hrel
    generalize wr = X at *
    by_cases hlt : i < n
    · have hii : (i : Int) < (n : Int) := by omega
      have a0 := (HA.out.ext hE).x i (by rw [← Hn.out]; exact hlt)
      have a1 := (HA.out.ext hE).y i (by rw [← Hn.out]; exact hlt)
      have b0 := (HB.out.ext hE).x i (by rw [← Hn.out]; exact hlt)
      have b1 := (HB.out.ext hE).y i (by rw [← Hn.out]; exact hlt)
      generalize (l[i]'(by rw [← Hn.out]; exact hlt)).1 = x at *
      generalize (l[i]'(by rw [← Hn.out]; exact hlt)).2 = y at *
      go_wp2_with fail
      go_quiet (fail)
      go_wp2_with fail
      go_roundw
      case rel => exact ⟨i + 1, by omega, by go_num, hE.drewN _⟩
      case measure => simp [intOf] <;> omega
    · have hie : i = n := by omega
      subst hie
      go_wp2_with fail
      go_ret
      exact ⟨rfl, hE⟩
end Go.Proofs.YtnmmglnadnfoiaaGreatDoor
/- layout: Keys; schismalaw44.keys of equal lists. -/
namespace Go.Proofs.YtnmmglnadnfoiaaGreatDoor
open Go.RowKit Go.Sort
theorem kyRow_c (m : Nat) (q : List Int) (y : Int) (o r u : List Int) {x : Int} (hx : -(m : Int) ≤ x) : kyRow m q y o r u (x + 1 + m).toNat = kyRow m q y o r u (x + m).toNat ++ (if atL x y o r u = q then [(x, y)] else []) := by
  obtain ⟨t, ht⟩ : ∃ t : Nat, x = (t : Int) - m := ⟨(x + m).toNat, by omega⟩
  subst ht
  rw [show ((t : Int) - m + 1 + m).toNat = t + 1 by omega, show ((t : Int) - m + m).toNat = t by omega, kyRow_succ]
theorem kyTo_c (m : Nat) (q : List Int) (o r u : List Int) {y : Int} (hy : -(m : Int) ≤ y) : kyTo m q o r u (y + 1 + m).toNat = kyTo m q o r u (y + m).toNat ++ kyRow m q y o r u (2 * m + 1) := by
  obtain ⟨t, ht⟩ : ∃ t : Nat, y = (t : Int) - m := ⟨(y + m).toNat, by omega⟩
  subst ht
  rw [show ((t : Int) - m + 1 + m).toNat = t + 1 by omega, show ((t : Int) - m + m).toNat = t by omega, kyTo_succ]
theorem at_ok {w : World} {k x y : Int} {n go co gr cr gu cu cq nq : Nat} {sq : Option Addr} {o r u q : List Int} (h : LayP w k n go co gr cr gu cu o r u) (hx : -1000000 ≤ x ∧ x ≤ 1000000) (hy : -1000000 ≤ y ∧ y ≤ 1000000) (hq : RowR w (.slice sq nq cq) q) :
    Calls Tryz.prog 55 #[layv k n go co gr cr gu cu, .agg #[.int .i64 x, .int .i64 y]] w fun e w' => ∃ g, e = .returned (slv g n n) ∧ Ext w w' ∧ Calls Tryz.prog 46 #[slv g n n, .slice sq nq cq] w' (fun e w'' => e = .returned (.bool (decide (atL x y o r u = q))) ∧ Ext w' w'') := by
  have hl : (atL x y o r u).length = n := by rw [atL_length _ _ _ _ _ (by rw [h.lo, h.lr]) (by rw [h.lo, h.lu])]; exact h.lo
  have hn := h.n12
  refine (at_any h hx hy).mono ?_
  rintro e w' ⟨g, rfl, hO, hE⟩
  exact ⟨g, rfl, hE, rowEqual_any ⟨_, g, 0, n, by rw [hl], by omega, hO.sl⟩ (hq.ext hE) (by omega)⟩
set_option maxRecDepth 100000 in
set_option maxHeartbeats 2000000 in
theorem Keys_any {w : World} {k : Int} {n go co gr cr gu cu m cq nq : Nat} {sq : Option Addr} {o r u q : List Int} (h : LayP w k n go co gr cr gu cu o r u) (hm : m ≤ 20) (hq : RowR w (.slice sq nq cq) q) (hz : rowE n q = 0) :
    Calls Tryz.prog 43 #[layv k n go co gr cr gu cu, .slice sq nq cq, .int .i64 m] w fun e w' => (∃ v, e = .returned (.tuple #[v, .int .i64 0]) ∧ KeysV w.heap.size w' v (kyTo m q o r u (2 * m + 1))) ∧ Ext w w' := by
  have hck := Lib.hid (fun W (hW : Ext w W) => lsized_any (h.ext hW) (hq.ext hW))
  rw [hz] at hck
  have hwn := Lib.hid (fun W => window_any (m : Int) W)
  rw [show winE (m : Int) = 0 by unfold winE; rw [if_neg (by omega)]] at hwn
  have hnt := Lib.hid (fun W (x y : Int) (hW : Ext w W) (h1 : -20 ≤ x ∧ x ≤ 20) (h2 : -20 ≤ y ∧ y ≤ 20) => at_ok (h.ext hW) (x := x) (y := y) (by omega) (by omega) (hq.ext hW))
  obtain ⟨M, hM⟩ : ∃ M : Int, M = (m : Int) := ⟨_, rfl⟩
  have hM1 : 0 ≤ M := by omega
  have hM2 : M ≤ 20 := by omega
  rw [← hM] at hwn ⊢
  have HM := Lib.hid hM
  have hX : Ext w (w.alloc (.cells #[.int .i64 k, slv go n co, slv gr n cr, slv gu n cu] 32)) := (Ext.refl w).alloc _
  have hb := layC_new w k n go co gr cr gu cu
  obtain ⟨b, hbb⟩ : ∃ b, b = w.heap.size := ⟨_, rfl⟩
  clear h hm hM hq hz
  go_enter Tryz.func43, Tryz.ntmps43
  go_wp2_with fail
  refine (hck.out _ hX).mono ?_
  rintro e w1 ⟨rfl, hE1⟩
  have hb1 := hb.ext hE1
  have hX1 := hX.trans hE1
  clear hE1 hck hX hb
  go_wp2_with fail
  refine (hwn.out _).mono ?_
  rintro e w2 ⟨rfl, hE2⟩
  have hb2 := Lib.hid (hb1.ext hE2)
  have hX2 := hX1.trans hE2
  have hneg : IntKind.i64.wrap (-M) = -M := IntWalk.i64_in _ (by omega)
  rw [← hbb] at hb2
  clear hE2 hwn hX1 hb1
  rw [← hbb]
  clear hbb
  go_wp2_with fail
  go_loopw [10, 11, 12, 13] (fun out yv xv kv wr => ∃ y : Int, -M ≤ y ∧ y ≤ M + 1 ∧ yv = .int .i64 y ∧ Hid (KeysV w2.heap.size wr out (kyTo m q o r u (y + m).toNat)) ∧ Ext w2 wr) (fun _ yv _ _ _ => (M + 1 - intOf yv).toNat)
  case atStart => exact ⟨-M, by omega, by omega, rfl, Lib.hid (by rw [HM.out, show (-(m : Int) + m).toNat = 0 by omega]; exact KeysV.nil _ _), Ext.refl _⟩
  case round =>
    obtain ⟨y, hy1, hy2, rfl, hO, hE3⟩ := hrel
    generalize wr = Y at *
    by_cases hy3 : y ≤ M
    · go_wp2_with fail
      go_loopw [10, 12, 13] (fun out xv kv wr => ∃ x : Int, -M ≤ x ∧ x ≤ M + 1 ∧ xv = .int .i64 x ∧ Hid (KeysV w2.heap.size wr out (kyTo m q o r u (y + m).toNat ++ kyRow m q y o r u (x + m).toNat)) ∧ Ext w2 wr) (fun _ xv _ _ => (M + 1 - intOf xv).toNat)
      case atStart => exact ⟨-M, by omega, by omega, rfl, Lib.hid (by rw [HM.out, show (-(m : Int) + m).toNat = 0 by omega]; have := hO.out; simpa [kyRow] using this), hE3⟩
      case round =>
        obtain ⟨x, hx1, hx2, rfl, hI, hE4⟩ := hrel
        generalize wr = Z at *
        have hXZ := hX2.trans hE4
        by_cases hx3 : x ≤ M
        · obtain ⟨c0, c1, c2, c3⟩ := hb2.out.ext hE4
          have hZn : Ext w (Z.alloc (.cells #[.int .i64 x, .int .i64 y] 27)) := hXZ.alloc _
          have hn := Lib.hid (hnt.out _ x y hZn ⟨by omega, by omega⟩ ⟨by omega, by omega⟩)
          have Hx := Lib.hid hx1
          have hE4n : Ext w2 (Z.alloc (.cells #[.int .i64 x, .int .i64 y] 27)) := hE4.alloc _
          have k0 : (Z.alloc (.cells #[.int .i64 x, .int .i64 y] 27)).cell? ⟨Z.heap.size, 0, none⟩ = some (.int .i64 x) := by go_simp
          have k1 : (Z.alloc (.cells #[.int .i64 x, .int .i64 y] 27)).cell? ⟨Z.heap.size, 1, none⟩ = some (.int .i64 y) := by go_simp
          have HIn := Lib.hid (hI.out.ext ((Ext.refl Z).alloc (.cells #[.int .i64 x, .int .i64 y] 27)))
          have hstep := kyRow_c m q y o r u (x := x) (by rw [← HM.out]; exact Hx.out)
          have Hln := Lib.hid (show (kyTo m q o r u (y + m).toNat ++ kyRow m q y o r u (x + m).toNat).length ≤ 100000 by
            have h1 := kyTo_le m q o r u (y + m).toNat
            have h2 := kyRow_le m q y o r u (x + m).toNat
            have h3 : (2 * m + 1) * (y + m).toNat ≤ (2 * 20 + 1) * 41 := Nat.mul_le_mul (by have := HM.out; omega) (by have := HM.out; omega)
            rw [List.length_append]; have := HM.out; omega)
          have dl := World.block_lt_of_cell? _ _ c0
          go_wp2_with fail
          refine hn.out.mono ?_
          rintro e w5 ⟨g, rfl, hE5, hq5⟩
          have Hq5 := Lib.hid hq5
          have j0 := hE5.cell k0
          have j1 := hE5.cell k1
          have HI5 := Lib.hid (HIn.out.ext hE5)
          have hE6 := hE4n.trans hE5
          clear hn hI c0 c1 c2 c3 hq5 HIn k0 k1 hE4n hE5 hZn
          by_cases he : atL x y o r u = q
          · rw [decide_eq_true he] at Hq5
            rw [if_pos he] at hstep
            have Hstep := Lib.hid (show kyTo m q o r u (y + m).toNat ++ kyRow m q y o r u (x + 1 + m).toNat = (kyTo m q o r u (y + m).toNat ++ kyRow m q y o r u (x + m).toNat) ++ [(x, y)] by rw [hstep, List.append_assoc])
            clear hstep
            go_wp2_with fail
            refine Hq5.out.mono ?_
            rintro e w6 ⟨rfl, hE7⟩
            replace j0 := hE7.cell j0
            replace j1 := hE7.cell j1
            have HI6 := Lib.hid (HI5.out.ext hE7)
            have hE8 := hE6.trans hE7
            have hs8 := hE8.size
            clear HI5 Hq5
            go_wp2_with (at_builtin; refine app_key rfl _ _ rfl rfl (HI6.out.ext ((Ext.refl _).alloc _)) rfl (b := w6.heap.size) (y := x) (z := y) (by go_simp) (by go_simp) (by have := Hln.out; omega) (by simp; omega) ?_; intro gg cap2 w8 hO8 hB8 hG8; rw [← Hstep.out] at hO8; have hE9 := Below.trans (hE8.alloc _) hB8; replace hO8 := Lib.hid hO8; clear hB8 hG8)
            refine ⟨⟨x + 1, by omega, by omega, by go_num, by rw [← List.length_append]; exact hO8, hE9⟩, by simp [intOf]; omega⟩
          · rw [decide_eq_false he] at Hq5
            rw [if_neg he, List.append_nil] at hstep
            have Hstep := Lib.hid hstep
            clear hstep
            go_wp2_with fail
            refine Hq5.out.mono ?_
            rintro e w6 ⟨rfl, hE7⟩
            have HI6 := Lib.hid (HI5.out.ext hE7)
            rw [← Hstep.out] at HI6
            have hE8 := hE6.trans hE7
            clear HI5 Hq5
            go_wp2_with fail
            go_roundw
            case rel => exact ⟨x + 1, by omega, by omega, by go_num, HI6, hE8⟩
            case measure => simp [intOf]; omega
        · have hxe : x = M + 1 := by omega
          have hT := hI.out
          rw [hxe, show (M + 1 + (m : Int)).toNat = 2 * m + 1 by rw [HM.out]; omega, ← kyTo_c m q o r u (by rw [← HM.out]; exact hy1)] at hT
          have HT := Lib.hid hT
          clear hT hI hO
          go_wp2_with fail
          go_roundw
          case rel => exact ⟨y + 1, by omega, by omega, by go_num, HT, hE4⟩
          case measure => simp [intOf]; omega
    · have hye : y = M + 1 := by omega
      have hT := hO.out
      rw [hye, show (M + 1 + (m : Int)).toNat = 2 * m + 1 by rw [HM.out]; omega] at hT
      have HT := Lib.hid (KeysV.mono hT hX2.size)
      have HX := Lib.hid (hX2.trans hE3)
      clear hT hO
      go_wp2_with fail
      go_ret2
      exact ⟨⟨_, rfl, HT.out⟩, HX.out⟩
set_option maxRecDepth 100000 in
theorem Keys_bad {w : World} {k : Int} {n go co gr cr gu cu cq nq : Nat} {sq : Option Addr} {o r u q : List Int} {z M : Int} (h : LayP w k n go co gr cr gu cu o r u) (hq : RowR w (.slice sq nq cq) q) (hz : rowE n q = z) (hz0 : ¬ z = 0) :
    Calls Tryz.prog 43 #[layv k n go co gr cr gu cu, .slice sq nq cq, .int .i64 M] w fun e w' => e = .returned (.tuple #[.slice none 0 0, .int .i64 z]) ∧ Ext w w' := by
  have hck := Lib.hid (fun W (hW : Ext w W) => lsized_any (h.ext hW) (hq.ext hW))
  rw [hz] at hck
  have h2 : (z == 0) = false := beq_eq_false_iff_ne.2 hz0
  have h3 : (z != 0) = true := by simp [bne, h2]
  have hX : Ext w (w.alloc (.cells #[.int .i64 k, slv go n co, slv gr n cr, slv gu n cu] 32)) := (Ext.refl w).alloc _
  clear h hq hz
  go_enter Tryz.func43, Tryz.ntmps43
  go_wp2_with fail
  refine (hck.out _ hX).mono ?_
  rintro e w1 ⟨rfl, hE1⟩
  have hX1 := hX.trans hE1
  go_wp2_with fail
  go_ret2
  exact ⟨rfl, hX1⟩
/-- The same keys twice. -/
theorem keys_val {B B' : Nat} {w : World} {va vb : Value} {l : List (Int × Int)} (ha : KeysV B w va l) (hb : KeysV B' w vb l) (hl : l.length ≤ 1000000) :
    Calls Tryz.prog 21 #[va, vb] w fun e w' => e = .returned (.bool true) ∧ Ext w w' := by
  rcases Nat.eq_zero_or_pos l.length with h0 | h0
  · have hsh : ∀ {B : Nat} {v : Value}, KeysV B w v l → ∃ a c, v = .slice a 0 c := fun h => by
      rcases h.2 with ⟨rfl, _⟩ | ⟨g, cap, cur, rfl, _⟩
      · exact ⟨_, _, rfl⟩
      · exact ⟨_, _, by rw [h0]⟩
    obtain ⟨a1, c1, rfl⟩ := hsh ha
    obtain ⟨a2, c2, rfl⟩ := hsh hb
    clear ha hb
    go_enter Tryz.func21, Tryz.ntmps21
    go_wp2_with fail
    go_loopw [5] (fun idx wr => idx = .int .i64 0 ∧ Ext w wr) (fun idx _ => 0)
    case atStart => exact ⟨by go_num, Ext.refl _⟩
    case round =>
      obtain ⟨rfl, hE⟩ := hrel
      go_wp2_with fail
      go_ret
      exact ⟨rfl, hE⟩
  · obtain ⟨g1, c1, rfl, hA⟩ := ha.open h0
    obtain ⟨g2, c2, rfl, hB⟩ := hb.open h0
    exact keys_same rfl hA hB hl
end Go.Proofs.YtnmmglnadnfoiaaGreatDoor
/- schismalaw44: LayoutWindows. -/
namespace Go.Proofs.YtnmmglnadnfoiaaGreatDoor
open Go.RowKit Go.Sort
theorem MatO.el {B : Nat} {w : World} {g L cap : Nat} {F : Mx} (hL : L = F.length) (h : MatO B w (slv g L cap) F) {c : Nat} (hc : c < F.length) : ∃ sr nr cr, w.cell? ⟨g, c, none⟩ = some (.slice sr nr cr) ∧ RowR w (.slice sr nr cr) F[c] := by
  subst hL
  obtain ⟨vs, k1, k2, k3⟩ := h
  have hcv : c < vs.length := by omega
  have h1 := World.ownsRow.cellAt k2 c (by omega)
  rw [List.getElem?_eq_getElem hcv] at h1
  have h2 := (k3 c hc hcv).row
  obtain ⟨sr, gb, go, cr, e, h3, h4⟩ := h2
  exact ⟨sr, F[c].length, cr, by rw [h1, e], ⟨sr, gb, go, cr, rfl, h3, h4⟩⟩
theorem BookO.el {B : Nat} {w : World} {g L cap : Nat} {G : List Mx} (hL : L = G.length) (h : BookO B w (slv g L cap) G) {y : Nat} (hy : y < G.length) (h0 : 0 < G[y].length) : ∃ g' c', w.cell? ⟨g, y, none⟩ = some (slv g' G[y].length c') ∧ MatO B w (slv g' G[y].length c') G[y] := by
  subst hL
  obtain ⟨vs, k1, k2, k3⟩ := h
  have hcv : y < vs.length := by omega
  have h1 := World.ownsRow.cellAt k2 y (by omega)
  rw [List.getElem?_eq_getElem hcv] at h1
  have h2 := k3 y hy hcv
  obtain ⟨g', c', e⟩ := h2.shape h0
  exact ⟨g', c', by rw [h1, e], by rw [← e]; exact h2⟩
theorem winTo_get {m L : Nat} {o r u : List Int} {y : Nat} (h : y < (winTo m o r u L).length) : (winTo m o r u L)[y] = winRow m ((y : Int) - m) o r u (2 * m + 1) := by simp [winTo]
theorem winRow_get {m L : Nat} {y : Int} {o r u : List Int} {c : Nat} (h : c < (winRow m y o r u L).length) : (winRow m y o r u L)[c] = atL ((c : Int) - m) y o r u := by simp [winRow]
/-- The window in memory: the cells of its lists and rows. -/
def WinR (w : World) (g L m : Nat) (o r u : List Int) : Prop := ∀ y, y < L → ∃ gy cy, w.cell? ⟨g, y, none⟩ = some (slv gy L cy) ∧ ∀ c, c < L → ∃ sr nr cr, w.cell? ⟨gy, c, none⟩ = some (.slice sr nr cr) ∧ RowR w (.slice sr nr cr) (atL ((c : Int) - m) ((y : Int) - m) o r u)
theorem BookO.win {B : Nat} {w : World} {g L cap m : Nat} {o r u : List Int} (hL : L = 2 * m + 1) (h : BookO B w (slv g L cap) (winTo m o r u L)) : WinR w g L m o r u := by
  intro y hy
  have hy' : y < (winTo m o r u L).length := by rw [winTo_length]; exact hy
  have e := winTo_get hy'
  obtain ⟨gy, cy, h1, h2⟩ := h.el (winTo_length _ _ _ _ _).symm hy' (by rw [e, winRow_length]; omega)
  rw [e] at h1 h2
  rw [winRow_length, ← hL] at h1 h2
  refine ⟨gy, cy, h1, fun c hc => ?_⟩
  have hc' : c < (winRow m ((y : Int) - m) o r u L).length := by rw [winRow_length]; exact hc
  obtain ⟨sr, nr, cr, h3, h4⟩ := h2.el (winRow_length _ _ _ _ _ _).symm hc'
  rw [winRow_get] at h4
  exact ⟨sr, nr, cr, h3, h4⟩
theorem own_rowR {B : Nat} {w : World} {g n : Nat} {x : List Int} (h : OwnV 3 B w g n (is x)) (hl : x.length = n) : RowR w (slv g n n) x := ⟨_, g, 0, n, by rw [hl], by omega, h.sl⟩
set_option maxRecDepth 100000 in
set_option maxHeartbeats 4000000 in
theorem lw_walk {w : World} {P : Pl} {nn : Int} {x : List Int} {vx : Value} (hP : P.ok) (hn : 0 ≤ nn ∧ nn ≤ 255) (hx : RowR w vx x) (hL : Laid w) :
    Calls Tryz.prog 11 #[P.v, .int .u8 nn, vx] w fun e w' => e = .returned (.bool true) ∧ Ext w w' := by
  obtain ⟨m, hm⟩ : ∃ m : Nat, nn % 6 = (m : Int) := ⟨(nn % 6).toNat, by omega⟩
  have hm5 : m ≤ 5 := by omega
  have hkn := Lib.hid (fun W (hW : Ext w W) => known44_any (hL.ext hW))
  have hmk := Lib.hid (fun W => make44 (w := W) hP)
  have hwi := Lib.hid (fun W g1 g2 g3 (h : PlP W P g1 g2 g3) => Window_any (m := m) h (by omega) (fun x y h1 h2 h3 h4 => atL_chk (by omega) (by omega)))
  have hno := Lib.hid (fun W g1 g2 g3 (x y : Int) (h : PlP W P g1 g2 g3) (hx : -1000 ≤ x ∧ x ≤ 1000) (hy : -1000 ≤ y ∧ y ≤ 1000) => note44_any h (x := x) (y := y) (by omega) (by omega))
  have hrc := Lib.hid (fun W (hW : Ext w W) => rowCheck_any (hx.ext hW))
  have HRx := Lib.hid (fun W (hW : Ext w W) => hx.ext hW)
  obtain ⟨sx, gx, ox, cx, rfl, hcx, hSx⟩ := hx
  have hkg := Lib.hid (fun W g1 g2 g3 (h : PlP W P g1 g2 g3) (hW : Ext w W) (hz : rowE P.n x = 0) => Keys_any (m := m) h (by omega) (HRx.out W hW) hz)
  have hkb := Lib.hid (fun W g1 g2 g3 (z : Int) (h : PlP W P g1 g2 g3) (hW : Ext w W) (hz : rowE P.n x = z) (hz0 : ¬ z = 0) => Keys_bad (M := (m : Int)) h (HRx.out W hW) hz hz0)
  obtain ⟨nx, hnx⟩ : ∃ nx, nx = x.length := ⟨_, rfl⟩
  have Hnx := Lib.hid hnx
  rw [← hnx] at hkg hkb hrc HRx ⊢
  obtain ⟨M, hM⟩ : ∃ M : Int, M = (m : Int) := ⟨_, rfl⟩
  have hM1 : 0 ≤ M := by omega
  have hM2 : M ≤ 5 := by omega
  rw [← hM] at hm hwi hkg hkb
  have HM := Lib.hid hM
  obtain ⟨hn1, hn2⟩ := hn
  have hol : ∀ x y, (atL x y P.o P.r P.u).length = P.n := fun x y => atL_len x y
  have Hol := Lib.hid hol
  have hn3 := P.n3
  have hX : Ext w (w.alloc (.cells #[.bool P.hx, .int .u8 P.m, .int .i8 P.a, .int .i8 P.b, .int .i8 P.c, .int .i8 P.d, .int .i8 P.e, .int .i8 P.f, .int .i8 P.p, .int .i8 P.q, .int .i8 P.s] 25)) := (Ext.refl w).alloc _
  have hpc : plC (w.alloc (.cells #[.bool P.hx, .int .u8 P.m, .int .i8 P.a, .int .i8 P.b, .int .i8 P.c, .int .i8 P.d, .int .i8 P.e, .int .i8 P.f, .int .i8 P.p, .int .i8 P.q, .int .i8 P.s] 25)) w.heap.size P := plC_new w P
  obtain ⟨bp, hbp⟩ : ∃ bp, bp = w.heap.size := ⟨_, rfl⟩
  rw [← hbp] at hpc
  clear hSx hcx hL hP hnx hM hm5 hol
  by_cases h8 : nx ≤ 8
  case neg =>
    have h9 : (nx : Int) > 8 := by omega
    go_enter Tryz.func11, Tryz.ntmps11
    go_wp2_with fail
    refine (hkn.out _ hX).mono ?_
    rintro e w1 ⟨rfl, hE1⟩
    have hX1 := hX.trans hE1
    go_wp2_with fail
    refine (hkn.out _ hX1).mono ?_
    rintro e w2 ⟨rfl, hE2⟩
    have hX2 := hX1.trans hE2
    go_wp2_with fail
    go_ret
    exact ⟨rfl, hX2⟩
  case pos =>
    have h9 : ¬ (nx : Int) > 8 := by omega
    go_enter Tryz.func11, Tryz.ntmps11
    go_wp2_with fail
    refine (hkn.out _ hX).mono ?_
    rintro e w1 ⟨rfl, hE1⟩
    have hX1 := hX.trans hE1
    obtain ⟨k0, k1, k2, k3, k4, k5, k6, k7, k8, k9, k10⟩ := hpc.ext hE1
    rw [← hbp]
    clear hE1 hX hpc hbp
    go_wp2_with fail
    refine (hmk.out _).mono ?_
    rintro e w2 ⟨g1, g2, g3, rfl, hP2, hE2⟩
    have hX2 := hX1.trans hE2
    have HP2 := Lib.hid hP2
    have hb := layC_new w2 P.k P.n g1 P.n g2 P.n g3 P.n
    obtain ⟨bl, hbl⟩ : ∃ bl, bl = w2.heap.size := ⟨_, rfl⟩
    rw [← hbl] at hb
    have hX3 := hX2.alloc (.cells #[.int .i64 P.k, slv g1 P.n P.n, slv g2 P.n P.n, slv g3 P.n P.n] 32)
    have HP3 := Lib.hid (HP2.out.ext ((Ext.refl w2).alloc (.cells #[.int .i64 P.k, slv g1 P.n P.n, slv g2 P.n P.n, slv g3 P.n P.n] 32)))
    have hw3 := Lib.hid (hwi.out _ g1 g2 g3 HP3.out)
    clear k0 k1 k2 k3 k4 k5 k6 k7 k8 k9 k10 hE2 hP2 hX1 hX2 hmk hwi
    go_wp2_with fail
    refine hw3.out.mono ?_
    rintro e w3 ⟨⟨v, rfl, hBk⟩, hE3⟩
    obtain ⟨L, hLm⟩ : ∃ L, L = 2 * m + 1 := ⟨_, rfl⟩
    rw [← hLm] at hBk
    obtain ⟨gw, cw, rfl⟩ := hBk.shape (by rw [winTo_length]; omega)
    rw [winTo_length] at hBk ⊢
    have HW := Lib.hid (hBk.win hLm)
    have HLM := Lib.hid (show (L : Int) = 2 * M + 1 by rw [HM.out]; omega)
    have HLm := Lib.hid hLm
    have b1 : ((L : Int) == 2 * M + 1) = true := by rw [beq_iff_eq]; exact HLM.out
    have b2 : ((L : Int) != 2 * M + 1) = false := by simp [bne, b1]
    have b3 : ((L : Int) == (L : Int)) = true := by simp
    have b4 : ((L : Int) != (L : Int)) = false := by simp
    have hL11 : (L : Int) ≤ 11 := by have := HLM.out; omega
    have hb3 := Lib.hid (hb.ext hE3)
    have HP4 := Lib.hid (HP3.out.ext hE3)
    have hX4 := hX3.trans hE3
    clear hBk hE3 hb HP3 HP2 hX3 hw3 hLm
    rw [← hbl]
    clear hbl
    go_wp2_with fail
    go_loopw [11, 12, 13, 14] (fun want yv cv own wr => ∃ y : Nat, y ≤ L ∧ yv = .int .i64 y ∧ Hid (KeysV w3.heap.size wr want (kyTo m x P.o P.r P.u y)) ∧ Ext w3 wr) (fun _ yv _ _ _ => L - (intOf yv).toNat)
    case atStart => exact ⟨0, by omega, by go_num, Lib.hid (by simp only [kyTo, List.range_zero, List.flatMap_nil]; exact KeysV.nil _ _), Ext.refl _⟩
    case round =>
      obtain ⟨y, hy, rfl, hO, hE⟩ := hrel
      generalize wr = Y at *
      by_cases hlt : y < L
      · have hyy : (y : Int) < (L : Int) := by omega
        obtain ⟨gy, cy, hcy, hrow⟩ := HW.out y hlt
        have Hrow := Lib.hid hrow
        have Hcy := Lib.hid hcy
        have hcY := hE.cell hcy
        clear hrow hcy
        go_wp2_with fail
        go_loopw [11, 13, 14] (fun want cv own wr => ∃ c : Nat, c ≤ L ∧ cv = .int .i64 c ∧ Hid (KeysV w3.heap.size wr want (kyTo m x P.o P.r P.u y ++ kyRow m x ((y : Int) - M) P.o P.r P.u c)) ∧ Ext w3 wr) (fun _ cv _ _ => L - (intOf cv).toNat)
        case atStart => exact ⟨0, by omega, by go_num, Lib.hid (by simp only [kyRow, List.range_zero, List.flatMap_nil, List.append_nil]; exact hO.out), hE⟩
        case round =>
          obtain ⟨c, hc, rfl, hI, hE4⟩ := hrel
          generalize wr = Z at *
          have hcZ := hE4.cell Hcy.out
          by_cases hct : c < L
          · have hcc : (c : Int) < (L : Int) := by omega
            obtain ⟨sr, nr, cr, hce, hR⟩ := Hrow.out c hct
            rw [← HM.out] at hR
            have hceZ := hE4.cell hce
            obtain ⟨c0, c1, c2, c3⟩ := hb3.out.ext hE4
            have hn := Lib.hid (hno.out Z g1 g2 g3 ((c : Int) - M) ((y : Int) - M) (HP4.out.ext hE4) ⟨by omega, by omega⟩ ⟨by omega, by omega⟩)
            have HR := Lib.hid (hR.ext hE4)
            have Hln := Lib.hid (show (kyTo m x P.o P.r P.u y ++ kyRow m x ((y : Int) - M) P.o P.r P.u c).length ≤ 100000 by
              have h1 := kyTo_le m x P.o P.r P.u y
              have h2 := kyRow_le m x ((y : Int) - M) P.o P.r P.u c
              have h3 : (2 * m + 1) * y ≤ (2 * 5 + 1) * 11 := Nat.mul_le_mul (by have := HM.out; omega) (by omega)
              rw [List.length_append]; omega)
            have hstep := kyRow_succ m x ((y : Int) - M) P.o P.r P.u c
            rw [← HM.out] at hstep
            obtain ⟨A, hA⟩ : ∃ A, A = atL ((c : Int) - M) ((y : Int) - M) P.o P.r P.u := ⟨_, rfl⟩
            have HA := Lib.hid (show A.length = P.n by rw [hA]; exact Hol.out _ _)
            rw [← hA] at hn HR hstep
            clear hA hce hR
            obtain ⟨xd, hxd⟩ : ∃ xd, xd = (c : Int) - M := ⟨_, rfl⟩
            obtain ⟨yd, hyd⟩ : ∃ yd, yd = (y : Int) - M := ⟨_, rfl⟩
            rw [← hxd, ← hyd] at hstep
            rw [← hyd] at hI Hln
            have Hxd := Lib.hid hxd
            have Hyd := Lib.hid hyd
            clear hxd hyd
            go_wp2_with fail
            refine hn.out.mono ?_
            rintro e w5 ⟨go5, rfl, hO5, hE5⟩
            have HO5 := Lib.hid (own_rowR hO5 HA.out)
            have hs1 := Lib.hid (same_ok (HR.out.ext hE5) HO5.out (by rw [HA.out]; omega) rfl)
            have hE6 := hE4.trans hE5
            replace hcZ := hE5.cell hcZ
            replace hceZ := hE5.cell hceZ
            have HI5 := Lib.hid (hI.out.ext hE5)
            clear hn hO5 hE5 c0 c1 c2 c3 hI HR
            go_wp2_with fail
            refine hs1.out.mono ?_
            rintro e w6 ⟨rfl, hE7⟩
            have hE8 := hE6.trans hE7
            have hs2 := Lib.hid (Same_any (HO5.out.ext hE7) (HRx.out w6 (hX4.trans hE8)) (by rw [HA.out]; omega))
            have HI6 := Lib.hid (HI5.out.ext hE7)
            clear hs1 HO5 hE7 hE6 HI5 hcZ hceZ
            by_cases he : A = x
            · rw [decide_eq_true he] at hs2
              rw [if_pos he] at hstep
              have Hstep := Lib.hid (show kyTo m x P.o P.r P.u y ++ kyRow m x yd P.o P.r P.u (c + 1) = (kyTo m x P.o P.r P.u y ++ kyRow m x yd P.o P.r P.u c) ++ [(xd, yd)] by rw [hstep, List.append_assoc])
              clear hstep he
              go_wp2_with fail
              refine hs2.out.mono ?_
              rintro e w7 ⟨rfl, hE9⟩
              have HI7 := Lib.hid (HI6.out.ext hE9)
              have hE10 := hE8.trans hE9
              have hs10 := hE10.size
              clear hs2 HI6
              go_wp2_with (at_builtin; refine app_key rfl _ _ rfl rfl (HI7.out.ext ((Ext.refl _).alloc _)) rfl (b := w7.heap.size) (y := xd) (z := yd) (by rw [Hxd.out]; go_simp) (by rw [Hyd.out]; go_simp) (by have := Hln.out; omega) (by simp; omega) ?_; intro gg cap2 w8 hO8 hB8 hG8; rw [← Hstep.out] at hO8; have hE9 := Below.trans (hE10.alloc _) hB8; replace hO8 := Lib.hid hO8; clear hB8 hG8)
              refine ⟨⟨c + 1, by omega, by go_num, by rw [← List.length_append, ← Hyd.out]; exact hO8, hE9⟩, by simp [intOf]; omega⟩
            · rw [decide_eq_false he] at hs2
              rw [if_neg he, List.append_nil] at hstep
              have Hstep := Lib.hid hstep
              clear hstep he
              go_wp2_with fail
              refine hs2.out.mono ?_
              rintro e w7 ⟨rfl, hE9⟩
              have HI7 := Lib.hid (HI6.out.ext hE9)
              rw [← Hstep.out, Hyd.out] at HI7
              have hE10 := hE8.trans hE9
              clear hs2 HI6
              go_wp2_with fail
              go_roundw
              case rel => exact ⟨c + 1, by omega, by go_num, HI7, hE10⟩
              case measure => simp [intOf] <;> omega
          · have hce : c = L := by omega
            have hT := hI.out
            rw [hce, HM.out, HLm.out, ← kyTo_succ m x P.o P.r P.u y] at hT
            have HT := Lib.hid hT
            have hcc : ¬ (c : Int) < (L : Int) := by omega
            clear hT hI hO
            go_wp2_with fail
            go_roundw
            case rel => exact ⟨y + 1, by omega, by go_num, HT, hE4⟩
            case measure => simp [intOf] <;> omega
      · have hye : y = L := by omega
        have hyy : ¬ (y : Int) < (L : Int) := by omega
        have hT := hO.out
        rw [hye, HLm.out] at hT
        have HT := Lib.hid hT
        have hX5 := hX4.trans hE
        obtain ⟨c0, c1, c2, c3⟩ := hb3.out.ext hE
        have Hb5 := Lib.hid (hb3.out.ext hE)
        have HP5 := Lib.hid (HP4.out.ext hE)
        have Hkl := Lib.hid (show (kyTo m x P.o P.r P.u (2 * m + 1)).length ≤ 1000000 by
          have h1 := kyTo_le m x P.o P.r P.u (2 * m + 1)
          have h3 : (2 * m + 1) * (2 * m + 1) ≤ (2 * 5 + 1) * 11 := Nat.mul_le_mul (by have := HM.out; omega) (by have := HM.out; omega)
          omega)
        clear hT hO HP4 hX4 hE hb3 hno HW
        by_cases hz : rowE P.n x = 0
        · obtain ⟨hlen, hchk⟩ := rowE_zero hz
          have hk := Lib.hid (hkg.out Y g1 g2 g3 HP5.out hX5 hz)
          rw [← Hnx.out] at hlen
          have hq1 : ((nx : Int) == (P.n : Int)) = true := by rw [beq_iff_eq]; omega
          have hq2 : ((nx : Int) != (P.n : Int)) = false := by simp [bne, hq1]
          have Hchk := Lib.hid hchk
          have Hlen := Lib.hid hlen
          clear hz hchk hkg hkb hlen
          go_wp2_with fail
          refine hk.out.mono ?_
          rintro e w5 ⟨⟨vk, rfl, hV⟩, hE5⟩
          have hX6 := hX5.trans hE5
          have hc := Lib.hid (hrc.out w5 hX6)
          rw [Hchk.out] at hc
          have hb6 := Hb5.out.ext hE5
          have HT6 := Lib.hid (HT.out.ext hE5)
          have HV := Lib.hid hV
          clear hk hE5 c0 c1 c2 c3 hV hX5
          go_wp2_with fail
          refine hc.out.mono ?_
          rintro e w6 ⟨rfl, hE6⟩
          obtain ⟨c0, c1, c2, c3⟩ := hb6.ext hE6
          have hkv := Lib.hid (keys_val (HV.out.ext hE6) (HT6.out.ext hE6) Hkl.out)
          have hX7 := hX6.trans hE6
          clear hc HV HT6 hE6
          go_wp2_with fail
          refine hkv.out.mono ?_
          rintro e w7 ⟨rfl, hE7⟩
          have hX8 := hX7.trans hE7
          go_wp2_with fail
          go_ret
          exact ⟨rfl, hX8⟩
        · obtain ⟨z, hze⟩ : ∃ z, z = rowE P.n x := ⟨_, rfl⟩
          rw [← hze] at hz
          have hk := Lib.hid (hkb.out Y g1 g2 g3 z HP5.out hX5 hze.symm hz)
          have hz1 : (z == 0) = false := beq_eq_false_iff_ne.2 hz
          have hz2 : (z != 0) = true := by simp [bne, hz1]
          have hz3 : (z == z) = true := by simp
          obtain ⟨q, hqe⟩ : ∃ q, q = chkRow x := ⟨_, rfl⟩
          rw [← hqe] at hrc
          by_cases hq : q = 0
          · have h5 : z = 5 ∧ x.length ≠ P.n := by
              rw [hze]
              rw [hze] at hz
              unfold rowE at hz ⊢
              rw [if_pos (by rw [← hqe]; exact hq)] at hz ⊢
              by_cases hl : x.length = P.n
              · rw [if_pos hl] at hz; exact absurd rfl hz
              · rw [if_neg hl]; exact ⟨rfl, hl⟩
            obtain ⟨rfl, hl⟩ := h5
            subst hq
            rw [← Hnx.out] at hl
            have hq1 : ((nx : Int) == (P.n : Int)) = false := beq_eq_false_iff_ne.2 (by omega)
            have hq2 : ((nx : Int) != (P.n : Int)) = true := by simp [bne, hq1]
            clear hqe hze hl hz hkg hkb hz3
            go_wp2_with fail
            refine hk.out.mono ?_
            rintro e w5 ⟨rfl, hE5⟩
            have hX6 := hX5.trans hE5
            have hc := Lib.hid (hrc.out w5 hX6)
            have hb6 := Hb5.out.ext hE5
            clear hk hE5 c0 c1 c2 c3 hX5
            go_wp2_with fail
            refine hc.out.mono ?_
            rintro e w6 ⟨rfl, hE6⟩
            obtain ⟨c0, c1, c2, c3⟩ := hb6.ext hE6
            have hX7 := hX6.trans hE6
            clear hc hE6
            go_wp2_with fail
            go_ret
            exact ⟨rfl, hX7⟩
          · have hzq : z = q := by
              rw [hze]; unfold rowE
              rw [if_neg (by rw [← hqe]; exact hq), ← hqe]
            subst hzq
            clear hqe hze hkg hkb
            go_wp2_with fail
            refine hk.out.mono ?_
            rintro e w5 ⟨rfl, hE5⟩
            have hX6 := hX5.trans hE5
            have hc := Lib.hid (hrc.out w5 hX6)
            clear hk hE5 c0 c1 c2 c3 hX5
            go_wp2_with fail
            refine hc.out.mono ?_
            rintro e w6 ⟨rfl, hE6⟩
            have hX7 := hX6.trans hE6
            clear hc hE6
            go_wp2_with fail
            go_ret
            exact ⟨by simp, hX7⟩
end Go.Proofs.YtnmmglnadnfoiaaGreatDoor
/- rows among arguments -/
namespace Go.Proofs.YtnmmglnadnfoiaaGreatDoor
open Go.ChangeShapes Go.WideShapes Go.ChangeAt Go.WideMaps Go.WideElems Go.RowKit Go.Deep
theorem introw_open {H : Type} {enc : TypeId × Value → H} {W : World} {base : Nat} {held : Bool} {fuel : Nat} {v : Value} {x : DataW H × List MemPlace} (hv : v.cells.toList = [v])
    (h : DataW.trod enc Tryz.prog W base (fun _ => true) held fuel 30 v.cells.toList = some x) : ∃ r, RowR W v r := by
  rw [hv] at h
  rcases open_ints Tryz.underlying30 Tryz.underlying3 fr_cI h with ⟨hcs, _⟩ | ⟨a, len, cap, zs, hcs, hb, hl, _, hz, _, hc, _⟩
  · obtain rfl : v = .slice none 0 0 := by simpa using hcs
    exact ⟨[], row_open (base := 0) (Z := []) (Nat.le_refl 0) rfl (fun _ => rfl) (fun a' h => by cases h)⟩
  · obtain rfl : v = .slice (some a) len cap := by simpa using hcs
    rw [if_pos rfl] at hz
    exact ⟨zs.take len, row_open (base := base) hl hz (fun h => by cases h) (fun a' h => by cases h; exact ⟨hb, fun c hcc => hc c (by omega)⟩)⟩
end Go.Proofs.YtnmmglnadnfoiaaGreatDoor
