/- Part 28 of the proof of the claim: contracts of the functions that it reaches, and plain laws; no condition. -/
import Derived.Test.YtokjolmpdfmnbaaGreatDoorU25
import Derived.BigQuiet
import Derived.Test.YtokjolmpdfmnbaaGreatDoorU08
import Derived.OrdersHeld
namespace Go.Proofs.YtokjolmpdfmnbaaGreatDoor
open Go.RowKit Go.Sort
def plR (l : List Int) : List Int := l.map fun z => z.tmod 10
def plTo (n : Nat) (l : List Int) (i : Nat) : List Int := (plR l).take i ++ List.replicate (n - i) 0
theorem plTo_length {n i : Nat} {l : List Int} (hl : n ≤ l.length) (hi : i ≤ n) : (plTo n l i).length = n := by
  unfold plTo plR
  rw [List.length_append, List.length_take, List.length_map, List.length_replicate]; omega
theorem plTo_step {n i : Nat} {l : List Int} (hl : n ≤ l.length) (hi : i < n) : plTo n l (i + 1) = (plTo n l i).set i ((l.getD i 0).tmod 10) := by
  refine List.ext_getElem (by rw [List.length_set, plTo_length hl (by omega), plTo_length hl (by omega)]) fun t h1 h2 => ?_
  have ht : t < n := by rwa [plTo_length hl (by omega)] at h1
  have e : ∀ j, j ≤ n → ∀ h : t < (plTo n l j).length, (plTo n l j)[t] = if t < j then (l.getD t 0).tmod 10 else 0 := fun j hj h => by
    have htl : ((plR l).take j).length = j := by unfold plR; rw [List.length_take, List.length_map]; omega
    by_cases htj : t < j
    · simp only [plTo, if_pos htj]
      rw [List.getElem_append_left (by omega), List.getElem_take]
      simp only [plR, List.getElem_map]
      rw [getD_get (by omega)]
    · simp only [plTo, if_neg htj]
      rw [List.getElem_append_right (by omega)]
      simp
  rw [e (i + 1) (by omega), List.getElem_set]
  by_cases hti : i = t
  · subst hti; rw [if_pos (by omega), if_pos rfl]
  · rw [if_neg hti, e i (by omega)]
    by_cases h3 : t < i
    · rw [if_pos (by omega), if_pos h3]
    · rw [if_neg (by omega), if_neg h3]
set_option maxRecDepth 100000 in
set_option maxHeartbeats 1000000 in
theorem row44_any {w : World} {a b c : Int} {n : Nat} (hn : n ≤ 3) (ha : -128 ≤ a ∧ a ≤ 127) (hb : -128 ≤ b ∧ b ≤ 127) (hc : -128 ≤ c ∧ c ≤ 127) :
    Calls Tryz.prog 80 #[.agg #[.int .i8 a, .int .i8 b, .int .i8 c], .int .i64 n] w fun e w' => ∃ g, e = .returned (slv g n n) ∧ OwnV 3 w.heap.size w' g n (is (plTo n [a, b, c] n)) ∧ Ext w w' := by
  obtain ⟨i0, hi, hz0, hz1, hz2⟩ := info_parts Tryz.infoInt
  obtain ⟨ha1, ha2⟩ := ha
  obtain ⟨hb1, hb2⟩ := hb
  obtain ⟨hc1, hc2⟩ := hc
  go_enter Tryz.func80, Tryz.ntmps80
  go_wp2_with (at_make; refine wpList_make_full _ rfl _ _ 32 rfl w.heap.size 3 i0 (.int .i64 0) 1 Tryz.underlying32 hi hz0 hz1 .i64 .i64 _ _ n rfl rfl (by omega) (by omega) (by rw [hz2]; omega) (by unfold maxLen; omega) (by simp <;> omega) ?_; intro w1 hown1 hgrow1; have hE1 := ext_grown hgrow1; have c0 : w1.cell? ⟨w.heap.size, 0, none⟩ = some (.int .i8 a) := hE1.cell (by go_simp); have c1 : w1.cell? ⟨w.heap.size, 1, none⟩ = some (.int .i8 b) := hE1.cell (by go_simp); have c2 : w1.cell? ⟨w.heap.size, 2, none⟩ = some (.int .i8 c) := hE1.cell (by go_simp))
  have hX1 : Ext w w1 := ((Ext.refl w).alloc _).trans hE1
  rw [show (w.alloc (.cells #[.int .i8 a, .int .i8 b, .int .i8 c] 26)).heap.size = w.heap.size + 1 by simp] at hown1
  obtain ⟨g, hg⟩ : ∃ g, g = w.heap.size + 1 := ⟨_, rfl⟩
  rw [← hg] at hown1 ⊢
  have hb0 : OwnV 3 w.heap.size w1 g n (is (List.replicate n 0)) := row_ownV (zero_row hown1) (by simp)
  have HO1 := Lib.hid hb0
  have hgp : g ≠ w.heap.size := by omega
  have hwg : w.heap.size ≤ g := by omega
  clear hg hb0 hown1 hgrow1 hE1
  go_loopw [6] (fun idx wr => ∃ i : Nat, i ≤ n ∧ idx = .int .i64 i ∧ Hid (OwnV 3 w.heap.size wr g n (is (plTo n [a, b, c] i))) ∧ Hid (w1.grownBy wr (some g))) (fun idx _ => n - (intOf idx).toNat)
  case atStart => exact ⟨0, by omega, by go_num, Lib.hid (by unfold plTo; simpa using HO1.out), Lib.hid (World.grownBy.refl _ _)⟩
  case round =>
    obtain ⟨i, hi', rfl, hO, hG⟩ := hrel
    generalize wr = X at *
    have hXE := ext_trans_grown hX1 hG.out hwg
    by_cases hlt : i < n
    · have hC : Chg (fun k => k = g) w1 X := Chg.of_grown hG.out rfl
      have e0 := hC.cell (by omega) c0
      have e1 := hC.cell (by omega) c1
      have e2 := hC.cell (by omega) c2
      have hlen := plTo_length (n := n) (l := [a, b, c]) (i := i) (by simpa using hn) (by omega)
      have hfr := hO.out.frozen i
      obtain ⟨old, hcl⟩ : ∃ old, X.cell? ⟨g, i, none⟩ = some old := ⟨_, hO.out.cell (j := i) (by rw [is_length, hlen]; exact hlt)⟩
      have hii : (i : Int) < (n : Int) := by omega
      have hst := plTo_step (n := n) (l := [a, b, c]) (i := i) (by simpa using hn) hlt
      have Hset := Lib.hid (hO.out.set i (.int .i64 (([a, b, c].getD i 0).tmod 10)))
      rw [← is_set, ← hst] at Hset
      clear hst hlen hO
      rcases (show i = 0 ∨ i = 1 ∨ i = 2 by omega) with rfl | rfl | rfl
      all_goals
        simp only [List.getD_cons_zero, List.getD_cons_succ] at Hset
        go_wp2_with fail
        first
          | exact ⟨⟨1, by omega, rfl, Lib.hid Hset.out.1, Lib.hid (grown_trans hG.out Hset.out.2)⟩, by simp [intOf] <;> omega⟩
          | exact ⟨⟨2, by omega, rfl, Lib.hid Hset.out.1, Lib.hid (grown_trans hG.out Hset.out.2)⟩, by simp [intOf] <;> omega⟩
          | exact ⟨⟨3, by omega, rfl, Lib.hid Hset.out.1, Lib.hid (grown_trans hG.out Hset.out.2)⟩, by simp [intOf] <;> omega⟩
    · have hie : i = n := by omega
      subst hie
      have Hres := Lib.hid (⟨g, rfl, hO.out, hXE⟩ : ∃ g', (Ending.returned (slv g i i)) = .returned (slv g' i i) ∧ OwnV 3 w.heap.size X g' i (is (plTo i [a, b, c] i)) ∧ Ext w X)
      go_wp2_with fail
      go_ret
      exact Hres.out
end Go.Proofs.YtokjolmpdfmnbaaGreatDoor
namespace Go.Proofs.YtokjolmpdfmnbaaGreatDoor
open Go.RowKit Go.Sort
def noTo (x y : Int) (n i : Nat) (o r u : List Int) : List Int := (atL x y o r u).take i ++ List.replicate (n - i) 0
theorem noTo_length {x y : Int} {i n : Nat} {o r u : List Int} (ho : o.length = n) (hr : r.length = n) (hu : u.length = n) (hi : i ≤ n) : (noTo x y n i o r u).length = n := by
  unfold noTo
  rw [List.length_append, List.length_take, List.length_replicate, atL_length _ _ _ _ _ (by omega) (by omega)]; omega
theorem noTo_step {x y : Int} {i n : Nat} {o r u : List Int} (ho : o.length = n) (hr : r.length = n) (hu : u.length = n) (hi : i < n) : noTo x y n (i + 1) o r u = (noTo x y n i o r u).set i (o.getD i 0 + x * r.getD i 0 + y * u.getD i 0) := by
  have hl := atL_length x y o r u (by omega) (by omega)
  refine List.ext_getElem (by rw [List.length_set, noTo_length ho hr hu (by omega), noTo_length ho hr hu (by omega)]) fun t h1 h2 => ?_
  have ht : t < n := by rwa [noTo_length ho hr hu (by omega)] at h1
  have e : ∀ j, j ≤ n → ∀ h : t < (noTo x y n j o r u).length, (noTo x y n j o r u)[t] = if t < j then (atL x y o r u).getD t 0 else 0 := fun j hj h => by
    have htl : ((atL x y o r u).take j).length = j := by rw [List.length_take]; omega
    by_cases htj : t < j
    · simp only [noTo, if_pos htj]
      rw [List.getElem_append_left (by omega), List.getElem_take, getD_get (by omega)]
    · simp only [noTo, if_neg htj]
      rw [List.getElem_append_right (by omega)]
      simp
  rw [e (i + 1) (by omega), List.getElem_set]
  by_cases hti : i = t
  · subst hti
    rw [if_pos (by omega), if_pos rfl, atL_get _ _ _ _ _ _ (by omega) (by omega) (by omega)]; omega
  · rw [if_neg hti, e i (by omega)]
    by_cases h3 : t < i
    · rw [if_pos (by omega), if_pos h3]
    · rw [if_neg (by omega), if_neg h3]
set_option maxRecDepth 100000 in
set_option maxHeartbeats 1000000 in
theorem note44_any {w : World} {k x y : Int} {n go co gr cr gu cu : Nat} {o r u : List Int} (h : LayP w k n go co gr cr gu cu o r u) (hx : -1000000 ≤ x ∧ x ≤ 1000000) (hy : -1000000 ≤ y ∧ y ≤ 1000000) :
    Calls Tryz.prog 37 #[layv k n go co gr cr gu cu, .int .i64 x, .int .i64 y] w fun e w' => ∃ g, e = .returned (slv g n n) ∧ OwnV 3 w.heap.size w' g n (is (atL x y o r u)) ∧ Ext w w' := by
  have H := Lib.hid h
  obtain ⟨i0, hi, hz0, hz1, hz2⟩ := info_parts Tryz.infoInt
  have hinfo : (Tryz.prog.info? 3).map (·.size) = some 1 := by rw [hi]; simp [hz1]
  have Hinfo := Lib.hid hinfo
  have Hlo := Lib.hid h.lo
  have Hlr := Lib.hid h.lr
  have Hlu := Lib.hid h.lu
  have Hbo := Lib.hid (chkRow_ok h.eo).2
  have Hbr := Lib.hid (chkRow_ok h.er).2
  have Hbu := Lib.hid (chkRow_ok h.eu).2
  have hn := h.n12
  obtain ⟨hx1, hx2⟩ := hx
  obtain ⟨hy1, hy2⟩ := hy
  clear h hinfo
  go_enter Tryz.func37, Tryz.ntmps37
  go_wp2_with (at_make; refine wpList_make_full _ rfl _ _ 32 rfl w.heap.size 3 i0 (.int .i64 0) 1 Tryz.underlying32 hi hz0 hz1 .i64 .i64 _ _ n rfl rfl (by omega) (by omega) (by rw [hz2]; omega) (by unfold maxLen; omega) (by simp <;> omega) ?_; intro w1 hown1 hgrow1; have hE1 := ext_grown hgrow1; have d0 : w1.cell? ⟨w.heap.size, 1, none⟩ = some (slv go n co) := hE1.cell (by go_simp); have d1 : w1.cell? ⟨w.heap.size, 2, none⟩ = some (slv gr n cr) := hE1.cell (by go_simp); have d2 : w1.cell? ⟨w.heap.size, 3, none⟩ = some (slv gu n cu) := hE1.cell (by go_simp))
  have hX2 : Ext w w1 := ((Ext.refl w).alloc _).trans hE1
  rw [show (w.alloc (.cells #[.int .i64 k, slv go n co, slv gr n cr, slv gu n cu] 54)).heap.size = w.heap.size + 1 by simp] at hown1
  obtain ⟨g, hg⟩ : ∃ g, g = w.heap.size + 1 := ⟨_, rfl⟩
  rw [← hg] at hown1 ⊢
  have hb0 : OwnV 3 w.heap.size w1 g n (is (List.replicate n 0)) := row_ownV (zero_row hown1) (by simp)
  have HO2 := Lib.hid hb0
  have hgb := hb0.lt
  have hwg : w.heap.size ≤ g := by omega
  obtain ⟨p, hp⟩ : ∃ p, p = w.heap.size := ⟨_, rfl⟩
  have hgp : g ≠ p := by omega
  clear hg hb0 hown1 hgrow1 hE1
  rw [← hp] at d0 d1 d2 ⊢
  have hgo : go ≠ g ∨ n = 0 := by
    rcases Nat.eq_zero_or_pos n with h | h
    · exact .inr h
    · have := H.out.po.2.lt (by rw [is_length, Hlo.out]; exact h)
      left; omega
  have hgr : gr ≠ g ∨ n = 0 := by
    rcases Nat.eq_zero_or_pos n with h | h
    · exact .inr h
    · have := H.out.pr.2.lt (by rw [is_length, Hlr.out]; exact h)
      left; omega
  have hgu : gu ≠ g ∨ n = 0 := by
    rcases Nat.eq_zero_or_pos n with h | h
    · exact .inr h
    · have := H.out.pu.2.lt (by rw [is_length, Hlu.out]; exact h)
      left; omega
  have Hp := Lib.hid hp
  have hB := hgb.1
  clear hp
  go_loopw [8] (fun idx wr => ∃ i : Nat, i ≤ n ∧ idx = .int .i64 i ∧ Hid (OwnV 3 w.heap.size wr g n (is (noTo x y n i o r u))) ∧ Hid (w1.grownBy wr (some g))) (fun idx _ => n - (intOf idx).toNat)
  case atStart => exact ⟨0, by omega, by go_num, Lib.hid (by show OwnV _ _ _ _ _ (is (noTo x y n 0 o r u)); unfold noTo; simpa using HO2.out), Lib.hid (World.grownBy.refl _ _)⟩
  case round =>
    obtain ⟨i, hi', rfl, hO, hG⟩ := hrel
    generalize wr = X at *
    have hXE := ext_trans_grown hX2 hG.out hB
    by_cases hlt : i < n
    · have hii : (i : Int) < (n : Int) := by omega
      have hC : Chg (fun k => k = g) w1 X := Chg.of_grown hG.out rfl
      have e0 := hC.cell (by omega) d0
      have e1 := hC.cell (by omega) d1
      have e2 := hC.cell (by omega) d2
      have hlen := noTo_length (x := x) (y := y) (i := i) Hlo.out Hlr.out Hlu.out (by omega)
      have c1 := hO.out.cell (j := i) (by rw [is_length, hlen]; exact hlt)
      obtain ⟨a, ha⟩ : ∃ a, a = o.getD i 0 := ⟨_, rfl⟩
      obtain ⟨b, hb⟩ : ∃ b, b = r.getD i 0 := ⟨_, rfl⟩
      obtain ⟨c, hc⟩ : ∃ c, c = u.getD i 0 := ⟨_, rfl⟩
      obtain ⟨old, hcl⟩ : ∃ old, X.cell? ⟨g, i, none⟩ = some old := ⟨_, c1⟩
      clear c1
      have c1 := (H.out.po.ext hXE).2.cell i (.int .i64 a) (by rw [ha, getD_get (by rw [Hlo.out]; exact hlt)]; exact is_get (by rw [Hlo.out]; exact hlt))
      have c2 := (H.out.pr.ext hXE).2.cell i (.int .i64 b) (by rw [hb, getD_get (by rw [Hlr.out]; exact hlt)]; exact is_get (by rw [Hlr.out]; exact hlt))
      have c3 := (H.out.pu.ext hXE).2.cell i (.int .i64 c) (by rw [hc, getD_get (by rw [Hlu.out]; exact hlt)]; exact is_get (by rw [Hlu.out]; exact hlt))
      rw [Nat.zero_add] at c1 c2 c3
      have ba : -1000000000 ≤ a ∧ a ≤ 1000000000 := by rw [ha, getD_get (by rw [Hlo.out]; exact hlt)]; exact Hbo.out _ (List.getElem_mem _)
      have bb : -1000000000 ≤ b ∧ b ≤ 1000000000 := by rw [hb, getD_get (by rw [Hlr.out]; exact hlt)]; exact Hbr.out _ (List.getElem_mem _)
      have bc : -1000000000 ≤ c ∧ c ≤ 1000000000 := by rw [hc, getD_get (by rw [Hlu.out]; exact hlt)]; exact Hbu.out _ (List.getElem_mem _)
      have m1 := mul_i64 ⟨hx1, hx2⟩ bb
      have m2 := mul_i64 ⟨hy1, hy2⟩ bc
      have w1' : IntKind.i64.wrap (x * b) = x * b := IntWalk.i64_in _ (by omega)
      have w2' : IntKind.i64.wrap (y * c) = y * c := IntWalk.i64_in _ (by omega)
      have w3' : IntKind.i64.wrap (a + x * b) = a + x * b := IntWalk.i64_in _ (by omega)
      have w4' : IntKind.i64.wrap (a + x * b + y * c) = a + x * b + y * c := IntWalk.i64_in _ (by omega)
      have Hst := Lib.hid (noTo_step (x := x) (y := y) (i := i) Hlo.out Hlr.out Hlu.out hlt)
      rw [← ha, ← hb, ← hc] at Hst
      have k1 := cell_regrown e1
      have k2 := cell_regrown e2
      have k3 := cell_regrown e0
      have k4 := cell_regrown hcl
      have k5 := cell_regrown c1
      have k6 := cell_regrown c2
      have k7 := cell_regrown c3
      have q1 := hcl
      clear ha hb hc ba bb bc m1 m2
      go_wp2_with fail
      refine wp_region_quiet_tail 23 (by kernel_rfl) (by kernel_rfl) ?_
      simp only [List.take_succ_cons, List.take_zero, List.drop_succ_cons, List.drop_zero]
      repeat (go_big_quiet_step (fail))
      refine wpQuiet_nil ?_
      intro _ hw'
      obtain ⟨⟨dq, osq⟩, hw''⟩ := hw'
      subst hw''
      have hE5 := ext_regrown X dq osq
      have d5 := hE5.cell q1
      clear k1 k2 k3 k4 k5 k6 k7
      generalize grow (redrawn X dq) osq = w5 at *
      have f5 := (hO.out.ext hE5).frozen i
      obtain ⟨hO6, hG6⟩ := (hO.out.ext hE5).set i (.int .i64 (a + x * b + y * c))
      rw [← is_set, ← Hst.out] at hO6
      have HO6 := Lib.hid hO6
      have HG6 := Lib.hid (grown_trans hG.out (grown_trans (grown_ext hE5 (some g)) hG6))
      clear hO6 hG6 hE5
      go_wp2_with fail
      go_roundw
      case rel => exact ⟨i + 1, by omega, by go_num, HO6, HG6⟩
      case measure => simp [intOf] <;> omega
    · have hii : ¬ (i : Int) < (n : Int) := by omega
      have hin : i = n := by omega
      have hall : noTo x y n i o r u = atL x y o r u := by
        unfold noTo
        rw [List.take_of_length_le (by rw [atL_length _ _ _ _ _ (by rw [Hlo.out, Hlr.out]) (by rw [Hlo.out, Hlu.out]), Hlo.out]; omega), show n - i = 0 by omega, List.replicate_zero, List.append_nil]
      rw [hall] at hO
      clear hall
      go_wp2_with fail
      go_ret
      exact ⟨g, rfl, hO.out, hXE⟩
end Go.Proofs.YtokjolmpdfmnbaaGreatDoor
namespace Go.Proofs.YtokjolmpdfmnbaaGreatDoor
open Go.RowKit Go.Sort
abbrev planv (hx : Bool) (n : Int) (a b c d e f p q s : Int) : Value := .agg #[.bool hx, .int .u8 n, .int .i8 a, .int .i8 b, .int .i8 c, .int .i8 d, .int .i8 e, .int .i8 f, .int .i8 p, .int .i8 q, .int .i8 s]
structure Pl where
  hx : Bool
  m : Int
  a : Int
  b : Int
  c : Int
  d : Int
  e : Int
  f : Int
  p : Int
  q : Int
  s : Int
abbrev I8 (z : Int) : Prop := -128 ≤ z ∧ z ≤ 127
structure Pl.ok (P : Pl) : Prop where
  m : 0 ≤ P.m ∧ P.m ≤ 255
  a : I8 P.a
  b : I8 P.b
  c : I8 P.c
  d : I8 P.d
  e : I8 P.e
  f : I8 P.f
  p : I8 P.p
  q : I8 P.q
  s : I8 P.s
abbrev Pl.v (P : Pl) : Value := planv P.hx P.m P.a P.b P.c P.d P.e P.f P.p P.q P.s
def Pl.n (P : Pl) : Nat := (P.m % 4).toNat
def Pl.k (P : Pl) : Int := if P.hx then 2 else 1
def Pl.o (P : Pl) : List Int := plTo P.n [P.a, P.b, P.c] P.n
def Pl.r (P : Pl) : List Int := plTo P.n [P.d, P.e, P.f] P.n
def Pl.u (P : Pl) : List Int := plTo P.n [P.p, P.q, P.s] P.n
theorem Pl.n3 (P : Pl) : P.n ≤ 3 := by
  have h1 := Int.emod_nonneg P.m (show (4 : Int) ≠ 0 by decide)
  have h2 := Int.emod_lt_of_pos P.m (show (0 : Int) < 4 by decide)
  unfold Pl.n; omega
theorem Pl.nI {P : Pl} : P.m % 4 = (P.n : Int) := by
  have h1 := Int.emod_nonneg P.m (show (4 : Int) ≠ 0 by decide)
  unfold Pl.n; omega
theorem Pl.kind (P : Pl) : P.k = 1 ∨ P.k = 2 := by
  unfold Pl.k; cases P.hx
  · exact .inl rfl
  · exact .inr rfl
theorem plTo_small {n : Nat} {l : List Int} : ∀ z ∈ plTo n l n, -9 ≤ z ∧ z ≤ 9 := fun z hz => by
  unfold plTo plR at hz
  rcases List.mem_append.1 hz with hz | hz
  · obtain ⟨y, _, rfl⟩ := List.mem_map.1 (List.mem_of_mem_take hz)
    have h1 := Int.lt_tmod_of_pos y (show (0 : Int) < 10 by decide)
    have h2 := Int.tmod_lt_of_pos y (show (0 : Int) < 10 by decide)
    omega
  · have := (List.mem_replicate.1 hz).2; omega
theorem chkRow_of {x : List Int} (hl : x.length ≤ 64) (hb : ∀ z ∈ x, -1000000000 ≤ z ∧ z ≤ 1000000000) : chkRow x = 0 := by
  unfold chkRow
  rw [if_neg (by omega), if_neg]
  intro h
  obtain ⟨z, hz, hg⟩ := List.any_eq_true.1 h
  have := hb z hz
  unfold grt at hg
  have := of_decide_eq_true hg
  omega
theorem plTo_chk {n : Nat} {l : List Int} (hn : n ≤ 3) (hl : n ≤ l.length) : chkRow (plTo n l n) = 0 :=
  chkRow_of (by rw [plTo_length hl (Nat.le_refl _)]; omega) (fun z hz => by have := plTo_small z hz; omega)
theorem Pl.lo (P : Pl) : P.o.length = P.n := plTo_length (by have := P.n3; simpa using this) (Nat.le_refl _)
theorem Pl.lr (P : Pl) : P.r.length = P.n := plTo_length (by have := P.n3; simpa using this) (Nat.le_refl _)
theorem Pl.lu (P : Pl) : P.u.length = P.n := plTo_length (by have := P.n3; simpa using this) (Nat.le_refl _)
theorem Pl.eo (P : Pl) : chkRow P.o = 0 := plTo_chk P.n3 (by have := P.n3; simpa using this)
theorem Pl.er (P : Pl) : chkRow P.r = 0 := plTo_chk P.n3 (by have := P.n3; simpa using this)
theorem Pl.eu (P : Pl) : chkRow P.u = 0 := plTo_chk P.n3 (by have := P.n3; simpa using this)
theorem small_mul {x z t : Int} (hx : -t ≤ x ∧ x ≤ t) (hz : -9 ≤ z ∧ z ≤ 9) : -(9 * t) ≤ x * z ∧ x * z ≤ 9 * t := by
  have h1 : (x * z).natAbs ≤ t.toNat * 9 := by
    rw [Int.natAbs_mul]; exact Nat.mul_le_mul (by omega) (by omega)
  omega
theorem atL_small {x y t : Int} (hx : -t ≤ x ∧ x ≤ t) (hy : -t ≤ y ∧ y ≤ t) : ∀ {o r u : List Int}, (∀ z ∈ o, -9 ≤ z ∧ z ≤ 9) → (∀ z ∈ r, -9 ≤ z ∧ z ≤ 9) → (∀ z ∈ u, -9 ≤ z ∧ z ≤ 9) → ∀ z ∈ atL x y o r u, -(18 * t + 9) ≤ z ∧ z ≤ 18 * t + 9
  | [], _, _, _, _, _, z, hz => by simp [atL] at hz
  | _ :: _, [], _, _, _, _, z, hz => by simp [atL] at hz
  | _ :: _, _ :: _, [], _, _, _, z, hz => by simp [atL] at hz
  | a :: o, b :: r, c :: u, ho, hr, hu, z, hz => by
    rw [atL] at hz
    rcases List.mem_cons.1 hz with rfl | hz
    · have h1 := ho a (by simp)
      have h2 := small_mul hx (hr b (by simp))
      have h3 := small_mul hy (hu c (by simp))
      omega
    · exact atL_small hx hy (fun z h => ho z (by simp [h])) (fun z h => hr z (by simp [h])) (fun z h => hu z (by simp [h])) z hz
theorem atL_len {P : Pl} (x y : Int) : (atL x y P.o P.r P.u).length = P.n := by rw [atL_length _ _ _ _ _ (by rw [P.lr, P.lo]) (by rw [P.lu, P.lo]), P.lo]
theorem atL_chk {P : Pl} {x y : Int} (hx : -10000000 ≤ x ∧ x ≤ 10000000) (hy : -10000000 ≤ y ∧ y ≤ 10000000) : chkRow (atL x y P.o P.r P.u) = 0 :=
  chkRow_of (by rw [atL_len]; have := P.n3; omega) (fun z hz => by
    have := atL_small (t := 10000000) hx hy (o := P.o) (r := P.r) (u := P.u) plTo_small plTo_small plTo_small z hz
    omega)
def PlP (w : World) (P : Pl) (g1 g2 g3 : Nat) : Prop := LayP w P.k P.n g1 P.n g2 P.n g3 P.n P.o P.r P.u
theorem PlP.ext {w w' : World} {P : Pl} {g1 g2 g3 : Nat} (h : PlP w P g1 g2 g3) (hE : Ext w w') : PlP w' P g1 g2 g3 := LayP.ext h hE
end Go.Proofs.YtokjolmpdfmnbaaGreatDoor
namespace Go.Proofs.YtokjolmpdfmnbaaGreatDoor
open Go Go.Sort
section
variable {P : Program} {ops : Array Oper} {md : Region.Mode} {Q : Exit → Act → World → Prop} {S : World → Prop}
def wpAnyLH (P : Program) (md : Region.Mode) (ops : Array Oper) (Q : Exit → Act → World → Prop) (S : World → Prop) (n : Nat) (L : Array Bool → Act → World → Prop) : Nat → Array Bool → Act → World → Prop
  | 0, listed, a, w => L listed a w
  | f + 1, listed, a, w => Region.ready md ops listed ≠ [] ∧ ∀ i ∈ Region.ready md ops listed, i < n ∧ wpOp P ops Q i (fun a' w' => S w' ∧ wpAnyLH P md ops Q S n L f (listed.setIfInBounds i true) a' w') a w
theorem wpAny_of_headH {n g : Nat} {L : Array Bool → Act → World → Prop} (hL : ∀ listed a w, L listed a w → wpAny P md ops Q g listed a w) :
    ∀ (f : Nat) (listed : Array Bool) (a : Act) (w : World), wpAnyLH P md ops Q S n L f listed a w → wpAny P md ops Q (f + g) listed a w
  | 0, listed, a, w, h => by rw [Nat.zero_add]; exact hL _ _ _ h
  | f + 1, listed, a, w, h => by
    rw [show f + 1 + g = (f + g) + 1 by omega]
    exact ⟨fun h0 => absurd h0 h.1, fun i hi => wpOp_mono (fun a' w' h' => wpAny_of_headH hL f _ a' w' h'.2) (h.2 i hi).2⟩
theorem wpAnyLH_first {n i : Nat} {oi : Oper} {v : Value} {L : Array Bool → Act → World → Prop} (hi : ops[i]? = some oi) (hsel : ∀ (j : Nat) (o : Oper) cs b, ops[j]? = some o → o.op ≠ .select cs b)
    (hQ : ∀ c a w, Q (.panic c) (a.put oi.dst v) w → Q (.panic c) a w)
    (hs : Region.sinkB md ops n = true) (hc : Region.chainB md ops n = true) (hn : n < ops.size) (hin : i < n)
    (hdone : ∀ listed a w, L listed a w → ∀ j ∈ Region.ready md ops listed, n ≤ j) :
    ∀ (f : Nat) (listed : Array Bool) (a : Act) (w : World), HeadInv md ops n listed →
      (∀ j oj, ops[j]? = some oj → j ≠ i → listed.getD j true = false → (∀ e ∈ oj.after, Region.binds md e = true → e.on ≠ i) → oi.apart ops oj = true) →
      i ∈ Region.ready md ops listed → YieldsIf P ops S oi v a → S w →
      wpAnyLH P md ops Q S n L f (listed.setIfInBounds i true) (a.put oi.dst v) w → wpAnyLH P md ops Q S n L (f + 1) listed a w := by
  intro f
  induction f with
  | zero =>
    intro listed a w inv _ hr hy hS H
    have hun := (mem_ready.1 hr).1
    refine ⟨fun h => (by rw [h] at hr; cases hr), fun j hj => ?_⟩
    have hjn : j < n := by
      rcases Nat.lt_or_ge j n with h | h
      · exact h
      · exact absurd hj (tail_waits hs hc hn inv _ i rfl hin hun j h)
    refine ⟨hjn, ?_⟩
    by_cases hji : j = i
    · subst hji; exact hy.wpOp hi hS ⟨hS, H⟩
    · have := hdone _ _ _ H j (ready_mono hj hji)
      omega
  | succ f ih =>
    intro listed a w inv hfree hr hy hS H
    have hun := (mem_ready.1 hr).1
    refine ⟨fun h => (by rw [h] at hr; cases hr), fun j hj => ?_⟩
    have hjn : j < n := by
      rcases Nat.lt_or_ge j n with h | h
      · exact h
      · exact absurd hj (tail_waits hs hc hn inv _ i rfl hin hun j h)
    refine ⟨hjn, ?_⟩
    by_cases hji : j = i
    · subst hji; exact hy.wpOp hi hS ⟨hS, H⟩
    · have h1 := (H.2 j (ready_mono hj hji)).2
      obtain ⟨hjun, oj, hoj, hall⟩ := mem_ready.1 hj
      have hnot : ∀ e ∈ oj.after, Region.binds md e = true → e.on ≠ i := fun e he hb heq => by
        have h1 := hall e he hb
        rw [heq, getD_both hun] at h1
        cases h1
      have h2 := wpOp_putIf hoj (hfree j oj hoj hji hjun hnot) (fun cs b => hsel i oi cs b hi) (fun cs b => hsel j oj cs b hoj) hQ hy h1
      have hfree' : ∀ k ok, ops[k]? = some ok → k ≠ i → (listed.setIfInBounds j true).getD k true = false →
          (∀ e ∈ ok.after, Region.binds md e = true → e.on ≠ i) → oi.apart ops ok = true := fun k ok hk hki hun hno => by
        refine hfree k ok hk hki ?_ hno
        by_cases hjk : j = k
        · subst hjk; exact hjun
        · rw [getD_set_ne true hjk] at hun; exact hun
      refine wpOp_mono (fun a' w' h3 => ⟨h3.2.1, ih (listed.setIfInBounds j true) a' w' (inv.set hj hjn) hfree' (ready_mono hr (Ne.symm hji)) h3.1 h3.2.1 ?_⟩) h2
      rw [Array.setIfInBounds_comm _ _ hji]
      exact h3.2.2
def LTail (P : Program) (md : Region.Mode) (ops : Array Oper) (Q : Exit → Act → World → Prop) (n : Nat) (rest : List Oper) (listed : Array Bool) (a : Act) (w : World) : Prop := Region.seqB md ops (ops.size - n) n listed = true ∧ wpList P ops Q rest a w
theorem wpAnyLH_take {n i f : Nat} {oi : Oper} {v : Value} {rest : List Oper} {listed : Array Bool} {a : Act} {w : World} (hi : ops[i]? = some oi)
    (hB : (Region.noSelect ops && decide (n < ops.size) && Region.sinkB md ops n && Region.chainB md ops n && decide (i < n) && Region.free md ops listed i && (Region.ready md ops listed).contains i) = true)
    (hQ : ∀ c a w, Q (.panic c) (a.put oi.dst v) w → Q (.panic c) a w) (hy : YieldsIf P ops S oi v a) (hS : S w) (inv : HeadInv md ops n listed)
    (h : HeadInv md ops n (listed.setIfInBounds i true) → wpAnyLH P md ops Q S n (LTail P md ops Q n rest) f (listed.setIfInBounds i true) (a.put oi.dst v) w) : wpAnyLH P md ops Q S n (LTail P md ops Q n rest) (f + 1) listed a w := by
  simp only [Bool.and_eq_true, decide_eq_true_eq] at hB
  obtain ⟨⟨⟨⟨⟨⟨hsel, hn⟩, hs⟩, hc⟩, hin⟩, hf⟩, hr⟩ := hB
  have hr' : i ∈ Region.ready md ops listed := by simpa using hr
  exact wpAnyLH_first hi (Region.noSelect_spec hsel) hQ hs hc hn hin (fun _ _ _ hL => seqB_ready hL.1) f listed a w inv (Region.free_spec hi hf) hr' hy hS (h (inv.set hr' hin))
theorem wpAnyLH_one {n i f : Nat} {o : Oper} {L : Array Bool → Act → World → Prop} {listed : Array Bool} {a : Act} {w : World} (ho : ops[i]? = some o) (hr : (Region.ready md ops listed == [i] && decide (i < n)) = true)
    (h : ∀ K' : Act → World → Prop, (∀ a w, S w → wpAnyLH P md ops Q S n L f (listed.setIfInBounds i true) a w → K' a w) → if Region.wanted o (yielded ops a.tmps) = true then Oper.wp P o a w K' Q else K' (a.put o.dst undef) w) : wpAnyLH P md ops Q S n L (f + 1) listed a w := by
  simp only [Bool.and_eq_true, decide_eq_true_eq, beq_iff_eq] at hr
  refine ⟨fun h0 => (by rw [hr.1] at h0; cases h0), fun j hj => ?_⟩
  rw [hr.1] at hj
  obtain rfl : j = i := by simpa using hj
  exact ⟨hr.2, wpOp_step ho (fun K' hK => h K' (fun a w hS hW => hK a w ⟨hS, hW⟩))⟩
theorem wpAnyLH_end {n : Nat} {rest : List Oper} {listed : Array Bool} {a : Act} {w : World} (hB : Region.seqB md ops (ops.size - n) n listed = true) (h : wpList P ops Q rest a w) : wpAnyLH P md ops Q S n (LTail P md ops Q n rest) 0 listed a w := ⟨hB, h⟩
theorem wp_region_held_tail {id : Nat} {a : Act} {w : World} {l : List Oper} (n : Nat) (hm : P.follows .mixedOrders = true) (hn : n < l.length)
    (h : HeadInv .any l.toArray n (Array.replicate l.toArray.size false) → wpAnyLH P .any l.toArray Q S n (LTail P .any l.toArray Q n (l.drop n)) n (Array.replicate l.toArray.size false) a w.drew) : (Code.region id l.toArray true).wp P Q a w := by
  have hdl : (l.drop n).length = l.toArray.size - n := by simp
  have inv0 : HeadInv .any l.toArray n (Array.replicate l.toArray.size false) :=
    ⟨by simp, fun j oj _ hl => (by rw [getD_replicate_false] at hl; cases hl), fun t _ ht => getD_in (by simpa using ht) (getD_replicate_false _ _)⟩
  refine wp_region_any hm ?_
  have := wpAny_of_headH (Q := Q) (g := l.toArray.size - n) (fun listed a' w' hL => by
    have := wpAny_of_seq (md := .any) (Q' := Q) (l.drop n) n listed a' w' (fun j => by simp [List.getElem?_drop]) (by rw [hdl]; exact hL.1) hL.2
    rwa [hdl] at this) _ _ _ _ (h inv0)
  rw [show n + (l.toArray.size - n) = l.toArray.size by simp; omega] at this
  exact this
end
end Go.Proofs.YtokjolmpdfmnbaaGreatDoor
