/- Part 30 of the proof of the claim: contracts of the functions that it reaches, and plain laws; no condition. -/
import Derived.Test.YtcklioolpicmcaaGreatDoorV29
import Derived.BigQuiet
import Derived.Test.YtcklioolpicmcaaGreatDoorV21
import Derived.Deep.CutRange
/- schismalaw44: Row. -/
namespace Go.Proofs.YtcklioolpicmcaaGreatDoor
open Go.RowKit Go.Sort
/-- The elements of a plan's list. -/
def plR (l : List Int) : List Int := l.map fun z => z.tmod 10
def plTo (n : Nat) (l : List Int) (i : Nat) : List Int := (plR l).take i ++ List.replicate (n - i) 0
theorem plTo_length {n i : Nat} {l : List Int} (hl : n ≤ l.length) (hi : i ≤ n) : (plTo n l i).length = n := by
  unfold plTo plR
  rw [List.length_append, List.length_take, List.length_map, List.length_replicate]; omega
theorem plTo_step {n i : Nat} {l : List Int} (hl : n ≤ l.length) (hi : i < n) : plTo n l (i + 1) = (plTo n l i).set i ((l.getD i 0).tmod 10) := by
  refine List.ext_getElem (by rw [List.length_set, plTo_length hl (by omega), plTo_length hl (by omega)]) fun t h1 h2 => ?_
  have ht : t < n := by rwa [plTo_length hl (by omega)] at h1
  have e : ∀ j, j ≤ n → ∀ h : t < (plTo n l j).length, (plTo n l j)[t] = if t < j then (l.getD t 0).tmod 10 else 0 := fun j hj h => by
    have htl : ((plR l).take j).length = j := by unfold plR; rw [List.length_take, List.length_map]; omega
    by_cases htj : t < j
    · simp only [plTo, if_pos htj]
      rw [List.getElem_append_left (by omega), List.getElem_take]
      simp only [plR, List.getElem_map]
      rw [getD_get (by omega)]
    · simp only [plTo, if_neg htj]
      rw [List.getElem_append_right (by omega)]
      simp
  rw [e (i + 1) (by omega), List.getElem_set]
  by_cases hti : i = t
  · subst hti; rw [if_pos (by omega), if_pos rfl]
  · rw [if_neg hti, e i (by omega)]
    by_cases h3 : t < i
    · rw [if_pos (by omega), if_pos h3]
    · rw [if_neg (by omega), if_neg h3]
set_option maxRecDepth 100000 in
set_option maxHeartbeats 1000000 in
theorem row44_any {w : World} {a b c : Int} {n : Nat} (hn : n ≤ 3) (ha : -128 ≤ a ∧ a ≤ 127) (hb : -128 ≤ b ∧ b ≤ 127) (hc : -128 ≤ c ∧ c ≤ 127) :
    Calls Tryz.prog 94 #[.agg #[.int .i8 a, .int .i8 b, .int .i8 c], .int .i64 n] w fun e w' => ∃ g, e = .returned (slv g n n) ∧ OwnV 3 w.heap.size w' g n (is (plTo n [a, b, c] n)) ∧ Ext w w' := by
  obtain ⟨i0, hi, hz0, hz1, hz2⟩ := info_parts Tryz.infoInt
  obtain ⟨ha1, ha2⟩ := ha
  obtain ⟨hb1, hb2⟩ := hb
  obtain ⟨hc1, hc2⟩ := hc
  go_enter Tryz.func94, Tryz.ntmps94
  go_wp2_with (at_make; refine wpList_make_full _ rfl _ _ 32 rfl w.heap.size 3 i0 (.int .i64 0) 1 Tryz.underlying32 hi hz0 hz1 .i64 .i64 _ _ n rfl rfl (by omega) (by omega) (by rw [hz2]; omega) (by unfold maxLen; omega) (by simp <;> omega) ?_; intro w1 hown1 hgrow1; have hE1 := ext_grown hgrow1; have c0 : w1.cell? ⟨w.heap.size, 0, none⟩ = some (.int .i8 a) := hE1.cell (by go_simp); have c1 : w1.cell? ⟨w.heap.size, 1, none⟩ = some (.int .i8 b) := hE1.cell (by go_simp); have c2 : w1.cell? ⟨w.heap.size, 2, none⟩ = some (.int .i8 c) := hE1.cell (by go_simp))
  have hX1 : Ext w w1 := ((Ext.refl w).alloc _).trans hE1
  rw [show (w.alloc (.cells #[.int .i8 a, .int .i8 b, .int .i8 c] 26)).heap.size = w.heap.size + 1 by simp] at hown1
  obtain ⟨g, hg⟩ : ∃ g, g = w.heap.size + 1 := ⟨_, rfl⟩
  rw [← hg] at hown1 ⊢
  have hb0 : OwnV 3 w.heap.size w1 g n (is (List.replicate n 0)) := row_ownV (zero_row hown1) (by simp)
  have HO1 := Lib.hid hb0
  have hgp : g ≠ w.heap.size := by omega
  have hwg : w.heap.size ≤ g := by omega
  clear hg hb0 hown1 hgrow1 hE1
  go_loopw [6] (fun idx wr => ∃ i : Nat, i ≤ n ∧ idx = .int .i64 i ∧ Hid (OwnV 3 w.heap.size wr g n (is (plTo n [a, b, c] i))) ∧ Hid (w1.grownBy wr (some g))) (fun idx _ => n - (intOf idx).toNat)
  case atStart => exact ⟨0, by omega, by go_num, Lib.hid (by unfold plTo; simpa using HO1.out), Lib.hid (World.grownBy.refl _ _)⟩
  case round =>
    obtain ⟨i, hi', rfl, hO, hG⟩ := hrel
    generalize wr = X at *
    have hXE := ext_trans_grown hX1 hG.out hwg
    by_cases hlt : i < n
    · have hC : Chg (fun k => k = g) w1 X := Chg.of_grown hG.out rfl
      have e0 := hC.cell (by omega) c0
      have e1 := hC.cell (by omega) c1
      have e2 := hC.cell (by omega) c2
      have hlen := plTo_length (n := n) (l := [a, b, c]) (i := i) (by simpa using hn) (by omega)
      have hfr := hO.out.frozen i
      obtain ⟨old, hcl⟩ : ∃ old, X.cell? ⟨g, i, none⟩ = some old := ⟨_, hO.out.cell (j := i) (by rw [is_length, hlen]; exact hlt)⟩
      have hii : (i : Int) < (n : Int) := by omega
      have hst := plTo_step (n := n) (l := [a, b, c]) (i := i) (by simpa using hn) hlt
      have Hset := Lib.hid (hO.out.set i (.int .i64 (([a, b, c].getD i 0).tmod 10)))
      rw [← is_set, ← hst] at Hset
      clear hst hlen hO
      rcases (show i = 0 ∨ i = 1 ∨ i = 2 by omega) with rfl | rfl | rfl
      all_goals
        simp only [List.getD_cons_zero, List.getD_cons_succ] at Hset
        go_wp2_with fail
        first
          | exact ⟨⟨1, by omega, rfl, Lib.hid Hset.out.1, Lib.hid (grown_trans hG.out Hset.out.2)⟩, by simp [intOf] <;> omega⟩
          | exact ⟨⟨2, by omega, rfl, Lib.hid Hset.out.1, Lib.hid (grown_trans hG.out Hset.out.2)⟩, by simp [intOf] <;> omega⟩
          | exact ⟨⟨3, by omega, rfl, Lib.hid Hset.out.1, Lib.hid (grown_trans hG.out Hset.out.2)⟩, by simp [intOf] <;> omega⟩
    · have hie : i = n := by omega
      subst hie
      have Hres := Lib.hid (⟨g, rfl, hO.out, hXE⟩ : ∃ g', (Ending.returned (slv g i i)) = .returned (slv g' i i) ∧ OwnV 3 w.heap.size X g' i (is (plTo i [a, b, c] i)) ∧ Ext w X)
      go_wp2_with fail
      go_ret
      exact Hres.out
end Go.Proofs.YtcklioolpicmcaaGreatDoor
/- schismalaw44: note. -/
namespace Go.Proofs.YtcklioolpicmcaaGreatDoor
open Go.RowKit Go.Sort
def noTo (x y : Int) (n i : Nat) (o r u : List Int) : List Int := (atL x y o r u).take i ++ List.replicate (n - i) 0
theorem noTo_length {x y : Int} {i n : Nat} {o r u : List Int} (ho : o.length = n) (hr : r.length = n) (hu : u.length = n) (hi : i ≤ n) : (noTo x y n i o r u).length = n := by
  unfold noTo
  rw [List.length_append, List.length_take, List.length_replicate, atL_length _ _ _ _ _ (by omega) (by omega)]; omega
theorem noTo_step {x y : Int} {i n : Nat} {o r u : List Int} (ho : o.length = n) (hr : r.length = n) (hu : u.length = n) (hi : i < n) : noTo x y n (i + 1) o r u = (noTo x y n i o r u).set i (o.getD i 0 + x * r.getD i 0 + y * u.getD i 0) := by
  have hl := atL_length x y o r u (by omega) (by omega)
  refine List.ext_getElem (by rw [List.length_set, noTo_length ho hr hu (by omega), noTo_length ho hr hu (by omega)]) fun t h1 h2 => ?_
  have ht : t < n := by rwa [noTo_length ho hr hu (by omega)] at h1
  have e : ∀ j, j ≤ n → ∀ h : t < (noTo x y n j o r u).length, (noTo x y n j o r u)[t] = if t < j then (atL x y o r u).getD t 0 else 0 := fun j hj h => by
    have htl : ((atL x y o r u).take j).length = j := by rw [List.length_take]; omega
    by_cases htj : t < j
    · simp only [noTo, if_pos htj]
      rw [List.getElem_append_left (by omega), List.getElem_take, getD_get (by omega)]
    · simp only [noTo, if_neg htj]
      rw [List.getElem_append_right (by omega)]
      simp
  rw [e (i + 1) (by omega), List.getElem_set]
  by_cases hti : i = t
  · subst hti
    rw [if_pos (by omega), if_pos rfl, atL_get _ _ _ _ _ _ (by omega) (by omega) (by omega)]; omega
  · rw [if_neg hti, e i (by omega)]
    by_cases h3 : t < i
    · rw [if_pos (by omega), if_pos h3]
    · rw [if_neg (by omega), if_neg h3]
set_option maxRecDepth 100000 in
set_option maxHeartbeats 1000000 in
theorem note44_any {w : World} {k x y : Int} {n go co gr cr gu cu : Nat} {o r u : List Int} (h : LayP w k n go co gr cr gu cu o r u) (hx : -1000000 ≤ x ∧ x ≤ 1000000) (hy : -1000000 ≤ y ∧ y ≤ 1000000) :
    Calls Tryz.prog 38 #[layv k n go co gr cr gu cu, .int .i64 x, .int .i64 y] w fun e w' => ∃ g, e = .returned (slv g n n) ∧ OwnV 3 w.heap.size w' g n (is (atL x y o r u)) ∧ Ext w w' := by
  have H := Lib.hid h
  obtain ⟨i0, hi, hz0, hz1, hz2⟩ := info_parts Tryz.infoInt
  have hinfo : (Tryz.prog.info? 3).map (·.size) = some 1 := by rw [hi]; simp [hz1]
  have Hinfo := Lib.hid hinfo
  have Hlo := Lib.hid h.lo
  have Hlr := Lib.hid h.lr
  have Hlu := Lib.hid h.lu
  have Hbo := Lib.hid (chkRow_ok h.eo).2
  have Hbr := Lib.hid (chkRow_ok h.er).2
  have Hbu := Lib.hid (chkRow_ok h.eu).2
  have hn := h.n12
  obtain ⟨hx1, hx2⟩ := hx
  obtain ⟨hy1, hy2⟩ := hy
  clear h hinfo
  go_enter Tryz.func38, Tryz.ntmps38
  go_wp2_with (at_make; refine wpList_make_full _ rfl _ _ 32 rfl w.heap.size 3 i0 (.int .i64 0) 1 Tryz.underlying32 hi hz0 hz1 .i64 .i64 _ _ n rfl rfl (by omega) (by omega) (by rw [hz2]; omega) (by unfold maxLen; omega) (by simp <;> omega) ?_; intro w1 hown1 hgrow1; have hE1 := ext_grown hgrow1; have d0 : w1.cell? ⟨w.heap.size, 1, none⟩ = some (slv go n co) := hE1.cell (by go_simp); have d1 : w1.cell? ⟨w.heap.size, 2, none⟩ = some (slv gr n cr) := hE1.cell (by go_simp); have d2 : w1.cell? ⟨w.heap.size, 3, none⟩ = some (slv gu n cu) := hE1.cell (by go_simp))
  have hX2 : Ext w w1 := ((Ext.refl w).alloc _).trans hE1
  rw [show (w.alloc (.cells #[.int .i64 k, slv go n co, slv gr n cr, slv gu n cu] 62)).heap.size = w.heap.size + 1 by simp] at hown1
  obtain ⟨g, hg⟩ : ∃ g, g = w.heap.size + 1 := ⟨_, rfl⟩
  rw [← hg] at hown1 ⊢
  have hb0 : OwnV 3 w.heap.size w1 g n (is (List.replicate n 0)) := row_ownV (zero_row hown1) (by simp)
  have HO2 := Lib.hid hb0
  have hgb := hb0.lt
  have hwg : w.heap.size ≤ g := by omega
  obtain ⟨p, hp⟩ : ∃ p, p = w.heap.size := ⟨_, rfl⟩
  have hgp : g ≠ p := by omega
  clear hg hb0 hown1 hgrow1 hE1
  rw [← hp] at d0 d1 d2 ⊢
  have hgo : go ≠ g ∨ n = 0 := by
    rcases Nat.eq_zero_or_pos n with h | h
    · exact .inr h
    · have := H.out.po.2.lt (by rw [is_length, Hlo.out]; exact h)
      left; omega
  have hgr : gr ≠ g ∨ n = 0 := by
    rcases Nat.eq_zero_or_pos n with h | h
    · exact .inr h
    · have := H.out.pr.2.lt (by rw [is_length, Hlr.out]; exact h)
      left; omega
  have hgu : gu ≠ g ∨ n = 0 := by
    rcases Nat.eq_zero_or_pos n with h | h
    · exact .inr h
    · have := H.out.pu.2.lt (by rw [is_length, Hlu.out]; exact h)
      left; omega
  have Hp := Lib.hid hp
  have hB := hgb.1
  clear hp
  go_loopw [8] (fun idx wr => ∃ i : Nat, i ≤ n ∧ idx = .int .i64 i ∧ Hid (OwnV 3 w.heap.size wr g n (is (noTo x y n i o r u))) ∧ Hid (w1.grownBy wr (some g))) (fun idx _ => n - (intOf idx).toNat)
  case atStart => exact ⟨0, by omega, by go_num, Lib.hid (by show OwnV _ _ _ _ _ (is (noTo x y n 0 o r u)); unfold noTo; simpa using HO2.out), Lib.hid (World.grownBy.refl _ _)⟩
  case round =>
    obtain ⟨i, hi', rfl, hO, hG⟩ := hrel
    generalize wr = X at *
    have hXE := ext_trans_grown hX2 hG.out hB
    by_cases hlt : i < n
    · have hii : (i : Int) < (n : Int) := by omega
      have hC : Chg (fun k => k = g) w1 X := Chg.of_grown hG.out rfl
      have e0 := hC.cell (by omega) d0
      have e1 := hC.cell (by omega) d1
      have e2 := hC.cell (by omega) d2
      have hlen := noTo_length (x := x) (y := y) (i := i) Hlo.out Hlr.out Hlu.out (by omega)
      have c1 := hO.out.cell (j := i) (by rw [is_length, hlen]; exact hlt)
      obtain ⟨a, ha⟩ : ∃ a, a = o.getD i 0 := ⟨_, rfl⟩
      obtain ⟨b, hb⟩ : ∃ b, b = r.getD i 0 := ⟨_, rfl⟩
      obtain ⟨c, hc⟩ : ∃ c, c = u.getD i 0 := ⟨_, rfl⟩
      obtain ⟨old, hcl⟩ : ∃ old, X.cell? ⟨g, i, none⟩ = some old := ⟨_, c1⟩
      clear c1
      have c1 := (H.out.po.ext hXE).2.cell i (.int .i64 a) (by rw [ha, getD_get (by rw [Hlo.out]; exact hlt)]; exact is_get (by rw [Hlo.out]; exact hlt))
      have c2 := (H.out.pr.ext hXE).2.cell i (.int .i64 b) (by rw [hb, getD_get (by rw [Hlr.out]; exact hlt)]; exact is_get (by rw [Hlr.out]; exact hlt))
      have c3 := (H.out.pu.ext hXE).2.cell i (.int .i64 c) (by rw [hc, getD_get (by rw [Hlu.out]; exact hlt)]; exact is_get (by rw [Hlu.out]; exact hlt))
      rw [Nat.zero_add] at c1 c2 c3
      have ba : -1000000000 ≤ a ∧ a ≤ 1000000000 := by rw [ha, getD_get (by rw [Hlo.out]; exact hlt)]; exact Hbo.out _ (List.getElem_mem _)
      have bb : -1000000000 ≤ b ∧ b ≤ 1000000000 := by rw [hb, getD_get (by rw [Hlr.out]; exact hlt)]; exact Hbr.out _ (List.getElem_mem _)
      have bc : -1000000000 ≤ c ∧ c ≤ 1000000000 := by rw [hc, getD_get (by rw [Hlu.out]; exact hlt)]; exact Hbu.out _ (List.getElem_mem _)
      have m1 := mul_i64 ⟨hx1, hx2⟩ bb
      have m2 := mul_i64 ⟨hy1, hy2⟩ bc
      have w1' : IntKind.i64.wrap (x * b) = x * b := IntWalk.i64_in _ (by omega)
      have w2' : IntKind.i64.wrap (y * c) = y * c := IntWalk.i64_in _ (by omega)
      have w3' : IntKind.i64.wrap (a + x * b) = a + x * b := IntWalk.i64_in _ (by omega)
      have w4' : IntKind.i64.wrap (a + x * b + y * c) = a + x * b + y * c := IntWalk.i64_in _ (by omega)
      have Hst := Lib.hid (noTo_step (x := x) (y := y) (i := i) Hlo.out Hlr.out Hlu.out hlt)
      rw [← ha, ← hb, ← hc] at Hst
      have k1 := cell_regrown e1
      have k2 := cell_regrown e2
      have k3 := cell_regrown e0
      have k4 := cell_regrown hcl
      have k5 := cell_regrown c1
      have k6 := cell_regrown c2
      have k7 := cell_regrown c3
      have q1 := hcl
      clear ha hb hc ba bb bc m1 m2
      go_wp2_with fail
      refine wp_region_quiet_tail 23 (by kernel_rfl) (by kernel_rfl) ?_
      simp only [List.take_succ_cons, List.take_zero, List.drop_succ_cons, List.drop_zero]
      repeat (go_big_quiet_step (fail))
      refine wpQuiet_nil ?_
      intro _ hw'
      obtain ⟨⟨dq, osq⟩, hw''⟩ := hw'
      subst hw''
      have hE5 := ext_regrown X dq osq
      have d5 := hE5.cell q1
      clear k1 k2 k3 k4 k5 k6 k7
      generalize grow (redrawn X dq) osq = w5 at *
      have f5 := (hO.out.ext hE5).frozen i
      obtain ⟨hO6, hG6⟩ := (hO.out.ext hE5).set i (.int .i64 (a + x * b + y * c))
      rw [← is_set, ← Hst.out] at hO6
      have HO6 := Lib.hid hO6
      have HG6 := Lib.hid (grown_trans hG.out (grown_trans (grown_ext hE5 (some g)) hG6))
      clear hO6 hG6 hE5
      go_wp2_with fail
      go_roundw
      case rel => exact ⟨i + 1, by omega, by go_num, HO6, HG6⟩
      case measure => simp [intOf] <;> omega
    · have hii : ¬ (i : Int) < (n : Int) := by omega
      have hin : i = n := by omega
      have hall : noTo x y n i o r u = atL x y o r u := by
        unfold noTo
        rw [List.take_of_length_le (by rw [atL_length _ _ _ _ _ (by rw [Hlo.out, Hlr.out]) (by rw [Hlo.out, Hlu.out]), Hlo.out]; omega), show n - i = 0 by omega, List.replicate_zero, List.append_nil]
      rw [hall] at hO
      clear hall
      go_wp2_with fail
      go_ret
      exact ⟨g, rfl, hO.out, hXE⟩
end Go.Proofs.YtcklioolpicmcaaGreatDoor
/- schismalaw44: plans of layouts, plain. -/
namespace Go.Proofs.YtcklioolpicmcaaGreatDoor
open Go.RowKit Go.Sort
abbrev planv (hx : Bool) (n : Int) (a b c d e f p q s : Int) : Value := .agg #[.bool hx, .int .u8 n, .int .i8 a, .int .i8 b, .int .i8 c, .int .i8 d, .int .i8 e, .int .i8 f, .int .i8 p, .int .i8 q, .int .i8 s]
structure Pl where
  hx : Bool
  m : Int
  a : Int
  b : Int
  c : Int
  d : Int
  e : Int
  f : Int
  p : Int
  q : Int
  s : Int
abbrev I8 (z : Int) : Prop := -128 ≤ z ∧ z ≤ 127
structure Pl.ok (P : Pl) : Prop where
  m : 0 ≤ P.m ∧ P.m ≤ 255
  a : I8 P.a
  b : I8 P.b
  c : I8 P.c
  d : I8 P.d
  e : I8 P.e
  f : I8 P.f
  p : I8 P.p
  q : I8 P.q
  s : I8 P.s
abbrev Pl.v (P : Pl) : Value := planv P.hx P.m P.a P.b P.c P.d P.e P.f P.p P.q P.s
def Pl.n (P : Pl) : Nat := (P.m % 4).toNat
def Pl.k (P : Pl) : Int := if P.hx then 2 else 1
def Pl.o (P : Pl) : List Int := plTo P.n [P.a, P.b, P.c] P.n
def Pl.r (P : Pl) : List Int := plTo P.n [P.d, P.e, P.f] P.n
def Pl.u (P : Pl) : List Int := plTo P.n [P.p, P.q, P.s] P.n
theorem Pl.n3 (P : Pl) : P.n ≤ 3 := by
  have h1 := Int.emod_nonneg P.m (show (4 : Int) ≠ 0 by decide)
  have h2 := Int.emod_lt_of_pos P.m (show (0 : Int) < 4 by decide)
  unfold Pl.n; omega
theorem Pl.nI {P : Pl} : P.m % 4 = (P.n : Int) := by
  have h1 := Int.emod_nonneg P.m (show (4 : Int) ≠ 0 by decide)
  unfold Pl.n; omega
theorem Pl.kind (P : Pl) : P.k = 1 ∨ P.k = 2 := by
  unfold Pl.k; cases P.hx
  · exact .inl rfl
  · exact .inr rfl
theorem plTo_small {n : Nat} {l : List Int} : ∀ z ∈ plTo n l n, -9 ≤ z ∧ z ≤ 9 := fun z hz => by
  unfold plTo plR at hz
  rcases List.mem_append.1 hz with hz | hz
  · obtain ⟨y, _, rfl⟩ := List.mem_map.1 (List.mem_of_mem_take hz)
    have h1 := Int.lt_tmod_of_pos y (show (0 : Int) < 10 by decide)
    have h2 := Int.tmod_lt_of_pos y (show (0 : Int) < 10 by decide)
    omega
  · have := (List.mem_replicate.1 hz).2; omega
theorem chkRow_of {x : List Int} (hl : x.length ≤ 64) (hb : ∀ z ∈ x, -1000000000 ≤ z ∧ z ≤ 1000000000) : chkRow x = 0 := by
  unfold chkRow
  rw [if_neg (by omega), if_neg]
  intro h
  obtain ⟨z, hz, hg⟩ := List.any_eq_true.1 h
  have := hb z hz
  unfold grt at hg
  have := of_decide_eq_true hg
  omega
theorem plTo_chk {n : Nat} {l : List Int} (hn : n ≤ 3) (hl : n ≤ l.length) : chkRow (plTo n l n) = 0 :=
  chkRow_of (by rw [plTo_length hl (Nat.le_refl _)]; omega) (fun z hz => by have := plTo_small z hz; omega)
theorem Pl.lo (P : Pl) : P.o.length = P.n := plTo_length (by have := P.n3; simpa using this) (Nat.le_refl _)
theorem Pl.lr (P : Pl) : P.r.length = P.n := plTo_length (by have := P.n3; simpa using this) (Nat.le_refl _)
theorem Pl.lu (P : Pl) : P.u.length = P.n := plTo_length (by have := P.n3; simpa using this) (Nat.le_refl _)
theorem Pl.eo (P : Pl) : chkRow P.o = 0 := plTo_chk P.n3 (by have := P.n3; simpa using this)
theorem Pl.er (P : Pl) : chkRow P.r = 0 := plTo_chk P.n3 (by have := P.n3; simpa using this)
theorem Pl.eu (P : Pl) : chkRow P.u = 0 := plTo_chk P.n3 (by have := P.n3; simpa using this)
theorem small_mul {x z t : Int} (hx : -t ≤ x ∧ x ≤ t) (hz : -9 ≤ z ∧ z ≤ 9) : -(9 * t) ≤ x * z ∧ x * z ≤ 9 * t := by
  have h1 : (x * z).natAbs ≤ t.toNat * 9 := by
    rw [Int.natAbs_mul]; exact Nat.mul_le_mul (by omega) (by omega)
  omega
theorem atL_small {x y t : Int} (hx : -t ≤ x ∧ x ≤ t) (hy : -t ≤ y ∧ y ≤ t) : ∀ {o r u : List Int}, (∀ z ∈ o, -9 ≤ z ∧ z ≤ 9) → (∀ z ∈ r, -9 ≤ z ∧ z ≤ 9) → (∀ z ∈ u, -9 ≤ z ∧ z ≤ 9) → ∀ z ∈ atL x y o r u, -(18 * t + 9) ≤ z ∧ z ≤ 18 * t + 9
  | [], _, _, _, _, _, z, hz => by simp [atL] at hz
  | _ :: _, [], _, _, _, _, z, hz => by simp [atL] at hz
  | _ :: _, _ :: _, [], _, _, _, z, hz => by simp [atL] at hz
  | a :: o, b :: r, c :: u, ho, hr, hu, z, hz => by
    rw [atL] at hz
    rcases List.mem_cons.1 hz with rfl | hz
    · have h1 := ho a (by simp)
      have h2 := small_mul hx (hr b (by simp))
      have h3 := small_mul hy (hu c (by simp))
      omega
    · exact atL_small hx hy (fun z h => ho z (by simp [h])) (fun z h => hr z (by simp [h])) (fun z h => hu z (by simp [h])) z hz
theorem atL_len {P : Pl} (x y : Int) : (atL x y P.o P.r P.u).length = P.n := by rw [atL_length _ _ _ _ _ (by rw [P.lr, P.lo]) (by rw [P.lu, P.lo]), P.lo]
theorem atL_chk {P : Pl} {x y : Int} (hx : -10000000 ≤ x ∧ x ≤ 10000000) (hy : -10000000 ≤ y ∧ y ≤ 10000000) : chkRow (atL x y P.o P.r P.u) = 0 :=
  chkRow_of (by rw [atL_len]; have := P.n3; omega) (fun z hz => by
    have := atL_small (t := 10000000) hx hy (o := P.o) (r := P.r) (u := P.u) plTo_small plTo_small plTo_small z hz
    omega)
/-- A plan's layout in memory. -/
def PlP (w : World) (P : Pl) (g1 g2 g3 : Nat) : Prop := LayP w P.k P.n g1 P.n g2 P.n g3 P.n P.o P.r P.u
theorem PlP.ext {w w' : World} {P : Pl} {g1 g2 g3 : Nat} (h : PlP w P g1 g2 g3) (hE : Ext w w') : PlP w' P g1 g2 g3 := LayP.ext h hE
abbrev layP (k : Int) (n g1 g2 g3 : Nat) : Value := layv k n g1 n g2 n g3 n
end Go.Proofs.YtcklioolpicmcaaGreatDoor
/- schismalaw44: Make. -/
namespace Go.Proofs.YtcklioolpicmcaaGreatDoor
open Go.RowKit Go.Sort
/-- A plan's cells in memory. -/
structure plC (W : World) (g : Nat) (P : Pl) : Prop where
  k0 : W.cell? ⟨g, 0, none⟩ = some (.bool P.hx)
  k1 : W.cell? ⟨g, 1, none⟩ = some (.int .u8 P.m)
  k2 : W.cell? ⟨g, 2, none⟩ = some (.int .i8 P.a)
  k3 : W.cell? ⟨g, 3, none⟩ = some (.int .i8 P.b)
  k4 : W.cell? ⟨g, 4, none⟩ = some (.int .i8 P.c)
  k5 : W.cell? ⟨g, 5, none⟩ = some (.int .i8 P.d)
  k6 : W.cell? ⟨g, 6, none⟩ = some (.int .i8 P.e)
  k7 : W.cell? ⟨g, 7, none⟩ = some (.int .i8 P.f)
  k8 : W.cell? ⟨g, 8, none⟩ = some (.int .i8 P.p)
  k9 : W.cell? ⟨g, 9, none⟩ = some (.int .i8 P.q)
  k10 : W.cell? ⟨g, 10, none⟩ = some (.int .i8 P.s)
theorem plC.ext {W W' : World} {g : Nat} {P : Pl} (h : plC W g P) (hE : Ext W W') : plC W' g P :=
  ⟨hE.cell h.k0, hE.cell h.k1, hE.cell h.k2, hE.cell h.k3, hE.cell h.k4, hE.cell h.k5, hE.cell h.k6, hE.cell h.k7, hE.cell h.k8, hE.cell h.k9, hE.cell h.k10⟩
theorem plC_new (w : World) (P : Pl) : plC (w.alloc (.cells #[.bool P.hx, .int .u8 P.m, .int .i8 P.a, .int .i8 P.b, .int .i8 P.c, .int .i8 P.d, .int .i8 P.e, .int .i8 P.f, .int .i8 P.p, .int .i8 P.q, .int .i8 P.s] 59)) w.heap.size P :=
  ⟨by go_simp, by go_simp, by go_simp, by go_simp, by go_simp, by go_simp, by go_simp, by go_simp, by go_simp, by go_simp, by go_simp⟩
theorem lay_new (w : World) (T : TypeId) (a b c d : Value) : OwnV T w.heap.size (w.alloc (.cells #[a, b, c, d] T)) w.heap.size 4 [a, b, c, d] :=
  OwnV.of (Nat.le_refl _) Array.getElem?_push_size (by simp) (by unfold maxLen; omega) rfl rfl
theorem four_facts {T : TypeId} {B g : Nat} {W : World} {a b c d : Value} (h : OwnV T B W g 4 [a, b, c, d]) : (W.cell? ⟨g, 0, none⟩ = some a ∧ W.cell? ⟨g, 1, none⟩ = some b ∧ W.cell? ⟨g, 2, none⟩ = some c ∧ W.cell? ⟨g, 3, none⟩ = some d) ∧ W.frozen? ⟨g, 0, none⟩ = false ∧ W.frozen? ⟨g, 1, none⟩ = false ∧ W.frozen? ⟨g, 2, none⟩ = false ∧ W.frozen? ⟨g, 3, none⟩ = false :=
  ⟨⟨h.cell (j := 0) (by simp), h.cell (j := 1) (by simp), h.cell (j := 2) (by simp), h.cell (j := 3) (by simp)⟩, h.frozen 0, h.frozen 1, h.frozen 2, h.frozen 3⟩
theorem four_set {T : TypeId} {B g : Nat} {W : World} {a b c d : Value} (h : OwnV T B W g 4 [a, b, c, d]) (v0 v1 v2 v3 : Value) :
    OwnV T B ((((W.setCell ⟨g, 0, none⟩ v0).setCell ⟨g, 1, none⟩ v1).setCell ⟨g, 2, none⟩ v2).setCell ⟨g, 3, none⟩ v3) g 4 [v0, v1, v2, v3] ∧ W.grownBy ((((W.setCell ⟨g, 0, none⟩ v0).setCell ⟨g, 1, none⟩ v1).setCell ⟨g, 2, none⟩ v2).setCell ⟨g, 3, none⟩ v3) (some g) := by
  obtain ⟨h1, g1⟩ := h.set 0 v0
  obtain ⟨h2, g2⟩ := h1.set 1 v1
  obtain ⟨h3, g3⟩ := h2.set 2 v2
  obtain ⟨h4, g4⟩ := h3.set 3 v3
  exact ⟨h4, grown_trans (grown_trans (grown_trans g1 g2) g3) g4⟩
section
variable {P : Program} {ops : Array Oper} {md : Region.Mode} {Q : Exit → Act → World → Prop} {S : World → Prop}
/-- Two operations that may come up. -/
theorem wpAnyLH_two {n i j f : Nat} {o p : Oper} {L : Array Bool → Act → World → Prop} {listed : Array Bool} {a : Act} {w : World} (hi : ops[i]? = some o) (hj : ops[j]? = some p) (hr : (Region.ready md ops listed == [i, j] && decide (i < n) && decide (j < n)) = true)
    (h1 : ∀ K' : Act → World → Prop, (∀ a w, S w → wpAnyLH P md ops Q S n L f (listed.setIfInBounds i true) a w → K' a w) → if Region.wanted o (yielded ops a.tmps) = true then Oper.wp P o a w K' Q else K' (a.put o.dst undef) w)
    (h2 : ∀ K' : Act → World → Prop, (∀ a w, S w → wpAnyLH P md ops Q S n L f (listed.setIfInBounds j true) a w → K' a w) → if Region.wanted p (yielded ops a.tmps) = true then Oper.wp P p a w K' Q else K' (a.put p.dst undef) w) : wpAnyLH P md ops Q S n L (f + 1) listed a w := by
  simp only [Bool.and_eq_true, decide_eq_true_eq, beq_iff_eq] at hr
  refine ⟨fun h0 => (by rw [h0] at hr; cases hr.1.1), fun k hk => ?_⟩
  rw [hr.1.1] at hk
  simp only [List.mem_cons, List.not_mem_nil, or_false] at hk
  rcases hk with rfl | rfl
  · exact ⟨hr.1.2, wpOp_step hi (fun K' hK => h1 K' (fun a w hS hW => hK a w ⟨hS, hW⟩))⟩
  · exact ⟨hr.2, wpOp_step hj (fun K' hK => h2 K' (fun a w hS hW => hK a w ⟨hS, hW⟩))⟩
end
theorem range3 {w : World} {b o : Nat} {x y z : Value} (h0 : w.cell? ⟨b, o, none⟩ = some x) (h1 : w.cell? ⟨b, o + 1, none⟩ = some y) (h2 : w.cell? ⟨b, o + 2, none⟩ = some z) : w.rangeAt b o [x, y, z] := fun j v hj => by
  match j with
  | 0 => simp at hj; subst hj; exact h0
  | 1 => simp at hj; subst hj; exact h1
  | 2 => simp at hj; subst hj; exact h2
  | j + 3 => simp at hj
def MkPost (w : World) (P : Pl) (e : Ending) (w' : World) : Prop :=
  ∃ g1 g2 g3, e = .returned (layv P.k P.n g1 P.n g2 P.n g3 P.n) ∧ PlP w' P g1 g2 g3 ∧ Ext w w'
theorem own_rowP {B : Nat} {w : World} {g n : Nat} {x : List Int} (h : OwnV 3 B w g n (is x)) (hl : x.length = n) : RowP w g n x := ⟨by omega, h.sl⟩
theorem mk_leaf {X W : World} {bl n g1 g2 g3 : Nat} {a b c d : Value} {oo rr uu : List Int} (hB : OwnV 62 X.heap.size W bl 4 [a, b, c, d]) (h1 : OwnV 3 0 W g1 n (is oo)) (h2 : OwnV 3 0 W g2 n (is rr)) (h3 : OwnV 3 0 W g3 n (is uu)) (hX : Ext X W) (v0 v1 v2 v3 : Value) :
    Hid (OwnV 62 X.heap.size ((((W.setCell ⟨bl, 0, none⟩ v0).setCell ⟨bl, 1, none⟩ v1).setCell ⟨bl, 2, none⟩ v2).setCell ⟨bl, 3, none⟩ v3) bl 4 [v0, v1, v2, v3])
      ∧ Hid (OwnV 3 0 ((((W.setCell ⟨bl, 0, none⟩ v0).setCell ⟨bl, 1, none⟩ v1).setCell ⟨bl, 2, none⟩ v2).setCell ⟨bl, 3, none⟩ v3) g1 n (is oo))
      ∧ Hid (OwnV 3 0 ((((W.setCell ⟨bl, 0, none⟩ v0).setCell ⟨bl, 1, none⟩ v1).setCell ⟨bl, 2, none⟩ v2).setCell ⟨bl, 3, none⟩ v3) g2 n (is rr))
      ∧ Hid (OwnV 3 0 ((((W.setCell ⟨bl, 0, none⟩ v0).setCell ⟨bl, 1, none⟩ v1).setCell ⟨bl, 2, none⟩ v2).setCell ⟨bl, 3, none⟩ v3) g3 n (is uu))
      ∧ Ext X ((((W.setCell ⟨bl, 0, none⟩ v0).setCell ⟨bl, 1, none⟩ v1).setCell ⟨bl, 2, none⟩ v2).setCell ⟨bl, 3, none⟩ v3) := by
  obtain ⟨hS1, hS2⟩ := four_set hB v0 v1 v2 v3
  have hk : ∀ {B g : Nat} {x : List Int}, OwnV 3 B W g n (is x) → OwnV 3 B ((((W.setCell ⟨bl, 0, none⟩ v0).setCell ⟨bl, 1, none⟩ v1).setCell ⟨bl, 2, none⟩ v2).setCell ⟨bl, 3, none⟩ v3) g n (is x) := fun h => own_kept h hB (by decide) hS2
  exact ⟨Lib.hid hS1, Lib.hid (hk h1), Lib.hid (hk h2), Lib.hid (hk h3), ext_trans_grown hX hS2 hB.lt.1⟩
set_option maxRecDepth 100000 in
set_option maxHeartbeats 4000000 in
theorem make44 {w : World} {P : Pl} (hP : P.ok) : Calls Tryz.prog 35 #[P.v] w (MkPost w P) := by
  have hn3 := P.n3
  have hr1 := Lib.hid (fun W => row44_any (w := W) hn3 hP.a hP.b hP.c)
  have hr2 := Lib.hid (fun W => row44_any (w := W) hn3 hP.d hP.e hP.f)
  have hr3 := Lib.hid (fun W => row44_any (w := W) hn3 hP.p hP.q hP.s)
  obtain ⟨hm1, hm2⟩ := hP.m
  have hmn : P.m % 4 = (P.n : Int) := Pl.nI
  have hmt : P.m.tmod 4 = (P.n : Int) := by rw [Int.tmod_eq_emod_of_nonneg hm1]; exact hmn
  have Hlo := Lib.hid P.lo
  have Hlr := Lib.hid P.lr
  have Hlu := Lib.hid P.lu
  have Hk : Hid (P.k = if P.hx then 2 else 1) := Lib.hid rfl
  have Hpost : Hid (∀ W g1 g2 g3 (e : Ending), e = .returned (layv P.k P.n g1 P.n g2 P.n g3 P.n) → RowP W g1 P.n P.o → RowP W g2 P.n P.r → RowP W g3 P.n P.u → Ext w W → MkPost w P e W) := Lib.hid (fun W g1 g2 g3 e he h1 h2 h3 hE => ⟨g1, g2, g3, he, ⟨P.kind, by omega, P.lo, P.lr, P.lu, P.eo, P.er, P.eu, h1, h2, h3⟩, hE⟩)
  rw [show plTo P.n [P.a, P.b, P.c] P.n = P.o from rfl] at hr1
  rw [show plTo P.n [P.d, P.e, P.f] P.n = P.r from rfl] at hr2
  rw [show plTo P.n [P.p, P.q, P.s] P.n = P.u from rfl] at hr3
  generalize P.o = oo at *
  generalize P.r = rr at *
  generalize P.u = uu at *
  generalize P.n = n at *
  generalize P.k = k at *
  have hpc := plC_new w P
  have hres := (lay_new (w.alloc (.cells #[.bool P.hx, .int .u8 P.m, .int .i8 P.a, .int .i8 P.b, .int .i8 P.c, .int .i8 P.d, .int .i8 P.e, .int .i8 P.f, .int .i8 P.p, .int .i8 P.q, .int .i8 P.s] 59)) 62 (.int .i64 0) (.slice none 0 0) (.slice none 0 0) (.slice none 0 0))
  clear hP
  go_enter Tryz.func35, Tryz.ntmps35
  go_wp2_with fail
  replace hpc := hpc.ext ((Ext.refl _).alloc (.cells #[.int .i64 0, .slice none 0 0, .slice none 0 0, .slice none 0 0] 62))
  obtain ⟨X, hX⟩ : ∃ X, ((w.alloc (.cells #[.bool P.hx, .int .u8 P.m, .int .i8 P.a, .int .i8 P.b, .int .i8 P.c, .int .i8 P.d, .int .i8 P.e, .int .i8 P.f, .int .i8 P.p, .int .i8 P.q, .int .i8 P.s] 59)).alloc (.cells #[.int .i64 0, .slice none 0 0, .slice none 0 0, .slice none 0 0] 62)) = X := ⟨_, rfl⟩
  have hEX : Ext w X := by rw [← hX]; exact ((Ext.refl w).alloc _).alloc _
  rw [World.size_alloc] at hres
  rw [hX] at hpc hres ⊢
  clear hX
  have hres2 := Lib.hid hres
  obtain ⟨bp, hbp⟩ : ∃ bp, bp = w.heap.size := ⟨_, rfl⟩
  have hbp2 := hres.lt
  rw [← hbp] at hpc ⊢
  have Hbp := Lib.hid hbp
  clear hbp hres
  go_cut [4] from 9 to 21 (fun lp wx => ∃ bl g1 g2 g3, lp = .pointer (some ⟨bl, 0, none⟩) ∧ Hid (OwnV 62 X.heap.size wx bl 4 [.int .i64 1, slv g1 n n, slv g2 n n, slv g3 n n]) ∧ Hid (OwnV 3 0 wx g1 n (is oo)) ∧ Hid (OwnV 3 0 wx g2 n (is rr)) ∧ Hid (OwnV 3 0 wx g3 n (is uu)) ∧ Ext X wx)
  case first =>
    have d7 : Ext X X.drew := (Ext.refl X).drew
    refine wp_region_held_tail (S := fun W => Ext X W) 14 (by kernel_rfl) (by simp) ?_
    intro inv
    refine wpAnyLH_take (i := 0) (v := .pointer (some ⟨bp, 2, none⟩)) rfl (by kernel_rfl) (fun _ _ _ h => h) (.inl ⟨by rfl, fun W hW => by go_simp⟩) d7 inv ?_
    intro inv
    refine wpAnyLH_take (i := 1) (v := .agg #[.int .i8 P.a, .int .i8 P.b, .int .i8 P.c]) rfl (by kernel_rfl) (fun _ _ _ h => h) (yieldsIf_load_mid (by rfl) 26 _ rfl bp 2 rfl [.int .i8 P.a, .int .i8 P.b, .int .i8 P.c] _ (fun W hW => range3 (hpc.ext hW).k2 (hpc.ext hW).k3 (hpc.ext hW).k4) Tryz.underlying26 rfl (by kernel_rfl)) d7 inv ?_
    intro inv
    refine wpAnyLH_take (i := 2) (v := .int .i64 n) rfl (by kernel_rfl) (fun _ _ _ h => h) (.inl ⟨by rfl, fun W hW => by go_simp⟩) d7 inv ?_
    intro inv
    refine wpAnyLH_take (i := 4) (v := .pointer (some ⟨bp, 5, none⟩)) rfl (by kernel_rfl) (fun _ _ _ h => h) (.inl ⟨by rfl, fun W hW => by go_simp⟩) d7 inv ?_
    intro inv
    refine wpAnyLH_take (i := 5) (v := .agg #[.int .i8 P.d, .int .i8 P.e, .int .i8 P.f]) rfl (by kernel_rfl) (fun _ _ _ h => h) (yieldsIf_load_mid (by rfl) 26 _ rfl bp 5 rfl [.int .i8 P.d, .int .i8 P.e, .int .i8 P.f] _ (fun W hW => range3 (hpc.ext hW).k5 (hpc.ext hW).k6 (hpc.ext hW).k7) Tryz.underlying26 rfl (by kernel_rfl)) d7 inv ?_
    intro inv
    refine wpAnyLH_take (i := 6) (v := .int .i64 n) rfl (by kernel_rfl) (fun _ _ _ h => h) (.inl ⟨by rfl, fun W hW => by go_simp⟩) d7 inv ?_
    intro inv
    refine wpAnyLH_take (i := 8) (v := .pointer (some ⟨bp, 8, none⟩)) rfl (by kernel_rfl) (fun _ _ _ h => h) (.inl ⟨by rfl, fun W hW => by go_simp⟩) d7 inv ?_
    intro inv
    refine wpAnyLH_take (i := 9) (v := .agg #[.int .i8 P.p, .int .i8 P.q, .int .i8 P.s]) rfl (by kernel_rfl) (fun _ _ _ h => h) (yieldsIf_load_mid (by rfl) 26 _ rfl bp 8 rfl [.int .i8 P.p, .int .i8 P.q, .int .i8 P.s] _ (fun W hW => range3 (hpc.ext hW).k8 (hpc.ext hW).k9 (hpc.ext hW).k10) Tryz.underlying26 rfl (by kernel_rfl)) d7 inv ?_
    intro inv
    refine wpAnyLH_take (i := 10) (v := .int .i64 n) rfl (by kernel_rfl) (fun _ _ _ h => h) (.inl ⟨by rfl, fun W hW => by go_simp⟩) d7 inv ?_
    intro inv
    refine wpAnyLH_two (i := 3) (j := 13) rfl rfl (by kernel_rfl) (fun K0 hK0 => ?_) (fun KA hKA => ?_)
    case refine_1 =>
      go_simp
      refine (hr1.out _).mono ?_
      rintro e W1 ⟨g1, rfl, hO1, hE1⟩
      have d1 := d7.trans hE1
      replace hO1 := hO1.mono (Nat.zero_le _)
      refine hK0 _ _ d1 ?_
      clear hK0
      refine wpAnyLH_two (i := 7) (j := 13) rfl rfl (by kernel_rfl) (fun K1 hK1 => ?_) (fun KA hKA => ?_)
      case refine_1 =>
        go_simp
        refine (hr2.out _).mono ?_
        rintro e W2 ⟨g2, rfl, hO2, hE2⟩
        have d2 := d1.trans hE2
        replace hO2 := hO2.mono (Nat.zero_le _)
        replace hO1 := hO1.ext hE2
        refine hK1 _ _ d2 ?_
        clear hK1
        refine wpAnyLH_two (i := 11) (j := 13) rfl rfl (by kernel_rfl) (fun K2 hK2 => ?_) (fun KA hKA => ?_)
        case refine_1 =>
          go_simp
          refine (hr3.out _).mono ?_
          rintro e W3 ⟨g3, rfl, hO3, hE3⟩
          have d3 := d2.trans hE3
          replace hO3 := hO3.mono (Nat.zero_le _)
          replace hO1 := hO1.ext hE3
          replace hO2 := hO2.ext hE3
          refine hK2 _ _ d3 ?_
          clear hK2
          refine wpAnyLH_two (i := 12) (j := 13) rfl rfl (by kernel_rfl) (fun K3 hK3 => ?_) (fun KA hKA => ?_)
          case refine_1 =>
            go_simp
            refine hK3 _ _ d3 ?_
            clear hK3
            refine wpAnyLH_one (i := 13) rfl (by kernel_rfl) (fun KA hKA => ?_)
            go_simp
            have dA := d3.alloc (.cells #[.int .i64 0, .slice none 0 0, .slice none 0 0, .slice none 0 0] 62)
            have hB := (lay_new W3 62 (.int .i64 0) (.slice none 0 0) (.slice none 0 0) (.slice none 0 0)).mono (show X.heap.size ≤ _ from d3.size)
            replace hO1 := hO1.ext ((Ext.refl _).alloc (.cells #[.int .i64 0, .slice none 0 0, .slice none 0 0, .slice none 0 0] 62))
            replace hO2 := hO2.ext ((Ext.refl _).alloc (.cells #[.int .i64 0, .slice none 0 0, .slice none 0 0, .slice none 0 0] 62))
            replace hO3 := hO3.ext ((Ext.refl _).alloc (.cells #[.int .i64 0, .slice none 0 0, .slice none 0 0, .slice none 0 0] 62))
            refine hKA _ _ dA ?_
            clear hKA
            refine wpAnyLH_end (by kernel_rfl) ?_
            generalize (W3.alloc (.cells #[.int .i64 0, .slice none 0 0, .slice none 0 0, .slice none 0 0] 62)) = WZ at *
            generalize W3.heap.size = bl at *
            obtain ⟨⟨q0, q1, q2, q3⟩, f0, f1, f2, f3⟩ := four_facts hB
            have HL := Lib.hid (mk_leaf hB hO1 hO2 hO3 dA (.int .i64 1) (slv g1 n n) (slv g2 n n) (slv g3 n n))
            clear hB hO1 hO2 hO3
            go_wp2_with fail
            go_meet
            exact ⟨_, g1, g2, g3, rfl, HL.out⟩
          case refine_2 =>
            go_simp
            have dA := d3.alloc (.cells #[.int .i64 0, .slice none 0 0, .slice none 0 0, .slice none 0 0] 62)
            have hB := (lay_new W3 62 (.int .i64 0) (.slice none 0 0) (.slice none 0 0) (.slice none 0 0)).mono (show X.heap.size ≤ _ from d3.size)
            replace hO1 := hO1.ext ((Ext.refl _).alloc (.cells #[.int .i64 0, .slice none 0 0, .slice none 0 0, .slice none 0 0] 62))
            replace hO2 := hO2.ext ((Ext.refl _).alloc (.cells #[.int .i64 0, .slice none 0 0, .slice none 0 0, .slice none 0 0] 62))
            replace hO3 := hO3.ext ((Ext.refl _).alloc (.cells #[.int .i64 0, .slice none 0 0, .slice none 0 0, .slice none 0 0] 62))
            refine hKA _ _ dA ?_
            clear hKA
            refine wpAnyLH_one (i := 12) rfl (by kernel_rfl) (fun K3 hK3 => ?_)
            go_simp
            refine hK3 _ _ dA ?_
            clear hK3
            refine wpAnyLH_end (by kernel_rfl) ?_
            generalize (W3.alloc (.cells #[.int .i64 0, .slice none 0 0, .slice none 0 0, .slice none 0 0] 62)) = WZ at *
            generalize W3.heap.size = bl at *
            obtain ⟨⟨q0, q1, q2, q3⟩, f0, f1, f2, f3⟩ := four_facts hB
            have HL := Lib.hid (mk_leaf hB hO1 hO2 hO3 dA (.int .i64 1) (slv g1 n n) (slv g2 n n) (slv g3 n n))
            clear hB hO1 hO2 hO3
            go_wp2_with fail
            go_meet
            exact ⟨_, g1, g2, g3, rfl, HL.out⟩
        case refine_2 =>
          go_simp
          have dA := d2.alloc (.cells #[.int .i64 0, .slice none 0 0, .slice none 0 0, .slice none 0 0] 62)
          have hB := (lay_new W2 62 (.int .i64 0) (.slice none 0 0) (.slice none 0 0) (.slice none 0 0)).mono (show X.heap.size ≤ _ from d2.size)
          replace hO1 := hO1.ext ((Ext.refl _).alloc (.cells #[.int .i64 0, .slice none 0 0, .slice none 0 0, .slice none 0 0] 62))
          replace hO2 := hO2.ext ((Ext.refl _).alloc (.cells #[.int .i64 0, .slice none 0 0, .slice none 0 0, .slice none 0 0] 62))
          refine hKA _ _ dA ?_
          clear hKA
          refine wpAnyLH_one (i := 11) rfl (by kernel_rfl) (fun K2 hK2 => ?_)
          go_simp
          refine (hr3.out _).mono ?_
          rintro e W3 ⟨g3, rfl, hO3, hE3⟩
          have d3 := dA.trans hE3
          replace hO3 := hO3.mono (Nat.zero_le _)
          replace hO1 := hO1.ext hE3
          replace hO2 := hO2.ext hE3
          replace hB := hB.ext hE3
          refine hK2 _ _ d3 ?_
          clear hK2
          refine wpAnyLH_one (i := 12) rfl (by kernel_rfl) (fun K3 hK3 => ?_)
          go_simp
          refine hK3 _ _ d3 ?_
          clear hK3
          refine wpAnyLH_end (by kernel_rfl) ?_
          generalize W3 = WZ at *
          generalize W2.heap.size = bl at *
          obtain ⟨⟨q0, q1, q2, q3⟩, f0, f1, f2, f3⟩ := four_facts hB
          have HL := Lib.hid (mk_leaf hB hO1 hO2 hO3 d3 (.int .i64 1) (slv g1 n n) (slv g2 n n) (slv g3 n n))
          clear hB hO1 hO2 hO3
          go_wp2_with fail
          go_meet
          exact ⟨_, g1, g2, g3, rfl, HL.out⟩
      case refine_2 =>
        go_simp
        have dA := d1.alloc (.cells #[.int .i64 0, .slice none 0 0, .slice none 0 0, .slice none 0 0] 62)
        have hB := (lay_new W1 62 (.int .i64 0) (.slice none 0 0) (.slice none 0 0) (.slice none 0 0)).mono (show X.heap.size ≤ _ from d1.size)
        replace hO1 := hO1.ext ((Ext.refl _).alloc (.cells #[.int .i64 0, .slice none 0 0, .slice none 0 0, .slice none 0 0] 62))
        refine hKA _ _ dA ?_
        clear hKA
        refine wpAnyLH_one (i := 7) rfl (by kernel_rfl) (fun K1 hK1 => ?_)
        go_simp
        refine (hr2.out _).mono ?_
        rintro e W2 ⟨g2, rfl, hO2, hE2⟩
        have d2 := dA.trans hE2
        replace hO2 := hO2.mono (Nat.zero_le _)
        replace hO1 := hO1.ext hE2
        replace hB := hB.ext hE2
        refine hK1 _ _ d2 ?_
        clear hK1
        refine wpAnyLH_one (i := 11) rfl (by kernel_rfl) (fun K2 hK2 => ?_)
        go_simp
        refine (hr3.out _).mono ?_
        rintro e W3 ⟨g3, rfl, hO3, hE3⟩
        have d3 := d2.trans hE3
        replace hO3 := hO3.mono (Nat.zero_le _)
        replace hO1 := hO1.ext hE3
        replace hO2 := hO2.ext hE3
        replace hB := hB.ext hE3
        refine hK2 _ _ d3 ?_
        clear hK2
        refine wpAnyLH_one (i := 12) rfl (by kernel_rfl) (fun K3 hK3 => ?_)
        go_simp
        refine hK3 _ _ d3 ?_
        clear hK3
        refine wpAnyLH_end (by kernel_rfl) ?_
        generalize W3 = WZ at *
        generalize W1.heap.size = bl at *
        obtain ⟨⟨q0, q1, q2, q3⟩, f0, f1, f2, f3⟩ := four_facts hB
        have HL := Lib.hid (mk_leaf hB hO1 hO2 hO3 d3 (.int .i64 1) (slv g1 n n) (slv g2 n n) (slv g3 n n))
        clear hB hO1 hO2 hO3
        go_wp2_with fail
        go_meet
        exact ⟨_, g1, g2, g3, rfl, HL.out⟩
    case refine_2 =>
      go_simp
      have dA := d7.alloc (.cells #[.int .i64 0, .slice none 0 0, .slice none 0 0, .slice none 0 0] 62)
      have hB := (lay_new X.drew 62 (.int .i64 0) (.slice none 0 0) (.slice none 0 0) (.slice none 0 0)).mono (show X.heap.size ≤ _ from d7.size)
      rw [show X.drew.heap.size = X.heap.size by simp] at hB
      refine hKA _ _ dA ?_
      clear hKA
      refine wpAnyLH_one (i := 3) rfl (by kernel_rfl) (fun K0 hK0 => ?_)
      go_simp
      refine (hr1.out _).mono ?_
      rintro e W1 ⟨g1, rfl, hO1, hE1⟩
      have d1 := dA.trans hE1
      replace hO1 := hO1.mono (Nat.zero_le _)
      replace hB := hB.ext hE1
      refine hK0 _ _ d1 ?_
      clear hK0
      refine wpAnyLH_one (i := 7) rfl (by kernel_rfl) (fun K1 hK1 => ?_)
      go_simp
      refine (hr2.out _).mono ?_
      rintro e W2 ⟨g2, rfl, hO2, hE2⟩
      have d2 := d1.trans hE2
      replace hO2 := hO2.mono (Nat.zero_le _)
      replace hO1 := hO1.ext hE2
      replace hB := hB.ext hE2
      refine hK1 _ _ d2 ?_
      clear hK1
      refine wpAnyLH_one (i := 11) rfl (by kernel_rfl) (fun K2 hK2 => ?_)
      go_simp
      refine (hr3.out _).mono ?_
      rintro e W3 ⟨g3, rfl, hO3, hE3⟩
      have d3 := d2.trans hE3
      replace hO3 := hO3.mono (Nat.zero_le _)
      replace hO1 := hO1.ext hE3
      replace hO2 := hO2.ext hE3
      replace hB := hB.ext hE3
      refine hK2 _ _ d3 ?_
      clear hK2
      refine wpAnyLH_one (i := 12) rfl (by kernel_rfl) (fun K3 hK3 => ?_)
      go_simp
      refine hK3 _ _ d3 ?_
      clear hK3
      refine wpAnyLH_end (by kernel_rfl) ?_
      generalize W3 = WZ at *
      obtain ⟨⟨q0, q1, q2, q3⟩, f0, f1, f2, f3⟩ := four_facts hB
      have HL := Lib.hid (mk_leaf hB hO1 hO2 hO3 d3 (.int .i64 1) (slv g1 n n) (slv g2 n n) (slv g3 n n))
      clear hB hO1 hO2 hO3
      go_wp2_with fail
      go_meet
      exact ⟨_, g1, g2, g3, rfl, HL.out⟩
  case rest =>
    obtain ⟨bl, g1, g2, g3, rfl, hB, hR1, hR2, hR3, hXc⟩ := hcut
    generalize wc = Y at *
    have hRB : OwnV 62 w.heap.size Y (bp + 1) 4 [.int .i64 0, .slice none 0 0, .slice none 0 0, .slice none 0 0] := by rw [Hbp.out]; exact (hres2.out.ext hXc).mono (by omega)
    have hEY := hEX.trans hXc
    have hEX0 := hEX.size
    have hbl : bp + 1 ≠ bl := by have := hB.out.lt; have := Hbp.out; omega
    have k0 := (hpc.ext hXc).k0
    obtain ⟨⟨q0, q1, q2, q3⟩, f0, f1, f2, f3⟩ := four_facts hB.out
    clear hpc hXc hres2 hbp2 hEX
    cases hx : P.hx
    · rw [hx] at k0
      obtain ⟨⟨r0, r1, r2, r3⟩, s0, s1, s2, s3⟩ := four_facts hRB
      obtain ⟨hF, hF1, hF2, hF3, hFE⟩ := mk_leaf hRB hR1.out hR2.out hR3.out hEY (.int .i64 1) (slv g1 n n) (slv g2 n n) (slv g3 n n)
      obtain ⟨⟨t0, t1, t2, t3⟩, _⟩ := four_facts hF.out
      have Hres := Lib.hid (Hpost.out _ g1 g2 g3 (.returned (layv 1 n g1 n g2 n g3 n)) (by rw [Hk.out, hx]; rfl) (own_rowP hF1.out Hlo.out) (own_rowP hF2.out Hlr.out) (own_rowP hF3.out Hlu.out) hFE)
      clear hF hF1 hF2 hF3 hFE hx
      go_wp2_with fail
      refine bodyPost_ret (v := layv 1 n g1 n g2 n g3 n) (by simp [results, Tryz.results35, go_sem, t0, t1, t2, t3]) rfl Hres.out
    · rw [hx] at k0
      obtain ⟨hO, hG⟩ := hB.out.set 0 (.int .i64 2)
      have hk : ∀ {g : Nat} {x : List Int}, OwnV 3 0 Y g n (is x) → OwnV 3 0 (Y.setCell ⟨bl, 0, none⟩ (.int .i64 2)) g n (is x) := fun h => own_kept h hB.out (by decide) hG
      have hA1 := Lib.hid (hk hR1.out)
      have hA2 := Lib.hid (hk hR2.out)
      have hA3 := Lib.hid (hk hR3.out)
      have hRB2 := Lib.hid (hRB.other hG hbl)
      have hE2 := Lib.hid (ext_trans_grown hEY hG (by have := hB.out.lt; have := hEX0; omega))
      obtain ⟨⟨r0, r1, r2, r3⟩, s0, s1, s2, s3⟩ := four_facts hRB
      obtain ⟨hF, hF1, hF2, hF3, hFE⟩ := mk_leaf hRB2.out hA1.out hA2.out hA3.out hE2.out (.int .i64 2) (slv g1 n n) (slv g2 n n) (slv g3 n n)
      obtain ⟨⟨t0, t1, t2, t3⟩, _⟩ := four_facts hF.out
      have Hres := Lib.hid (Hpost.out _ g1 g2 g3 (.returned (layv 2 n g1 n g2 n g3 n)) (by rw [Hk.out, hx]; rfl) (own_rowP hF1.out Hlo.out) (own_rowP hF2.out Hlr.out) (own_rowP hF3.out Hlu.out) hFE)
      clear hF hF1 hF2 hF3 hFE hx hO hG hk hRB hR1 hR2 hR3 hB hA1 hA2 hA3 hRB2 hE2
      go_wp2_with fail
      refine bodyPost_ret (v := layv 2 n g1 n g2 n g3 n) (by simp [results, Tryz.results35, go_sem, t0, t1, t2, t3]) rfl Hres.out
end Go.Proofs.YtcklioolpicmcaaGreatDoor
