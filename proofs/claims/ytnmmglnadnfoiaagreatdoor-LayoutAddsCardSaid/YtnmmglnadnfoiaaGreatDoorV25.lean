/- Part 25 of the proof of the claim: contracts of the functions that it reaches, and plain laws; no condition. -/
import Derived.Test.YtnmmglnadnfoiaaGreatDoorV24
import Derived.Test.YtnmmglnadnfoiaaGreatDoorV14
import Derived.Test.YtnmmglnadnfoiaaGreatDoorV21
import Derived.RangeFuncBox
import Derived.RangeFuncNested
import Derived.RangeFuncLeaves
import Derived.Shelf.Abstract
import Derived.OwnWalkIn
import Derived.TacticsInMore
import Derived.LoopNIn
import Derived.LoopIn
import Derived.Maps.AppendAt
import Derived.BigQuiet
/- schismalaw44: the known answers. -/
namespace Go.Proofs.YtnmmglnadnfoiaaGreatDoor
open Go.RowKit Go.Sort
theorem wik_run : ∃ fin, runD 64 2 2 10 0 (startD [[-3, 2], [-1, 1]] 2) = some (2, fin) ∧ fin.a = [[1, 0], [0, 1]] := by
  have h : (runD 64 2 2 10 0 (startD [[-3, 2], [-1, 1]] 2)).map (fun p => (p.1, p.2.a)) = some (2, [[1, 0], [0, 1]]) := by decide
  cases hr : runD 64 2 2 10 0 (startD [[-3, 2], [-1, 1]] 2) with
  | none => rw [hr] at h; cases h
  | some p =>
    rw [hr] at h
    obtain ⟨a, fin⟩ := p
    simp only [Option.map_some, Option.some.injEq, Prod.mk.injEq] at h
    obtain ⟨rfl, h⟩ := h
    exact ⟨fin, rfl, h⟩
theorem wik_bm : BM 64 [[1, 0], [0, 1]] := by
  intro r hr z hz
  simp only [List.mem_cons, List.not_mem_nil, or_false] at hr
  rcases hr with rfl | rfl <;> simp only [List.mem_cons, List.not_mem_nil, or_false] at hz <;> rcases hz with rfl | rfl <;> decide
theorem wik_complete {w : World} {g1 g2 g3 : Nat} (h : WikP w g1 g2 g3) (hL : Laid w) :
    Calls Tryz.prog 52 #[layv 2 2 g1 2 g2 2 g3 2] w fun e w' => e = .returned (.tuple #[.bool true, .int .i64 0]) ∧ Ext w w' := by
  obtain ⟨fin, h1, h2⟩ := wik_run
  exact Complete_ok h (by omega) h1 (by omega) (by omega) (by omega) (by rw [h2]; exact wik_bm) (by decide) (by omega) (by rw [h2]; decide) (by rw [h2]; decide) (by rw [h2]; decide) hL
theorem wik_note {w : World} {g1 g2 g3 : Nat} (h : WikP w g1 g2 g3) :
    Calls Tryz.prog 17 #[layv 2 2 g1 2 g2 2 g3 2, .agg #[.int .i64 (-1), .int .i64 2]] w (NotPost w 2 (-1) 2 [0, 0] [-3, 2] [-1, 1]) :=
  Note_any h (by unfold I64; omega) (by unfold I64; omega) (fun _ => by decide)
theorem wik_span : Hnf.Span (latM [[-3, 2], [-1, 1]]) (vr [1, 0]) := by
  have e : vr [1, 0] = Hnf.sub (Hnf.sub (fun _ => 0) 1 (vr [-3, 2])) (-2) (vr [-1, 1]) := by
    funext j
    match j with
    | 0 => simp [Hnf.sub, vr]
    | 1 => simp [Hnf.sub, vr]
    | j + 2 => simp [Hnf.sub, vr]
  rw [e]
  exact Hnf.Span.step _ (Hnf.Span.step _ Hnf.Span.zero (by simp [latM])) (by simp [latM])
theorem wik_rect : Rect 2 [[-3, 2], [-1, 1]] := by
  intro r hr
  simp at hr; rcases hr with rfl | rfl <;> rfl
theorem wik_sol {H : Mx} (hH : HnfOf 4 (wideM [[-3, 2], [-1, 1]]) H) : zeroL ((solL 2 H 2 [1, 0]).take 2) ∧ solX 2 H 2 [1, 0] = [-1, 2] := by
  have hz := (sol_zero (c := 2) (M := [[-3, 2], [-1, 1]]) (b := [1, 0]) wik_rect hH rfl).2 wik_span
  refine ⟨hz, ?_⟩
  have hc := solX_cmb (c := 2) (M := [[-3, 2], [-1, 1]]) (b := [1, 0]) wik_rect hH rfl hz
  have hl := solX_length (c := 2) (n := 2) (H := H) (b := [1, 0]) rfl
  have h0 := hc 0 (by omega)
  have h1 := hc 1 (by omega)
  match hh : solX 2 H 2 [1, 0], hl with
  | [x0, x1], _ =>
    have hh2 : solX 2 H ([[-3, 2], [-1, 1]] : Mx).length [1, 0] = [x0, x1] := hh
    rw [hh2] at h0 h1
    simp [cmb, sumZ, vr, eM] at h0 h1
    have e0 : x0 = -1 := by omega
    have e1 : x1 = 2 := by omega
    rw [e0, e1]
theorem wik_move {w : World} {g1 g2 g3 gq cq : Nat} (h : WikP w g1 g2 g3) (hq : RowP w gq cq [1, 0]) (hL : Laid w) :
    Calls Tryz.prog 40 #[layv 2 2 g1 2 g2 2 g3 2, slv gq 2 cq] w fun e w' => e = .returned (.tuple #[keyv (-1) 2, .bool true, .int .i64 0]) ∧ Ext w w' := by
  refine (Move_any h (hq.row) rfl (by decide) (by omega) hL).mono ?_
  rintro e w' ⟨H, hH, hE, hp⟩
  obtain ⟨hz, hx⟩ := wik_sol hH
  rcases hp with ⟨hn, _⟩ | ⟨_, _, rfl⟩ | ⟨_, hs, _⟩
  · exact absurd hz hn
  · rw [hx]; exact ⟨rfl, hE⟩
  · rw [hx] at hs; exact absurd hs (by decide)
theorem wik_keys {B : Nat} {w : World} {v : Value} (h : KeysV B w v (nbs true 0 0)) : ∃ g cap, v = .slice (some ⟨g, 0, none⟩) 6 cap := by
  rcases h.2 with ⟨_, h0⟩ | ⟨g, cap, cur, rfl, _⟩
  · exact absurd h0 (by decide)
  · exact ⟨g, cap, rfl⟩
theorem wik_row {B g : Nat} {w : World} (h : OwnV 3 B w g 2 (is (atL (-1) 2 [0, 0] [-3, 2] [-1, 1]))) : RowR w (slv g 2 2) [1, 0] :=
  ⟨_, g, 0, 2, rfl, Nat.le_refl _, h.sl⟩
theorem same_ok {w : World} {va vb : Value} {a b : List Int} (hA : RowR w va a) (hB : RowR w vb b) (hl : a.length ≤ 1000000) (he : a = b) : Calls Tryz.prog 18 #[va, vb] w fun e w' => e = .returned (.bool true) ∧ Ext w w' := by
  have h := Same_any hA hB hl
  rw [decide_eq_true he] at h
  exact h
set_option maxRecDepth 100000 in
set_option maxHeartbeats 1000000 in
theorem known44_any {w : World} (hL : Laid w) : Calls Tryz.prog 15 #[] w fun e w' => e = .returned (.bool true) ∧ Ext w w' := by
  have HL := Lib.hid hL
  clear hL
  go_enter Tryz.func15, Tryz.ntmps15
  go_wp2_with fail
  refine (wicki_any _).mono ?_
  rintro e w1 ⟨g1, g2, g3, rfl, hP1, hE1⟩
  go_wp2_with fail
  refine (wik_note hP1).mono ?_
  rintro e w2 ⟨hp, hE2⟩
  rw [if_neg (by decide)] at hp
  obtain ⟨gn, rfl, hO⟩ := hp
  have hR2 := Lib.hid (wik_row hO)
  have hX2 := hE1.trans hE2
  clear hE1 hE2 hP1 hO
  go_wp2_with fail
  refine (wicki_any _).mono ?_
  rintro e w3 ⟨g4, g5, g6, rfl, hP3, hE3⟩
  have hX3 := hX2.trans hE3
  have hR3 := Lib.hid (hR2.out.ext hE3)
  clear hE3 hR2 hX2
  go_wp2_with fail
  refine (wik_move (gq := w3.heap.size) (cq := 2) (hP3.ext ((Ext.refl _).alloc _)) (rowp2 (by go_simp) (by go_simp)) (HL.out.ext (hX3.alloc _))).mono ?_
  rintro e w4 ⟨rfl, hE4⟩
  have hR4 := Lib.hid ((hR3.out.ext ((Ext.refl _).alloc _)).ext hE4)
  have hX4 := (hX3.alloc _).trans hE4
  clear hE4 hR3 hX3 hP3
  go_wp2_with fail
  refine (wicki_any _).mono ?_
  rintro e w5 ⟨g7, g8, g9, rfl, hP5, hE5⟩
  have k0 := hE5.cell (show (w4.alloc (.cells #[.int .i64 (-1), .int .i64 2] 27)).cell? ⟨w4.heap.size, 0, none⟩ = some (.int .i64 (-1)) by go_simp)
  have k1 := hE5.cell (show (w4.alloc (.cells #[.int .i64 (-1), .int .i64 2] 27)).cell? ⟨w4.heap.size, 1, none⟩ = some (.int .i64 2) by go_simp)
  have hR5 := Lib.hid ((hR4.out.ext ((Ext.refl _).alloc _)).ext hE5)
  have hX5 := (hX4.alloc _).trans hE5
  clear hE5 hR4 hX4
  go_wp2_with fail
  refine (wik_complete hP5 (HL.out.ext hX5)).mono ?_
  rintro e w6 ⟨rfl, hE6⟩
  have j0 := hE6.cell k0
  have j1 := hE6.cell k1
  have hR6 := Lib.hid (hR5.out.ext hE6)
  have hX6 := hX5.trans hE6
  clear hE6 hR5 hX5 k0 k1 hP5
  go_wp2_with fail
  refine (Neighbours_ok (k := 2) (h := true) (.inr ⟨rfl, rfl⟩) (by omega) (by omega)).mono ?_
  rintro e w7 ⟨⟨v, rfl, hv⟩, hE7⟩
  obtain ⟨gk, ck, rfl⟩ := wik_keys hv
  have k0 := hE7.cell j0
  have k1 := hE7.cell j1
  have hR7 := Lib.hid (hR6.out.ext hE7)
  have hX7 := hX6.trans hE7
  have dl := World.block_lt_of_cell? _ _ k0
  clear hE7 hR6 hX6 j0 j1 hv
  have hsm := Lib.hid (fun W (hW : Ext w7 W) gq (c0 : W.cell? ⟨gq, 0, none⟩ = some (.int .i64 1)) (c1 : W.cell? ⟨gq, 1, none⟩ = some (.int .i64 0)) => same_ok (hR7.out.ext hW) (show RowR W (slv gq 2 2) [1, 0] from (rowp2 c0 c1).row) (by simp) rfl)
  go_wp2_with fail
  refine (hsm.out _ ((Ext.refl _).alloc _) w7.heap.size (by go_simp) (by go_simp)).mono ?_
  rintro e w8 ⟨rfl, hE8⟩
  have j0 := hE8.cell (show (w7.alloc (.cells #[.int .i64 1, .int .i64 0] 3)).cell? ⟨w4.heap.size, 0, none⟩ = some (.int .i64 (-1)) by go_simp)
  have j1 := hE8.cell (show (w7.alloc (.cells #[.int .i64 1, .int .i64 0] 3)).cell? ⟨w4.heap.size, 1, none⟩ = some (.int .i64 2) by go_simp)
  have hX8 := (hX7.alloc _).trans hE8
  clear hE8 hsm k0 k1
  go_wp2_with fail
  go_ret
  exact ⟨by simp, hX8⟩
end Go.Proofs.YtnmmglnadnfoiaaGreatDoor
/- row: both, result, pairs: the iterator over two rows. -/
namespace Go.Proofs.YtnmmglnadnfoiaaGreatDoor
open Go.RowKit Go.Sort Go.Shelf
attribute [local go_sem] Oper.semAt_some
set_option maxRecDepth 100000 in
theorem rboth_ok {w : World} {va vb : Value} {a b : List Int} (hA : RowR w va a) (hB : RowR w vb b) (ea : chkRow a = 0) (eb : chkRow b = 0) (hl : a.length = b.length) :
    Calls Tryz.prog 76 #[va, vb] w fun e w' => e = .returned (.int .i64 0) ∧ Ext w w' := by
  have h1 := Lib.hid (rowCheck_any hA)
  have h2 := Lib.hid (fun W (hW : Ext w W) => rowCheck_any (hB.ext hW))
  rw [ea] at h1
  rw [eb] at h2
  obtain ⟨sa, ga, oa, ca, rfl, hca, hSa⟩ := hA
  obtain ⟨sb, gb, ob, cb, rfl, hcb, hSb⟩ := hB
  rw [← hl] at h2 ⊢
  generalize a.length = n at *
  clear hSa hSb hl ea eb hca hcb
  go_enter Tryz.func76, Tryz.ntmps76
  go_wp2_with fail
  refine h1.out.mono ?_
  rintro e w1 ⟨rfl, hE1⟩
  go_wp2_with fail
  refine (h2.out _ hE1).mono ?_
  rintro e w2 ⟨rfl, hE2⟩
  have hX := hE1.trans hE2
  go_wp2_with fail
  go_ret
  exact ⟨rfl, hX⟩
/-- What row.result hands back. -/
def ResPost (w : World) (v : Value) (x : List Int) (e : Ending) (w' : World) : Prop :=
  e = .returned (.tuple #[if chkRow x = 0 then v else .slice none 0 0, .int .i64 (chkRow x)]) ∧ Ext w w'
set_option maxRecDepth 100000 in
theorem rresult_any {w : World} {v : Value} {x : List Int} (hX : RowR w v x) : Calls Tryz.prog 78 #[v] w (ResPost w v x) := by
  have h1 := Lib.hid (rowCheck_any hX)
  obtain ⟨sa, ga, oa, ca, rfl, hca, hSa⟩ := hX
  obtain ⟨z, hz⟩ : ∃ z, z = chkRow x := ⟨_, rfl⟩
  unfold ResPost
  rw [← hz] at h1 ⊢
  generalize x.length = n at *
  clear hz hSa hca
  by_cases h0 : z = 0
  · subst h0
    go_enter Tryz.func78, Tryz.ntmps78
    go_wp2_with fail
    refine h1.out.mono ?_
    rintro e w1 ⟨rfl, hE1⟩
    go_wp2_with fail
    go_ret2
    exact ⟨rfl, hE1⟩
  · have h2 : (z == 0) = false := beq_eq_false_iff_ne.2 h0
    have h3 : (z != 0) = true := by simp [bne, h2]
    rw [if_neg h0]
    go_enter Tryz.func78, Tryz.ntmps78
    go_wp2_with fail
    refine h1.out.mono ?_
    rintro e w1 ⟨rfl, hE1⟩
    go_wp2_with fail
    go_ret2
    exact ⟨rfl, hE1⟩
theorem pairs_any {w : World} {m : Nat} {sa sb : Option Addr} {n ca cb : Nat} :
    CallsIn Fence.wide m Tryz.prog 77 #[.slice sa n ca, .slice sb n cb] w fun e w' => e = .returned (.func (.func 114) #[] #[.pointer (some ⟨w.heap.size, 0, none⟩), .pointer (some ⟨w.heap.size + 1, 0, none⟩)]) ∧ w' = (w.alloc (.cells #[.slice sa n ca] 30)).alloc (.cells #[.slice sb n cb] 30) := by
  refine callsIn_wide.2 ?_
  go_enter Tryz.func77, Tryz.ntmps77
  go_wp2_with fail
  go_ret
  exact ⟨rfl, rfl⟩
def uptoP {α : Type} (f : Nat → α) (k : Nat) : List α := (List.range k).map f
theorem uptoP_succ {α : Type} (f : Nat → α) (k : Nat) : uptoP f (k + 1) = uptoP f k ++ [f k] := by simp [uptoP, List.range_succ]
theorem uptoP_length {α : Type} (f : Nat → α) (k : Nat) : (uptoP f k).length = k := by simp [uptoP]
/-- What a round keeps: what lay below n₀, and the box of the second row. -/
def KpB (n₀ Bb : Nat) (W W' : World) : Prop := Below n₀ W W' ∧ ∀ v, W.cell? ⟨Bb, 0, none⟩ = some v → W'.cell? ⟨Bb, 0, none⟩ = some v
theorem kpB_t {n₀ Bb : Nat} {A B C : World} (h : KpB n₀ Bb A B) (k : KpB n₀ Bb B C) : KpB n₀ Bb A C := ⟨h.1.trans k.1, fun v hv => k.2 v (h.2 v hv)⟩
theorem kpB_b {n₀ Bb : Nat} {w : World} (hn : n₀ ≤ w.heap.size) (W : World) (l : Nat) (o o' : Obj) (hl : w.heap.size ≤ l) (h : W.heap[l]? = some o) (h1 : o.isCells = false) (h2 : o.isWalk = false) : KpB n₀ Bb W (W.putObj l o') :=
  ⟨belowK_b hn W l o o' hl h h1 h2, fun _ hv => cell_kept hv (grownBy_putObj' W l o') (fun r e => by cases e; exact ⟨o, h, h1⟩)⟩
def pairF (xs ys : List Int) (j : Nat) : Int × Int := (xs[j]?.getD 0, ys[j]?.getD 0)
abbrev encP (p : Int × Int) : Array Value := #[.int .i64 p.1, .int .i64 p.2]
set_option maxRecDepth 100000 in
set_option maxHeartbeats 2000000 in
theorem pairs1_in (n l Ba Bb ga oa ca gb ob cb len : Nat) (sa sb : Option Addr) (xs ys : List Int) (hn : 1 ≤ n) (hlen : len ≤ 1000) (hla : xs.length = len) (hlb : ys.length = len) (w0 : World) (hSa : Sl w0 sa ga oa (is xs)) (hSb : Sl w0 sb gb ob (is ys)) (J Jx : List (Int × Int) → World → Prop)
    (hY : ∀ pre x W, J pre W → pre.length < len → YieldAt Fence.wide (n - 1) Tryz.prog l (encP x) W fun e W' =>
      (e = .returned (.bool true) ∧ J (pre ++ [x]) W' ∧ KpB w0.heap.size Bb W W') ∨ (e = .returned (.bool false) ∧ Jx (pre ++ [x]) W'))
    (W : World) (hE : Ext w0 W) (hBa : W.cell? ⟨Ba, 0, none⟩ = some (.slice sa len ca)) (hBb : W.cell? ⟨Bb, 0, none⟩ = some (.slice sb len cb)) (h0 : J [] W) :
    CallsIn Fence.wide n Tryz.prog 114 #[.func (.yield l) #[] #[], .pointer (some ⟨Ba, 0, none⟩), .pointer (some ⟨Bb, 0, none⟩)] W fun e W' => (∃ v, e = .returned v) ∧
      ((∃ zs, zs = uptoP (pairF xs ys) len ∧ J zs W') ∨ (∃ pre, (∃ k, k ≤ len ∧ pre = uptoP (pairF xs ys) k) ∧ Jx pre W')) := by
  have HA := Lib.hid hSa
  have HB := Lib.hid hSb
  have Hla := Lib.hid hla
  have Hlb := Lib.hid hlb
  clear hSa hSb hla hlb
  refine callsIn_of_wp Tryz.func114 rfl trivial ?_ rfl
  simp only [Tryz.ntmps114, List.size_toArray, List.length_cons, List.length_nil, Nat.reduceAdd, Nat.reduceSub, Array.replicate_succ, Array.replicate_zero, List.push_toArray, List.append_toArray, List.nil_append, List.cons_append]
  gi_wp2
  gi_loopw [8] (fun i wr => ∃ k : Nat, k ≤ len ∧ i = .int .i64 k ∧ J (uptoP (pairF xs ys) k) wr ∧ Ext w0 wr ∧ wr.cell? ⟨Bb, 0, none⟩ = some (.slice sb len cb))
    (fun i _ => len - (intOf i).toNat)
  case atStart => exact ⟨0, Nat.zero_le _, rfl, h0, hE, hBb⟩
  case round =>
    obtain ⟨k, hk, rfl, hJs, hX, hc⟩ := hrel
    by_cases hlt : k < len
    · have hka : k < xs.length := by rw [Hla.out]; exact hlt
      have hkb : k < ys.length := by rw [Hlb.out]; exact hlt
      have c1 := (HA.out.ext hX).cell k (.int .i64 (xs[k]?.getD 0)) (by rw [List.getElem?_eq_getElem hka]; exact is_get hka)
      have c2 := (HB.out.ext hX).cell k (.int .i64 (ys[k]?.getD 0)) (by rw [List.getElem?_eq_getElem hkb]; exact is_get hkb)
      obtain rfl := HA.out.addr (by rw [is_length]; omega)
      obtain rfl := HB.out.addr (by rw [is_length]; omega)
      obtain ⟨fn, tmps, assign, body, hy, hR⟩ := hY _ (pairF xs ys k) wr hJs (by rw [uptoP_length]; exact hlt)
      dsimp only [encP, pairF] at hy
      clear hka hkb
      gi_wp2
      refine hR.mono ?_
      rintro e W3 (⟨rfl, hJ3, hk3⟩ | ⟨rfl, hJx3⟩)
      · gi_wp2
        go_roundw
        case rel => exact ⟨k + 1, by omega, by simp, by rw [uptoP_succ]; exact hJ3, Ext.mk' (Below.trans hX hk3.1), hk3.2 _ hc⟩
        case measure => simp [intOf]; omega
      · gi_wp2
        refine bodyPost_ret (results_none rfl _ _ _) rfl ?_
        exact ⟨⟨_, rfl⟩, .inr ⟨_, ⟨k + 1, by omega, (uptoP_succ _ _).symm⟩, hJx3⟩⟩
    · obtain rfl : k = len := by omega
      gi_wp2
      go_end0
      exact ⟨⟨_, rfl⟩, .inl ⟨_, rfl, hJs⟩⟩
theorem pairs_stops (n Ba Bb ga oa ca gb ob cb len : Nat) (sa sb : Option Addr) (xs ys : List Int) (hn : 1 ≤ n) (hlen : len ≤ 1000) (hla : xs.length = len) (hlb : ys.length = len) (w0 w : World) (hE : Ext w0 w) (hSa : Sl w0 sa ga oa (is xs)) (hSb : Sl w0 sb gb ob (is ys))
    (hBa : w.cell? ⟨Ba, 0, none⟩ = some (.slice sa len ca)) (hBb : w.cell? ⟨Bb, 0, none⟩ = some (.slice sb len cb)) :
    SeqStopsK Fence.wide n Tryz.prog 114 #[.pointer (some ⟨Ba, 0, none⟩), .pointer (some ⟨Bb, 0, none⟩)] encP (KpB w0.heap.size Bb) (fun zs => zs = uptoP (pairF xs ys) len) (fun pre => ∃ k, k ≤ len ∧ pre = uptoP (pairF xs ys) k) len w := fun l J Jx W hW _ _ hY h0 =>
  pairs1_in n l Ba Bb ga oa ca gb ob cb len sa sb xs ys hn hlen hla hlb w0 hSa hSb J Jx hY W (hE.trans hW) (Ext.cell hW hBa) (Ext.cell hW hBb) h0
end Go.Proofs.YtnmmglnadnfoiaaGreatDoor
/- row: Sub, Add. -/
namespace Go.Proofs.YtnmmglnadnfoiaaGreatDoor
open Go.RowKit Go.Sort Go.Shelf
attribute [local go_sem] Oper.semAt_some
/-- The values reckoned of pairs. -/
def subP (zs : List (Int × Int)) : List Int := zs.map fun p => wrap64 (p.1 - p.2)
theorem subP_snoc (zs : List (Int × Int)) (x : Int × Int) : subP (zs ++ [x]) = subP zs ++ [wrap64 (x.1 - x.2)] := by simp [subP]
theorem subP_length (zs : List (Int × Int)) : (subP zs).length = zs.length := by simp [subP]
def subR (a b : List Int) : List Int := List.zipWith (fun x y => x - y) a b
theorem subP_all {n : Nat} {a b : List Int} (la : a.length = n) (lb : b.length = n) (ha : ∀ z ∈ a, -1000000000 ≤ z ∧ z ≤ 1000000000) (hb : ∀ z ∈ b, -1000000000 ≤ z ∧ z ≤ 1000000000) : subP (uptoP (pairF a b) n) = subR a b := by
  refine List.ext_getElem (by rw [subP_length]; simp [uptoP, subR, la, lb]) fun i h1 h2 => ?_
  have hi : i < n := by rw [subP_length] at h1; simpa [uptoP] using h1
  have h3 := ha _ (List.getElem_mem (show i < a.length by omega))
  have h4 := hb _ (List.getElem_mem (show i < b.length by omega))
  simp only [subP, uptoP, pairF, subR, List.getElem_map, List.getElem_range, List.getElem_zipWith]
  rw [List.getElem?_eq_getElem (by omega), List.getElem?_eq_getElem (by omega)]
  simp only [Option.getD_some]
  exact IntWalk.wrap64_in _ (by omega)
/-- What row.Sub hands back. -/
def SubPost (w : World) (n : Nat) (d : List Int) (e : Ending) (w' : World) : Prop :=
  ∃ g c, e = .returned (.tuple #[if chkRow d = 0 then slv g n c else .slice none 0 0, .int .i64 (chkRow d)]) ∧ RowV w.heap.size w' (slv g n c) d ∧ Ext w w'
set_option maxRecDepth 100000 in
set_option maxHeartbeats 4000000 in
theorem rowSub_any {w : World} {sa sb : Option Addr} {n ca cb : Nat} {a b : List Int} (hA : RowR w (.slice sa n ca) a) (hB : RowR w (.slice sb n cb) b) (ea : chkRow a = 0) (eb : chkRow b = 0) (la : a.length = n) (lb : b.length = n) :
    Calls Tryz.prog 71 #[.slice sa n ca, .slice sb n cb] w (SubPost w n (subR a b)) := by
  have Hall := Lib.hid (subP_all la lb (chkRow_ok ea).2 (chkRow_ok eb).2)
  have hbo := Lib.hid (rboth_ok hA hB ea eb (by rw [la, lb]))
  have hn64 : n ≤ 64 := by have := (chkRow_ok ea).1; omega
  obtain ⟨i0, hi, hz0, hz1, hz2⟩ := info_parts Tryz.infoInt
  obtain ⟨sa', ga, oa, ca', hva, hca, hSa⟩ := hA
  obtain ⟨sb', gb, ob, cb', hvb, hcb, hSb⟩ := hB
  injection hva with q1 q2 q3
  subst q1 q3
  clear q2
  injection hvb with q1 q2 q3
  subst q1 q3
  clear q2
  have HA := Lib.hid hSa
  have HB := Lib.hid hSb
  have Hla := Lib.hid la
  have Hlb := Lib.hid lb
  have Hinfo := Lib.hid (⟨hi, hz0, hz1, hz2⟩ : _ ∧ _ ∧ _ ∧ _)
  clear hSa hSb la lb ea eb hcb hca hi hz0 hz1 hz2
  refine (callsIn_wide (n := 6)).1 ?_
  refine callsIn_of_wp_marks Tryz.func71 rfl trivial ?_ rfl
  simp only [Tryz.ntmps71, List.size_toArray, List.length_cons, List.length_nil, Nat.reduceAdd, Nat.reduceSub, Array.replicate_succ, Array.replicate_zero, List.push_toArray, List.append_toArray, List.nil_append, List.cons_append]
  gi_wp2
  refine ⟨trivial, (callsIn_wide.2 hbo.out).mono ?_⟩
  rintro e w1 ⟨rfl, hE1⟩
  gi_wp2_with (gi_at_make; refine wpListIn_make_own _ rfl _ _ 30 rfl w.heap.size 3 i0 (.int .i64 0) 1 Tryz.underlying30 Hinfo.out.1 Hinfo.out.2.1 Hinfo.out.2.2.1 .i64 .i64 _ n rfl rfl rfl (by rw [Hinfo.out.2.2.2]; omega) (by unfold maxLen; omega) (by have := hE1.size; omega) ?_; intro w2 hown2 hgrow2)
  refine ⟨trivial, pairs_any.mono ?_⟩
  rintro e w3 ⟨rfl, rfl⟩
  have hE2 : Ext w w2 := hE1.trans (Ext.mk' (Below.grown (Below.refl _ _) hgrow2 (Nat.le_refl _) (fun q hq => by cases hq)))
  have bO := ((Boxed.new w2 30 (.slice (some ⟨w1.heap.size, 0, none⟩) 0 n)).alloc (.cells #[.slice sa n ca] 30)).alloc (.cells #[.slice sb n cb] 30)
  have bA := (Boxed.new (w2.alloc (.cells #[.slice (some ⟨w1.heap.size, 0, none⟩) 0 n] 30)) 30 (.slice sa n ca)).alloc (.cells #[.slice sb n cb] 30)
  have bB := Boxed.new ((w2.alloc (.cells #[.slice (some ⟨w1.heap.size, 0, none⟩) 0 n] 30)).alloc (.cells #[.slice sa n ca] 30)) 30 (.slice sb n cb)
  simp only [World.size_alloc] at bA bB
  have hE3 := ((hE2.alloc (.cells #[.slice (some ⟨w1.heap.size, 0, none⟩) 0 n] 30)).alloc (.cells #[.slice sa n ca] 30)).alloc (.cells #[.slice sb n cb] 30)
  have hown3 := ownsRow_ext (ownsRow_ext (ownsRow_ext hown2 ((Ext.refl w2).alloc (.cells #[.slice (some ⟨w1.heap.size, 0, none⟩) 0 n] 30))) ((Ext.refl _).alloc (.cells #[.slice sa n ca] 30))) ((Ext.refl _).alloc (.cells #[.slice sb n cb] 30))
  simp only [World.size_alloc]
  have hsz2 := hE2.size
  obtain ⟨Bo, hBo⟩ : ∃ Bo, Bo = w2.heap.size := ⟨_, rfl⟩
  obtain ⟨w3, hw3⟩ : ∃ w3, ((w2.alloc (.cells #[.slice (some ⟨w1.heap.size, 0, none⟩) 0 n] 30)).alloc (.cells #[.slice sa n ca] 30)).alloc (.cells #[.slice sb n cb] 30) = w3 := ⟨_, rfl⟩
  have hsz3 : w3.heap.size = Bo + 3 := by rw [← hw3, hBo]; simp
  rw [← hBo] at bO bA bB hsz2 ⊢
  rw [hw3] at bO bA bB hE3 hown3 ⊢
  clear hw3 hown2 hgrow2 hE2 hBo
  generalize w1.heap.size = g0 at *
  gi_wp2
  refine wpIn_rangeFunc_ownG (Kp := KpB w.heap.size (Bo + 1 + 1)) rfl (by omega) (gf := 114) (lb := #[.pointer (some ⟨Bo + 1, 0, none⟩), .pointer (some ⟨Bo + 1 + 1, 0, none⟩)]) rfl trivial (enters_of Tryz.func114 (by kernel_rfl) rfl)
    (pairs_stops _ (Bo + 1) (Bo + 1 + 1) ga oa ca gb ob cb n sa sb a b (by omega) (by omega) Hla.out Hlb.out w w3 hE3 HA.out HB.out bA.cell bB.cell) kpB_t (kpB_b (by omega)) (Below.refl _ _) (fun _ => rfl)
    (fun pre W => (∃ v, Boxed W Bo 30 v ∧ W.ownsRow w.heap.size 3 1 v (subP pre).length (is (subP pre)) ∧ ∃ g c, v = .slice (some ⟨g, 0, none⟩) (subP pre).length c) ∧ Boxed W (Bo + 1 + 1) 30 (.slice sb n cb) ∧ Below w.heap.size w W)
    (fun _ _ _ => False)
    (OwnFrom.and (Own.from (holdsRow_own w.heap.size Bo 30 3 1 (fun pre => (subP pre).length) (fun pre => is (subP pre)) (fun pre v => ∃ g c, v = .slice (some ⟨g, 0, none⟩) (subP pre).length c)) _) (OwnFrom.and (Own.from (boxed_own (Bo + 1 + 1) 30 (fun _ => .slice sb n cb)) _) (ownFrom_below (Nat.le_refl _) (by omega))))
    (fun _ _ _ _ _ hs _ _ => hs)
    ⟨⟨_, bO, hown3, _, _, rfl⟩, bB, hE3⟩
    (fun x => { tmps := #[.slice sa n ca, .slice sb n cb, undef, undef, .slice none 0 0, .int .i64 0, .int .i64 0, .pointer (some ⟨Bo, 0, none⟩), .int .i64 x.1, .int .i64 x.2, .slice sa n ca, .slice sb n cb, .int .i64 0, .int .i64 0, .bool false, undef, .slice sa n ca, .int .i64 n, .slice (some ⟨g0, 0, none⟩) 0 n, .slice sa n ca, .slice sb n cb, .func (.func 114) #[] #[.pointer (some ⟨Bo + 1, 0, none⟩), .pointer (some ⟨Bo + 1 + 1, 0, none⟩)], .int .i64 x.1, .int .i64 x.2, undef, undef, undef, undef, undef, undef, undef, undef, undef, undef], defers := [] }) ?assign ?body ?done ?stop
  case assign =>
    intro l x W K hK
    gi_wp2
    exact hK
  case body =>
    rintro l pre x W ⟨⟨v, hv, hrow, hg⟩, hb, hB⟩ hlt
    have hc := hv.cell
    gi_wp2_with (gi_at_builtin; refine wpListIn_append_own _ rfl _ _ 30 rfl w.heap.size 3 i0 (.int .i64 0) 1 8 Tryz.underlying30 Hinfo.out.1 Hinfo.out.2.1 Hinfo.out.2.2.1 Hinfo.out.2.2.2 rfl (by decide) _ _ _ rfl (hrow.alloc _) ⟨W.heap.size, 0, none⟩ 1 1 [.int .i64 (wrap64 (x.1 - x.2))] rfl rfl (cell_one_new _ _ _) (by simp [Value.oneCell']) (by unfold maxLen; rw [subP_length]; omega) (by rw [subP_length]; omega) (by have := hB.size; simp; omega) ?_; intro v' w1 hown' hgrow _; obtain ⟨g', cap', rfl⟩ := ownsRow_succ hown'; obtain ⟨hv1, hv2, hr2, hk2, hb2⟩ := hv.appended (by decide) hrow hB.size (by omega) hown' hgrow; have hbb := ((hb.alloc _).kept hgrow (hb.not_row (by decide) hrow)).other (B' := Bo) (by omega) (.slice (some ⟨g', 0, none⟩) ((subP pre).length + 1) cap'); have hc1 := hv1.cell; have hf1 := hv1.frozen)
    refine ⟨hk2.from _, ⟨hb2, fun u hu => ?_⟩, ⟨_, hv2, ?_, g', cap', ?_⟩, hbb, hB.trans hb2⟩
    · rw [hb.cell] at hu; cases hu; exact hbb.cell
    · have e : (subP (pre ++ [x])).length = (subP pre).length + 1 := by simp [subP_length]
      rw [e, subP_snoc, is_snoc]; exact hr2
    · have e : (subP (pre ++ [x])).length = (subP pre).length + 1 := by simp [subP_length]
      rw [e]
  case done =>
    rintro D ys W hD rfl ⟨⟨v, hv, hrow, g, c, hvg⟩, hb, hB⟩ hK
    have hln : (subP (uptoP (pairF a b) n)).length = n := by rw [subP_length, uptoP_length]
    rw [hln] at hvg
    subst hvg
    rw [hln, Hall.out] at hrow
    rw [Hall.out] at hln
    have hrv : RowV w.heap.size W (slv g n c) (subR a b) := by unfold RowV; rw [hln]; exact hrow
    have hc := hv.cell
    have hres := Lib.hid (rresult_any hrv.row)
    unfold ResPost at hres
    have Hrv := Lib.hid hrv
    clear hrv hrow
    obtain ⟨rv, hrv⟩ : ∃ rv, rv = if chkRow (subR a b) = 0 then slv g n c else .slice none 0 0 := ⟨_, rfl⟩
    obtain ⟨z, hz⟩ : ∃ z, z = chkRow (subR a b) := ⟨_, rfl⟩
    have Hpost := Lib.hid (fun W' (hW : RowV w.heap.size W' (slv g n c) (subR a b)) (hX : Ext w W') => (⟨g, c, by rw [← hrv, ← hz], hW, hX⟩ : SubPost w n (subR a b) (.returned (.tuple #[rv, .int .i64 z])) W'))
    rw [← hrv, ← hz] at hres
    clear hz hrv
    gi_wp2
    refine ⟨trivial, (callsIn_wide.2 hres.out).mono ?_⟩
    rintro e w5 ⟨rfl, hE5⟩
    have hK5 := (hE5.block D (Array.getElem?_eq_some_iff.1 hK).1).trans hK
    gi_wp2
    refine ⟨by simp, .inl ⟨_, _, rfl, run_takeDeferred hK5, ?_⟩⟩
    refine ⟨.tuple #[rv, .int .i64 z], ?_, Hpost.out _ (ownsRow_putObj (Hrv.out.ext hE5) _ hK5 rfl) ?_⟩
    · simp [results, Tryz.results71, go_sem]
    · exact Ext.mk' ((Below.trans hB (Below.mono hE5 hB.size)).trans (belowK_b (w := w) (Nat.le_refl _) w5 D _ _ (by omega) hK5 rfl rfl))
  case stop =>
    rintro D c pre W _ _ h _
    exact h.elim
end Go.Proofs.YtnmmglnadnfoiaaGreatDoor
/- Lists of rows, and lists of these, that a call makes by append. -/
namespace Go.Proofs.YtnmmglnadnfoiaaGreatDoor
open Go.RowKit Go.Sort
section
variable {w : World} {ops : Array Oper} {rest : List Oper} {o : Oper} {a : Act} {Q : Exit → Act → World → Prop}
theorem app_rows (hgd : o.guard = none) (s x : Operand) (t : TypeId) (ht : Tryz.prog.underlying t = some (.slice 30)) (ho : o.op = .call { callee := .builtin .append, args := #[s, x], argTypes := #[t, t] })
    {B : Nat} {v rv : Value} {F : Mx} {r : List Int} (hs : a.eval s = v) (hown : MatO B w v F) {b : Nat} (hx : a.eval x = .slice (some ⟨b, 0, none⟩) 1 1) (hc : w.cell? ⟨b, 0, none⟩ = some rv) (hr : RowV B w rv r) (hl : F.length ≤ 1000000000) (hB : B ≤ w.heap.size)
    (h : ∀ g cap w', MatO B w' (slv g (F.length + 1) cap) (F ++ [r]) → Below B w w' → w.grownBy w' v.ownBlock → wpList Tryz.prog ops Q rest (a.put o.dst (slv g (F.length + 1) cap)) w') : wpList Tryz.prog ops Q (o :: rest) a w := by
  obtain ⟨i0, hi, hz0, hz1, hz2⟩ := info_parts Tryz.infoRow
  obtain ⟨vs, h1, h2, h3⟩ := hown
  refine wpList_append_lies w hgd s x t ho B 30 i0 _ 1 24 ht hi hz0 hz1 hz2 rfl (by omega) v F.length vs hs h2 ⟨b, 0, none⟩ 1 1 [rv] hx rfl ?_ ?_ (by omega) (by unfold maxLen; omega) (by omega) hB w.heap.size rfl ?_
  · intro j u hj
    have : j = 0 := by have := (List.getElem?_eq_some_iff.1 hj).1; simp at this; omega
    subst this
    simp only [List.getElem?_cons_zero, Option.some.injEq] at hj
    subst hj
    simpa [Addr.add_lit] using hc
  · intro u hu
    simp only [List.mem_cons, List.not_mem_nil, or_false] at hu
    subst hu; exact hr.one
  · intro g cap w' k1 k2 k3 k4
    have hkeep : ∀ {u : Value} {l : List Int}, RowV B w u l → RowV B w' u l := fun hu => own_kept hu h2 (by decide) k2
    refine h g cap w' ⟨vs ++ [rv], by simp [h1], ?_, fun t ht ht' => ?_⟩ (Below.grown (Below.refl _ _) k2 hB (fun q hq => (World.ownsRow.lt h2 q hq).1)) k2
    · rw [List.length_append]; exact k1
    · rcases Nat.lt_or_ge t F.length with hlt | hge
      · rw [List.getElem_append_left (by omega), List.getElem_append_left hlt]
        exact hkeep (h3 t hlt (by omega))
      · have hte : t = F.length := by simp at ht; omega
        subst hte
        rw [List.getElem_append_right (by omega), List.getElem_append_right (by omega)]
        simp only [h1, Nat.sub_self, List.getElem_cons_zero]
        exact hkeep hr
end
theorem Tryz.infoRows : (Tryz.prog.info? 48).map (fun i => (i.zero, i.size, i.bytes)) = some (some (.slice none 0 0), 1, 24) := by kernel_rfl
/-- A list of lists of rows that the call has made. -/
def BookO (B : Nat) (w : World) (v : Value) (G : List Mx) : Prop := ∃ vs, vs.length = G.length ∧ w.ownsRow B 48 1 v G.length vs ∧ ∀ t (_ : t < G.length) (h' : t < vs.length), MatO B w vs[t] G[t]
theorem BookO.nil (B : Nat) (w : World) : BookO B w (.slice none 0 0) [] := ⟨[], rfl, ⟨rfl, .inl ⟨rfl, rfl⟩⟩, fun t h => by simp at h⟩
theorem BookO.ext {B : Nat} {w w' : World} {v : Value} {G : List Mx} (h : BookO B w v G) (he : Ext w w') : BookO B w' v G := by
  obtain ⟨vs, h1, h2, h3⟩ := h
  exact ⟨vs, h1, ownsRow_ext h2 he, fun t ht ht' => (h3 t ht ht').ext he⟩
theorem BookO.mono {B B' : Nat} {w : World} {v : Value} {G : List Mx} (h : BookO B w v G) (hB : B' ≤ B) : BookO B' w v G := by
  obtain ⟨vs, h1, h2, h3⟩ := h
  exact ⟨vs, h1, ownsRow_mono h2 hB, fun t ht ht' => (h3 t ht ht').mono hB⟩
theorem mat_kept {B B' : Nat} {w w' : World} {T' : TypeId} {size' n' : Nat} {u v : Value} {F : Mx} {ys : List Value} (h : MatO B w u F) (h' : w.ownsRow B' T' size' v n' ys) (h1 : 30 ≠ T') (h2 : 3 ≠ T') (hg : w.grownBy w' v.ownBlock) : MatO B w' u F := by
  obtain ⟨vs, k1, k2, k3⟩ := h
  exact ⟨vs, k1, own_kept k2 h' h1 hg, fun t ht ht' => own_kept (k3 t ht ht') h' h2 hg⟩
theorem MatO.one {B : Nat} {w : World} {v : Value} {F : Mx} (h : MatO B w v F) : v.oneCell' = true := by
  obtain ⟨vs, k1, k2, k3⟩ := h
  rcases k2.2 with ⟨rfl, _⟩ | ⟨g, cap, cur, rfl, _⟩ <;> rfl
section
variable {w : World} {ops : Array Oper} {rest : List Oper} {o : Oper} {a : Act} {Q : Exit → Act → World → Prop}
theorem app_book (hgd : o.guard = none) (s x : Operand) (ho : o.op = .call { callee := .builtin .append, args := #[s, x], argTypes := #[72, 72] })
    {B : Nat} {v rv : Value} {G : List Mx} {F : Mx} (hs : a.eval s = v) (hown : BookO B w v G) {b : Nat} (hx : a.eval x = .slice (some ⟨b, 0, none⟩) 1 1) (hc : w.cell? ⟨b, 0, none⟩ = some rv) (hr : MatO B w rv F) (hl : G.length ≤ 1000000000) (hB : B ≤ w.heap.size)
    (h : ∀ g cap w', BookO B w' (slv g (G.length + 1) cap) (G ++ [F]) → Below B w w' → w.grownBy w' v.ownBlock → wpList Tryz.prog ops Q rest (a.put o.dst (slv g (G.length + 1) cap)) w') : wpList Tryz.prog ops Q (o :: rest) a w := by
  obtain ⟨i0, hi, hz0, hz1, hz2⟩ := info_parts Tryz.infoRows
  obtain ⟨vs, h1, h2, h3⟩ := hown
  refine wpList_append_lies w hgd s x 72 ho B 48 i0 _ 1 24 Tryz.underlying72 hi hz0 hz1 hz2 rfl (by omega) v G.length vs hs h2 ⟨b, 0, none⟩ 1 1 [rv] hx rfl ?_ ?_ (by omega) (by unfold maxLen; omega) (by omega) hB w.heap.size rfl ?_
  · intro j u hj
    have : j = 0 := by have := (List.getElem?_eq_some_iff.1 hj).1; simp at this; omega
    subst this
    simp only [List.getElem?_cons_zero, Option.some.injEq] at hj
    subst hj
    simpa [Addr.add_lit] using hc
  · intro u hu
    simp only [List.mem_cons, List.not_mem_nil, or_false] at hu
    subst hu; exact hr.one
  · intro g cap w' k1 k2 k3 k4
    have hkeep : ∀ {u : Value} {F : Mx}, MatO B w u F → MatO B w' u F := fun hu => mat_kept hu h2 (by decide) (by decide) k2
    refine h g cap w' ⟨vs ++ [rv], by simp [h1], ?_, fun t ht ht' => ?_⟩ (Below.grown (Below.refl _ _) k2 hB (fun q hq => (World.ownsRow.lt h2 q hq).1)) k2
    · rw [List.length_append]; exact k1
    · rcases Nat.lt_or_ge t G.length with hlt | hge
      · rw [List.getElem_append_left (by omega), List.getElem_append_left hlt]
        exact hkeep (h3 t hlt (by omega))
      · have hte : t = G.length := by simp at ht; omega
        subst hte
        rw [List.getElem_append_right (by omega), List.getElem_append_right (by omega)]
        simp only [h1, Nat.sub_self, List.getElem_cons_zero]
        exact hkeep hr
end
/-- The intervals of a window. -/
def winRow (m : Nat) (y : Int) (o r u : List Int) (t : Nat) : Mx := (List.range t).map fun (x : Nat) => atL ((x : Int) - m) y o r u
def winTo (m : Nat) (o r u : List Int) (t : Nat) : List Mx := (List.range t).map fun (y : Nat) => winRow m ((y : Int) - m) o r u (2 * m + 1)
theorem winRow_length (m : Nat) (y : Int) (o r u : List Int) (t : Nat) : (winRow m y o r u t).length = t := by simp [winRow]
theorem winTo_length (m : Nat) (o r u : List Int) (t : Nat) : (winTo m o r u t).length = t := by simp [winTo]
theorem winRow_succ (m : Nat) (y : Int) (o r u : List Int) (t : Nat) : winRow m y o r u (t + 1) = winRow m y o r u t ++ [atL ((t : Int) - m) y o r u] := by
  simp [winRow, List.range_succ]
theorem winTo_succ (m : Nat) (o r u : List Int) (t : Nat) : winTo m o r u (t + 1) = winTo m o r u t ++ [winRow m ((t : Int) - m) o r u (2 * m + 1)] := by
  simp [winTo, List.range_succ]
/-- The keys of a window that have an interval. -/
def kyRow (m : Nat) (q : List Int) (y : Int) (o r u : List Int) (t : Nat) : List (Int × Int) := (List.range t).flatMap fun (x : Nat) => if atL ((x : Int) - m) y o r u = q then [((x : Int) - m, y)] else []
def kyTo (m : Nat) (q : List Int) (o r u : List Int) (t : Nat) : List (Int × Int) := (List.range t).flatMap fun (y : Nat) => kyRow m q ((y : Int) - m) o r u (2 * m + 1)
theorem kyRow_succ (m : Nat) (q : List Int) (y : Int) (o r u : List Int) (t : Nat) : kyRow m q y o r u (t + 1) = kyRow m q y o r u t ++ (if atL ((t : Int) - m) y o r u = q then [((t : Int) - m, y)] else []) := by
  simp [kyRow, List.range_succ]
theorem kyTo_succ (m : Nat) (q : List Int) (o r u : List Int) (t : Nat) : kyTo m q o r u (t + 1) = kyTo m q o r u t ++ kyRow m q ((t : Int) - m) o r u (2 * m + 1) := by
  simp [kyTo, List.range_succ]
theorem kyRow_le (m : Nat) (q : List Int) (y : Int) (o r u : List Int) : ∀ t, (kyRow m q y o r u t).length ≤ t
  | 0 => by simp [kyRow]
  | t + 1 => by
    rw [kyRow_succ, List.length_append]
    have := kyRow_le m q y o r u t
    split <;> simp <;> omega
theorem kyTo_le (m : Nat) (q : List Int) (o r u : List Int) : ∀ t, (kyTo m q o r u t).length ≤ (2 * m + 1) * t
  | 0 => by simp [kyTo]
  | t + 1 => by
    rw [kyTo_succ, List.length_append, Nat.mul_succ]
    have := kyTo_le m q o r u t
    have := kyRow_le m q ((t : Int) - m) o r u (2 * m + 1)
    omega
end Go.Proofs.YtnmmglnadnfoiaaGreatDoor
/- layout: window, Window. -/
namespace Go.Proofs.YtnmmglnadnfoiaaGreatDoor
open Go.RowKit Go.Sort
def winE (z : Int) : Int := if z < 0 ∨ 20 < z then 3 else 0
theorem window_any (z : Int) (w : World) : Calls Tryz.prog 75 #[.int .i64 z] w fun e w' => e = .returned (.int .i64 (winE z)) ∧ Ext w w' := by
  unfold winE
  by_cases h1 : z < 0
  · rw [if_pos (.inl h1)]
    go_enter Tryz.func75, Tryz.ntmps75
    go_wp2_with fail
    go_ret
    exact ⟨rfl, Ext.refl _⟩
  · by_cases h2 : 20 < z
    · rw [if_pos (.inr h2)]
      have h3 : z > 20 := h2
      go_enter Tryz.func75, Tryz.ntmps75
      go_wp2_with fail
      go_ret
      exact ⟨rfl, Ext.refl _⟩
    · rw [if_neg (by omega)]
      have h3 : ¬ z > 20 := h2
      go_enter Tryz.func75, Tryz.ntmps75
      go_wp2_with fail
      go_ret
      exact ⟨rfl, Ext.refl _⟩
theorem Note_ok {w : World} {k x y : Int} {n go co gr cr gu cu : Nat} {o r u : List Int} (h : LayP w k n go co gr cr gu cu o r u) (hx : -1000000 ≤ x ∧ x ≤ 1000000) (hy : -1000000 ≤ y ∧ y ≤ 1000000) (hc : chkRow (atL x y o r u) = 0) :
    Calls Tryz.prog 17 #[layv k n go co gr cr gu cu, .agg #[.int .i64 x, .int .i64 y]] w fun e w' => (∃ g, e = .returned (.tuple #[slv g n n, .int .i64 0]) ∧ OwnV 3 w.heap.size w' g n (is (atL x y o r u))) ∧ Ext w w' := by
  refine (Note_any h (by unfold I64; omega) (by unfold I64; omega) (fun _ => hc)).mono ?_
  rintro e w' ⟨hp, hE⟩
  have hf : farB x y = false := by
    unfold farB
    simp only [Bool.or_eq_false_iff, decide_eq_false_iff_not]
    omega
  rw [hf, if_neg (by decide)] at hp
  exact ⟨hp, hE⟩
theorem OwnV.rowV {B : Nat} {w : World} {g n : Nat} {x : List Int} (h : OwnV 3 B w g n (is x)) (hl : x.length = n) : RowV B w (slv g n n) x := by
  subst hl
  unfold OwnV at h; unfold RowV
  simpa using h
theorem MatO.shape {B : Nat} {w : World} {v : Value} {F : Mx} (h : MatO B w v F) (h0 : 0 < F.length) : ∃ g cap, v = slv g F.length cap := by
  obtain ⟨vs, k1, k2, k3⟩ := h
  rcases k2.2 with ⟨_, he⟩ | ⟨g, cap, cur, rfl, _⟩
  · rw [he] at k1; simp at k1; omega
  · exact ⟨g, cap, rfl⟩
theorem BookO.shape {B : Nat} {w : World} {v : Value} {F : List Mx} (h : BookO B w v F) (h0 : 0 < F.length) : ∃ g cap, v = slv g F.length cap := by
  obtain ⟨vs, k1, k2, k3⟩ := h
  rcases k2.2 with ⟨_, he⟩ | ⟨g, cap, cur, rfl, _⟩
  · rw [he] at k1; simp at k1; omega
  · exact ⟨g, cap, rfl⟩
theorem winRow_c (m : Nat) (y : Int) (o r u : List Int) {x : Int} (hx : -(m : Int) ≤ x) : winRow m y o r u (x + 1 + m).toNat = winRow m y o r u (x + m).toNat ++ [atL x y o r u] := by
  obtain ⟨t, ht⟩ : ∃ t : Nat, x = (t : Int) - m := ⟨(x + m).toNat, by omega⟩
  subst ht
  rw [show ((t : Int) - m + 1 + m).toNat = t + 1 by omega, show ((t : Int) - m + m).toNat = t by omega, winRow_succ]
theorem winTo_c (m : Nat) (o r u : List Int) {y : Int} (hy : -(m : Int) ≤ y) : winTo m o r u (y + 1 + m).toNat = winTo m o r u (y + m).toNat ++ [winRow m y o r u (2 * m + 1)] := by
  obtain ⟨t, ht⟩ : ∃ t : Nat, y = (t : Int) - m := ⟨(y + m).toNat, by omega⟩
  subst ht
  rw [show ((t : Int) - m + 1 + m).toNat = t + 1 by omega, show ((t : Int) - m + m).toNat = t by omega, winTo_succ]
/-- The four cells of a layout's box. -/
structure LayC (w : World) (b : Nat) (k : Int) (n go co gr cr gu cu : Nat) : Prop where
  c0 : w.cell? ⟨b, 0, none⟩ = some (.int .i64 k)
  c1 : w.cell? ⟨b, 1, none⟩ = some (slv go n co)
  c2 : w.cell? ⟨b, 2, none⟩ = some (slv gr n cr)
  c3 : w.cell? ⟨b, 3, none⟩ = some (slv gu n cu)
theorem LayC.ext {w w' : World} {b : Nat} {k : Int} {n go co gr cr gu cu : Nat} (h : LayC w b k n go co gr cr gu cu) (he : Ext w w') : LayC w' b k n go co gr cr gu cu :=
  ⟨he.cell h.c0, he.cell h.c1, he.cell h.c2, he.cell h.c3⟩
theorem layC_new (w : World) (k : Int) (n go co gr cr gu cu : Nat) : LayC (w.alloc (.cells #[.int .i64 k, slv go n co, slv gr n cr, slv gu n cu] 32)) w.heap.size k n go co gr cr gu cu :=
  ⟨by go_simp, by go_simp, by go_simp, by go_simp⟩
set_option maxRecDepth 100000 in
set_option maxHeartbeats 2000000 in
theorem Window_any {w : World} {k : Int} {n go co gr cr gu cu m : Nat} {o r u : List Int} (h : LayP w k n go co gr cr gu cu o r u) (hm : m ≤ 20) (hres : ∀ x y : Int, -20 ≤ x → x ≤ 20 → -20 ≤ y → y ≤ 20 → chkRow (atL x y o r u) = 0) :
    Calls Tryz.prog 42 #[layv k n go co gr cr gu cu, .int .i64 m] w fun e w' => (∃ v, e = .returned (.tuple #[v, .int .i64 0]) ∧ BookO w.heap.size w' v (winTo m o r u (2 * m + 1))) ∧ Ext w w' := by
  have hck := Lib.hid (fun W (hW : Ext w W) => lcheck_ok (h.ext hW))
  have hwn := Lib.hid (fun W => window_any (m : Int) W)
  rw [show winE (m : Int) = 0 by unfold winE; rw [if_neg (by omega)]] at hwn
  have hnt := Lib.hid (fun W (x y : Int) (hW : Ext w W) (h1 : -20 ≤ x ∧ x ≤ 20) (h2 : -20 ≤ y ∧ y ≤ 20) => Note_ok (h.ext hW) (x := x) (y := y) (by omega) (by omega) (hres x y h1.1 h1.2 h2.1 h2.2))
  have hol : ∀ x y, (atL x y o r u).length = n := fun x y => by rw [atL_length _ _ _ _ _ (by rw [h.lo, h.lr]) (by rw [h.lo, h.lu])]; exact h.lo
  have Hol := Lib.hid hol
  obtain ⟨M, hM⟩ : ∃ M : Int, M = (m : Int) := ⟨_, rfl⟩
  have hM1 : 0 ≤ M := by omega
  have hM2 : M ≤ 20 := by omega
  rw [← hM] at hwn ⊢
  have HM := Lib.hid hM
  have hX : Ext w (w.alloc (.cells #[.int .i64 k, slv go n co, slv gr n cr, slv gu n cu] 32)) := (Ext.refl w).alloc _
  have hb := layC_new w k n go co gr cr gu cu
  obtain ⟨b, hbb⟩ : ∃ b, b = w.heap.size := ⟨_, rfl⟩
  clear h hres hol hm hM
  go_enter Tryz.func42, Tryz.ntmps42
  go_wp2_with fail
  refine (hck.out _ hX).mono ?_
  rintro e w1 ⟨rfl, hE1⟩
  have hb1 := hb.ext hE1
  have hX1 := hX.trans hE1
  clear hE1 hck hX hb
  go_wp2_with fail
  refine (hwn.out _).mono ?_
  rintro e w2 ⟨rfl, hE2⟩
  have hb2 := Lib.hid (hb1.ext hE2)
  have hX2 := hX1.trans hE2
  have hneg : IntKind.i64.wrap (-M) = -M := IntWalk.i64_in _ (by omega)
  rw [← hbb] at hb2
  clear hE2 hwn hX1 hb1
  rw [← hbb]
  clear hbb
  go_wp2_with fail
  go_loopw [8, 9, 10, 11, 12, 13] (fun out yv line xv rv ev wr => ∃ y : Int, -M ≤ y ∧ y ≤ M + 1 ∧ yv = .int .i64 y ∧ Hid (BookO w2.heap.size wr out (winTo m o r u (y + m).toNat)) ∧ Ext w2 wr) (fun _ yv _ _ _ _ _ => (M + 1 - intOf yv).toNat)
  case atStart => exact ⟨-M, by omega, by omega, rfl, Lib.hid (by rw [HM.out, show (-(m : Int) + m).toNat = 0 by omega]; exact BookO.nil _ _), Ext.refl _⟩
  case round =>
    obtain ⟨y, hy1, hy2, rfl, hO, hE3⟩ := hrel
    generalize wr = Y at *
    by_cases hy3 : y ≤ M
    · go_wp2_with fail
      go_loopw [10, 11, 12, 13] (fun line xv rv ev wr => ∃ x : Int, -M ≤ x ∧ x ≤ M + 1 ∧ xv = .int .i64 x ∧ Hid (MatO Y.heap.size wr line (winRow m y o r u (x + m).toNat)) ∧ Ext Y wr) (fun _ xv _ _ _ => (M + 1 - intOf xv).toNat)
      case atStart => exact ⟨-M, by omega, by omega, rfl, Lib.hid (by rw [HM.out, show (-(m : Int) + m).toNat = 0 by omega]; exact MatO.nil _ _), Ext.refl _⟩
      case round =>
        obtain ⟨x, hx1, hx2, rfl, hI, hE4⟩ := hrel
        generalize wr = Z at *
        have hXZ := hX2.trans (hE3.trans hE4)
        by_cases hx3 : x ≤ M
        · have hb5 := hb2.out.ext (hE3.trans hE4)
          obtain ⟨c0, c1, c2, c3⟩ := hb5
          have hn := Lib.hid (hnt.out Z x y hXZ ⟨by omega, by omega⟩ ⟨by omega, by omega⟩)
          have Hx := Lib.hid hx1
          go_wp2_with fail
          refine hn.out.mono ?_
          rintro e w5 ⟨⟨g, rfl, hO5⟩, hE5⟩
          have HR := Lib.hid ((hO5.rowV (Hol.out x y)).mono hE4.size)
          have hE6 := hE4.trans hE5
          have HI := Lib.hid (hI.out.ext hE5)
          have hstep := winRow_c m y o r u (x := x) (by rw [← HM.out]; exact Hx.out)
          have Hstep := Lib.hid hstep
          have Hln := Lib.hid (show (winRow m y o r u (x + m).toNat).length ≤ 1000 by rw [winRow_length, ← HM.out]; omega)
          have hs6 := hE6.size
          clear hn hO5 hI c0 c1 c2 c3 hstep
          go_wp2_with (at_builtin; refine app_rows rfl _ _ _ Tryz.underlying48 rfl rfl (HI.out.ext ((Ext.refl _).alloc _)) rfl (b := w5.heap.size) (rv := slv g n n) (r := atL x y o r u) (by go_simp) (HR.out.ext ((Ext.refl _).alloc _)) (by have := Hln.out; omega) (by simp; omega) ?_; intro gg cap2 w8 hO8 hB8 hG8; rw [← Hstep.out] at hO8; have hE8 := Below.trans (hE6.alloc _) hB8; replace hO8 := Lib.hid hO8; clear hB8 hG8)
          refine ⟨⟨x + 1, by omega, by omega, by go_num, hO8, hE8⟩, by simp [intOf]; omega⟩
        · have hxe : x = M + 1 := by omega
          have hT := hI.out
          rw [hxe, show (M + 1 + (m : Int)).toNat = 2 * m + 1 by rw [HM.out]; omega] at hT
          obtain ⟨g, cp, rfl⟩ := hT.shape (by rw [winRow_length]; omega)
          have hsY := hE3.size
          have HT := Lib.hid (hT.mono hsY)
          have HO4 := Lib.hid (hO.out.ext hE4)
          have Hy := Lib.hid hy1
          have hstep := winTo_c m o r u (y := y) (by rw [← HM.out]; exact Hy.out)
          have Hstep := Lib.hid hstep
          have Hln := Lib.hid (show (winTo m o r u (y + m).toNat).length ≤ 1000 by rw [winTo_length, ← HM.out]; omega)
          have hE6 := hE3.trans hE4
          have hs6 := hE6.size
          clear hT hI hO hstep
          go_wp2_with (at_builtin; go_loud (refine app_book rfl _ _ rfl rfl (HO4.out.ext ((Ext.refl _).alloc _)) rfl (b := Z.heap.size) (rv := slv g (winRow m y o r u (2 * m + 1)).length cp) (F := winRow m y o r u (2 * m + 1)) (by go_simp) (HT.out.ext ((Ext.refl _).alloc _)) (by have := Hln.out; omega) (by simp; omega) ?_; intro gg cap2 w8 hO8 hB8 hG8; rw [← Hstep.out] at hO8; have hE8 := Below.trans (hE6.alloc _) hB8; replace hO8 := Lib.hid hO8; clear hB8 hG8))
          refine ⟨⟨y + 1, by omega, by omega, by go_num, hO8, hE8⟩, by simp [intOf]; omega⟩
    · have hye : y = M + 1 := by omega
      have hT := hO.out
      rw [hye, show (M + 1 + (m : Int)).toNat = 2 * m + 1 by rw [HM.out]; omega] at hT
      have HT := Lib.hid (hT.mono hX2.size)
      have HX := Lib.hid (hX2.trans hE3)
      clear hT hO
      go_wp2_with fail
      go_ret2
      exact ⟨⟨_, rfl, HT.out⟩, HX.out⟩
end Go.Proofs.YtnmmglnadnfoiaaGreatDoor
