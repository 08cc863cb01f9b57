/- Part 27 of the proof of the claim: contracts of the functions that it reaches, and plain laws; no condition. -/
import Derived.Test.YthmhmkkcjlgbjaaGreatDoorV26
import Derived.Deep.RegionHeld3
import Derived.Deep.CutRange
/- schismaref07: column -/
namespace Go.Proofs.YthmhmkkcjlgbjaaGreatDoor
open Go.RowKit Go.Sort
open Hnf (V Span)
theorem pc_bits {z E k : Nat} (h : z < 2 ^ E) (hk : E ≤ 29 * k) : (pc z).length ≤ k := by
  refine pc_length_le (Nat.lt_of_lt_of_le h (Nat.le_trans (Nat.pow_le_pow_right (by omega) hk) ?_))
  rw [Nat.pow_mul]
  exact Nat.pow_le_pow_left (by omega) k
theorem RwT.col {w : World} {s : Option Addr} {n cp : Nat} {r : List Int} {c : Nat} (h : RwT w (.slice s n cp) r) (hc : c < r.length) : n = r.length ∧ ∃ gb go, s = some ⟨gb, go, none⟩ ∧ ∃ s1 n1 k1, w.cell? ⟨gb, go + c * 2, none⟩ = some (.bool (decide (r.getD c 0 < 0))) ∧ w.cell? ⟨gb, go + c * 2 + 1, none⟩ = some (.slice s1 n1 k1) ∧ WhR w (.agg #[.bool (decide (r.getD c 0 < 0)), .slice s1 n1 k1]) (r.getD c 0) := by
  obtain ⟨sa, gb, go, cap, e, hS⟩ := h.row.at
  injection e with e1 e2 e3
  subst e1
  refine ⟨e2, gb, go, ?_⟩
  obtain ⟨h1, h2⟩ := hS.out c hc
  have e : r.getD c 0 = r[c] := by rw [List.getD_eq_getElem?_getD, List.getElem?_eq_getElem hc]; rfl
  rw [e]
  exact ⟨h1, h2⟩
theorem same_neg (x : List Int) : Same [vr x] [vr (ngL x)] := by
  have e : Hnf.sub (fun _ => 0) 1 (vr (ngL x)) = vr x := by rw [vr_ng]; funext j; simp only [Hnf.sub]; omega
  refine ⟨fun v hv => ?_, fun v hv => ?_⟩
  · rw [List.mem_singleton.1 hv, ← e]; exact .step 1 .zero (by simp)
  · rw [List.mem_singleton.1 hv, vr_ng]; exact .step 1 .zero (by simp)
/-- The value that holds the pivot. -/
def PvR (w : World) (v : Value) : Option (List Int) → Prop
  | none => v = .slice none 0 0
  | some p => ∃ a m cp, v = .slice (some a) m cp ∧ RwT w v p
theorem PvR.own {B size n : Nat} {T : TypeId} {xs : List Value} {u : Value} {w w' : World} (hO : w.ownsRow B T size u n xs) (hT : T ≠ 3) (hT2 : T ≠ 66) (hG : w.grownBy w' u.ownBlock) {v : Value} {q : Option (List Int)} (h : PvR w v q) : PvR w' v q := by
  cases q with
  | none => exact h
  | some p => obtain ⟨a, m, cp, e, hr⟩ := h; exact ⟨a, m, cp, e, rwT_own hO hT hT2 hG hr⟩
theorem PvR.mto {B : Nat} {u : Value} {F : Mx} {w w' : World} (hO : MtO B w u F) (hG : w.grownBy w' u.ownBlock) {v : Value} {q : Option (List Int)} (h : PvR w v q) : PvR w' v q := by
  obtain ⟨vs, _, h2, _⟩ := hO
  exact h.own h2 (by decide) (by decide) hG
theorem PvR.ext {w w' : World} {v : Value} {q : Option (List Int)} (h : PvR w v q) (he : Ext w w') : PvR w' v q := by
  cases q with
  | none => exact h
  | some p => obtain ⟨a, m, cp, e, hr⟩ := h; exact ⟨a, m, cp, e, hr.ext he⟩
theorem RwT.shape {w : World} {v : Value} {r : List Int} {n : Nat} (h : RwT w v r) (hl : r.length = n) : ∃ s cap, v = .slice s n cap := by
  obtain ⟨sa, _, _, cap, e, _⟩ := h.row
  exact ⟨sa, cap, by rw [e, hl]⟩
theorem In2.ent {c n C : Nat} {A : List V} {x p : List Int} (h : In2 c n C A x p) : (∀ z ∈ x, z.natAbs ≤ C) ∧ (∀ z ∈ p, z.natAbs ≤ C) ∧ (x.getD c 0).natAbs ≤ C ∧ (p.getD c 0).natAbs ≤ C := by
  obtain ⟨nx, np, h1, h2, h3, h4, h5⟩ := h.bd
  have e1 : ∀ z ∈ x, z.natAbs ≤ C := fun z hz => Nat.le_trans (h1 z hz) h4
  have e2 : ∀ z ∈ p, z.natAbs ≤ C := fun z hz => Nat.le_trans (h2 z hz) h5
  exact ⟨e1, e2, Nat.le_of_lt_succ (getD_bd (by omega) (fun z hz => Nat.lt_succ_of_le (e1 z hz)) c), Nat.le_of_lt_succ (getD_bd (by omega) (fun z hz => Nat.lt_succ_of_le (e2 z hz)) c)⟩
theorem sign_lt {a b : Int} (ha : 0 ≤ a) (hb : 0 ≤ b) (h : a < b) : ((a.natAbs : Int) - (b.natAbs : Int)).sign = -1 := Int.sign_eq_neg_one_of_neg (by omega)
theorem sign_ge {a b : Int} (ha : 0 ≤ a) (hb : 0 ≤ b) (h : ¬ a < b) : ¬ ((a.natAbs : Int) - (b.natAbs : Int)).sign < 0 := by
  intro hs
  have := Int.sign_neg_iff.1 hs
  omega
/-- The result of column. -/
def ColPost (B c n k : Nat) (M : Mx) (w : World) (e : Ending) (w' : World) : Prop :=
  ∃ v u q Z, e = .returned (.tuple #[v, u]) ∧ Col c n k M q Z ∧ PvR w' v q ∧ MtO B w' u Z ∧ Ext w w'
set_option maxRecDepth 100000 in
set_option maxHeartbeats 4000000 in
theorem column_w {w : World} {v : Value} {M : Mx} {c n k : Nat} (hM : MtR w v M) (hRc : Rect n M) (hc : c < n) (hml : M.length ≤ 1000000) (hnl : n ≤ 1000000) (hb : ∀ r ∈ M, ∀ z ∈ r, z.natAbs < 2 ^ k) (hk : (k + 1) * (M.length + 1) ≤ 2900000000) (hL : Laid w) :
    Calls Tryz.prog 65 #[v, .int .i64 c] w (ColPost w.heap.size c n k M w) := by
  obtain ⟨sa, gb, go, cap, rfl, hS⟩ := hM.at
  have HL := Lib.hid hL
  have Hb := Lib.hid hb
  have HRc := Lib.hid hRc
  have Hk := Lib.hid hk
  obtain ⟨m, hm⟩ : ∃ m, m = M.length := ⟨_, rfl⟩
  rw [← hm] at hml ⊢
  have Hm := Lib.hid hm
  have Hkb := Lib.hid (show ∀ i, i < m → (k + 1) * (i + 1) ≤ 2900000000 from fun i hi => Nat.le_trans (Nat.mul_le_mul_left _ (by omega)) hk)
  clear hL hM hb hRc hm hk
  have knil := fun (w : World) (a : Option Addr) (n c : Nat) => Lib.run_eql_slice_nil (P := Tryz.prog) w 56 66 a n c 0 0 Tryz.underlying56
  go_enter Tryz.func65, Tryz.ntmps65
  go_wp2_with fail
  go_loopw [6, 7, 8] (fun pv zv idx wr => ∃ (i : Nat) (q : Option (List Int)) (Z : Mx), i ≤ m ∧ idx = .int .i64 i ∧ Hid (Col c n k (M.take i) q Z) ∧ Hid (PvR wr pv q) ∧ Hid (MtO w.heap.size wr zv Z) ∧ Ext w wr) (fun _ _ idx _ => m - (intOf idx).toNat)
  case atStart => exact ⟨0, none, [], by omega, by go_num, Lib.hid (Col.start _ _ _), Lib.hid rfl, Lib.hid (MtO.nil _ _), Ext.refl _⟩
  case round =>
    obtain ⟨i, q, Z, hi, rfl, hC, hP, hO, hE⟩ := hrel
    generalize wr = X at *
    by_cases hlt : i < m
    · have hii : (i : Int) < (m : Int) := by omega
      have hir : i < M.length := by rw [← Hm.out]; exact hlt
      obtain ⟨rfl, sr, cr, c0, hw⟩ := hS.out i hir
      obtain ⟨x, hx⟩ : ∃ x, x = M[i] := ⟨_, rfl⟩
      have hmem : x ∈ M := by rw [hx]; exact List.getElem_mem hir
      have hxl := HRc.out _ hmem
      rw [← hx, hxl] at c0 hw
      obtain ⟨-, gx, ox, rfl, s1, n1, k1, d0, d1, hd⟩ := hw.col (by rw [hxl]; exact hc)
      have hsg := Lib.hid (fun W (hW : Ext X W) => signW_w (hd.ext (hE.trans hW)))
      have Hsn := Lib.hid (show M.take (i + 1) = M.take i ++ [x] by rw [List.take_succ_eq_append_getElem hir, hx])
      have Hbx := Lib.hid (Hb.out _ hmem)
      have Hw := Lib.hid (hw.ext hE)
      have c0 := hE.cell c0
      have d0 := hE.cell d0
      have d1 := hE.cell d1
      obtain ⟨a, ha⟩ : ∃ a, a = x.getD c 0 := ⟨_, rfl⟩
      rw [← ha] at d0 hd hsg
      have Ha := Lib.hid ha
      generalize decide (a < 0) = ba at *
      have Hxl := Lib.hid hxl
      clear hw hd hmem hx ha hxl
      by_cases ha0 : a = 0
      · have hs : a.sign = 0 := by rw [ha0]; rfl
        rw [hs] at hsg
        have HC2 := Lib.hid (show Col c n k (M.take (i + 1)) q (Z ++ [x]) by
          rw [Hsn.out]; exact hC.out.zero Hxl.out (by rw [← Ha.out]; exact ha0) Hbx.out)
        have HZl := Lib.hid (show Z.length ≤ 1000000 by
          have := hC.out.len; rw [List.length_take] at this; omega)
        have hcc : (c : Int) < (n : Int) := by omega
        go_wp2_with fail
        refine (hsg.out _ (Ext.refl _)).mono ?_
        rintro e W ⟨rfl, hEW⟩
        have hsz := hE.size
        have hszW := hEW.size
        have hEW2 := hE.trans hEW
        have HOW := Lib.hid (hO.out.ext hEW)
        clear hsg hs
        go_wp2_with (at_builtin; refine app_mtx rfl _ _ rfl rfl (HOW.out.ext ((Ext.refl _).alloc _)) rfl (b := W.heap.size) (rv := .slice (some ⟨gx, ox, none⟩) n cr) (r := x) (by go_simp) ((Hw.out.ext hEW).ext ((Ext.refl _).alloc _)) (by have := HZl.out; omega) (by simp; omega) ?_; intro gg cap2 w8 hO8 hB8 hG8)
        have hE8 : Ext w w8 := Below.trans (hEW2.alloc (.cells #[.slice (some ⟨gx, ox, none⟩) n cr] 56)) hB8
        have hO9 := Lib.hid hO8
        have hP9 := Lib.hid (((hP.out.ext hEW).ext ((Ext.refl W).alloc (.cells #[.slice (some ⟨gx, ox, none⟩) n cr] 56))).mto (HOW.out.ext ((Ext.refl _).alloc _)) hG8)
        clear hG8 hB8 hO8
        go_wp2_with fail
        go_roundw
        case rel => exact ⟨i + 1, q, _, by omega, by go_num, HC2, hP9, hO9, hE8⟩
        case measure => simp [intOf] <;> omega
      · have HZl := Lib.hid (show Z.length ≤ 1000000 by
          have := hC.out.len; rw [List.length_take] at this; omega)
        have Hkk := Lib.hid (show k + 1 ≤ 2900000000 from Nat.le_trans (Nat.le_mul_of_pos_right _ (by omega)) (Hkb.out i hlt))
        have Hbp := Lib.hid (show ∀ z ∈ x, (pc z.natAbs).length ≤ 100000000 from fun z hz => pc_bits (Hbx.out z hz) (by have := Hkk.out; omega))
        have hcc : (c : Int) < (n : Int) := by omega
        have hsz := hE.size
        rcases Int.lt_or_le a 0 with hneg | hpos
        case' inl =>
          have hs : a.sign = -1 := Int.sign_eq_neg_one_of_neg hneg
          rw [hs] at hsg
          go_wp2_with fail
          refine (hsg.out _ (Ext.refl _)).mono ?_
          rintro e W1 ⟨rfl, hE1⟩
          replace d0 := hE1.cell d0
          replace d1 := hE1.cell d1
          have hsg2 := Lib.hid (hsg.out W1 hE1)
          go_wp2_with fail
          refine hsg2.out.mono ?_
          rintro e W2 ⟨rfl, hE2⟩
          have hX2 := hE1.trans hE2
          have hng := Lib.hid (negative_w (Hw.out.ext hX2).row (fun z hz => Nat.le_trans (Hbp.out z hz) (by omega)) (by rw [Hxl.out]; exact hnl))
          clear hsg hsg2 hs
          go_wp2_with fail
          refine hng.out.mono ?_
          rintro e W ⟨u, rfl, hu, hE3⟩
          have hXW := hX2.trans hE3
          have HY0 := hu.rwT
          obtain ⟨y, hy⟩ : ∃ y, y = ngL x := ⟨_, rfl⟩
          rw [← hy] at HY0
          have Hyl := Lib.hid (show y.length = n by rw [hy, ngL_length]; exact Hxl.out)
          obtain ⟨sy, cy, rfl⟩ := HY0.shape Hyl.out
          have hyc : y.getD c 0 = -a := by
            have h1 := congrFun (vr_neg x) c
            rw [Ha.out, hy]; unfold ngL
            simp only [vr, Hnf.sub] at h1
            omega
          have Hy0 := Lib.hid (show 0 < y.getD c 0 by omega)
          have Hys := Lib.hid (show Same [vr x] [vr y] by rw [hy]; exact same_neg x)
          have Hby := Lib.hid (show ∀ z ∈ y, z.natAbs < 2 ^ k from fun z hz => by
            rw [hy] at hz; unfold ngL at hz
            obtain ⟨t, ht, rfl⟩ := List.mem_map.1 hz
            rw [Int.natAbs_neg]; exact Hbx.out t ht)
          have HY := Lib.hid HY0
          clear hng hu HY0 hy hyc hE1 hE2 hX2 hE3 hneg
        case' inr =>
          have hs : a.sign = 1 := Int.sign_eq_one_of_pos (by omega)
          rw [hs] at hsg
          go_wp2_with fail
          refine (hsg.out _ (Ext.refl _)).mono ?_
          rintro e W1 ⟨rfl, hE1⟩
          replace d0 := hE1.cell d0
          replace d1 := hE1.cell d1
          have hsg2 := Lib.hid (hsg.out W1 hE1)
          go_wp2_with fail
          refine hsg2.out.mono ?_
          rintro e W ⟨rfl, hE2⟩
          have hXW := hE1.trans hE2
          obtain ⟨y, hy⟩ : ∃ y, y = x := ⟨_, rfl⟩
          have Hyl := Lib.hid (show y.length = n by rw [hy]; exact Hxl.out)
          have Hy0 := Lib.hid (show 0 < y.getD c 0 by rw [hy, ← Ha.out]; omega)
          have Hys := Lib.hid (show Same [vr x] [vr y] by rw [hy]; exact Same.refl _)
          have Hby := Lib.hid (show ∀ z ∈ y, z.natAbs < 2 ^ k by rw [hy]; exact Hbx.out)
          have HY0 := Hw.out.ext hXW
          rw [← hy] at HY0
          have HY := Lib.hid HY0
          clear hsg hsg2 hs HY0 hy hE1 hE2 hpos
        all_goals
          have hE2 := hE.trans hXW
          have hszW := hXW.size
          have HPW := Lib.hid (hP.out.ext hXW)
          have HOW := Lib.hid (hO.out.ext hXW)
          cases q with
          | none =>
            obtain rfl : _ = Value.slice none 0 0 := hP.out
            have HC2 := Lib.hid (show Col c n k (M.take (i + 1)) (some y) Z by
              rw [Hsn.out]; exact hC.out.first Hyl.out Hy0.out Hys.out Hby.out)
            obtain ⟨-, gy, oy, hgy, -⟩ := HY.out.col (by rw [Hyl.out]; exact hc)
            cases hgy
            clear hP HPW
            go_wp2_with fail
            go_roundw
            case rel => exact ⟨i + 1, some y, Z, by omega, by go_num, HC2, Lib.hid ⟨_, _, _, rfl, HY.out⟩, HOW, hE2⟩
            case measure => simp [intOf] <;> omega
          | some p =>
            obtain ⟨ap, mp, cpp, rfl, hrp⟩ := HPW.out
            obtain ⟨hpl, hpc0⟩ := hC.out.pp p rfl
            obtain rfl : n = mp := by
              obtain ⟨_, _, _, _, e, _⟩ := hrp.row
              injection e with _ e2 _
              rw [e2]; exact hpl.symm
            obtain ⟨-, gp, op, hgp, -⟩ := hrp.col (by rw [hpl]; exact hc)
            cases hgp
            obtain ⟨C, hCC⟩ : ∃ C, C = 2 ^ (k + 1 + (k + 1) * (M.take i).length) - 1 := ⟨_, rfl⟩
            have hI0 := In2.start (c := c) (k := k) (K := (k + 1) * (M.take i).length) Hyl.out hpl (Int.le_of_lt Hy0.out) hpc0 Hby.out (hC.out.bd p (by simp))
            rw [← hCC] at hI0
            have HI0 := Lib.hid hI0
            have Hcb := Lib.hid (show ∀ z : Int, z.natAbs ≤ C → (pc z.natAbs).length ≤ 100000000 from fun z hz => by
              have h2 : 0 < 2 ^ (k + 1 + (k + 1) * (M.take i).length) := Nat.two_pow_pos _
              refine pc_bits (E := k + 1 + (k + 1) * (M.take i).length) (by omega) ?_
              have h3 := Hkb.out i hlt
              rw [List.length_take, Nat.min_eq_left (by omega), show k + 1 + (k + 1) * i = (k + 1) * (i + 1) by rw [Nat.mul_add, Nat.mul_one, Nat.add_comm]]
              omega)
            have HCC := Lib.hid hCC
            have Hrp := Lib.hid hrp
            clear hpl hpc0 hI0 hCC hrp hP HPW
            go_wp2_with fail
            go_loopg [6, 9] ((y.getD c 0).natAbs + (p.getD c 0).natAbs) (fun kk pv xv wr => ∃ (x' p' : List Int) (s1 : Option Addr) (k1 : Nat) (s2 : Option Addr) (k2 : Nat), xv = .slice s1 n k1 ∧ pv = .slice s2 n k2 ∧ Hid (RwT wr xv x') ∧ Hid (RwT wr pv p') ∧ Hid (In2 c n C [vr y, vr p] x' p') ∧ Hid (kk = (x'.getD c 0).natAbs + (p'.getD c 0).natAbs) ∧ Ext W wr)
            case atStart => exact ⟨y, p, _, _, _, _, rfl, rfl, HY, Hrp, HI0, Lib.hid rfl, Ext.refl _⟩
            case round =>
              obtain ⟨x', p', s1, k1, s2, k2, rfl, rfl, hX', hP', hI, hkk, hEY⟩ := hrel
              generalize wr = Y at *
              obtain ⟨-, gx1, ox1, rfl, t1, m1, r1, e0, e1, hdx⟩ := hX'.out.col (by rw [hI.out.lx]; exact hc)
              obtain ⟨-, gp1, op1, rfl, t2, m2, r2, f0, f1, hdp⟩ := hP'.out.col (by rw [hI.out.lp]; exact hc)
              obtain ⟨a1, ha1⟩ : ∃ a1, a1 = x'.getD c 0 := ⟨_, rfl⟩
              obtain ⟨b1, hb1⟩ : ∃ b1, b1 = p'.getD c 0 := ⟨_, rfl⟩
              have h0a : 0 ≤ a1 := by rw [ha1]; exact hI.out.xc
              have h0b : 0 < b1 := by rw [hb1]; exact hI.out.pc
              have Hen := Lib.hid hI.out.ent
              have hla : (pc a1.natAbs).length ≤ 100000000 := by rw [ha1]; exact Hcb.out _ Hen.out.2.2.1
              have hlb : (pc b1.natAbs).length ≤ 100000000 := by rw [hb1]; exact Hcb.out _ Hen.out.2.2.2
              rw [← ha1] at e0 hdx
              rw [← hb1] at f0 hdp
              have hsg1 := Lib.hid (signW_w hdx)
              have Ha1 := Lib.hid ha1
              have Hb1 := Lib.hid hb1
              have hE5 := hE2.trans hEY
              clear ha1 hb1
              by_cases hz1 : a1 = 0
              · have hs1 : a1.sign = 0 := by rw [hz1]; rfl
                rw [hs1] at hsg1
                generalize decide (a1 < 0) = bb1 at *
                generalize decide (b1 < 0) = bb2 at *
                have HC2 := Lib.hid (show Col c n k (M.take (i + 1)) (some p') (Z ++ [x']) by
                  have h1 := hI.out
                  rw [HCC.out] at h1
                  rw [Hsn.out]; exact hC.out.join Hys.out h1 (by rw [← Ha1.out]; exact hz1))
                clear hla hlb hdx hdp hz1 hs1 h0a h0b f0 f1
                go_wp2_with fail
                refine hsg1.out.mono ?_
                rintro e W5 ⟨rfl, hE6⟩
                have hE7 := hE5.trans hE6
                have hszY := hEY.size
                have hsz5 := hE6.size
                have HO5 := Lib.hid ((HOW.out.ext hEY).ext hE6)
                clear hsg1
                go_wp2_with (at_builtin; refine app_mtx rfl _ _ rfl rfl (HO5.out.ext ((Ext.refl _).alloc _)) rfl (b := W5.heap.size) (rv := .slice (some ⟨gx1, ox1, none⟩) n k1) (r := x') (by go_simp) ((hX'.out.ext hE6).ext ((Ext.refl _).alloc _)) (by have := HZl.out; omega) (by simp; omega) ?_; intro gg cap2 w8 hO8 hB8 hG8)
                have hE8 : Ext w w8 := Below.trans (hE7.alloc (.cells #[.slice (some ⟨gx1, ox1, none⟩) n k1] 56)) hB8
                have hO9 := Lib.hid hO8
                have hP9 := Lib.hid (PvR.mto (q := some p') (HO5.out.ext ((Ext.refl _).alloc _)) hG8 (PvR.ext (q := some p') ⟨_, _, _, rfl, hP'.out.ext hE6⟩ ((Ext.refl W5).alloc (.cells #[.slice (some ⟨gx1, ox1, none⟩) n k1] 56))))
                clear hG8 hB8 hO8
                go_wp2_with fail
                go_roundw
                case rel => exact ⟨i + 1, some p', _, by omega, by go_num, HC2, hP9, hO9, hE8⟩
                case measure => simp [intOf] <;> omega
              · have hs1 : a1.sign = 1 := Int.sign_eq_one_of_pos (by omega)
                rw [hs1] at hsg1
                have hmg := Lib.hid (fun V (hV : Ext Y V) => magnitude_w (hdx.ext hV) (hdp.ext hV) (by omega) (by omega))
                by_cases hsw : a1 < b1
                case' pos =>
                  rw [sign_lt h0a (Int.le_of_lt h0b) hsw] at hmg
                  have hI2 := Lib.hid (hI.out.swap (by rw [← Ha1.out]; exact hz1))
                  have hge := Lib.hid (show (x'.getD c 0) ≤ (p'.getD c 0) by rw [← Ha1.out, ← Hb1.out]; omega)
                  have hkk2 := Lib.hid (show gk = (p'.getD c 0).natAbs + (x'.getD c 0).natAbs by rw [hkk.out]; omega)
                  obtain ⟨q2, hq2⟩ : ∃ q2, q2 = b1.fdiv a1 := ⟨_, rfl⟩
                  have hq3 := Lib.hid (show q2 = (p'.getD c 0).fdiv (x'.getD c 0) by rw [hq2, Ha1.out, Hb1.out])
                  have hfl := Lib.hid (fun V (hV : Ext Y V) => floorW_w (hdp.ext hV) (hdx.ext hV) (by omega) hlb hla (HL.out.ext (hE5.trans hV)))
                  rw [← hq2] at hfl
                  obtain ⟨bb1, hbb1⟩ : ∃ bb1, bb1 = decide (a1 < 0) := ⟨_, rfl⟩
                  obtain ⟨bb2, hbb2⟩ : ∃ bb2, bb2 = decide (b1 < 0) := ⟨_, rfl⟩
                  rw [← hbb1] at hdx hmg hfl hsg1 e0
                  rw [← hbb2] at hdp hmg hfl f0
                  clear hdx hdp hbb1 hbb2
                  go_wp2_with fail
                  refine hsg1.out.mono ?_
                  rintro e W5 ⟨rfl, hE6⟩
                  replace e0 := hE6.cell e0
                  replace e1 := hE6.cell e1
                  replace f0 := hE6.cell f0
                  replace f1 := hE6.cell f1
                  have d5 : Ext W5 W5.drew := (Ext.refl W5).drew
                  have q4 := And.intro (d5.cell e0) (And.intro (d5.cell e1) (And.intro (d5.cell f0) (d5.cell f1)))
                  have hmg2 := Lib.hid (hmg.out _ (hE6.trans d5))
                  clear hsg1 hmg
                  go_wp2_with fail
                  go_region_held3 (fun w' => w'.cell? ⟨gx1, ox1 + c * 2, none⟩ = some (.bool bb1) ∧ w'.cell? ⟨gx1, ox1 + c * 2 + 1, none⟩ = some (.slice t1 m1 r1) ∧ w'.cell? ⟨gp1, op1 + c * 2, none⟩ = some (.bool bb2) ∧ w'.cell? ⟨gp1, op1 + c * 2 + 1, none⟩ = some (.slice t2 m2 r2)) (first | exact q6 | exact q4 | go_keep)
                    (first
                      | (go_at_call 104; refine hmg2.out.mono ?_; rintro e W6 ⟨rfl, hE8⟩; have d6 := d5.trans hE8; have q6 := And.intro (d6.cell e0) (And.intro (d6.cell e1) (And.intro (d6.cell f0) (d6.cell f1)))))
                  have hY6 := hE6.trans d6
                  have hfl2 := Lib.hid (fun V (hV : Ext W6 V) => hfl.out V (hY6.trans hV))
                  have hX6 := Lib.hid (hP'.out.ext hY6)
                  have hP6 := Lib.hid (hX'.out.ext hY6)
                  obtain ⟨a0, a1', b0, b1'⟩ := And.intro q6.2.2.1 (And.intro q6.2.2.2 (And.intro q6.1 q6.2.1))
                  have hsz6 := d6.size
                  clear hmg2 hfl hX' hP' hI hkk hq2 q4 q6 e0 e1 f0 f1
                  generalize p' = x2 at *
                  generalize x' = p2 at *
                  generalize gp1 = gx2 at *
                  generalize op1 = ox2 at *
                  generalize gx1 = gp2 at *
                  generalize ox1 = op2 at *
                  generalize bb2 = ba2 at *
                  generalize t2 = t3 at *
                  generalize m2 = m3 at *
                  generalize r2 = r3 at *
                  generalize bb1 = bp2 at *
                  generalize t1 = t4 at *
                  generalize m1 = m4 at *
                  generalize r1 = r4 at *
                case' neg =>
                  have hsn := sign_ge h0a (Int.le_of_lt h0b) hsw
                  generalize ((a1.natAbs : Int) - (b1.natAbs : Int)).sign = sg at *
                  have hsd : decide (sg < 0) = false := decide_eq_false hsn
                  have hI2 := hI
                  have hge := Lib.hid (show (p'.getD c 0) ≤ (x'.getD c 0) by rw [← Ha1.out, ← Hb1.out]; omega)
                  have hkk2 := hkk
                  obtain ⟨q2, hq2⟩ : ∃ q2, q2 = a1.fdiv b1 := ⟨_, rfl⟩
                  have hq3 := Lib.hid (show q2 = (x'.getD c 0).fdiv (p'.getD c 0) by rw [hq2, Ha1.out, Hb1.out])
                  have hfl := Lib.hid (fun V (hV : Ext Y V) => floorW_w (hdx.ext hV) (hdp.ext hV) h0b hla hlb (HL.out.ext (hE5.trans hV)))
                  rw [← hq2] at hfl
                  obtain ⟨bb1, hbb1⟩ : ∃ bb1, bb1 = decide (a1 < 0) := ⟨_, rfl⟩
                  obtain ⟨bb2, hbb2⟩ : ∃ bb2, bb2 = decide (b1 < 0) := ⟨_, rfl⟩
                  rw [← hbb1] at hdx hmg hfl hsg1 e0
                  rw [← hbb2] at hdp hmg hfl f0
                  clear hdx hdp hbb1 hbb2
                  go_wp2_with fail
                  refine hsg1.out.mono ?_
                  rintro e W5 ⟨rfl, hE6⟩
                  replace e0 := hE6.cell e0
                  replace e1 := hE6.cell e1
                  replace f0 := hE6.cell f0
                  replace f1 := hE6.cell f1
                  have d5 : Ext W5 W5.drew := (Ext.refl W5).drew
                  have q4 := And.intro (d5.cell e0) (And.intro (d5.cell e1) (And.intro (d5.cell f0) (d5.cell f1)))
                  have hmg2 := Lib.hid (hmg.out _ (hE6.trans d5))
                  clear hsg1 hmg
                  go_wp2_with fail
                  go_region_held3 (fun w' => w'.cell? ⟨gx1, ox1 + c * 2, none⟩ = some (.bool bb1) ∧ w'.cell? ⟨gx1, ox1 + c * 2 + 1, none⟩ = some (.slice t1 m1 r1) ∧ w'.cell? ⟨gp1, op1 + c * 2, none⟩ = some (.bool bb2) ∧ w'.cell? ⟨gp1, op1 + c * 2 + 1, none⟩ = some (.slice t2 m2 r2)) (first | exact q6 | exact q4 | go_keep)
                    (first
                      | (go_at_call 104; refine hmg2.out.mono ?_; rintro e W6 ⟨rfl, hE8⟩; have d6 := d5.trans hE8; have q6 := And.intro (d6.cell e0) (And.intro (d6.cell e1) (And.intro (d6.cell f0) (d6.cell f1)))))
                  have hY6 := hE6.trans d6
                  have hfl2 := Lib.hid (fun V (hV : Ext W6 V) => hfl.out V (hY6.trans hV))
                  have hX6 := Lib.hid (hX'.out.ext hY6)
                  have hP6 := Lib.hid (hP'.out.ext hY6)
                  obtain ⟨a0, a1', b0, b1'⟩ := And.intro q6.1 q6.2
                  have hsz6 := d6.size
                  clear hmg2 hfl hX' hP' hI hkk hq2 q4 q6 e0 e1 f0 f1
                  generalize x' = x2 at *
                  generalize p' = p2 at *
                  generalize gx1 = gx2 at *
                  generalize ox1 = ox2 at *
                  generalize gp1 = gp2 at *
                  generalize op1 = op2 at *
                  generalize bb1 = ba2 at *
                  generalize t1 = t3 at *
                  generalize m1 = m3 at *
                  generalize r1 = r3 at *
                  generalize bb2 = bp2 at *
                  generalize t2 = t4 at *
                  generalize m2 = m4 at *
                  generalize r2 = r4 at *
                all_goals
                  have hEn2 := Lib.hid hI2.out.ent
                  have Hls := Lib.hid hI2.out.less
                  have Hql := Lib.hid (show (pc q2.natAbs).length ≤ 100000000 by
                    rw [hq3.out]
                    refine Hcb.out _ (Nat.le_trans (fdiv_abs _ ?_) hEn2.out.2.2.1)
                    have := hI2.out.pc; omega)
                  have hl1 := Lib.hid hI2.out.lx
                  have hl2 := Lib.hid hI2.out.lp
                  clear hz1 hsw hla hlb h0a h0b
                  go_upto_region 16 with fail
                  go_cut [10, 11] from 43 to 76 (fun qa na wx => ∃ (g : Nat) (bv : Bool) (sv : Option Addr) (nv cv : Nat), qa = .pointer (some ⟨g, 0, none⟩) ∧ wx.cell? ⟨g, 0, none⟩ = some (.bool bv) ∧ wx.cell? ⟨g, 1, none⟩ = some (.slice sv nv cv) ∧ Hid (WhR wx (.agg #[.bool bv, .slice sv nv cv]) q2) ∧ Ext W6 wx)
                  case first =>
                    have d7 : Ext W6 W6.drew := (Ext.refl W6).drew
                    have k7 := And.intro (d7.cell a0) (And.intro (d7.cell a1') (And.intro (d7.cell b0) (d7.cell b1')))
                    go_region_held3 (fun w' => w'.cell? ⟨gx2, ox2 + c * 2, none⟩ = some (.bool ba2) ∧ w'.cell? ⟨gx2, ox2 + c * 2 + 1, none⟩ = some (.slice t3 m3 r3) ∧ w'.cell? ⟨gp2, op2 + c * 2, none⟩ = some (.bool bp2) ∧ w'.cell? ⟨gp2, op2 + c * 2 + 1, none⟩ = some (.slice t4 m4 r4)) (first | with_reducible exact k8 | with_reducible exact k7 | (refine keep4 ?_ a0 a1' b0 b1'; repeat' (first | with_reducible exact h67 | with_reducible exact d7 | with_reducible exact Ext.refl _ | with_reducible apply Ext.walloc | with_reducible apply Ext.drew | with_reducible apply Ext.wset | with_reducible exact Nat.le_refl _ | with_reducible exact Nat.le_succ _ | with_reducible exact hl7 | with_reducible exact hl8 | fail)))
                      (first
                        | (go_at_call 34; refine (hfl2.out _ (by first | exact d7 | exact d7.alloc _ | exact (d7.alloc _).alloc _)).mono ?_; rintro e W7 ⟨v1, v2, rfl, hv1, hv2, hE9⟩; have h67 : Ext W6 W7 := Ext.trans (by first | exact d7 | exact d7.alloc _ | exact (d7.alloc _).alloc _) hE9; have hl7 : W6.heap.size ≤ W7.heap.size := h67.size; have hl8 : W6.heap.size ≤ W7.heap.size + 1 := Nat.le_succ_of_le h67.size; have k8 := And.intro (h67.cell a0) (And.intro (h67.cell a1') (And.intro (h67.cell b0) (h67.cell b1'))); have Hv1 := Lib.hid hv1; obtain ⟨bv, sv, nv, cv, rfl⟩ := hv1.shape; obtain ⟨bv2, sv2, nv2, cv2, rfl⟩ := hv2.shape; clear hv1 hv2; (first | (have zz := wb2 hE9; obtain ⟨⟨z0, z1, z2, z3, z4, z5⟩, ⟨y0, y1, y2, y3, y4, y5⟩⟩ := zz) | (have zz := wb1 hE9; obtain ⟨z0, z1, z2, z3, z4, z5⟩ := zz) | skip)))
                    all_goals (try go_wp2_with fail)
                    all_goals go_meet
                    all_goals refine ⟨_, bv, sv, nv, cv, rfl, by go_simp, by go_simp, Lib.hid ?_, ?_⟩
                    all_goals repeat' (first | with_reducible exact Hv1.out | with_reducible exact z5.out | with_reducible exact y5.out | with_reducible apply WhR.walloc | with_reducible apply WhR.wset | with_reducible apply IsWb.alloc | with_reducible apply IsWb.set | with_reducible exact h67 | with_reducible exact d7 | with_reducible exact Ext.refl _ | with_reducible apply Ext.walloc | with_reducible apply Ext.drew | with_reducible apply Ext.wset | with_reducible exact Nat.le_refl _ | with_reducible exact Nat.le_succ _ | with_reducible exact hl7 | with_reducible exact hl8 | fail)
                  case rest => 
                    obtain ⟨g, bv, sv, nv, cv, rfl, c0, c1, hv1, hE9⟩ := hcut
                    have hY7 := hY6.trans hE9
                    have hle := Lib.hid (less_w (hX6.out.ext hE9).row (hP6.out.ext hE9).row hv1.out (by rw [hl1.out, hl2.out]) (by rw [hl1.out]; exact hnl) (fun z hz => Hcb.out z (hEn2.out.1 z hz)) (fun z hz => Hcb.out z (hEn2.out.2.1 z hz)) Hql.out)
                    clear hfl2
                    go_wp2_with fail
                    refine hle.out.mono ?_
                    rintro e W8 ⟨u, rfl, hu, hE10⟩
                    have hU0 := hu.rwT
                    have hP8 := Lib.hid (hP6.out.ext (hE9.trans hE10))
                    have hW8 := hEY.trans (hY7.trans hE10)
                    rw [hq3.out] at hU0
                    have hU := Lib.hid hU0
                    have HI8 := Lib.hid Hls.out.1
                    obtain ⟨su, cu, rfl⟩ := hU0.shape HI8.out.lx
                    clear hle hu hU0
                    go_wp2_with fail
                    obtain ⟨y2, hy2⟩ : ∃ y2, y2 = lessL ((x2.getD c 0).fdiv (p2.getD c 0)) x2 p2 := ⟨_, rfl⟩
                    have Hlt := Lib.hid Hls.out.2
                    rw [← hy2] at Hlt HI8 hU
                    clear hy2
                    go_roundg ((y2.getD c 0).natAbs + (p2.getD c 0).natAbs)
                    case measure =>
                      have h0 := hkk2.out
                      have h1 := Hlt.out
                      have h2 := hge.out
                      have h3 := HI8.out.xc
                      have h4 := hI2.out.pc
                      omega
                    case rel => exact ⟨y2, p2, su, cu, _, _, rfl, rfl, hU, hP8, HI8, Lib.hid rfl, hW8⟩
    · have hie : M.take i = M := List.take_of_length_le (by rw [← Hm.out]; omega)
      rw [hie] at hC
      go_wp2_with fail
      go_ret2
      exact ⟨_, _, q, Z, rfl, hC.out, hP.out, hO.out, hE⟩
end Go.Proofs.YthmhmkkcjlgbjaaGreatDoor
/- Plain facts on the reference's Form: the state between two columns, and what it leaves -/
namespace Go.Proofs.YthmhmkkcjlgbjaaGreatDoor
open Go.RowKit Go.Sort
open Hnf (V Span)
/-- A row reduced by a new pivot. -/
def rdc (c : Nat) (p f : List Int) : List Int := lessL ((f.getD c 0).fdiv (p.getD c 0)) f p
/-- The first j rows reduced. -/
def rdF (c : Nat) (p : List Int) (j : Nat) (F : Mx) : Mx := (F.take j).map (rdc c p) ++ F.drop j
theorem rdF_length (c : Nat) (p : List Int) (j : Nat) (F : Mx) : (rdF c p j F).length = F.length := by
  unfold rdF; simp; omega
theorem rdF_zero (c : Nat) (p : List Int) (F : Mx) : rdF c p 0 F = F := by simp [rdF]
theorem rdF_all (c : Nat) (p : List Int) {F : Mx} {j : Nat} (h : F.length ≤ j) : rdF c p j F = F.map (rdc c p) := by
  simp [rdF, List.take_of_length_le h, List.drop_eq_nil_of_le h]
theorem rdF_get (c : Nat) (p : List Int) (j : Nat) {F : Mx} {i : Nat} (h : i < F.length) : (rdF c p j F)[i]'(by rw [rdF_length]; exact h) = if i < j then rdc c p F[i] else F[i] := by
  unfold rdF
  by_cases hij : i < j
  · rw [if_pos hij, List.getElem_append_left (by simp; omega)]
    simp
  · rw [if_neg hij, List.getElem_append_right (by simp; omega)]
    simp only [List.length_map, List.length_take, List.getElem_drop]
    congr 1; omega
theorem rdF_step (c : Nat) (p : List Int) {j : Nat} {F : Mx} (h : j < F.length) : rdF c p (j + 1) F = (rdF c p j F).set j (rdc c p F[j]) := by
  refine List.ext_getElem (by simp [rdF_length]) fun i h1 h2 => ?_
  have hi : i < F.length := by rw [rdF_length] at h1; exact h1
  rw [rdF_get c p _ hi]
  by_cases e : i = j
  · subst e; rw [List.getElem_set_self, if_pos (by omega)]
  · rw [List.getElem_set_ne (Ne.symm e), rdF_get c p _ hi]
    by_cases hb : i < j
    · rw [if_pos hb, if_pos (by omega)]
    · rw [if_neg hb, if_neg (by omega)]
structure RfSt (n c : Nat) (M : Mx) (ps : List Nat) (F R : Mx) : Prop where
  h : IsH n ps F
  lt : ∀ i, i < F.length → ps.getD i 0 < c
  rR : Rect n R
  zR : ∀ r ∈ R, ∀ j, j < c → r.getD j 0 = 0
  same : Same (latM M) (latM (F ++ R))
  len : F.length + R.length ≤ M.length
theorem span_col {A : List V} {v : V} {j : Nat} (h : Span A v) (hz : ∀ r ∈ A, r j = 0) : v j = 0 := by
  induction h with
  | zero => rfl
  | step q _ hr ih => simp [Hnf.sub, ih, hz _ hr]
theorem RfSt.start {n : Nat} {M : Mx} (hM : Rect n M) : RfSt n 0 M [] [] M :=
  ⟨⟨(fun r h => by cases h), rfl, (fun i h => by simp at h), (fun i k _ h => by simp at h), (fun i h => by simp at h), (fun i h => by simp at h), (fun i k _ h => by simp at h)⟩, (fun i h => by simp at h), hM, (fun r _ j h => by omega), Same.refl _, by simp⟩
theorem Col.zeros {n c k : Nat} {R Z : Mx} {q : Option (List Int)} (hC : Col c n k R q Z) (hz : ∀ r ∈ R, ∀ j, j < c → r.getD j 0 = 0) : ∀ r ∈ q.toList ++ Z, ∀ j, j < c → r.getD j 0 = 0 := by
  intro r hr j hj
  refine span_col (v := vr r) (hC.same.2 _ (List.mem_map.2 ⟨r, hr, rfl⟩)) fun v hv => ?_
  obtain ⟨x, hx, rfl⟩ := List.mem_map.1 hv
  exact hz x hx j hj
theorem RfSt.skip {n c k : Nat} {M F R Z : Mx} {ps : List Nat} (h : RfSt n c M ps F R) (hC : Col c n k R none Z) : RfSt n (c + 1) M ps F Z := by
  have hl := hC.len
  simp only [Option.toList_none, List.length_nil] at hl
  refine ⟨h.h, fun i hi => by have := h.lt i hi; omega, hC.rZ, fun r hr j hj => ?_, ?_, by have := h.len; omega⟩
  · by_cases e : j = c
    · subst e; exact hC.zZ r hr
    · exact hC.zeros h.zR r (by simpa using hr) j (by omega)
  · refine h.same.trans ?_
    rw [latM_app, latM_app]
    exact (Same.refl _).app hC.same
theorem same_rdc {n c : Nat} {p : List Int} (hp : p.length = n) : ∀ {F : Mx}, Rect n F → Same (latM (F ++ [p])) (latM (F.map (rdc c p) ++ [p])) := by
  intro F hF
  have hpm : ∀ G : Mx, vr p ∈ latM (G ++ [p]) := fun G => List.mem_map.2 ⟨p, by simp, rfl⟩
  refine ⟨fun v hv => ?_, fun v hv => ?_⟩
  · obtain ⟨x, hx, rfl⟩ := List.mem_map.1 hv
    rcases List.mem_append.1 hx with hx | hx
    · have h1 : Span (latM (F.map (rdc c p) ++ [p])) (vr (rdc c p x)) := .mem (List.mem_map.2 ⟨_, List.mem_append_left _ (List.mem_map.2 ⟨x, hx, rfl⟩), rfl⟩)
      have hl : p.length = x.length := by rw [hp, hF x hx]
      unfold rdc at h1
      rw [vr_less hl] at h1
      have h2 := Span.sub (-((x.getD c 0).fdiv (p.getD c 0))) h1 (.mem (hpm (F.map (rdc c p))))
      have e : Hnf.sub (Hnf.sub (vr x) ((x.getD c 0).fdiv (p.getD c 0)) (vr p)) (-((x.getD c 0).fdiv (p.getD c 0))) (vr p) = vr x := by
        funext j; simp only [Hnf.sub, Int.neg_mul]; omega
      rwa [e] at h2
    · rw [List.mem_singleton.1 hx]; exact .mem (hpm _)
  · obtain ⟨x, hx, rfl⟩ := List.mem_map.1 hv
    rcases List.mem_append.1 hx with hx | hx
    · obtain ⟨y, hy, rfl⟩ := List.mem_map.1 hx
      have hl : p.length = y.length := by rw [hp, hF y hy]
      unfold rdc
      rw [vr_less hl]
      exact Span.sub _ (.mem (List.mem_map.2 ⟨y, List.mem_append_left _ hy, rfl⟩)) (.mem (hpm F))
    · rw [List.mem_singleton.1 hx]; exact .mem (hpm _)
theorem eM_app {F : Mx} {p : List Int} {i : Nat} (hi : i < F.length) (j : Nat) : eM (F ++ [p]) i j = eM F i j := by
  unfold eM
  simp only [List.getD_eq_getElem?_getD]
  rw [List.getElem?_append_left hi]
theorem eM_last (F : Mx) (p : List Int) {i : Nat} (hi : i = F.length) (j : Nat) : eM (F ++ [p]) i j = p.getD j 0 := by
  subst hi
  unfold eM
  have : (F ++ [p]).getD F.length [] = p := by simp [List.getD_eq_getElem?_getD]
  rw [this]
theorem eM_rdc {n c : Nat} {F : Mx} {p : List Int} (hF : Rect n F) (hp : p.length = n) {i : Nat} (hi : i < F.length) (j : Nat) : eM (F.map (rdc c p)) i j = eM F i j - (eM F i c).fdiv (p.getD c 0) * p.getD j 0 := by
  have hl : p.length = F[i].length := by rw [hp, hF _ (List.getElem_mem hi)]
  unfold eM
  rw [getD_get (l := F.map (rdc c p)) (by simpa using hi), getD_get (l := F) hi, List.getElem_map]
  exact lessL_getD hl j
theorem RfSt.next {n c k : Nat} {M F R Z : Mx} {ps : List Nat} {p : List Int} (h : RfSt n c M ps F R) (hC : Col c n k R (some p) Z) (hc : c < n) : RfSt n (c + 1) M (ps ++ [c]) (F.map (rdc c p) ++ [p]) Z := by
  have hl := hC.len
  simp only [Option.toList_some, List.length_singleton] at hl
  obtain ⟨hp, hpc⟩ := hC.pp p rfl
  have hz := hC.zeros h.zR
  have hpz : ∀ j, j < c → p.getD j 0 = 0 := hz p (by simp)
  have hlF : (F.map (rdc c p)).length = F.length := by simp
  have hlow : ∀ i j, i < F.length → j < c → eM (F.map (rdc c p) ++ [p]) i j = eM F i j := fun i j hi hj => by
    rw [eM_app (by omega), eM_rdc h.h.rect hp hi, hpz j hj]; simp
  have hps : ∀ i, i < F.length → (ps ++ [c]).getD i 0 = ps.getD i 0 := fun i hi => by
    simp only [List.getD_eq_getElem?_getD]; rw [List.getElem?_append_left (by rw [h.h.len]; exact hi)]
  have hpd : (ps ++ [c]).getD F.length 0 = c := by
    simp only [List.getD_eq_getElem?_getD]; rw [List.getElem?_append_right (by rw [h.h.len]; exact Nat.le_refl _), h.h.len]; simp
  have hcase : ∀ i, i < F.length + 1 → i < F.length ∨ i = F.length := fun i hi => by omega
  have hL : (F.map (rdc c p) ++ [p]).length = F.length + 1 := by simp
  refine ⟨⟨fun r hr => ?_, by rw [hL, List.length_append, h.h.len]; rfl, fun i hi => ?_, fun i k hik hk => ?_, fun i hi j hj => ?_, fun i hi => ?_, fun i k hik hk => ?_⟩, fun i hi => ?_, hC.rZ, fun r hr j hj => ?_, ?_, by have := h.len; omega⟩
  · rcases List.mem_append.1 hr with hr | hr
    · obtain ⟨y, hy, rfl⟩ := List.mem_map.1 hr
      have := h.h.rect y hy
      unfold rdc; rw [lessL_length (by omega)]; exact this
    · rw [List.mem_singleton.1 hr]; exact hp
  · rw [hL] at hi
    rcases hcase i hi with hi | rfl
    · rw [hps i hi]; exact h.h.lt i hi
    · rw [hpd]; exact hc
  · rw [hL] at hk
    rw [hps i (by omega)]
    rcases hcase k hk with hk | rfl
    · rw [hps k hk]; exact h.h.inc i k hik hk
    · rw [hpd]; exact h.lt i hik
  · rw [hL] at hi
    rcases hcase i hi with hi | rfl
    · rw [hps i hi] at hj
      have := h.lt i hi
      rw [hlow i j hi (by omega)]; exact h.h.left i hi j hj
    · rw [hpd] at hj
      rw [eM_last _ _ hlF.symm]; exact hpz j hj
  · rw [hL] at hi
    rcases hcase i hi with hi | rfl
    · rw [hps i hi, hlow i _ hi (h.lt i hi)]; exact h.h.pos i hi
    · rw [hpd, eM_last _ _ hlF.symm]; exact hpc
  · rw [hL] at hk
    rcases hcase k hk with hk | rfl
    · rw [hps k hk, hlow i _ (by omega) (h.lt k hk), hlow k _ hk (h.lt k hk)]; exact h.h.red i k hik hk
    · rw [hpd, eM_last _ _ hlF.symm, eM_app (by omega), eM_rdc h.h.rect hp hik]
      exact fdr_pos hpc
  · rw [hL] at hi
    rcases hcase i hi with hi | rfl
    · rw [hps i hi]; have := h.lt i hi; omega
    · rw [hpd]; omega
  · by_cases e : j = c
    · subst e; exact hC.zZ r hr
    · exact hz r (by simp [hr]) j (by omega)
  · refine h.same.trans ?_
    rw [latM_app F R, latM_app _ Z]
    refine ((Same.refl _).app hC.same).trans ?_
    rw [Option.toList_some, latM_app [p] Z, ← List.append_assoc, ← latM_app F [p]]
    exact (same_rdc hp h.h.rect).app (Same.refl _)
theorem RfSt.done {n c : Nat} {M F R : Mx} {ps : List Nat} (h : RfSt n c M ps F R) (hR : R = [] ∨ n ≤ c) : HnfOf n M F := by
  have hz : ∀ r ∈ R, vr r = fun _ => 0 := fun r hr => by
    rcases hR with rfl | hR
    · cases hr
    · funext j
      rcases Nat.lt_or_ge j c with hj | hj
      · exact h.zR r hr j hj
      · show r.getD j 0 = 0
        rw [List.getD_eq_getElem?_getD, List.getElem?_eq_none (by have := h.rR r hr; omega)]; rfl
  refine ⟨⟨ps, h.h⟩, fun v hv => h.same.2 v (by rw [latM_app]; exact List.mem_append_left _ hv), fun v hv => (h.same.1 v hv).trans fun u hu => ?_⟩
  rw [latM_app] at hu
  rcases List.mem_append.1 hu with hu | hu
  · exact .mem hu
  · obtain ⟨r, hr, rfl⟩ := List.mem_map.1 hu
    rw [hz r hr]; exact .zero
/-- The digits (in base 2) of the reference's rows behind c columns. -/
def rkB (m k : Nat) : Nat → Nat
  | 0 => k
  | c + 1 => (rkB m k c + 1) * (m + 1)
theorem rkB_le (m k c : Nat) : rkB m k c + 1 ≤ rkB m k (c + 1) := by
  rw [rkB]; exact Nat.le_mul_of_pos_right _ (by omega)
theorem rkB_mono (m k c : Nat) : ∀ e, rkB m k c ≤ rkB m k (c + e)
  | 0 => Nat.le_refl _
  | e + 1 => Nat.le_trans (rkB_mono m k c e) (Nat.le_trans (Nat.le_succ _) (rkB_le m k (c + e)))
def AllB (E : Nat) (M : Mx) : Prop := ∀ r ∈ M, ∀ z ∈ r, z.natAbs < 2 ^ E
theorem AllB.mono {E E' : Nat} {M : Mx} (h : AllB E M) (he : E ≤ E') : AllB E' M := fun r hr z hz => Nat.lt_of_lt_of_le (h r hr z hz) (Nat.pow_le_pow_right (by omega) he)
theorem rdc_bd {c k K : Nat} {f p : List Int} (hp : 0 < p.getD c 0) (hf : ∀ z ∈ f, z.natAbs < 2 ^ k) (hpp : ∀ z ∈ p, z.natAbs < 2 ^ K) : ∀ z ∈ rdc c p f, z.natAbs < 2 ^ (k + K + 1) := by
  intro z hz
  have hk : 0 < 2 ^ k := Nat.two_pow_pos k
  have hK : 0 < 2 ^ K := Nat.two_pow_pos K
  have e : 2 ^ (k + K + 1) = 2 * (2 ^ k * 2 ^ K) := by rw [Nat.pow_succ, Nat.pow_add, Nat.mul_comm]
  have h1 := less_abs (k := (f.getD c 0).fdiv (p.getD c 0)) (nx := 2 ^ k - 1) (ny := 2 ^ K - 1) (fun z hz => by have := hf z hz; omega) (fun z hz => by have := hpp z hz; omega) z hz
  have h2 := fdiv_abs (f.getD c 0) (b := p.getD c 0) (by omega)
  have h3 := getD_bd hk hf c
  have h4 : ((f.getD c 0).fdiv (p.getD c 0)).natAbs * (2 ^ K - 1) ≤ 2 ^ k * 2 ^ K := Nat.mul_le_mul (by omega) (by omega)
  have h5 : 2 ^ k * 1 ≤ 2 ^ k * 2 ^ K := Nat.mul_le_mul_left _ hK
  rw [e]; omega
theorem rkB_next {m k c m' : Nat} (hm : m' ≤ m) : rkB m k c + (rkB m k c + 1) * m' + 1 ≤ rkB m k (c + 1) := by
  rw [rkB, Nat.mul_succ]
  have := Nat.mul_le_mul_left (rkB m k c + 1) hm
  omega
theorem AllB.next {n m k c : Nat} {F R Z : Mx} {p : List Int} (hF : AllB (rkB m k c) F) (hC : Col c n (rkB m k c) R (some p) Z) (hm : R.length ≤ m) : AllB (rkB m k (c + 1)) (F.map (rdc c p) ++ [p]) ∧ AllB (rkB m k (c + 1)) Z := by
  have hb := hC.bd
  have hn := rkB_next (k := k) (c := c) hm
  have hpc := (hC.pp p rfl).2
  constructor
  · intro r hr z hz
    rcases List.mem_append.1 hr with hr | hr
    · obtain ⟨f, hf, rfl⟩ := List.mem_map.1 hr
      exact Nat.lt_of_lt_of_le (rdc_bd hpc (hF f hf) (hb p (by simp)) z hz) (Nat.pow_le_pow_right (by omega) hn)
    · rw [List.mem_singleton.1 hr] at hz
      exact Nat.lt_of_lt_of_le (hb p (by simp) z hz) (Nat.pow_le_pow_right (by omega) (by omega))
  · intro r hr z hz
    exact Nat.lt_of_lt_of_le (hb r (List.mem_append_right _ hr) z hz) (Nat.pow_le_pow_right (by omega) (by omega))
theorem AllB.skip {n m k c : Nat} {F R Z : Mx} (hF : AllB (rkB m k c) F) (hC : Col c n (rkB m k c) R none Z) (hm : R.length ≤ m) : AllB (rkB m k (c + 1)) F ∧ AllB (rkB m k (c + 1)) Z := by
  have hn := rkB_next (k := k) (c := c) hm
  refine ⟨hF.mono (by omega), fun r hr z hz => ?_⟩
  exact Nat.lt_of_lt_of_le (hC.bd r (List.mem_append_right _ hr) z hz) (Nat.pow_le_pow_right (by omega) (by omega))
end Go.Proofs.YthmhmkkcjlgbjaaGreatDoor
