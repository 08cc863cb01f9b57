/- Part 18 of the proof of the claim: contracts of the functions that it reaches, and plain laws; no condition. -/
import Derived.Test.YtokjolmpdfmnbaaGreatDoorU17
import Derived.Test.YtokjolmpdfmnbaaGreatDoorU13
namespace Go.Proofs.YtokjolmpdfmnbaaGreatDoor
open Go.RowKit Go.Sort
theorem cnt_none {f : Nat → Int} : ∀ {i}, (∀ t, t < i → f t = 0) → cntNZ f i = 0
  | 0, _ => rfl
  | i + 1, h => by rw [cntNZ, if_pos (h i (by omega)), cnt_none (fun t ht => h t (by omega))]
def BsR (f : Nat → Int) (d i : Nat) (kv : Int) (mv : Bool) : Prop :=
  (kv = -1 ∧ mv = false ∧ ∀ t, t < i → f t = 0) ∨ ∃ p : Nat, p < i ∧ kv = ((d + p : Nat) : Int) ∧ f p ≠ 0 ∧ (∀ t, t < i → f t ≠ 0 → (f p).natAbs ≤ (f t).natAbs) ∧ mv = decide (1 < cntNZ f i)
theorem bs_zero {f : Nat → Int} {d i : Nat} {kv : Int} {mv : Bool} (h : BsR f d i kv mv) (hz : f i = 0) : BsR f d (i + 1) kv mv := by
  rcases h with ⟨h1, h2, h3⟩ | ⟨p, hp, h1, h2, h3, h4⟩
  · exact .inl ⟨h1, h2, fun t ht => by
      by_cases e : t = i
      · subst e; exact hz
      · exact h3 t (by omega)⟩
  · refine .inr ⟨p, by omega, h1, h2, fun t ht hn => ?_, by rw [cntNZ, if_pos hz]; exact h4⟩
    by_cases e : t = i
    · subst e; exact absurd hz hn
    · exact h3 t (by omega) hn
theorem bs_first {f : Nat → Int} {d i : Nat} (h : ∀ t, t < i → f t = 0) (hz : f i ≠ 0) : BsR f d (i + 1) ((d + i : Nat) : Int) false := by
  refine .inr ⟨i, by omega, rfl, hz, fun t ht hn => ?_, ?_⟩
  · by_cases e : t = i
    · subst e; exact Nat.le_refl _
    · exact absurd (h t (by omega)) hn
  · rw [cntNZ, if_neg hz, cnt_none h]; rfl
theorem bs_less {f : Nat → Int} {d i p : Nat} (hp : p < i) (hpz : f p ≠ 0) (h : ∀ t, t < i → f t ≠ 0 → (f p).natAbs ≤ (f t).natAbs) (hz : f i ≠ 0) (hlt : (f i).natAbs < (f p).natAbs) : BsR f d (i + 1) ((d + i : Nat) : Int) true := by
  refine .inr ⟨i, by omega, rfl, hz, fun t ht hn => ?_, ?_⟩
  · by_cases e : t = i
    · subst e; exact Nat.le_refl _
    · have := h t (by omega) hn; omega
  · have := cnt_pos hpz hp
    rw [cntNZ, if_neg hz, decide_eq_true (by omega)]
theorem bs_keep {f : Nat → Int} {d i p : Nat} (hp : p < i) (hpz : f p ≠ 0) (h : ∀ t, t < i → f t ≠ 0 → (f p).natAbs ≤ (f t).natAbs) (hz : f i ≠ 0) (hlt : (f p).natAbs ≤ (f i).natAbs) : BsR f d (i + 1) ((d + p : Nat) : Int) true := by
  refine .inr ⟨p, by omega, rfl, hpz, fun t ht hn => ?_, ?_⟩
  · by_cases e : t = i
    · subst e; exact hlt
    · exact h t (by omega) hn
  · have := cnt_pos hpz hp
    rw [cntNZ, if_neg hz, decide_eq_true (by omega)]
def HerPost (w0 : World) (g cap N n k : Nat) (ls : List Ln) (e : Ending) (w' : World) : Prop :=
  ∃ d ps ad' ls', e = .returned (slv g d cap) ∧ d ≤ N ∧ Gr w0.heap.size w' g cap N n ad' ls' ∧ FormTo n d ps ls' ∧ Ops 0 ls ls' ∧ AllL (bC N k n) ls' ∧ Ext w0 w'
set_option maxRecDepth 100000 in
set_option maxHeartbeats 4000000 in
theorem hermitian_any {w0 w : World} {g cap N n k : Nat} {ad : List (Nat × Nat)} {ls : List Ln} (hG : Gr w0.heap.size w g cap N n ad ls) (hNp : 0 < N) (hnp : 0 < n) (hn2 : n ≤ 1000000) (hN : N ≤ 1000000) (hcap : N ≤ cap)
    (hA : AllL k ls) (hk : 2 * (2 * bC N k n + 2) + 2 < LIM) (hL : Laid w0) (hE : Ext w0 w) :
    Calls Tryz.prog 43 #[slv g N cap, .int .i64 n] w (HerPost w0 g cap N n k ls) := by
  have HL := Lib.hid hL
  have Hk := Lib.hid hk
  have Hdim := Lib.hid hG.dim
  clear hL hk
  go_enter Tryz.func43, Tryz.ntmps43
  go_wp2_with fail
  go_loopw [5, 6] (fun dn idx wr => ∃ (c d : Nat) (ps : List Nat) (ad1 : List (Nat × Nat)) (ls1 : List Ln), c ≤ n ∧ d ≤ N ∧ idx = .int .i64 c ∧ dn = .int .i64 d ∧ Hid (Gr w0.heap.size wr g cap N n ad1 ls1) ∧ Ext w0 wr ∧ Hid (FormTo c d ps ls1 ∧ Ops 0 ls ls1 ∧ AllL (bC N k c) ls1)) (fun _ idx _ => n - (intOf idx).toNat)
  case atStart => exact ⟨0, 0, [], ad, ls, by omega, by omega, by go_num, by go_num, Lib.hid hG, hE, Lib.hid ⟨FormTo.start ls, .refl _, hA⟩⟩
  case round =>
    clear hA hG hE
    obtain ⟨c, d, ps, ad1, ls1, hc, hdN, rfl, rfl, hG1, hE1, hK1⟩ := hrel
    generalize wr = U at *
    have hfin : ∀ W (e : Ending), Ext U W → (c = n ∨ d = N) → e = .returned (slv g d cap) → HerPost w0 g cap N n k ls e W := fun W e hW hcd he =>
      ⟨d, ps, ad1, ls1, he, hdN, hG1.out.ext hW, by
        rcases hcd with h | h
        · subst h; exact hK1.out.1
        · exact hK1.out.1.full (by rw [hG1.out.len]; exact h) hc, hK1.out.2.1, hK1.out.2.2.mono (by
          have := bC_mono N k c (n - c); rwa [show c + (n - c) = n by omega] at this), hE1.trans hW⟩
    have Hfin := Lib.hid hfin
    clear hfin
    have hdcap : (d : Int) ≤ (cap : Int) := by omega
    by_cases hcn : c < n
    · have hci : (c : Int) < (n : Int) := by omega
      by_cases hdL : d < N
      · have hdi : (d : Int) < (N : Int) := by omega
        have hbn := bC_next (L := N) (N := N - d) (k := k) (c := c) (by omega)
        have hbm := bC_mono N k (c + 1) (n - (c + 1))
        rw [show c + 1 + (n - (c + 1)) = n by omega] at hbm
        have Hbn := Lib.hid hbn
        have Hbm := Lib.hid hbm
        obtain ⟨kb, hkb⟩ : ∃ kb, kb = bC N k c := ⟨_, rfl⟩
        rw [← hkb] at Hbn
        have Hkb := Lib.hid hkb
        have HN1 := Lib.hid (show ls1.length = d + (N - d) by rw [hG1.out.len]; omega)
        clear hbn hbm hkb
        obtain ⟨M, hM⟩ : ∃ M, M = N - d := ⟨_, rfl⟩
        have hMd : d + M = N := by omega
        rw [← hM] at HN1 Hbn
        clear hM
        go_wp2_with fail
        go_loopg [5] (sm (cols c d ls1) M) (fun k' dn wr => ∃ ad2 ls2, dn = .int .i64 d ∧ Hid (Gr w0.heap.size wr g cap N n ad2 ls2) ∧ Ext w0 wr ∧ Hid (k' = sm (cols c d ls2) M ∧ GG c d M kb ls2 ∧ Ops d ls1 ls2))
        case atStart => exact ⟨ad1, ls1, rfl, hG1, hE1, Lib.hid ⟨rfl, .inl (fun t ht => by rw [Hkb.out]; exact hK1.out.2.2 (d + t) (by rw [HN1.out]; omega)), .refl _⟩⟩
        case round =>
          obtain ⟨ad2, ls2, rfl, hG2, hE2, hK⟩ := hrel
          have hN2 := Lib.hid (show ls2.length = d + M by rw [hK.out.2.2.length]; exact HN1.out)
          have hlt2 := Lib.hid hK.out.2.1.lt
          have Hbig := Lib.hid (show 2 * (kb * (M + 2) + 2) + 2 < LIM by have := Hbn.out; have := Hbm.out; have := Hk.out; omega)
          generalize wr = V at *
          go_wp2_with fail
          go_loopw [7, 8, 9] (fun kk mm idx wr => ∃ (i : Nat) (kv : Int) (mv : Bool), i ≤ M ∧ idx = .int .i64 ((d + i : Nat) : Int) ∧ kk = .int .i64 kv ∧ mm = .bool mv ∧ Hid (BsR (cols c d ls2) d i kv mv) ∧ Ext V wr) (fun _ _ idx _ => N - (intOf idx).toNat)
          case atStart => exact ⟨0, -1, false, by omega, by simp, rfl, rfl, Lib.hid (.inl ⟨rfl, rfl, fun t h => by omega⟩), Ext.refl _⟩
          case round =>
            obtain ⟨i, kv, mv, hi, rfl, rfl, rfl, hB, hEV⟩ := hrel
            obtain ⟨a, ha⟩ : ∃ a, a = d + i := ⟨_, rfl⟩
            rw [← ha]
            by_cases hlt : i < M
            · have hii : (a : Int) < (N : Int) := by omega
              obtain ⟨gx, cx, ead, c1, cz, o1, _⟩ := (hG2.out.ext hEV).ln (d := d) (i := i) (by omega) hcn
              obtain ⟨z, hz⟩ : ∃ z, z = cols c d ls2 i := ⟨_, rfl⟩
              have hzE := hlt2.out i hlt
              have hzE2 : nd z ≤ kb * (M + 2) + 3 := by rw [hz]; exact nd_lt2 (hzE.col (Q := fun z => z.natAbs < 2 ^ (kb * (M + 2) + 2)) (Nat.pow_pos (by omega)) c)
              have Hz2 := Lib.hid hzE2
              rw [← hz] at cz
              rw [← ha] at c1
              have hitz : (Lib.itoa z == [48]) = decide (z = 0) := itoa_eq_zero z
              have Hz := Lib.hid hz
              have Ha := Lib.hid ha
              clear hz o1 ead hzE hzE2
              have hidx : (Value.int .i64 ((a : Int) + 1)) = .int .i64 ((d + (i + 1) : Nat) : Int) := by rw [show ((d + (i + 1) : Nat) : Int) = (a : Int) + 1 by omega]
              have Hidx := Lib.hid hidx
              clear hidx ha
              by_cases hz0 : z = 0
              · rw [decide_eq_true hz0] at hitz
                have Hz0 := Lib.hid hz0
                clear hz0
                go_wp2_with fail
                go_roundw
                case rel => exact ⟨i + 1, kv, mv, by omega, Hidx.out, rfl, rfl, Lib.hid (bs_zero hB.out (by rw [← Hz.out]; exact Hz0.out)), hEV⟩
                case measure => simp [intOf] <;> omega
              · rw [decide_eq_false hz0] at hitz
                have Hz0 := Lib.hid hz0
                clear hz0
                rcases hB.out with ⟨h1, h2, h3⟩ | ⟨p, hp, h1, hpz, hmin, h4⟩
                · subst h1 h2
                  have Hall := Lib.hid h3
                  clear h3 hB
                  go_wp2_with fail
                  go_quiet (fail)
                  go_wp2_with fail
                  go_roundw
                  case rel => exact ⟨i + 1, _, _, by omega, Hidx.out, by rw [Ha.out], rfl, Lib.hid (bs_first Hall.out (by rw [← Hz.out]; exact Hz0.out)), hEV.drewN _⟩
                  case measure => simp [intOf] <;> omega
                · have Hpz := Lib.hid hpz
                  have Hmin := Lib.hid hmin
                  have Hp := Lib.hid hp
                  obtain ⟨ap, hap⟩ : ∃ ap, ap = d + p := ⟨_, rfl⟩
                  rw [← hap] at h1
                  subst h1
                  obtain ⟨gxp, cxp, eadp, c1p, cy', o1p, _⟩ := (hG2.out.ext hEV).ln (d := d) (i := p) (by omega) hcn
                  have hapN : (ap : Int) < (N : Int) := by omega
                  rw [← hap] at c1p
                  obtain ⟨y, hy⟩ : ∃ y, y = cols c d ls2 p := ⟨_, rfl⟩
                  have hyE := hlt2.out p (by omega)
                  have hyE2 : nd y ≤ kb * (M + 2) + 3 := by rw [hy]; exact nd_lt2 (hyE.col (Q := fun z => z.natAbs < 2 ^ (kb * (M + 2) + 2)) (Nat.pow_pos (by omega)) c)
                  rw [← hy] at cy'
                  have Hy := Lib.hid hy
                  have Hap := Lib.hid hap
                  have hzl : nd z ≤ LIM := by have := Hbig.out; have := Hz2.out; omega
                  have hyl : nd y ≤ LIM := by have := Hbig.out; omega
                  have hzl' : nd (z.natAbs : Int) ≤ LIM := by unfold nd at *; rw [Int.natAbs_natCast]; exact hzl
                  have hyl' : nd (y.natAbs : Int) ≤ LIM := by unfold nd at *; rw [Int.natAbs_natCast]; exact hyl
                  have bA := Lib.hid (fun (t : Int) (ht : nd t ≤ LIM) => quietC (w := wr) (fun W h => (Abs_any (z := t) ht W)))
                  have Hzl := Lib.hid hzl
                  have Hyl := Lib.hid hyl
                  have k1 := cell_regrown c1
                  have k2 := cell_regrown cz
                  have k3 := cell_regrown c1p
                  have k4 := cell_regrown cy'
                  have b3 := Lib.hid (quietC (w := wr) (fun W h => (Compare_any (a := (z.natAbs : Int)) (b := (y.natAbs : Int)) hzl' hyl' W)))
                  have Hcmp := Lib.hid (show cmpZ z.natAbs y.natAbs < 0 ↔ z.natAbs < y.natAbs by unfold cmpZ; split <;> (try split) <;> omega)
                  obtain ⟨q, hq⟩ : ∃ q, q = cmpZ z.natAbs y.natAbs := ⟨_, rfl⟩
                  rw [← hq] at b3 Hcmp
                  have hap0 : ¬ (ap : Int) < 0 := by omega
                  have hap1 : (0 : Int) ≤ (ap : Int) := by omega
                  clear hpz hmin hy hB o1p eadp hyE hyE2 hzl hyl hzl' hyl' hq hap hp h4
                  cases mv
                  all_goals
                   rcases Decidable.em (z.natAbs < y.natAbs) with hzy | hzy
                   · have hq0 : q < 0 := Hcmp.out.2 hzy
                     have hqd : decide (q < 0) = true := decide_eq_true hq0
                     have Hzy := Lib.hid hzy
                     clear hzy
                     go_wp2_with fail
                     refine wp_region_quiet_below (by kernel_rfl) (by kernel_rfl) ?_
                     repeat (quiet_step (first | (refine bA.out _ ?_ _ _; first | exact Hzl.out | exact Hyl.out) | exact b3.out _ _))
                     refine wpQuiet_nil ?_
                     intro _ hw'
                     obtain ⟨⟨dq, osq⟩, hw''⟩ := hw'
                     subst hw''
                     have hE5 := hEV.trans (ext_regrown _ dq osq)
                     clear bA b3 k1 k2 k3 k4
                     go_wp2_with fail
                     go_roundw
                     case rel => exact ⟨i + 1, _, _, by omega, Hidx.out, by rw [Ha.out], by simp, Lib.hid (bs_less Hp.out Hpz.out Hmin.out (by rw [← Hz.out]; exact Hz0.out) (by rw [← Hz.out, ← Hy.out]; exact Hzy.out)), hE5⟩
                     case measure => simp [intOf] <;> omega
                   · have hq0 : 0 ≤ q := by have := mt Hcmp.out.1 hzy; omega
                     have hqd : decide (q < 0) = false := decide_eq_false (by omega)
                     have Hzy := Lib.hid hzy
                     clear hzy
                     go_wp2_with fail
                     refine wp_region_quiet_below (by kernel_rfl) (by kernel_rfl) ?_
                     repeat (quiet_step (first | (refine bA.out _ ?_ _ _; first | exact Hzl.out | exact Hyl.out) | exact b3.out _ _))
                     refine wpQuiet_nil ?_
                     intro _ hw'
                     obtain ⟨⟨dq, osq⟩, hw''⟩ := hw'
                     subst hw''
                     have hE5 := hEV.trans (ext_regrown _ dq osq)
                     clear bA b3 k1 k2 k3 k4
                     go_wp2_with fail
                     go_roundw
                     case rel => exact ⟨i + 1, _, _, by omega, Hidx.out, by rw [Hap.out], by simp, Lib.hid (bs_keep Hp.out Hpz.out Hmin.out (by rw [← Hz.out]; exact Hz0.out) (by rw [← Hz.out, ← Hy.out]; have := Hzy.out; omega)), hE5⟩
                     case measure => simp [intOf] <;> omega
            · have hiM : i = M := by omega
              subst hiM
              have haN : a = N := by omega
              subst haN
              clear ha
              rcases hB.out with ⟨h1, h2, h3⟩ | ⟨p, hp, h1, hpz, hmin, h4⟩
              · subst h1 h2
                have HSW := Lib.hid (swr_no hK.out.2.2 hK.out.2.1 h3)
                clear h3 hB
                go_wp2_with fail
                go_roundw
                case rel => exact ⟨c + 1, d, ps, ad2, ls2, by omega, by omega, by go_num, rfl, Lib.hid (hG2.out.ext hEV), hE2.trans hEV, Lib.hid ⟨hK1.out.1.skip hG1.out.dim HN1.out HSW.out, hK1.out.2.1.trans (HSW.out.ops.mono (by omega)), (HSW.out.all HN1.out (by rw [Hkb.out]; exact hK1.out.2.2)).mono (by have := Hbn.out; omega)⟩⟩
                case measure => simp [intOf] <;> omega
              · have Hpz := Lib.hid hpz
                have Hmin := Lib.hid hmin
                have hG3 := hG2.out.ext hEV
                obtain ⟨ap, hap⟩ : ∃ ap, ap = d + p := ⟨_, rfl⟩
                rw [← hap] at h1
                subst h1
                obtain ⟨gxp, cxp, eadp, c1p, _, _, _⟩ := hG3.ln (d := d) (i := p) (by omega) hcn
                obtain ⟨gx, cx, ead, c1, _, _, _⟩ := hG3.el (i := d) (by omega) hcn
                rw [← hap] at c1p eadp
                have hapN : (ap : Int) < (a : Int) := by omega
                have hap0 : ¬ (ap : Int) < 0 := by omega
                have fz := hG3.fz
                have hS := hG3.swap hnp hdL (by omega : ap < a) ead eadp
                have Hsw := Lib.hid (show swp ls2 d ap = swp ls2 d (d + p) by rw [hap])
                have Hp := Lib.hid hp
                have hgb := hG3.base.1
                have H4 := Lib.hid h4
                have Hap := Lib.hid hap
                have hd0 : ¬ (d : Int) < 0 := by omega
                rcases Nat.eq_zero_or_pos p with hp0 | hp0
                focus
                  have hade : ap = d := by omega
                  rw [hade] at c1p eadp hS Hsw ⊢
                  have e1 : slv gx n cx = slv gxp n cxp := by rw [c1] at c1p; exact Option.some.inj c1p
                  rw [← e1] at hS c1p
                  have HS := Lib.hid hS
                  clear c1p hpz hmin hB hap hp0 h4 eadp ead e1 hS hp hade
                  go_wp2_with fail
                  go_region
                  obtain ⟨hS1, hS2⟩ := HS.out
                  rw [Hsw.out] at hS1
                rotate_left
                focus
                  have d1 : ap ≠ d := by omega
                  have d2 : d ≠ ap := by omega
                  have HS := Lib.hid hS
                  clear hpz hmin hB hap hp0 h4 eadp ead hS hp
                  go_wp2_with fail
                  go_region
                  obtain ⟨hS1, hS2⟩ := HS.out
                  rw [Hsw.out] at hS1
                all_goals
                  have hG4 := Lib.hid (hS1.ext ((Ext.refl _).drew))
                  have hE4 := (ext_trans_grown (hE2.trans hEV) hS2 hgb).drew
                  generalize hW5 : World.drew (World.setCell _ _ _) = W5 at *
                  clear hW5 HS hS1 hS2 c1 hG3
                  have hM0 : 0 < i := by have := Hp.out; omega
                  by_cases hc1 : cntNZ (cols c d ls2) i = 1
                  · have HSW := Lib.hid (swr_yes hK.out.2.2 hN2.out hK.out.2.1 Hp.out Hpz.out hc1)
                    have hmv : mv = false := by rw [H4.out, hc1]; rfl
                    subst hmv
                    have HSA := Lib.hid (HSW.out.all HN1.out (by rw [Hkb.out]; exact hK1.out.2.2))
                    have hfn := Lib.hid (finish_any hG4.out hdL hcn hn2 hN HSA.out (HSW.out.yes rfl).2.1 Hbig.out HL.out hE4)
                    clear hc1
                    go_wp2_with fail
                    refine hfn.out.mono ?_
                    rintro e W6 ⟨rfl, hG6, hE6⟩
                    have HG6 := Lib.hid hG6
                    clear hG6 hfn
                    go_wp2_with fail
                    go_roundw
                    case rel =>
                      have hld : d < (swp ls2 d (d + p)).length := by rw [swp_length, hN2.out]; omega
                      refine ⟨c + 1, d + 1, _, _, _, by omega, by omega, by go_num, by go_num, HG6, hE6, Lib.hid ⟨hK1.out.1.next hG1.out.dim HN1.out HSW.out, (hK1.out.2.1.trans (HSW.out.ops.mono (by omega))).trans (((posAt_ops c d _ hld).mono (by omega)).trans (abvTo_ops c d _ (by rw [posAt_length]; exact hld) d (Nat.le_refl _))), ?_⟩⟩
                      refine ((HSA.out.pos (c := c) (d := d) hld).abv (c := c) (d := d) (j := d) (by rw [posAt_length]; exact hld) ?_).mono (by have := Hbn.out; omega)
                      rw [en_posAt hld]
                      have : en (swp ls2 d (d + p)) d c ≠ 0 := (HSW.out.yes rfl).2.1
                      split <;> omega
                    case measure => simp [intOf] <;> omega
                  · have hcp := cnt_pos Hpz.out Hp.out
                    have hmv : mv = true := by rw [H4.out]; exact decide_eq_true (by omega)
                    subst hmv
                    have hi2 : 2 ≤ i := by
                      obtain ⟨s, hs, hsp, _⟩ := cnt_other hc1 Hpz.out Hp.out
                      have := Hp.out
                      omega
                    have hdd := hG2.out.dim
                    have Hless := Lib.hid (sw_less hN2.out hdd Hp.out Hpz.out Hmin.out hc1)
                    have HG2 := Lib.hid (hK.out.2.1.swp hN2.out Hp.out)
                    have hd2 : Dim n 0 (swp ls2 d (d + p)) := hG4.out.dim
                    have HN2 := Lib.hid (show (swp ls2 d (d + p)).length = d + i by rw [swp_length]; exact hN2.out)
                    have Hz2 := Lib.hid (show cols c d (swp ls2 d (d + p)) 0 ≠ 0 by rw [swp_zero hN2.out Hp.out]; exact Hpz.out)
                    have Hm2 := Lib.hid (swp_best hN2.out Hp.out Hmin.out)
                    have HO2 := Lib.hid (Ops.step hK.out.2.2 (swp_step (d := d) (i := d) (j := d + p) ls2 (by rw [hN2.out]; omega) (by rw [hN2.out]; have := Hp.out; omega) (by omega) (by omega)))
                    generalize hls3 : swp ls2 d (d + p) = ls3 at *
                    generalize sw2 ad2 (0, 0) d _ = ad3 at *
                    clear hls3 hcp hc1 Hsw
                    have HG3 := Lib.hid (HG2.out.red HN2.out hd2 Hz2.out Hm2.out)
                    have hR : ∀ j, j ≤ i - 1 → ∀ t, t < i → All (fun z => z.natAbs < 2 ^ (kb * (i + 2) + 2)) ((redTo c d j ls3).getD (d + t) default) := fun j hj t ht => by
                      have h1 := HG2.out.lt t ht
                      have h2 := HG3.out.lt t ht
                      rw [redTo_getD c d _ (by rw [HN2.out]; omega)] at h2 ⊢
                      by_cases htj : d < d + t ∧ d + t ≤ d + j
                      · rw [if_pos htj]; rw [if_pos (by omega)] at h2; exact h2
                      · rw [if_neg htj]; exact h1
                    have HR := Lib.hid hR
                    have hi1 : i - 1 ≤ i := by omega
                    clear hR
                    go_wp2_with fail
                    go_loopw [10] (fun idx wr => ∃ j : Nat, j ≤ i - 1 ∧ idx = .int .i64 ((d + (j + 1) : Nat) : Int) ∧ Hid (Gr w0.heap.size wr g cap a n ad3 (redTo c d j ls3)) ∧ Ext w0 wr) (fun idx _ => a - (intOf idx).toNat)
                    case atStart => exact ⟨0, by omega, by rw [show ((d + (0 + 1) : Nat) : Int) = (d : Int) + 1 by omega], by rw [redTo_zero]; exact hG4, hE4⟩
                    case round =>
                      obtain ⟨j, hj, rfl, hL3, hE3⟩ := hrel
                      generalize wr = X at *
                      obtain ⟨b, hb⟩ : ∃ b, b = d + (j + 1) := ⟨_, rfl⟩
                      rw [← hb]
                      by_cases hjl : j < i - 1
                      · have hba : b < a := by omega
                        have hji : (b : Int) < (a : Int) := by omega
                        have HN3 := Lib.hid (show (redTo c d j ls3).length = d + i by rw [redTo_length]; exact HN2.out)
                        obtain ⟨gy, cy, eady, c1y, cz, o1, _⟩ := hL3.out.ln (d := d) (i := j + 1) (by omega) hcn
                        obtain ⟨gt, ct, eadt, c1t, czt, ot, _⟩ := hL3.out.el (i := d) (by omega) hcn
                        rw [← hb] at eady c1y o1
                        obtain ⟨z, hz⟩ : ∃ z, z = cols c d (redTo c d j ls3) (j + 1) := ⟨_, rfl⟩
                        obtain ⟨y, hy⟩ : ∃ y, y = cols c d (redTo c d j ls3) 0 := ⟨_, rfl⟩
                        have hyt : en (redTo c d j ls3) d c = y := by rw [hy]; rfl
                        rw [← hz] at cz
                        rw [hyt] at czt
                        have hy0 : y ≠ 0 := by
                          rw [hy]; unfold cols; rw [redTo_getD c d _ (by rw [HN2.out]; omega), if_neg (by omega)]; exact Hz2.out
                        have hA1 := HR.out j hj (j + 1) (by omega)
                        have hA0 := HR.out j hj 0 (by omega)
                        rw [← hb] at hA1
                        have hzE : z.natAbs < 2 ^ (kb * (i + 2) + 2) := by rw [hz]; have := HR.out j hj (j + 1) (by omega); exact this.col (Q := fun z => z.natAbs < 2 ^ (kb * (i + 2) + 2)) (Nat.pow_pos (by omega)) c
                        have hyE : y.natAbs < 2 ^ (kb * (i + 2) + 2) := by rw [hy]; exact hA0.col (Q := fun z => z.natAbs < 2 ^ (kb * (i + 2) + 2)) (Nat.pow_pos (by omega)) c
                        have hqE : (z.fdiv y).natAbs < 2 ^ (kb * (i + 2) + 2) := Nat.lt_of_le_of_lt (fdiv_abs z hy0) hzE
                        have hstep := redTo_stepD c d j ls3 (by rw [HN2.out]; omega)
                        rw [← hz, ← hy, ← hb] at hstep
                        have Hzl : Hid (nd z < LIM) := by have := nd_lt2 hzE; have := Hbig.out; exact Lib.hid (by omega)
                        have Hyl : Hid (nd y < LIM) := by have := nd_lt2 hyE; have := Hbig.out; exact Lib.hid (by omega)
                        have Hl := Lib.hid (fun W (hW : Ext X W) => take_lines (w0 := w0) (w := W) (i := b) (t := d) (hL3.out.ext hW) hnp hn2 hba hdL (by omega) eady eadt hA1 hA0 hqE Hbig.out HL.out (hE3.trans hW))
                        have Hstep := Lib.hid hstep
                        have Hy0 := Lib.hid hy0
                        have Hb := Lib.hid hb
                        have hidx : (Value.int .i64 ((b : Int) + 1)) = .int .i64 ((d + (j + 1 + 1) : Nat) : Int) := by rw [show ((d + (j + 1 + 1) : Nat) : Int) = (b : Int) + 1 by omega]
                        have Hidx := Lib.hid hidx
                        have k1 := cell_regrown cz
                        have k2 := cell_regrown czt
                        have k3 := cell_regrown c1y
                        have k4 := cell_regrown c1t
                        have bD := Lib.hid (quietC (w := X) (fun W h => DivMod_any (a := z) (b := y) (w := W) Hzl.out Hyl.out Hy0.out (HL.out.ext (hE3.trans h))))
                        clear hy hz eady eadt o1 ot hA1 hA0 hzE hyE hqE hstep hyt hy0 hidx hb
                        go_wp2_with fail
                        refine wp_region_quiet_below (by kernel_rfl) (by kernel_rfl) ?_
                        repeat (quiet_step (exact bD.out _ _))
                        refine wpQuiet_nil ?_
                        intro _ hw'
                        obtain ⟨⟨dq, osq⟩, hw''⟩ := hw'
                        subst hw''
                        have hE6 := ext_regrown X dq osq
                        have m3 := k3 dq osq
                        have m4 := k4 dq osq
                        clear bD k1 k2 k3 k4
                        generalize hW6 : grow (redrawn _ _) _ = W6 at *
                        have n3 := cell_regrown m3
                        have n4 := cell_regrown m4
                        clear hW6 m3 m4
                        go_wp2_with fail
                        refine wp_region_quiet_tail 9 (by kernel_rfl) (by kernel_rfl) ?_
                        simp only [List.take_succ_cons, List.take_zero, List.drop_succ_cons, List.drop_zero]
                        repeat (quiet_step (fail))
                        refine wpQuiet_nil ?_
                        intro _ hw'
                        obtain ⟨⟨dq, osq⟩, hw''⟩ := hw'
                        subst hw''
                        have hE7 := hE6.trans (ext_regrown _ dq osq)
                        clear n3 n4
                        generalize hW7 : grow (redrawn _ _) _ = W7 at *
                        clear hW7
                        go_wp2_with fail
                        refine (Hl.out _ hE7).mono ?_
                        rintro e W8 ⟨rfl, hG8, hE8, _⟩
                        rw [show d + 0 = d from rfl] at Hstep
                        rw [← Hstep.out] at hG8
                        have HG8 := Lib.hid hG8
                        clear hG8 Hl
                        go_wp2_with fail
                        go_roundw
                        case rel => exact ⟨j + 1, by omega, Hidx.out, HG8, hE8⟩
                        case measure => simp [intOf] <;> omega
                      · have hba : ¬ (b : Int) < (a : Int) := by omega
                        have hje : j = i - 1 := by omega
                        subst hje
                        clear hb
                        go_wp2_with fail
                        go_roundg (sm (cols c d (redTo c d (i - 1) ls3)) i)
                        case measure => rw [hK.out.1]; exact Hless.out
                        case rel => exact ⟨ad3, _, rfl, hL3, hE3, Lib.hid ⟨rfl, HG3.out, HO2.out.trans (redTo_ops c d ls3 (i - 1) (by rw [HN2.out]; omega))⟩⟩
      · have hde : d = N := by omega
        have hdi : ¬ (d : Int) < (N : Int) := by omega
        go_wp2_with fail
        go_ret
        exact Hfin.out _ _ (Ext.refl _) (.inr hde) (by subst hde; rfl)
    · have hce : c = n := by omega
      have hci : ¬ (c : Int) < (n : Int) := by omega
      go_wp2_with fail
      go_ret
      exact Hfin.out _ _ (Ext.refl _) (.inl hce) rfl
end Go.Proofs.YtokjolmpdfmnbaaGreatDoor
namespace Go.Proofs.YtokjolmpdfmnbaaGreatDoor
open Hnf (V Span Ech Red)
theorem vr_far {l : List Int} {j : Nat} (h : l.length ≤ j) : vr l j = 0 := by
  show l.getD j 0 = 0
  rw [List.getD_eq_getElem?_getD, List.getElem?_eq_none h]; rfl
theorem vr_take {l : List Int} {c : Nat} (j : Nat) : vr (l.take c) j = if j < c then vr l j else 0 := by
  by_cases h : j < c
  · rw [if_pos h]; exact getD_take h
  · rw [if_neg h]; exact vr_far (by simp; omega)
theorem vr_drop (l : List Int) (c j : Nat) : vr (l.drop c) j = vr l (c + j) := getD_drop l c j
theorem span_cut {c : Nat} {A B : List V} (hAB : ∀ r ∈ A, Span B (fun j => if j < c then r j else 0)) {v : V} (h : Span A v) : Span B (fun j => if j < c then v j else 0) := by
  induction h with
  | zero => exact span_of_eq .zero fun j => by simp
  | @step v r q _ hr ih =>
    refine span_of_eq (ih.sub q (hAB r hr)) fun j => ?_
    simp only [Hnf.sub]; split <;> simp
theorem span_shift {c : Nat} {A B : List V} (hAB : ∀ r ∈ A, Span B (fun j => r (c + j))) {v : V} (h : Span A v) : Span B (fun j => v (c + j)) := by
  induction h with
  | zero => exact .zero
  | @step v r q _ hr ih => exact ih.sub q (hAB r hr)
theorem lat_at {H : Mx} {v : V} (h : v ∈ latM H) : ∃ i, i < H.length ∧ v = vr (H.getD i []) := by
  obtain ⟨r, hr, rfl⟩ := List.mem_map.1 h
  obtain ⟨i, hi, rfl⟩ := List.getElem_of_mem hr
  exact ⟨i, hi, by rw [getD_get hi]⟩
theorem eM_vrD (H : Mx) (i j : Nat) : vr (H.getD i []) j = eM H i j := rfl
theorem left_form {c : Nat} {M H : Mx} (hM : Rect c M) (hH : HnfOf (c + M.length) (wideM M) H) :
    ∃ qs, IsH c qs ((upr c H).map (List.take c)) ∧ (∀ v ∈ latM ((upr c H).map (List.take c)), Span (latM M) v) ∧ (∀ v ∈ latM M, Span (latM ((upr c H).map (List.take c))) v) := by
  obtain ⟨⟨ps, hI⟩, h1, h2⟩ := hH
  obtain ⟨u, hu, e1, e2, p1, p2⟩ := hI.split c
  rw [e1]
  refine ⟨ps.take u, hI.leftU (by omega) hu p1, fun v hv => ?_, fun v hv => ?_⟩
  · obtain ⟨r, hr, rfl⟩ := List.mem_map.1 hv
    obtain ⟨s, hs, rfl⟩ := List.mem_map.1 hr
    have hw := wide_span hM (h1 _ (List.mem_map.2 ⟨s, List.mem_of_mem_take hs, rfl⟩))
    refine span_cmb.2 ⟨fun i => vr s (c + i), ?_⟩
    funext j
    rw [vr_take]
    by_cases hj : j < c
    · rw [if_pos hj]; exact hw.1 j hj
    · rw [if_neg hj]; exact (sumZ_zero fun i _ => by rw [eM_far hM (by omega)]; simp).symm
  · obtain ⟨r, hr, rfl⟩ := List.mem_map.1 hv
    obtain ⟨i, hi, rfl⟩ := List.getElem_of_mem hr
    have hW : Span (latM H) (vr ((wideM M)[i]'(by simpa using hi))) := h2 _ (List.mem_map.2 ⟨_, List.getElem_mem _, rfl⟩)
    have hc := span_cut (c := c) (B := latM ((H.take u).map (List.take c))) (fun r hr => by
      obtain ⟨k, hk, rfl⟩ := lat_at hr
      by_cases hku : k < u
      · refine .mem (List.mem_map.2 ⟨(H.getD k []).take c, List.mem_map.2 ⟨H.getD k [], ?_, rfl⟩, ?_⟩)
        · rw [getD_get hk]
          have : k < (H.take u).length := by simp; omega
          have h3 := List.getElem_mem this
          rwa [List.getElem_take] at h3
        · funext j; exact vr_take j
      · refine span_of_eq .zero fun j => ?_
        by_cases hj : j < c
        · rw [if_pos hj, eM_vrD]; exact hI.left k hk j (by have := p2 k (by omega) hk; omega)
        · rw [if_neg hj]) hW
    refine span_of_eq hc fun j => ?_
    rw [wide_vr hM hi]
    by_cases hj : j < c
    · rw [if_pos hj, if_pos hj, eM_vr hi]
    · rw [if_neg hj, ← eM_vr hi, eM_far hM (by omega)]
theorem upr_rows {c m : Nat} {ps : List Nat} {H : Mx} (hI : IsH m ps H) : Rect m (upr c H) ∧ ∀ r ∈ upr c H, pv r < c ∧ pv r < m := by
  refine ⟨fun r hr => hI.rect r (List.mem_filter.1 hr).1, fun r hr => ?_⟩
  obtain ⟨h1, h2⟩ := List.mem_filter.1 hr
  refine ⟨of_decide_eq_true h2, ?_⟩
  obtain ⟨i, hi, rfl⟩ := List.getElem_of_mem h1
  have := hI.lt i hi
  rwa [hI.pvs hi, getD_get hi] at this
def solL (c : Nat) (H : Mx) (n : Nat) (b : List Int) : List Int := redX (upr c H) (b ++ List.replicate n 0)
@[simp] theorem solL_length (c : Nat) (H : Mx) (n : Nat) (b : List Int) : (solL c H n b).length = b.length + n := by simp [solL]
theorem vr_zeros (b : List Int) (n j : Nat) : vr (b ++ List.replicate n 0) j = if j < b.length then vr b j else 0 := by
  unfold vr
  simp only [List.getD_eq_getElem?_getD]
  by_cases hj : j < b.length
  · rw [if_pos hj, List.getElem?_append_left hj]
  · rw [if_neg hj, List.getElem?_append_right (by omega), List.getElem?_replicate]; split <;> rfl
theorem sol_zero {c : Nat} {M H : Mx} {b : List Int} (hM : Rect c M) (hH : HnfOf (c + M.length) (wideM M) H) (hb : b.length = c) : zeroL ((solL c H M.length b).take c) ↔ Span (latM M) (vr b) := by
  obtain ⟨qs, hU, a1, a2⟩ := left_form hM hH
  obtain ⟨⟨ps, hI⟩, h1, h2⟩ := hH
  have hr := upr_rows (c := c) hI
  unfold solL
  rw [redX_left _ _ hr.1 (by simp [hb]) hr.2, List.take_left' hb, redX_zero hU hb]
  exact ⟨fun h => h.trans a1, fun h => h.trans a2⟩
def negM (l : List Int) : List Int := l.map fun z => -z
@[simp] theorem negM_length (l : List Int) : (negM l).length = l.length := by simp [negM]
theorem vr_negM (l : List Int) (j : Nat) : vr (negM l) j = -vr l j := by
  have := congrFun (vr_neg l) j
  simp only [Hnf.sub] at this
  show vr (l.map fun z => -z) j = _
  omega
theorem sol_cmb {c : Nat} {M H : Mx} {b : List Int} (hM : Rect c M) (hH : HnfOf (c + M.length) (wideM M) H) (hb : b.length = c) (hz : zeroL ((solL c H M.length b).take c)) : ∀ j, j < c → cmb M (vr (negM ((solL c H M.length b).drop c))) j = vr b j := by
  intro j hj
  obtain ⟨⟨ps, hI⟩, h1, h2⟩ := hH
  have hr := upr_rows (c := c) hI
  have hs := redX_span (n := c + M.length) (upr c H) (b ++ List.replicate M.length 0) hr.1 (by simp [hb])
  have hs2 := (hs.mono (N := latM H) fun v hv => by
    obtain ⟨r, hr, rfl⟩ := List.mem_map.1 hv
    exact List.mem_map.2 ⟨r, (List.mem_filter.1 hr).1, rfl⟩).trans h1
  have hw := (wide_span hM hs2).1 j hj
  have e : redX (upr c H) (b ++ List.replicate M.length 0) = solL c H M.length b := rfl
  rw [e] at hw
  have z0 := zero_vr.1 hz j
  rw [vr_take, if_pos hj] at z0
  simp only [Hnf.sub] at hw
  rw [z0, vr_zeros, hb, if_pos hj] at hw
  have e2 : (fun i => vr (b ++ List.replicate M.length 0) (c + i) - 1 * vr (solL c H M.length b) (c + i)) = vr (negM ((solL c H M.length b).drop c)) := by
    funext i
    rw [vr_negM, vr_drop, vr_zeros, hb, if_neg (by omega)]; omega
  rw [e2] at hw
  omega
theorem ech_drop : ∀ (k : Nat) {F : List (Nat × V)} {b : Nat}, Ech b F → ∃ b', Ech b' (F.drop k)
  | 0, F, b, h => ⟨b, h⟩
  | k + 1, [], b, h => ⟨b, h⟩
  | k + 1, (p, f) :: F, b, h => by obtain ⟨_, _, _, h4⟩ := h; exact ech_drop k h4
theorem span_tail {F : List (Nat × V)} {b : Nat} (hE : Ech b F) {v : V} (hv : Span (Hnf.rows F) v) : ∀ u, u ≤ F.length → (∀ i, i < u → ∀ (h : i < F.length), v (F[i]).1 = 0) → Span (Hnf.rows (F.drop u)) v
  | 0, _, _ => hv
  | u + 1, hu, hz => by
    have ih := span_tail hE hv u (by omega) (fun i hi h => hz i (by omega) h)
    obtain ⟨b', hb'⟩ := ech_drop u hE
    rw [List.drop_eq_getElem_cons (by omega)] at ih hb'
    obtain ⟨p, hp⟩ : ∃ p, p = F[u]'(by omega) := ⟨_, rfl⟩
    have h0 := hz u (by omega) (by omega)
    rw [← hp] at ih hb' h0
    obtain ⟨p1, p2⟩ := p
    exact hb'.tail ih h0
theorem krn_form {c : Nat} {M H : Mx} (hM : Rect c M) (hH : HnfOf (c + M.length) (wideM M) H) :
    ∃ qs, IsH M.length qs (krn c H) ∧ ∀ y : V, Span (latM (krn c H)) y ↔ (∀ j, j < c → cmb M y j = 0) ∧ ∀ i, M.length ≤ i → y i = 0 := by
  obtain ⟨⟨ps, hI⟩, h1, h2⟩ := hH
  obtain ⟨u, hu, e1, e2, p1, p2⟩ := hI.split c
  have hK : krn c H = (H.drop u).map (List.drop c) := by unfold krn; rw [e2]
  rw [hK]
  have hD := hI.rightD (m := M.length) rfl hu p2
  refine ⟨_, hD, fun y => ⟨fun h => ?_, fun h => ?_⟩⟩
  · induction h with
    | zero => exact ⟨fun j _ => cmb_zero M j, fun _ _ => rfl⟩
    | @step v r q _ hr ih =>
      obtain ⟨x, hx, rfl⟩ := List.mem_map.1 hr
      obtain ⟨s, hs, rfl⟩ := List.mem_map.1 hx
      obtain ⟨k, hk, rfl⟩ := List.getElem_of_mem hs
      have hk' : u + k < H.length := by simp at hk; omega
      rw [List.getElem_drop] at hx hr ⊢
      have hw := wide_span hM (h1 _ (List.mem_map.2 ⟨H[u + k], List.getElem_mem hk', rfl⟩))
      refine ⟨fun j hj => ?_, fun i hi => ?_⟩
      · rw [cmb_sub, ih.1 j hj]
        have e3 : vr (List.drop c H[u + k]) = fun i => vr H[u + k] (c + i) := by funext i; exact vr_drop _ _ _
        rw [e3, ← hw.1 j hj]
        have := hI.left (u + k) hk' j (by have := p2 (u + k) (by omega) hk'; omega)
        rw [eM_vr hk'] at this
        rw [this]; simp
      · simp only [Hnf.sub]
        rw [ih.2 i hi, vr_drop, hw.2 _ (by omega)]; simp
  · have hv : Span (latM (wideM M)) (fun j => if j < c then 0 else y (j - c)) := by
      refine span_wide hM (fun j hj => ?_) fun j hj => ?_
      · rw [if_pos hj]
        have e3 : (fun i => if c + i < c then (0 : Int) else y (c + i - c)) = y := by funext i; rw [if_neg (by omega), Nat.add_sub_cancel_left]
        rw [e3, h.1 j hj]
      · rw [if_neg (by omega)]; exact h.2 _ (by omega)
    have hH2 := hv.trans h2
    rw [← wps_rows hI.len] at hH2
    have ht := span_tail hI.ech hH2 u (by simp [wps, hI.len]; omega) (fun i hi h => by
      have hpi : ((wps ps H)[i]'h).1 = ps.getD i 0 := by
        have hil : i < ps.length := by rw [hI.len]; omega
        rw [getD_get hil]; simp [wps]
      rw [hpi, if_pos (p1 i hi)])
    have e3 : Hnf.rows ((wps ps H).drop u) = latM (H.drop u) := by
      have := wps_rows hI.len
      unfold Hnf.rows at this ⊢
      rw [List.map_drop, this]; simp [latM, List.map_drop]
    rw [e3] at ht
    have hsh := span_shift (c := c) (B := latM ((H.drop u).map (List.drop c))) (fun r hr => by
      obtain ⟨s, hs, rfl⟩ := List.mem_map.1 hr
      refine .mem (List.mem_map.2 ⟨s.drop c, List.mem_map.2 ⟨s, hs, rfl⟩, ?_⟩)
      funext j; exact vr_drop _ _ _) ht
    refine span_of_eq hsh fun j => ?_
    rw [if_neg (by omega), Nat.add_sub_cancel_left]
def solX (c : Nat) (H : Mx) (n : Nat) (b : List Int) : List Int := redX (krn c H) (negM ((solL c H n b).drop c))
theorem solX_length {c n : Nat} {H : Mx} {b : List Int} (hb : b.length = c) : (solX c H n b).length = n := by
  unfold solX
  rw [redX_length, negM_length, List.length_drop, solL_length, hb]; omega
theorem solX_cmb {c : Nat} {M H : Mx} {b : List Int} (hM : Rect c M) (hH : HnfOf (c + M.length) (wideM M) H) (hb : b.length = c) (hz : zeroL ((solL c H M.length b).take c)) : ∀ j, j < c → cmb M (vr (solX c H M.length b)) j = vr b j := by
  intro j hj
  obtain ⟨qs, hK, hS⟩ := krn_form hM hH
  have h0 : (negM ((solL c H M.length b).drop c)).length = M.length := by simp [hb]
  have hs := redX_span (krn c H) _ hK.rect h0
  have := ((hS _).1 hs).1 j hj
  rw [cmb_sub, sol_cmb hM hH hb hz j hj] at this
  unfold solX
  omega
end Go.Proofs.YtokjolmpdfmnbaaGreatDoor
