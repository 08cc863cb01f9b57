/- Part 8, beside the shared parts, of the proof of the claim: contracts and plain laws; no condition. -/
import Derived.Test.YtedlgnoiojcjaaaGreatDoorX07
import Derived.BigFrame
import Derived.Laws.Rows
set_option maxRecDepth 100000
namespace Go.Proofs.YtedlgnoiojcjaaaGreatDoor
open Go.RowKit Go.Sort
set_option maxHeartbeats 16000000 in
theorem shs_walk {w : World} {b : Int} {rv : Value} {Z : List (List Int)} {vals : Bool} {A B : Nat → Nat → Int} (hb : 0 ≤ b ∧ b ≤ 255) (hR : RowsA w rv Z) (hB : ∀ i t, 0 ≤ B i t ∧ B i t ≤ 255) {tt : Int} (htt : -9223372036854775808 ≤ tt ∧ tt ≤ 9223372036854775807) {sv : Value} {L : List (List UInt8 × List UInt8)} (hs : SzT w sv L) (hl64 : L.length ≤ 9223372036854775807) (hL : Laid w) :
    Calls Tryz.prog 4 #[planT b rv vals A B, .int .i64 tt, sv] w fun e w' => e = .returned (.bool true) ∧ Ext w w' := by
  have hkn := Lib.hid (fun W (hW : Ext w W) => known24_any (hL.ext hW))
  have hft := Lib.hid (fun W (hW : Ext w W) => fits24_any (b := b) (vals := vals) (A := A) (B := B) (hR.ext hW))
  have hmk := Lib.hid (fun W (hW : Ext w W) (h3 : Z.length ≤ 3) => make24_any (vals := vals) (A := A) hb (hR.ext hW) h3 hB (hL.ext hW))
  have HL := Lib.hid hL
  obtain ⟨cs, hcs⟩ : ∃ cs, Value.agg cs = planT b rv vals A B := ⟨_, rfl⟩
  have hsz : cs.size = 35 := by
    injection hcs with h
    rw [h]; rfl
  have hinf : (Tryz.prog.info? 32).map (·.size) = some cs.size := by rw [hsz]; kernel_rfl
  simp only [← hcs] at hft hmk ⊢
  clear hcs hsz hb hR hB
  have hX := (Ext.refl w).alloc (.cells cs 32)
  have hg : (w.alloc (.cells cs 32)).heap[w.heap.size]? = some (.cells cs 32 (0, 0)) := heap_alloc_new _ _
  have hlt0 : w.heap.size < (w.alloc (.cells cs 32)).heap.size := by simp
  have Hlg := Lib.hid (fun W (hW : Ext w W) => long_any (hs.ext hW) hl64)
  obtain ⟨sva, svc, rfl⟩ := szc_slice hs
  have Hs := Lib.hid hs
  obtain ⟨sva', gl, ol, svc', ev0, hcl0, hal0, hrl0⟩ := hs
  injection ev0 with ev1 ev2 ev3
  subst ev1 ev3
  have Hal := Lib.hid hal0
  have Hrl := Lib.hid hrl0
  clear hL ev2 hal0 hrl0
  by_cases hz3 : Z.length ≤ 3
  case neg =>
    simp only [decide_eq_false hz3] at hft
    clear hz3
    go_enter Tryz.func4, Tryz.ntmps4
    go_wp2_with fail
    refine (hkn.out _ hX).mono ?_
    rintro e W1 ⟨rfl, hE1⟩
    have hg1 := (hE1.block _ hlt0).trans hg
    have e1 := hX.trans hE1
    clear hg hE1 hlt0
    go_wp2_with (refine BigFrame.wpList_want (by rfl) fun K hK => wp_load_row 32 _ rfl w.heap.size rfl 32 cs (0, 0) _ hg1 Tryz.underlying32 rfl hinf (hK _ _ ?_))
    refine (hft.out _ e1).mono ?_
    rintro e W2 ⟨rfl, hE2⟩
    have hg2 := (hE2.block _ (Array.getElem?_eq_some_iff.1 hg1).1).trans hg1
    have e2 := e1.trans hE2
    clear hg1 hE2 hft
    go_wp2_with fail
    refine (hkn.out _ e2).mono ?_
    rintro e W9 ⟨rfl, hE9⟩
    go_wp2_with fail
    go_ret
    exact ⟨rfl, Ext.trans e2 hE9⟩
  simp only [decide_eq_true hz3] at hft
  have Hz3 := Lib.hid hz3
  clear hz3
  by_cases hlb : longB L = true
  case pos =>
    rw [hlb] at Hlg
    clear hlb
    go_enter Tryz.func4, Tryz.ntmps4
    go_wp2_with fail
    refine (hkn.out _ hX).mono ?_
    rintro e W1 ⟨rfl, hE1⟩
    have hg1 := (hE1.block _ hlt0).trans hg
    have e1 := hX.trans hE1
    clear hg hE1 hlt0
    go_wp2_with (refine BigFrame.wpList_want (by rfl) fun K hK => wp_load_row 32 _ rfl w.heap.size rfl 32 cs (0, 0) _ hg1 Tryz.underlying32 rfl hinf (hK _ _ ?_))
    refine (hft.out _ e1).mono ?_
    rintro e W2 ⟨rfl, hE2⟩
    have hg2 := (hE2.block _ (Array.getElem?_eq_some_iff.1 hg1).1).trans hg1
    have e2 := e1.trans hE2
    clear hg1 hE2 hft
    go_wp2_with fail
    refine (Hlg.out _ e2).mono ?_
    rintro e W3 ⟨rfl, hE3⟩
    have e3 := e2.trans hE3
    go_wp2_with fail
    refine (hkn.out _ e3).mono ?_
    rintro e W9 ⟨rfl, hE9⟩
    go_wp2_with fail
    go_ret
    exact ⟨rfl, Ext.trans e3 hE9⟩
  have hlb2 : longB L = false := by simpa using hlb
  rw [hlb2] at Hlg
  have Hb40 := Lib.hid (longB_no hlb2).1
  have hl8 := (longB_no hlb2).2
  clear hlb hlb2
  go_enter Tryz.func4, Tryz.ntmps4
  go_wp2_with fail
  refine (hkn.out _ hX).mono ?_
  rintro e W1 ⟨rfl, hE1⟩
  have hg1 := (hE1.block _ hlt0).trans hg
  have e1 := hX.trans hE1
  clear hg hE1 hlt0
  go_wp2_with (refine BigFrame.wpList_want (by rfl) fun K hK => wp_load_row 32 _ rfl w.heap.size rfl 32 cs (0, 0) _ hg1 Tryz.underlying32 rfl hinf (hK _ _ ?_))
  refine (hft.out _ e1).mono ?_
  rintro e W2 ⟨rfl, hE2⟩
  have hg2 := (hE2.block _ (Array.getElem?_eq_some_iff.1 hg1).1).trans hg1
  have e2 := e1.trans hE2
  clear hg1 hE2 hft
  go_wp2_with fail
  refine (Hlg.out _ e2).mono ?_
  rintro e W3 ⟨rfl, hE3⟩
  have hg3 := (hE3.block _ (Array.getElem?_eq_some_iff.1 hg2).1).trans hg2
  have e3 := e2.trans hE3
  clear hg2 hE3 hkn Hlg e2 e1 hX
  go_wp2_with fail
  go_loopw [7] (fun iv wr => ∃ i : Nat, i ≤ L.length ∧ iv = .int .i64 i ∧ Ext W3 wr) (fun iv _ => L.length - (intOf iv).toNat)
  case atStart => exact ⟨0, by omega, by go_num, Ext.refl _⟩
  case round =>
    obtain ⟨i, hi, rfl, hE⟩ := hrel
    generalize wr = W4 at *
    have e4' := e3.trans hE
    by_cases hlt : i < L.length
    · have hii : (i : Int) < (L.length : Int) := by omega
      obtain rfl := Hal.out (by omega)
      obtain ⟨k0, k1⟩ := Hrl.out i hlt
      have c0 := e4'.cell k0
      have c1 := e4'.cell k1
      generalize L[i].1 = p at *
      generalize L[i].2 = q at *
      clear k0 k1
      by_cases h1 : 28 < p.length
      · have h1I : (28 : Int) < (p.length : Int) := by omega
        clear h1
        go_wp2_with fail
        go_ret
        exact ⟨rfl, e4'⟩
      · have h1I : ¬ (28 : Int) < (p.length : Int) := by omega
        by_cases h2 : 24 < q.length
        · have h2I : (24 : Int) < (q.length : Int) := by omega
          clear h1 h2
          go_wp2_with fail
          go_ret
          exact ⟨rfl, e4'⟩
        · have h2I : ¬ (24 : Int) < (q.length : Int) := by omega
          clear h1 h2
          go_wp2_with fail
          go_roundw
          case rel => exact ⟨i + 1, by omega, by go_num, hE⟩
          case measure => simp [intOf] <;> omega
    · obtain rfl : i = L.length := by omega
      have hii : ¬ (L.length : Int) < (L.length : Int) := by omega
      have hg4 := (hE.block _ (Array.getElem?_eq_some_iff.1 hg3).1).trans hg3
      clear hlt hi hg3 hE e3
      go_wp2_with (refine wpList_load_row rfl 32 _ rfl w.heap.size rfl 32 cs (0, 0) _ hg4 Tryz.underlying32 rfl hinf ?_)
      refine (hmk.out _ e4' Hz3.out).mono ?_
      rintro e W3 ⟨t, C, M, rfl, hT, hE3⟩
      obtain ⟨sp, cp, sc, lc, cc, sm, lm, cm, sg, lg, cg, rfl, hT⟩ := hT
      have e3 := e4'.trans hE3
      have ea := (Ext.refl W3).alloc (.cells #[.slice sp (prL b).length cp, .slice sc lc cc, .slice sm lm cm, .slice sg lg cg] 44)
      have x0 : (W3.alloc (.cells #[.slice sp (prL b).length cp, .slice sc lc cc, .slice sm lm cm, .slice sg lg cg] 44)).cell? ⟨W3.heap.size, 0, none⟩ = some (.slice sp (prL b).length cp) := by go_simp
      have x1 : (W3.alloc (.cells #[.slice sp (prL b).length cp, .slice sc lc cc, .slice sm lm cm, .slice sg lg cg] 44)).cell? ⟨W3.heap.size, 1, none⟩ = some (.slice sc lc cc) := by go_simp
      have x2 : (W3.alloc (.cells #[.slice sp (prL b).length cp, .slice sc lc cc, .slice sm lm cm, .slice sg lg cg] 44)).cell? ⟨W3.heap.size, 2, none⟩ = some (.slice sm lm cm) := by go_simp
      have x3 : (W3.alloc (.cells #[.slice sp (prL b).length cp, .slice sc lc cc, .slice sm lm cm, .slice sg lg cg] 44)).cell? ⟨W3.heap.size, 3, none⟩ = some (.slice sg lg cg) := by go_simp
      have HT := Lib.hid (hT.ext ea)
      have e4 := e3.trans ea
      clear hmk hg4 hT ea e3 hE3 e4' hinf
      go_wp2_with fail
      generalize W3.alloc (.cells #[.slice sp (prL b).length cp, .slice sc lc cc, .slice sm lm cm, .slice sg lg cg] 44) = X at *
      generalize W3.heap.size = b5 at *
      have hln := HT.out.gn.len
      have hgt := Lib.hid (fun (l : List Rat) (hl : l ∈ mkG A B (prL b).length M.length) => (mkG_tw l hl).2)
      generalize mkG A B (prL b).length M.length = G at *
      generalize prL b = P at *
      subst hln
      have hp4 := HT.out.tm.ok.p4
      have hg4 : G.length ≤ 4 := by have := HT.out.tm.m4; have := HT.out.ln; omega
      have Hb6 := Lib.hid (fun p (hp : p ∈ L) => show p.1.length ≤ 1000000 ∧ p.2.length ≤ 1000000 by have := Hb40.out p hp; omega)
      have Hsh := Lib.hid (tuShift_any (t := tt) HT.out (Hs.out.ext e4) Hb6.out (HL.out.ext e4))
      have Hsc := Lib.hid (fun W (hW : Ext X W) => szCheck_txt (pa := sp) (np := P.length) (cp := cp) (fun W2 h2 => (HT.out.tm.ext hW).pchk W2 h2) (Hs.out.ext (e4.trans hW)) Hb6.out (by omega) (HL.out.ext (e4.trans hW)))
      refine Hsh.out.mono ?_
      rintro e Y (⟨hq, rfl, hE1⟩ | ⟨h0, h1, hz, rfl, hE1⟩ | ⟨h0, h1, hz, q, hLq, hql, hqs, hmd⟩)
      · clear Hsc Hsh
        replace x0 := hE1.cell x0
        replace x1 := hE1.cell x1
        replace x2 := hE1.cell x2
        replace x3 := hE1.cell x3
        by_cases ht0 : tt < 0
        · clear hq
          have eAp := (Ext.refl Y).alloc (.cells #[.slice none 0 0, .slice none 0 0, .slice none 0 0, .slice none 0 0] 44)
          have yx0 := eAp.cell x0
          have yx1 := eAp.cell x1
          have yx2 := eAp.cell x2
          have yx3 := eAp.cell x3
          have p0 : (Y.alloc (.cells #[.slice none 0 0, .slice none 0 0, .slice none 0 0, .slice none 0 0] 44)).cell? ⟨Y.heap.size, 0, none⟩ = some (.slice none 0 0) := by go_simp
          have p1 : (Y.alloc (.cells #[.slice none 0 0, .slice none 0 0, .slice none 0 0, .slice none 0 0] 44)).cell? ⟨Y.heap.size, 1, none⟩ = some (.slice none 0 0) := by go_simp
          have p2 : (Y.alloc (.cells #[.slice none 0 0, .slice none 0 0, .slice none 0 0, .slice none 0 0] 44)).cell? ⟨Y.heap.size, 2, none⟩ = some (.slice none 0 0) := by go_simp
          have p3 : (Y.alloc (.cells #[.slice none 0 0, .slice none 0 0, .slice none 0 0, .slice none 0 0] 44)).cell? ⟨Y.heap.size, 3, none⟩ = some (.slice none 0 0) := by go_simp
          have ep := hE1.trans eAp
          go_wp2_with fail
          clear x0 x1 x2 x3 eAp
          have x0 := yx0
          clear yx0
          have x1 := yx1
          clear yx1
          have x2 := yx2
          clear yx2
          have x3 := yx3
          clear yx3
          generalize Y.alloc (.cells #[.slice none 0 0, .slice none 0 0, .slice none 0 0, .slice none 0 0] 44) = Xp at *
          generalize Y.heap.size = bp at *
          refine blankZ_any.mono ?_
          rintro e W9 ⟨rfl, hE9⟩
          go_wp2_with fail
          go_ret
          exact ⟨rfl, e4.trans (ep.trans hE9)⟩
        · have htg : (G.length : Int) ≤ tt := by omega
          clear hq
          have eAp := (Ext.refl Y).alloc (.cells #[.slice none 0 0, .slice none 0 0, .slice none 0 0, .slice none 0 0] 44)
          have yx0 := eAp.cell x0
          have yx1 := eAp.cell x1
          have yx2 := eAp.cell x2
          have yx3 := eAp.cell x3
          have p0 : (Y.alloc (.cells #[.slice none 0 0, .slice none 0 0, .slice none 0 0, .slice none 0 0] 44)).cell? ⟨Y.heap.size, 0, none⟩ = some (.slice none 0 0) := by go_simp
          have p1 : (Y.alloc (.cells #[.slice none 0 0, .slice none 0 0, .slice none 0 0, .slice none 0 0] 44)).cell? ⟨Y.heap.size, 1, none⟩ = some (.slice none 0 0) := by go_simp
          have p2 : (Y.alloc (.cells #[.slice none 0 0, .slice none 0 0, .slice none 0 0, .slice none 0 0] 44)).cell? ⟨Y.heap.size, 2, none⟩ = some (.slice none 0 0) := by go_simp
          have p3 : (Y.alloc (.cells #[.slice none 0 0, .slice none 0 0, .slice none 0 0, .slice none 0 0] 44)).cell? ⟨Y.heap.size, 3, none⟩ = some (.slice none 0 0) := by go_simp
          have ep := hE1.trans eAp
          go_wp2_with fail
          clear x0 x1 x2 x3 eAp
          have x0 := yx0
          clear yx0
          have x1 := yx1
          clear yx1
          have x2 := yx2
          clear yx2
          have x3 := yx3
          clear yx3
          generalize Y.alloc (.cells #[.slice none 0 0, .slice none 0 0, .slice none 0 0, .slice none 0 0] 44) = Xp at *
          generalize Y.heap.size = bp at *
          refine blankZ_any.mono ?_
          rintro e W9 ⟨rfl, hE9⟩
          go_wp2_with fail
          go_ret
          exact ⟨rfl, e4.trans (ep.trans hE9)⟩
      · clear Hsh
        replace x0 := hE1.cell x0
        replace x1 := hE1.cell x1
        replace x2 := hE1.cell x2
        replace x3 := hE1.cell x3
        have ht0 : ¬ tt < 0 := by omega
        have htg : ¬ (G.length : Int) ≤ tt := by omega
        obtain ⟨z, hzz⟩ : ∃ z, z = szEA P.length L := ⟨_, rfl⟩
        rw [← hzz] at hz Hsc ⊢
        have h2 : (z == 0) = false := beq_eq_false_iff_ne.2 hz
        have h3 : (z != 0) = true := by simp [bne, h2]
        clear hz hzz h0 h1
        have eAp := (Ext.refl Y).alloc (.cells #[.slice none 0 0, .slice none 0 0, .slice none 0 0, .slice none 0 0] 44)
        have yx0 := eAp.cell x0
        have yx1 := eAp.cell x1
        have yx2 := eAp.cell x2
        have yx3 := eAp.cell x3
        have p0 : (Y.alloc (.cells #[.slice none 0 0, .slice none 0 0, .slice none 0 0, .slice none 0 0] 44)).cell? ⟨Y.heap.size, 0, none⟩ = some (.slice none 0 0) := by go_simp
        have p1 : (Y.alloc (.cells #[.slice none 0 0, .slice none 0 0, .slice none 0 0, .slice none 0 0] 44)).cell? ⟨Y.heap.size, 1, none⟩ = some (.slice none 0 0) := by go_simp
        have p2 : (Y.alloc (.cells #[.slice none 0 0, .slice none 0 0, .slice none 0 0, .slice none 0 0] 44)).cell? ⟨Y.heap.size, 2, none⟩ = some (.slice none 0 0) := by go_simp
        have p3 : (Y.alloc (.cells #[.slice none 0 0, .slice none 0 0, .slice none 0 0, .slice none 0 0] 44)).cell? ⟨Y.heap.size, 3, none⟩ = some (.slice none 0 0) := by go_simp
        have ep := hE1.trans eAp
        go_wp2_with fail
        clear x0 x1 x2 x3 eAp
        have x0 := yx0
        clear yx0
        have x1 := yx1
        clear yx1
        have x2 := yx2
        clear yx2
        have x3 := yx3
        clear yx3
        generalize Y.alloc (.cells #[.slice none 0 0, .slice none 0 0, .slice none 0 0, .slice none 0 0] 44) = Xp at *
        generalize Y.heap.size = bp at *
        refine (Hsc.out _ ep).mono ?_
        rintro e W8 ⟨rfl, hE8⟩
        have e8 := ep.trans hE8
        replace x0 := hE8.cell x0
        replace x1 := hE8.cell x1
        replace x2 := hE8.cell x2
        replace x3 := hE8.cell x3
        replace p0 := hE8.cell p0
        replace p1 := hE8.cell p1
        replace p2 := hE8.cell p2
        replace p3 := hE8.cell p3
        clear hE8 Hsc
        go_wp2_with fail
        refine blankZ_any.mono ?_
        rintro e W9 ⟨rfl, hE9⟩
        go_wp2_with fail
        go_ret
        exact ⟨rfl, e4.trans (e8.trans hE9)⟩
      · clear Hsh
        rw [hz] at Hsc
        obtain ⟨i, rfl⟩ := Int.eq_ofNat_of_zero_le h0
        have hin : i < G.length := by omega
        have ht0 : ¬ (i : Int) < 0 := by omega
        have htg : ¬ (G.length : Int) ≤ (i : Int) := by omega
        have hLl : L.length = P.length := by rw [hLq]; simpa [txQ] using hql
        have Hql := Lib.hid hql
        have Hqs := Lib.hid hqs
        have hsr := Hs.out
        rw [show (.slice sva L.length svc : Value) = .slice sva P.length svc by rw [hLl]] at hsr ⊢
        rw [hLq] at hsr
        have Hsr := Lib.hid hsr.rat
        have Hset := Lib.hid (shfG_set (q := q) HT.out.cl hin)
        have Herr := Lib.hid (shf_err (q := q) HT.out.cl HT.out.sh hin)
        rw [show (.slice sva L.length svc : Value) = .slice sva P.length svc by rw [hLl]] at Hsc
        clear hLq hsr hz h0 h1 hl8 hl64 hcl0 Hal Hrl Hb6 Hb40 htt Hs
        rw [hLl]
        clear hLl hql hqs
        obtain ⟨hE1, hmd⟩ := hmd
        replace x0 := hE1.cell x0
        replace x1 := hE1.cell x1
        replace x2 := hE1.cell x2
        replace x3 := hE1.cell x3
        rcases hmd with ⟨hall, t, rfl, hTR⟩ | ⟨hno, rfl⟩
        · obtain ⟨tsp, tcp, tsc, tlc, tcc, tsm, tlm, tcm, tsg, tlg, tcg, rfl, hTV⟩ := hTR
          have htl := hTV.gn.len
          rw [shfG_length] at htl
          subst htl
          have HTu := Lib.hid hTV
          have H0 := Lib.hid (Herr.out.1 hall)
          clear hTV hall Herr
          have eAp := (Ext.refl Y).alloc (.cells #[.slice tsp P.length tcp, .slice tsc tlc tcc, .slice tsm tlm tcm, .slice tsg G.length tcg] 44)
          have yx0 := eAp.cell x0
          have yx1 := eAp.cell x1
          have yx2 := eAp.cell x2
          have yx3 := eAp.cell x3
          have p0 : (Y.alloc (.cells #[.slice tsp P.length tcp, .slice tsc tlc tcc, .slice tsm tlm tcm, .slice tsg G.length tcg] 44)).cell? ⟨Y.heap.size, 0, none⟩ = some (.slice tsp P.length tcp) := by go_simp
          have p1 : (Y.alloc (.cells #[.slice tsp P.length tcp, .slice tsc tlc tcc, .slice tsm tlm tcm, .slice tsg G.length tcg] 44)).cell? ⟨Y.heap.size, 1, none⟩ = some (.slice tsc tlc tcc) := by go_simp
          have p2 : (Y.alloc (.cells #[.slice tsp P.length tcp, .slice tsc tlc tcc, .slice tsm tlm tcm, .slice tsg G.length tcg] 44)).cell? ⟨Y.heap.size, 2, none⟩ = some (.slice tsm tlm tcm) := by go_simp
          have p3 : (Y.alloc (.cells #[.slice tsp P.length tcp, .slice tsc tlc tcc, .slice tsm tlm tcm, .slice tsg G.length tcg] 44)).cell? ⟨Y.heap.size, 3, none⟩ = some (.slice tsg G.length tcg) := by go_simp
          have ep := hE1.trans eAp
          replace HTu := Lib.hid (HTu.out.ext eAp)
          go_wp2_with fail
          clear x0 x1 x2 x3 eAp
          have x0 := yx0
          clear yx0
          have x1 := yx1
          clear yx1
          have x2 := yx2
          clear yx2
          have x3 := yx3
          clear yx3
          generalize Y.alloc (.cells #[.slice tsp P.length tcp, .slice tsc tlc tcc, .slice tsm tlm tcm, .slice tsg G.length tcg] 44) = Xp at *
          generalize Y.heap.size = bp at *
          refine (Hsc.out _ ep).mono ?_
          rintro e W8 ⟨rfl, hE8⟩
          have e8 := ep.trans hE8
          replace x0 := hE8.cell x0
          replace x1 := hE8.cell x1
          replace x2 := hE8.cell x2
          replace x3 := hE8.cell x3
          replace p0 := hE8.cell p0
          replace p1 := hE8.cell p1
          replace p2 := hE8.cell p2
          replace p3 := hE8.cell p3
          replace HTu := Lib.hid (HTu.out.ext hE8)
          clear hE8 Hsc
          have HO12 := own4 W8 44 (.slice sp P.length cp) (.slice sc lc cc) (.slice sm lm cm) (.slice sg G.length cg)
          have eB := (Ext.refl W8).alloc (.cells #[.slice sp P.length cp, .slice sc lc cc, .slice sm lm cm, .slice sg G.length cg] 44)
          have Wx0 := Lib.hid x0
          have Wx1 := Lib.hid x1
          have Wx2 := Lib.hid x2
          have Wx3 := Lib.hid x3
          have Wp0 := Lib.hid p0
          have Wp1 := Lib.hid p1
          have Wp2 := Lib.hid p2
          have Wp3 := Lib.hid p3
          have HTW := Lib.hid (HT.out.ext e8)
          go_upto_region 17 with fail
          replace x0 := eB.cell x0
          replace x1 := eB.cell x1
          replace x2 := eB.cell x2
          replace x3 := eB.cell x3
          replace p0 := eB.cell p0
          replace p1 := eB.cell p1
          replace p2 := eB.cell p2
          replace p3 := eB.cell p3
          have hDs : (W8.alloc (.cells #[.slice sp P.length cp, .slice sc lc cc, .slice sm lm cm, .slice sg G.length cg] 44)).heap.size = W8.heap.size + 1 := by simp
          generalize W8.alloc (.cells #[.slice sp P.length cp, .slice sc lc cc, .slice sm lm cm, .slice sg G.length cg] 44) = D at *
          have HO12 := Lib.hid HO12
          have HDs := Lib.hid hDs
          have HeB := Lib.hid eB
          obtain ⟨b12, hb12⟩ : ∃ b, b = W8.heap.size := ⟨_, rfl⟩
          rw [← hb12] at HO12 HDs ⊢
          have Hb12 := Lib.hid hb12
          clear hb12 hDs
          have Hcl := Lib.hid HT.out.cl
          have HTsh := Lib.hid HT.out.sh
          obtain ⟨sg1, ga, oa, cga, va, ev, hca, hvA, hSa, hrA⟩ := HT.out.gn
          injection ev with ev1 ev2 ev3
          subst ev1 ev3
          have HvA := Lib.hid hvA
          have HSA := Lib.hid hSa
          have HrA := Lib.hid hrA
          have haa := hSa.addr (by omega)
          subst haa
          obtain ⟨s0, hs, hy0, hy1, hy2⟩ := info_parts Tryz.infoSz
          have eZ := (Ext.refl D).alloc (.cells #[] 52)
          have HNews := Lib.hid (show ∀ (j : Nat) (u : Value), va[j]? = some u → (D.alloc (.cells #[] 52)).cell? ((⟨ga, oa, none⟩ : Addr).add j) = some u from fun j u hj => by
            have h2 := (e8.trans (eB.trans eZ)).cell (hSa.cell j u hj)
            simpa [Addr.add_lit] using h2)
          have HOne := Lib.hid (show ∀ u ∈ va, u.oneCell' = true from fun u hu => by
            obtain ⟨j, hj, rfl⟩ := List.getElem_of_mem hu
            obtain ⟨xa, xc, ex⟩ := szR_slc (hrA j (by omega) hj)
            rw [ex]; rfl)
          have HOe := Lib.hid (show OwnV 52 D.heap.size (D.alloc (.cells #[] 52)) D.heap.size 0 [] from OwnV.of (Nat.le_refl _) Array.getElem?_push_size (Nat.le_refl _) (Nat.zero_le _) rfl rfl)
          have HgetD := Lib.hid (show G.getD i [] = G[i] by rw [List.getD_eq_getElem?_getD, List.getElem?_eq_getElem hin, Option.getD_some])
          have x3z := eZ.cell x3
          clear ev2 hSa hrA eB
          go_wp2_with (at_builtin; (refine wpList_append_lies _ rfl _ _ 42 rfl D.heap.size 52 s0 _ 1 24 Tryz.underlying42 hs hy0 hy1 hy2 rfl (by omega) (slv D.heap.size 0 0) 0 [] rfl HOe.out ⟨ga, oa, none⟩ G.length cg va rfl (by omega) HNews.out HOne.out (by omega) (by unfold maxLen; omega) (by omega) (by simp) (D.heap.size + 1) (by simp) ?_; intro gg cap6 w6 hown6 hgrow6 hat6 hlt6; have hE6 : Ext D w6 := Ext.mk' (Below.grown eZ hgrow6 eZ.size (fun q hq => (World.ownsRow.lt HOe.out q hq).1)); have HO6 := Lib.hid (HO12.out.ext hE6); have e0 := HO6.out.cell (j := 3) (by simp); simp only [List.getElem_cons_zero, List.getElem_cons_succ] at e0; have f0 := HO6.out.frozen 3; have HG6 := Lib.hid (show OwnV 52 D.heap.size w6 gg cap6 va by unfold OwnV; rw [HvA.out]; simpa using hown6); have HE6 := Lib.hid hE6; rw [Nat.zero_add]; clear hown6 hgrow6 hat6 hlt6 hE6))
          obtain ⟨h12, g12⟩ := OwnV.set HO6.out 3 (slv gg G.length cap6)
          simp only [List.set_cons_zero, List.set_cons_succ] at h12
          have hgB := HG6.out.lt
          have HG7 := Lib.hid (ownV_off HG6.out g12 (by have := HDs.out; omega))
          have E7 := Lib.hid (show Ext W8 (w6.setCell ⟨b12, 3, none⟩ (slv gg G.length cap6)) from ext_trans_grown (HeB.out.trans HE6.out) g12 (by have := Hb12.out; omega))
          have H12 := Lib.hid h12
          have q0 := h12.cell (j := 0) (by simp)
          have q1 := h12.cell (j := 1) (by simp)
          have q2 := h12.cell (j := 2) (by simp)
          have q3 := h12.cell (j := 3) (by simp)
          simp only [List.getElem_cons_zero, List.getElem_cons_succ] at q0 q1 q2 q3
          have Hgg := Lib.hid (show b12 < gg by have := HDs.out; omega)
          clear x3z x0 x1 x2 x3 p0 p1 p2 p3 h12 g12 hgB e0 f0 HO6 HG6 HE6 HNews HOne HOe eZ hs hy0 hy1 hy2
          try go_wp2_with fail
          generalize w6.setCell ⟨b12, 3, none⟩ (slv gg G.length cap6) = V1 at *
          have x0 := E7.out.cell Wx0.out
          have x1 := E7.out.cell Wx1.out
          have x2 := E7.out.cell Wx2.out
          have x3 := E7.out.cell Wx3.out
          have p0 := E7.out.cell Wp0.out
          have p1 := E7.out.cell Wp1.out
          have p2 := E7.out.cell Wp2.out
          have p3 := E7.out.cell Wp3.out
          have e9 := Lib.hid ((e4.trans e8).trans E7.out)
          have c0 := (e8.trans E7.out).cell (HSA.out.cell i _ (List.getElem?_eq_getElem (show i < va.length by rw [HvA.out]; exact hin)))
          have hsA := (HrA.out i hin (by rw [HvA.out]; exact hin)).ext (e8.trans E7.out)
          obtain ⟨xa, xc, ex⟩ := szR_slc hsA
          rw [ex, Hcl.out _ (List.getElem_mem hin)] at c0 hsA
          have HsA := Lib.hid hsA
          have HsQ := Lib.hid (Hsr.out.ext ((e4.trans e8).trans E7.out))
          have Hsl := Lib.hid (HTsh.out _ (List.getElem_mem hin))
          have Hcll := Lib.hid (Hcl.out _ (List.getElem_mem hin))
          rw [HgetD.out] at Hset
          obtain ⟨l, hle⟩ : ∃ l, l = G[i] := ⟨_, rfl⟩
          rw [← hle] at HsA Hsl Hcll Hset
          have Hle := Lib.hid hle
          have HE := Lib.hid (show szE (cmbQ [l, q] [1, 1] P.length) = 0 by have := H0.out; rwa [HgetD.out, ← hle] at this)
          have hii : (i : Int) < (G.length : Int) := by omega
          have Hw1 := Lib.hid (fun W (hW : Ext V1 W) => whole24_any (n := 1) (by omega) (HL.out.ext (e9.out.trans hW)))
          rw [RV_one] at Hw1
          have Hcm := Lib.hid (fun W v fv (hW : Ext V1 W) (hv : GnR W v [l, q]) (hfv : SzR W fv [1, 1]) => combine24_any (np := P.length) hv hfv (fun s hs => by
            simp only [List.mem_cons, List.not_mem_nil, or_false] at hs
            rcases hs with rfl | rfl
            · exact Hcll.out
            · exact Hql.out) (by simp) (fun s hs => by
            simp only [List.mem_cons, List.not_mem_nil, or_false] at hs
            rcases hs with rfl | rfl
            · exact shQ_nd Hsl.out (by omega)
            · exact shQ_nd Hqs.out (by omega)) (fun r hr => by
            simp only [List.mem_cons, List.not_mem_nil, or_false] at hr
            rcases hr with rfl | rfl
            · exact NdQ.one (by omega)
            · exact NdQ.one (by omega)) (by omega) (by simp) (HL.out.ext (e9.out.trans hW)))
          clear hsA ex hle
          go_wp2_with fail
          go_cut [] from 85 to 101 (fun wx => ∃ gq, Hid (Ext W8 wx) ∧ Hid (OwnV 44 b12 wx b12 4 [.slice sp P.length cp, .slice sc lc cc, .slice sm lm cm, slv gg G.length cap6]) ∧ Hid (OwnV 52 D.heap.size wx gg cap6 (va.set i (slv gq P.length P.length))) ∧ Hid (SzV 0 wx (slv gq P.length P.length) (cmbQ [l, q] [1, 1] P.length)))
          case first =>
           have d0 : Ext V1 V1.drew := (Ext.refl V1).drew
           refine wp_region_held_tail (S := fun W => Ext V1 W) 16 (by kernel_rfl) (by simp) ?_
           intro inv
           generalize V1.drew = V2 at *
           refine tkS (i := 0) (v := .pointer (some ⟨b12, 3, none⟩)) rfl d0 inv ?_
           intro inv
           go_simp
           refine tkA (i := 1) (v := slv gg G.length cap6) rfl (.inl ⟨by rfl, fun W hW => by have z7 := hW.cell q3; go_simp⟩) d0 inv ?_
           intro inv
           go_simp
           refine tkS (i := 2) (v := .int .i64 i) rfl d0 inv ?_
           intro inv
           go_simp
           refine tkS (i := 3) (v := .pointer (some ⟨b5, 3, none⟩)) rfl d0 inv ?_
           intro inv
           go_simp
           refine tkA (i := 4) (v := .slice (some ⟨ga, oa, none⟩) G.length cg) rfl (.inl ⟨by rfl, fun W hW => by have z7 := hW.cell x3; go_simp⟩) d0 inv ?_
           intro inv
           go_simp
           refine tkS (i := 5) (v := .int .i64 i) rfl d0 inv ?_
           intro inv
           go_simp
           refine tkS (i := 6) (v := .pointer (some ⟨ga, oa + i, none⟩)) rfl d0 inv ?_
           intro inv
           go_simp
           refine tkA (i := 7) (v := .slice xa P.length xc) rfl (.inl ⟨by rfl, fun W hW => by have z7 := hW.cell c0; go_simp⟩) d0 inv ?_
           intro inv
           go_simp
           refine tkS (i := 8) (v := .slice sva P.length svc) rfl d0 inv ?_
           intro inv
           go_simp
           refine tkS (i := 13) (v := .slice sva P.length svc) rfl d0 inv ?_
           intro inv
           go_simp
           refine tkS (i := 14) (v := .int .i64 P.length) rfl d0 inv ?_
           intro inv
           go_simp
           refine wpAnyLH_twoII (i := 9) (j := 10) rfl rfl (by kernel_rfl) inv (fun inv K0 hK0 => ?_) (fun inv K0 hK0 => ?_)
           · go_simp
             have t1 : Ext V1 (V2.alloc (.cells #[.slice xa P.length xc, .slice sva P.length svc] 52)) := d0.alloc (.cells #[.slice xa P.length xc, .slice sva P.length svc] 52)
             have HGn := Lib.hid (show GnR (V2.alloc (.cells #[.slice xa P.length xc, .slice sva P.length svc] 52)) (.slice (some ⟨V2.heap.size, 0, none⟩) 2 2) [l, q] from gn2N (by go_simp) (by go_simp) (HsA.out.ext t1) (HsQ.out.ext t1))
             refine hK0 _ _ t1 ?_
             clear hK0
             generalize hT1 : V2.alloc (.cells #[.slice xa P.length xc, .slice sva P.length svc] 52) = T1 at *
             clear hT1
             refine wpAnyLH_oneI (i := 10) rfl (by kernel_rfl) inv (fun inv K0 hK0 => ?_)
             go_simp
             refine (Hw1.out _ t1).mono ?_
             rintro e T2 ⟨rfl, hT2⟩
             have t2 := t1.trans hT2
             replace HGn := Lib.hid (HGn.out.ext hT2)
             refine hK0 _ _ t2 ?_
             clear hK0
             refine wpAnyLH_oneI (i := 11) rfl (by kernel_rfl) inv (fun inv K0 hK0 => ?_)
             go_simp
             refine (Hw1.out _ t2).mono ?_
             rintro e T3 ⟨rfl, hT3⟩
             have t3 := t2.trans hT3
             replace HGn := Lib.hid (HGn.out.ext hT3)
             refine hK0 _ _ t3 ?_
             clear hK0
             refine wpAnyLH_oneI (i := 12) rfl (by kernel_rfl) inv (fun inv K0 hK0 => ?_)
             go_simp
             have t4 : Ext V1 (T3.alloc (.cells #[.string ⟨#[49]⟩, .string ⟨#[49]⟩, .string ⟨#[49]⟩, .string ⟨#[49]⟩] 63)) := t3.alloc (.cells #[.string ⟨#[49]⟩, .string ⟨#[49]⟩, .string ⟨#[49]⟩, .string ⟨#[49]⟩] 63)
             have HSz := Lib.hid (show SzR (T3.alloc (.cells #[.string ⟨#[49]⟩, .string ⟨#[49]⟩, .string ⟨#[49]⟩, .string ⟨#[49]⟩] 63)) (.slice (some ⟨T3.heap.size, 0, none⟩) 2 2) [1, 1] from sz2M (by rw [I_one1.1]; go_simp) (by rw [I_one1.2]; go_simp) (by rw [I_one1.1]; go_simp) (by rw [I_one1.2]; go_simp))
             replace HGn := Lib.hid (HGn.out.ext ((Ext.refl _).alloc (.cells #[.string ⟨#[49]⟩, .string ⟨#[49]⟩, .string ⟨#[49]⟩, .string ⟨#[49]⟩] 63)))
             refine hK0 _ _ t4 ?_
             clear hK0
             generalize hT4 : T3.alloc (.cells #[.string ⟨#[49]⟩, .string ⟨#[49]⟩, .string ⟨#[49]⟩, .string ⟨#[49]⟩] 63) = T4 at *
             clear hT4
             refine wpAnyLH_oneI (i := 15) rfl (by kernel_rfl) inv (fun inv K0 hK0 => ?_)
             go_simp
             refine (Hcm.out _ _ _ t4 HGn.out HSz.out).mono ?_
             rintro e V3 ⟨⟨gq, rfl, hO⟩, hG3⟩
             have d2 := t4.trans hG3
             refine hK0 _ _ d2 ?_
             clear hK0
             refine wpAnyLH_end (by kernel_rfl) ?_
             have HG9 := Lib.hid (HG7.out.ext d2)
             have hgl := HG9.out.lt
             have c9 := HG9.out.cell (j := i) (by rw [HvA.out]; exact hin)
             have f9 := HG9.out.frozen i
             obtain ⟨hg9, g9⟩ := HG9.out.set i (slv gq P.length P.length)
             have E9 := Lib.hid (ext_trans_grown (E7.out.trans d2) g9 (by have := Hgg.out; have := Hb12.out; omega))
             have H129 := Lib.hid (ownV_off (H12.out.ext d2) g9 (by have := Hgg.out; omega))
             have HC9 := Lib.hid (show SzV 0 _ (slv gq P.length P.length) (cmbQ [l, q] [1, 1] P.length) from by
               have h1 := hO.val
               rw [cmbQ_length] at h1
               exact (h1.kept g9 (by have := d2.size; have := t4.size; have := HG7.out.lt; omega)).mono (Nat.zero_le _))
             have HGs := Lib.hid hg9
             clear hO hgl inv d0 d2 hG3 hg9 g9 c0 HGn HSz Hcm Hw1 HsA HsQ HG9 x0 x1 x2 x3 p0 p1 p2 p3 q0 q1 q2 q3
             go_wp2_with fail
             go_meet
             case rel => exact ⟨gq, E9, H129, HGs, HC9⟩
           · go_simp
             refine (Hw1.out _ d0).mono ?_
             rintro e T5 ⟨rfl, hT5⟩
             have t5 := d0.trans hT5
             refine hK0 _ _ t5 ?_
             clear hK0
             refine wpAnyLH_twoII (i := 9) (j := 11) rfl rfl (by kernel_rfl) inv (fun inv K0 hK0 => ?_) (fun inv K0 hK0 => ?_)
             · go_simp
               have t6 : Ext V1 (T5.alloc (.cells #[.slice xa P.length xc, .slice sva P.length svc] 52)) := t5.alloc (.cells #[.slice xa P.length xc, .slice sva P.length svc] 52)
               have HGn := Lib.hid (show GnR (T5.alloc (.cells #[.slice xa P.length xc, .slice sva P.length svc] 52)) (.slice (some ⟨T5.heap.size, 0, none⟩) 2 2) [l, q] from gn2N (by go_simp) (by go_simp) (HsA.out.ext t6) (HsQ.out.ext t6))
               refine hK0 _ _ t6 ?_
               clear hK0
               generalize hT6 : T5.alloc (.cells #[.slice xa P.length xc, .slice sva P.length svc] 52) = T6 at *
               clear hT6
               refine wpAnyLH_oneI (i := 11) rfl (by kernel_rfl) inv (fun inv K0 hK0 => ?_)
               go_simp
               refine (Hw1.out _ t6).mono ?_
               rintro e T7 ⟨rfl, hT7⟩
               have t7 := t6.trans hT7
               replace HGn := Lib.hid (HGn.out.ext hT7)
               refine hK0 _ _ t7 ?_
               clear hK0
               refine wpAnyLH_oneI (i := 12) rfl (by kernel_rfl) inv (fun inv K0 hK0 => ?_)
               go_simp
               have t8 : Ext V1 (T7.alloc (.cells #[.string ⟨#[49]⟩, .string ⟨#[49]⟩, .string ⟨#[49]⟩, .string ⟨#[49]⟩] 63)) := t7.alloc (.cells #[.string ⟨#[49]⟩, .string ⟨#[49]⟩, .string ⟨#[49]⟩, .string ⟨#[49]⟩] 63)
               have HSz := Lib.hid (show SzR (T7.alloc (.cells #[.string ⟨#[49]⟩, .string ⟨#[49]⟩, .string ⟨#[49]⟩, .string ⟨#[49]⟩] 63)) (.slice (some ⟨T7.heap.size, 0, none⟩) 2 2) [1, 1] from sz2M (by rw [I_one1.1]; go_simp) (by rw [I_one1.2]; go_simp) (by rw [I_one1.1]; go_simp) (by rw [I_one1.2]; go_simp))
               replace HGn := Lib.hid (HGn.out.ext ((Ext.refl _).alloc (.cells #[.string ⟨#[49]⟩, .string ⟨#[49]⟩, .string ⟨#[49]⟩, .string ⟨#[49]⟩] 63)))
               refine hK0 _ _ t8 ?_
               clear hK0
               generalize hT8 : T7.alloc (.cells #[.string ⟨#[49]⟩, .string ⟨#[49]⟩, .string ⟨#[49]⟩, .string ⟨#[49]⟩] 63) = T8 at *
               clear hT8
               refine wpAnyLH_oneI (i := 15) rfl (by kernel_rfl) inv (fun inv K0 hK0 => ?_)
               go_simp
               refine (Hcm.out _ _ _ t8 HGn.out HSz.out).mono ?_
               rintro e V3 ⟨⟨gq, rfl, hO⟩, hG3⟩
               have d2 := t8.trans hG3
               refine hK0 _ _ d2 ?_
               clear hK0
               refine wpAnyLH_end (by kernel_rfl) ?_
               have HG9 := Lib.hid (HG7.out.ext d2)
               have hgl := HG9.out.lt
               have c9 := HG9.out.cell (j := i) (by rw [HvA.out]; exact hin)
               have f9 := HG9.out.frozen i
               obtain ⟨hg9, g9⟩ := HG9.out.set i (slv gq P.length P.length)
               have E9 := Lib.hid (ext_trans_grown (E7.out.trans d2) g9 (by have := Hgg.out; have := Hb12.out; omega))
               have H129 := Lib.hid (ownV_off (H12.out.ext d2) g9 (by have := Hgg.out; omega))
               have HC9 := Lib.hid (show SzV 0 _ (slv gq P.length P.length) (cmbQ [l, q] [1, 1] P.length) from by
                 have h1 := hO.val
                 rw [cmbQ_length] at h1
                 exact (h1.kept g9 (by have := d2.size; have := t8.size; have := HG7.out.lt; omega)).mono (Nat.zero_le _))
               have HGs := Lib.hid hg9
               clear hO hgl inv d0 d2 hG3 hg9 g9 c0 HGn HSz Hcm Hw1 HsA HsQ HG9 x0 x1 x2 x3 p0 p1 p2 p3 q0 q1 q2 q3
               go_wp2_with fail
               go_meet
               case rel => exact ⟨gq, E9, H129, HGs, HC9⟩
             · go_simp
               refine (Hw1.out _ t5).mono ?_
               rintro e T9 ⟨rfl, hT9⟩
               have t9 := t5.trans hT9
               refine hK0 _ _ t9 ?_
               clear hK0
               refine wpAnyLH_twoII (i := 9) (j := 12) rfl rfl (by kernel_rfl) inv (fun inv K0 hK0 => ?_) (fun inv K0 hK0 => ?_)
               · go_simp
                 have t10 : Ext V1 (T9.alloc (.cells #[.slice xa P.length xc, .slice sva P.length svc] 52)) := t9.alloc (.cells #[.slice xa P.length xc, .slice sva P.length svc] 52)
                 have HGn := Lib.hid (show GnR (T9.alloc (.cells #[.slice xa P.length xc, .slice sva P.length svc] 52)) (.slice (some ⟨T9.heap.size, 0, none⟩) 2 2) [l, q] from gn2N (by go_simp) (by go_simp) (HsA.out.ext t10) (HsQ.out.ext t10))
                 refine hK0 _ _ t10 ?_
                 clear hK0
                 generalize hT10 : T9.alloc (.cells #[.slice xa P.length xc, .slice sva P.length svc] 52) = T10 at *
                 clear hT10
                 refine wpAnyLH_oneI (i := 12) rfl (by kernel_rfl) inv (fun inv K0 hK0 => ?_)
                 go_simp
                 have t11 : Ext V1 (T10.alloc (.cells #[.string ⟨#[49]⟩, .string ⟨#[49]⟩, .string ⟨#[49]⟩, .string ⟨#[49]⟩] 63)) := t10.alloc (.cells #[.string ⟨#[49]⟩, .string ⟨#[49]⟩, .string ⟨#[49]⟩, .string ⟨#[49]⟩] 63)
                 have HSz := Lib.hid (show SzR (T10.alloc (.cells #[.string ⟨#[49]⟩, .string ⟨#[49]⟩, .string ⟨#[49]⟩, .string ⟨#[49]⟩] 63)) (.slice (some ⟨T10.heap.size, 0, none⟩) 2 2) [1, 1] from sz2M (by rw [I_one1.1]; go_simp) (by rw [I_one1.2]; go_simp) (by rw [I_one1.1]; go_simp) (by rw [I_one1.2]; go_simp))
                 replace HGn := Lib.hid (HGn.out.ext ((Ext.refl _).alloc (.cells #[.string ⟨#[49]⟩, .string ⟨#[49]⟩, .string ⟨#[49]⟩, .string ⟨#[49]⟩] 63)))
                 refine hK0 _ _ t11 ?_
                 clear hK0
                 generalize hT11 : T10.alloc (.cells #[.string ⟨#[49]⟩, .string ⟨#[49]⟩, .string ⟨#[49]⟩, .string ⟨#[49]⟩] 63) = T11 at *
                 clear hT11
                 refine wpAnyLH_oneI (i := 15) rfl (by kernel_rfl) inv (fun inv K0 hK0 => ?_)
                 go_simp
                 refine (Hcm.out _ _ _ t11 HGn.out HSz.out).mono ?_
                 rintro e V3 ⟨⟨gq, rfl, hO⟩, hG3⟩
                 have d2 := t11.trans hG3
                 refine hK0 _ _ d2 ?_
                 clear hK0
                 refine wpAnyLH_end (by kernel_rfl) ?_
                 have HG9 := Lib.hid (HG7.out.ext d2)
                 have hgl := HG9.out.lt
                 have c9 := HG9.out.cell (j := i) (by rw [HvA.out]; exact hin)
                 have f9 := HG9.out.frozen i
                 obtain ⟨hg9, g9⟩ := HG9.out.set i (slv gq P.length P.length)
                 have E9 := Lib.hid (ext_trans_grown (E7.out.trans d2) g9 (by have := Hgg.out; have := Hb12.out; omega))
                 have H129 := Lib.hid (ownV_off (H12.out.ext d2) g9 (by have := Hgg.out; omega))
                 have HC9 := Lib.hid (show SzV 0 _ (slv gq P.length P.length) (cmbQ [l, q] [1, 1] P.length) from by
                   have h1 := hO.val
                   rw [cmbQ_length] at h1
                   exact (h1.kept g9 (by have := d2.size; have := t11.size; have := HG7.out.lt; omega)).mono (Nat.zero_le _))
                 have HGs := Lib.hid hg9
                 clear hO hgl inv d0 d2 hG3 hg9 g9 c0 HGn HSz Hcm Hw1 HsA HsQ HG9 x0 x1 x2 x3 p0 p1 p2 p3 q0 q1 q2 q3
                 go_wp2_with fail
                 go_meet
                 case rel => exact ⟨gq, E9, H129, HGs, HC9⟩
               · go_simp
                 have t12 : Ext V1 (T9.alloc (.cells #[.string ⟨#[49]⟩, .string ⟨#[49]⟩, .string ⟨#[49]⟩, .string ⟨#[49]⟩] 63)) := t9.alloc (.cells #[.string ⟨#[49]⟩, .string ⟨#[49]⟩, .string ⟨#[49]⟩, .string ⟨#[49]⟩] 63)
                 have HSz := Lib.hid (show SzR (T9.alloc (.cells #[.string ⟨#[49]⟩, .string ⟨#[49]⟩, .string ⟨#[49]⟩, .string ⟨#[49]⟩] 63)) (.slice (some ⟨T9.heap.size, 0, none⟩) 2 2) [1, 1] from sz2M (by rw [I_one1.1]; go_simp) (by rw [I_one1.2]; go_simp) (by rw [I_one1.1]; go_simp) (by rw [I_one1.2]; go_simp))
                 refine hK0 _ _ t12 ?_
                 clear hK0
                 generalize hT12 : T9.alloc (.cells #[.string ⟨#[49]⟩, .string ⟨#[49]⟩, .string ⟨#[49]⟩, .string ⟨#[49]⟩] 63) = T12 at *
                 clear hT12
                 refine wpAnyLH_oneI (i := 9) rfl (by kernel_rfl) inv (fun inv K0 hK0 => ?_)
                 go_simp
                 have t13 : Ext V1 (T12.alloc (.cells #[.slice xa P.length xc, .slice sva P.length svc] 52)) := t12.alloc (.cells #[.slice xa P.length xc, .slice sva P.length svc] 52)
                 have HGn := Lib.hid (show GnR (T12.alloc (.cells #[.slice xa P.length xc, .slice sva P.length svc] 52)) (.slice (some ⟨T12.heap.size, 0, none⟩) 2 2) [l, q] from gn2N (by go_simp) (by go_simp) (HsA.out.ext t13) (HsQ.out.ext t13))
                 replace HSz := Lib.hid (HSz.out.ext ((Ext.refl _).alloc (.cells #[.slice xa P.length xc, .slice sva P.length svc] 52)))
                 refine hK0 _ _ t13 ?_
                 clear hK0
                 generalize hT13 : T12.alloc (.cells #[.slice xa P.length xc, .slice sva P.length svc] 52) = T13 at *
                 clear hT13
                 refine wpAnyLH_oneI (i := 15) rfl (by kernel_rfl) inv (fun inv K0 hK0 => ?_)
                 go_simp
                 refine (Hcm.out _ _ _ t13 HGn.out HSz.out).mono ?_
                 rintro e V3 ⟨⟨gq, rfl, hO⟩, hG3⟩
                 have d2 := t13.trans hG3
                 refine hK0 _ _ d2 ?_
                 clear hK0
                 refine wpAnyLH_end (by kernel_rfl) ?_
                 have HG9 := Lib.hid (HG7.out.ext d2)
                 have hgl := HG9.out.lt
                 have c9 := HG9.out.cell (j := i) (by rw [HvA.out]; exact hin)
                 have f9 := HG9.out.frozen i
                 obtain ⟨hg9, g9⟩ := HG9.out.set i (slv gq P.length P.length)
                 have E9 := Lib.hid (ext_trans_grown (E7.out.trans d2) g9 (by have := Hgg.out; have := Hb12.out; omega))
                 have H129 := Lib.hid (ownV_off (H12.out.ext d2) g9 (by have := Hgg.out; omega))
                 have HC9 := Lib.hid (show SzV 0 _ (slv gq P.length P.length) (cmbQ [l, q] [1, 1] P.length) from by
                   have h1 := hO.val
                   rw [cmbQ_length] at h1
                   exact (h1.kept g9 (by have := d2.size; have := t13.size; have := HG7.out.lt; omega)).mono (Nat.zero_le _))
                 have HGs := Lib.hid hg9
                 clear hO hgl inv d0 d2 hG3 hg9 g9 c0 HGn HSz Hcm Hw1 HsA HsQ HG9 x0 x1 x2 x3 p0 p1 p2 p3 q0 q1 q2 q3
                 go_wp2_with fail
                 go_meet
                 case rel => exact ⟨gq, E9, H129, HGs, HC9⟩
          case rest =>
            obtain ⟨gq, E9, H129, HGs, HC9⟩ := hcut
            clear c0 Hcm Hw1 HsA HsQ x0 x1 x2 x3 p0 p1 p2 p3 q0 q1 q2 q3
            generalize wc = U at *
            have x0 := E9.out.cell Wx0.out
            have x1 := E9.out.cell Wx1.out
            have x2 := E9.out.cell Wx2.out
            have x3 := E9.out.cell Wx3.out
            have p0 := E9.out.cell Wp0.out
            have p1 := E9.out.cell Wp1.out
            have p2 := E9.out.cell Wp2.out
            have p3 := E9.out.cell Wp3.out
            have q0 := H129.out.cell (j := 0) (by simp)
            have q1 := H129.out.cell (j := 1) (by simp)
            have q2 := H129.out.cell (j := 2) (by simp)
            have q3 := H129.out.cell (j := 3) (by simp)
            simp only [List.getElem_cons_zero, List.getElem_cons_succ] at q0 q1 q2 q3
            have cU := HGs.out.cell (j := i) (by rw [List.length_set, HvA.out]; exact hin)
            rw [List.getElem_set_self] at cU
            have eXU := Lib.hid (e8.trans E9.out)
            have Hpp := Lib.hid (fun W (hW : Ext U W) => szCheck_all (pa := sp) (np := P.length) (cp := cp) (fun W2 h2 => (HT.out.tm.ext (eXU.out.trans hW)).pchk W2 h2) (HC9.out.read.ext hW) (by simp) (cmb_nd (E := 30) (F := 1) (fun s hs => by
              simp only [List.mem_cons, List.not_mem_nil, or_false] at hs
              rcases hs with rfl | rfl
              · exact shQ_nd Hsl.out (Nat.le_refl _)
              · exact shQ_nd Hqs.out (Nat.le_refl _)) (fun r hr => by
              simp only [List.mem_cons, List.not_mem_nil, or_false] at hr
              rcases hr with rfl | rfl <;> exact NdQ.one (by omega)) (by omega) (by omega) (by simp)) (by omega) (HL.out.ext ((e4.trans eXU.out).trans hW)))
            obtain ⟨z, hz⟩ : ∃ z, z = szE (cmbQ [l, q] [1, 1] P.length) := ⟨_, rfl⟩
            rw [← hz] at Hpp HE
            rw [HE.out] at Hpp
            clear hz
            try go_wp2_with fail
            have d0 : Ext U U.drew := (Ext.refl U).drew
            refine wp_region_held_tail (S := fun W => Ext U W) 9 (by kernel_rfl) (by simp) ?_
            intro inv
            generalize U.drew = U1 at *
            refine tkS (i := 0) (v := .pointer (some ⟨b5, 0, none⟩)) rfl d0 inv ?_
            intro inv
            go_simp
            refine tkS (i := 1) (v := .pointer (some ⟨b5, 0, none⟩)) rfl d0 inv ?_
            intro inv
            go_simp
            refine tkA (i := 2) (v := .slice sp P.length cp) rfl (.inl ⟨by rfl, fun W hW => by have z7 := hW.cell x0; go_simp⟩) d0 inv ?_
            intro inv
            go_simp
            refine tkS (i := 3) (v := .pointer (some ⟨b12, 3, none⟩)) rfl d0 inv ?_
            intro inv
            go_simp
            refine tkA (i := 4) (v := slv gg G.length cap6) rfl (.inl ⟨by rfl, fun W hW => by have z7 := hW.cell q3; go_simp⟩) d0 inv ?_
            intro inv
            go_simp
            refine tkS (i := 5) (v := .int .i64 i) rfl d0 inv ?_
            intro inv
            go_simp
            refine tkS (i := 6) (v := .pointer (some ⟨gg, i, none⟩)) rfl d0 inv ?_
            intro inv
            go_simp
            refine tkA (i := 7) (v := slv gq P.length P.length) rfl (.inl ⟨by rfl, fun W hW => by have z7 := hW.cell cU; go_simp⟩) d0 inv ?_
            intro inv
            go_simp
            refine wpAnyLH_oneI (i := 8) rfl (by kernel_rfl) inv (fun inv K0 hK0 => ?_)
            go_simp
            refine (Hpp.out _ d0).mono ?_
            rintro e U2 ⟨rfl, hG⟩
            have d1 := d0.trans hG
            refine hK0 _ _ d1 ?_
            clear hK0
            refine wpAnyLH_end (by kernel_rfl) ?_
            clear inv d0 hG Hpp cU
            have HTv : Hid (TuV U P C M (shfG G q (i : Int) P.length) sp cp sc lc cc sm lm cm (some ⟨gg, 0, none⟩) G.length cap6) := Lib.hid (by
              refine ⟨HTW.out.tm.ext E9.out, ?_, HTu.out.ln, HTu.out.cl, HTu.out.sh⟩
              rw [← Hset.out]
              refine ⟨_, gg, 0, cap6, va.set i (slv gq P.length P.length), by rw [List.length_set], by rw [List.length_set]; have := HGs.out.cap; rw [List.length_set, HvA.out] at this; exact this, by rw [List.length_set, List.length_set, HvA.out], HGs.out.sl, fun j hj hj' => ?_⟩
              rw [List.getElem_set, List.getElem_set]
              by_cases e : i = j
              · rw [if_pos e, if_pos e]; exact HC9.out.read
              · rw [if_neg e, if_neg e]
                exact (HrA.out j (by simpa using hj) (by simpa using hj')).ext eXU.out)
            have HTt := Lib.hid (HT.out.ext (eXU.out.trans d1))
            replace HTv := Lib.hid (HTv.out.ext d1)
            have HTuU := Lib.hid (HTu.out.ext (E9.out.trans d1))
            replace x0 := d1.cell x0
            replace x1 := d1.cell x1
            replace x2 := d1.cell x2
            replace x3 := d1.cell x3
            replace p0 := d1.cell p0
            replace p1 := d1.cell p1
            replace p2 := d1.cell p2
            replace p3 := d1.cell p3
            replace q0 := d1.cell q0
            replace q1 := d1.cell q1
            replace q2 := d1.cell q2
            replace q3 := d1.cell q3
            have Hq0 := Lib.hid (fun W (hW : Ext U2 W) => equal24_any (HTuU.out.ext hW) (HTv.out.ext hW))
            have Hq1 := Lib.hid (fun W (hW : Ext U2 W) => tuEqual_any (HTt.out.ext hW) (HTuU.out.ext hW))
            have Hq2 := Lib.hid (fun W (hW : Ext U2 W) => equal24_any (HTt.out.ext hW) (HTv.out.ext hW))
            have Hq3 := Lib.hid (fun W (hW : Ext U2 W) => tuEqual_any (HTuU.out.ext hW) (HTuU.out.ext hW))
            simp only [and_self, decide_true] at Hq0 Hq3
            generalize decide (P = P ∧ C = C ∧ M = M ∧ G = shfG G q (i : Int) P.length) = dq at *
            have eF := Lib.hid ((e4.trans eXU.out).trans d1)
            clear HTt HTv HTuU d1
            go_wp2_with fail
            have d0 : Ext U2 U2.drew := (Ext.refl U2).drew
            refine wp_region_held_tail (S := fun W => Ext U2 W) 21 (by kernel_rfl) (by simp) ?_
            intro inv
            generalize U2.drew = U3 at *
            refine tkA (i := 0) (v := .agg #[.slice tsp P.length tcp, .slice tsc tlc tcc, .slice tsm tlm tcm, .slice tsg G.length tcg]) rfl (.inl ⟨by rfl, fun W hW => by have z0 := hW.cell p0; have z1 := hW.cell p1; have z2 := hW.cell p2; have z3 := hW.cell p3; go_simp⟩) d0 inv ?_
            intro inv
            go_simp
            refine tkA (i := 1) (v := .agg #[.slice sp P.length cp, .slice sc lc cc, .slice sm lm cm, .slice (some ⟨gg, 0, none⟩) G.length cap6]) rfl (.inl ⟨by rfl, fun W hW => by have z0 := hW.cell q0; have z1 := hW.cell q1; have z2 := hW.cell q2; have z3 := hW.cell q3; go_simp⟩) d0 inv ?_
            intro inv
            go_simp
            refine wpAnyLH_oneI (i := 2) rfl (by kernel_rfl) inv (fun inv K0 hK0 => ?_)
            go_simp
            refine (Hq0.out _ d0).mono ?_
            rintro e Q1 ⟨rfl, hG1⟩
            have d1 := d0.trans hG1
            refine hK0 _ _ d1 ?_
            clear hK0
            refine tkS (i := 3) (v := .bool true) rfl d1 inv ?_
            intro inv
            go_simp
            refine tkS (i := 4) (v := .int .i64 0) rfl d1 inv ?_
            intro inv
            go_simp
            refine tkS (i := 5) (v := .bool true) rfl d1 inv ?_
            intro inv
            go_simp
            refine tkS (i := 6) (v := .bool true) rfl d1 inv ?_
            intro inv
            go_simp
            refine tkS (i := 7) (v := .bool true) rfl d1 inv ?_
            intro inv
            go_simp
            refine tkA (i := 8) (v := .agg #[.slice sp P.length cp, .slice sc lc cc, .slice sm lm cm, .slice (some ⟨ga, oa, none⟩) G.length cg]) rfl (.inl ⟨by rfl, fun W hW => by have z0 := hW.cell x0; have z1 := hW.cell x1; have z2 := hW.cell x2; have z3 := hW.cell x3; go_simp⟩) d1 inv ?_
            intro inv
            go_simp
            refine tkA (i := 9) (v := .agg #[.slice tsp P.length tcp, .slice tsc tlc tcc, .slice tsm tlm tcm, .slice tsg G.length tcg]) rfl (.inl ⟨by rfl, fun W hW => by have z0 := hW.cell p0; have z1 := hW.cell p1; have z2 := hW.cell p2; have z3 := hW.cell p3; go_simp⟩) d1 inv ?_
            intro inv
            go_simp
            refine tkA (i := 11) (v := .agg #[.slice sp P.length cp, .slice sc lc cc, .slice sm lm cm, .slice (some ⟨ga, oa, none⟩) G.length cg]) rfl (.inl ⟨by rfl, fun W hW => by have z0 := hW.cell x0; have z1 := hW.cell x1; have z2 := hW.cell x2; have z3 := hW.cell x3; go_simp⟩) d1 inv ?_
            intro inv
            go_simp
            refine tkA (i := 12) (v := .agg #[.slice sp P.length cp, .slice sc lc cc, .slice sm lm cm, .slice (some ⟨gg, 0, none⟩) G.length cap6]) rfl (.inl ⟨by rfl, fun W hW => by have z0 := hW.cell q0; have z1 := hW.cell q1; have z2 := hW.cell q2; have z3 := hW.cell q3; go_simp⟩) d1 inv ?_
            intro inv
            go_simp
            refine wpAnyLH_oneI (i := 10) rfl (by kernel_rfl) inv (fun inv K0 hK0 => ?_)
            go_simp
            refine (Hq1.out _ d1).mono ?_
            rintro e Q2 ⟨rfl, hG2⟩
            have d2 := d1.trans hG2
            refine hK0 _ _ d2 ?_
            clear hK0
            refine wpAnyLH_oneI (i := 13) rfl (by kernel_rfl) inv (fun inv K0 hK0 => ?_)
            go_simp
            refine (Hq2.out _ d2).mono ?_
            rintro e Q3 ⟨rfl, hG3⟩
            have d3 := d2.trans hG3
            refine hK0 _ _ d3 ?_
            clear hK0
            refine tkA (i := 14) (v := .bool true) rfl (.inl ⟨by rfl, fun W hW => by cases dq <;> go_simp⟩) d3 inv ?_
            intro inv
            go_simp
            refine tkS (i := 15) (v := .bool true) rfl d3 inv ?_
            intro inv
            go_simp
            refine tkS (i := 16) (v := .bool true) rfl d3 inv ?_
            intro inv
            go_simp
            refine tkA (i := 17) (v := .agg #[.slice tsp P.length tcp, .slice tsc tlc tcc, .slice tsm tlm tcm, .slice tsg G.length tcg]) rfl (.inl ⟨by rfl, fun W hW => by have z0 := hW.cell p0; have z1 := hW.cell p1; have z2 := hW.cell p2; have z3 := hW.cell p3; go_simp⟩) d3 inv ?_
            intro inv
            go_simp
            refine tkA (i := 18) (v := .agg #[.slice tsp P.length tcp, .slice tsc tlc tcc, .slice tsm tlm tcm, .slice tsg G.length tcg]) rfl (.inl ⟨by rfl, fun W hW => by have z0 := hW.cell p0; have z1 := hW.cell p1; have z2 := hW.cell p2; have z3 := hW.cell p3; go_simp⟩) d3 inv ?_
            intro inv
            go_simp
            refine wpAnyLH_oneI (i := 19) rfl (by kernel_rfl) inv (fun inv K0 hK0 => ?_)
            go_simp
            refine (Hq3.out _ d3).mono ?_
            rintro e Q4 ⟨rfl, hG4⟩
            have d4 := d3.trans hG4
            refine hK0 _ _ d4 ?_
            clear hK0
            refine tkS (i := 20) (v := .bool true) rfl d4 inv ?_
            intro inv
            go_simp
            refine wpAnyLH_end (by kernel_rfl) ?_
            have eR := eF.out.trans d4
            clear inv d0 d1 d2 d3 d4 hG1 hG2 hG3 hG4 Hq0 Hq1 Hq2 Hq3
            go_wp2_with fail
            go_ret
            exact ⟨rfl, eR⟩
        · have H0 : Hid (szE (cmbQ [G.getD i [], q] [1, 1] P.length) ≠ 0) := Lib.hid (fun h => (show False by
            obtain ⟨l, hl, h3⟩ := hno
            exact h3 (Herr.out.2 h l hl)))
          clear hno Herr
          have eAp := (Ext.refl Y).alloc (.cells #[.slice none 0 0, .slice none 0 0, .slice none 0 0, .slice none 0 0] 44)
          have yx0 := eAp.cell x0
          have yx1 := eAp.cell x1
          have yx2 := eAp.cell x2
          have yx3 := eAp.cell x3
          have p0 : (Y.alloc (.cells #[.slice none 0 0, .slice none 0 0, .slice none 0 0, .slice none 0 0] 44)).cell? ⟨Y.heap.size, 0, none⟩ = some (.slice none 0 0) := by go_simp
          have p1 : (Y.alloc (.cells #[.slice none 0 0, .slice none 0 0, .slice none 0 0, .slice none 0 0] 44)).cell? ⟨Y.heap.size, 1, none⟩ = some (.slice none 0 0) := by go_simp
          have p2 : (Y.alloc (.cells #[.slice none 0 0, .slice none 0 0, .slice none 0 0, .slice none 0 0] 44)).cell? ⟨Y.heap.size, 2, none⟩ = some (.slice none 0 0) := by go_simp
          have p3 : (Y.alloc (.cells #[.slice none 0 0, .slice none 0 0, .slice none 0 0, .slice none 0 0] 44)).cell? ⟨Y.heap.size, 3, none⟩ = some (.slice none 0 0) := by go_simp
          have ep := hE1.trans eAp
          go_wp2_with fail
          clear x0 x1 x2 x3 eAp
          have x0 := yx0
          clear yx0
          have x1 := yx1
          clear yx1
          have x2 := yx2
          clear yx2
          have x3 := yx3
          clear yx3
          generalize Y.alloc (.cells #[.slice none 0 0, .slice none 0 0, .slice none 0 0, .slice none 0 0] 44) = Xp at *
          generalize Y.heap.size = bp at *
          refine (Hsc.out _ ep).mono ?_
          rintro e W8 ⟨rfl, hE8⟩
          have e8 := ep.trans hE8
          replace x0 := hE8.cell x0
          replace x1 := hE8.cell x1
          replace x2 := hE8.cell x2
          replace x3 := hE8.cell x3
          replace p0 := hE8.cell p0
          replace p1 := hE8.cell p1
          replace p2 := hE8.cell p2
          replace p3 := hE8.cell p3
          clear hE8 Hsc
          have HO12 := own4 W8 44 (.slice sp P.length cp) (.slice sc lc cc) (.slice sm lm cm) (.slice sg G.length cg)
          have eB := (Ext.refl W8).alloc (.cells #[.slice sp P.length cp, .slice sc lc cc, .slice sm lm cm, .slice sg G.length cg] 44)
          have Wx0 := Lib.hid x0
          have Wx1 := Lib.hid x1
          have Wx2 := Lib.hid x2
          have Wx3 := Lib.hid x3
          have Wp0 := Lib.hid p0
          have Wp1 := Lib.hid p1
          have Wp2 := Lib.hid p2
          have Wp3 := Lib.hid p3
          have HTW := Lib.hid (HT.out.ext e8)
          go_upto_region 17 with fail
          replace x0 := eB.cell x0
          replace x1 := eB.cell x1
          replace x2 := eB.cell x2
          replace x3 := eB.cell x3
          replace p0 := eB.cell p0
          replace p1 := eB.cell p1
          replace p2 := eB.cell p2
          replace p3 := eB.cell p3
          have hDs : (W8.alloc (.cells #[.slice sp P.length cp, .slice sc lc cc, .slice sm lm cm, .slice sg G.length cg] 44)).heap.size = W8.heap.size + 1 := by simp
          generalize W8.alloc (.cells #[.slice sp P.length cp, .slice sc lc cc, .slice sm lm cm, .slice sg G.length cg] 44) = D at *
          have HO12 := Lib.hid HO12
          have HDs := Lib.hid hDs
          have HeB := Lib.hid eB
          obtain ⟨b12, hb12⟩ : ∃ b, b = W8.heap.size := ⟨_, rfl⟩
          rw [← hb12] at HO12 HDs ⊢
          have Hb12 := Lib.hid hb12
          clear hb12 hDs
          have Hcl := Lib.hid HT.out.cl
          have HTsh := Lib.hid HT.out.sh
          obtain ⟨sg1, ga, oa, cga, va, ev, hca, hvA, hSa, hrA⟩ := HT.out.gn
          injection ev with ev1 ev2 ev3
          subst ev1 ev3
          have HvA := Lib.hid hvA
          have HSA := Lib.hid hSa
          have HrA := Lib.hid hrA
          have haa := hSa.addr (by omega)
          subst haa
          obtain ⟨s0, hs, hy0, hy1, hy2⟩ := info_parts Tryz.infoSz
          have eZ := (Ext.refl D).alloc (.cells #[] 52)
          have HNews := Lib.hid (show ∀ (j : Nat) (u : Value), va[j]? = some u → (D.alloc (.cells #[] 52)).cell? ((⟨ga, oa, none⟩ : Addr).add j) = some u from fun j u hj => by
            have h2 := (e8.trans (eB.trans eZ)).cell (hSa.cell j u hj)
            simpa [Addr.add_lit] using h2)
          have HOne := Lib.hid (show ∀ u ∈ va, u.oneCell' = true from fun u hu => by
            obtain ⟨j, hj, rfl⟩ := List.getElem_of_mem hu
            obtain ⟨xa, xc, ex⟩ := szR_slc (hrA j (by omega) hj)
            rw [ex]; rfl)
          have HOe := Lib.hid (show OwnV 52 D.heap.size (D.alloc (.cells #[] 52)) D.heap.size 0 [] from OwnV.of (Nat.le_refl _) Array.getElem?_push_size (Nat.le_refl _) (Nat.zero_le _) rfl rfl)
          have HgetD := Lib.hid (show G.getD i [] = G[i] by rw [List.getD_eq_getElem?_getD, List.getElem?_eq_getElem hin, Option.getD_some])
          have x3z := eZ.cell x3
          clear ev2 hSa hrA eB
          go_wp2_with (at_builtin; (refine wpList_append_lies _ rfl _ _ 42 rfl D.heap.size 52 s0 _ 1 24 Tryz.underlying42 hs hy0 hy1 hy2 rfl (by omega) (slv D.heap.size 0 0) 0 [] rfl HOe.out ⟨ga, oa, none⟩ G.length cg va rfl (by omega) HNews.out HOne.out (by omega) (by unfold maxLen; omega) (by omega) (by simp) (D.heap.size + 1) (by simp) ?_; intro gg cap6 w6 hown6 hgrow6 hat6 hlt6; have hE6 : Ext D w6 := Ext.mk' (Below.grown eZ hgrow6 eZ.size (fun q hq => (World.ownsRow.lt HOe.out q hq).1)); have HO6 := Lib.hid (HO12.out.ext hE6); have e0 := HO6.out.cell (j := 3) (by simp); simp only [List.getElem_cons_zero, List.getElem_cons_succ] at e0; have f0 := HO6.out.frozen 3; have HG6 := Lib.hid (show OwnV 52 D.heap.size w6 gg cap6 va by unfold OwnV; rw [HvA.out]; simpa using hown6); have HE6 := Lib.hid hE6; rw [Nat.zero_add]; clear hown6 hgrow6 hat6 hlt6 hE6))
          obtain ⟨h12, g12⟩ := OwnV.set HO6.out 3 (slv gg G.length cap6)
          simp only [List.set_cons_zero, List.set_cons_succ] at h12
          have hgB := HG6.out.lt
          have HG7 := Lib.hid (ownV_off HG6.out g12 (by have := HDs.out; omega))
          have E7 := Lib.hid (show Ext W8 (w6.setCell ⟨b12, 3, none⟩ (slv gg G.length cap6)) from ext_trans_grown (HeB.out.trans HE6.out) g12 (by have := Hb12.out; omega))
          have H12 := Lib.hid h12
          have q0 := h12.cell (j := 0) (by simp)
          have q1 := h12.cell (j := 1) (by simp)
          have q2 := h12.cell (j := 2) (by simp)
          have q3 := h12.cell (j := 3) (by simp)
          simp only [List.getElem_cons_zero, List.getElem_cons_succ] at q0 q1 q2 q3
          have Hgg := Lib.hid (show b12 < gg by have := HDs.out; omega)
          clear x3z x0 x1 x2 x3 p0 p1 p2 p3 h12 g12 hgB e0 f0 HO6 HG6 HE6 HNews HOne HOe eZ hs hy0 hy1 hy2
          try go_wp2_with fail
          generalize w6.setCell ⟨b12, 3, none⟩ (slv gg G.length cap6) = V1 at *
          have x0 := E7.out.cell Wx0.out
          have x1 := E7.out.cell Wx1.out
          have x2 := E7.out.cell Wx2.out
          have x3 := E7.out.cell Wx3.out
          have p0 := E7.out.cell Wp0.out
          have p1 := E7.out.cell Wp1.out
          have p2 := E7.out.cell Wp2.out
          have p3 := E7.out.cell Wp3.out
          have e9 := Lib.hid ((e4.trans e8).trans E7.out)
          have c0 := (e8.trans E7.out).cell (HSA.out.cell i _ (List.getElem?_eq_getElem (show i < va.length by rw [HvA.out]; exact hin)))
          have hsA := (HrA.out i hin (by rw [HvA.out]; exact hin)).ext (e8.trans E7.out)
          obtain ⟨xa, xc, ex⟩ := szR_slc hsA
          rw [ex, Hcl.out _ (List.getElem_mem hin)] at c0 hsA
          have HsA := Lib.hid hsA
          have HsQ := Lib.hid (Hsr.out.ext ((e4.trans e8).trans E7.out))
          have Hsl := Lib.hid (HTsh.out _ (List.getElem_mem hin))
          have Hcll := Lib.hid (Hcl.out _ (List.getElem_mem hin))
          rw [HgetD.out] at Hset
          obtain ⟨l, hle⟩ : ∃ l, l = G[i] := ⟨_, rfl⟩
          rw [← hle] at HsA Hsl Hcll Hset
          have Hle := Lib.hid hle
          have HE := Lib.hid (show szE (cmbQ [l, q] [1, 1] P.length) ≠ 0 by have := H0.out; rwa [HgetD.out, ← hle] at this)
          have hii : (i : Int) < (G.length : Int) := by omega
          have Hw1 := Lib.hid (fun W (hW : Ext V1 W) => whole24_any (n := 1) (by omega) (HL.out.ext (e9.out.trans hW)))
          rw [RV_one] at Hw1
          have Hcm := Lib.hid (fun W v fv (hW : Ext V1 W) (hv : GnR W v [l, q]) (hfv : SzR W fv [1, 1]) => combine24_any (np := P.length) hv hfv (fun s hs => by
            simp only [List.mem_cons, List.not_mem_nil, or_false] at hs
            rcases hs with rfl | rfl
            · exact Hcll.out
            · exact Hql.out) (by simp) (fun s hs => by
            simp only [List.mem_cons, List.not_mem_nil, or_false] at hs
            rcases hs with rfl | rfl
            · exact shQ_nd Hsl.out (by omega)
            · exact shQ_nd Hqs.out (by omega)) (fun r hr => by
            simp only [List.mem_cons, List.not_mem_nil, or_false] at hr
            rcases hr with rfl | rfl
            · exact NdQ.one (by omega)
            · exact NdQ.one (by omega)) (by omega) (by simp) (HL.out.ext (e9.out.trans hW)))
          clear hsA ex hle
          go_wp2_with fail
          go_cut [] from 85 to 101 (fun wx => ∃ gq, Hid (Ext W8 wx) ∧ Hid (OwnV 44 b12 wx b12 4 [.slice sp P.length cp, .slice sc lc cc, .slice sm lm cm, slv gg G.length cap6]) ∧ Hid (OwnV 52 D.heap.size wx gg cap6 (va.set i (slv gq P.length P.length))) ∧ Hid (SzV 0 wx (slv gq P.length P.length) (cmbQ [l, q] [1, 1] P.length)))
          case first =>
           have d0 : Ext V1 V1.drew := (Ext.refl V1).drew
           refine wp_region_held_tail (S := fun W => Ext V1 W) 16 (by kernel_rfl) (by simp) ?_
           intro inv
           generalize V1.drew = V2 at *
           refine tkS (i := 0) (v := .pointer (some ⟨b12, 3, none⟩)) rfl d0 inv ?_
           intro inv
           go_simp
           refine tkA (i := 1) (v := slv gg G.length cap6) rfl (.inl ⟨by rfl, fun W hW => by have z7 := hW.cell q3; go_simp⟩) d0 inv ?_
           intro inv
           go_simp
           refine tkS (i := 2) (v := .int .i64 i) rfl d0 inv ?_
           intro inv
           go_simp
           refine tkS (i := 3) (v := .pointer (some ⟨b5, 3, none⟩)) rfl d0 inv ?_
           intro inv
           go_simp
           refine tkA (i := 4) (v := .slice (some ⟨ga, oa, none⟩) G.length cg) rfl (.inl ⟨by rfl, fun W hW => by have z7 := hW.cell x3; go_simp⟩) d0 inv ?_
           intro inv
           go_simp
           refine tkS (i := 5) (v := .int .i64 i) rfl d0 inv ?_
           intro inv
           go_simp
           refine tkS (i := 6) (v := .pointer (some ⟨ga, oa + i, none⟩)) rfl d0 inv ?_
           intro inv
           go_simp
           refine tkA (i := 7) (v := .slice xa P.length xc) rfl (.inl ⟨by rfl, fun W hW => by have z7 := hW.cell c0; go_simp⟩) d0 inv ?_
           intro inv
           go_simp
           refine tkS (i := 8) (v := .slice sva P.length svc) rfl d0 inv ?_
           intro inv
           go_simp
           refine tkS (i := 13) (v := .slice sva P.length svc) rfl d0 inv ?_
           intro inv
           go_simp
           refine tkS (i := 14) (v := .int .i64 P.length) rfl d0 inv ?_
           intro inv
           go_simp
           refine wpAnyLH_twoII (i := 9) (j := 10) rfl rfl (by kernel_rfl) inv (fun inv K0 hK0 => ?_) (fun inv K0 hK0 => ?_)
           · go_simp
             have t1 : Ext V1 (V2.alloc (.cells #[.slice xa P.length xc, .slice sva P.length svc] 52)) := d0.alloc (.cells #[.slice xa P.length xc, .slice sva P.length svc] 52)
             have HGn := Lib.hid (show GnR (V2.alloc (.cells #[.slice xa P.length xc, .slice sva P.length svc] 52)) (.slice (some ⟨V2.heap.size, 0, none⟩) 2 2) [l, q] from gn2N (by go_simp) (by go_simp) (HsA.out.ext t1) (HsQ.out.ext t1))
             refine hK0 _ _ t1 ?_
             clear hK0
             generalize hT1 : V2.alloc (.cells #[.slice xa P.length xc, .slice sva P.length svc] 52) = T1 at *
             clear hT1
             refine wpAnyLH_oneI (i := 10) rfl (by kernel_rfl) inv (fun inv K0 hK0 => ?_)
             go_simp
             refine (Hw1.out _ t1).mono ?_
             rintro e T2 ⟨rfl, hT2⟩
             have t2 := t1.trans hT2
             replace HGn := Lib.hid (HGn.out.ext hT2)
             refine hK0 _ _ t2 ?_
             clear hK0
             refine wpAnyLH_oneI (i := 11) rfl (by kernel_rfl) inv (fun inv K0 hK0 => ?_)
             go_simp
             refine (Hw1.out _ t2).mono ?_
             rintro e T3 ⟨rfl, hT3⟩
             have t3 := t2.trans hT3
             replace HGn := Lib.hid (HGn.out.ext hT3)
             refine hK0 _ _ t3 ?_
             clear hK0
             refine wpAnyLH_oneI (i := 12) rfl (by kernel_rfl) inv (fun inv K0 hK0 => ?_)
             go_simp
             have t4 : Ext V1 (T3.alloc (.cells #[.string ⟨#[49]⟩, .string ⟨#[49]⟩, .string ⟨#[49]⟩, .string ⟨#[49]⟩] 63)) := t3.alloc (.cells #[.string ⟨#[49]⟩, .string ⟨#[49]⟩, .string ⟨#[49]⟩, .string ⟨#[49]⟩] 63)
             have HSz := Lib.hid (show SzR (T3.alloc (.cells #[.string ⟨#[49]⟩, .string ⟨#[49]⟩, .string ⟨#[49]⟩, .string ⟨#[49]⟩] 63)) (.slice (some ⟨T3.heap.size, 0, none⟩) 2 2) [1, 1] from sz2M (by rw [I_one1.1]; go_simp) (by rw [I_one1.2]; go_simp) (by rw [I_one1.1]; go_simp) (by rw [I_one1.2]; go_simp))
             replace HGn := Lib.hid (HGn.out.ext ((Ext.refl _).alloc (.cells #[.string ⟨#[49]⟩, .string ⟨#[49]⟩, .string ⟨#[49]⟩, .string ⟨#[49]⟩] 63)))
             refine hK0 _ _ t4 ?_
             clear hK0
             generalize hT4 : T3.alloc (.cells #[.string ⟨#[49]⟩, .string ⟨#[49]⟩, .string ⟨#[49]⟩, .string ⟨#[49]⟩] 63) = T4 at *
             clear hT4
             refine wpAnyLH_oneI (i := 15) rfl (by kernel_rfl) inv (fun inv K0 hK0 => ?_)
             go_simp
             refine (Hcm.out _ _ _ t4 HGn.out HSz.out).mono ?_
             rintro e V3 ⟨⟨gq, rfl, hO⟩, hG3⟩
             have d2 := t4.trans hG3
             refine hK0 _ _ d2 ?_
             clear hK0
             refine wpAnyLH_end (by kernel_rfl) ?_
             have HG9 := Lib.hid (HG7.out.ext d2)
             have hgl := HG9.out.lt
             have c9 := HG9.out.cell (j := i) (by rw [HvA.out]; exact hin)
             have f9 := HG9.out.frozen i
             obtain ⟨hg9, g9⟩ := HG9.out.set i (slv gq P.length P.length)
             have E9 := Lib.hid (ext_trans_grown (E7.out.trans d2) g9 (by have := Hgg.out; have := Hb12.out; omega))
             have H129 := Lib.hid (ownV_off (H12.out.ext d2) g9 (by have := Hgg.out; omega))
             have HC9 := Lib.hid (show SzV 0 _ (slv gq P.length P.length) (cmbQ [l, q] [1, 1] P.length) from by
               have h1 := hO.val
               rw [cmbQ_length] at h1
               exact (h1.kept g9 (by have := d2.size; have := t4.size; have := HG7.out.lt; omega)).mono (Nat.zero_le _))
             have HGs := Lib.hid hg9
             clear hO hgl inv d0 d2 hG3 hg9 g9 c0 HGn HSz Hcm Hw1 HsA HsQ HG9 x0 x1 x2 x3 p0 p1 p2 p3 q0 q1 q2 q3
             go_wp2_with fail
             go_meet
             case rel => exact ⟨gq, E9, H129, HGs, HC9⟩
           · go_simp
             refine (Hw1.out _ d0).mono ?_
             rintro e T5 ⟨rfl, hT5⟩
             have t5 := d0.trans hT5
             refine hK0 _ _ t5 ?_
             clear hK0
             refine wpAnyLH_twoII (i := 9) (j := 11) rfl rfl (by kernel_rfl) inv (fun inv K0 hK0 => ?_) (fun inv K0 hK0 => ?_)
             · go_simp
               have t6 : Ext V1 (T5.alloc (.cells #[.slice xa P.length xc, .slice sva P.length svc] 52)) := t5.alloc (.cells #[.slice xa P.length xc, .slice sva P.length svc] 52)
               have HGn := Lib.hid (show GnR (T5.alloc (.cells #[.slice xa P.length xc, .slice sva P.length svc] 52)) (.slice (some ⟨T5.heap.size, 0, none⟩) 2 2) [l, q] from gn2N (by go_simp) (by go_simp) (HsA.out.ext t6) (HsQ.out.ext t6))
               refine hK0 _ _ t6 ?_
               clear hK0
               generalize hT6 : T5.alloc (.cells #[.slice xa P.length xc, .slice sva P.length svc] 52) = T6 at *
               clear hT6
               refine wpAnyLH_oneI (i := 11) rfl (by kernel_rfl) inv (fun inv K0 hK0 => ?_)
               go_simp
               refine (Hw1.out _ t6).mono ?_
               rintro e T7 ⟨rfl, hT7⟩
               have t7 := t6.trans hT7
               replace HGn := Lib.hid (HGn.out.ext hT7)
               refine hK0 _ _ t7 ?_
               clear hK0
               refine wpAnyLH_oneI (i := 12) rfl (by kernel_rfl) inv (fun inv K0 hK0 => ?_)
               go_simp
               have t8 : Ext V1 (T7.alloc (.cells #[.string ⟨#[49]⟩, .string ⟨#[49]⟩, .string ⟨#[49]⟩, .string ⟨#[49]⟩] 63)) := t7.alloc (.cells #[.string ⟨#[49]⟩, .string ⟨#[49]⟩, .string ⟨#[49]⟩, .string ⟨#[49]⟩] 63)
               have HSz := Lib.hid (show SzR (T7.alloc (.cells #[.string ⟨#[49]⟩, .string ⟨#[49]⟩, .string ⟨#[49]⟩, .string ⟨#[49]⟩] 63)) (.slice (some ⟨T7.heap.size, 0, none⟩) 2 2) [1, 1] from sz2M (by rw [I_one1.1]; go_simp) (by rw [I_one1.2]; go_simp) (by rw [I_one1.1]; go_simp) (by rw [I_one1.2]; go_simp))
               replace HGn := Lib.hid (HGn.out.ext ((Ext.refl _).alloc (.cells #[.string ⟨#[49]⟩, .string ⟨#[49]⟩, .string ⟨#[49]⟩, .string ⟨#[49]⟩] 63)))
               refine hK0 _ _ t8 ?_
               clear hK0
               generalize hT8 : T7.alloc (.cells #[.string ⟨#[49]⟩, .string ⟨#[49]⟩, .string ⟨#[49]⟩, .string ⟨#[49]⟩] 63) = T8 at *
               clear hT8
               refine wpAnyLH_oneI (i := 15) rfl (by kernel_rfl) inv (fun inv K0 hK0 => ?_)
               go_simp
               refine (Hcm.out _ _ _ t8 HGn.out HSz.out).mono ?_
               rintro e V3 ⟨⟨gq, rfl, hO⟩, hG3⟩
               have d2 := t8.trans hG3
               refine hK0 _ _ d2 ?_
               clear hK0
               refine wpAnyLH_end (by kernel_rfl) ?_
               have HG9 := Lib.hid (HG7.out.ext d2)
               have hgl := HG9.out.lt
               have c9 := HG9.out.cell (j := i) (by rw [HvA.out]; exact hin)
               have f9 := HG9.out.frozen i
               obtain ⟨hg9, g9⟩ := HG9.out.set i (slv gq P.length P.length)
               have E9 := Lib.hid (ext_trans_grown (E7.out.trans d2) g9 (by have := Hgg.out; have := Hb12.out; omega))
               have H129 := Lib.hid (ownV_off (H12.out.ext d2) g9 (by have := Hgg.out; omega))
               have HC9 := Lib.hid (show SzV 0 _ (slv gq P.length P.length) (cmbQ [l, q] [1, 1] P.length) from by
                 have h1 := hO.val
                 rw [cmbQ_length] at h1
                 exact (h1.kept g9 (by have := d2.size; have := t8.size; have := HG7.out.lt; omega)).mono (Nat.zero_le _))
               have HGs := Lib.hid hg9
               clear hO hgl inv d0 d2 hG3 hg9 g9 c0 HGn HSz Hcm Hw1 HsA HsQ HG9 x0 x1 x2 x3 p0 p1 p2 p3 q0 q1 q2 q3
               go_wp2_with fail
               go_meet
               case rel => exact ⟨gq, E9, H129, HGs, HC9⟩
             · go_simp
               refine (Hw1.out _ t5).mono ?_
               rintro e T9 ⟨rfl, hT9⟩
               have t9 := t5.trans hT9
               refine hK0 _ _ t9 ?_
               clear hK0
               refine wpAnyLH_twoII (i := 9) (j := 12) rfl rfl (by kernel_rfl) inv (fun inv K0 hK0 => ?_) (fun inv K0 hK0 => ?_)
               · go_simp
                 have t10 : Ext V1 (T9.alloc (.cells #[.slice xa P.length xc, .slice sva P.length svc] 52)) := t9.alloc (.cells #[.slice xa P.length xc, .slice sva P.length svc] 52)
                 have HGn := Lib.hid (show GnR (T9.alloc (.cells #[.slice xa P.length xc, .slice sva P.length svc] 52)) (.slice (some ⟨T9.heap.size, 0, none⟩) 2 2) [l, q] from gn2N (by go_simp) (by go_simp) (HsA.out.ext t10) (HsQ.out.ext t10))
                 refine hK0 _ _ t10 ?_
                 clear hK0
                 generalize hT10 : T9.alloc (.cells #[.slice xa P.length xc, .slice sva P.length svc] 52) = T10 at *
                 clear hT10
                 refine wpAnyLH_oneI (i := 12) rfl (by kernel_rfl) inv (fun inv K0 hK0 => ?_)
                 go_simp
                 have t11 : Ext V1 (T10.alloc (.cells #[.string ⟨#[49]⟩, .string ⟨#[49]⟩, .string ⟨#[49]⟩, .string ⟨#[49]⟩] 63)) := t10.alloc (.cells #[.string ⟨#[49]⟩, .string ⟨#[49]⟩, .string ⟨#[49]⟩, .string ⟨#[49]⟩] 63)
                 have HSz := Lib.hid (show SzR (T10.alloc (.cells #[.string ⟨#[49]⟩, .string ⟨#[49]⟩, .string ⟨#[49]⟩, .string ⟨#[49]⟩] 63)) (.slice (some ⟨T10.heap.size, 0, none⟩) 2 2) [1, 1] from sz2M (by rw [I_one1.1]; go_simp) (by rw [I_one1.2]; go_simp) (by rw [I_one1.1]; go_simp) (by rw [I_one1.2]; go_simp))
                 replace HGn := Lib.hid (HGn.out.ext ((Ext.refl _).alloc (.cells #[.string ⟨#[49]⟩, .string ⟨#[49]⟩, .string ⟨#[49]⟩, .string ⟨#[49]⟩] 63)))
                 refine hK0 _ _ t11 ?_
                 clear hK0
                 generalize hT11 : T10.alloc (.cells #[.string ⟨#[49]⟩, .string ⟨#[49]⟩, .string ⟨#[49]⟩, .string ⟨#[49]⟩] 63) = T11 at *
                 clear hT11
                 refine wpAnyLH_oneI (i := 15) rfl (by kernel_rfl) inv (fun inv K0 hK0 => ?_)
                 go_simp
                 refine (Hcm.out _ _ _ t11 HGn.out HSz.out).mono ?_
                 rintro e V3 ⟨⟨gq, rfl, hO⟩, hG3⟩
                 have d2 := t11.trans hG3
                 refine hK0 _ _ d2 ?_
                 clear hK0
                 refine wpAnyLH_end (by kernel_rfl) ?_
                 have HG9 := Lib.hid (HG7.out.ext d2)
                 have hgl := HG9.out.lt
                 have c9 := HG9.out.cell (j := i) (by rw [HvA.out]; exact hin)
                 have f9 := HG9.out.frozen i
                 obtain ⟨hg9, g9⟩ := HG9.out.set i (slv gq P.length P.length)
                 have E9 := Lib.hid (ext_trans_grown (E7.out.trans d2) g9 (by have := Hgg.out; have := Hb12.out; omega))
                 have H129 := Lib.hid (ownV_off (H12.out.ext d2) g9 (by have := Hgg.out; omega))
                 have HC9 := Lib.hid (show SzV 0 _ (slv gq P.length P.length) (cmbQ [l, q] [1, 1] P.length) from by
                   have h1 := hO.val
                   rw [cmbQ_length] at h1
                   exact (h1.kept g9 (by have := d2.size; have := t11.size; have := HG7.out.lt; omega)).mono (Nat.zero_le _))
                 have HGs := Lib.hid hg9
                 clear hO hgl inv d0 d2 hG3 hg9 g9 c0 HGn HSz Hcm Hw1 HsA HsQ HG9 x0 x1 x2 x3 p0 p1 p2 p3 q0 q1 q2 q3
                 go_wp2_with fail
                 go_meet
                 case rel => exact ⟨gq, E9, H129, HGs, HC9⟩
               · go_simp
                 have t12 : Ext V1 (T9.alloc (.cells #[.string ⟨#[49]⟩, .string ⟨#[49]⟩, .string ⟨#[49]⟩, .string ⟨#[49]⟩] 63)) := t9.alloc (.cells #[.string ⟨#[49]⟩, .string ⟨#[49]⟩, .string ⟨#[49]⟩, .string ⟨#[49]⟩] 63)
                 have HSz := Lib.hid (show SzR (T9.alloc (.cells #[.string ⟨#[49]⟩, .string ⟨#[49]⟩, .string ⟨#[49]⟩, .string ⟨#[49]⟩] 63)) (.slice (some ⟨T9.heap.size, 0, none⟩) 2 2) [1, 1] from sz2M (by rw [I_one1.1]; go_simp) (by rw [I_one1.2]; go_simp) (by rw [I_one1.1]; go_simp) (by rw [I_one1.2]; go_simp))
                 refine hK0 _ _ t12 ?_
                 clear hK0
                 generalize hT12 : T9.alloc (.cells #[.string ⟨#[49]⟩, .string ⟨#[49]⟩, .string ⟨#[49]⟩, .string ⟨#[49]⟩] 63) = T12 at *
                 clear hT12
                 refine wpAnyLH_oneI (i := 9) rfl (by kernel_rfl) inv (fun inv K0 hK0 => ?_)
                 go_simp
                 have t13 : Ext V1 (T12.alloc (.cells #[.slice xa P.length xc, .slice sva P.length svc] 52)) := t12.alloc (.cells #[.slice xa P.length xc, .slice sva P.length svc] 52)
                 have HGn := Lib.hid (show GnR (T12.alloc (.cells #[.slice xa P.length xc, .slice sva P.length svc] 52)) (.slice (some ⟨T12.heap.size, 0, none⟩) 2 2) [l, q] from gn2N (by go_simp) (by go_simp) (HsA.out.ext t13) (HsQ.out.ext t13))
                 replace HSz := Lib.hid (HSz.out.ext ((Ext.refl _).alloc (.cells #[.slice xa P.length xc, .slice sva P.length svc] 52)))
                 refine hK0 _ _ t13 ?_
                 clear hK0
                 generalize hT13 : T12.alloc (.cells #[.slice xa P.length xc, .slice sva P.length svc] 52) = T13 at *
                 clear hT13
                 refine wpAnyLH_oneI (i := 15) rfl (by kernel_rfl) inv (fun inv K0 hK0 => ?_)
                 go_simp
                 refine (Hcm.out _ _ _ t13 HGn.out HSz.out).mono ?_
                 rintro e V3 ⟨⟨gq, rfl, hO⟩, hG3⟩
                 have d2 := t13.trans hG3
                 refine hK0 _ _ d2 ?_
                 clear hK0
                 refine wpAnyLH_end (by kernel_rfl) ?_
                 have HG9 := Lib.hid (HG7.out.ext d2)
                 have hgl := HG9.out.lt
                 have c9 := HG9.out.cell (j := i) (by rw [HvA.out]; exact hin)
                 have f9 := HG9.out.frozen i
                 obtain ⟨hg9, g9⟩ := HG9.out.set i (slv gq P.length P.length)
                 have E9 := Lib.hid (ext_trans_grown (E7.out.trans d2) g9 (by have := Hgg.out; have := Hb12.out; omega))
                 have H129 := Lib.hid (ownV_off (H12.out.ext d2) g9 (by have := Hgg.out; omega))
                 have HC9 := Lib.hid (show SzV 0 _ (slv gq P.length P.length) (cmbQ [l, q] [1, 1] P.length) from by
                   have h1 := hO.val
                   rw [cmbQ_length] at h1
                   exact (h1.kept g9 (by have := d2.size; have := t13.size; have := HG7.out.lt; omega)).mono (Nat.zero_le _))
                 have HGs := Lib.hid hg9
                 clear hO hgl inv d0 d2 hG3 hg9 g9 c0 HGn HSz Hcm Hw1 HsA HsQ HG9 x0 x1 x2 x3 p0 p1 p2 p3 q0 q1 q2 q3
                 go_wp2_with fail
                 go_meet
                 case rel => exact ⟨gq, E9, H129, HGs, HC9⟩
          case rest =>
            obtain ⟨gq, E9, H129, HGs, HC9⟩ := hcut
            clear c0 Hcm Hw1 HsA HsQ x0 x1 x2 x3 p0 p1 p2 p3 q0 q1 q2 q3
            generalize wc = U at *
            have x0 := E9.out.cell Wx0.out
            have x1 := E9.out.cell Wx1.out
            have x2 := E9.out.cell Wx2.out
            have x3 := E9.out.cell Wx3.out
            have p0 := E9.out.cell Wp0.out
            have p1 := E9.out.cell Wp1.out
            have p2 := E9.out.cell Wp2.out
            have p3 := E9.out.cell Wp3.out
            have q0 := H129.out.cell (j := 0) (by simp)
            have q1 := H129.out.cell (j := 1) (by simp)
            have q2 := H129.out.cell (j := 2) (by simp)
            have q3 := H129.out.cell (j := 3) (by simp)
            simp only [List.getElem_cons_zero, List.getElem_cons_succ] at q0 q1 q2 q3
            have cU := HGs.out.cell (j := i) (by rw [List.length_set, HvA.out]; exact hin)
            rw [List.getElem_set_self] at cU
            have eXU := Lib.hid (e8.trans E9.out)
            have Hpp := Lib.hid (fun W (hW : Ext U W) => szCheck_all (pa := sp) (np := P.length) (cp := cp) (fun W2 h2 => (HT.out.tm.ext (eXU.out.trans hW)).pchk W2 h2) (HC9.out.read.ext hW) (by simp) (cmb_nd (E := 30) (F := 1) (fun s hs => by
              simp only [List.mem_cons, List.not_mem_nil, or_false] at hs
              rcases hs with rfl | rfl
              · exact shQ_nd Hsl.out (Nat.le_refl _)
              · exact shQ_nd Hqs.out (Nat.le_refl _)) (fun r hr => by
              simp only [List.mem_cons, List.not_mem_nil, or_false] at hr
              rcases hr with rfl | rfl <;> exact NdQ.one (by omega)) (by omega) (by omega) (by simp)) (by omega) (HL.out.ext ((e4.trans eXU.out).trans hW)))
            obtain ⟨z, hz⟩ : ∃ z, z = szE (cmbQ [l, q] [1, 1] P.length) := ⟨_, rfl⟩
            rw [← hz] at Hpp HE
            have hz2 : (z == 0) = false := beq_eq_false_iff_ne.2 HE.out
            have hz3 : (z != 0) = true := by simp [bne, hz2]
            clear hz
            try go_wp2_with fail
            have d0 : Ext U U.drew := (Ext.refl U).drew
            refine wp_region_held_tail (S := fun W => Ext U W) 9 (by kernel_rfl) (by simp) ?_
            intro inv
            generalize U.drew = U1 at *
            refine tkS (i := 0) (v := .pointer (some ⟨b5, 0, none⟩)) rfl d0 inv ?_
            intro inv
            go_simp
            refine tkS (i := 1) (v := .pointer (some ⟨b5, 0, none⟩)) rfl d0 inv ?_
            intro inv
            go_simp
            refine tkA (i := 2) (v := .slice sp P.length cp) rfl (.inl ⟨by rfl, fun W hW => by have z7 := hW.cell x0; go_simp⟩) d0 inv ?_
            intro inv
            go_simp
            refine tkS (i := 3) (v := .pointer (some ⟨b12, 3, none⟩)) rfl d0 inv ?_
            intro inv
            go_simp
            refine tkA (i := 4) (v := slv gg G.length cap6) rfl (.inl ⟨by rfl, fun W hW => by have z7 := hW.cell q3; go_simp⟩) d0 inv ?_
            intro inv
            go_simp
            refine tkS (i := 5) (v := .int .i64 i) rfl d0 inv ?_
            intro inv
            go_simp
            refine tkS (i := 6) (v := .pointer (some ⟨gg, i, none⟩)) rfl d0 inv ?_
            intro inv
            go_simp
            refine tkA (i := 7) (v := slv gq P.length P.length) rfl (.inl ⟨by rfl, fun W hW => by have z7 := hW.cell cU; go_simp⟩) d0 inv ?_
            intro inv
            go_simp
            refine wpAnyLH_oneI (i := 8) rfl (by kernel_rfl) inv (fun inv K0 hK0 => ?_)
            go_simp
            refine (Hpp.out _ d0).mono ?_
            rintro e U2 ⟨rfl, hG⟩
            have d1 := d0.trans hG
            refine hK0 _ _ d1 ?_
            clear hK0
            refine wpAnyLH_end (by kernel_rfl) ?_
            clear inv d0 hG Hpp cU
            replace p0 := d1.cell p0
            replace p1 := d1.cell p1
            replace p2 := d1.cell p2
            replace p3 := d1.cell p3
            go_wp2_with fail
            refine blankZ_any.mono ?_
            rintro e W9 ⟨rfl, hE9⟩
            go_wp2_with fail
            go_ret
            exact ⟨rfl, (e4.trans eXU.out).trans (d1.trans hE9)⟩
end Go.Proofs.YtedlgnoiojcjaaaGreatDoor
