/- Part 31 of the proof of the claim: contracts of the functions that it reaches, and plain laws; no condition. -/
import Derived.Test.YtkjnjmihfonilaaGreatDoorV25
import Derived.Test.YtkjnjmihfonilaaGreatDoorV30
import Derived.Test.YtkjnjmihfonilaaGreatDoorV22
import Derived.Test.YtkjnjmihfonilaaGreatDoorV27
import Derived.Test.YtkjnjmihfonilaaGreatDoorV29
import Derived.Test.YtkjnjmihfonilaaGreatDoorV23
namespace Go.Proofs.YtkjnjmihfonilaaGreatDoor
open Go.RowKit Go.Sort
def SmlP (x : List Int) (e : Ending) : Prop := ∃ b : Bool, e = .returned (.bool b) ∧ (b = true → x.length ≤ 8 ∧ (chkRow x = 0 → ∀ z ∈ x, -1000 ≤ z ∧ z ≤ 1000))
set_option maxRecDepth 100000 in
set_option maxHeartbeats 4000000 in
theorem small20_any {w : World} {sx : Option Addr} {n cx : Nat} {x : List Int} (hx : RowR w (.slice sx n cx) x) (hn : x.length ≤ 9223372036854775807) :
    Calls Tryz.prog 11 #[.slice sx n cx] w fun e w' => SmlP x e ∧ Ext w w' := by
  have hrc := Lib.hid (fun W (hW : Ext w W) => rowCheck_any (hx.ext hW))
  obtain ⟨sa, gb, go, cap, e0, hc, hS⟩ := hx
  injection e0 with e1 e2 e3
  subst e1 e2 e3
  obtain ⟨z, hz⟩ : ∃ z, z = chkRow x := ⟨_, rfl⟩
  rw [← hz] at hrc
  have HS := Lib.hid hS
  have Hz := Lib.hid hz
  clear hz hS
  go_enter Tryz.func11, Tryz.ntmps11
  go_wp2_with fail
  go_loopw [2, 3] (fun rv iv wr => ∃ i : Nat, i ≤ x.length ∧ iv = .int .i64 i ∧ rv = .bool false ∧ Hid (z = 0 → ∀ j (h : j < x.length), j < i → -1000 ≤ x[j] ∧ x[j] ≤ 1000) ∧ Ext w wr) (fun _ iv _ => x.length - (intOf iv).toNat)
  case atStart => exact ⟨0, by omega, by go_num, rfl, Lib.hid (fun _ j _ h => by omega), Ext.refl _⟩
  case round =>
    obtain ⟨i, hi, rfl, rfl, HK, hE⟩ := hrel
    generalize wr = Y at *
    by_cases hlt : i < x.length
    · have hii : (i : Int) < (x.length : Int) := by omega
      obtain rfl := HS.out.addr (by simp; omega)
      have hcz := hE.cell (HS.out.cell i _ (is_get hlt))
      have hw1 : IntKind.i64.wrap ((i : Int) + 1) = ((i + 1 : Nat) : Int) := by rw [IntWalk.i64_in _ (by omega)]; push_cast; rfl
      obtain ⟨y, hy⟩ : ∃ y, y = x[i] := ⟨_, rfl⟩
      rw [← hy] at hcz
      have Hy := Lib.hid hy
      clear hy
      have hno : ¬ z = 0 → Hid (z = 0 → ∀ j (h : j < x.length), j < i + 1 → -1000 ≤ x[j] ∧ x[j] ≤ 1000) := fun h => Lib.hid (fun h0 => absurd h0 h)
      have hyes : (-1000 ≤ y ∧ y ≤ 1000) → Hid (z = 0 → ∀ j (h : j < x.length), j < i + 1 → -1000 ≤ x[j] ∧ x[j] ≤ 1000) := fun h => Lib.hid (fun h0 j hj hji => by
        by_cases e : j = i
        · subst e; rw [← Hy.out]; exact h
        · exact HK.out h0 j hj (by omega))
      by_cases hb1 : 1000 < y
      · clear hyes
        by_cases hz0 : z = 0
        · subst hz0
          clear hno
          go_wp2_with fail
          refine (hrc.out _ hE).mono ?_
          rintro e W ⟨rfl, hE2⟩
          go_wp2_with fail
          go_ret
          exact ⟨⟨false, rfl, fun h => by cases h⟩, hE.trans hE2⟩
        · have h2 : (z == 0) = false := beq_eq_false_iff_ne.2 hz0
          have Hk := hno hz0
          clear hno
          go_wp2_with fail
          refine (hrc.out _ hE).mono ?_
          rintro e W ⟨rfl, hE2⟩
          go_wp2_with fail
          go_roundw
          case rel => exact ⟨i + 1, by omega, by go_num, rfl, Hk, hE.trans hE2⟩
          case measure => simp [intOf] <;> omega
      · by_cases hb2 : y < -1000
        · clear hyes
          by_cases hz0 : z = 0
          · subst hz0
            clear hno
            go_wp2_with fail
            refine (hrc.out _ hE).mono ?_
            rintro e W ⟨rfl, hE2⟩
            go_wp2_with fail
            go_ret
            exact ⟨⟨false, rfl, fun h => by cases h⟩, hE.trans hE2⟩
          · have h2 : (z == 0) = false := beq_eq_false_iff_ne.2 hz0
            have Hk := hno hz0
            clear hno
            go_wp2_with fail
            refine (hrc.out _ hE).mono ?_
            rintro e W ⟨rfl, hE2⟩
            go_wp2_with fail
            go_roundw
            case rel => exact ⟨i + 1, by omega, by go_num, rfl, Hk, hE.trans hE2⟩
            case measure => simp [intOf] <;> omega
        · have Hk := hyes ⟨by omega, by omega⟩
          clear hno hyes
          go_wp2_with fail
          go_roundw
          case rel => exact ⟨i + 1, by omega, by go_num, rfl, Hk, hE⟩
          case measure => simp [intOf] <;> omega
    · obtain rfl : i = x.length := by omega
      have hend : ∀ b : Bool, (b = true → x.length ≤ 8) → SmlP x (.returned (.bool b)) := fun b hb => ⟨b, rfl, fun h => ⟨hb h, fun h0 v hv => by
        obtain ⟨j, hj, rfl⟩ := List.getElem_of_mem hv
        exact HK.out (Hz.out.trans h0) j hj hj⟩⟩
      have Hend := Lib.hid hend
      clear hend
      by_cases h8 : x.length ≤ 8
      · have h8I : (x.length : Int) ≤ 8 := by omega
        have Hr := Lib.hid (Hend.out true (fun _ => h8))
        clear HK h8
        go_wp2_with fail
        go_ret
        exact ⟨Hr.out, hE⟩
      · have h8I : ¬ (x.length : Int) ≤ 8 := by omega
        have Hr := Lib.hid (Hend.out false (fun h => by cases h))
        clear HK h8
        go_wp2_with fail
        go_ret
        exact ⟨Hr.out, hE⟩
set_option maxRecDepth 100000 in
set_option maxHeartbeats 4000000 in
theorem tempered20_any {w : World} {P : List Int} {C M : Mx} {sp : Option Addr} {cp : Nat} {sc : Option Addr} {lc cc : Nat} {sm : Option Addr} {lm cm : Nat} {sx : Option Addr} {n cx : Nat} {x : List Int} (h : TmV w P C M M sp cp sc lc cc sm lm cm) (hx : RowR w (.slice sx n cx) x) :
    Calls Tryz.prog 15 #[tmS P sp cp sc lc cc sm lm cm, .slice sx n cx] w fun e w' => e = .returned (.int .i64 (bgE M.length x)) ∧ Ext w w' := by
  have hX := (Ext.refl w).alloc (.cells #[.slice sp P.length cp, .slice sc lc cc, .slice sm lm cm] 34)
  have x0 : (w.alloc (.cells #[.slice sp P.length cp, .slice sc lc cc, .slice sm lm cm] 34)).cell? ⟨w.heap.size, 0, none⟩ = some (.slice sp P.length cp) := by go_simp
  have x1 : (w.alloc (.cells #[.slice sp P.length cp, .slice sc lc cc, .slice sm lm cm] 34)).cell? ⟨w.heap.size, 1, none⟩ = some (.slice sc lc cc) := by go_simp
  have x2 : (w.alloc (.cells #[.slice sp P.length cp, .slice sc lc cc, .slice sm lm cm] 34)).cell? ⟨w.heap.size, 2, none⟩ = some (.slice sm lm cm) := by go_simp
  have hrc := Lib.hid (fun W (hW : Ext w W) => rowCheck_any (hx.ext hW))
  have hn : n = x.length := by obtain ⟨_, _, _, _, e, _, _⟩ := hx; injection e
  have hlm : lm = M.length := by obtain ⟨_, _, _, _, _, e, _⟩ := h.hM; injection e
  subst hlm
  obtain ⟨z, hz⟩ : ∃ z, z = chkRow x := ⟨_, rfl⟩
  have hbg : bgE M.length x = if z = 0 then (if n = M.length then 0 else 5) else z := by rw [hz, hn]; rfl
  rw [hbg]
  rw [← hz] at hrc
  clear hz hbg hx hn h
  by_cases hz : z = 0
  · subst hz
    rw [if_pos rfl]
    by_cases hn : n = M.length
    · subst hn
      rw [if_pos rfl]
      go_enter Tryz.func15, Tryz.ntmps15
      go_wp2_with fail
      refine (hrc.out _ hX).mono ?_
      rintro e W ⟨rfl, hE2⟩
      have x0 := hE2.cell x0
      have x2 := hE2.cell x2
      go_wp2_with fail
      go_ret
      exact ⟨rfl, hX.trans hE2⟩
    · have h1 : ¬ ((n : Int) = (M.length : Int)) := by omega
      have h2 : ((n : Int) == (M.length : Int)) = false := beq_eq_false_iff_ne.2 h1
      have h3 : ((n : Int) != (M.length : Int)) = true := by simp [bne, h2]
      rw [if_neg hn]
      clear hn
      go_enter Tryz.func15, Tryz.ntmps15
      go_wp2_with fail
      refine (hrc.out _ hX).mono ?_
      rintro e W ⟨rfl, hE2⟩
      have x0 := hE2.cell x0
      have x2 := hE2.cell x2
      go_wp2_with fail
      go_ret
      exact ⟨rfl, hX.trans hE2⟩
  · have h2 : (z == 0) = false := beq_eq_false_iff_ne.2 hz
    have h3 : (z != 0) = true := by simp [bne, h2]
    rw [if_neg hz]
    go_enter Tryz.func15, Tryz.ntmps15
    go_wp2_with fail
    refine (hrc.out _ hX).mono ?_
    rintro e W ⟨rfl, hE2⟩
    go_wp2_with fail
    go_ret
    exact ⟨rfl, hX.trans hE2⟩
end Go.Proofs.YtkjnjmihfonilaaGreatDoor
namespace Go.Proofs.YtkjnjmihfonilaaGreatDoor
open Go.RowKit Go.Sort
theorem mat_of_rows {B : Nat} {w : World} {v : Value} {vs : List Value} {F : Mx} (h1 : vs.length = F.length) (h2 : w.ownsRow B 26 1 v F.length vs) (hr : ∀ i (h : i < F.length) (h' : i < vs.length), RowR w vs[i] F[i]) : MatR w v F := by
  rcases h2.2 with ⟨rfl, h0⟩ | ⟨g, cap, cur, rfl, hb, hg, hn, hm, hs, ht⟩
  · have : F = [] := List.eq_nil_of_length_eq_zero h0
    subst this
    have hv : vs = [] := List.eq_nil_of_length_eq_zero h1
    subst hv
    exact ⟨none, 0, 0, 0, [], rfl, Nat.le_refl _, rfl, Sl.nil _ _ _ _, hr⟩
  · have ho : OwnV 26 B w g cap vs := by unfold OwnV; rw [h1]; exact h2
    exact ⟨_, g, 0, cap, vs, rfl, hn, h1, ho.sl, hr⟩
section
variable {w : World} {ops : Array Oper} {rest : List Oper} {o : Oper} {a : Act} {Q : Exit → Act → World → Prop}
theorem app_val (hgd : o.guard = none) (s x : Operand) (t : TypeId) (ht : Tryz.prog.underlying t = some (.slice 26)) (ho : o.op = .call { callee := .builtin .append, args := #[s, x], argTypes := #[t, t] })
    {B : Nat} {v rv : Value} {n : Nat} {vs : List Value} (hs : a.eval s = v) (hown : w.ownsRow B 26 1 v n vs) {b : Nat} (hx : a.eval x = .slice (some ⟨b, 0, none⟩) 1 1) (hc : w.cell? ⟨b, 0, none⟩ = some rv) (hr : rv.oneCell' = true) (hl : n ≤ 1000000000) (hB : B ≤ w.heap.size)
    (h : ∀ g cap w', w'.ownsRow B 26 1 (slv g (n + 1) cap) (n + 1) (vs ++ [rv]) → Below B w w' → wpList Tryz.prog ops Q rest (a.put o.dst (slv g (n + 1) cap)) w') : wpList Tryz.prog ops Q (o :: rest) a w := by
  obtain ⟨i0, hi, hz0, hz1, hz2⟩ := info_parts Tryz.infoRow
  refine wpList_append_lies w hgd s x t ho B 26 i0 _ 1 24 ht hi hz0 hz1 hz2 rfl (by omega) v n vs hs hown ⟨b, 0, none⟩ 1 1 [rv] hx rfl ?_ ?_ (by omega) (by unfold maxLen; omega) (by omega) hB w.heap.size rfl ?_
  · intro j u hj
    have : j = 0 := by have := (List.getElem?_eq_some_iff.1 hj).1; simp at this; omega
    subst this
    simp only [List.getElem?_cons_zero, Option.some.injEq] at hj
    subst hj
    simpa [Addr.add_lit] using hc
  · intro u hu
    simp only [List.mem_cons, List.not_mem_nil, or_false] at hu
    subst hu; exact hr
  · intro g cap w' k1 k2 k3 k4
    exact h g cap w' k1 (Below.grown (Below.refl _ _) k2 hB (fun q hq => (World.ownsRow.lt hown q hq).1))
end
def RwsP (L : Mx) (e : Ending) (w' : World) : Prop := ∃ v, e = .returned v ∧ MatR w' v L
set_option maxRecDepth 100000 in
set_option maxHeartbeats 4000000 in
theorem rows20_any {w : World} {sl : Option Addr} {nl cl : Nat} {L : Mx} (hl : MatR w (.slice sl nl cl) L) (hbig : L.length ≤ 1000000) :
    Calls Tryz.prog 18 #[.slice sl nl cl] w fun e w' => RwsP L e w' ∧ Ext w w' := by
  obtain ⟨sl', gl, ol, cl', vs, el, hlc, hvl, hSl, hrl⟩ := hl
  injection el with q4 q5 q6
  subst q4 q6 q5
  have HS := Lib.hid hSl
  have HV := Lib.hid hvl
  have HR := Lib.hid hrl
  clear hSl hvl hrl
  go_enter Tryz.func18, Tryz.ntmps18
  go_wp2_with fail
  go_loopw [3, 4] (fun out iv wr => ∃ i : Nat, i ≤ L.length ∧ iv = .int .i64 i ∧ Hid (wr.ownsRow w.heap.size 26 1 out i (vs.take i)) ∧ Ext w wr) (fun _ iv _ => L.length - (intOf iv).toNat)
  case atStart => exact ⟨0, by omega, by go_num, Lib.hid ⟨rfl, .inl ⟨rfl, rfl⟩⟩, Ext.refl _⟩
  case round =>
    obtain ⟨i, hi, rfl, HO, hE⟩ := hrel
    rename_i out wr'
    generalize wr = Y at *
    by_cases hlt : i < L.length
    · have hii : (i : Int) < (L.length : Int) := by omega
      obtain rfl := HS.out.addr (by rw [HV.out]; omega)
      have hiv : i < vs.length := by rw [HV.out]; exact hlt
      obtain ⟨sr, br, or, cr, hv, hrc, hSr⟩ := HR.out i hlt hiv
      have hrow := HS.out.cell i _ (List.getElem?_eq_getElem hiv)
      rw [hv] at hrow
      have hrY := hE.cell hrow
      have Htk := Lib.hid (show vs.take (i + 1) = vs.take i ++ [.slice sr L[i].length cr] by rw [List.take_add_one, List.getElem?_eq_getElem hiv, hv]; rfl)
      generalize L[i].length = nr at *
      have hYs := hE.size
      clear hv hSr hrow hrc hiv
      have ea := (Ext.refl Y).alloc (.cells #[.slice sr nr cr] 26)
      go_wp2_with (at_builtin; refine app_val rfl _ _ 32 Tryz.underlying32 rfl rfl (ownsRow_ext HO.out ea) (b := Y.heap.size) (rv := .slice sr nr cr) rfl (by go_simp) rfl (by omega) (by simp; omega) ?_; intro g9 cap9 w9 hO9 hB9; rw [← Htk.out] at hO9; have HO9 := Lib.hid hO9; have e9 : Ext w w9 := Below.trans (hE.trans ea) hB9; clear hO9 hB9)
      go_roundw
      case rel => exact ⟨i + 1, by omega, by go_num, HO9, e9⟩
      case measure => simp [intOf] <;> omega
    · obtain rfl : i = L.length := by omega
      have Hres := Lib.hid (show MatR Y _ L from mat_of_rows (by rw [← HV.out, List.take_length]) HO.out (fun j h h' => by
        rw [List.getElem_take]; exact (HR.out j h (by rw [HV.out]; exact h)).ext hE))
      go_wp2_with fail
      go_ret
      exact ⟨⟨_, rfl, Hres.out⟩, hE⟩
set_option maxRecDepth 100000 in
set_option maxHeartbeats 4000000 in
theorem same20_any {w : World} {sa sb : Option Addr} {na nb ca cb : Nat} {A B : Mx} (hA : MatR w (.slice sa na ca) A) (hB : MatR w (.slice sb nb cb) B) (hbig : A.length ≤ 1000000) (hrow : ∀ r ∈ A, r.length ≤ 1000000) :
    Calls Tryz.prog 17 #[.slice sa na ca, .slice sb nb cb] w fun e w' => e = .returned (.bool (decide (A = B))) ∧ Ext w w' := by
  obtain ⟨sa', ga, oa, ca', va, el, hlc, hvl, hSl, hrl⟩ := hA
  injection el with q4 q5 q6
  subst q4 q6 q5
  obtain ⟨sb', gb, ob, cb', vb, el, hlc2, hvl2, hSl2, hrl2⟩ := hB
  injection el with q4 q5 q6
  subst q4 q6 q5
  have HSa := Lib.hid hSl
  have HVa := Lib.hid hvl
  have HRa := Lib.hid hrl
  have HSb := Lib.hid hSl2
  have HVb := Lib.hid hvl2
  have HRb := Lib.hid hrl2
  have Hrw := Lib.hid hrow
  clear hSl hvl hrl hSl2 hvl2 hrl2 hrow hlc hlc2
  by_cases hl : A.length = B.length
  · have Hl := Lib.hid hl
    obtain ⟨n, hn⟩ : ∃ n, n = A.length := ⟨_, rfl⟩
    rw [← hl, ← hn]
    rw [← hn] at hbig
    have Hn := Lib.hid hn
    clear hl hn
    go_enter Tryz.func17, Tryz.ntmps17
    go_wp2_with fail
    go_loopw [4, 5] (fun rv iv wr => ∃ i : Nat, i ≤ n ∧ iv = .int .i64 i ∧ rv = .bool false ∧ Hid (∀ j, j < i → A.getD j [] = B.getD j []) ∧ Ext w wr) (fun _ iv _ => n - (intOf iv).toNat)
    case atStart => exact ⟨0, by omega, by go_num, rfl, Lib.hid (fun j h => by omega), Ext.refl _⟩
    case round =>
      obtain ⟨i, hi, rfl, rfl, HK, hE⟩ := hrel
      generalize wr = U at *
      by_cases hlt : i < n
      · have hii : (i : Int) < (n : Int) := by omega
        have hia : i < A.length := by rw [← Hn.out]; exact hlt
        have hib : i < B.length := by rw [← Hl.out]; exact hia
        obtain rfl := HSa.out.addr (by rw [HVa.out]; omega)
        obtain rfl := HSb.out.addr (by rw [HVb.out]; omega)
        obtain ⟨sr, br, or, cr, hrow, hrc, hSr⟩ := MatR.row HSa.out HVa.out HRa.out hia
        obtain ⟨sr2, br2, or2, cr2, hrow2, hrc2, hSr2⟩ := MatR.row HSb.out HVb.out HRb.out hib
        have hU1 := hE.cell hrow
        have hU2 := hE.cell hrow2
        have c1 := Lib.hid (fun W (hW : Ext U W) => Same_any ((⟨_, _, _, _, rfl, hrc, hSr.ext (hE.trans hW)⟩ : RowR W (.slice sr A[i].length cr) A[i])) ((⟨_, _, _, _, rfl, hrc2, hSr2.ext (hE.trans hW)⟩ : RowR W (.slice sr2 B[i].length cr2) B[i])) (Hrw.out _ (List.getElem_mem hia)))
        have Hga := Lib.hid (show A.getD i [] = A[i] from getD_get hia _)
        have Hgb := Lib.hid (show B.getD i [] = B[i] from getD_get hib _)
        have hxy : (A[i] = B[i] → Hid (∀ j, j < i + 1 → A.getD j [] = B.getD j [])) := fun h => Lib.hid (fun j hj => by
          by_cases e : j = i
          · subst e; rw [Hga.out, Hgb.out, h]
          · exact HK.out j (by omega))
        have hno : (¬ A[i] = B[i] → Hid (decide (A = B) = false)) := fun h => Lib.hid (decide_eq_false (fun e => h (by rw [← Hga.out, ← Hgb.out, e])))
        obtain ⟨q, hq⟩ : ∃ q, q = decide (A[i] = B[i]) := ⟨_, rfl⟩
        rw [← hq] at c1
        have Hq := Lib.hid hq
        generalize A[i].length = nr at *
        generalize B[i].length = nr2 at *
        clear hSr hSr2 hrc hrc2 hrow hrow2 hq
        go_wp2_with fail
        have dd : Ext U U.drew := (Ext.refl U).drew
        refine wp_region_held_tail (S := fun W => Ext U W) 9 (by kernel_rfl) (by simp) ?_
        intro inv
        generalize U.drew = U1 at *
        refine wpAnyLH_take (i := 0) (v := .slice (some ⟨ga, oa, none⟩) n ca) rfl (by kernel_rfl) (fun _ _ _ h => h) (.inl ⟨by rfl, fun W hW => by go_simp⟩) dd inv ?_
        intro inv
        go_simp
        refine wpAnyLH_take (i := 1) (v := .int .i64 i) rfl (by kernel_rfl) (fun _ _ _ h => h) (.inl ⟨by rfl, fun W hW => by go_simp⟩) dd inv ?_
        intro inv
        go_simp
        refine wpAnyLH_take (i := 2) (v := .pointer (some ⟨ga, oa + i, none⟩)) rfl (by kernel_rfl) (fun _ _ _ h => h) (.inl ⟨by rfl, fun W hW => by go_simp⟩) dd inv ?_
        intro inv
        go_simp
        refine wpAnyLH_take (i := 3) (v := .slice sr nr cr) rfl (by kernel_rfl) (fun _ _ _ h => h) (.inl ⟨by rfl, fun W hW => by have q0 := hW.cell hU1; go_simp⟩) dd inv ?_
        intro inv
        go_simp
        refine wpAnyLH_take (i := 4) (v := .slice (some ⟨gb, ob, none⟩) n cb) rfl (by kernel_rfl) (fun _ _ _ h => h) (.inl ⟨by rfl, fun W hW => by go_simp⟩) dd inv ?_
        intro inv
        go_simp
        refine wpAnyLH_take (i := 5) (v := .int .i64 i) rfl (by kernel_rfl) (fun _ _ _ h => h) (.inl ⟨by rfl, fun W hW => by go_simp⟩) dd inv ?_
        intro inv
        go_simp
        refine wpAnyLH_take (i := 6) (v := .pointer (some ⟨gb, ob + i, none⟩)) rfl (by kernel_rfl) (fun _ _ _ h => h) (.inl ⟨by rfl, fun W hW => by go_simp⟩) dd inv ?_
        intro inv
        go_simp
        refine wpAnyLH_take (i := 7) (v := .slice sr2 nr2 cr2) rfl (by kernel_rfl) (fun _ _ _ h => h) (.inl ⟨by rfl, fun W hW => by have q0 := hW.cell hU2; go_simp⟩) dd inv ?_
        intro inv
        go_simp
        refine wpAnyLH_oneI (i := 8) rfl (by kernel_rfl) inv (fun inv K0 hK0 => ?_)
        go_simp
        refine (c1.out _ dd).mono ?_
        rintro e U2 ⟨rfl, hG⟩
        have d2 := dd.trans hG
        refine hK0 _ _ d2 ?_
        clear hK0
        refine wpAnyLH_end (by kernel_rfl) ?_
        have eU := hE.trans d2
        clear inv c1 hG dd d2
        cases q
        · have Hd := hno (of_decide_eq_false Hq.out.symm)
          clear hxy hno
          go_wp2_with fail
          go_ret
          exact ⟨by rw [Hd.out]; rfl, eU⟩
        · have Hk := hxy (of_decide_eq_true Hq.out.symm)
          clear hxy hno
          go_wp2_with fail
          go_roundw
          case rel => exact ⟨i + 1, by omega, by go_num, rfl, Hk, eU⟩
          case measure => simp [intOf] <;> omega
      · have Hd := Lib.hid (show decide (A = B) = true from decide_eq_true (List.ext_getElem Hl.out (fun j h1 h2 => by
          have := HK.out j (by have := Hn.out; omega)
          rwa [getD_get h1, getD_get h2] at this)))
        go_wp2_with fail
        go_ret
        exact ⟨by rw [Hd.out]; rfl, hE⟩
  · have hne : decide (A = B) = false := decide_eq_false (fun e => hl (by rw [e]))
    rw [hne]
    have h1 : ¬ ((A.length : Int) = (B.length : Int)) := by omega
    have h2 : ((A.length : Int) == (B.length : Int)) = false := beq_eq_false_iff_ne.2 h1
    have h3 : ((A.length : Int) != (B.length : Int)) = true := by simp [bne, h2]
    clear hne HSa HVa HRa HSb HVb HRb Hrw
    generalize A.length = n at *
    generalize B.length = m at *
    go_enter Tryz.func17, Tryz.ntmps17
    go_wp2_with fail
    go_ret
    exact ⟨rfl, Ext.refl _⟩
end Go.Proofs.YtkjnjmihfonilaaGreatDoor
namespace Go.Proofs.YtkjnjmihfonilaaGreatDoor
open Go.RowKit Go.Sort
def numV (P y : List Int) : Nat → Nat
  | 0 => 1
  | k + 1 => numV P y k * (P.getD k 0).toNat ^ (y.getD k 0).toNat
def denV (P y : List Int) : Nat → Nat
  | 0 => 1
  | k + 1 => denV P y k * (P.getD k 0).toNat ^ (-(y.getD k 0)).toNat
theorem num_den (P y : List Int) : ∀ k, numV P y k * denV P y k = hgt P y k
  | 0 => rfl
  | k + 1 => by
    have ih := num_den P y k
    have hp : (P.getD k 0).toNat ^ (y.getD k 0).toNat * (P.getD k 0).toNat ^ (-(y.getD k 0)).toNat = (P.getD k 0).toNat ^ (y.getD k 0).natAbs := by
      rw [← Nat.pow_add]; congr 1; omega
    rw [numV, denV, hgt, ← hp, ← ih]
    simp only [Nat.mul_assoc, Nat.mul_left_comm, Nat.mul_comm]
theorem mul_nd {a b x y : Nat} (ha : Lib.nDigits a ≤ x) (hb : Lib.nDigits b ≤ y) : Lib.nDigits (a * b) ≤ x + y := by
  have h3 := nd_mul (a : Int) (b : Int)
  unfold nd at h3
  rw [Int.natAbs_mul, Int.natAbs_natCast, Int.natAbs_natCast] at h3
  omega
theorem one_nd : Lib.nDigits 1 ≤ 1 := by have := nDigits_le (u := 1) (k := 1) (by omega) (by omega); omega
theorem numV_nd {P y : List Int} (hP : ∀ x ∈ P, SmP x) (hl : y.length = P.length) (hs : ∀ z ∈ y, -1000 ≤ z ∧ z ≤ 1000) : ∀ k, k ≤ y.length → Lib.nDigits (numV P y k) ≤ 1 + 4002 * k
  | 0, _ => one_nd
  | k + 1, hk => by
    have hp := hP _ (List.getElem_mem (show k < P.length by omega))
    have hz := hs _ (List.getElem_mem (show k < y.length by omega))
    have h2 := pow_nd (p := (P.getD k 0).toNat) (n := (y.getD k 0).toNat) (by rw [getD_get (show k < P.length by omega)]; unfold SmP at hp; omega) (by rw [getD_get (show k < y.length by omega)]; omega)
    have := mul_nd (numV_nd hP hl hs k (by omega)) h2
    rw [numV]
    refine Nat.le_trans this ?_
    clear this h2 hz hp
    omega
theorem denV_nd {P y : List Int} (hP : ∀ x ∈ P, SmP x) (hl : y.length = P.length) (hs : ∀ z ∈ y, -1000 ≤ z ∧ z ≤ 1000) : ∀ k, k ≤ y.length → Lib.nDigits (denV P y k) ≤ 1 + 4002 * k
  | 0, _ => one_nd
  | k + 1, hk => by
    have hp := hP _ (List.getElem_mem (show k < P.length by omega))
    have hz := hs _ (List.getElem_mem (show k < y.length by omega))
    have h2 := pow_nd (p := (P.getD k 0).toNat) (n := (-(y.getD k 0)).toNat) (by rw [getD_get (show k < P.length by omega)]; unfold SmP at hp; omega) (by rw [getD_get (show k < y.length by omega)]; omega)
    have := mul_nd (denV_nd hP hl hs k (by omega)) h2
    rw [denV]
    refine Nat.le_trans this ?_
    clear this h2 hz hp
    omega
set_option maxRecDepth 100000 in
set_option maxHeartbeats 8000000 in
theorem value12_ok {w : World} {vp : Value} {P : List Int} {sx : Option Addr} {n cx : Nat} {x : List Int} (hP : RowR w vp P) (hp4 : P.length ≤ 4) (hpr : ∀ x ∈ P, SmP x) (hx : RowR w (.slice sx n cx) x) (hl : x.length = P.length) (hs : ∀ z ∈ x, -1000 ≤ z ∧ z ≤ 1000) (hL : Laid w) :
    Calls Tryz.prog 44 #[vp, .slice sx n cx] w fun e w' => e = .returned (.tuple #[I (numV P x x.length), I (denV P x x.length)]) ∧ Ext w w' := by
  have Hnn := Lib.hid (numV_nd hpr hl hs)
  have Hdn := Lib.hid (denV_nd hpr hl hs)
  have Hpr := Lib.hid hpr
  have Hs := Lib.hid hs
  have HL := Lib.hid hL
  obtain ⟨sp, gp, op, cp, rfl, hpc, hSp⟩ := hP
  obtain ⟨sx', gx, ox, cx', ex, hxc, hSx⟩ := hx
  injection ex with q1 q2 q3
  subst q1 q3
  have HSx := Lib.hid hSx
  have HSp := Lib.hid hSp
  rw [← hl] at hpc ⊢
  rw [← q2] at hpc hxc Hnn Hdn ⊢
  have Hn := Lib.hid q2
  have Hl := Lib.hid hl
  have hn4 : n ≤ 4 := by omega
  have H1 := Lib.hid (show I 1 = .string ⟨#[49]⟩ by
    have h1 : Lib.itoa 1 = [49] := by decide +kernel
    unfold I S; rw [h1])
  clear hSp hSx q2 hl hs hpr hL hp4
  go_enter Tryz.func44, Tryz.ntmps44
  go_wp2_with fail
  go_loopw [4, 5, 6, 7, 8] (fun nv dv idx av bv wr => ∃ i : Nat, i ≤ n ∧ idx = .int .i64 i ∧ nv = I (numV P x i) ∧ dv = I (denV P x i) ∧ Ext w wr) (fun _ _ idx _ _ _ => n - (intOf idx).toNat)
  case atStart => exact ⟨0, by omega, by go_num, H1.out.symm, H1.out.symm, Ext.refl _⟩
  case round =>
    obtain ⟨i, hi, rfl, rfl, rfl, hE⟩ := hrel
    generalize wr = Y at *
    by_cases hil : i < n
    · have hii : (i : Int) < (n : Int) := by omega
      have hix : i < x.length := by rw [← Hn.out]; exact hil
      have hip : i < P.length := by rw [← Hl.out]; exact hix
      obtain ⟨z, hz⟩ : ∃ z, z = x[i] := ⟨_, rfl⟩
      obtain ⟨p, hp⟩ : ∃ p : Nat, p = P[i].toNat := ⟨_, rfl⟩
      have hsp := Hpr.out _ (List.getElem_mem hip)
      have hpz : P[i] = (p : Int) := by unfold SmP at hsp; omega
      have hcz := (HSx.out.cell i (.int .i64 z) (by rw [hz]; exact is_get hix))
      have hcp := (HSp.out.cell i (.int .i64 p) (by rw [← hpz]; exact is_get hip))
      obtain rfl := HSx.out.addr (by simp; omega)
      obtain rfl := HSp.out.addr (by simp; omega)
      have hzb := Hs.out z (by rw [hz]; exact List.getElem_mem hix)
      have hp16 : p < 16 := by unfold SmP at hsp; omega
      have hof := Lib.hid (fun W (hW : Ext w W) => wholeOf_any (n := (p : Int)) (w := W) (by omega) (by omega) (HL.out.ext hW))
      have Hsn := Lib.hid (show numV P x (i + 1) = numV P x i * p ^ z.toNat by rw [numV, getD_get hip, getD_get hix, ← hz, hpz]; rfl)
      have Hsd := Lib.hid (show denV P x (i + 1) = denV P x i * p ^ (-z).toNat by rw [denV, getD_get hip, getD_get hix, ← hz, hpz]; rfl)
      obtain ⟨a, ha⟩ : ∃ a, a = numV P x i := ⟨_, rfl⟩
      obtain ⟨d, hd⟩ : ∃ d, d = denV P x i := ⟨_, rfl⟩
      have Hp16 := Lib.hid hp16
      have hpnd : Lib.nDigits p ≤ 2 := nDigits_le (by omega) (by omega)
      have ham := Lib.hid (fun W (hW : Ext w W) (k : Nat) (hk : k ≤ 1000) => Mul_any (a := ((a * p ^ k : Nat) : Int)) (b := (p : Int)) (w := W) (by
        have h1 := Hnn.out i (by omega)
        rw [← ha] at h1
        have h2 := mul_nd h1 (pow_nd (p := p) (n := k) hp16 hk)
        unfold nd; rw [Int.natAbs_natCast, Int.natAbs_natCast]; unfold LIM; omega) (HL.out.ext hW))
      have hdm := Lib.hid (fun W (hW : Ext w W) (k : Nat) (hk : k ≤ 1000) => Mul_any (a := ((d * p ^ k : Nat) : Int)) (b := (p : Int)) (w := W) (by
        have h1 := Hdn.out i (by omega)
        rw [← hd] at h1
        have h2 := mul_nd h1 (pow_nd (p := p) (n := k) hp16 hk)
        unfold nd; rw [Int.natAbs_natCast, Int.natAbs_natCast]; unfold LIM; omega) (HL.out.ext hW))
      have hpw := Lib.hid (fun (a k : Nat) => show ((a * p ^ k : Nat) : Int) * (p : Int) = ((a * p ^ (k + 1) : Nat) : Int) by
        rw [Nat.pow_succ, ← Nat.mul_assoc]; push_cast; rfl)
      rw [← ha] at Hsn
      rw [← hd] at Hsd
      rw [← ha, ← hd]
      have Ha0 := Lib.hid (show ((a * p ^ 0 : Nat) : Int) = (a : Int) by rw [Nat.pow_zero, Nat.mul_one])
      have Hd0 := Lib.hid (show ((d * p ^ 0 : Nat) : Int) = (d : Int) by rw [Nat.pow_zero, Nat.mul_one])
      clear ha hd hz hp hpz hsp
      go_wp2_with fail
      go_loopw [4, 7] (fun nv kv wr => ∃ k : Nat, k ≤ z.toNat ∧ kv = .int .i64 k ∧ nv = I ((a * p ^ k : Nat) : Int) ∧ Ext w wr) (fun _ kv _ => z.toNat - (intOf kv).toNat)
      case atStart => exact ⟨0, by omega, by go_num, by rw [Ha0.out], hE⟩
      case round =>
        obtain ⟨k, hk, rfl, rfl, hE1⟩ := hrel
        generalize wr = U at *
        have u1 := hE1.cell hcz
        have u2 := hE1.cell hcp
        by_cases hk1 : (k : Int) < z
        · go_wp2_with fail
          refine (hof.out _ hE1).mono ?_
          rintro e W ⟨rfl, hF⟩
          go_wp2_with fail
          refine (ham.out _ (hE1.trans hF) k (by omega)).mono ?_
          rintro e W2 ⟨rfl, hF2⟩
          rw [hpw.out]
          have eF := (hE1.trans hF).trans hF2
          go_wp2_with fail
          go_roundw
          case rel => exact ⟨k + 1, by omega, by go_num, rfl, eF⟩
          case measure => simp [intOf] <;> omega
        · obtain rfl : k = z.toNat := by omega
          rw [← Hsn.out]
          clear ham hk u2
          go_wp2_with fail
          go_loopw [5, 8] (fun dv kv wr => ∃ k : Nat, k ≤ (-z).toNat ∧ kv = .int .i64 (-(k : Int)) ∧ dv = I ((d * p ^ k : Nat) : Int) ∧ Ext w wr) (fun _ kv _ => (-z).toNat - (-(intOf kv)).toNat)
          case atStart => exact ⟨0, by omega, by go_num, by rw [Hd0.out], hE1⟩
          case round =>
            obtain ⟨k, hk, rfl, rfl, hE2⟩ := hrel
            generalize wr = V at *
            have u1 := hE2.cell hcz
            have u2 := hE2.cell hcp
            by_cases hk1 : z < -(k : Int)
            · go_wp2_with fail
              refine (hof.out _ hE2).mono ?_
              rintro e W ⟨rfl, hF⟩
              go_wp2_with fail
              refine (hdm.out _ (hE2.trans hF) k (by omega)).mono ?_
              rintro e W2 ⟨rfl, hF2⟩
              rw [hpw.out]
              have eF := (hE2.trans hF).trans hF2
              go_wp2_with fail
              go_roundw
              case rel => exact ⟨k + 1, by omega, by first | go_num | (congr 1; omega), rfl, eF⟩
              case measure => simp [intOf] <;> omega
            · obtain rfl : k = (-z).toNat := by omega
              rw [← Hsd.out]
              clear hdm hk u2
              go_wp2_with fail
              go_roundw
              case rel => exact ⟨i + 1, by omega, by go_num, rfl, rfl, hE2⟩
              case measure => simp [intOf] <;> omega
    · obtain rfl : i = n := by omega
      go_wp2_with fail
      go_ret2
      exact ⟨rfl, hE⟩
end Go.Proofs.YtkjnjmihfonilaaGreatDoor
namespace Go.Proofs.YtkjnjmihfonilaaGreatDoor
open Go.RowKit Go.Sort
def SimP (P : List Int) (L : Mx) (e : Ending) (w' : World) : Prop := ∃ s n c, e = .returned (.slice s n c) ∧ RowR w' (.slice s n c) (L.getD (bstI (hgtA P) L L.length) [])
theorem cmpZ_lt {a b : Int} : (cmpZ a b < 0) = (a < b) := by
  unfold cmpZ
  by_cases h : a < b
  · rw [if_pos h]; simp [h]
  · rw [if_neg h]
    by_cases h2 : b < a
    · rw [if_pos h2]; simp [h]
    · rw [if_neg h2]; simp [h]
set_option maxRecDepth 100000 in
set_option maxHeartbeats 8000000 in
theorem simplest20_ok {w : World} {vp : Value} {P : List Int} {sl : Option Addr} {nl cl : Nat} {L : Mx} (hP : RowR w vp P) (hp4 : P.length ≤ 4) (hpr : ∀ x ∈ P, SmP x) (hl : MatR w (.slice sl nl cl) L) (hbig : L.length ≤ 1000000) (h0 : 0 < L.length) (hm : ∀ y ∈ L, y.length = P.length ∧ ∀ z ∈ y, -1000 ≤ z ∧ z ≤ 1000) (hL : Laid w) :
    Calls Tryz.prog 20 #[vp, .slice sl nl cl] w fun e w' => SimP P L e w' ∧ Ext w w' := by
  have hval := Lib.hid (fun W s c y (hW : Ext w W) (hy : RowR W (.slice s (List.length y) c) y) (h1 : List.length y = P.length) (h2 : ∀ z ∈ y, -1000 ≤ z ∧ z ≤ 1000) => value12_ok (hP.ext hW) hp4 hpr hy h1 h2 (hL.ext hW))
  have Hnum := Lib.hid (fun y (h1 : List.length y = P.length) (h2 : ∀ z ∈ y, -1000 ≤ z ∧ z ≤ 1000) => numV_nd hpr h1 h2 y.length (Nat.le_refl _))
  have Hden := Lib.hid (fun y (h1 : List.length y = P.length) (h2 : ∀ z ∈ y, -1000 ≤ z ∧ z ≤ 1000) => denV_nd hpr h1 h2 y.length (Nat.le_refl _))
  have Hhgt := Lib.hid (fun y (h1 : List.length y = P.length) (h2 : ∀ z ∈ y, -1000 ≤ z ∧ z ≤ 1000) => hgt_nd hpr h1 h2 y.length (Nat.le_refl _))
  have HL := Lib.hid hL
  have Hm := Lib.hid hm
  have Hp4 := Lib.hid hp4
  obtain ⟨sp, gp, op, cp, rfl, hpc, hSp⟩ := hP
  obtain ⟨sl', gl, ol, cl', vs, el, hlc, hvl, hSl, hrl⟩ := hl
  injection el with q4 q5 q6
  subst q4 q6 q5
  have HS := Lib.hid hSl
  have HV := Lib.hid hvl
  have HR := Lib.hid hrl
  have H0 := Lib.hid h0
  clear hSl hvl hrl hSp hm hp4 hpr hL hpc h0
  go_enter Tryz.func20, Tryz.ntmps20
  go_wp2_with fail
  go_loopw [5, 6, 7, 8, 9, 10] (fun bv lv idx nv dv hv wr => ∃ i : Nat, i ≤ L.length ∧ idx = .int .i64 i ∧ bv = .int .i64 (bstI (hgtA P) L i : Nat) ∧ Hid ((i = 0 ∧ lv = .string ⟨#[]⟩) ∨ (0 < i ∧ lv = I ((hgtA P (L.getD (bstI (hgtA P) L i) []) : Nat) : Int))) ∧ Ext w wr) (fun _ _ idx _ _ _ _ => L.length - (intOf idx).toNat)
  case atStart => exact ⟨0, by omega, by go_num, rfl, Lib.hid (.inl ⟨rfl, rfl⟩), Ext.refl _⟩
  case round =>
    obtain ⟨i, hi, rfl, rfl, HK, hE⟩ := hrel
    generalize wr = Y at *
    by_cases hlt : i < L.length
    · have hii : (i : Int) < (L.length : Int) := by omega
      obtain rfl := HS.out.addr (by rw [HV.out]; omega)
      obtain ⟨sr, br, or, cr, hrow, hrc, hSr⟩ := MatR.row HS.out HV.out HR.out hlt
      have hrY := hE.cell hrow
      have hmi := Hm.out _ (List.getElem_mem hlt)
      have hv := Lib.hid (hval.out Y sr cr L[i] hE ⟨_, _, _, _, rfl, hrc, hSr.ext hE⟩ hmi.1 hmi.2)
      have hgi : L.getD i [] = L[i] := getD_get hlt _
      have hp := Hp4.out
      have n1 := Hnum.out _ hmi.1 hmi.2
      have n2 := Hden.out _ hmi.1 hmi.2
      have n3 : Lib.nDigits (hgtA P L[i]) ≤ 1 + 4002 * L[i].length := Hhgt.out _ hmi.1 hmi.2
      have hnd := num_den P L[i] L[i].length
      rw [show hgt P L[i] L[i].length = hgtA P L[i] from rfl] at hnd
      obtain ⟨a, ha⟩ : ∃ a, a = numV P L[i] L[i].length := ⟨_, rfl⟩
      obtain ⟨d, hd⟩ : ∃ d, d = denV P L[i] L[i].length := ⟨_, rfl⟩
      obtain ⟨h, hh⟩ : ∃ h, h = hgtA P L[i] := ⟨_, rfl⟩
      rw [← ha, ← hd] at hv hnd
      rw [← ha] at n1
      rw [← hd] at n2
      rw [← hh] at n3 hnd
      have hlen := hmi.1
      have hmu := Lib.hid (fun W (hW : Ext w W) => Mul_any (a := (a : Int)) (b := (d : Int)) (w := W) (by unfold nd; rw [Int.natAbs_natCast, Int.natAbs_natCast]; unfold LIM; omega) (HL.out.ext hW))
      rw [show (a : Int) * (d : Int) = (h : Int) by rw [← hnd]; push_cast; rfl] at hmu
      have hndh : nd (h : Int) ≤ LIM := by unfold nd; rw [Int.natAbs_natCast]; unfold LIM; omega
      have Hgi := Lib.hid hgi
      have Hh := Lib.hid hh
      generalize L[i].length = nr at *
      clear ha hd hh hgi hmi hSr hrow hrc n1 n2 n3 hnd hlen hp
      rcases HK.out with ⟨hi0, rfl⟩ | ⟨hi0, rfl⟩
      · subst hi0
        have Hb := Lib.hid (show bstI (hgtA P) L 1 = 0 by rw [bstI, if_pos (.inl rfl)])
        rw [Nat.add_zero] at hrY
        clear HK
        go_wp2_with fail
        refine hv.out.mono ?_
        rintro e W ⟨rfl, hF⟩
        go_wp2_with fail
        refine (hmu.out _ (hE.trans hF)).mono ?_
        rintro e W2 ⟨rfl, hF2⟩
        have eF := (hE.trans hF).trans hF2
        go_wp2_with fail
        go_roundw
        case rel => exact ⟨1, by omega, by go_num, by rw [Hb.out]; rfl, Lib.hid (.inr ⟨by omega, by rw [Hb.out, Hgi.out, Hh.out]⟩), eF⟩
        case measure => simp [intOf] <;> omega
      · have hi0I : ¬ (i : Int) = 0 := by omega
        have hbl := bstI_lt (h := hgtA P) (L := L) hi0
        have hmb := Hm.out _ (List.getElem_mem (show bstI (hgtA P) L i < L.length by omega))
        have hndb : nd ((hgtA P (L.getD (bstI (hgtA P) L i) []) : Nat) : Int) ≤ LIM := by
          rw [getD_get (show bstI (hgtA P) L i < L.length by omega)]
          unfold nd; rw [Int.natAbs_natCast]
          refine Nat.le_trans (Hhgt.out _ hmb.1 hmb.2) ?_
          have h2 := Hp4.out
          have h3 := hmb.1
          unfold LIM; omega
        obtain ⟨q, hq⟩ : ∃ q, q = bstI (hgtA P) L i := ⟨_, rfl⟩
        rw [← hq] at hndb hbl ⊢
        obtain ⟨hb, hhb⟩ : ∃ hb, hb = hgtA P (L.getD q []) := ⟨_, rfl⟩
        rw [← hhb] at hndb ⊢
        have hcm := Lib.hid (fun W => Compare_any (a := (h : Int)) (b := (hb : Int)) hndh hndb W)
        have hcl : (cmpZ (h : Int) (hb : Int) < 0) = ((h : Int) < (hb : Int)) := cmpZ_lt
        obtain ⟨c, hc⟩ : ∃ c, c = cmpZ (h : Int) (hb : Int) := ⟨_, rfl⟩
        rw [← hc] at hcm hcl
        have Hst := Lib.hid (show bstI (hgtA P) L (i + 1) = if i = 0 ∨ h < hb then i else q by rw [bstI, Hgi.out, ← Hh.out, ← hq, ← hhb])
        have Hq := Lib.hid hq
        have Hhb := Lib.hid hhb
        clear hc hq hhb hmb hbl HK hndb hndh
        by_cases hab : h < hb
        · have hqn : c < 0 := by rw [hcl]; omega
          have Hbs := Lib.hid (show bstI (hgtA P) L (i + 1) = i by rw [Hst.out, if_pos (.inr hab)])
          clear hcl hab
          go_wp2_with fail
          refine hv.out.mono ?_
          rintro e W ⟨rfl, hF⟩
          go_wp2_with fail
          refine (hmu.out _ (hE.trans hF)).mono ?_
          rintro e W2 ⟨rfl, hF2⟩
          go_wp2_with fail
          refine (hcm.out _).mono ?_
          rintro e W3 ⟨rfl, hF3⟩
          have eF := ((hE.trans hF).trans hF2).trans hF3
          go_wp2_with fail
          go_roundw
          case rel => exact ⟨i + 1, by omega, by go_num, by rw [Hbs.out], Lib.hid (.inr ⟨by omega, by rw [Hbs.out, Hgi.out, Hh.out]⟩), eF⟩
          case measure => simp [intOf] <;> omega
        · have hqn : ¬ c < 0 := by rw [hcl]; omega
          have hqd : decide (c < 0) = false := decide_eq_false hqn
          have hq0 : 0 ≤ c := by omega
          have Hbs := Lib.hid (show bstI (hgtA P) L (i + 1) = q by rw [Hst.out, if_neg (by omega)])
          clear hcl hab
          go_wp2_with fail
          refine hv.out.mono ?_
          rintro e W ⟨rfl, hF⟩
          go_wp2_with fail
          refine (hmu.out _ (hE.trans hF)).mono ?_
          rintro e W2 ⟨rfl, hF2⟩
          go_wp2_with fail
          refine (hcm.out _).mono ?_
          rintro e W3 ⟨rfl, hF3⟩
          have eF := ((hE.trans hF).trans hF2).trans hF3
          go_wp2_with fail
          go_roundw
          case rel => exact ⟨i + 1, by omega, by go_num, by rw [Hbs.out], Lib.hid (.inr ⟨by omega, by rw [Hbs.out, Hhb.out]⟩), eF⟩
          case measure => simp [intOf] <;> omega
    · obtain rfl : i = L.length := by omega
      have hbl := bstI_lt (h := hgtA P) (L := L) H0.out
      obtain ⟨q, hq⟩ : ∃ q, q = bstI (hgtA P) L L.length := ⟨_, rfl⟩
      have hql : q < L.length := by rw [hq]; omega
      have hqI : (q : Int) < (L.length : Int) := by omega
      rw [← hq]
      obtain rfl := HS.out.addr (by rw [HV.out]; omega)
      obtain ⟨sr, br, or, cr, hrow, hrc, hSr⟩ := MatR.row HS.out HV.out HR.out hql
      have hrY := hE.cell hrow
      have Hres := Lib.hid (show ∃ s n c, (Ending.returned (.slice sr L[q].length cr) : Ending) = .returned (.slice s n c) ∧ RowR Y (.slice s n c) (L.getD (bstI (hgtA P) L L.length) []) from ⟨_, _, _, rfl, by rw [← hq, getD_get hql]; exact ⟨_, _, _, _, rfl, hrc, hSr.ext hE⟩⟩)
      generalize L[q].length = nr at *
      clear HK hbl hq hrow hrc hSr
      go_wp2_with fail
      go_ret
      exact ⟨Hres.out, hE⟩
end Go.Proofs.YtkjnjmihfonilaaGreatDoor
namespace Go.Proofs.YtkjnjmihfonilaaGreatDoor
open Go.RowKit Go.Sort
theorem dgB_getD (b : Nat) : ∀ n k i, i < n → (dgB b n k).getD i 0 = k / b ^ (n - 1 - i) % b
  | 0, _, _, h => by omega
  | n + 1, k, i, h => by
    have hl := dgB_length b n (k / b)
    rw [dgB]
    rcases Nat.lt_or_ge i n with hi | hi
    · rw [List.getD_eq_getElem?_getD, List.getElem?_append_left (by omega), ← List.getD_eq_getElem?_getD, dgB_getD b n (k / b) i hi, Nat.div_div_eq_div_mul, ← Nat.pow_succ', show (n - 1 - i).succ = n + 1 - 1 - i by omega]
    · obtain rfl : i = n := by omega
      rw [List.getD_eq_getElem?_getD, List.getElem?_append_right (by omega), hl]
      simp
def bxW (n m k j : Nat) : List Int := List.replicate j 0 ++ (bxR n m k).drop j
theorem bxW_length {n m k j : Nat} (h : j ≤ n) : (bxW n m k j).length = n := by simp [bxW]; omega
theorem bxW_all (n m k : Nat) : bxW n m k n = List.replicate n 0 := by
  unfold bxW
  rw [List.drop_eq_nil_of_le (by simp), List.append_nil]
theorem bxW_zero (n m k : Nat) : bxW n m k 0 = bxR n m k := by simp [bxW]
theorem bxR_getD {n m k i : Nat} (h : i < n) : (bxR n m k).getD i 0 = ((k / (2 * m + 1) ^ (n - 1 - i) % (2 * m + 1) : Nat) : Int) - m := by
  have h2 := dgB_getD (2 * m + 1) n k i h
  have hl := dgB_length (2 * m + 1) n k
  rw [getD_get (by omega)] at h2
  unfold bxR
  rw [getD_get (by simpa using h), List.getElem_map, h2]
theorem bxW_set {n m k j : Nat} (hj : j + 1 ≤ n) : (bxW n m k (j + 1)).set j (((k / (2 * m + 1) ^ (n - (j + 1)) % (2 * m + 1) : Nat) : Int) - m) = bxW n m k j := by
  have h1 := bxR_getD (n := n) (m := m) (k := k) (i := j) (by omega)
  rw [show n - 1 - j = n - (j + 1) by omega] at h1
  rw [← h1]
  have hl : (bxR n m k).length = n := bxR_length _ _ _
  refine List.ext_getElem (by rw [List.length_set, bxW_length hj, bxW_length (by omega)]) (fun i a b => ?_)
  have hin : i < n := by rw [bxW_length (by omega)] at b; exact b
  unfold bxW at a b ⊢
  rw [List.getElem_set]
  by_cases hij : j = i
  · subst hij
    rw [if_pos rfl, List.getElem_append_right (by simp)]
    simp only [List.length_replicate, Nat.sub_self, List.getElem_drop, Nat.add_zero]
    exact getD_get (by omega) _
  · rw [if_neg hij]
    rcases Nat.lt_or_ge i j with h | h
    · rw [List.getElem_append_left (by simp; omega), List.getElem_append_left (by simp; omega)]
      simp
    · rw [List.getElem_append_right (by simp; omega), List.getElem_append_right (by simp; omega)]
      simp only [List.length_replicate, List.getElem_drop]
      congr 1; omega
theorem box_rest (b n k j : Nat) (h : j + 1 ≤ n) : k / b ^ (n - (j + 1)) / b = k / b ^ (n - j) := by
  rw [Nat.div_div_eq_div_mul, ← Nat.pow_succ, show (n - (j + 1)).succ = n - j by omega]
end Go.Proofs.YtkjnjmihfonilaaGreatDoor
