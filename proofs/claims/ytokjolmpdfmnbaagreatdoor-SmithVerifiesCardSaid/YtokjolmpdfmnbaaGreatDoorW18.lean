/- Part 18 of the proof of the claim: contracts of the functions that it reaches, and plain laws; no condition. -/
import Derived.Test.YtokjolmpdfmnbaaGreatDoorW17
import Derived.Test.YtokjolmpdfmnbaaGreatDoorW11
import Derived.BigQuiet
import Derived.Test.YtokjolmpdfmnbaaGreatDoorW03
import Derived.Deep.RegionHeld3
import Derived.Test.YtokjolmpdfmnbaaGreatDoorW10
import Derived.OrdersHeld
namespace Go.Proofs.YtokjolmpdfmnbaaGreatDoor
open Go.RowKit Go.Sort
section
variable {w : World} {ops : Array Oper} {rest : List Oper} {o : Oper} {a : Act} {Q : Exit → Act → World → Prop}
theorem app_rows (hgd : o.guard = none) (s x : Operand) (t : TypeId) (ht : Tryz.prog.underlying t = some (.slice 3)) (ho : o.op = .call { callee := .builtin .append, args := #[s, x], argTypes := #[t, t] })
    {B : Nat} {v : Value} {r : List Int} (hs : a.eval s = v) (hown : RowV B w v r) {vx : Value} {z : List Int} (hx : a.eval x = vx) (hR : RowR w vx z) (hl : r.length + z.length ≤ 1000000000) (hB : B ≤ w.heap.size)
    (h : ∀ v' w', RowV B w' v' (r ++ z) → Below B w w' → w.grownBy w' v.ownBlock → wpList Tryz.prog ops Q rest (a.put o.dst v') w') : wpList Tryz.prog ops Q (o :: rest) a w :=
  wpList_plain hgd fun K hK => by
    obtain ⟨v', w', h1, h2, h3⟩ := run_row t o.type ht hown hR hl hB
    unfold Oper.wp execOp
    simp only [ho, resolve, invoke, builtin, Sem.run_bind, Sem.run_pure, Result.andThen_ok, List.map_toArray, List.map_cons, List.map_nil, hs, hx, h1]
    exact hK _ _ (h v' w' h2 (Below.grown (Below.refl _ _) h3 hB (fun q hq => (World.ownsRow.lt hown q hq).1)) h3)
end
theorem RowR.len {w : World} {v : Value} {r : List Int} (h : RowR w v r) : ∃ sa cap, v = .slice sa r.length cap ∧ r.length ≤ cap := by
  obtain ⟨sa, gb, go, cap, e, hc, _⟩ := h; exact ⟨sa, cap, e, hc⟩
set_option maxRecDepth 100000 in
set_option maxHeartbeats 1000000 in
theorem Without08_any {w : World} {v : Value} {x : List Int} {k : Nat} (hR : RowR w v x) (hk : k < x.length) (hl : x.length ≤ 1000000) :
    Calls Tryz.prog 121 #[v, .int .i64 k] w fun e w' => ∃ u, e = .returned u ∧ RowV w.heap.size w' u (x.eraseIdx k) ∧ Ext w w' := by
  obtain ⟨sa, gb, go, cap, rfl, hc, hS⟩ := hR
  obtain ⟨n, hn⟩ : ∃ n, n = x.length := ⟨_, rfl⟩
  obtain rfl := hS.addr (by rw [is_length]; omega)
  have H1 := Lib.hid (show RowR w (.slice (some ⟨gb, go, none⟩) k cap) (x.take k) from ⟨_, gb, go, cap, by rw [List.length_take]; congr 1; omega, by rw [List.length_take]; omega, by
    have := hS.take k; rwa [show (is x).take k = is (x.take k) by simp [is, List.map_take]] at this⟩)
  have H2 := Lib.hid (show RowR w (.slice (some ⟨gb, go + (k + 1), none⟩) (n - (k + 1)) (cap - (k + 1))) (x.drop (k + 1)) from ⟨_, gb, go + (k + 1), cap - (k + 1), by rw [List.length_drop, hn], by rw [List.length_drop]; omega, by
    have := (show Sl w (some ⟨gb, go + (k + 1), none⟩) gb (go + (k + 1)) ((is x).drop (k + 1)) from ⟨fun _ => rfl, fun i y hy => by rw [List.getElem?_drop] at hy; have := hS.cell _ _ hy; rwa [← Nat.add_assoc] at this⟩)
    rwa [show (is x).drop (k + 1) = is (x.drop (k + 1)) by simp [is, List.map_drop]] at this⟩)
  have hl1 : (x.take k).length = k := by rw [List.length_take]; omega
  have hl2 : (x.drop (k + 1)).length = n - (k + 1) := by rw [List.length_drop, hn]
  have He := Lib.hid (show x.take k ++ x.drop (k + 1) = x.eraseIdx k from (List.eraseIdx_eq_take_drop_succ x k).symm)
  rw [← hn] at hc hk hl ⊢
  generalize x.take k = A at *
  generalize x.drop (k + 1) = D at *
  have hkI : (k : Int) < (n : Int) := by omega
  have hkc : (k : Int) + 1 ≤ (cap : Int) := by omega
  have Hl1 := Lib.hid hl1
  have Hl2 := Lib.hid hl2
  clear hS hn hl1 hl2
  by_cases hcap : cap = k + 1
  · have hn1 : n = k + 1 := by omega
    subst hcap hn1
    have hD : D = [] := List.eq_nil_of_length_eq_zero (by have := Hl2.out; omega)
    have H3 := Lib.hid (show RowR w (.slice (some ⟨gb, go, none⟩) 0 0) D by rw [hD]; exact ⟨_, gb, go, 0, rfl, Nat.le_refl _, Sl.nil _ _ _ _⟩)
    clear hD
    go_enter Tryz.func121, Tryz.ntmps121
    go_wp2_with (first
      | (at_builtin; refine app_rows rfl _ _ 32 Tryz.underlying32 rfl (B := w.heap.size) (v := .slice none 0 0) rfl (RowV.nil _ _) (vx := .slice (some ⟨gb, go, none⟩) k (k + 1)) (by go_simp) H1.out (by rw [Hl1.out]; simp; omega) (Nat.le_refl _) ?_; intro v1 w1 hV1 hB1 hG1; rw [List.nil_append] at hV1; have hE1 := Ext.mk' hB1; have HV1 := Lib.hid hV1; have H2' := Lib.hid (H3.out.ext hE1); obtain ⟨s1, c1, rfl, hc1⟩ := hV1.row.len; clear hV1 hB1 hG1 H1)
      | (at_builtin; refine app_rows rfl _ _ 32 Tryz.underlying32 rfl (B := w.heap.size) rfl HV1.out (vx := .slice (some ⟨gb, go, none⟩) 0 0) (by go_simp) H2'.out (by rw [Hl1.out, Hl2.out]; omega) hE1.size ?_; intro v2 w2 hV2 hB2 hG2; rw [He.out] at hV2; have hE2 := Ext.mk' (Below.trans hE1 hB2); have HV2 := Lib.hid hV2; clear hB2 hG2; obtain ⟨s2, c2, rfl, hc2⟩ := hV2.row.len; clear hV2))
    go_ret
    exact ⟨_, rfl, HV2.out, hE2⟩
  · go_enter Tryz.func121, Tryz.ntmps121
    go_wp2_with (first
      | (at_builtin; refine app_rows rfl _ _ 32 Tryz.underlying32 rfl (B := w.heap.size) (v := .slice none 0 0) rfl (RowV.nil _ _) (vx := .slice (some ⟨gb, go, none⟩) k cap) (by go_simp) H1.out (by rw [Hl1.out]; simp; omega) (Nat.le_refl _) ?_; intro v1 w1 hV1 hB1 hG1; rw [List.nil_append] at hV1; have hE1 := Ext.mk' hB1; have HV1 := Lib.hid hV1; have H2' := Lib.hid (H2.out.ext hE1); obtain ⟨s1, c1, rfl, hc1⟩ := hV1.row.len; clear hV1 hB1 hG1 H1)
      | (at_builtin; refine app_rows rfl _ _ 32 Tryz.underlying32 rfl (B := w.heap.size) rfl HV1.out (vx := .slice (some ⟨gb, go + (k + 1), none⟩) (n - (k + 1)) (cap - (k + 1))) (by go_simp) H2'.out (by rw [Hl1.out, Hl2.out]; omega) hE1.size ?_; intro v2 w2 hV2 hB2 hG2; rw [He.out] at hV2; have hE2 := Ext.mk' (Below.trans hE1 hB2); have HV2 := Lib.hid hV2; clear hB2 hG2; obtain ⟨s2, c2, rfl, hc2⟩ := hV2.row.len; clear hV2))
    go_ret
    exact ⟨_, rfl, HV2.out, hE2⟩
end Go.Proofs.YtokjolmpdfmnbaaGreatDoor
namespace Go.Proofs.YtokjolmpdfmnbaaGreatDoor
open Go.RowKit Go.Sort
def mnr (M : Mx) (k : Nat) : Mx := (M.drop 1).map fun r => r.eraseIdx k
def sgn8 (k : Nat) : Int := if k % 2 = 0 then 1 else -1
theorem sgn8_step (k : Nat) : sgn8 (k + 1) = 0 - sgn8 k := by
  unfold sgn8
  rcases Nat.mod_two_eq_zero_or_one k with h | h
  · have h2 : (k + 1) % 2 = 1 := by omega
    rw [h, h2]; rfl
  · have h2 : (k + 1) % 2 = 0 := by omega
    rw [h, h2]; rfl
theorem sgn8_abs (k : Nat) : (sgn8 k).natAbs = 1 := by unfold sgn8; split <;> rfl
def detS (D : Mx → Int) (M : Mx) : Nat → Int
  | 0 => 0
  | j + 1 => detS D M j + sgn8 j * eM M 0 j * D (mnr M j)
def detF : Nat → Mx → Int
  | 0, _ => 1
  | k + 1, M => detS (detF k) M (k + 1)
def dB8 (B : Nat) : Nat → Nat
  | 0 => 1
  | k + 1 => (k + 1) * (B * dB8 B k)
def EntB (B : Nat) (M : Mx) : Prop := ∀ r ∈ M, ∀ z ∈ r, z.natAbs ≤ B
theorem mnr_length (M : Mx) (k : Nat) : (mnr M k).length = M.length - 1 := by simp [mnr]
theorem mnr_rect {n k : Nat} {M : Mx} (h : Rect (n + 1) M) (hk : k < n + 1) : Rect n (mnr M k) := fun r hr => by
  obtain ⟨s, hs, rfl⟩ := List.mem_map.1 hr
  have := h s (List.mem_of_mem_drop hs)
  rw [List.length_eraseIdx_of_lt (by omega)]; omega
theorem mnr_ent {B k : Nat} {M : Mx} (h : EntB B M) : EntB B (mnr M k) := fun r hr z hz => by
  obtain ⟨s, hs, rfl⟩ := List.mem_map.1 hr
  exact h s (List.mem_of_mem_drop hs) z (List.mem_of_mem_eraseIdx hz)
theorem entB_el {B : Nat} {M : Mx} (h : EntB B M) (i k : Nat) : (eM M i k).natAbs ≤ B := by
  unfold eM
  by_cases hi : i < M.length
  · rw [getD_get hi]
    by_cases hk : k < M[i].length
    · rw [getD_get hk]; exact h _ (List.getElem_mem hi) _ (List.getElem_mem hk)
    · rw [List.getD_eq_getElem?_getD, List.getElem?_eq_none (by omega)]; simp
  · rw [show M.getD i [] = [] by rw [List.getD_eq_getElem?_getD, List.getElem?_eq_none (by omega)]; rfl]; simp
theorem detS_b {B K : Nat} {D : Mx → Int} {M : Mx} (hM : EntB B M) (hD : ∀ j, (D (mnr M j)).natAbs ≤ K) : ∀ j, (detS D M j).natAbs ≤ j * (B * K)
  | 0 => by simp [detS]
  | j + 1 => by
    have ih := detS_b hM hD j
    have h1 : (sgn8 j * eM M 0 j * D (mnr M j)).natAbs ≤ B * K := by
      rw [Int.natAbs_mul, Int.natAbs_mul, sgn8_abs, Nat.one_mul]
      exact Nat.mul_le_mul (entB_el hM 0 j) (hD j)
    rw [detS, Nat.add_mul, Nat.one_mul]
    omega
theorem detF_b {B : Nat} : ∀ (n : Nat) {M : Mx}, EntB B M → (detF n M).natAbs ≤ dB8 B n
  | 0, _, _ => by simp [detF, dB8]
  | n + 1, M, h => detS_b h (fun j => detF_b n (mnr_ent h)) (n + 1)
theorem mnr_get {M : Mx} {k i : Nat} (h : i + 1 < M.length) : (mnr M k)[i]? = some ((M[i + 1]).eraseIdx k) := by
  unfold mnr
  rw [List.getElem?_map, List.getElem?_drop, Nat.add_comm 1 i, List.getElem?_eq_getElem h]; rfl
theorem mnr_take {M : Mx} {k i : Nat} (h : i + 1 < M.length) : (mnr M k).take i ++ [(M[i + 1]).eraseIdx k] = (mnr M k).take (i + 1) := by
  have h1 : i < (mnr M k).length := by rw [mnr_length]; omega
  rw [List.take_succ_eq_append_getElem h1]
  have := mnr_get (k := k) h
  rw [List.getElem?_eq_getElem h1] at this
  injection this with this
  rw [this]
set_option maxRecDepth 100000 in
set_option maxHeartbeats 4000000 in
theorem Det08_any {B : Nat} (hB0 : 1 ≤ B) : ∀ (n : Nat) (w : World) (v : Value) (M : Mx), MatR w v M → M.length = n → Rect n M → n ≤ 1000 → EntB B M → dB8 B n ≤ 1000000000000000000 →
    Calls Tryz.prog 66 #[v] w fun e w' => e = .returned (.int .i64 (detF n M)) ∧ Ext w w'
  | 0, w, v, M, hM, hl, _, _, _, _ => by
    obtain ⟨sa, gb, go, cap, vs, rfl, _, _, _, _⟩ := hM
    rw [hl]
    clear hl
    go_enter Tryz.func66, Tryz.ntmps66
    go_wp2_with fail
    go_ret
    exact ⟨rfl, Ext.refl _⟩
  | n + 1, w, v, M, hM, hl, hR, hn, hE, hb => by
    have HIH := Lib.hid (Det08_any hB0 n)
    have hdb : dB8 B n ≤ 1000000000000000000 ∧ B * dB8 B n ≤ 1000000000000000000 := by
      have h1 : dB8 B (n + 1) = (n + 1) * (B * dB8 B n) := rfl
      have h2 : B * dB8 B n ≤ (n + 1) * (B * dB8 B n) := Nat.le_mul_of_pos_left _ (by omega)
      have h3 : dB8 B n ≤ B * dB8 B n := Nat.le_mul_of_pos_left _ hB0
      omega
    have hsb : ∀ j, j ≤ n + 1 → (detS (detF n) M j).natAbs ≤ 1000000000000000000 := fun j hj => by
      have h1 := detS_b hE (fun j => detF_b n (mnr_ent (k := j) hE)) j
      have h2 : j * (B * dB8 B n) ≤ (n + 1) * (B * dB8 B n) := Nat.mul_le_mul_right _ hj
      have h3 : dB8 B (n + 1) = (n + 1) * (B * dB8 B n) := rfl
      omega
    have hBb : B ≤ 1000000000000000000 := by
      have h3 : B ≤ B * dB8 B n := Nat.le_mul_of_pos_right _ (by
        have : ∀ k, 0 < dB8 B k := fun k => by
          induction k with
          | zero => exact Nat.one_pos
          | succ k ih => exact Nat.mul_pos (by omega) (Nat.mul_pos hB0 ih)
        exact this n)
      omega
    have Hdb := Lib.hid hdb
    have Hsb := Lib.hid hsb
    have HBb := Lib.hid hBb
    have HM := Lib.hid hM
    have HE := Lib.hid hE
    have HR := Lib.hid hR
    have Hl := Lib.hid hl
    obtain ⟨sa, gb, go, cap, vs, rfl, hcap, hvl, hS, hrr⟩ := hM
    have Hrow := Lib.hid (fun i (h : i < M.length) => MatR.row hS hvl hrr h)
    obtain rfl := hS.addr (by rw [hvl]; omega)
    rw [hl] at hcap ⊢
    obtain ⟨N, hN⟩ : ∃ N, N = n + 1 := ⟨_, rfl⟩
    rw [← hN] at hcap ⊢
    have HN := Lib.hid hN
    have hN1 : ¬ (N : Int) = 0 := by omega
    have hN2 : ((N : Int) == 0) = false := beq_eq_false_iff_ne.2 hN1
    have hNb : N ≤ 1000 + 1 := by omega
    obtain ⟨DD, hDD⟩ : ∃ DD, DD = detF N M := ⟨_, rfl⟩
    rw [← hDD]
    have HDD := Lib.hid hDD
    clear hR hE hdb hsb hBb hl hvl hS hrr hN hb hDD hn
    go_enter Tryz.func66, Tryz.ntmps66
    go_wp2_with fail
    go_loopw [3, 4, 5, 6, 7] (fun sv gv kv _ _ wr => ∃ k : Nat, k ≤ N ∧ kv = .int .i64 k ∧ sv = .int .i64 (detS (detF n) M k) ∧ gv = .int .i64 (sgn8 k) ∧ Ext w wr) (fun _ _ kv _ _ _ => N - (intOf kv).toNat)
    case atStart => exact ⟨0, by omega, by go_num, rfl, rfl, Ext.refl _⟩
    case round =>
      obtain ⟨k, hk, rfl, rfl, rfl, hX⟩ := hrel
      generalize wr = X at *
      obtain ⟨s, hs⟩ : ∃ s, s = detS (detF n) M k := ⟨_, rfl⟩
      obtain ⟨g, hg⟩ : ∃ g, g = sgn8 k := ⟨_, rfl⟩
      rw [← hs, ← hg]
      have Hs := Lib.hid hs
      have Hg := Lib.hid hg
      by_cases hlt : k < N
      · have hki : (k : Int) < (N : Int) := by omega
        have hXs := hX.size
        clear hs hg
        go_wp2_with fail
        go_loopw [6, 7] (fun rv iv wr => ∃ i : Nat, 1 ≤ i ∧ i ≤ N ∧ iv = .int .i64 i ∧ Hid (MatO X.heap.size wr rv ((mnr M k).take (i - 1))) ∧ Ext X wr) (fun _ iv _ => N - (intOf iv).toNat)
        case atStart => exact ⟨1, by omega, by omega, by go_num, Lib.hid (MatO.nil _ _), Ext.refl _⟩
        case round =>
          obtain ⟨i, hi0, hi, rfl, hO, hY⟩ := hrel
          generalize wr = Y at *
          by_cases hlt2 : i < N
          · have hii : (i : Int) < (N : Int) := by omega
            have hiM : i < M.length := by rw [Hl.out, ← HN.out]; exact hlt2
            obtain ⟨sr, br, or, cr, hrow, hrc, hSr⟩ := Hrow.out i hiM
            have hwY := hX.trans hY
            have hrY := hwY.cell hrow
            have hrl : M[i].length = N := by rw [HN.out]; exact HR.out _ (List.getElem_mem hiM)
            have Hw := Lib.hid (Without08_any (w := Y) (v := .slice sr M[i].length cr) (x := M[i]) (k := k) ⟨sr, br, or, cr, rfl, hrc, hSr.ext hwY⟩ (by rw [hrl]; exact hlt) (by omega))
            rw [hrl] at Hw hrY
            have Htk := Lib.hid (show (mnr M k).take (i - 1) ++ [M[i].eraseIdx k] = (mnr M k).take (i + 1 - 1) by
              obtain ⟨i', rfl⟩ : ∃ i', i = i' + 1 := ⟨i - 1, by omega⟩
              exact mnr_take hiM)
            have Hlen := Lib.hid (show ((mnr M k).take (i - 1)).length = i - 1 by rw [List.length_take, mnr_length, Hl.out, ← HN.out]; omega)
            clear hrow hrc hSr hrl
            go_wp2_with fail
            refine Hw.out.mono ?_
            rintro e w1 ⟨u, rfl, hu, hE1⟩
            have hY1 := hY.trans hE1
            have Hu := Lib.hid (hu.mono hY.size)
            have HO1 := Lib.hid (hO.out.ext hE1)
            obtain ⟨su, cu, rfl, _⟩ := hu.row.len
            have hs1 := hY1.size
            generalize M[i].eraseIdx k = er at *
            generalize (mnr M k).take (i - 1) = F at *
            clear hu hE1 Hw hO
            go_wp2_with (at_builtin; refine app_mat rfl _ _ rfl rfl (HO1.out.ext ((Ext.refl _).alloc _)) rfl (b := w1.heap.size) (by go_simp) (Hu.out.ext ((Ext.refl _).alloc _)) (by rw [Hlen.out]; omega) (by simp; omega) ?_; intro gg cap2 w8 hO8 hB8 hG8; rw [Htk.out] at hO8; rw [Hlen.out])
            have hE8 : Ext X w8 := Below.trans (hY1.alloc (.cells #[.slice su er.length cu] 32)) hB8
            have HO8 := Lib.hid (show MatO X.heap.size w8 (slv gg i cap2) ((mnr M k).take (i + 1 - 1)) by rw [Hlen.out, show i - 1 + 1 = i by omega] at hO8; exact hO8)
            clear hO8 hB8 hG8
            go_wp2_with fail
            go_roundw
            case rel => exact ⟨i + 1, by omega, by omega, by go_num, HO8, hE8⟩
            case measure => simp [intOf] <;> omega
          · have hie : i = N := by omega
            have hii : ¬ (i : Int) < (N : Int) := by omega
            subst hie
            have hmn : (mnr M k).take (i - 1) = mnr M k := List.take_of_length_le (by rw [mnr_length, Hl.out, ← HN.out]; exact Nat.le_refl _)
            have hmat := hO.out.mat
            rw [hmn] at hmat
            obtain ⟨so, go', oo, co, vo, rfl, hco, _, _, _⟩ := id hmat
            have hwY := hX.trans hY
            have Hmat := Lib.hid hmat
            have Hdet := Lib.hid (fun W (hW : Ext Y W) => HIH.out W _ (mnr M k) (Hmat.out.ext hW) (by rw [mnr_length, Hl.out]; rfl) (mnr_rect HR.out (by rw [← HN.out]; exact hlt)) (by have := HN.out; omega) (mnr_ent HE.out) Hdb.out.1)
            obtain ⟨d, hd⟩ : ∃ d, d = detF n (mnr M k) := ⟨_, rfl⟩
            rw [← hd] at Hdet
            have hdB : d.natAbs ≤ dB8 B n := by rw [hd]; exact detF_b n (mnr_ent HE.out)
            have h0M : 0 < M.length := by rw [Hl.out]; omega
            obtain ⟨sr, br, or, cr, hrow, hrc, hSr⟩ := Hrow.out 0 h0M
            rw [Nat.add_zero] at hrow
            have hrl : M[0].length = i := by rw [HN.out]; exact HR.out _ (List.getElem_mem h0M)
            have hkr : k < M[0].length := by rw [hrl]; exact hlt
            obtain ⟨z, hz⟩ : ∃ z, z = eM M 0 k := ⟨_, rfl⟩
            have hz2 : (is M[0])[k]? = some (.int .i64 z) := by rw [is_get hkr, hz]; unfold eM; rw [getD_get h0M, getD_get hkr]
            have hcz := hSr.cell k _ hz2
            obtain rfl := hSr.addr (by rw [is_length]; omega)
            rw [hrl] at hrow hrc
            have hzB : z.natAbs ≤ B := by rw [hz]; exact entB_el HE.out 0 k
            have hgz : (g * z).natAbs ≤ B := by rw [Int.natAbs_mul, Hg.out, sgn8_abs, Nat.one_mul]; exact hzB
            have hgzd : (g * z * d).natAbs ≤ 1000000000000000000 := by
              rw [Int.natAbs_mul]
              exact Nat.le_trans (Nat.mul_le_mul hgz hdB) Hdb.out.2
            have hsum : s + g * z * d = detS (detF n) M (k + 1) := by rw [Hs.out, Hg.out, hz, hd]; rfl
            have hsb1 := Hsb.out (k + 1) (by rw [← HN.out]; exact hlt)
            have hBb := HBb.out
            rw [← hsum] at hsb1
            have w1' : IntKind.i64.wrap (g * z) = g * z := IntWalk.i64_in _ (by omega)
            have w2' : IntKind.i64.wrap (g * z * d) = g * z * d := IntWalk.i64_in _ (by omega)
            have w3' : IntKind.i64.wrap (s + g * z * d) = s + g * z * d := IntWalk.i64_in _ (by omega)
            have Hsum := Lib.hid hsum
            have hgv : g.natAbs = 1 := by rw [Hg.out]; exact sgn8_abs k
            have h0i : (0 : Int) < (i : Int) := by omega
            have h0n : 0 < i := by omega
            have Hw5 := Lib.hid (show wrap64 (-g) = 0 - g by rw [IntWalk.wrap64_in _ (by omega)]; omega)
            have s4 := (hwY.trans ((Ext.refl Y).drew)).cell hrow
            have s5 := (hwY.trans ((Ext.refl Y).drew)).cell hcz
            have dY : Ext Y Y.drew := (Ext.refl Y).drew
            have Hmnl := Lib.hid (show (mnr M k).length = n by rw [mnr_length, Hl.out]; rfl)
            rw [Hmnl.out] at Hdet ⊢
            clear hd hdB hz hz2 hSr hrc hrl hkr hzB hgz hgzd hsum hsb1 hBb hgv hmat hco hmn hO
            go_wp2_with fail
            go_region_held3 (fun w' => w'.cell? ⟨gb, go, none⟩ = some (.slice (some ⟨br, or, none⟩) i cr) ∧ w'.cell? ⟨br, or + k, none⟩ = some (.int .i64 z)) (first | exact ⟨s4, s5⟩ | exact s6 | go_keep)
              (first | (go_at_call 66; refine (Hdet.out _ dY).mono ?_; rintro e W1 ⟨rfl, hF1⟩; have d1 := dY.trans hF1; have s6 := And.intro ((hwY.trans d1).cell hrow) ((hwY.trans d1).cell hcz)))
            have hXd := hwY.trans d1
            have Hg2 := Lib.hid (show (0 - g : Int) = sgn8 (k + 1) by rw [sgn8_step, ← Hg.out])
            clear s4 s5 s6 Hdet
            go_wp2_with fail
            go_roundw
            case rel => exact ⟨k + 1, by omega, by go_num, by rw [← Hsum.out], by rw [← Hg2.out, ← Hw5.out], hXd⟩
            case measure => simp [intOf] <;> omega
      · have hke : k = N := by omega
        have hki : ¬ (k : Int) < (N : Int) := by omega
        have Hres := Lib.hid (show s = DD by rw [Hs.out, HDD.out, hke, HN.out]; rfl)
        clear hs hg hke
        go_wp2_with fail
        go_ret
        exact ⟨by rw [← Hres.out]; rfl, hX⟩
end Go.Proofs.YtokjolmpdfmnbaaGreatDoor
namespace Go.Proofs.YtokjolmpdfmnbaaGreatDoor
open Go Go.Sort
section
variable {P : Program} {ops : Array Oper} {md : Region.Mode} {Q : Exit → Act → World → Prop} {S : World → Prop}
def wpAnyLH (P : Program) (md : Region.Mode) (ops : Array Oper) (Q : Exit → Act → World → Prop) (S : World → Prop) (n : Nat) (L : Array Bool → Act → World → Prop) : Nat → Array Bool → Act → World → Prop
  | 0, listed, a, w => L listed a w
  | f + 1, listed, a, w => Region.ready md ops listed ≠ [] ∧ ∀ i ∈ Region.ready md ops listed, i < n ∧ wpOp P ops Q i (fun a' w' => S w' ∧ wpAnyLH P md ops Q S n L f (listed.setIfInBounds i true) a' w') a w
theorem wpAny_of_headH {n g : Nat} {L : Array Bool → Act → World → Prop} (hL : ∀ listed a w, L listed a w → wpAny P md ops Q g listed a w) :
    ∀ (f : Nat) (listed : Array Bool) (a : Act) (w : World), wpAnyLH P md ops Q S n L f listed a w → wpAny P md ops Q (f + g) listed a w
  | 0, listed, a, w, h => by rw [Nat.zero_add]; exact hL _ _ _ h
  | f + 1, listed, a, w, h => by
    rw [show f + 1 + g = (f + g) + 1 by omega]
    exact ⟨fun h0 => absurd h0 h.1, fun i hi => wpOp_mono (fun a' w' h' => wpAny_of_headH hL f _ a' w' h'.2) (h.2 i hi).2⟩
theorem wpAnyLH_first {n i : Nat} {oi : Oper} {v : Value} {L : Array Bool → Act → World → Prop} (hi : ops[i]? = some oi) (hsel : ∀ (j : Nat) (o : Oper) cs b, ops[j]? = some o → o.op ≠ .select cs b)
    (hQ : ∀ c a w, Q (.panic c) (a.put oi.dst v) w → Q (.panic c) a w)
    (hs : Region.sinkB md ops n = true) (hc : Region.chainB md ops n = true) (hn : n < ops.size) (hin : i < n)
    (hdone : ∀ listed a w, L listed a w → ∀ j ∈ Region.ready md ops listed, n ≤ j) :
    ∀ (f : Nat) (listed : Array Bool) (a : Act) (w : World), HeadInv md ops n listed →
      (∀ j oj, ops[j]? = some oj → j ≠ i → listed.getD j true = false → (∀ e ∈ oj.after, Region.binds md e = true → e.on ≠ i) → oi.apart ops oj = true) →
      i ∈ Region.ready md ops listed → YieldsIf P ops S oi v a → S w →
      wpAnyLH P md ops Q S n L f (listed.setIfInBounds i true) (a.put oi.dst v) w → wpAnyLH P md ops Q S n L (f + 1) listed a w := by
  intro f
  induction f with
  | zero =>
    intro listed a w inv _ hr hy hS H
    have hun := (mem_ready.1 hr).1
    refine ⟨fun h => (by rw [h] at hr; cases hr), fun j hj => ?_⟩
    have hjn : j < n := by
      rcases Nat.lt_or_ge j n with h | h
      · exact h
      · exact absurd hj (tail_waits hs hc hn inv _ i rfl hin hun j h)
    refine ⟨hjn, ?_⟩
    by_cases hji : j = i
    · subst hji; exact hy.wpOp hi hS ⟨hS, H⟩
    · have := hdone _ _ _ H j (ready_mono hj hji)
      omega
  | succ f ih =>
    intro listed a w inv hfree hr hy hS H
    have hun := (mem_ready.1 hr).1
    refine ⟨fun h => (by rw [h] at hr; cases hr), fun j hj => ?_⟩
    have hjn : j < n := by
      rcases Nat.lt_or_ge j n with h | h
      · exact h
      · exact absurd hj (tail_waits hs hc hn inv _ i rfl hin hun j h)
    refine ⟨hjn, ?_⟩
    by_cases hji : j = i
    · subst hji; exact hy.wpOp hi hS ⟨hS, H⟩
    · have h1 := (H.2 j (ready_mono hj hji)).2
      obtain ⟨hjun, oj, hoj, hall⟩ := mem_ready.1 hj
      have hnot : ∀ e ∈ oj.after, Region.binds md e = true → e.on ≠ i := fun e he hb heq => by
        have h1 := hall e he hb
        rw [heq, getD_both hun] at h1
        cases h1
      have h2 := wpOp_putIf hoj (hfree j oj hoj hji hjun hnot) (fun cs b => hsel i oi cs b hi) (fun cs b => hsel j oj cs b hoj) hQ hy h1
      have hfree' : ∀ k ok, ops[k]? = some ok → k ≠ i → (listed.setIfInBounds j true).getD k true = false →
          (∀ e ∈ ok.after, Region.binds md e = true → e.on ≠ i) → oi.apart ops ok = true := fun k ok hk hki hun hno => by
        refine hfree k ok hk hki ?_ hno
        by_cases hjk : j = k
        · subst hjk; exact hjun
        · rw [getD_set_ne true hjk] at hun; exact hun
      refine wpOp_mono (fun a' w' h3 => ⟨h3.2.1, ih (listed.setIfInBounds j true) a' w' (inv.set hj hjn) hfree' (ready_mono hr (Ne.symm hji)) h3.1 h3.2.1 ?_⟩) h2
      rw [Array.setIfInBounds_comm _ _ hji]
      exact h3.2.2
def LTail (P : Program) (md : Region.Mode) (ops : Array Oper) (Q : Exit → Act → World → Prop) (n : Nat) (rest : List Oper) (listed : Array Bool) (a : Act) (w : World) : Prop := Region.seqB md ops (ops.size - n) n listed = true ∧ wpList P ops Q rest a w
theorem wpAnyLH_take {n i f : Nat} {oi : Oper} {v : Value} {rest : List Oper} {listed : Array Bool} {a : Act} {w : World} (hi : ops[i]? = some oi)
    (hB : (Region.noSelect ops && decide (n < ops.size) && Region.sinkB md ops n && Region.chainB md ops n && decide (i < n) && Region.free md ops listed i && (Region.ready md ops listed).contains i) = true)
    (hQ : ∀ c a w, Q (.panic c) (a.put oi.dst v) w → Q (.panic c) a w) (hy : YieldsIf P ops S oi v a) (hS : S w) (inv : HeadInv md ops n listed)
    (h : HeadInv md ops n (listed.setIfInBounds i true) → wpAnyLH P md ops Q S n (LTail P md ops Q n rest) f (listed.setIfInBounds i true) (a.put oi.dst v) w) : wpAnyLH P md ops Q S n (LTail P md ops Q n rest) (f + 1) listed a w := by
  simp only [Bool.and_eq_true, decide_eq_true_eq] at hB
  obtain ⟨⟨⟨⟨⟨⟨hsel, hn⟩, hs⟩, hc⟩, hin⟩, hf⟩, hr⟩ := hB
  have hr' : i ∈ Region.ready md ops listed := by simpa using hr
  exact wpAnyLH_first hi (Region.noSelect_spec hsel) hQ hs hc hn hin (fun _ _ _ hL => seqB_ready hL.1) f listed a w inv (Region.free_spec hi hf) hr' hy hS (h (inv.set hr' hin))
theorem wpAnyLH_one {n i f : Nat} {o : Oper} {L : Array Bool → Act → World → Prop} {listed : Array Bool} {a : Act} {w : World} (ho : ops[i]? = some o) (hr : (Region.ready md ops listed == [i] && decide (i < n)) = true)
    (h : ∀ K' : Act → World → Prop, (∀ a w, S w → wpAnyLH P md ops Q S n L f (listed.setIfInBounds i true) a w → K' a w) → if Region.wanted o (yielded ops a.tmps) = true then Oper.wp P o a w K' Q else K' (a.put o.dst undef) w) : wpAnyLH P md ops Q S n L (f + 1) listed a w := by
  simp only [Bool.and_eq_true, decide_eq_true_eq, beq_iff_eq] at hr
  refine ⟨fun h0 => (by rw [hr.1] at h0; cases h0), fun j hj => ?_⟩
  rw [hr.1] at hj
  obtain rfl : j = i := by simpa using hj
  exact ⟨hr.2, wpOp_step ho (fun K' hK => h K' (fun a w hS hW => hK a w ⟨hS, hW⟩))⟩
theorem wpAnyLH_end {n : Nat} {rest : List Oper} {listed : Array Bool} {a : Act} {w : World} (hB : Region.seqB md ops (ops.size - n) n listed = true) (h : wpList P ops Q rest a w) : wpAnyLH P md ops Q S n (LTail P md ops Q n rest) 0 listed a w := ⟨hB, h⟩
theorem wp_region_held_tail {id : Nat} {a : Act} {w : World} {l : List Oper} (n : Nat) (hm : P.follows .mixedOrders = true) (hn : n < l.length)
    (h : HeadInv .any l.toArray n (Array.replicate l.toArray.size false) → wpAnyLH P .any l.toArray Q S n (LTail P .any l.toArray Q n (l.drop n)) n (Array.replicate l.toArray.size false) a w.drew) : (Code.region id l.toArray true).wp P Q a w := by
  have hdl : (l.drop n).length = l.toArray.size - n := by simp
  have inv0 : HeadInv .any l.toArray n (Array.replicate l.toArray.size false) :=
    ⟨by simp, fun j oj _ hl => (by rw [getD_replicate_false] at hl; cases hl), fun t _ ht => getD_in (by simpa using ht) (getD_replicate_false _ _)⟩
  refine wp_region_any hm ?_
  have := wpAny_of_headH (Q := Q) (g := l.toArray.size - n) (fun listed a' w' hL => by
    have := wpAny_of_seq (md := .any) (Q' := Q) (l.drop n) n listed a' w' (fun j => by simp [List.getElem?_drop]) (by rw [hdl]; exact hL.1) hL.2
    rwa [hdl] at this) _ _ _ _ (h inv0)
  rw [show n + (l.toArray.size - n) = l.toArray.size by simp; omega] at this
  exact this
end
end Go.Proofs.YtokjolmpdfmnbaaGreatDoor
namespace Go.Proofs.YtokjolmpdfmnbaaGreatDoor
open Go.RowKit Go.Sort
theorem IntsR.parts {w : World} {v : Value} {l : List Int} (h : IntsR w v l) : ∃ sa gb go cap, v = .slice sa l.length cap ∧ l.length ≤ cap ∧ Sl w sa gb go (ss l) := h
set_option maxRecDepth 100000 in
set_option maxHeartbeats 4000000 in
theorem stimes_any {w : World} {va vb : Value} {A B : Mx} {a b c : Nat} (hA : GridR w va A) (hB : GridR w vb B) (hAr : Rect B.length A) (hBr : Rect c B) (hc0 : B.length = 0 → c = 0) (hla : A.length ≤ 1000000) (hlb : B.length ≤ 1000) (hc : c ≤ 1000000)
    (hAb : BitM a A) (hBb : BitM b B) (hk : a + b + 20 ≤ 100000000) (hL : Laid w) :
    Calls Tryz.prog 62 #[va, vb] w fun e w' => ∃ v, e = .returned v ∧ GridO w.heap.size w' v (mulM A B c) ∧ Ext w w' := by
  obtain ⟨sa, ga, oa, ca, vsa, rfl, hca, hvla, hSa, hra⟩ := hA
  obtain ⟨sb, gb, ob, cb, vsb, rfl, hcb, hvlb, hSb, hrb⟩ := hB
  obtain ⟨nA, hnA⟩ : ∃ nA, nA = A.length := ⟨_, rfl⟩
  obtain ⟨nB, hnB⟩ : ∃ nB, nB = B.length := ⟨_, rfl⟩
  have HrowA := Lib.hid (fun k (hk : k < A.length) => GridR.row hSa hvla hra hk)
  have HrowB := Lib.hid (fun k (hk : k < B.length) => GridR.row hSb hvlb hrb hk)
  have HaA := Lib.hid hSa.addr
  have HaB := Lib.hid hSb.addr
  have Hvla := Lib.hid hvla
  have Hvlb := Lib.hid hvlb
  have HnA := Lib.hid hnA
  have HnB := Lib.hid hnB
  have HAr := Lib.hid hAr
  have HBr := Lib.hid hBr
  have HAb := Lib.hid hAb
  have HBb := Lib.hid hBb
  have HL := Lib.hid hL
  rw [← hnA] at hca hla ⊢
  rw [← hnB] at hcb hlb hc0 ⊢
  clear hSa hSb hra hrb hvla hvlb hnA hnB hAr hBr hAb hBb hL
  go_enter Tryz.func62, Tryz.ntmps62
  go_wp2_with fail
  go_loopw [5, 13] (fun ov iv wr => ∃ i : Nat, i ≤ nA ∧ iv = .int .i64 i ∧ Hid (GridO w.heap.size wr ov ((mulM A B c).take i)) ∧ Ext w wr) (fun _ iv _ => nA - (intOf iv).toNat)
  case atStart => exact ⟨0, by omega, by go_num, Lib.hid (GridO.nil _ _), Ext.refl _⟩
  case round =>
    obtain ⟨i, hi, rfl, hO, hE⟩ := hrel
    generalize wr = X at *
    by_cases hlt : i < nA
    · have hii : (i : Int) < (nA : Int) := by omega
      have hiA : i < A.length := by rw [← HnA.out]; exact hlt
      obtain ⟨sr, br, or, cr, hcell, hcr, hSr⟩ := HrowA.out i hiA
      obtain rfl := HaA.out (by rw [Hvla.out]; omega)
      obtain ⟨l, hl⟩ : ∃ l, l = A[i] := ⟨_, rfl⟩
      have hll : l.length = nB := by rw [hl, HAr.out _ (List.getElem_mem hiA), ← HnB.out]
      have hlb2 : ∀ t, (vr l t).natAbs < 2 ^ a := by rw [hl]; exact HAb.out.row hiA
      rw [← hl] at hcell hcr hSr
      rw [hll] at hcell hcr
      have hcX := hE.cell hcell
      have HSr := Lib.hid (hSr.ext hE)
      have Hlb := Lib.hid hlb2
      have Hll := Lib.hid hll
      have Hil := Lib.hid (show ((mulM A B c).take i).length = i by rw [List.length_take, mulM_length, ← HnA.out]; omega)
      have Hsn := Lib.hid (show (mulM A B c).take i ++ [cbTo B l c nB 0] = (mulM A B c).take (i + 1) by rw [take_snocM (by rw [mulM_length]; exact hiA), mulM_get hiA, hl, HnB.out])
      clear hl hSr hlb2 hll hcell
      have hXw := hE.size
      rcases Nat.eq_zero_or_pos nB with h0 | h0
      · obtain rfl := hc0 h0
        subst h0
        have Hz := Lib.hid (show cbTo B l 0 0 0 = [] from rfl)
        go_wp2_with fail
        go_loopw [28] (fun kv wr => kv = .int .i64 0 ∧ wr = X) (fun _ _ => 0)
        case atStart => exact ⟨by go_num, rfl⟩
        case round =>
          obtain ⟨rfl, rfl⟩ := hrel
          go_wp2_with (at_builtin; refine app_gridO rfl _ _ rfl rfl (hO.out.ext ((Ext.refl _).alloc _)) (b := wr.heap.size) (rv := .slice none 0 0) (r := []) rfl (by go_simp) (IntV.nil _ _) (by rw [Hil.out]; omega) (by simp; omega) ?_; intro gg cap2 w8 hO8 hB8 hG8; rw [← Hz.out, Hsn.out, Hil.out] at hO8; rw [Hil.out])
          have hE8 : Ext w w8 := Below.trans (hE.alloc (.cells #[.slice none 0 0] 99)) hB8
          have HO8 := Lib.hid hO8
          clear hO8 hB8 hG8
          go_wp2_with fail
          go_roundw
          case rel => exact ⟨i + 1, by omega, by go_num, HO8, hE8⟩
          case measure => simp [intOf] <;> omega
      · have hbI : (0 : Int) < (nB : Int) := by omega
        obtain rfl := HaB.out (by rw [Hvlb.out, ← HnB.out]; omega)
        obtain ⟨s0, b0, o0, c0, hcell0, hcr0, _⟩ := HrowB.out 0 (by rw [← HnB.out]; exact h0)
        rw [HBr.out _ (List.getElem_mem _)] at hcell0 hcr0
        rw [Nat.add_zero] at hcell0
        have hb0X := hE.cell hcell0
        have hb0Y := (hE.alloc (.cells #[.string ⟨#[48]⟩] 94)).cell hcell0
        have hrep := Lib.hid (fun W (hW : W.cell? ⟨X.heap.size, 0, none⟩ = some (I 0)) => repeat_any (m := c) hc (b := X.heap.size) (o := 0) (c := 1) (z := 0) (w := W) hW)
        go_wp2_with fail
        have hz1 : I 0 = .string ⟨#[48]⟩ := by unfold I S; rw [itoa_zero]
        refine (hrep.out _ (by rw [hz1]; go_simp)).mono ?_
        rintro e W1 ⟨gy, cy, rfl, hY, hE1⟩
        clear hrep hz1 hb0Y
        have hE2 := ((Ext.refl X).alloc (.cells #[.string ⟨#[48]⟩] 94)).trans hE1
        have hYb : X.heap.size < gy := by have := hY.lt.1; simp at this; omega
        have HY := Lib.hid (show OwnV 94 X.heap.size W1 gy cy (ss (cbTo B l c 0 0)) by rw [cbTo_zero]; exact hY.mono (by simp))
        clear hY hE1
        go_wp2_with fail
        go_loopw [28] (fun kv wr => ∃ k : Nat, k ≤ nB ∧ kv = .int .i64 k ∧ Hid (OwnV 94 X.heap.size wr gy cy (ss (cbTo B l c k 0))) ∧ Ext X wr) (fun kv _ => nB - (intOf kv).toNat)
        case atStart => exact ⟨0, by omega, by go_num, HY, hE2⟩
        case round =>
          clear HY hE2
          obtain ⟨k, hk', rfl, hY, hEY⟩ := hrel
          generalize wr = Y at *
          by_cases hkl : k < nB
          · have hki : (k : Int) < (nB : Int) := by omega
            have hkB : k < B.length := by rw [← HnB.out]; exact hkl
            have hkL : k < l.length := by rw [Hll.out]; exact hkl
            obtain ⟨x, hx⟩ : ∃ x, x = l[k] := ⟨_, rfl⟩
            have hxv : vr l k = x := by unfold vr; rw [getD_get hkL, hx]
            have hcx := hEY.cell (HSr.out.cell k (I x) (by rw [hx]; simp [ss, hkL]))
            obtain rfl := HSr.out.addr (by rw [ss_length]; omega)
            obtain ⟨sk, bk, ok, ck, hcellk, hcrk, hSk⟩ := HrowB.out k hkB
            have hkr : B[k].length = c := HBr.out _ (List.getElem_mem hkB)
            rw [hkr] at hcellk hcrk
            have hckY := (hE.trans hEY).cell hcellk
            have hSkY := hSk.ext (hE.trans hEY)
            have hxb : x.natAbs < 2 ^ a := by rw [← hxv]; exact Hlb.out k
            have hnx : nd x ≤ LIM := by have := nd_lt2 hxb; unfold LIM; omega
            have hstep := cbTo_sub (l := l) HBr.out hkB
            rw [hxv] at hstep
            have Hstep := Lib.hid hstep
            have hneg := Lib.hid (fun W => Neg_any hnx W)
            have hbig : ∀ (j : Nat) (h : j < B[k].length) (h' : j < (cbTo B l c k 0).length), nd (cbTo B l c k 0)[j] < LIM ∧ nd (-x * B[k][j]) < LIM ∧ nd (-x) + nd B[k][j] ≤ LIM :=
              less_big (E := a + b + 10) (fun z hz => by
                obtain ⟨j, hj, rfl⟩ := List.getElem_of_mem hz
                exact cbTo_bit Hlb.out HBb.out (by omega) hj) (fun z hz => by
                obtain ⟨j, hj, rfl⟩ := List.getElem_of_mem hz
                have := HBb.out.row hkB j
                unfold vr at this
                rw [getD_get hj] at this
                exact Nat.lt_of_lt_of_le this (Nat.pow_le_pow_right (by omega) (by omega))) (by rw [Int.natAbs_neg]; exact Nat.lt_of_lt_of_le hxb (Nat.pow_le_pow_right (by omega) (by omega))) (by unfold LIM; omega)
            have htk := Lib.hid (fun W (hW : Ext Y W) => by
              have h9 := hSkY.ext hW
              have hO9 := OwnV.ext hY.out hW
              have h8 := fun gq (hq : Sl W sk gq ok (ss B[k])) hne => stake_any (w0 := X) (w := W) (ga := gy) (ca := cy) (gb := gq) (ob := ok) (sb := sk) (cb := ck) (k := -x) hO9 hq hne (by rw [hkr, cbTo_length]) (by rw [cbTo_length]; exact hc) hbig (HL.out.ext hE) (hEY.trans hW)
              rw [cbTo_length] at h8
              by_cases hcz : c = 0
              · exact h8 (gy + 1) (by rw [show ss B[k] = [] by have : B[k] = [] := List.eq_nil_of_length_eq_zero (by omega); rw [this]; rfl]; exact Sl.nil _ _ _ _) (by omega)
              · have hlt9 : bk < w.heap.size := hSk.lt (by rw [ss_length]; omega)
                exact h8 bk h9 (by omega))
            clear hcell0 hb0X hcellk hSk hSkY hstep hbig hnx hxv hx hxb hkr hcX
            go_wp2_with fail
            have d7 : Ext Y Y.drew := (Ext.refl Y).drew
            refine wp_region_held_tail (S := fun W => Ext Y W) 7 (by kernel_rfl) (by simp) ?_
            intro inv
            refine wpAnyLH_take (i := 0) (v := slv gy c cy) rfl (by kernel_rfl) (fun _ _ _ h => h) (.inl ⟨by rfl, fun W hW => by go_simp⟩) d7 inv ?_
            intro inv
            go_simp
            refine wpAnyLH_take (i := 1) (v := .slice (some ⟨gb, ob, none⟩) nB cb) rfl (by kernel_rfl) (fun _ _ _ h => h) (.inl ⟨by rfl, fun W hW => by go_simp⟩) d7 inv ?_
            intro inv
            go_simp
            refine wpAnyLH_take (i := 2) (v := .int .i64 k) rfl (by kernel_rfl) (fun _ _ _ h => h) (.inl ⟨by rfl, fun W hW => by go_simp⟩) d7 inv ?_
            intro inv
            go_simp
            refine wpAnyLH_take (i := 3) (v := .pointer (some ⟨gb, ob + k, none⟩)) rfl (by kernel_rfl) (fun _ _ _ h => h) (.inl ⟨by rfl, fun W hW => by go_simp⟩) d7 inv ?_
            intro inv
            go_simp
            refine wpAnyLH_take (i := 4) (v := .slice sk c ck) rfl (by kernel_rfl) (fun _ _ _ h => h) (.inl ⟨by rfl, fun W hW => by have z0 := hW.cell hckY; go_simp⟩) d7 inv ?_
            intro inv
            go_simp
            refine wpAnyLH_take (i := 5) (v := I x) rfl (by kernel_rfl) (fun _ _ _ h => h) (.inl ⟨by rfl, fun W hW => by go_simp⟩) d7 inv ?_
            intro inv
            go_simp
            refine wpAnyLH_one (i := 6) rfl (by kernel_rfl) (fun K1 hK1 => ?_)
            go_simp
            refine (hneg.out _).mono ?_
            rintro e w13 ⟨rfl, hE13⟩
            have d9 := d7.trans hE13
            refine hK1 _ _ d9 ?_
            clear hK1
            have Htk := Lib.hid (htk.out w13 d9)
            clear htk hneg hE13 d7
            refine wpAnyLH_end (by kernel_rfl) ?_
            go_wp2_with fail
            refine Htk.out.mono ?_
            rintro e w14 ⟨rfl, hY14, hG14⟩
            rw [Hstep.out] at hY14
            have HY14 := Lib.hid hY14
            have hE14 := Lib.hid (ext_trans_grown (hEY.trans d9) hG14 (by omega))
            clear hY14 hG14 Htk d9
            go_wp2_with fail
            go_roundw
            case rel => exact ⟨k + 1, by omega, by go_num, HY14, hE14.out⟩
            case measure => simp [intOf] <;> omega
          · have hke : k = nB := by omega
            have hki : ¬ (k : Int) < (nB : Int) := by omega
            subst hke
            have hEw := hE.trans hEY
            have hYV := Lib.hid (show IntV w.heap.size Y (slv gy c cy) (cbTo B l c k 0) by have := (ownV_int hY.out).mono hXw; rwa [cbTo_length] at this)
            have hOY := Lib.hid (hO.out.ext hEY)
            have hYs := hEw.size
            clear hY hb0X hcell0 hcX
            go_wp2_with (at_builtin; refine app_gridO rfl _ _ rfl rfl (hOY.out.ext ((Ext.refl _).alloc _)) (b := Y.heap.size) (rv := slv gy c cy) (r := cbTo B l c k 0) (by go_simp) (by go_simp) (hYV.out.ext ((Ext.refl _).alloc _)) (by rw [Hil.out]; omega) (by simp; omega) ?_; intro gg cap2 w8 hO8 hB8 hG8; rw [Hsn.out, Hil.out] at hO8; rw [Hil.out])
            have hE8 : Ext w w8 := Below.trans (hEw.alloc (.cells #[slv gy c cy] 99)) hB8
            have HO8 := Lib.hid hO8
            clear hO8 hB8 hG8
            go_wp2_with fail
            go_roundw
            case rel => exact ⟨i + 1, by omega, by go_num, HO8, hE8⟩
            case measure => simp [intOf] <;> omega
    · have hie : i = nA := by omega
      have hii : ¬ (i : Int) < (nA : Int) := by omega
      subst hie
      have hO2 := hO.out
      rw [List.take_of_length_le (by rw [mulM_length, ← HnA.out]; exact Nat.le_refl _)] at hO2
      have HO2 := Lib.hid hO2
      clear hO hO2
      go_wp2_with fail
      go_ret
      exact ⟨_, rfl, HO2.out, hE⟩
end Go.Proofs.YtokjolmpdfmnbaaGreatDoor
