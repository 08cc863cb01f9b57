/- Part 29 of the proof of the claim: contracts of the functions that it reaches, and plain laws; no condition. -/
import Derived.Test.YtcklioolpicmcaaGreatDoorV28
import Derived.Test.YtcklioolpicmcaaGreatDoorV03
import Derived.Deep.RegionHeld3
import Derived.Test.YtcklioolpicmcaaGreatDoorV16
namespace Go.Proofs.YtcklioolpicmcaaGreatDoor
open Go.RowKit Go.Sort
def mnr (M : Mx) (k : Nat) : Mx := (M.drop 1).map fun r => r.eraseIdx k
def sgn8 (k : Nat) : Int := if k % 2 = 0 then 1 else -1
theorem sgn8_step (k : Nat) : sgn8 (k + 1) = 0 - sgn8 k := by
  unfold sgn8
  rcases Nat.mod_two_eq_zero_or_one k with h | h
  · have h2 : (k + 1) % 2 = 1 := by omega
    rw [h, h2]; rfl
  · have h2 : (k + 1) % 2 = 0 := by omega
    rw [h, h2]; rfl
theorem sgn8_abs (k : Nat) : (sgn8 k).natAbs = 1 := by unfold sgn8; split <;> rfl
def detS (D : Mx → Int) (M : Mx) : Nat → Int
  | 0 => 0
  | j + 1 => detS D M j + sgn8 j * eM M 0 j * D (mnr M j)
def detF : Nat → Mx → Int
  | 0, _ => 1
  | k + 1, M => detS (detF k) M (k + 1)
def dB8 (B : Nat) : Nat → Nat
  | 0 => 1
  | k + 1 => (k + 1) * (B * dB8 B k)
def EntB (B : Nat) (M : Mx) : Prop := ∀ r ∈ M, ∀ z ∈ r, z.natAbs ≤ B
theorem mnr_length (M : Mx) (k : Nat) : (mnr M k).length = M.length - 1 := by simp [mnr]
theorem mnr_rect {n k : Nat} {M : Mx} (h : Rect (n + 1) M) (hk : k < n + 1) : Rect n (mnr M k) := fun r hr => by
  obtain ⟨s, hs, rfl⟩ := List.mem_map.1 hr
  have := h s (List.mem_of_mem_drop hs)
  rw [List.length_eraseIdx_of_lt (by omega)]; omega
theorem mnr_ent {B k : Nat} {M : Mx} (h : EntB B M) : EntB B (mnr M k) := fun r hr z hz => by
  obtain ⟨s, hs, rfl⟩ := List.mem_map.1 hr
  exact h s (List.mem_of_mem_drop hs) z (List.mem_of_mem_eraseIdx hz)
theorem entB_el {B : Nat} {M : Mx} (h : EntB B M) (i k : Nat) : (eM M i k).natAbs ≤ B := by
  unfold eM
  by_cases hi : i < M.length
  · rw [getD_get hi]
    by_cases hk : k < M[i].length
    · rw [getD_get hk]; exact h _ (List.getElem_mem hi) _ (List.getElem_mem hk)
    · rw [List.getD_eq_getElem?_getD, List.getElem?_eq_none (by omega)]; simp
  · rw [show M.getD i [] = [] by rw [List.getD_eq_getElem?_getD, List.getElem?_eq_none (by omega)]; rfl]; simp
theorem detS_b {B K : Nat} {D : Mx → Int} {M : Mx} (hM : EntB B M) (hD : ∀ j, (D (mnr M j)).natAbs ≤ K) : ∀ j, (detS D M j).natAbs ≤ j * (B * K)
  | 0 => by simp [detS]
  | j + 1 => by
    have ih := detS_b hM hD j
    have h1 : (sgn8 j * eM M 0 j * D (mnr M j)).natAbs ≤ B * K := by
      rw [Int.natAbs_mul, Int.natAbs_mul, sgn8_abs, Nat.one_mul]
      exact Nat.mul_le_mul (entB_el hM 0 j) (hD j)
    rw [detS, Nat.add_mul, Nat.one_mul]
    omega
theorem detF_b {B : Nat} : ∀ (n : Nat) {M : Mx}, EntB B M → (detF n M).natAbs ≤ dB8 B n
  | 0, _, _ => by simp [detF, dB8]
  | n + 1, M, h => detS_b h (fun j => detF_b n (mnr_ent h)) (n + 1)
theorem mnr_get {M : Mx} {k i : Nat} (h : i + 1 < M.length) : (mnr M k)[i]? = some ((M[i + 1]).eraseIdx k) := by
  unfold mnr
  rw [List.getElem?_map, List.getElem?_drop, Nat.add_comm 1 i, List.getElem?_eq_getElem h]; rfl
theorem mnr_take {M : Mx} {k i : Nat} (h : i + 1 < M.length) : (mnr M k).take i ++ [(M[i + 1]).eraseIdx k] = (mnr M k).take (i + 1) := by
  have h1 : i < (mnr M k).length := by rw [mnr_length]; omega
  rw [List.take_succ_eq_append_getElem h1]
  have := mnr_get (k := k) h
  rw [List.getElem?_eq_getElem h1] at this
  injection this with this
  rw [this]
set_option maxRecDepth 100000 in
set_option maxHeartbeats 4000000 in
theorem Det08_any {B : Nat} (hB0 : 1 ≤ B) : ∀ (n : Nat) (w : World) (v : Value) (M : Mx), MatR w v M → M.length = n → Rect n M → n ≤ 1000 → EntB B M → dB8 B n ≤ 1000000000000000000 →
    Calls Tryz.prog 108 #[v] w fun e w' => e = .returned (.int .i64 (detF n M)) ∧ Ext w w'
  | 0, w, v, M, hM, hl, _, _, _, _ => by
    obtain ⟨sa, gb, go, cap, vs, rfl, _, _, _, _⟩ := hM
    rw [hl]
    clear hl
    go_enter Tryz.func108, Tryz.ntmps108
    go_wp2_with fail
    go_ret
    exact ⟨rfl, Ext.refl _⟩
  | n + 1, w, v, M, hM, hl, hR, hn, hE, hb => by
    have HIH := Lib.hid (Det08_any hB0 n)
    have hdb : dB8 B n ≤ 1000000000000000000 ∧ B * dB8 B n ≤ 1000000000000000000 := by
      have h1 : dB8 B (n + 1) = (n + 1) * (B * dB8 B n) := rfl
      have h2 : B * dB8 B n ≤ (n + 1) * (B * dB8 B n) := Nat.le_mul_of_pos_left _ (by omega)
      have h3 : dB8 B n ≤ B * dB8 B n := Nat.le_mul_of_pos_left _ hB0
      omega
    have hsb : ∀ j, j ≤ n + 1 → (detS (detF n) M j).natAbs ≤ 1000000000000000000 := fun j hj => by
      have h1 := detS_b hE (fun j => detF_b n (mnr_ent (k := j) hE)) j
      have h2 : j * (B * dB8 B n) ≤ (n + 1) * (B * dB8 B n) := Nat.mul_le_mul_right _ hj
      have h3 : dB8 B (n + 1) = (n + 1) * (B * dB8 B n) := rfl
      omega
    have hBb : B ≤ 1000000000000000000 := by
      have h3 : B ≤ B * dB8 B n := Nat.le_mul_of_pos_right _ (by
        have : ∀ k, 0 < dB8 B k := fun k => by
          induction k with
          | zero => exact Nat.one_pos
          | succ k ih => exact Nat.mul_pos (by omega) (Nat.mul_pos hB0 ih)
        exact this n)
      omega
    have Hdb := Lib.hid hdb
    have Hsb := Lib.hid hsb
    have HBb := Lib.hid hBb
    have HM := Lib.hid hM
    have HE := Lib.hid hE
    have HR := Lib.hid hR
    have Hl := Lib.hid hl
    obtain ⟨sa, gb, go, cap, vs, rfl, hcap, hvl, hS, hrr⟩ := hM
    have Hrow := Lib.hid (fun i (h : i < M.length) => MatR.row hS hvl hrr h)
    obtain rfl := hS.addr (by rw [hvl]; omega)
    rw [hl] at hcap ⊢
    obtain ⟨N, hN⟩ : ∃ N, N = n + 1 := ⟨_, rfl⟩
    rw [← hN] at hcap ⊢
    have HN := Lib.hid hN
    have hN1 : ¬ (N : Int) = 0 := by omega
    have hN2 : ((N : Int) == 0) = false := beq_eq_false_iff_ne.2 hN1
    have hNb : N ≤ 1000 + 1 := by omega
    obtain ⟨DD, hDD⟩ : ∃ DD, DD = detF N M := ⟨_, rfl⟩
    rw [← hDD]
    have HDD := Lib.hid hDD
    clear hR hE hdb hsb hBb hl hvl hS hrr hN hb hDD hn
    go_enter Tryz.func108, Tryz.ntmps108
    go_wp2_with fail
    go_loopw [3, 4, 5, 6, 7] (fun sv gv kv _ _ wr => ∃ k : Nat, k ≤ N ∧ kv = .int .i64 k ∧ sv = .int .i64 (detS (detF n) M k) ∧ gv = .int .i64 (sgn8 k) ∧ Ext w wr) (fun _ _ kv _ _ _ => N - (intOf kv).toNat)
    case atStart => exact ⟨0, by omega, by go_num, rfl, rfl, Ext.refl _⟩
    case round =>
      obtain ⟨k, hk, rfl, rfl, rfl, hX⟩ := hrel
      generalize wr = X at *
      obtain ⟨s, hs⟩ : ∃ s, s = detS (detF n) M k := ⟨_, rfl⟩
      obtain ⟨g, hg⟩ : ∃ g, g = sgn8 k := ⟨_, rfl⟩
      rw [← hs, ← hg]
      have Hs := Lib.hid hs
      have Hg := Lib.hid hg
      by_cases hlt : k < N
      · have hki : (k : Int) < (N : Int) := by omega
        have hXs := hX.size
        clear hs hg
        go_wp2_with fail
        go_loopw [6, 7] (fun rv iv wr => ∃ i : Nat, 1 ≤ i ∧ i ≤ N ∧ iv = .int .i64 i ∧ Hid (MatO X.heap.size wr rv ((mnr M k).take (i - 1))) ∧ Ext X wr) (fun _ iv _ => N - (intOf iv).toNat)
        case atStart => exact ⟨1, by omega, by omega, by go_num, Lib.hid (MatO.nil _ _), Ext.refl _⟩
        case round =>
          obtain ⟨i, hi0, hi, rfl, hO, hY⟩ := hrel
          generalize wr = Y at *
          by_cases hlt2 : i < N
          · have hii : (i : Int) < (N : Int) := by omega
            have hiM : i < M.length := by rw [Hl.out, ← HN.out]; exact hlt2
            obtain ⟨sr, br, or, cr, hrow, hrc, hSr⟩ := Hrow.out i hiM
            have hwY := hX.trans hY
            have hrY := hwY.cell hrow
            have hrl : M[i].length = N := by rw [HN.out]; exact HR.out _ (List.getElem_mem hiM)
            have Hw := Lib.hid (Without08_any (w := Y) (v := .slice sr M[i].length cr) (x := M[i]) (k := k) ⟨sr, br, or, cr, rfl, hrc, hSr.ext hwY⟩ (by rw [hrl]; exact hlt) (by omega))
            rw [hrl] at Hw hrY
            have Htk := Lib.hid (show (mnr M k).take (i - 1) ++ [M[i].eraseIdx k] = (mnr M k).take (i + 1 - 1) by
              obtain ⟨i', rfl⟩ : ∃ i', i = i' + 1 := ⟨i - 1, by omega⟩
              exact mnr_take hiM)
            have Hlen := Lib.hid (show ((mnr M k).take (i - 1)).length = i - 1 by rw [List.length_take, mnr_length, Hl.out, ← HN.out]; omega)
            clear hrow hrc hSr hrl
            go_wp2_with fail
            refine Hw.out.mono ?_
            rintro e w1 ⟨u, rfl, hu, hE1⟩
            have hY1 := hY.trans hE1
            have Hu := Lib.hid (hu.mono hY.size)
            have HO1 := Lib.hid (hO.out.ext hE1)
            obtain ⟨su, cu, rfl, _⟩ := hu.row.len
            have hs1 := hY1.size
            generalize M[i].eraseIdx k = er at *
            generalize (mnr M k).take (i - 1) = F at *
            clear hu hE1 Hw hO
            go_wp2_with (at_builtin; refine app_mat rfl _ _ rfl rfl (HO1.out.ext ((Ext.refl _).alloc _)) rfl (b := w1.heap.size) (by go_simp) (Hu.out.ext ((Ext.refl _).alloc _)) (by rw [Hlen.out]; omega) (by simp; omega) ?_; intro gg cap2 w8 hO8 hB8 hG8; rw [Htk.out] at hO8; rw [Hlen.out])
            have hE8 : Ext X w8 := Below.trans (hY1.alloc (.cells #[.slice su er.length cu] 32)) hB8
            have HO8 := Lib.hid (show MatO X.heap.size w8 (slv gg i cap2) ((mnr M k).take (i + 1 - 1)) by rw [Hlen.out, show i - 1 + 1 = i by omega] at hO8; exact hO8)
            clear hO8 hB8 hG8
            go_wp2_with fail
            go_roundw
            case rel => exact ⟨i + 1, by omega, by omega, by go_num, HO8, hE8⟩
            case measure => simp [intOf] <;> omega
          · have hie : i = N := by omega
            have hii : ¬ (i : Int) < (N : Int) := by omega
            subst hie
            have hmn : (mnr M k).take (i - 1) = mnr M k := List.take_of_length_le (by rw [mnr_length, Hl.out, ← HN.out]; exact Nat.le_refl _)
            have hmat := hO.out.mat
            rw [hmn] at hmat
            obtain ⟨so, go', oo, co, vo, rfl, hco, _, _, _⟩ := id hmat
            have hwY := hX.trans hY
            have Hmat := Lib.hid hmat
            have Hdet := Lib.hid (fun W (hW : Ext Y W) => HIH.out W _ (mnr M k) (Hmat.out.ext hW) (by rw [mnr_length, Hl.out]; rfl) (mnr_rect HR.out (by rw [← HN.out]; exact hlt)) (by have := HN.out; omega) (mnr_ent HE.out) Hdb.out.1)
            obtain ⟨d, hd⟩ : ∃ d, d = detF n (mnr M k) := ⟨_, rfl⟩
            rw [← hd] at Hdet
            have hdB : d.natAbs ≤ dB8 B n := by rw [hd]; exact detF_b n (mnr_ent HE.out)
            have h0M : 0 < M.length := by rw [Hl.out]; omega
            obtain ⟨sr, br, or, cr, hrow, hrc, hSr⟩ := Hrow.out 0 h0M
            rw [Nat.add_zero] at hrow
            have hrl : M[0].length = i := by rw [HN.out]; exact HR.out _ (List.getElem_mem h0M)
            have hkr : k < M[0].length := by rw [hrl]; exact hlt
            obtain ⟨z, hz⟩ : ∃ z, z = eM M 0 k := ⟨_, rfl⟩
            have hz2 : (is M[0])[k]? = some (.int .i64 z) := by rw [is_get hkr, hz]; unfold eM; rw [getD_get h0M, getD_get hkr]
            have hcz := hSr.cell k _ hz2
            obtain rfl := hSr.addr (by rw [is_length]; omega)
            rw [hrl] at hrow hrc
            have hzB : z.natAbs ≤ B := by rw [hz]; exact entB_el HE.out 0 k
            have hgz : (g * z).natAbs ≤ B := by rw [Int.natAbs_mul, Hg.out, sgn8_abs, Nat.one_mul]; exact hzB
            have hgzd : (g * z * d).natAbs ≤ 1000000000000000000 := by
              rw [Int.natAbs_mul]
              exact Nat.le_trans (Nat.mul_le_mul hgz hdB) Hdb.out.2
            have hsum : s + g * z * d = detS (detF n) M (k + 1) := by rw [Hs.out, Hg.out, hz, hd]; rfl
            have hsb1 := Hsb.out (k + 1) (by rw [← HN.out]; exact hlt)
            have hBb := HBb.out
            rw [← hsum] at hsb1
            have w1' : IntKind.i64.wrap (g * z) = g * z := IntWalk.i64_in _ (by omega)
            have w2' : IntKind.i64.wrap (g * z * d) = g * z * d := IntWalk.i64_in _ (by omega)
            have w3' : IntKind.i64.wrap (s + g * z * d) = s + g * z * d := IntWalk.i64_in _ (by omega)
            have Hsum := Lib.hid hsum
            have hgv : g.natAbs = 1 := by rw [Hg.out]; exact sgn8_abs k
            have h0i : (0 : Int) < (i : Int) := by omega
            have h0n : 0 < i := by omega
            have Hw5 := Lib.hid (show wrap64 (-g) = 0 - g by rw [IntWalk.wrap64_in _ (by omega)]; omega)
            have s4 := (hwY.trans ((Ext.refl Y).drew)).cell hrow
            have s5 := (hwY.trans ((Ext.refl Y).drew)).cell hcz
            have dY : Ext Y Y.drew := (Ext.refl Y).drew
            have Hmnl := Lib.hid (show (mnr M k).length = n by rw [mnr_length, Hl.out]; rfl)
            rw [Hmnl.out] at Hdet ⊢
            clear hd hdB hz hz2 hSr hrc hrl hkr hzB hgz hgzd hsum hsb1 hBb hgv hmat hco hmn hO
            go_wp2_with fail
            go_region_held3 (fun w' => w'.cell? ⟨gb, go, none⟩ = some (.slice (some ⟨br, or, none⟩) i cr) ∧ w'.cell? ⟨br, or + k, none⟩ = some (.int .i64 z)) (first | exact ⟨s4, s5⟩ | exact s6 | go_keep)
              (first | (go_at_call 108; refine (Hdet.out _ dY).mono ?_; rintro e W1 ⟨rfl, hF1⟩; have d1 := dY.trans hF1; have s6 := And.intro ((hwY.trans d1).cell hrow) ((hwY.trans d1).cell hcz)))
            have hXd := hwY.trans d1
            have Hg2 := Lib.hid (show (0 - g : Int) = sgn8 (k + 1) by rw [sgn8_step, ← Hg.out])
            clear s4 s5 s6 Hdet
            go_wp2_with fail
            go_roundw
            case rel => exact ⟨k + 1, by omega, by go_num, by rw [← Hsum.out], by rw [← Hg2.out, ← Hw5.out], hXd⟩
            case measure => simp [intOf] <;> omega
      · have hke : k = N := by omega
        have hki : ¬ (k : Int) < (N : Int) := by omega
        have Hres := Lib.hid (show s = DD by rw [Hs.out, HDD.out, hke, HN.out]; rfl)
        clear hs hg hke
        go_wp2_with fail
        go_ret
        exact ⟨by rw [← Hres.out]; rfl, hX⟩
end Go.Proofs.YtcklioolpicmcaaGreatDoor
namespace Go.Proofs.YtcklioolpicmcaaGreatDoor
open Go.RowKit Go.Sort
def selI (n r : Nat) : List Nat := (List.range n).filter fun i => r / 2 ^ i % 2 == 1
theorem selI_succ (n r : Nat) : selI (n + 1) r = if r / 2 ^ n % 2 = 1 then selI n r ++ [n] else selI n r := by
  unfold selI
  rw [List.range_succ, List.filter_append]
  by_cases h : r / 2 ^ n % 2 = 1
  · rw [if_pos h]; simp [h]
  · rw [if_neg h]; simp [h]
theorem selI_le (n r : Nat) : (selI n r).length ≤ n := by have := List.length_filter_le (fun i => r / 2 ^ i % 2 == 1) (List.range n); rw [List.length_range] at this; exact this
def subR (l : List Int) (c r : Nat) : List Int := (selI c r).map fun k => l.getD k 0
def subM (M : Mx) (n c rs cs : Nat) : Mx := (selI n rs).map fun i => subR (M.getD i []) c cs
theorem subR_succ (l : List Int) (c r : Nat) : subR l (c + 1) r = if r / 2 ^ c % 2 = 1 then subR l c r ++ [l.getD c 0] else subR l c r := by
  unfold subR
  rw [selI_succ]
  split
  · rw [List.map_append]; rfl
  · rfl
theorem subM_succ (M : Mx) (n c rs cs : Nat) : subM M (n + 1) c rs cs = if rs / 2 ^ n % 2 = 1 then subM M n c rs cs ++ [subR (M.getD n []) c cs] else subM M n c rs cs := by
  unfold subM
  rw [selI_succ]
  split
  · rw [List.map_append]; rfl
  · rfl
theorem subR_length (l : List Int) (c r : Nat) : (subR l c r).length = (selI c r).length := by simp [subR]
theorem subM_length (M : Mx) (n c rs cs : Nat) : (subM M n c rs cs).length = (selI n rs).length := by simp [subM]
theorem subM_rect (M : Mx) (n c rs cs : Nat) : Rect (selI c cs).length (subM M n c rs cs) := fun r hr => by
  obtain ⟨i, _, rfl⟩ := List.mem_map.1 hr
  exact subR_length _ _ _
theorem subM_ent {B : Nat} {M : Mx} (h : EntB B M) (n c rs cs : Nat) : EntB B (subM M n c rs cs) := fun r hr z hz => by
  obtain ⟨i, _, rfl⟩ := List.mem_map.1 hr
  obtain ⟨k, _, rfl⟩ := List.mem_map.1 hz
  exact entB_el h i k
def widF (i rs w : Nat) : Nat := if (selI i rs).length = 0 then 0 else w
theorem widF_succ (i rs w : Nat) : widF (i + 1) rs w = if rs / 2 ^ i % 2 = 1 then w else widF i rs w := by
  unfold widF
  rw [selI_succ]
  split
  · rw [if_neg (by simp)]
  · rfl
def divStep (M : Mx) (n c k : Nat) (rs : Nat) (g : Nat) (cs : Nat) : Nat := if (selI n rs).length = k ∧ (selI c cs).length = k then Int.gcd g (detF k (subM M n c rs cs)) else g
def divRow (M : Mx) (n c k rs : Nat) (g : Nat) : Nat → Nat
  | 0 => g
  | cs + 1 => divStep M n c k rs (divRow M n c k rs g cs) cs
def divAll (M : Mx) (n c k : Nat) : Nat → Nat
  | 0 => 0
  | rs + 1 => divRow M n c k rs (divAll M n c k rs) (2 ^ c)
theorem and1 {q : Nat} (h : q < 16) : bits .and .i64 (q : Int) 1 = ((q % 2 : Nat) : Int) := by
  have : ∀ q : Fin 16, bits .and .i64 ((q.val : Nat) : Int) 1 = ((q.val % 2 : Nat) : Int) := by decide
  exact this ⟨q, h⟩
theorem gcd_b {g L : Nat} {d : Int} (hg : g ≤ L) (hd : d.natAbs ≤ L) : Int.gcd g d ≤ L := by
  unfold Int.gcd
  rcases Nat.eq_zero_or_pos g with h | h
  · subst h; simpa using hd
  · exact Nat.le_trans (Nat.gcd_le_left _ (by simpa using h)) (by simpa using hg)
theorem divStep_b {M : Mx} {n c k rs g cs B L : Nat} (hE : EntB B M) (hb : dB8 B k ≤ L) (hg : g ≤ L) : divStep M n c k rs g cs ≤ L := by
  unfold divStep
  split
  · exact gcd_b hg (Nat.le_trans (detF_b k (subM_ent hE n c rs cs)) hb)
  · exact hg
theorem divRow_b {M : Mx} {n c k rs g B L : Nat} (hE : EntB B M) (hb : dB8 B k ≤ L) (hg : g ≤ L) : ∀ cs, divRow M n c k rs g cs ≤ L
  | 0 => hg
  | cs + 1 => divStep_b hE hb (divRow_b hE hb hg cs)
theorem divAll_b {M : Mx} {n c k B L : Nat} (hE : EntB B M) (hb : dB8 B k ≤ L) : ∀ rs, divAll M n c k rs ≤ L
  | 0 => Nat.zero_le _
  | rs + 1 => divRow_b hE hb (divAll_b hE hb rs) _
set_option maxRecDepth 100000 in
set_option maxHeartbeats 8000000 in
theorem Divisor08_any {w : World} {v : Value} {M : Mx} {n c k B : Nat} (hM : MatR w v M) (hn : M.length = n) (hc : ncols M = c) (hR : Rect c M) (hn4 : n ≤ 4) (hc4 : c ≤ 4) (hk : 1 ≤ k ∧ k ≤ 4) (hB : 1 ≤ B) (hE : EntB B M) (hb : dB8 B k ≤ 1000000000000000000) :
    Calls Tryz.prog 107 #[v, .int .i64 k] w fun e w' => e = .returned (.int .i64 (divAll M n c k (2 ^ n))) ∧ Ext w w' := by
  have HM := Lib.hid hM
  have hco := Lib.hid (fun W (hW : Ext w W) => Columns08_any (hM.ext hW))
  rw [hc] at hco
  obtain ⟨sa, gb, go, cap, vs, rfl, hcap, hvl, hS, hrr⟩ := hM
  rw [hn] at hco ⊢
  have Hn := Lib.hid hn
  have HE := Lib.hid hE
  have Hb := Lib.hid hb
  have HR := Lib.hid hR
  have Hrow := Lib.hid (fun i (h : i < M.length) => MatR.row hS hvl hrr h)
  have Haddr := Lib.hid (fun (h : 0 < M.length) => hS.addr (by rw [hvl]; exact h))
  have hn0 : (0 : Int) ≤ (n : Int) := by omega
  have hnI : (n : Int) ≤ 4 := by omega
  have hsn : ∃ P : Nat, P = 2 ^ n ∧ P ≤ 16 := ⟨2 ^ n, rfl, by rcases (show n = 0 ∨ n = 1 ∨ n = 2 ∨ n = 3 ∨ n = 4 by omega) with rfl | rfl | rfl | rfl | rfl <;> decide⟩
  obtain ⟨P, hP, hP16⟩ := hsn
  have hsh : (1 : Int) * 2 ^ n = (P : Int) := by rw [hP]; simp
  have HP := Lib.hid hP
  rw [← hP]
  have hsc : ∃ C2 : Nat, C2 = 2 ^ c ∧ C2 ≤ 16 := ⟨2 ^ c, rfl, by rcases (show c = 0 ∨ c = 1 ∨ c = 2 ∨ c = 3 ∨ c = 4 by omega) with rfl | rfl | rfl | rfl | rfl <;> decide⟩
  obtain ⟨C2, hC2, hC16⟩ := hsc
  have hsh2 : (1 : Int) * 2 ^ c = (C2 : Int) := by rw [hC2]; simp
  have hc0 : (0 : Int) ≤ (c : Int) := by omega
  have hcI : (c : Int) ≤ 4 := by omega
  have HC2 := Lib.hid hC2
  clear hC2
  clear hn hc hR hE hb hvl hS hrr hP
  go_enter Tryz.func107, Tryz.ntmps107
  go_wp2_with fail
  go_loopw [5, 6, 7, 8, 9, 10, 11, 12] (fun gv rv _ _ _ _ _ _ wr => ∃ r : Nat, r ≤ P ∧ rv = .int .i64 r ∧ gv = .int .i64 (divAll M n c k r) ∧ Ext w wr) (fun _ rv _ _ _ _ _ _ _ => P - (intOf rv).toNat)
  case atStart => exact ⟨0, by omega, by go_num, rfl, Ext.refl _⟩
  case round =>
    obtain ⟨r, hr, rfl, rfl, hX⟩ := hrel
    generalize wr = X at *
    obtain ⟨g, hg⟩ : ∃ g, g = divAll M n c k r := ⟨_, rfl⟩
    rw [← hg]
    have Hg := Lib.hid hg
    have HgB := Lib.hid (show g ≤ 1000000000000000000 by rw [hg]; exact divAll_b HE.out Hb.out r)
    clear hg
    by_cases hlt : r < P
    · have hri : (r : Int) < (P : Int) := by omega
      have HX := Lib.hid hX
      clear hX
      go_wp2_with fail
      go_loopw [5, 7, 8, 9, 10, 11, 12] (fun gv cv _ _ _ _ _ wr => ∃ cs : Nat, cs ≤ C2 ∧ cv = .int .i64 cs ∧ gv = .int .i64 (divRow M n c k r g cs) ∧ Ext w wr) (fun _ cv _ _ _ _ _ _ => C2 - (intOf cv).toNat)
      case atStart => exact ⟨0, by omega, by go_num, rfl, HX.out⟩
      case round =>
        obtain ⟨cs, hcs, rfl, rfl, hY⟩ := hrel
        generalize wr = Y at *
        obtain ⟨h, hh⟩ : ∃ h, h = divRow M n c k r g cs := ⟨_, rfl⟩
        rw [← hh]
        have HhB := Lib.hid (show h ≤ 1000000000000000000 by rw [hh]; exact divRow_b HE.out Hb.out HgB.out cs)
        have Hh := Lib.hid hh
        clear hh
        go_wp2_with fail
        refine (hco.out _ hY).mono ?_
        rintro e w1 ⟨rfl, hE1⟩
        have hY1 := hY.trans hE1
        have HY1 := Lib.hid hY1
        clear hY hE1 hY1
        by_cases hlt2 : cs < C2
        · have hci : (cs : Int) < (C2 : Int) := by omega
          have Hnx := Lib.hid (show divStep M n c k r h cs = divRow M n c k r g (cs + 1) by rw [Hh.out]; rfl)
          obtain ⟨wd, hwd⟩ : ∃ wd, wd = (selI c cs).length := ⟨_, rfl⟩
          have Hwd := Lib.hid hwd
          have hwdB : wd ≤ 4 := by rw [hwd]; exact Nat.le_trans (selI_le _ _) hc4
          clear hwd
          go_wp2_with fail
          go_loopw [8, 9, 10, 11, 12] (fun pv dv iv _ _ wr => ∃ i : Nat, i ≤ n ∧ iv = .int .i64 i ∧ dv = .int .i64 (widF i r wd) ∧ Hid (MatO w1.heap.size wr pv (subM M i c r cs)) ∧ Ext w1 wr) (fun _ _ iv _ _ _ => n - (intOf iv).toNat)
          case atStart => exact ⟨0, by omega, by go_num, rfl, Lib.hid (MatO.nil _ _), Ext.refl _⟩
          case round =>
            obtain ⟨i, hi, rfl, rfl, hO, hZ⟩ := hrel
            generalize wr = Z at *
            by_cases hlt3 : i < n
            · have hii : (i : Int) < (n : Int) := by omega
              obtain ⟨q, hq⟩ : ∃ q, q = r / 2 ^ i := ⟨_, rfl⟩
              have hshr : (r : Int) / 2 ^ i = (q : Int) := by rw [hq]; simp
              have hi0 : (0 : Int) ≤ (i : Int) := by omega
              have hi64 : (i : Int) ≤ 64 := by omega
              have hq16 : q < 16 := by
                have := Nat.div_le_self r (2 ^ i)
                omega
              have han := and1 hq16
              have hw1 := widF_succ i r wd
              have hs1 := subM_succ M i c r cs
              rw [← hq] at hw1 hs1
              by_cases hbit : q % 2 = 1
              · rw [hbit] at han
                rw [if_pos hbit] at hw1 hs1
                have Hw1 := Lib.hid hw1
                have Hs1 := Lib.hid hs1
                have han2 : bits .and .i64 (q : Int) 1 = 1 := han
                have hiM : i < M.length := by rw [Hn.out]; exact hlt3
                obtain ⟨sr, br, or, cr, hrow, hrc, hSr⟩ := Hrow.out i hiM
                obtain rfl := Haddr.out (by omega)
                have hwZ := HY1.out.trans hZ
                have hrZ := hwZ.cell hrow
                have hrl : M[i].length = c := HR.out _ (List.getElem_mem hiM)
                have hgd : M.getD i [] = M[i] := getD_get hiM _
                rw [hrl] at hrZ hrow
                have HSr := Lib.hid hSr
                have Hrl := Lib.hid hrl
                have Hgd := Lib.hid hgd
                obtain ⟨row, hrow2⟩ : ∃ row, row = M[i] := ⟨_, rfl⟩
                rw [← hrow2] at HSr Hrl Hgd
                have HrowC := Lib.hid hrow
                have hZs := hZ.size
                clear hq hbit han hw1 hs1 hrc hSr hrl hgd hrow2 hwZ hrow hiM
                go_wp2_with fail
                go_loopw [11, 12] (fun xv jv wr => ∃ j : Nat, j ≤ c ∧ jv = .int .i64 j ∧ Hid (RowV Z.heap.size wr xv (subR row j cs)) ∧ Ext Z wr) (fun _ jv _ => c - (intOf jv).toNat)
                case atStart => exact ⟨0, by omega, by go_num, Lib.hid (RowV.nil _ _), Ext.refl _⟩
                case round =>
                  obtain ⟨j, hj, rfl, hx, hU⟩ := hrel
                  generalize wr = U at *
                  have hwU := HY1.out.trans (hZ.trans hU)
                  have hrU := hwU.cell HrowC.out
                  by_cases hlt4 : j < c
                  · have hji : (j : Int) < (c : Int) := by omega
                    obtain ⟨p, hp⟩ : ∃ p, p = cs / 2 ^ j := ⟨_, rfl⟩
                    have hshr2 : (cs : Int) / 2 ^ j = (p : Int) := by rw [hp]; simp
                    have hj0 : (0 : Int) ≤ (j : Int) := by omega
                    have hj64 : (j : Int) ≤ 64 := by omega
                    have hp16 : p < 16 := by
                      have := Nat.div_le_self cs (2 ^ j)
                      omega
                    have han3 := and1 hp16
                    have hs2 := subR_succ row j cs
                    rw [← hp] at hs2
                    have hjr : j < row.length := by rw [Hrl.out]; exact hlt4
                    obtain ⟨z, hz⟩ : ∃ z, z = row.getD j 0 := ⟨_, rfl⟩
                    have hcz := (HSr.out.ext hwU).cell j (.int .i64 z) (by rw [is_get hjr, hz, getD_get hjr])
                    obtain rfl := HSr.out.addr (by rw [is_length]; omega)
                    rw [← hz] at hs2
                    have Hlen := Lib.hid (show (subR row j cs).length ≤ 1000000000 by rw [subR_length]; have := selI_le j cs; omega)
                    obtain ⟨xl, hxl⟩ : ∃ xl, xl = (subR row j cs).length := ⟨_, rfl⟩
                    have hUs := hU.size
                    by_cases hbit2 : p % 2 = 1
                    · rw [if_pos hbit2] at hs2
                      rw [hbit2] at han3
                      have han4 : bits .and .i64 (p : Int) 1 = 1 := han3
                      have Hs2 := Lib.hid hs2
                      clear hp han3 hs2 hz hbit2 hxl hjr
                      generalize subR row j cs = xr at *
                      go_wp2_with (at_builtin; refine app_int rfl _ _ 32 Tryz.underlying32 rfl rfl (hx.out.ext ((Ext.refl _).alloc _)) rfl (b := U.heap.size) (z := z) (by go_simp) Hlen.out (by simp; omega) ?_; intro gg cap2 w8 hO8 hB8 hG8; rw [← Hs2.out] at hO8)
                      have hE8 : Ext Z w8 := Below.trans (hU.alloc (.cells #[.int .i64 z] 3)) hB8
                      have HO8 := Lib.hid hO8
                      clear hG8 hB8 hO8
                      go_wp2_with fail
                      go_roundw
                      case rel => exact ⟨j + 1, by omega, by go_num, HO8, hE8⟩
                      case measure => simp [intOf] <;> omega
                    · rw [if_neg hbit2] at hs2
                      rw [show p % 2 = 0 by omega] at han3
                      have han4 : bits .and .i64 (p : Int) 1 = 0 := han3
                      have Hx2 := Lib.hid (show RowV Z.heap.size U _ (subR row (j + 1) cs) by rw [hs2]; exact hx.out)
                      clear hp han3 hs2 hz hbit2 hxl hjr hcz
                      go_wp2_with fail
                      go_roundw
                      case rel => exact ⟨j + 1, by omega, by go_num, Hx2, hU⟩
                      case measure => simp [intOf] <;> omega
                  · have hje : j = c := by omega
                    have hji : ¬ (j : Int) < (c : Int) := by omega
                    have hxv := hx.out
                    rw [hje] at hxv
                    have hxl : (subR row c cs).length = wd := by rw [subR_length, Hwd.out]
                    obtain ⟨sx, cx, hsx, _⟩ := hxv.row.len
                    rw [hxl] at hsx
                    subst hsx
                    have HX2 := Lib.hid (hxv.mono hZ.size)
                    have HOU := Lib.hid (hO.out.ext hU)
                    have hZU := hZ.trans hU
                    have hUs := hZU.size
                    have Hs2 := Lib.hid (show subM M (i + 1) c r cs = subM M i c r cs ++ [subR row c cs] by rw [Hs1.out, Hgd.out])
                    have Hpl := Lib.hid (show (subM M i c r cs).length ≤ 1000000000 by rw [subM_length]; have := selI_le i r; omega)
                    clear hx hxv hje hxl hO
                    generalize subR row c cs = xr at *
                    generalize subM M i c r cs = F at *
                    go_wp2_with (at_builtin; refine app_mat rfl _ _ rfl rfl (HOU.out.ext ((Ext.refl _).alloc _)) rfl (b := U.heap.size) (by go_simp) (HX2.out.ext ((Ext.refl _).alloc _)) Hpl.out (by simp; omega) ?_; intro gg cap2 w8 hO8 hB8 hG8; rw [← Hs2.out] at hO8)
                    have hE8 : Ext w1 w8 := Below.trans (hZU.alloc (.cells #[.slice sx wd cx] 32)) hB8
                    have HO8 := Lib.hid hO8
                    clear hO8 hB8 hG8
                    go_wp2_with fail
                    go_roundw
                    case rel => exact ⟨i + 1, by omega, by go_num, by rw [Hw1.out], HO8, hE8⟩
                    case measure => simp [intOf] <;> omega
              · rw [show q % 2 = 0 by omega] at han
                rw [if_neg hbit] at hw1 hs1
                have han2 : bits .and .i64 (q : Int) 1 = 0 := han
                have Hw1 := Lib.hid (show widF i r wd = widF (i + 1) r wd from hw1.symm)
                have HO2 := Lib.hid (show MatO w1.heap.size Z _ (subM M (i + 1) c r cs) by rw [hs1]; exact hO.out)
                clear hq hbit han hw1 hs1
                go_wp2_with fail
                go_roundw
                case rel => exact ⟨i + 1, by omega, by go_num, by rw [Hw1.out], HO2, hZ⟩
                case measure => simp [intOf] <;> omega
            · have hie : i = n := by omega
              have hii : ¬ (i : Int) < (n : Int) := by omega
              subst hie
              have hmat := hO.out.mat
              obtain ⟨so, go', oo, co, vo, rfl, hco2, _, _, _⟩ := id hmat
              have Hmat := Lib.hid hmat
              obtain ⟨p, hp⟩ : ∃ p, p = (selI i r).length := ⟨_, rfl⟩
              rw [subM_length, ← hp]
              have hwid : widF i r wd = if p = 0 then 0 else wd := by unfold widF; rw [← hp]
              have hwZ := HY1.out.trans hZ
              have HwZ := Lib.hid hwZ
              have hdv : divStep M i c k r h cs = if p = k ∧ wd = k then Int.gcd h (detF k (subM M i c r cs)) else h := by unfold divStep; rw [← hp, ← Hwd.out]
              rw [hdv] at Hnx
              have hpB : p ≤ 4 := by rw [hp]; exact Nat.le_trans (selI_le _ _) hn4
              obtain ⟨W0, hW0⟩ : ∃ W0, W0 = widF i r wd := ⟨_, rfl⟩
              rw [← hW0] at hwid ⊢
              have hk0 : ¬ (k : Int) = 0 := by omega
              have hk0b : ((k : Int) == 0) = false := beq_eq_false_iff_ne.2 hk0
              have hkp : (0 : Int) < (k : Int) := by omega
              have hk1 := hk.1
              have hk4 := hk.2
              by_cases hpk : p = k
              · rw [if_neg (by omega)] at hwid
                subst hwid
                by_cases hwk : W0 = k
                · have Hd := Lib.hid (fun W (hW : Ext Z W) => Det08_any hB k W _ (subM M i c r cs) (Hmat.out.ext hW) (by rw [subM_length, ← hp]; exact hpk) (by have := subM_rect M i c r cs; rwa [← Hwd.out, hwk] at this) (by omega) (subM_ent HE.out _ _ _ _) Hb.out)
                  obtain ⟨dd, hdd⟩ : ∃ dd, dd = detF k (subM M i c r cs) := ⟨_, rfl⟩
                  rw [subM_length, ← hp, ← hdd] at Hd
                  rw [if_pos ⟨hpk, hwk⟩, ← hdd] at Hnx
                  have hddB : dd.natAbs ≤ 1000000000000000000 := by rw [hdd]; exact Nat.le_trans (detF_b k (subM_ent HE.out _ _ _ _)) Hb.out
                  have hhB := HhB.out
                  have Hgc := Lib.hid (fun W => Gcd08_any (w := W) (a := (h : Int)) (b := dd) (by omega) (by omega))
                  subst hpk hwk
                  clear hdd hddB hhB hp hW0 hdv hmat hco2 hwZ hO
                  go_wp2_with fail
                  refine (Hd.out _ (Ext.refl _)).mono ?_
                  rintro e w2 ⟨rfl, hE2⟩
                  have hX2 := HwZ.out.trans hE2
                  clear hE2 Hd
                  go_wp2_with fail
                  refine (Hgc.out _).mono ?_
                  rintro e w3 ⟨rfl, hE3⟩
                  have hX3 := hX2.trans hE3
                  clear hE3 hX2 Hgc
                  go_wp2_with fail
                  go_roundw
                  case rel => exact ⟨cs + 1, by omega, by go_num, by rw [← Hnx.out], hX3⟩
                  case measure => simp [intOf] <;> omega
                · rw [if_neg (fun h => hwk h.2)] at Hnx
                  have hwkI : ¬ (W0 : Int) = (k : Int) := by omega
                  have hwkb : ((W0 : Int) == (k : Int)) = false := beq_eq_false_iff_ne.2 hwkI
                  subst hpk
                  clear hp hW0 hdv hmat hco2 hwZ hO hwk
                  go_wp2_with fail
                  go_roundw
                  case rel => exact ⟨cs + 1, by omega, by go_num, by rw [← Hnx.out], HwZ.out⟩
                  case measure => simp [intOf] <;> omega
              · rw [if_neg (fun h => hpk h.1)] at Hnx
                have hpkI : ¬ (p : Int) = (k : Int) := by omega
                have hpkb : ((p : Int) == (k : Int)) = false := beq_eq_false_iff_ne.2 hpkI
                clear hp hW0 hdv hmat hco2 hwZ hO hpk hwid
                go_wp2_with fail
                go_roundw
                case rel => exact ⟨cs + 1, by omega, by go_num, by rw [← Hnx.out], HwZ.out⟩
                case measure => simp [intOf] <;> omega
        · have hce : cs = C2 := by omega
          have hci : ¬ (cs : Int) < (C2 : Int) := by omega
          have Hnx := Lib.hid (show h = divAll M n c k (r + 1) by rw [Hh.out, Hg.out, hce, HC2.out]; rfl)
          clear hce
          go_wp2_with fail
          go_roundw
          case rel => exact ⟨r + 1, by omega, by go_num, by rw [← Hnx.out], HY1.out⟩
          case measure => simp [intOf] <;> omega
    · have hre : r = P := by omega
      have hri : ¬ (r : Int) < (P : Int) := by omega
      have Hres := Lib.hid (show (g : Int) = (divAll M n c k P : Nat) by rw [Hg.out, hre])
      clear hre
      go_wp2_with fail
      go_ret
      exact ⟨by rw [← Hres.out]; rfl, hX⟩
end Go.Proofs.YtcklioolpicmcaaGreatDoor
namespace Go.Proofs.YtcklioolpicmcaaGreatDoor
open Go.RowKit Go.Sort
def dvA (M : Mx) (n c t : Nat) : Nat := divAll M n c (t + 1) (2 ^ n)
def dvl (M : Mx) (n c j : Nat) : List Int := (List.range j).map fun t => (dvA M n c t : Int)
@[simp] theorem dvl_length (M : Mx) (n c j : Nat) : (dvl M n c j).length = j := by simp [dvl]
theorem dvl_snoc (M : Mx) (n c j : Nat) : dvl M n c j ++ [(dvA M n c j : Int)] = dvl M n c (j + 1) := by unfold dvl; rw [List.range_succ, List.map_append]; rfl
def DvJ (M : Mx) (n c j : Nat) : Prop := j ≤ n ∧ j ≤ c ∧ (∀ t, t < j → dvA M n c t ≠ 0) ∧ (j < n → j < c → dvA M n c j = 0)
structure DvM (M : Mx) (n c B : Nat) : Prop where
  hn : M.length = n
  hc : ncols M = c
  rect : Rect c M
  n4 : n ≤ 4
  c4 : c ≤ 4
  b1 : 1 ≤ B
  ent : EntB B M
  lim : ∀ k, k ≤ n → k ≤ c → dB8 B k ≤ 1000000000000000000
theorem DvM.b {M : Mx} {n c B : Nat} (h : DvM M n c B) {t : Nat} (h1 : t < n) (h2 : t < c) : dvA M n c t ≤ 1000000000000000000 := divAll_b h.ent (h.lim (t + 1) h1 h2) _
set_option maxRecDepth 100000 in
set_option maxHeartbeats 4000000 in
theorem Divisors08_any {w : World} {v : Value} {M : Mx} {n c B : Nat} (hM : MatR w v M) (hD : DvM M n c B) :
    Calls Tryz.prog 50 #[v] w fun e w' => ∃ u, e = .returned u ∧ (∃ j, RowV w.heap.size w' u (dvl M n c j) ∧ DvJ M n c j) ∧ Ext w w' := by
  have hco := Lib.hid (fun W (hW : Ext w W) => Columns08_any (hM.ext hW))
  have hdi := Lib.hid (fun W (hW : Ext w W) t (h1 : t < n) (h2 : t < c) => Divisor08_any (k := t + 1) (hM.ext hW) hD.hn hD.hc hD.rect hD.n4 hD.c4 (by have := hD.n4; omega) hD.b1 hD.ent (hD.lim (t + 1) h1 h2))
  rw [hD.hc] at hco
  obtain ⟨sa, gb, go, cap, vs, rfl, _, _, _, _⟩ := hM
  rw [hD.hn] at hco hdi ⊢
  have HD := Lib.hid hD
  have hn4 := hD.n4
  have hc4 := hD.c4
  clear hD
  go_enter Tryz.func50, Tryz.ntmps50
  go_wp2_with fail
  go_loopw [3, 4, 5] (fun ov kv _ wr => ∃ j : Nat, j ≤ n ∧ j ≤ c ∧ kv = .int .i64 ((j : Int) + 1) ∧ Hid (RowV w.heap.size wr ov (dvl M n c j)) ∧ Hid (∀ t, t < j → dvA M n c t ≠ 0) ∧ Ext w wr) (fun _ kv _ _ => n + 1 - (intOf kv).toNat)
  case atStart => exact ⟨0, by omega, by omega, by go_num, Lib.hid (RowV.nil _ _), Lib.hid (fun t h => by omega), Ext.refl _⟩
  case round =>
    obtain ⟨j, hjn, hjc, rfl, hO, hz, hE⟩ := hrel
    generalize wr = X at *
    by_cases h1 : j < n
    · have h1I : (j : Int) + 1 ≤ (n : Int) := by omega
      go_wp2_with fail
      refine (hco.out _ hE).mono ?_
      rintro e w1 ⟨rfl, hE1⟩
      have hX1 := hE.trans hE1
      have HO1 := Lib.hid (hO.out.ext hE1)
      clear hE1 hO
      by_cases h2 : j < c
      · have h2I : (j : Int) + 1 ≤ (c : Int) := by omega
        obtain ⟨d, hd⟩ : ∃ d, d = dvA M n c j := ⟨_, rfl⟩
        have hdB : d ≤ 1000000000000000000 := by rw [hd]; exact HD.out.b h1 h2
        have hdv := Lib.hid (hdi.out _ hX1 j h1 h2)
        rw [show divAll M n c (j + 1) (2 ^ n) = d from hd.symm] at hdv
        rw [show ((j + 1 : Nat) : Int) = (j : Int) + 1 by omega] at hdv
        have Hd := Lib.hid hd
        clear hd
        go_wp2_with fail
        refine hdv.out.mono ?_
        rintro e w2 ⟨rfl, hE2⟩
        have hX2 := hX1.trans hE2
        have HO2 := Lib.hid (HO1.out.ext hE2)
        clear hE2 HO1 hdv
        by_cases hd0 : d = 0
        · have Hj := Lib.hid (show DvJ M n c j from ⟨hjn, hjc, hz.out, fun _ _ => by rw [← Hd.out]; exact hd0⟩)
          subst hd0
          go_wp2_with fail
          go_ret
          exact ⟨_, rfl, ⟨j, HO2.out, Hj.out⟩, hX2⟩
        · have hdI : ¬ (d : Int) = 0 := by omega
          have hdb : ((d : Int) == 0) = false := beq_eq_false_iff_ne.2 hdI
          have Hsn := Lib.hid (show dvl M n c j ++ [(d : Int)] = dvl M n c (j + 1) by rw [Hd.out]; exact dvl_snoc M n c j)
          have Hz2 := Lib.hid (show ∀ t, t < j + 1 → dvA M n c t ≠ 0 from fun t ht => by
            by_cases e : t = j
            · subst e; rw [← Hd.out]; exact hd0
            · exact hz.out t (by omega))
          have Hl := Lib.hid (show (dvl M n c j).length ≤ 1000000000 by rw [dvl_length]; omega)
          have hs2 := hX2.size
          clear hd0 hz
          generalize dvl M n c j = L at *
          go_wp2_with (at_builtin; refine app_int rfl _ _ 31 Tryz.underlying31 rfl rfl (HO2.out.ext ((Ext.refl _).alloc _)) rfl (b := w2.heap.size) (z := (d : Int)) (by go_simp) Hl.out (by simp; omega) ?_; intro gg cap2 w8 hO8 hB8 hG8; rw [Hsn.out] at hO8)
          have hE8 : Ext w w8 := Below.trans (hX2.alloc (.cells #[.int .i64 (d : Int)] 3)) hB8
          have HO8 := Lib.hid hO8
          clear hO8 hB8 hG8
          go_wp2_with fail
          go_roundw
          case rel => exact ⟨j + 1, by omega, by omega, by go_num, HO8, Hz2, hE8⟩
          case measure => simp [intOf] <;> omega
      · have h2I : ¬ (j : Int) + 1 ≤ (c : Int) := by omega
        have Hj := Lib.hid (show DvJ M n c j from ⟨hjn, hjc, hz.out, fun _ h => absurd h h2⟩)
        clear hz
        go_wp2_with fail
        go_ret
        exact ⟨_, rfl, ⟨j, HO1.out, Hj.out⟩, hX1⟩
    · have h1I : ¬ (j : Int) + 1 ≤ (n : Int) := by omega
      have Hj := Lib.hid (show DvJ M n c j from ⟨hjn, hjc, hz.out, fun h _ => absurd h h1⟩)
      clear hz
      go_wp2_with fail
      go_ret
      exact ⟨_, rfl, ⟨j, hO.out, Hj.out⟩, hE⟩
def qfE (M : Mx) (n c t : Nat) : Int := (dvA M n c t : Int).tdiv (if t = 0 then 1 else (dvA M n c (t - 1) : Int))
def qfL (M : Mx) (n c j : Nat) : List Int := (List.range j).map (qfE M n c)
@[simp] theorem qfL_length (M : Mx) (n c j : Nat) : (qfL M n c j).length = j := by simp [qfL]
theorem qfL_snoc (M : Mx) (n c j : Nat) : qfL M n c j ++ [qfE M n c j] = qfL M n c (j + 1) := by unfold qfL; rw [List.range_succ, List.map_append]; rfl
set_option maxRecDepth 100000 in
set_option maxHeartbeats 4000000 in
theorem Factors08r_any {w : World} {v : Value} {M : Mx} {n c B : Nat} (hM : MatR w v M) (hD : DvM M n c B) :
    Calls Tryz.prog 54 #[v] w fun e w' => ∃ u, e = .returned u ∧ (∃ j, RowV w.heap.size w' u (qfL M n c j) ∧ DvJ M n c j) ∧ Ext w w' := by
  have hdv := Lib.hid (Divisors08_any hM hD)
  obtain ⟨sa, gb, go, cap, vs, rfl, _, _, _, _⟩ := hM
  have HD := Lib.hid hD
  have hn4 := hD.n4
  have hc4 := hD.c4
  clear hD
  go_enter Tryz.func54, Tryz.ntmps54
  go_wp2_with fail
  refine hdv.out.mono ?_
  rintro e w1 ⟨u, rfl, ⟨J, hu, hJ⟩, hE1⟩
  obtain ⟨sl, gl, ol, cl, rfl, hcl, hSl⟩ := hu.row
  have hJn := hJ.1
  have hJc := hJ.2.1
  have HJ := Lib.hid hJ
  have HSl := Lib.hid hSl
  have hs1 := hE1.size
  rw [dvl_length] at hcl ⊢
  clear hu hJ hSl hdv
  go_wp2_with fail
  go_loopw [4, 5, 6] (fun ov iv _ wr => ∃ i : Nat, i ≤ J ∧ iv = .int .i64 i ∧ Hid (RowV w1.heap.size wr ov (qfL M n c i)) ∧ Ext w1 wr) (fun _ iv _ _ => J - (intOf iv).toNat)
  case atStart => exact ⟨0, by omega, by go_num, Lib.hid (RowV.nil _ _), Ext.refl _⟩
  case round =>
    obtain ⟨i, hi, rfl, hO, hE⟩ := hrel
    generalize wr = X at *
    have hwX := hE1.trans hE
    by_cases hlt : i < J
    · have hii : (i : Int) < (J : Int) := by omega
      obtain ⟨d, hd⟩ : ∃ d, d = dvA M n c i := ⟨_, rfl⟩
      have hdB : d ≤ 1000000000000000000 := by rw [hd]; exact HD.out.b (by omega) (by omega)
      have hget : ∀ t, t < J → (is (dvl M n c J))[t]? = some (.int .i64 (dvA M n c t : Int)) := fun t ht => by
        rw [is_get (by rw [dvl_length]; exact ht)]; simp [dvl]
      have c1 := (HSl.out.ext hE).cell i _ (hget i hlt)
      rw [← hd] at c1
      obtain rfl := HSl.out.addr (by rw [is_length, dvl_length]; omega)
      have Hl := Lib.hid (show (qfL M n c i).length ≤ 1000000000 by rw [qfL_length]; omega)
      have hsX := hE.size
      have hql := qfL_length M n c i
      by_cases hi0 : i = 0
      · subst hi0
        rw [Nat.add_zero] at c1
        have hqd : qfE M n c 0 = (d : Int) := by unfold qfE; rw [if_pos rfl, ← hd, Int.tdiv_one]
        have Hsn := Lib.hid (qfL_snoc M n c 0)
        rw [hqd] at Hsn
        have t1 : (d : Int).tdiv 1 = (d : Int) := Int.tdiv_one _
        clear hqd hd hget
        generalize qfL M n c 0 = L at *
        go_wp2_with (at_builtin; refine app_int rfl _ _ 32 Tryz.underlying32 rfl rfl (hO.out.ext ((Ext.refl _).alloc _)) rfl (b := X.heap.size) (z := (d : Int)) (by go_simp) Hl.out (by simp; omega) ?_; intro gg cap2 w8 hO8 hB8 hG8; rw [Hsn.out, hql] at hO8; rw [hql])
        have hE8 : Ext w1 w8 := Below.trans (hE.alloc (.cells #[.int .i64 (d : Int)] 3)) hB8
        have HO8 := Lib.hid hO8
        clear hO8 hB8 hG8
        go_wp2_with fail
        go_roundw
        case rel => exact ⟨1, by omega, by go_num, HO8, hE8⟩
        case measure => simp [intOf] <;> omega
      · obtain ⟨t, rfl⟩ : ∃ t, i = t + 1 := ⟨i - 1, by omega⟩
        obtain ⟨p, hp⟩ : ∃ p, p = dvA M n c t := ⟨_, rfl⟩
        have c2 := (HSl.out.ext hE).cell t _ (hget t (by omega))
        rw [← hp] at c2
        have hp0 : p ≠ 0 := by rw [hp]; exact HJ.out.2.2.1 t (by omega)
        have hpI : ¬ (p : Int) = 0 := by omega
        have hpb : ((p : Int) == 0) = false := beq_eq_false_iff_ne.2 hpI
        obtain ⟨q, hq⟩ : ∃ q, q = (d : Int).tdiv (p : Int) := ⟨_, rfl⟩
        have hqn : q.natAbs ≤ d := by
          rw [hq, Int.natAbs_tdiv]
          exact Nat.div_le_self d p
        have hqe : qfE M n c (t + 1) = q := by
          unfold qfE
          rw [if_neg (by omega), hq, hd, hp]
          rfl
        have Hsn := Lib.hid (qfL_snoc M n c (t + 1))
        rw [hqe] at Hsn
        have t1 : (d : Int).tdiv (p : Int) = q := hq.symm
        have t2 : IntKind.i64.wrap q = q := IntWalk.i64_in _ (by omega)
        have htp : (0 : Int) < ((t + 1 : Nat) : Int) := by omega
        have htJ : (t : Int) < (J : Int) := by omega
        have ht1 : ((t + 1 : Nat) : Int) - 1 = (t : Int) := by omega
        clear hqe hq hd hp hget hi0 hp0
        generalize qfL M n c (t + 1) = L at *
        go_wp2_with (at_builtin; refine app_int rfl _ _ 32 Tryz.underlying32 rfl rfl (hO.out.ext ((Ext.refl _).alloc _)) rfl (b := X.heap.size) (z := q) (by go_simp) Hl.out (by simp; omega) ?_; intro gg cap2 w8 hO8 hB8 hG8; rw [Hsn.out, hql] at hO8; rw [hql])
        have hE8 : Ext w1 w8 := Below.trans (hE.alloc (.cells #[.int .i64 q] 3)) hB8
        have HO8 := Lib.hid hO8
        clear hO8 hB8 hG8
        go_wp2_with fail
        go_roundw
        case rel => exact ⟨t + 1 + 1, by omega, by go_num, HO8, hE8⟩
        case measure => simp [intOf] <;> omega
    · have hie : i = J := by omega
      have hii : ¬ (i : Int) < (J : Int) := by omega
      subst hie
      go_wp2_with fail
      go_ret
      exact ⟨_, rfl, ⟨i, hO.out.mono hs1, HJ.out⟩, hwX⟩
end Go.Proofs.YtcklioolpicmcaaGreatDoor
