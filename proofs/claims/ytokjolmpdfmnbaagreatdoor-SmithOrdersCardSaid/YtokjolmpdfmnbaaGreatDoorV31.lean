/- Part 31 of the proof of the claim: contracts of the functions that it reaches, and plain laws; no condition. -/
import Derived.Test.YtokjolmpdfmnbaaGreatDoorV30
import Derived.Test.YtokjolmpdfmnbaaGreatDoorV21
import Derived.Test.YtokjolmpdfmnbaaGreatDoorV29
import Derived.Test.YtokjolmpdfmnbaaGreatDoorV27
import Derived.BigQuiet
import Derived.Test.YtokjolmpdfmnbaaGreatDoorV25
import Derived.Test.YtokjolmpdfmnbaaGreatDoorV09
namespace Go.Proofs.YtokjolmpdfmnbaaGreatDoor
open Go.RowKit Go.Sort
def selI (n r : Nat) : List Nat := (List.range n).filter fun i => r / 2 ^ i % 2 == 1
theorem selI_succ (n r : Nat) : selI (n + 1) r = if r / 2 ^ n % 2 = 1 then selI n r ++ [n] else selI n r := by
  unfold selI
  rw [List.range_succ, List.filter_append]
  by_cases h : r / 2 ^ n % 2 = 1
  · rw [if_pos h]; simp [h]
  · rw [if_neg h]; simp [h]
theorem selI_le (n r : Nat) : (selI n r).length ≤ n := by have := List.length_filter_le (fun i => r / 2 ^ i % 2 == 1) (List.range n); rw [List.length_range] at this; exact this
def subR (l : List Int) (c r : Nat) : List Int := (selI c r).map fun k => l.getD k 0
def subM (M : Mx) (n c rs cs : Nat) : Mx := (selI n rs).map fun i => subR (M.getD i []) c cs
theorem subR_succ (l : List Int) (c r : Nat) : subR l (c + 1) r = if r / 2 ^ c % 2 = 1 then subR l c r ++ [l.getD c 0] else subR l c r := by
  unfold subR
  rw [selI_succ]
  split
  · rw [List.map_append]; rfl
  · rfl
theorem subM_succ (M : Mx) (n c rs cs : Nat) : subM M (n + 1) c rs cs = if rs / 2 ^ n % 2 = 1 then subM M n c rs cs ++ [subR (M.getD n []) c cs] else subM M n c rs cs := by
  unfold subM
  rw [selI_succ]
  split
  · rw [List.map_append]; rfl
  · rfl
theorem subR_length (l : List Int) (c r : Nat) : (subR l c r).length = (selI c r).length := by simp [subR]
theorem subM_length (M : Mx) (n c rs cs : Nat) : (subM M n c rs cs).length = (selI n rs).length := by simp [subM]
theorem subM_rect (M : Mx) (n c rs cs : Nat) : Rect (selI c cs).length (subM M n c rs cs) := fun r hr => by
  obtain ⟨i, _, rfl⟩ := List.mem_map.1 hr
  exact subR_length _ _ _
theorem subM_ent {B : Nat} {M : Mx} (h : EntB B M) (n c rs cs : Nat) : EntB B (subM M n c rs cs) := fun r hr z hz => by
  obtain ⟨i, _, rfl⟩ := List.mem_map.1 hr
  obtain ⟨k, _, rfl⟩ := List.mem_map.1 hz
  exact entB_el h i k
def widF (i rs w : Nat) : Nat := if (selI i rs).length = 0 then 0 else w
theorem widF_succ (i rs w : Nat) : widF (i + 1) rs w = if rs / 2 ^ i % 2 = 1 then w else widF i rs w := by
  unfold widF
  rw [selI_succ]
  split
  · rw [if_neg (by simp)]
  · rfl
def divStep (M : Mx) (n c k : Nat) (rs : Nat) (g : Nat) (cs : Nat) : Nat := if (selI n rs).length = k ∧ (selI c cs).length = k then Int.gcd g (detF k (subM M n c rs cs)) else g
def divRow (M : Mx) (n c k rs : Nat) (g : Nat) : Nat → Nat
  | 0 => g
  | cs + 1 => divStep M n c k rs (divRow M n c k rs g cs) cs
def divAll (M : Mx) (n c k : Nat) : Nat → Nat
  | 0 => 0
  | rs + 1 => divRow M n c k rs (divAll M n c k rs) (2 ^ c)
theorem and1 {q : Nat} (h : q < 16) : bits .and .i64 (q : Int) 1 = ((q % 2 : Nat) : Int) := by
  have : ∀ q : Fin 16, bits .and .i64 ((q.val : Nat) : Int) 1 = ((q.val % 2 : Nat) : Int) := by decide
  exact this ⟨q, h⟩
theorem gcd_b {g L : Nat} {d : Int} (hg : g ≤ L) (hd : d.natAbs ≤ L) : Int.gcd g d ≤ L := by
  unfold Int.gcd
  rcases Nat.eq_zero_or_pos g with h | h
  · subst h; simpa using hd
  · exact Nat.le_trans (Nat.gcd_le_left _ (by simpa using h)) (by simpa using hg)
theorem divStep_b {M : Mx} {n c k rs g cs B L : Nat} (hE : EntB B M) (hb : dB8 B k ≤ L) (hg : g ≤ L) : divStep M n c k rs g cs ≤ L := by
  unfold divStep
  split
  · exact gcd_b hg (Nat.le_trans (detF_b k (subM_ent hE n c rs cs)) hb)
  · exact hg
theorem divRow_b {M : Mx} {n c k rs g B L : Nat} (hE : EntB B M) (hb : dB8 B k ≤ L) (hg : g ≤ L) : ∀ cs, divRow M n c k rs g cs ≤ L
  | 0 => hg
  | cs + 1 => divStep_b hE hb (divRow_b hE hb hg cs)
theorem divAll_b {M : Mx} {n c k B L : Nat} (hE : EntB B M) (hb : dB8 B k ≤ L) : ∀ rs, divAll M n c k rs ≤ L
  | 0 => Nat.zero_le _
  | rs + 1 => divRow_b hE hb (divAll_b hE hb rs) _
set_option maxRecDepth 100000 in
set_option maxHeartbeats 8000000 in
theorem Divisor08_any {w : World} {v : Value} {M : Mx} {n c k B : Nat} (hM : MatR w v M) (hn : M.length = n) (hc : ncols M = c) (hR : Rect c M) (hn4 : n ≤ 4) (hc4 : c ≤ 4) (hk : 1 ≤ k ∧ k ≤ 4) (hB : 1 ≤ B) (hE : EntB B M) (hb : dB8 B k ≤ 1000000000000000000) :
    Calls Tryz.prog 56 #[v, .int .i64 k] w fun e w' => e = .returned (.int .i64 (divAll M n c k (2 ^ n))) ∧ Ext w w' := by
  have HM := Lib.hid hM
  have hco := Lib.hid (fun W (hW : Ext w W) => Columns08_any (hM.ext hW))
  rw [hc] at hco
  obtain ⟨sa, gb, go, cap, vs, rfl, hcap, hvl, hS, hrr⟩ := hM
  rw [hn] at hco ⊢
  have Hn := Lib.hid hn
  have HE := Lib.hid hE
  have Hb := Lib.hid hb
  have HR := Lib.hid hR
  have Hrow := Lib.hid (fun i (h : i < M.length) => MatR.row hS hvl hrr h)
  have Haddr := Lib.hid (fun (h : 0 < M.length) => hS.addr (by rw [hvl]; exact h))
  have hn0 : (0 : Int) ≤ (n : Int) := by omega
  have hnI : (n : Int) ≤ 4 := by omega
  have hsn : ∃ P : Nat, P = 2 ^ n ∧ P ≤ 16 := ⟨2 ^ n, rfl, by rcases (show n = 0 ∨ n = 1 ∨ n = 2 ∨ n = 3 ∨ n = 4 by omega) with rfl | rfl | rfl | rfl | rfl <;> decide⟩
  obtain ⟨P, hP, hP16⟩ := hsn
  have hsh : (1 : Int) * 2 ^ n = (P : Int) := by rw [hP]; simp
  have HP := Lib.hid hP
  rw [← hP]
  have hsc : ∃ C2 : Nat, C2 = 2 ^ c ∧ C2 ≤ 16 := ⟨2 ^ c, rfl, by rcases (show c = 0 ∨ c = 1 ∨ c = 2 ∨ c = 3 ∨ c = 4 by omega) with rfl | rfl | rfl | rfl | rfl <;> decide⟩
  obtain ⟨C2, hC2, hC16⟩ := hsc
  have hsh2 : (1 : Int) * 2 ^ c = (C2 : Int) := by rw [hC2]; simp
  have hc0 : (0 : Int) ≤ (c : Int) := by omega
  have hcI : (c : Int) ≤ 4 := by omega
  have HC2 := Lib.hid hC2
  clear hC2
  clear hn hc hR hE hb hvl hS hrr hP
  go_enter Tryz.func56, Tryz.ntmps56
  go_wp2_with fail
  go_loopw [5, 6, 7, 8, 9, 10, 11, 12] (fun gv rv _ _ _ _ _ _ wr => ∃ r : Nat, r ≤ P ∧ rv = .int .i64 r ∧ gv = .int .i64 (divAll M n c k r) ∧ Ext w wr) (fun _ rv _ _ _ _ _ _ _ => P - (intOf rv).toNat)
  case atStart => exact ⟨0, by omega, by go_num, rfl, Ext.refl _⟩
  case round =>
    obtain ⟨r, hr, rfl, rfl, hX⟩ := hrel
    generalize wr = X at *
    obtain ⟨g, hg⟩ : ∃ g, g = divAll M n c k r := ⟨_, rfl⟩
    rw [← hg]
    have Hg := Lib.hid hg
    have HgB := Lib.hid (show g ≤ 1000000000000000000 by rw [hg]; exact divAll_b HE.out Hb.out r)
    clear hg
    by_cases hlt : r < P
    · have hri : (r : Int) < (P : Int) := by omega
      have HX := Lib.hid hX
      clear hX
      go_wp2_with fail
      go_loopw [5, 7, 8, 9, 10, 11, 12] (fun gv cv _ _ _ _ _ wr => ∃ cs : Nat, cs ≤ C2 ∧ cv = .int .i64 cs ∧ gv = .int .i64 (divRow M n c k r g cs) ∧ Ext w wr) (fun _ cv _ _ _ _ _ _ => C2 - (intOf cv).toNat)
      case atStart => exact ⟨0, by omega, by go_num, rfl, HX.out⟩
      case round =>
        obtain ⟨cs, hcs, rfl, rfl, hY⟩ := hrel
        generalize wr = Y at *
        obtain ⟨h, hh⟩ : ∃ h, h = divRow M n c k r g cs := ⟨_, rfl⟩
        rw [← hh]
        have HhB := Lib.hid (show h ≤ 1000000000000000000 by rw [hh]; exact divRow_b HE.out Hb.out HgB.out cs)
        have Hh := Lib.hid hh
        clear hh
        go_wp2_with fail
        refine (hco.out _ hY).mono ?_
        rintro e w1 ⟨rfl, hE1⟩
        have hY1 := hY.trans hE1
        have HY1 := Lib.hid hY1
        clear hY hE1 hY1
        by_cases hlt2 : cs < C2
        · have hci : (cs : Int) < (C2 : Int) := by omega
          have Hnx := Lib.hid (show divStep M n c k r h cs = divRow M n c k r g (cs + 1) by rw [Hh.out]; rfl)
          obtain ⟨wd, hwd⟩ : ∃ wd, wd = (selI c cs).length := ⟨_, rfl⟩
          have Hwd := Lib.hid hwd
          have hwdB : wd ≤ 4 := by rw [hwd]; exact Nat.le_trans (selI_le _ _) hc4
          clear hwd
          go_wp2_with fail
          go_loopw [8, 9, 10, 11, 12] (fun pv dv iv _ _ wr => ∃ i : Nat, i ≤ n ∧ iv = .int .i64 i ∧ dv = .int .i64 (widF i r wd) ∧ Hid (MatO w1.heap.size wr pv (subM M i c r cs)) ∧ Ext w1 wr) (fun _ _ iv _ _ _ => n - (intOf iv).toNat)
          case atStart => exact ⟨0, by omega, by go_num, rfl, Lib.hid (MatO.nil _ _), Ext.refl _⟩
          case round =>
            obtain ⟨i, hi, rfl, rfl, hO, hZ⟩ := hrel
            generalize wr = Z at *
            by_cases hlt3 : i < n
            · have hii : (i : Int) < (n : Int) := by omega
              obtain ⟨q, hq⟩ : ∃ q, q = r / 2 ^ i := ⟨_, rfl⟩
              have hshr : (r : Int) / 2 ^ i = (q : Int) := by rw [hq]; simp
              have hi0 : (0 : Int) ≤ (i : Int) := by omega
              have hi64 : (i : Int) ≤ 64 := by omega
              have hq16 : q < 16 := by
                have := Nat.div_le_self r (2 ^ i)
                omega
              have han := and1 hq16
              have hw1 := widF_succ i r wd
              have hs1 := subM_succ M i c r cs
              rw [← hq] at hw1 hs1
              by_cases hbit : q % 2 = 1
              · rw [hbit] at han
                rw [if_pos hbit] at hw1 hs1
                have Hw1 := Lib.hid hw1
                have Hs1 := Lib.hid hs1
                have han2 : bits .and .i64 (q : Int) 1 = 1 := han
                have hiM : i < M.length := by rw [Hn.out]; exact hlt3
                obtain ⟨sr, br, or, cr, hrow, hrc, hSr⟩ := Hrow.out i hiM
                obtain rfl := Haddr.out (by omega)
                have hwZ := HY1.out.trans hZ
                have hrZ := hwZ.cell hrow
                have hrl : M[i].length = c := HR.out _ (List.getElem_mem hiM)
                have hgd : M.getD i [] = M[i] := getD_get hiM _
                rw [hrl] at hrZ hrow
                have HSr := Lib.hid hSr
                have Hrl := Lib.hid hrl
                have Hgd := Lib.hid hgd
                obtain ⟨row, hrow2⟩ : ∃ row, row = M[i] := ⟨_, rfl⟩
                rw [← hrow2] at HSr Hrl Hgd
                have HrowC := Lib.hid hrow
                have hZs := hZ.size
                clear hq hbit han hw1 hs1 hrc hSr hrl hgd hrow2 hwZ hrow hiM
                go_wp2_with fail
                go_loopw [11, 12] (fun xv jv wr => ∃ j : Nat, j ≤ c ∧ jv = .int .i64 j ∧ Hid (RowV Z.heap.size wr xv (subR row j cs)) ∧ Ext Z wr) (fun _ jv _ => c - (intOf jv).toNat)
                case atStart => exact ⟨0, by omega, by go_num, Lib.hid (RowV.nil _ _), Ext.refl _⟩
                case round =>
                  obtain ⟨j, hj, rfl, hx, hU⟩ := hrel
                  generalize wr = U at *
                  have hwU := HY1.out.trans (hZ.trans hU)
                  have hrU := hwU.cell HrowC.out
                  by_cases hlt4 : j < c
                  · have hji : (j : Int) < (c : Int) := by omega
                    obtain ⟨p, hp⟩ : ∃ p, p = cs / 2 ^ j := ⟨_, rfl⟩
                    have hshr2 : (cs : Int) / 2 ^ j = (p : Int) := by rw [hp]; simp
                    have hj0 : (0 : Int) ≤ (j : Int) := by omega
                    have hj64 : (j : Int) ≤ 64 := by omega
                    have hp16 : p < 16 := by
                      have := Nat.div_le_self cs (2 ^ j)
                      omega
                    have han3 := and1 hp16
                    have hs2 := subR_succ row j cs
                    rw [← hp] at hs2
                    have hjr : j < row.length := by rw [Hrl.out]; exact hlt4
                    obtain ⟨z, hz⟩ : ∃ z, z = row.getD j 0 := ⟨_, rfl⟩
                    have hcz := (HSr.out.ext hwU).cell j (.int .i64 z) (by rw [is_get hjr, hz, getD_get hjr])
                    obtain rfl := HSr.out.addr (by rw [is_length]; omega)
                    rw [← hz] at hs2
                    have Hlen := Lib.hid (show (subR row j cs).length ≤ 1000000000 by rw [subR_length]; have := selI_le j cs; omega)
                    obtain ⟨xl, hxl⟩ : ∃ xl, xl = (subR row j cs).length := ⟨_, rfl⟩
                    have hUs := hU.size
                    by_cases hbit2 : p % 2 = 1
                    · rw [if_pos hbit2] at hs2
                      rw [hbit2] at han3
                      have han4 : bits .and .i64 (p : Int) 1 = 1 := han3
                      have Hs2 := Lib.hid hs2
                      clear hp han3 hs2 hz hbit2 hxl hjr
                      generalize subR row j cs = xr at *
                      go_wp2_with (at_builtin; refine app_int rfl _ _ 32 Tryz.underlying32 rfl rfl (hx.out.ext ((Ext.refl _).alloc _)) rfl (b := U.heap.size) (z := z) (by go_simp) Hlen.out (by simp; omega) ?_; intro gg cap2 w8 hO8 hB8 hG8; rw [← Hs2.out] at hO8)
                      have hE8 : Ext Z w8 := Below.trans (hU.alloc (.cells #[.int .i64 z] 3)) hB8
                      have HO8 := Lib.hid hO8
                      clear hG8 hB8 hO8
                      go_wp2_with fail
                      go_roundw
                      case rel => exact ⟨j + 1, by omega, by go_num, HO8, hE8⟩
                      case measure => simp [intOf] <;> omega
                    · rw [if_neg hbit2] at hs2
                      rw [show p % 2 = 0 by omega] at han3
                      have han4 : bits .and .i64 (p : Int) 1 = 0 := han3
                      have Hx2 := Lib.hid (show RowV Z.heap.size U _ (subR row (j + 1) cs) by rw [hs2]; exact hx.out)
                      clear hp han3 hs2 hz hbit2 hxl hjr hcz
                      go_wp2_with fail
                      go_roundw
                      case rel => exact ⟨j + 1, by omega, by go_num, Hx2, hU⟩
                      case measure => simp [intOf] <;> omega
                  · have hje : j = c := by omega
                    have hji : ¬ (j : Int) < (c : Int) := by omega
                    have hxv := hx.out
                    rw [hje] at hxv
                    have hxl : (subR row c cs).length = wd := by rw [subR_length, Hwd.out]
                    obtain ⟨sx, cx, hsx, _⟩ := hxv.row.len
                    rw [hxl] at hsx
                    subst hsx
                    have HX2 := Lib.hid (hxv.mono hZ.size)
                    have HOU := Lib.hid (hO.out.ext hU)
                    have hZU := hZ.trans hU
                    have hUs := hZU.size
                    have Hs2 := Lib.hid (show subM M (i + 1) c r cs = subM M i c r cs ++ [subR row c cs] by rw [Hs1.out, Hgd.out])
                    have Hpl := Lib.hid (show (subM M i c r cs).length ≤ 1000000000 by rw [subM_length]; have := selI_le i r; omega)
                    clear hx hxv hje hxl hO
                    generalize subR row c cs = xr at *
                    generalize subM M i c r cs = F at *
                    go_wp2_with (at_builtin; refine app_mat rfl _ _ rfl rfl (HOU.out.ext ((Ext.refl _).alloc _)) rfl (b := U.heap.size) (by go_simp) (HX2.out.ext ((Ext.refl _).alloc _)) Hpl.out (by simp; omega) ?_; intro gg cap2 w8 hO8 hB8 hG8; rw [← Hs2.out] at hO8)
                    have hE8 : Ext w1 w8 := Below.trans (hZU.alloc (.cells #[.slice sx wd cx] 32)) hB8
                    have HO8 := Lib.hid hO8
                    clear hO8 hB8 hG8
                    go_wp2_with fail
                    go_roundw
                    case rel => exact ⟨i + 1, by omega, by go_num, by rw [Hw1.out], HO8, hE8⟩
                    case measure => simp [intOf] <;> omega
              · rw [show q % 2 = 0 by omega] at han
                rw [if_neg hbit] at hw1 hs1
                have han2 : bits .and .i64 (q : Int) 1 = 0 := han
                have Hw1 := Lib.hid (show widF i r wd = widF (i + 1) r wd from hw1.symm)
                have HO2 := Lib.hid (show MatO w1.heap.size Z _ (subM M (i + 1) c r cs) by rw [hs1]; exact hO.out)
                clear hq hbit han hw1 hs1
                go_wp2_with fail
                go_roundw
                case rel => exact ⟨i + 1, by omega, by go_num, by rw [Hw1.out], HO2, hZ⟩
                case measure => simp [intOf] <;> omega
            · have hie : i = n := by omega
              have hii : ¬ (i : Int) < (n : Int) := by omega
              subst hie
              have hmat := hO.out.mat
              obtain ⟨so, go', oo, co, vo, rfl, hco2, _, _, _⟩ := id hmat
              have Hmat := Lib.hid hmat
              obtain ⟨p, hp⟩ : ∃ p, p = (selI i r).length := ⟨_, rfl⟩
              rw [subM_length, ← hp]
              have hwid : widF i r wd = if p = 0 then 0 else wd := by unfold widF; rw [← hp]
              have hwZ := HY1.out.trans hZ
              have HwZ := Lib.hid hwZ
              have hdv : divStep M i c k r h cs = if p = k ∧ wd = k then Int.gcd h (detF k (subM M i c r cs)) else h := by unfold divStep; rw [← hp, ← Hwd.out]
              rw [hdv] at Hnx
              have hpB : p ≤ 4 := by rw [hp]; exact Nat.le_trans (selI_le _ _) hn4
              obtain ⟨W0, hW0⟩ : ∃ W0, W0 = widF i r wd := ⟨_, rfl⟩
              rw [← hW0] at hwid ⊢
              have hk0 : ¬ (k : Int) = 0 := by omega
              have hk0b : ((k : Int) == 0) = false := beq_eq_false_iff_ne.2 hk0
              have hkp : (0 : Int) < (k : Int) := by omega
              have hk1 := hk.1
              have hk4 := hk.2
              by_cases hpk : p = k
              · rw [if_neg (by omega)] at hwid
                subst hwid
                by_cases hwk : W0 = k
                · have Hd := Lib.hid (fun W (hW : Ext Z W) => Det08_any hB k W _ (subM M i c r cs) (Hmat.out.ext hW) (by rw [subM_length, ← hp]; exact hpk) (by have := subM_rect M i c r cs; rwa [← Hwd.out, hwk] at this) (by omega) (subM_ent HE.out _ _ _ _) Hb.out)
                  obtain ⟨dd, hdd⟩ : ∃ dd, dd = detF k (subM M i c r cs) := ⟨_, rfl⟩
                  rw [subM_length, ← hp, ← hdd] at Hd
                  rw [if_pos ⟨hpk, hwk⟩, ← hdd] at Hnx
                  have hddB : dd.natAbs ≤ 1000000000000000000 := by rw [hdd]; exact Nat.le_trans (detF_b k (subM_ent HE.out _ _ _ _)) Hb.out
                  have hhB := HhB.out
                  have Hgc := Lib.hid (fun W => Gcd08_any (w := W) (a := (h : Int)) (b := dd) (by omega) (by omega))
                  subst hpk hwk
                  clear hdd hddB hhB hp hW0 hdv hmat hco2 hwZ hO
                  go_wp2_with fail
                  refine (Hd.out _ (Ext.refl _)).mono ?_
                  rintro e w2 ⟨rfl, hE2⟩
                  have hX2 := HwZ.out.trans hE2
                  clear hE2 Hd
                  go_wp2_with fail
                  refine (Hgc.out _).mono ?_
                  rintro e w3 ⟨rfl, hE3⟩
                  have hX3 := hX2.trans hE3
                  clear hE3 hX2 Hgc
                  go_wp2_with fail
                  go_roundw
                  case rel => exact ⟨cs + 1, by omega, by go_num, by rw [← Hnx.out], hX3⟩
                  case measure => simp [intOf] <;> omega
                · rw [if_neg (fun h => hwk h.2)] at Hnx
                  have hwkI : ¬ (W0 : Int) = (k : Int) := by omega
                  have hwkb : ((W0 : Int) == (k : Int)) = false := beq_eq_false_iff_ne.2 hwkI
                  subst hpk
                  clear hp hW0 hdv hmat hco2 hwZ hO hwk
                  go_wp2_with fail
                  go_roundw
                  case rel => exact ⟨cs + 1, by omega, by go_num, by rw [← Hnx.out], HwZ.out⟩
                  case measure => simp [intOf] <;> omega
              · rw [if_neg (fun h => hpk h.1)] at Hnx
                have hpkI : ¬ (p : Int) = (k : Int) := by omega
                have hpkb : ((p : Int) == (k : Int)) = false := beq_eq_false_iff_ne.2 hpkI
                clear hp hW0 hdv hmat hco2 hwZ hO hpk hwid
                go_wp2_with fail
                go_roundw
                case rel => exact ⟨cs + 1, by omega, by go_num, by rw [← Hnx.out], HwZ.out⟩
                case measure => simp [intOf] <;> omega
        · have hce : cs = C2 := by omega
          have hci : ¬ (cs : Int) < (C2 : Int) := by omega
          have Hnx := Lib.hid (show h = divAll M n c k (r + 1) by rw [Hh.out, Hg.out, hce, HC2.out]; rfl)
          clear hce
          go_wp2_with fail
          go_roundw
          case rel => exact ⟨r + 1, by omega, by go_num, by rw [← Hnx.out], HY1.out⟩
          case measure => simp [intOf] <;> omega
    · have hre : r = P := by omega
      have hri : ¬ (r : Int) < (P : Int) := by omega
      have Hres := Lib.hid (show (g : Int) = (divAll M n c k P : Nat) by rw [Hg.out, hre])
      clear hre
      go_wp2_with fail
      go_ret
      exact ⟨by rw [← Hres.out]; rfl, hX⟩
end Go.Proofs.YtokjolmpdfmnbaaGreatDoor
namespace Go.Proofs.YtokjolmpdfmnbaaGreatDoor
open Go.RowKit Go.Sort
def dvA (M : Mx) (n c t : Nat) : Nat := divAll M n c (t + 1) (2 ^ n)
def dvl (M : Mx) (n c j : Nat) : List Int := (List.range j).map fun t => (dvA M n c t : Int)
@[simp] theorem dvl_length (M : Mx) (n c j : Nat) : (dvl M n c j).length = j := by simp [dvl]
theorem dvl_snoc (M : Mx) (n c j : Nat) : dvl M n c j ++ [(dvA M n c j : Int)] = dvl M n c (j + 1) := by unfold dvl; rw [List.range_succ, List.map_append]; rfl
def DvJ (M : Mx) (n c j : Nat) : Prop := j ≤ n ∧ j ≤ c ∧ (∀ t, t < j → dvA M n c t ≠ 0) ∧ (j < n → j < c → dvA M n c j = 0)
structure DvM (M : Mx) (n c B : Nat) : Prop where
  hn : M.length = n
  hc : ncols M = c
  rect : Rect c M
  n4 : n ≤ 4
  c4 : c ≤ 4
  b1 : 1 ≤ B
  ent : EntB B M
  lim : ∀ k, k ≤ n → k ≤ c → dB8 B k ≤ 1000000000000000000
theorem DvM.b {M : Mx} {n c B : Nat} (h : DvM M n c B) {t : Nat} (h1 : t < n) (h2 : t < c) : dvA M n c t ≤ 1000000000000000000 := divAll_b h.ent (h.lim (t + 1) h1 h2) _
set_option maxRecDepth 100000 in
set_option maxHeartbeats 4000000 in
theorem Divisors08_any {w : World} {v : Value} {M : Mx} {n c B : Nat} (hM : MatR w v M) (hD : DvM M n c B) :
    Calls Tryz.prog 13 #[v] w fun e w' => ∃ u, e = .returned u ∧ (∃ j, RowV w.heap.size w' u (dvl M n c j) ∧ DvJ M n c j) ∧ Ext w w' := by
  have hco := Lib.hid (fun W (hW : Ext w W) => Columns08_any (hM.ext hW))
  have hdi := Lib.hid (fun W (hW : Ext w W) t (h1 : t < n) (h2 : t < c) => Divisor08_any (k := t + 1) (hM.ext hW) hD.hn hD.hc hD.rect hD.n4 hD.c4 (by have := hD.n4; omega) hD.b1 hD.ent (hD.lim (t + 1) h1 h2))
  rw [hD.hc] at hco
  obtain ⟨sa, gb, go, cap, vs, rfl, _, _, _, _⟩ := hM
  rw [hD.hn] at hco hdi ⊢
  have HD := Lib.hid hD
  have hn4 := hD.n4
  have hc4 := hD.c4
  clear hD
  go_enter Tryz.func13, Tryz.ntmps13
  go_wp2_with fail
  go_loopw [3, 4, 5] (fun ov kv _ wr => ∃ j : Nat, j ≤ n ∧ j ≤ c ∧ kv = .int .i64 ((j : Int) + 1) ∧ Hid (RowV w.heap.size wr ov (dvl M n c j)) ∧ Hid (∀ t, t < j → dvA M n c t ≠ 0) ∧ Ext w wr) (fun _ kv _ _ => n + 1 - (intOf kv).toNat)
  case atStart => exact ⟨0, by omega, by omega, by go_num, Lib.hid (RowV.nil _ _), Lib.hid (fun t h => by omega), Ext.refl _⟩
  case round =>
    obtain ⟨j, hjn, hjc, rfl, hO, hz, hE⟩ := hrel
    generalize wr = X at *
    by_cases h1 : j < n
    · have h1I : (j : Int) + 1 ≤ (n : Int) := by omega
      go_wp2_with fail
      refine (hco.out _ hE).mono ?_
      rintro e w1 ⟨rfl, hE1⟩
      have hX1 := hE.trans hE1
      have HO1 := Lib.hid (hO.out.ext hE1)
      clear hE1 hO
      by_cases h2 : j < c
      · have h2I : (j : Int) + 1 ≤ (c : Int) := by omega
        obtain ⟨d, hd⟩ : ∃ d, d = dvA M n c j := ⟨_, rfl⟩
        have hdB : d ≤ 1000000000000000000 := by rw [hd]; exact HD.out.b h1 h2
        have hdv := Lib.hid (hdi.out _ hX1 j h1 h2)
        rw [show divAll M n c (j + 1) (2 ^ n) = d from hd.symm] at hdv
        rw [show ((j + 1 : Nat) : Int) = (j : Int) + 1 by omega] at hdv
        have Hd := Lib.hid hd
        clear hd
        go_wp2_with fail
        refine hdv.out.mono ?_
        rintro e w2 ⟨rfl, hE2⟩
        have hX2 := hX1.trans hE2
        have HO2 := Lib.hid (HO1.out.ext hE2)
        clear hE2 HO1 hdv
        by_cases hd0 : d = 0
        · have Hj := Lib.hid (show DvJ M n c j from ⟨hjn, hjc, hz.out, fun _ _ => by rw [← Hd.out]; exact hd0⟩)
          subst hd0
          go_wp2_with fail
          go_ret
          exact ⟨_, rfl, ⟨j, HO2.out, Hj.out⟩, hX2⟩
        · have hdI : ¬ (d : Int) = 0 := by omega
          have hdb : ((d : Int) == 0) = false := beq_eq_false_iff_ne.2 hdI
          have Hsn := Lib.hid (show dvl M n c j ++ [(d : Int)] = dvl M n c (j + 1) by rw [Hd.out]; exact dvl_snoc M n c j)
          have Hz2 := Lib.hid (show ∀ t, t < j + 1 → dvA M n c t ≠ 0 from fun t ht => by
            by_cases e : t = j
            · subst e; rw [← Hd.out]; exact hd0
            · exact hz.out t (by omega))
          have Hl := Lib.hid (show (dvl M n c j).length ≤ 1000000000 by rw [dvl_length]; omega)
          have hs2 := hX2.size
          clear hd0 hz
          generalize dvl M n c j = L at *
          go_wp2_with (at_builtin; refine app_int rfl _ _ 31 Tryz.underlying31 rfl rfl (HO2.out.ext ((Ext.refl _).alloc _)) rfl (b := w2.heap.size) (z := (d : Int)) (by go_simp) Hl.out (by simp; omega) ?_; intro gg cap2 w8 hO8 hB8 hG8; rw [Hsn.out] at hO8)
          have hE8 : Ext w w8 := Below.trans (hX2.alloc (.cells #[.int .i64 (d : Int)] 3)) hB8
          have HO8 := Lib.hid hO8
          clear hO8 hB8 hG8
          go_wp2_with fail
          go_roundw
          case rel => exact ⟨j + 1, by omega, by omega, by go_num, HO8, Hz2, hE8⟩
          case measure => simp [intOf] <;> omega
      · have h2I : ¬ (j : Int) + 1 ≤ (c : Int) := by omega
        have Hj := Lib.hid (show DvJ M n c j from ⟨hjn, hjc, hz.out, fun _ h => absurd h h2⟩)
        clear hz
        go_wp2_with fail
        go_ret
        exact ⟨_, rfl, ⟨j, HO1.out, Hj.out⟩, hX1⟩
    · have h1I : ¬ (j : Int) + 1 ≤ (n : Int) := by omega
      have Hj := Lib.hid (show DvJ M n c j from ⟨hjn, hjc, hz.out, fun h _ => absurd h h1⟩)
      clear hz
      go_wp2_with fail
      go_ret
      exact ⟨_, rfl, ⟨j, hO.out, Hj.out⟩, hE⟩
def qfE (M : Mx) (n c t : Nat) : Int := (dvA M n c t : Int).tdiv (if t = 0 then 1 else (dvA M n c (t - 1) : Int))
def qfL (M : Mx) (n c j : Nat) : List Int := (List.range j).map (qfE M n c)
@[simp] theorem qfL_length (M : Mx) (n c j : Nat) : (qfL M n c j).length = j := by simp [qfL]
def lastD (M : Mx) (n c j : Nat) : Nat := if j = 0 then 1 else dvA M n c (j - 1)
set_option maxRecDepth 100000 in
set_option maxHeartbeats 4000000 in
theorem Last08_any {w : World} {v : Value} {M : Mx} {n c B : Nat} (hM : MatR w v M) (hD : DvM M n c B) :
    Calls Tryz.prog 14 #[v] w fun e w' => ∃ j, DvJ M n c j ∧ e = .returned (.int .i64 (lastD M n c j)) ∧ Ext w w' := by
  have hdv := Lib.hid (Divisors08_any hM hD)
  obtain ⟨sa, gb, go, cap, vs, rfl, _, _, _, _⟩ := hM
  have hn4 := hD.n4
  clear hD
  go_enter Tryz.func14, Tryz.ntmps14
  go_wp2_with fail
  refine hdv.out.mono ?_
  rintro e w1 ⟨u, rfl, ⟨J, hu, hJ⟩, hE1⟩
  obtain ⟨sl, gl, ol, cl, rfl, hcl, hSl⟩ := hu.row
  rw [dvl_length] at hcl ⊢
  by_cases h0 : J = 0
  · subst h0
    have HJ := Lib.hid hJ
    clear hu hJ hSl hdv
    go_wp2_with fail
    go_ret
    exact ⟨0, HJ.out, rfl, hE1⟩
  · obtain ⟨t, rfl⟩ : ∃ t, J = t + 1 := ⟨J - 1, by omega⟩
    have htB : t + 1 ≤ 4 := Nat.le_trans hJ.1 hn4
    have hget : (is (dvl M n c (t + 1)))[t]? = some (.int .i64 (dvA M n c t : Int)) := by
      rw [is_get (by rw [dvl_length]; omega)]; simp [dvl]
    have c1 := hSl.cell t _ hget
    obtain rfl := hSl.addr (by rw [is_length, dvl_length]; omega)
    have hres : (dvA M n c t : Int) = (lastD M n c (t + 1) : Int) := by unfold lastD; rw [if_neg (by omega)]; rfl
    obtain ⟨d, hd⟩ : ∃ d : Int, d = (dvA M n c t : Int) := ⟨_, rfl⟩
    rw [← hd] at c1 hres
    have Hres := Lib.hid hres
    have HJ := Lib.hid hJ
    have ht0 : ¬ ((t + 1 : Nat) : Int) = 0 := by omega
    have ht0b : (((t + 1 : Nat) : Int) == 0) = false := beq_eq_false_iff_ne.2 ht0
    have htI : (t : Int) < ((t + 1 : Nat) : Int) := by omega
    have ht1 : ((t + 1 : Nat) : Int) - 1 = (t : Int) := by omega
    clear hu hJ hSl hdv hget hres hd h0
    go_wp2_with fail
    go_ret
    exact ⟨t + 1, HJ.out, by rw [← Hres.out]; rfl, hE1⟩
end Go.Proofs.YtokjolmpdfmnbaaGreatDoor
namespace Go.Proofs.YtokjolmpdfmnbaaGreatDoor
theorem divStep_dvd {M : Mx} {n c k rs g cs : Nat} (x : Int) : x ∣ (divStep M n c k rs g cs : Int) ↔ x ∣ (g : Int) ∧ ((selI n rs).length = k → (selI c cs).length = k → x ∣ detF k (subM M n c rs cs)) := by
  unfold divStep
  by_cases h : (selI n rs).length = k ∧ (selI c cs).length = k
  · rw [if_pos h, Int.dvd_coe_gcd_iff]
    exact ⟨fun ⟨a, b⟩ => ⟨a, fun _ _ => b⟩, fun ⟨a, b⟩ => ⟨a, b h.1 h.2⟩⟩
  · rw [if_neg h]
    exact ⟨fun a => ⟨a, fun h1 h2 => absurd ⟨h1, h2⟩ h⟩, fun a => a.1⟩
theorem divRow_dvd {M : Mx} {n c k rs g : Nat} (x : Int) : ∀ cs, (x ∣ (divRow M n c k rs g cs : Int) ↔ x ∣ (g : Int) ∧ ∀ j, j < cs → (selI n rs).length = k → (selI c j).length = k → x ∣ detF k (subM M n c rs j))
  | 0 => ⟨fun h => ⟨h, fun j hj => by omega⟩, fun h => h.1⟩
  | cs + 1 => by
    rw [divRow, divStep_dvd, divRow_dvd x cs]
    constructor
    · rintro ⟨⟨a, b⟩, d⟩
      refine ⟨a, fun j hj => ?_⟩
      by_cases e : j = cs
      · subst e; exact d
      · exact b j (by omega)
    · rintro ⟨a, b⟩
      exact ⟨⟨a, fun j hj => b j (by omega)⟩, b cs (by omega)⟩
theorem divAll_dvd {M : Mx} {n c k : Nat} (x : Int) : ∀ rs, (x ∣ (divAll M n c k rs : Int) ↔ ∀ r, r < rs → ∀ j, j < 2 ^ c → (selI n r).length = k → (selI c j).length = k → x ∣ detF k (subM M n c r j))
  | 0 => ⟨fun _ r hr => by omega, fun _ => Int.dvd_zero x⟩
  | rs + 1 => by
    rw [divAll, divRow_dvd, divAll_dvd x rs]
    constructor
    · rintro ⟨a, b⟩ r hr
      by_cases e : r = rs
      · subst e; exact b
      · exact a r (by omega)
    · intro a
      exact ⟨fun r hr => a r (by omega), a rs (by omega)⟩
theorem detF1 (a : Int) : detF 1 [[a]] = a := by simp [detF, detS, sgn8, eM]
theorem detF2 (a b c d : Int) : detF 2 [[a, b], [c, d]] = a * d - b * c := by
  simp [detF, detS, sgn8, eM, mnr]; grind
theorem detF3 (a b c d e f g h i : Int) : detF 3 [[a, b, c], [d, e, f], [g, h, i]] = a * (e * i - f * h) - b * (d * i - f * g) + c * (d * h - e * g) := by
  simp [detF, detS, sgn8, eM, mnr]
  grind
theorem mask1 {n i : Nat} (hn : n ≤ 4) (hi : i < n) : ∃ r, r < 2 ^ n ∧ selI n r = [i] := by
  have h : ∀ n : Fin 5, ∀ i : Fin 4, i.val < n.val → ∃ r : Fin 16, r.val < 2 ^ n.val ∧ selI n.val r.val = [i.val] := by decide +kernel
  obtain ⟨r, h1, h2⟩ := h ⟨n, by omega⟩ ⟨i, by omega⟩ hi
  exact ⟨r.val, h1, h2⟩
theorem mask2 {n i j : Nat} (hn : n ≤ 4) (hij : i < j) (hj : j < n) : ∃ r, r < 2 ^ n ∧ selI n r = [i, j] := by
  have h : ∀ n : Fin 5, ∀ i j : Fin 4, i.val < j.val → j.val < n.val → ∃ r : Fin 16, r.val < 2 ^ n.val ∧ selI n.val r.val = [i.val, j.val] := by decide +kernel
  obtain ⟨r, h1, h2⟩ := h ⟨n, by omega⟩ ⟨i, by omega⟩ ⟨j, by omega⟩ hij hj
  exact ⟨r.val, h1, h2⟩
theorem mask3 {n i j m : Nat} (hn : n ≤ 4) (hij : i < j) (hjm : j < m) (hm : m < n) : ∃ r, r < 2 ^ n ∧ selI n r = [i, j, m] := by
  have h : ∀ n : Fin 5, ∀ i j m : Fin 4, i.val < j.val → j.val < m.val → m.val < n.val → ∃ r : Fin 16, r.val < 2 ^ n.val ∧ selI n.val r.val = [i.val, j.val, m.val] := by decide +kernel
  obtain ⟨r, h1, h2⟩ := h ⟨n, by omega⟩ ⟨i, by omega⟩ ⟨j, by omega⟩ ⟨m, by omega⟩ hij hjm hm
  exact ⟨r.val, h1, h2⟩
theorem len1 {l : List Nat} (h : l.length = 1) : ∃ i, l = [i] := by
  match l, h with
  | [i], _ => exact ⟨i, rfl⟩
theorem len2 {l : List Nat} (h : l.length = 2) : ∃ i j, l = [i, j] := by
  match l, h with
  | [i, j], _ => exact ⟨i, j, rfl⟩
theorem len3 {l : List Nat} (h : l.length = 3) : ∃ i j m, l = [i, j, m] := by
  match l, h with
  | [i, j, m], _ => exact ⟨i, j, m, rfl⟩
theorem sub1 {M : Mx} {n c r s i k : Nat} (h1 : selI n r = [i]) (h2 : selI c s = [k]) : detF 1 (subM M n c r s) = eM M i k := by
  have e : subM M n c r s = [[eM M i k]] := by unfold subM subR; rw [h1, h2]; rfl
  rw [e, detF1]
theorem sub2 {M : Mx} {n c r s i j k l : Nat} (h1 : selI n r = [i, j]) (h2 : selI c s = [k, l]) : detF 2 (subM M n c r s) = m2 (eM M) i j k l := by
  have e : subM M n c r s = [[eM M i k, eM M i l], [eM M j k, eM M j l]] := by unfold subM subR; rw [h1, h2]; rfl
  rw [e, detF2]; rfl
theorem sub3 {M : Mx} {n c r s i j m k l p : Nat} (h1 : selI n r = [i, j, m]) (h2 : selI c s = [k, l, p]) : detF 3 (subM M n c r s) = m3 (eM M) i j m k l p := by
  have e : subM M n c r s = [[eM M i k, eM M i l, eM M i p], [eM M j k, eM M j l, eM M j p], [eM M m k, eM M m l, eM M m p]] := by unfold subM subR; rw [h1, h2]; rfl
  rw [e, detF3]; rfl
theorem m2_sr (A : FM) (i j k l : Nat) : m2 A j i k l = -m2 A i j k l := by unfold m2; rw [Int.mul_comm (A j k), Int.mul_comm (A j l)]; omega
theorem m2_sc (A : FM) (i j k l : Nat) : m2 A i j l k = -m2 A i j k l := by unfold m2; omega
theorem m2_er (A : FM) (i k l : Nat) : m2 A i i k l = 0 := by unfold m2; rw [Int.mul_comm (A i l)]; omega
theorem m2_ec (A : FM) (i j k : Nat) : m2 A i j k k = 0 := by unfold m2; omega
theorem m3_s12 (A : FM) (i j m k l p : Nat) : m3 A j i m k l p = -m3 A i j m k l p := by unfold m3 m2; grind
theorem m3_s23 (A : FM) (i j m k l p : Nat) : m3 A i m j k l p = -m3 A i j m k l p := by unfold m3 m2; grind
theorem sort3 {P : Nat → Nat → Nat → Prop} (s12 : ∀ i j m, P j i m → P i j m) (s23 : ∀ i j m, P i m j → P i j m) (e12 : ∀ i m, P i i m) (e23 : ∀ i m, P i m m) (h : ∀ i j m, i < j → j < m → P i j m) (i j m : Nat) : P i j m := by
  have h2 : ∀ i j m, i < j → P i j m := fun i j m hij => by
    rcases Nat.lt_trichotomy j m with a | a | a
    · exact h i j m hij a
    · subst a; exact e23 _ _
    · refine s23 _ _ _ ?_
      rcases Nat.lt_trichotomy i m with b | b | b
      · exact h i m j b a
      · subst b; exact e12 _ _
      · exact s12 _ _ _ (h m i j b hij)
  rcases Nat.lt_trichotomy i j with a | a | a
  · exact h2 i j m a
  · subst a; exact e12 _ _
  · exact s12 _ _ _ (h2 j i m a)
section
variable {M : Mx} {n c : Nat} (hl : M.length = n) (hR : Rect c M) (hn : n ≤ 4) (hc : c ≤ 4)
include hl hR hn hc
theorem div1 (x : Int) : x ∣ (dvA M n c 0 : Int) ↔ X1 x (eM M) := by
  unfold dvA
  rw [divAll_dvd]
  constructor
  · intro h i k
    by_cases hi : i < n
    · by_cases hk : k < c
      · obtain ⟨r, r1, r2⟩ := mask1 hn hi
        obtain ⟨s, s1, s2⟩ := mask1 hc hk
        have := h r r1 s s1 (by rw [r2]; rfl) (by rw [s2]; rfl)
        rwa [sub1 r2 s2] at this
      · rw [el_col hR (by omega)]; exact Int.dvd_zero _
    · rw [el_row (by omega)]; exact Int.dvd_zero _
  · intro h r _ s _ a b
    obtain ⟨i, e1⟩ := len1 a
    obtain ⟨k, e2⟩ := len1 b
    rw [sub1 e1 e2]; exact h _ _
theorem div2 (x : Int) : x ∣ (dvA M n c 1 : Int) ↔ X2 x (eM M) := by
  unfold dvA
  rw [divAll_dvd]
  constructor
  · intro h
    have base : ∀ i j k l, i < j → k < l → x ∣ m2 (eM M) i j k l := fun i j k l hij hkl => by
      by_cases hj : j < n
      · by_cases hk : l < c
        · obtain ⟨r, r1, r2⟩ := mask2 hn hij hj
          obtain ⟨s, s1, s2⟩ := mask2 hc hkl hk
          have := h r r1 s s1 (by rw [r2]; rfl) (by rw [s2]; rfl)
          rwa [sub2 r2 s2] at this
        · unfold m2; rw [el_col hR (show c ≤ l by omega), el_col hR (show c ≤ l by omega)]; simp
      · unfold m2; rw [el_row (i := j) (by omega), el_row (i := j) (by omega)]; simp
    have rows : ∀ i j k l, k < l → x ∣ m2 (eM M) i j k l := fun i j k l hkl => by
      rcases Nat.lt_trichotomy i j with a | a | a
      · exact base i j k l a hkl
      · subst a; rw [m2_er]; exact Int.dvd_zero _
      · rw [m2_sr]; exact Int.dvd_neg.2 (base j i k l a hkl)
    intro i j k l
    rcases Nat.lt_trichotomy k l with a | a | a
    · exact rows i j k l a
    · subst a; rw [m2_ec]; exact Int.dvd_zero _
    · rw [m2_sc]; exact Int.dvd_neg.2 (rows i j l k a)
  · intro h r _ s _ a b
    obtain ⟨i, j, e1⟩ := len2 a
    obtain ⟨k, l, e2⟩ := len2 b
    rw [sub2 e1 e2]; exact h _ _ _ _
theorem div3 (x : Int) : x ∣ (dvA M n c 2 : Int) ↔ X3 x (eM M) := by
  unfold dvA
  rw [divAll_dvd]
  constructor
  · intro h
    have base : ∀ i j m k l p, i < j → j < m → k < l → l < p → x ∣ m3 (eM M) i j m k l p := fun i j m k l p hij hjm hkl hlp => by
      by_cases hj : m < n
      · by_cases hk : p < c
        · obtain ⟨r, r1, r2⟩ := mask3 hn hij hjm hj
          obtain ⟨s, s1, s2⟩ := mask3 hc hkl hlp hk
          have := h r r1 s s1 (by rw [r2]; rfl) (by rw [s2]; rfl)
          rwa [sub3 r2 s2] at this
        · unfold m3 m2; rw [el_col hR (show c ≤ p by omega) i, el_col hR (show c ≤ p by omega) j, el_col hR (show c ≤ p by omega) m]; simp
      · unfold m3 m2; rw [el_row (i := m) (by omega) k, el_row (i := m) (by omega) l, el_row (i := m) (by omega) p]; simp
    have rows : ∀ i j m k l p, k < l → l < p → x ∣ m3 (eM M) i j m k l p := fun i j m k l p hkl hlp => by
      refine sort3 (P := fun i j m => x ∣ m3 (eM M) i j m k l p) (fun i j m h => ?_) (fun i j m h => ?_) (fun i m => ?_) (fun i m => ?_) (fun i j m a b => base i j m k l p a b hkl hlp) i j m
      · rw [m3_s12]; exact Int.dvd_neg.2 h
      · rw [m3_s23]; exact Int.dvd_neg.2 h
      · rw [m3_e12]; exact Int.dvd_zero _
      · rw [m3_e23]; exact Int.dvd_zero _
    intro i j m k l p
    refine sort3 (P := fun k l p => x ∣ m3 (eM M) i j m k l p) (fun k l p h => ?_) (fun k l p h => ?_) (fun k p => ?_) (fun k p => ?_) (fun k l p a b => rows i j m k l p a b) k l p
    · rw [← m3_tr, m3_s12, m3_tr]; exact Int.dvd_neg.2 h
    · rw [← m3_tr, m3_s23, m3_tr]; exact Int.dvd_neg.2 h
    · rw [← m3_tr, m3_e12]; exact Int.dvd_zero _
    · rw [← m3_tr, m3_e23]; exact Int.dvd_zero _
  · intro h r _ s _ a b
    obtain ⟨i, j, m, e1⟩ := len3 a
    obtain ⟨k, l, p, e2⟩ := len3 b
    rw [sub3 e1 e2]; exact h _ _ _ _ _ _
end
theorem dv_dia {M : Mx} {n c rank : Nat} {s : Dg} (hl : M.length = n) (hR : Rect c M) (hn : n ≤ 3) (hc : c ≤ 3) (hf : FinD n c (eM M) rank s) :
    (dvA M n c 0 : Int) = eM s.a 0 0 ∧ (dvA M n c 1 : Int) = eM s.a 0 0 * eM s.a 1 1 ∧ (dvA M n c 2 : Int) = eM s.a 0 0 * (eM s.a 1 1 * eM s.a 2 2) := by
  obtain ⟨hd, _, _⟩ := hf.dia hn
  have n0 := hd.nn 0
  have n1 := hd.nn 1
  have n2 := hd.nn 2
  refine ⟨eq_of_dvds (Int.natCast_nonneg _) n0 fun x => ?_, eq_of_dvds (Int.natCast_nonneg _) (Int.mul_nonneg n0 n1) fun x => ?_, eq_of_dvds (Int.natCast_nonneg _) (Int.mul_nonneg n0 (Int.mul_nonneg n1 n2)) fun x => ?_⟩
  · rw [div1 hl hR (by omega) (by omega), hf.eqv.e1]; exact hd.x1 x
  · rw [div2 hl hR (by omega) (by omega), hf.eqv.e2]; exact hd.x2 x
  · rw [div3 hl hR (by omega) (by omega), hf.eqv.e3]; exact hd.x3 x
theorem dvj_rank {M : Mx} {n c rank j : Nat} {s : Dg} (hl : M.length = n) (hR : Rect c M) (hn : n ≤ 3) (hc : c ≤ 3) (hf : FinD n c (eM M) rank s) (hj : DvJ M n c j) : j = rank := by
  obtain ⟨e0, e1, e2⟩ := dv_dia hl hR hn hc hf
  obtain ⟨_, hp, hz⟩ := hf.dia hn
  obtain ⟨j1, j2, j3, j4⟩ := hj
  have r1 := hf.rn
  have r2 := hf.rc
  rcases Nat.lt_trichotomy j rank with h | h | h
  · exfalso
    have h0 := j4 (by omega) (by omega)
    rcases (show j = 0 ∨ j = 1 ∨ j = 2 by omega) with rfl | rfl | rfl
    · have := hp 0 h; omega
    · have a := hp 0 (by omega)
      have b := hp 1 h
      have := Int.mul_pos a b
      omega
    · have a := hp 0 (by omega)
      have b := hp 1 (by omega)
      have c' := hp 2 h
      have := Int.mul_pos a (Int.mul_pos b c')
      omega
  · exact h
  · exfalso
    have h0 := j3 rank h
    rcases (show rank = 0 ∨ rank = 1 ∨ rank = 2 by omega) with rfl | rfl | rfl
    · have := hz 0 (Nat.le_refl _); omega
    · have := hz 1 (Nat.le_refl _)
      rw [this, Int.mul_zero] at e1
      omega
    · have := hz 2 (Nat.le_refl _)
      rw [this, Int.mul_zero, Int.mul_zero] at e2
      omega
end Go.Proofs.YtokjolmpdfmnbaaGreatDoor
namespace Go.Proofs.YtokjolmpdfmnbaaGreatDoor
open Go.RowKit Go.Sort
theorem sm_dvm {M : Mx} (h : SmM M) : DvM M M.length (ncols M) 9 := by
  refine ⟨rfl, rfl, h.rect, by have := h.n3; omega, by have := h.c3; omega, by omega, fun r hr z hz => by have := h.ent r hr z hz; omega, fun k h1 _ => ?_⟩
  have := h.n3
  rcases (show k = 0 ∨ k = 1 ∨ k = 2 ∨ k = 3 by omega) with rfl | rfl | rfl | rfl <;> decide
end Go.Proofs.YtokjolmpdfmnbaaGreatDoor
namespace Go.Proofs.YtokjolmpdfmnbaaGreatDoor
open Go.RowKit Go.Sort
end Go.Proofs.YtokjolmpdfmnbaaGreatDoor
