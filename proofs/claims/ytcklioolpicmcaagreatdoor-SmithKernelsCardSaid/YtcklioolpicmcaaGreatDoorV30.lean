/- Part 30 of the proof of the claim: contracts of the functions that it reaches, and plain laws; no condition. -/
import Derived.Test.YtcklioolpicmcaaGreatDoorV27
import Derived.Test.YtcklioolpicmcaaGreatDoorV29
import Derived.Test.YtcklioolpicmcaaGreatDoorV28
import Derived.BigQuiet
import Derived.Test.YtcklioolpicmcaaGreatDoorV05
import Derived.Test.YtcklioolpicmcaaGreatDoorV11
import Derived.Test.YtcklioolpicmcaaGreatDoorRows
import Derived.ProofKit
import Derived.LaidMore
import Derived.OpenShut
import Derived.Stop.Joined
import Derived.Stop.LaidErr
import Derived.Lib.LaidTab
import Derived.Deep.Matrix
import Derived.Test.YtcklioolpicmcaaGreatDoorV16
namespace Go.Proofs.YtcklioolpicmcaaGreatDoor
theorem divStep_dvd {M : Mx} {n c k rs g cs : Nat} (x : Int) : x ∣ (divStep M n c k rs g cs : Int) ↔ x ∣ (g : Int) ∧ ((selI n rs).length = k → (selI c cs).length = k → x ∣ detF k (subM M n c rs cs)) := by
  unfold divStep
  by_cases h : (selI n rs).length = k ∧ (selI c cs).length = k
  · rw [if_pos h, Int.dvd_coe_gcd_iff]
    exact ⟨fun ⟨a, b⟩ => ⟨a, fun _ _ => b⟩, fun ⟨a, b⟩ => ⟨a, b h.1 h.2⟩⟩
  · rw [if_neg h]
    exact ⟨fun a => ⟨a, fun h1 h2 => absurd ⟨h1, h2⟩ h⟩, fun a => a.1⟩
theorem divRow_dvd {M : Mx} {n c k rs g : Nat} (x : Int) : ∀ cs, (x ∣ (divRow M n c k rs g cs : Int) ↔ x ∣ (g : Int) ∧ ∀ j, j < cs → (selI n rs).length = k → (selI c j).length = k → x ∣ detF k (subM M n c rs j))
  | 0 => ⟨fun h => ⟨h, fun j hj => by omega⟩, fun h => h.1⟩
  | cs + 1 => by
    rw [divRow, divStep_dvd, divRow_dvd x cs]
    constructor
    · rintro ⟨⟨a, b⟩, d⟩
      refine ⟨a, fun j hj => ?_⟩
      by_cases e : j = cs
      · subst e; exact d
      · exact b j (by omega)
    · rintro ⟨a, b⟩
      exact ⟨⟨a, fun j hj => b j (by omega)⟩, b cs (by omega)⟩
theorem divAll_dvd {M : Mx} {n c k : Nat} (x : Int) : ∀ rs, (x ∣ (divAll M n c k rs : Int) ↔ ∀ r, r < rs → ∀ j, j < 2 ^ c → (selI n r).length = k → (selI c j).length = k → x ∣ detF k (subM M n c r j))
  | 0 => ⟨fun _ r hr => by omega, fun _ => Int.dvd_zero x⟩
  | rs + 1 => by
    rw [divAll, divRow_dvd, divAll_dvd x rs]
    constructor
    · rintro ⟨a, b⟩ r hr
      by_cases e : r = rs
      · subst e; exact b
      · exact a r (by omega)
    · intro a
      exact ⟨fun r hr => a r (by omega), a rs (by omega)⟩
theorem detF1 (a : Int) : detF 1 [[a]] = a := by simp [detF, detS, sgn8, eM]
theorem detF2 (a b c d : Int) : detF 2 [[a, b], [c, d]] = a * d - b * c := by
  simp [detF, detS, sgn8, eM, mnr]; grind
theorem detF3 (a b c d e f g h i : Int) : detF 3 [[a, b, c], [d, e, f], [g, h, i]] = a * (e * i - f * h) - b * (d * i - f * g) + c * (d * h - e * g) := by
  simp [detF, detS, sgn8, eM, mnr]
  grind
theorem mask1 {n i : Nat} (hn : n ≤ 4) (hi : i < n) : ∃ r, r < 2 ^ n ∧ selI n r = [i] := by
  have h : ∀ n : Fin 5, ∀ i : Fin 4, i.val < n.val → ∃ r : Fin 16, r.val < 2 ^ n.val ∧ selI n.val r.val = [i.val] := by decide +kernel
  obtain ⟨r, h1, h2⟩ := h ⟨n, by omega⟩ ⟨i, by omega⟩ hi
  exact ⟨r.val, h1, h2⟩
theorem mask2 {n i j : Nat} (hn : n ≤ 4) (hij : i < j) (hj : j < n) : ∃ r, r < 2 ^ n ∧ selI n r = [i, j] := by
  have h : ∀ n : Fin 5, ∀ i j : Fin 4, i.val < j.val → j.val < n.val → ∃ r : Fin 16, r.val < 2 ^ n.val ∧ selI n.val r.val = [i.val, j.val] := by decide +kernel
  obtain ⟨r, h1, h2⟩ := h ⟨n, by omega⟩ ⟨i, by omega⟩ ⟨j, by omega⟩ hij hj
  exact ⟨r.val, h1, h2⟩
theorem mask3 {n i j m : Nat} (hn : n ≤ 4) (hij : i < j) (hjm : j < m) (hm : m < n) : ∃ r, r < 2 ^ n ∧ selI n r = [i, j, m] := by
  have h : ∀ n : Fin 5, ∀ i j m : Fin 4, i.val < j.val → j.val < m.val → m.val < n.val → ∃ r : Fin 16, r.val < 2 ^ n.val ∧ selI n.val r.val = [i.val, j.val, m.val] := by decide +kernel
  obtain ⟨r, h1, h2⟩ := h ⟨n, by omega⟩ ⟨i, by omega⟩ ⟨j, by omega⟩ ⟨m, by omega⟩ hij hjm hm
  exact ⟨r.val, h1, h2⟩
theorem len1 {l : List Nat} (h : l.length = 1) : ∃ i, l = [i] := by
  match l, h with
  | [i], _ => exact ⟨i, rfl⟩
theorem len2 {l : List Nat} (h : l.length = 2) : ∃ i j, l = [i, j] := by
  match l, h with
  | [i, j], _ => exact ⟨i, j, rfl⟩
theorem len3 {l : List Nat} (h : l.length = 3) : ∃ i j m, l = [i, j, m] := by
  match l, h with
  | [i, j, m], _ => exact ⟨i, j, m, rfl⟩
theorem sub1 {M : Mx} {n c r s i k : Nat} (h1 : selI n r = [i]) (h2 : selI c s = [k]) : detF 1 (subM M n c r s) = eM M i k := by
  have e : subM M n c r s = [[eM M i k]] := by unfold subM subR; rw [h1, h2]; rfl
  rw [e, detF1]
theorem sub2 {M : Mx} {n c r s i j k l : Nat} (h1 : selI n r = [i, j]) (h2 : selI c s = [k, l]) : detF 2 (subM M n c r s) = m2 (eM M) i j k l := by
  have e : subM M n c r s = [[eM M i k, eM M i l], [eM M j k, eM M j l]] := by unfold subM subR; rw [h1, h2]; rfl
  rw [e, detF2]; rfl
theorem sub3 {M : Mx} {n c r s i j m k l p : Nat} (h1 : selI n r = [i, j, m]) (h2 : selI c s = [k, l, p]) : detF 3 (subM M n c r s) = m3 (eM M) i j m k l p := by
  have e : subM M n c r s = [[eM M i k, eM M i l, eM M i p], [eM M j k, eM M j l, eM M j p], [eM M m k, eM M m l, eM M m p]] := by unfold subM subR; rw [h1, h2]; rfl
  rw [e, detF3]; rfl
theorem m2_sr (A : FM) (i j k l : Nat) : m2 A j i k l = -m2 A i j k l := by unfold m2; rw [Int.mul_comm (A j k), Int.mul_comm (A j l)]; omega
theorem m2_sc (A : FM) (i j k l : Nat) : m2 A i j l k = -m2 A i j k l := by unfold m2; omega
theorem m2_er (A : FM) (i k l : Nat) : m2 A i i k l = 0 := by unfold m2; rw [Int.mul_comm (A i l)]; omega
theorem m2_ec (A : FM) (i j k : Nat) : m2 A i j k k = 0 := by unfold m2; omega
theorem m3_s12 (A : FM) (i j m k l p : Nat) : m3 A j i m k l p = -m3 A i j m k l p := by unfold m3 m2; grind
theorem m3_s23 (A : FM) (i j m k l p : Nat) : m3 A i m j k l p = -m3 A i j m k l p := by unfold m3 m2; grind
theorem sort3 {P : Nat → Nat → Nat → Prop} (s12 : ∀ i j m, P j i m → P i j m) (s23 : ∀ i j m, P i m j → P i j m) (e12 : ∀ i m, P i i m) (e23 : ∀ i m, P i m m) (h : ∀ i j m, i < j → j < m → P i j m) (i j m : Nat) : P i j m := by
  have h2 : ∀ i j m, i < j → P i j m := fun i j m hij => by
    rcases Nat.lt_trichotomy j m with a | a | a
    · exact h i j m hij a
    · subst a; exact e23 _ _
    · refine s23 _ _ _ ?_
      rcases Nat.lt_trichotomy i m with b | b | b
      · exact h i m j b a
      · subst b; exact e12 _ _
      · exact s12 _ _ _ (h m i j b hij)
  rcases Nat.lt_trichotomy i j with a | a | a
  · exact h2 i j m a
  · subst a; exact e12 _ _
  · exact s12 _ _ _ (h2 j i m a)
section
variable {M : Mx} {n c : Nat} (hl : M.length = n) (hR : Rect c M) (hn : n ≤ 4) (hc : c ≤ 4)
include hl hR hn hc
theorem div1 (x : Int) : x ∣ (dvA M n c 0 : Int) ↔ X1 x (eM M) := by
  unfold dvA
  rw [divAll_dvd]
  constructor
  · intro h i k
    by_cases hi : i < n
    · by_cases hk : k < c
      · obtain ⟨r, r1, r2⟩ := mask1 hn hi
        obtain ⟨s, s1, s2⟩ := mask1 hc hk
        have := h r r1 s s1 (by rw [r2]; rfl) (by rw [s2]; rfl)
        rwa [sub1 r2 s2] at this
      · rw [el_col hR (by omega)]; exact Int.dvd_zero _
    · rw [el_row (by omega)]; exact Int.dvd_zero _
  · intro h r _ s _ a b
    obtain ⟨i, e1⟩ := len1 a
    obtain ⟨k, e2⟩ := len1 b
    rw [sub1 e1 e2]; exact h _ _
theorem div2 (x : Int) : x ∣ (dvA M n c 1 : Int) ↔ X2 x (eM M) := by
  unfold dvA
  rw [divAll_dvd]
  constructor
  · intro h
    have base : ∀ i j k l, i < j → k < l → x ∣ m2 (eM M) i j k l := fun i j k l hij hkl => by
      by_cases hj : j < n
      · by_cases hk : l < c
        · obtain ⟨r, r1, r2⟩ := mask2 hn hij hj
          obtain ⟨s, s1, s2⟩ := mask2 hc hkl hk
          have := h r r1 s s1 (by rw [r2]; rfl) (by rw [s2]; rfl)
          rwa [sub2 r2 s2] at this
        · unfold m2; rw [el_col hR (show c ≤ l by omega), el_col hR (show c ≤ l by omega)]; simp
      · unfold m2; rw [el_row (i := j) (by omega), el_row (i := j) (by omega)]; simp
    have rows : ∀ i j k l, k < l → x ∣ m2 (eM M) i j k l := fun i j k l hkl => by
      rcases Nat.lt_trichotomy i j with a | a | a
      · exact base i j k l a hkl
      · subst a; rw [m2_er]; exact Int.dvd_zero _
      · rw [m2_sr]; exact Int.dvd_neg.2 (base j i k l a hkl)
    intro i j k l
    rcases Nat.lt_trichotomy k l with a | a | a
    · exact rows i j k l a
    · subst a; rw [m2_ec]; exact Int.dvd_zero _
    · rw [m2_sc]; exact Int.dvd_neg.2 (rows i j l k a)
  · intro h r _ s _ a b
    obtain ⟨i, j, e1⟩ := len2 a
    obtain ⟨k, l, e2⟩ := len2 b
    rw [sub2 e1 e2]; exact h _ _ _ _
theorem div3 (x : Int) : x ∣ (dvA M n c 2 : Int) ↔ X3 x (eM M) := by
  unfold dvA
  rw [divAll_dvd]
  constructor
  · intro h
    have base : ∀ i j m k l p, i < j → j < m → k < l → l < p → x ∣ m3 (eM M) i j m k l p := fun i j m k l p hij hjm hkl hlp => by
      by_cases hj : m < n
      · by_cases hk : p < c
        · obtain ⟨r, r1, r2⟩ := mask3 hn hij hjm hj
          obtain ⟨s, s1, s2⟩ := mask3 hc hkl hlp hk
          have := h r r1 s s1 (by rw [r2]; rfl) (by rw [s2]; rfl)
          rwa [sub3 r2 s2] at this
        · unfold m3 m2; rw [el_col hR (show c ≤ p by omega) i, el_col hR (show c ≤ p by omega) j, el_col hR (show c ≤ p by omega) m]; simp
      · unfold m3 m2; rw [el_row (i := m) (by omega) k, el_row (i := m) (by omega) l, el_row (i := m) (by omega) p]; simp
    have rows : ∀ i j m k l p, k < l → l < p → x ∣ m3 (eM M) i j m k l p := fun i j m k l p hkl hlp => by
      refine sort3 (P := fun i j m => x ∣ m3 (eM M) i j m k l p) (fun i j m h => ?_) (fun i j m h => ?_) (fun i m => ?_) (fun i m => ?_) (fun i j m a b => base i j m k l p a b hkl hlp) i j m
      · rw [m3_s12]; exact Int.dvd_neg.2 h
      · rw [m3_s23]; exact Int.dvd_neg.2 h
      · rw [m3_e12]; exact Int.dvd_zero _
      · rw [m3_e23]; exact Int.dvd_zero _
    intro i j m k l p
    refine sort3 (P := fun k l p => x ∣ m3 (eM M) i j m k l p) (fun k l p h => ?_) (fun k l p h => ?_) (fun k p => ?_) (fun k p => ?_) (fun k l p a b => rows i j m k l p a b) k l p
    · rw [← m3_tr, m3_s12, m3_tr]; exact Int.dvd_neg.2 h
    · rw [← m3_tr, m3_s23, m3_tr]; exact Int.dvd_neg.2 h
    · rw [← m3_tr, m3_e12]; exact Int.dvd_zero _
    · rw [← m3_tr, m3_e23]; exact Int.dvd_zero _
  · intro h r _ s _ a b
    obtain ⟨i, j, m, e1⟩ := len3 a
    obtain ⟨k, l, p, e2⟩ := len3 b
    rw [sub3 e1 e2]; exact h _ _ _ _ _ _
end
theorem dv_dia {M : Mx} {n c rank : Nat} {s : Dg} (hl : M.length = n) (hR : Rect c M) (hn : n ≤ 3) (hc : c ≤ 3) (hf : FinD n c (eM M) rank s) :
    (dvA M n c 0 : Int) = eM s.a 0 0 ∧ (dvA M n c 1 : Int) = eM s.a 0 0 * eM s.a 1 1 ∧ (dvA M n c 2 : Int) = eM s.a 0 0 * (eM s.a 1 1 * eM s.a 2 2) := by
  obtain ⟨hd, _, _⟩ := hf.dia hn
  have n0 := hd.nn 0
  have n1 := hd.nn 1
  have n2 := hd.nn 2
  refine ⟨eq_of_dvds (Int.natCast_nonneg _) n0 fun x => ?_, eq_of_dvds (Int.natCast_nonneg _) (Int.mul_nonneg n0 n1) fun x => ?_, eq_of_dvds (Int.natCast_nonneg _) (Int.mul_nonneg n0 (Int.mul_nonneg n1 n2)) fun x => ?_⟩
  · rw [div1 hl hR (by omega) (by omega), hf.eqv.e1]; exact hd.x1 x
  · rw [div2 hl hR (by omega) (by omega), hf.eqv.e2]; exact hd.x2 x
  · rw [div3 hl hR (by omega) (by omega), hf.eqv.e3]; exact hd.x3 x
theorem dvj_rank {M : Mx} {n c rank j : Nat} {s : Dg} (hl : M.length = n) (hR : Rect c M) (hn : n ≤ 3) (hc : c ≤ 3) (hf : FinD n c (eM M) rank s) (hj : DvJ M n c j) : j = rank := by
  obtain ⟨e0, e1, e2⟩ := dv_dia hl hR hn hc hf
  obtain ⟨_, hp, hz⟩ := hf.dia hn
  obtain ⟨j1, j2, j3, j4⟩ := hj
  have r1 := hf.rn
  have r2 := hf.rc
  rcases Nat.lt_trichotomy j rank with h | h | h
  · exfalso
    have h0 := j4 (by omega) (by omega)
    rcases (show j = 0 ∨ j = 1 ∨ j = 2 by omega) with rfl | rfl | rfl
    · have := hp 0 h; omega
    · have a := hp 0 (by omega)
      have b := hp 1 h
      have := Int.mul_pos a b
      omega
    · have a := hp 0 (by omega)
      have b := hp 1 (by omega)
      have c' := hp 2 h
      have := Int.mul_pos a (Int.mul_pos b c')
      omega
  · exact h
  · exfalso
    have h0 := j3 rank h
    rcases (show rank = 0 ∨ rank = 1 ∨ rank = 2 by omega) with rfl | rfl | rfl
    · have := hz 0 (Nat.le_refl _); omega
    · have := hz 1 (Nat.le_refl _)
      rw [this, Int.mul_zero] at e1
      omega
    · have := hz 2 (Nat.le_refl _)
      rw [this, Int.mul_zero, Int.mul_zero] at e2
      omega
theorem qf_dia {M : Mx} {n c rank j : Nat} {s : Dg} (hl : M.length = n) (hR : Rect c M) (hn : n ≤ 3) (hc : c ≤ 3) (hf : FinD n c (eM M) rank s) (hj : DvJ M n c j) : qfL M n c j = diagL rank s.a := by
  obtain rfl := dvj_rank hl hR hn hc hf hj
  obtain ⟨e0, e1, e2⟩ := dv_dia hl hR hn hc hf
  obtain ⟨_, hp, hz⟩ := hf.dia hn
  have r1 := hf.rn
  unfold qfL diagL
  refine List.map_congr_left fun t ht => ?_
  have ht' := List.mem_range.1 ht
  unfold qfE
  rcases (show t = 0 ∨ t = 1 ∨ t = 2 by omega) with rfl | rfl | rfl
  · rw [if_pos rfl, e0, Int.tdiv_one]
  · have a := hp 0 (by omega)
    rw [if_neg (by omega), e1, show 1 - 1 = 0 from rfl, e0]
    exact Int.mul_tdiv_cancel_left _ (by omega)
  · have a := hp 0 (by omega)
    have b := hp 1 (by omega)
    have := Int.mul_pos a b
    rw [if_neg (by omega), e2, show 2 - 1 = 1 from rfl, e1, ← Int.mul_assoc]
    exact Int.mul_tdiv_cancel_left _ (by omega)
end Go.Proofs.YtcklioolpicmcaaGreatDoor
namespace Go.Proofs.YtcklioolpicmcaaGreatDoor
open Go.RowKit Go.Sort
def FmOk (M : Mx) (D : List Int) (F : Mx) : Prop := F.length = M.length ∧ Rect (ncols M) F ∧ ∀ i k, i < M.length → k < ncols M → eM F i k = if i = k ∧ i < D.length then D.getD i 0 else 0
theorem sm_dvm {M : Mx} (h : SmM M) : DvM M M.length (ncols M) 9 := by
  refine ⟨rfl, rfl, h.rect, by have := h.n3; omega, by have := h.c3; omega, by omega, fun r hr z hz => by have := h.ent r hr z hz; omega, fun k h1 _ => ?_⟩
  have := h.n3
  rcases (show k = 0 ∨ k = 1 ∨ k = 2 ∨ k = 3 by omega) with rfl | rfl | rfl | rfl <;> decide
theorem rect0_el {M : Mx} (h : Rect 0 M) (i k : Nat) : eM M i k = 0 := el_col h (Nat.zero_le _) i
theorem fac_u {M : Mx} (h : SmM M) : ∃ D : List Int, D.length ≤ M.length ∧ D.length ≤ ncols M ∧ (∀ z ∈ D, 0 < z ∧ z ≤ 1000000000)
    ∧ (∀ (w : World) (v : Value), MatR w v M → Laid w → Calls Tryz.prog 29 #[v] w fun e w' => ∃ u, e = .returned (.tuple #[u, .int .i64 0]) ∧ RowV w.heap.size w' u D ∧ Ext w w')
    ∧ (∀ (w : World) (v : Value), MatR w v M → Laid w → Calls Tryz.prog 30 #[v] w fun e w' => ∃ u, e = .returned (.tuple #[u, .int .i64 0]) ∧ (∃ F, MatO w.heap.size w' u F ∧ FmOk M D F) ∧ Ext w w')
    ∧ (∀ (w : World) (v : Value), MatR w v M → Calls Tryz.prog 54 #[v] w fun e w' => ∃ u, e = .returned u ∧ RowV w.heap.size w' u D ∧ Ext w w') := by
  by_cases hz : M.length = 0 ∨ ncols M = 0
  · have hR : Rect 0 M := by
      rcases hz with h0 | h0
      · rw [List.eq_nil_of_length_eq_zero h0]; intro r hr; cases hr
      · rw [← h0]; exact h.rect
    refine ⟨[], Nat.zero_le _, Nat.zero_le _, (fun z hz => by cases hz), fun w v hM hL => Factors0_any hM hR h.n3 hL, fun w v hM hL => (Form0_any hM hR h.n3 hL).mono ?_, fun w v hM => (Factors08r_any hM (sm_dvm h)).mono ?_⟩
    · rintro e w' ⟨u, rfl, hu, hE⟩
      refine ⟨u, rfl, ⟨M, hu, rfl, h.rect, fun i k _ _ => ?_⟩, hE⟩
      rw [rect0_el hR, if_neg (by simp)]
    · rintro e w' ⟨u, rfl, ⟨j, hu, hj⟩, hE⟩
      have hj0 : j = 0 := by have := hj.1; have := hj.2.1; omega
      subst hj0
      exact ⟨u, rfl, hu, hE⟩
  · have hS : SmF M := h.smf (by omega) (by omega)
    obtain ⟨_, rank, fin, _, hf, _⟩ := hS.run
    have hfac : FacIs M (diagL rank fin.a) := ⟨_, _, rank, fin, h.n3, hf, rfl⟩
    refine ⟨diagL rank fin.a, by rw [diagL_length]; exact hf.rn, by rw [diagL_length]; exact hf.rc, fac_small hfac (fun i k => by have := hS.ent i k; omega), fun w v hM hL => (Factors08_any hM hS hL).mono ?_, fun w v hM hL => (Form08_any hM hS hL).mono ?_, fun w v hM => (Factors08r_any hM (sm_dvm h)).mono ?_⟩
    · rintro e w' ⟨u, D, rfl, hu, hD, _, hE⟩
      rw [hfac.uni hD (Eqv.refl _)]
      exact ⟨u, rfl, hu, hE⟩
    · rintro e w' ⟨u, rfl, ⟨F, hu, h1, h2, rank', s', hf', rfl⟩, hE⟩
      refine ⟨u, rfl, ⟨_, hu, h1, h2, fun i k _ _ => ?_⟩, hE⟩
      have hfac' : FacIs M (diagL rank' s'.a) := ⟨_, _, rank', s', h.n3, hf', rfl⟩
      rw [hfac.uni hfac' (Eqv.refl _)]
      obtain ⟨hd, hp, hz'⟩ := hf'.dia h.n3
      rw [hd.el]
      by_cases e : i = k
      · rw [if_pos e]
        by_cases hi : i < rank'
        · rw [if_pos ⟨e, by rw [diagL_length]; exact hi⟩, getD_get (by rw [diagL_length]; exact hi)]
          simp [diagL]
        · rw [if_neg (by rw [diagL_length]; exact fun h => hi h.2), hz' i (by omega)]
      · rw [if_neg e, if_neg (fun h => e h.1)]
    · rintro e w' ⟨u, rfl, ⟨j, hu, hj⟩, hE⟩
      rw [qf_dia rfl h.rect h.n3 h.c3 hf hj] at hu
      exact ⟨u, rfl, hu, hE⟩
theorem MatR.elR {w : World} {sa : Option Addr} {n cap c : Nat} {F : Mx} (h : MatR w (.slice sa n cap) F) (hn : n = F.length) (hR : Rect c F) : ∃ gb go, (0 < n → sa = some ⟨gb, go, none⟩) ∧ ∀ i, i < n → ∃ sr cr, w.cell? ⟨gb, go + i, none⟩ = some (.slice sr c cr) ∧ (0 < c → ∃ gr or, sr = some ⟨gr, or, none⟩ ∧ ∀ k, k < c → w.cell? ⟨gr, or + k, none⟩ = some (.int .i64 (eM F i k))) := by
  obtain ⟨sa', gb, go, cap', vs, e, hcap, hvl, hS, hr⟩ := h
  injection e with e1 e2 e3
  subst e1
  refine ⟨gb, go, fun h0 => hS.addr (by omega), fun i hi => ?_⟩
  obtain ⟨sr, br, or, cr, hrow, hrc, hSr⟩ := MatR.row hS hvl hr (show i < F.length by omega)
  have hl : F[i].length = c := hR _ (List.getElem_mem _)
  rw [hl] at hrow
  refine ⟨sr, cr, hrow, fun hc => ⟨br, or, hSr.addr (by rw [is_length]; omega), fun k hk => ?_⟩⟩
  have := hSr.cell k _ (is_get (p := F[i]) (by omega))
  rw [this]
  unfold eM
  rw [getD_get (show i < F.length by omega), getD_get (by omega)]
set_option maxRecDepth 100000 in
set_option maxHeartbeats 8000000 in
theorem sf_walk {w : World} {R C : Nat} {e0 e1 e2 e3 e4 e5 e6 e7 e8 : Int} (hG : ShapeV #[.int .u8 R, .int .u8 C, .int .i8 e0, .int .i8 e1, .int .i8 e2, .int .i8 e3, .int .i8 e4, .int .i8 e5, .int .i8 e6, .int .i8 e7, .int .i8 e8] R C [e0, e1, e2, e3, e4, e5, e6, e7, e8]) (hL : Laid w) :
    Calls Tryz.prog 10 #[.agg #[.int .u8 R, .int .u8 C, .int .i8 e0, .int .i8 e1, .int .i8 e2, .int .i8 e3, .int .i8 e4, .int .i8 e5, .int .i8 e6, .int .i8 e7, .int .i8 e8]] w fun e w' => e = .returned (.bool true) ∧ Ext w w' := by
  have HL := Lib.hid hL
  obtain ⟨M, hMd⟩ : ∃ M, M = shM [e0, e1, e2, e3, e4, e5, e6, e7, e8] (C % 4) (R % 4) := ⟨_, rfl⟩
  have hmk := Lib.hid (fun W => Make08_any (w := W) hG)
  rw [← hMd] at hmk
  have hSm : SmM M := by rw [hMd]; exact sh_small _ _ _
  obtain ⟨D, hD1, hD2, hD3, hfa, hfo, hrf⟩ := fac_u hSm
  have Hfa := Lib.hid hfa
  have Hfo := Lib.hid hfo
  have Hrf := Lib.hid hrf
  obtain ⟨N, hN⟩ : ∃ N, N = M.length := ⟨_, rfl⟩
  obtain ⟨c, hc⟩ : ∃ c, c = ncols M := ⟨_, rfl⟩
  have hN3 : N ≤ 3 := by rw [hN]; exact hSm.n3
  have hc3 : c ≤ 3 := by rw [hc]; exact hSm.c3
  have HMR := Lib.hid (show Rect c M by rw [hc]; exact hSm.rect)
  have HN := Lib.hid hN
  have Hc := Lib.hid hc
  obtain ⟨d, hd⟩ : ∃ d, d = D.length := ⟨_, rfl⟩
  have Hd := Lib.hid hd
  have hd3 : d ≤ 3 := by omega
  clear hG hL hMd hSm hfa hfo hrf hN hc hd hD1 hD2 hD3
  go_enter Tryz.func10, Tryz.ntmps10
  have hX : Ext w (w.alloc (.cells #[.int .u8 R, .int .u8 C, .int .i8 e0, .int .i8 e1, .int .i8 e2, .int .i8 e3, .int .i8 e4, .int .i8 e5, .int .i8 e6, .int .i8 e7, .int .i8 e8] 25)) := (Ext.refl w).alloc _
  go_wp2_with fail
  refine (known08_any (HL.out.ext hX)).mono ?_
  rintro e w1 ⟨rfl, hE1⟩
  have s0 : w1.cell? ⟨w.heap.size, 0, none⟩ = some (.int .u8 R) := hE1.cell (by go_simp)
  have s1 : w1.cell? ⟨w.heap.size, 1, none⟩ = some (.int .u8 C) := hE1.cell (by go_simp)
  have s2 : w1.cell? ⟨w.heap.size, 2, none⟩ = some (.int .i8 e0) := hE1.cell (by go_simp)
  have s3 : w1.cell? ⟨w.heap.size, 3, none⟩ = some (.int .i8 e1) := hE1.cell (by go_simp)
  have s4 : w1.cell? ⟨w.heap.size, 4, none⟩ = some (.int .i8 e2) := hE1.cell (by go_simp)
  have s5 : w1.cell? ⟨w.heap.size, 5, none⟩ = some (.int .i8 e3) := hE1.cell (by go_simp)
  have s6 : w1.cell? ⟨w.heap.size, 6, none⟩ = some (.int .i8 e4) := hE1.cell (by go_simp)
  have s7 : w1.cell? ⟨w.heap.size, 7, none⟩ = some (.int .i8 e5) := hE1.cell (by go_simp)
  have s8 : w1.cell? ⟨w.heap.size, 8, none⟩ = some (.int .i8 e6) := hE1.cell (by go_simp)
  have s9 : w1.cell? ⟨w.heap.size, 9, none⟩ = some (.int .i8 e7) := hE1.cell (by go_simp)
  have s10 : w1.cell? ⟨w.heap.size, 10, none⟩ = some (.int .i8 e8) := hE1.cell (by go_simp)
  have hX1 := hX.trans hE1
  clear hX hE1
  go_wp2_with fail
  refine (hmk.out w1).mono ?_
  rintro e w2 ⟨vm, rfl, hvm, hE2⟩
  have hMr := hvm.mat
  obtain ⟨sm, gm, om, cm, vsm, rfl, _, _, _, _⟩ := id hMr
  rw [← HN.out] at hMr ⊢
  have HMr := Lib.hid hMr
  have hX2 := hX1.trans hE2
  clear s0 s1 s2 s3 s4 s5 s6 s7 s8 s9 s10 hvm hMr hE2 hX1 hmk
  go_wp2_with fail
  refine (Hfa.out _ _ HMr.out (HL.out.ext hX2)).mono ?_
  rintro e w3 ⟨u1, rfl, hu1, hE3⟩
  have H1 := Lib.hid hu1.row
  obtain ⟨su1, _, _, cu1, hu1v, _⟩ := hu1.row
  subst hu1v
  rw [← Hd.out] at H1 ⊢
  have hX3 := hX2.trans hE3
  replace HMr := Lib.hid (HMr.out.ext hE3)
  clear hu1 hE3 hX2 Hfa
  go_wp2_with fail
  refine (Hfo.out _ _ HMr.out (HL.out.ext hX3)).mono ?_
  rintro e w4 ⟨uf, rfl, ⟨F, hF, hFl, hFR, hFe⟩, hE4⟩
  have HF := Lib.hid hF.mat
  obtain ⟨sf, _, _, cf, _, huf, _⟩ := hF.mat
  subst huf
  rw [hFl, ← HN.out] at HF ⊢
  have HFl := Lib.hid (show F.length = N by rw [hFl, HN.out])
  rw [← Hc.out] at hFR
  have HFR := Lib.hid hFR
  have HFe := Lib.hid (show ∀ i k, i < N → k < c → eM F i k = if i = k ∧ i < d then D.getD i 0 else 0 from fun i k h1 h2 => by rw [Hd.out]; exact hFe i k (by rw [← HN.out]; exact h1) (by rw [← Hc.out]; exact h2))
  have hX4 := hX3.trans hE4
  replace HMr := Lib.hid (HMr.out.ext hE4)
  replace H1 := Lib.hid (H1.out.ext hE4)
  clear hF hFl hFR hFe hE4 hX3 Hfo
  go_wp2_with fail
  refine (Hrf.out _ _ HMr.out).mono ?_
  rintro e w5 ⟨u3, rfl, hu3, hE5⟩
  have H3 := Lib.hid hu3.row
  obtain ⟨su3, gu3, ou3, cu3, hu3v, hcu3, hS3⟩ := hu3.row
  subst hu3v
  rw [← Hd.out] at H3 hcu3 ⊢
  have HS3 := Lib.hid hS3
  have hX5 := hX4.trans hE5
  replace HMr := Lib.hid (HMr.out.ext hE5)
  replace H1 := Lib.hid (H1.out.ext hE5)
  replace HF := Lib.hid (HF.out.ext hE5)
  clear hu3 hS3 hE5 hX4 Hrf
  go_wp2_with fail
  refine (s08_same H1.out H3.out (by rw [← Hd.out]; omega)).mono ?_
  rintro e w6 ⟨rfl, hE6⟩
  have hX6 := hX5.trans hE6
  obtain ⟨gb, go, hsf, hFc⟩ := (HF.out.ext hE6).elR HFl.out.symm HFR.out
  obtain ⟨gb2, go2, hsm2, hMc⟩ := (HMr.out.ext hE6).elR HN.out HMR.out
  have Hsf := Lib.hid hsf
  have HFc := Lib.hid hFc
  have Hsm2 := Lib.hid hsm2
  have HMc := Lib.hid hMc
  replace HS3 := Lib.hid (HS3.out.ext hE6)
  clear hE6 hX5 hsf hFc hsm2 hMc HF HMr H1 H3
  go_wp2_with fail
  go_loopw [9, 10] (fun iv _ wr => ∃ i : Nat, i ≤ N ∧ iv = .int .i64 i ∧ Ext w6 wr) (fun iv _ _ => N - (intOf iv).toNat)
  case atStart => exact ⟨0, by omega, by go_num, Ext.refl _⟩
  case round =>
    obtain ⟨i, hi, rfl, hE⟩ := hrel
    generalize wr = X at *
    by_cases hlt : i < N
    · have hii : (i : Int) < (N : Int) := by omega
      obtain rfl := Hsf.out (by omega)
      obtain rfl := Hsm2.out (by omega)
      obtain ⟨sr, cr, hr1, hr2⟩ := HFc.out i hlt
      obtain ⟨sq, cq, hq1, _⟩ := HMc.out i hlt
      have Hr2 := Lib.hid hr2
      have r1 := hE.cell hr1
      have q1 := hE.cell hq1
      have Hr1 := Lib.hid hr1
      clear hr1 hq1 hr2
      go_wp2_with fail
      go_quiet (fail)
      have hE2 := hE.drewN nq
      generalize X.drewN nq = X2 at *
      clear r1 q1
      go_wp2_with fail
      go_loopw [10] (fun kv wr => ∃ k : Nat, k ≤ c ∧ kv = .int .i64 k ∧ Ext w6 wr) (fun kv _ => c - (intOf kv).toNat)
      case atStart => exact ⟨0, by omega, by go_num, hE2⟩
      case round =>
        obtain ⟨k, hk, rfl, hEk⟩ := hrel
        generalize wr = Y at *
        have r1 := hEk.cell Hr1.out
        by_cases hkc : k < c
        · have hki : (k : Int) < (c : Int) := by omega
          obtain ⟨gr, or, hsr, hel⟩ := Hr2.out (by omega)
          subst hsr
          have hz := hEk.cell (hel k hkc)
          have hv := HFe.out i k hlt hkc
          by_cases hik : i = k ∧ i < d
          · obtain ⟨rfl, hid⟩ := hik
            rw [if_pos ⟨rfl, hid⟩] at hv
            rw [hv] at hz
            have hidI : (i : Int) < (d : Int) := by omega
            have hidb : decide ((i : Int) < (d : Int)) = true := decide_eq_true hidI
            have hidc : decide ((d : Int) ≤ (i : Int)) = false := decide_eq_false (by omega)
            have hidd : decide (d ≤ i) = false := decide_eq_false (by omega)
            have hide : decide (i < d) = true := decide_eq_true hid
            have h3 := (HS3.out.ext hEk).cell i (.int .i64 (D.getD i 0)) (by rw [is_get (by rw [← Hd.out]; exact hid), getD_get (by rw [← Hd.out]; exact hid)])
            obtain rfl := HS3.out.addr (by rw [is_length, ← Hd.out]; omega)
            generalize D.getD i 0 = z at *
            clear hv hel
            go_wp2_with fail
            go_quiet (fail)
            have hE7 := hEk.drewN nq
            go_wp2_with fail
            go_roundw
            case rel => exact ⟨i + 1, by omega, by go_num, hE7⟩
            case measure => simp [intOf] <;> omega
          · rw [if_neg hik] at hv
            rw [hv] at hz
            clear hv hel
            by_cases hk2 : i = k
            · subst hk2
              have hidI : ¬ (i : Int) < (d : Int) := by omega
              have hidb : decide ((i : Int) < (d : Int)) = false := decide_eq_false hidI
              have hidc : decide ((d : Int) ≤ (i : Int)) = true := decide_eq_true (by omega)
              have hidI2 : (d : Int) ≤ (i : Int) := by omega
              have hidd : decide (d ≤ i) = true := decide_eq_true (by omega)
              have hide : decide (i < d) = false := decide_eq_false (by omega)
              go_wp2_with fail
              go_quiet (fail)
              have hE7 := hEk.drewN nq
              go_wp2_with fail
              go_roundw
              case rel => exact ⟨i + 1, by omega, by go_num, hE7⟩
              case measure => simp [intOf] <;> omega
            · have hikI : ¬ (i : Int) = (k : Int) := by omega
              have hikb : ((i : Int) == (k : Int)) = false := beq_eq_false_iff_ne.2 hikI
              have hikn : ((i : Int) != (k : Int)) = true := by simp [bne, hikb]
              clear hik hk2
              go_wp2_with fail
              go_quiet (fail)
              have hE7 := hEk.drewN nq
              go_wp2_with fail
              go_roundw
              case rel => exact ⟨k + 1, by omega, by go_num, hE7⟩
              case measure => simp [intOf] <;> omega
        · have hkI : ¬ (k : Int) < (c : Int) := by omega
          go_wp2_with fail
          go_roundw
          case rel => exact ⟨i + 1, by omega, by go_num, hEk⟩
          case measure => simp [intOf] <;> omega
    · have hii : ¬ (i : Int) < (N : Int) := by omega
      go_wp2_with fail
      go_ret
      exact ⟨rfl, hX6.trans hE⟩
end Go.Proofs.YtcklioolpicmcaaGreatDoor
namespace Go.Proofs.YtcklioolpicmcaaGreatDoor
open Go.ChangeShapes Go.WideShapes Go.ChangeAt Go.WideMaps Go.WideElems Go.RowKit Go.Deep
theorem fr_own : ownKnob Tryz.prog.godebug = none := by kernel_rfl
theorem fr_laidOut : laidOutB Tryz.prog = true := by kernel_rfl
theorem fr_pow : Tryz.prog.globalNamed "internal/strconv.uint64pow10" = some 3 := by kernel_rfl
theorem fr_powT : (Tryz.prog.globals[3]?).map (·.type) = some 272 := by kernel_rfl
theorem fr_rng : Tryz.prog.globalNamed "strconv.ErrRange" = some 2 := by kernel_rfl
theorem fr_rngT : (Tryz.prog.globals[2]?).map (·.type) = some 192 := by kernel_rfl
theorem fr_c20 : Tryz.prog.cellsOf 272 = 20 := by kernel_rfl
theorem fr_cu : Tryz.prog.cellsOf 208 = 1 := by kernel_rfl
theorem fr_cE : Tryz.prog.cellsOf 277 = 1 := by kernel_rfl
theorem fr_cS : Tryz.prog.cellsOf 9 = 1 := by kernel_rfl
theorem fr_star : "*" ++ "errors.errorString" = "*errors.errorString" := by decide
theorem fr_ptr (u : TypeId) (h : Tryz.prog.typeName? 3 u = some "*errors.errorString") : u = 275 :=
  typeName_ptr_named (nm := "errors.errorString") (by rw [fr_star]; kernel_rfl) (by kernel_rfl) (by decide) u (by rw [fr_star]; exact h)
abbrev fr_list : List (String × DataW Unit) := [("math/bits.deBruijn32tab", Rows.laid_math_bits_deBruijn32tab), ("math/bits.deBruijn64tab", Rows.laid_math_bits_deBruijn64tab), ("internal/strconv.uint64pow10", Rows.laid_internal_strconv_uint64pow10), ("strconv.ErrRange", Rows.laid_strconv_ErrRange), ("strconv.ErrSyntax", Rows.laid_strconv_ErrSyntax)]
theorem fr_tab : (Rows.laid_internal_strconv_uint64pow10 : DataW Unit) = Lib.tabData .u64 Lib.pow10Tab := by kernel_rfl
theorem laid_of {W : World} (h : laidMetH Tryz.prog fr_list W) : Laid W := by
  rw [MakeChecks.laidMetH_plain _ _ _ (by kernel_rfl)] at h
  have h3 := h.tail.tail
  rw [fr_tab] at h3
  refine ⟨Lib.tabIs_of_head fr_pow fr_powT Tryz.underlying272 Tryz.underlying208 fr_cu fr_c20 h3, ?_⟩
  obtain ⟨a, s, hv, _⟩ := laid_sentinel h3.tail fr_rng fr_rngT Tryz.underlying192 fr_ptr Tryz.underlying275 Tryz.underlying277 rfl rfl Tryz.underlying9 fr_cE fr_cS
  exact ⟨_, _, hv⟩
theorem door_met (os : Os) (args : Array Value) : laidMetH Tryz.prog fr_list ((World.doorLaid Tryz.prog 400 os).forCall (fun _ _ => 0) ⟨#[], args, []⟩).memory :=
  laidMetH_of_parts3 (fuel := 8) (laidMet_of_run' 8 (by kernel_rfl) (by kernel_rfl)) (by kernel_rfl) (by kernel_rfl)
end Go.Proofs.YtcklioolpicmcaaGreatDoor
namespace Go.Proofs.YtcklioolpicmcaaGreatDoor
open Go.ChangeShapes Go.WideShapes Go.ChangeAt Go.WideMaps Go.WideElems Go.RowKit Go.Deep
theorem fr_c8 : Tryz.prog.cellsOf 22 = 1 := by kernel_rfl
theorem take_one {l : List Value} {k : Nat} {x : Value} (h : (l.drop k).take 1 = [x]) : l[k]? = some x := by
  have := congrArg (·[0]?) h
  simpa [List.getElem?_take] using this
theorem i8_bounds {n : Int} (h : (Lit.int .i8 n).wf = true) : -128 ≤ n ∧ n ≤ 127 := by
  simp only [Lit.wf, Bool.and_eq_true, decide_eq_true_eq] at h
  have e1 : IntKind.i8.min = -128 := by rfl
  have e2 : IntKind.i8.max = 127 := by rfl
  omega
theorem u8_bounds {n : Int} (h : (Lit.int .u8 n).wf = true) : 0 ≤ n ∧ n ≤ 255 := by
  simp only [Lit.wf, Bool.and_eq_true, decide_eq_true_eq] at h
  have e1 : IntKind.u8.min = 0 := by rfl
  have e2 : IntKind.u8.max = 255 := by rfl
  omega
theorem i8_cells {H : Type} {enc : TypeId × Value → H} {W : World} {base : Nat} {sp : Nat → Bool} {held : Bool} {fuel n : Nat} {t : TypeId} {l : List Value} {x : DataW H × List MemPlace} (ht : Tryz.prog.underlying t = some (.array n 22))
    (h : DataW.trod enc Tryz.prog W base sp held fuel t l = some x) : ∀ j, j < n → ∃ z : Int, l[j]? = some (.int .i8 z) ∧ -128 ≤ z ∧ z ≤ 127 := by
  obtain ⟨xs, m, _, _, _, hxl, hx⟩ := DataW.trod_array ht h
  intro j hj
  have h1 := hx j hj
  rw [fr_c8, Nat.mul_one, List.getElem?_eq_getElem (by omega)] at h1
  obtain ⟨z, hz, _, hw⟩ := DataW.trod_int Tryz.underlying22 h1
  exact ⟨z, take_one hz, i8_bounds hw⟩
end Go.Proofs.YtcklioolpicmcaaGreatDoor
namespace Go.Proofs.YtcklioolpicmcaaGreatDoor
open Go.ChangeShapes Go.WideShapes Go.ChangeAt Go.WideMaps Go.WideElems Go.RowKit Go.Deep
theorem fr_cSh : Tryz.prog.cellsOf 25 = 11 := by kernel_rfl
theorem list11s {l : List Value} {a b c d e f g h i j k : Value} (hl : l.length = 11) (h0 : l[0]? = some a) (h1 : l[1]? = some b) (h2 : l[2]? = some c) (h3 : l[3]? = some d) (h4 : l[4]? = some e) (h5 : l[5]? = some f) (h6 : l[6]? = some g) (h7 : l[7]? = some h) (h8 : l[8]? = some i) (h9 : l[9]? = some j) (h10 : l[10]? = some k) : l = [a, b, c, d, e, f, g, h, i, j, k] := by
  refine List.ext_getElem? fun n => ?_
  match n with
  | 0 => exact h0
  | 1 => exact h1
  | 2 => exact h2
  | 3 => exact h3
  | 4 => exact h4
  | 5 => exact h5
  | 6 => exact h6
  | 7 => exact h7
  | 8 => exact h8
  | 9 => exact h9
  | 10 => exact h10
  | n + 11 => rw [List.getElem?_eq_none (by omega), List.getElem?_eq_none (by simp)]
set_option maxRecDepth 100000 in
theorem shape_open {H : Type} {enc : TypeId × Value → H} {W : World} {base : Nat} {sp : Nat → Bool} {held : Bool} {fuel : Nat} {cs : Array Value} {x : DataW H × List MemPlace} (hs : cs.size = 11)
    (h : DataW.trod enc Tryz.prog W base sp held fuel 25 cs.toList = some x) : ∃ (R C : Nat) (e0 e1 e2 e3 e4 e5 e6 e7 e8 : Int), cs = #[.int .u8 R, .int .u8 C, .int .i8 e0, .int .i8 e1, .int .i8 e2, .int .i8 e3, .int .i8 e4, .int .i8 e5, .int .i8 e6, .int .i8 e7, .int .i8 e8] ∧
      ShapeV #[.int .u8 R, .int .u8 C, .int .i8 e0, .int .i8 e1, .int .i8 e2, .int .i8 e3, .int .i8 e4, .int .i8 e5, .int .i8 e6, .int .i8 e7, .int .i8 e8] R C [e0, e1, e2, e3, e4, e5, e6, e7, e8] := by
  obtain ⟨xs, n, _, _, _, hxl, hx⟩ := DataW.trod_struct Tryz.underlying25 h
  have hx3 : xs.length = 3 := hxl
  have h0 := hx 0 _ rfl
  have h1 := hx 1 _ rfl
  have h2 := hx 2 _ rfl
  rw [List.getElem?_eq_getElem (by omega)] at h0 h1 h2
  have h0' : DataW.trod enc Tryz.prog W base sp held n 5 ((cs.toList.drop 0).take 1) = some xs[0] := h0
  have h1' : DataW.trod enc Tryz.prog W base sp held n 5 ((cs.toList.drop 1).take 1) = some xs[1] := h1
  have h2' : DataW.trod enc Tryz.prog W base sp held n 23 ((cs.toList.drop 2).take 9) = some xs[2] := h2
  obtain ⟨a, ha, _, wa⟩ := DataW.trod_int Tryz.underlying5 h0'
  obtain ⟨b, hb, _, wb⟩ := DataW.trod_int Tryz.underlying5 h1'
  have e2 := i8_cells Tryz.underlying23 h2'
  have ba := u8_bounds wa
  have bb := u8_bounds wb
  obtain ⟨z0, k0, b0⟩ := e2 0 (by omega)
  obtain ⟨z1, k1, b1⟩ := e2 1 (by omega)
  obtain ⟨z2, k2, b2⟩ := e2 2 (by omega)
  obtain ⟨z3, k3, b3⟩ := e2 3 (by omega)
  obtain ⟨z4, k4, b4⟩ := e2 4 (by omega)
  obtain ⟨z5, k5, b5⟩ := e2 5 (by omega)
  obtain ⟨z6, k6, b6⟩ := e2 6 (by omega)
  obtain ⟨z7, k7, b7⟩ := e2 7 (by omega)
  obtain ⟨z8, k8, b8⟩ := e2 8 (by omega)
  obtain ⟨R, rfl⟩ : ∃ R : Nat, a = (R : Int) := ⟨a.toNat, by omega⟩
  obtain ⟨C, rfl⟩ : ∃ C : Nat, b = (C : Int) := ⟨b.toNat, by omega⟩
  have hl : cs.toList.length = 11 := by simpa using hs
  have g0 : cs.toList[0]? = some (.int .u8 R) := by
    have := congrArg (fun l : List Value => l[0]?) ha; simpa using this
  have g1 : cs.toList[1]? = some (.int .u8 C) := by
    have := congrArg (fun l : List Value => l[0]?) hb; simpa using this
  have hcs : cs.toList = [.int .u8 R, .int .u8 C, .int .i8 z0, .int .i8 z1, .int .i8 z2, .int .i8 z3, .int .i8 z4, .int .i8 z5, .int .i8 z6, .int .i8 z7, .int .i8 z8] :=
    list11s hl g0 g1 (by simpa using k0) (by simpa using k1) (by simpa using k2) (by simpa using k3) (by simpa using k4) (by simpa using k5) (by simpa using k6) (by simpa using k7) (by simpa using k8)
  refine ⟨R, C, z0, z1, z2, z3, z4, z5, z6, z7, z8, by rw [← Array.toArray_toList (xs := cs), hcs], ⟨rfl, rfl, rfl, rfl, fun j hj => ?_, fun j hj => ?_, by omega, by omega⟩⟩
  · rcases (show j = 0 ∨ j = 1 ∨ j = 2 ∨ j = 3 ∨ j = 4 ∨ j = 5 ∨ j = 6 ∨ j = 7 ∨ j = 8 by omega) with rfl | rfl | rfl | rfl | rfl | rfl | rfl | rfl | rfl <;> rfl
  · rcases (show j = 0 ∨ j = 1 ∨ j = 2 ∨ j = 3 ∨ j = 4 ∨ j = 5 ∨ j = 6 ∨ j = 7 ∨ j = 8 by omega) with rfl | rfl | rfl | rfl | rfl | rfl | rfl | rfl | rfl <;> assumption
end Go.Proofs.YtcklioolpicmcaaGreatDoor
