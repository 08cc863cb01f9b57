/- Part 29 of the proof of the claim: contracts of the functions that it reaches, and plain laws; no condition. -/
import Derived.Test.YtdidbebgbinncaaGreatDoorV01
import Derived.Test.YtdidbebgbinncaaGreatDoorV21
import Derived.Test.YtdidbebgbinncaaGreatDoorV28
import Derived.Test.YtdidbebgbinncaaGreatDoorV26
import Derived.Test.YtdidbebgbinncaaGreatDoorV25
namespace Go.Proofs.YtdidbebgbinncaaGreatDoor
open Go.RowKit Go.Sort
def mtG : List (List Rat) := [[1, 0, 0], [1, 0, 1 / 4]]
theorem sz3N {W : World} {b : Nat} {r0 r1 r2 : Rat} (h0 : W.cell? ⟨b, 0, none⟩ = some (I r0.num)) (h1 : W.cell? ⟨b, 1, none⟩ = some (I r0.den)) (h2 : W.cell? ⟨b, 2, none⟩ = some (I r1.num)) (h3 : W.cell? ⟨b, 3, none⟩ = some (I r1.den)) (h4 : W.cell? ⟨b, 4, none⟩ = some (I r2.num)) (h5 : W.cell? ⟨b, 5, none⟩ = some (I r2.den)) : SzR W (.slice (some ⟨b, 0, none⟩) 3 3) [r0, r1, r2] := by
  refine ⟨_, b, 3, rfl, Nat.le_refl _, fun _ => rfl, fun i hi => ?_⟩
  have hi3 : i < 3 := hi
  rcases (show i = 0 ∨ i = 1 ∨ i = 2 by omega) with rfl | rfl | rfl
  · exact ⟨h0, h1⟩
  · exact ⟨h2, h3⟩
  · exact ⟨h4, h5⟩
theorem gn2N {W : World} {b : Nat} {v0 v1 : Value} {l0 l1 : List Rat} (h0 : W.cell? ⟨b, 0, none⟩ = some v0) (h1 : W.cell? ⟨b, 1, none⟩ = some v1) (k0 : SzR W v0 l0) (k1 : SzR W v1 l1) : GnR W (.slice (some ⟨b, 0, none⟩) 2 2) [l0, l1] := by
  refine ⟨_, b, 0, 2, [v0, v1], rfl, Nat.le_refl _, rfl, ⟨fun _ => rfl, fun i u hu => ?_⟩, fun i hi hi' => ?_⟩
  · obtain ⟨hi, rfl⟩ := List.getElem?_eq_some_iff.1 hu
    have hi3 : i < 2 := hi
    rw [Nat.zero_add]
    rcases (show i = 0 ∨ i = 1 by omega) with rfl | rfl
    · exact h0
    · exact h1
  · have hi3 : i < 2 := hi
    rcases (show i = 0 ∨ i = 1 by omega) with rfl | rfl
    · exact k0
    · exact k1
theorem ev_tmp (a : Act) (t : Nat) : a.eval (.tmp t) = a.tmps[t]?.getD undef := by simp [Act.eval]
def Hd (v : Value) (n : Nat) : Prop := ∃ b, v = .slice (some ⟨b, 0, none⟩) n n
def mtP24 : Nat → Value → World → Prop
  | 0, v, w => Hd v 3 ∧ RowR w v [2, 3, 5]
  | 1, v, w => Hd v 3 ∧ RowR w v [4, -4, 1]
  | 2, v, w => Hd v 1 ∧ MatR w v [[4, -4, 1]]
  | 3, v, w => Hd v 3 ∧ RowR w v [1, 0, -4]
  | 4, v, w => Hd v 3 ∧ RowR w v [0, 1, 4]
  | 5, v, w => Hd v 2 ∧ MatR w v [[1, 0, -4], [0, 1, 4]]
  | 6, v, w => ∃ b0 b1 b2, v = .agg #[.slice (some ⟨b0, 0, none⟩) 3 3, .slice (some ⟨b1, 0, none⟩) 1 1, .slice (some ⟨b2, 0, none⟩) 2 2] ∧ RowR w (.slice (some ⟨b0, 0, none⟩) 3 3) [2, 3, 5] ∧ MatR w (.slice (some ⟨b1, 0, none⟩) 1 1) [[4, -4, 1]] ∧ MatR w (.slice (some ⟨b2, 0, none⟩) 2 2) [[1, 0, -4], [0, 1, 4]]
  | 7, v, _ => v = .agg #[.string ⟨#[49]⟩, .string ⟨#[49]⟩]
  | 8, v, _ => v = .agg #[.string ⟨#[48]⟩, .string ⟨#[49]⟩]
  | 9, v, _ => v = .agg #[.string ⟨#[48]⟩, .string ⟨#[49]⟩]
  | 10, v, w => Hd v 3 ∧ SzR w v [1, 0, 0]
  | 11, v, _ => v = .agg #[.string ⟨#[49]⟩, .string ⟨#[49]⟩]
  | 12, v, _ => v = .agg #[.string ⟨#[48]⟩, .string ⟨#[49]⟩]
  | 13, v, _ => v = .agg #[.string ⟨#[49]⟩, .string ⟨#[52]⟩]
  | 14, v, w => Hd v 3 ∧ SzR w v [1, 0, 1 / 4]
  | 15, v, w => Hd v 2 ∧ GnR w v mtG
  | _, v, w => ∃ b0 b1 b2 b3, v = .agg #[.slice (some ⟨b0, 0, none⟩) 3 3, .slice (some ⟨b1, 0, none⟩) 1 1, .slice (some ⟨b2, 0, none⟩) 2 2, .slice (some ⟨b3, 0, none⟩) 2 2] ∧ RowR w (.slice (some ⟨b0, 0, none⟩) 3 3) [2, 3, 5] ∧ MatR w (.slice (some ⟨b1, 0, none⟩) 1 1) [[4, -4, 1]] ∧ MatR w (.slice (some ⟨b2, 0, none⟩) 2 2) [[1, 0, -4], [0, 1, 4]] ∧ GnR w (.slice (some ⟨b3, 0, none⟩) 2 2) mtG
theorem mtP24_ext (j : Nat) (v : Value) (w w' : World) (h : mtP24 j v w) (hE : Ext w w') : mtP24 j v w' := by
  unfold mtP24 at h ⊢
  split at h
  · exact ⟨h.1, h.2.ext hE⟩
  · exact ⟨h.1, h.2.ext hE⟩
  · exact ⟨h.1, h.2.ext hE⟩
  · exact ⟨h.1, h.2.ext hE⟩
  · exact ⟨h.1, h.2.ext hE⟩
  · exact ⟨h.1, h.2.ext hE⟩
  · obtain ⟨b0, b1, b2, e, k0, k1, k2⟩ := h; exact ⟨b0, b1, b2, e, k0.ext hE, k1.ext hE, k2.ext hE⟩
  · exact h
  · exact h
  · exact h
  · exact ⟨h.1, h.2.ext hE⟩
  · exact h
  · exact h
  · exact h
  · exact ⟨h.1, h.2.ext hE⟩
  · exact ⟨h.1, h.2.ext hE⟩
  · obtain ⟨b0, b1, b2, b3, e, k0, k1, k2, k3⟩ := h; exact ⟨b0, b1, b2, b3, e, k0.ext hE, k1.ext hE, k2.ext hE, k3.ext hE⟩
theorem four_parts : ((1 / 4 : Rat)).num = 1 ∧ (((1 / 4 : Rat)).den : Int) = 4 := by decide +kernel
theorem itoa_four : Lib.itoa 4 = [52] := by rw [show (4 : Int) = ((4 : Nat) : Int) from rfl, itoa_nat]; decide +kernel
theorem RV_one : RV ((1 : Int) : Rat) = .agg #[.string ⟨#[49]⟩, .string ⟨#[49]⟩] := by
  show Value.agg #[I (((1 : Int) : Rat)).num, I ((((1 : Int) : Rat)).den : Int)] = _
  rw [show (((1 : Int) : Rat)).num = 1 from rfl, show (((((1 : Int) : Rat)).den : Nat) : Int) = 1 from rfl]
  unfold I S; rw [itoa_one]
theorem RV_zero : RV ((0 : Int) : Rat) = .agg #[.string ⟨#[48]⟩, .string ⟨#[49]⟩] := by
  show Value.agg #[I (((0 : Int) : Rat)).num, I ((((0 : Int) : Rat)).den : Int)] = _
  rw [show (((0 : Int) : Rat)).num = 0 from rfl, show (((((0 : Int) : Rat)).den : Nat) : Int) = 1 from rfl]
  unfold I S; rw [itoa_one, itoa_zero]
theorem RV_four : RV (((1 : Int) : Rat) / ((4 : Int) : Rat)) = .agg #[.string ⟨#[49]⟩, .string ⟨#[52]⟩] := by
  have e : (((1 : Int) : Rat) / ((4 : Int) : Rat)) = (1 / 4 : Rat) := rfl
  rw [e]
  show Value.agg #[I ((1 / 4 : Rat)).num, I (((1 / 4 : Rat)).den : Int)] = _
  rw [four_parts.1, four_parts.2]
  unfold I S; rw [itoa_one, itoa_four]
theorem I_one1 : I ((1 : Rat)).num = .string ⟨#[49]⟩ ∧ I (((1 : Rat)).den : Int) = .string ⟨#[49]⟩ := by
  unfold I S
  rw [show ((1 : Rat)).num = 1 from rfl, show (((1 : Rat)).den : Int) = 1 from rfl, itoa_one]; exact ⟨rfl, rfl⟩
theorem I_four4 : I ((1 / 4 : Rat)).num = .string ⟨#[49]⟩ ∧ I (((1 / 4 : Rat)).den : Int) = .string ⟨#[52]⟩ := by
  unfold I S
  rw [four_parts.1, four_parts.2, itoa_one, itoa_four]; exact ⟨rfl, rfl⟩
theorem mtG_ok : (∀ l ∈ mtG, l.length = 3) ∧ ∀ l ∈ mtG, ShQ l := by
  refine ⟨fun l hl => ?_, fun l hl r hr => ?_⟩
  · simp [mtG] at hl
    rcases hl with rfl | rfl <;> rfl
  · have h1 : nd ((1 : Rat)).num ≤ 30 ∧ nd (((1 : Rat)).den : Int) ≤ 30 := by
      rw [show ((1 : Rat)).num = 1 from rfl, show (((1 : Rat)).den : Int) = 1 from rfl, nd_1]; omega
    have h0 : nd ((0 : Rat)).num ≤ 30 ∧ nd (((0 : Rat)).den : Int) ≤ 30 := by
      rw [show ((0 : Rat)).num = 0 from rfl, show (((0 : Rat)).den : Int) = 1 from rfl, nd_1, nd_0]; omega
    have h4 : nd ((1 / 4 : Rat)).num ≤ 30 ∧ nd (((1 / 4 : Rat)).den : Int) ≤ 30 := by
      rw [four_parts.1, four_parts.2, nd_1, show nd 4 = 1 from Lib.nDigits_small (u := 4) (by omega)]; omega
    simp only [mtG, List.mem_cons, List.not_mem_nil, or_false] at hl
    rcases hl with rfl | rfl
    · simp only [List.mem_cons, List.not_mem_nil, or_false] at hr
      rcases hr with rfl | rfl | rfl
      · exact h1
      · exact h0
      · exact h0
    · simp only [List.mem_cons, List.not_mem_nil, or_false] at hr
      rcases hr with rfl | rfl | rfl
      · exact h1
      · exact h0
      · exact h4
theorem gn_off {T : TypeId} {B : Nat} {w w' : World} {b : Nat} {v : Value} {G : List (List Rat)} (h : GnR w v G) (hG : ∀ r ∈ G, 0 < r.length) (ho : OwnV T B w b 4 [.slice none 0 0, .slice none 0 0, .slice none 0 0, .slice none 0 0]) (hg : w.grownBy w' (some b)) : GnR w' v G := by
  obtain ⟨sa, gb, go, cap, vs, e, hc, hl, hS, hr⟩ := h
  refine ⟨sa, gb, go, cap, vs, e, hc, hl, ⟨hS.addr, fun i x hx => ?_⟩, fun i a b' => ?_⟩
  · have h0 := hS.cell i x hx
    have hne : gb ≠ b := fun hb => by
      subst hb
      have h2 := nil4 ho h0
      obtain ⟨hi, hx⟩ := List.getElem?_eq_some_iff.1 hx
      have hi2 : i < G.length := by omega
      obtain ⟨_, _, _, e2, _⟩ := hr i hi2 hi
      rw [hx, h2] at e2
      injection e2 with _ e3 _
      have := hG _ (List.getElem_mem hi2)
      omega
    exact grown_frozen_cell hg hne h0
  · obtain ⟨xa, xb, xc, ex, q1, q2, q3⟩ := hr i a b'
    refine ⟨xa, xb, xc, ex, q1, q2, fun t ht => ?_⟩
    obtain ⟨k0, k1⟩ := q3 t ht
    have hne : xb ≠ b := fun hb => by
      subst hb
      have h2 := nil4 ho k0
      cases h2
    exact ⟨grown_frozen_cell hg hne k0, grown_frozen_cell hg hne k1⟩
theorem mtT {T : TypeId} {B : Nat} {w w' : World} {b b0 b1 b2 b3 : Nat} (h0 : RowR w (.slice (some ⟨b0, 0, none⟩) 3 3) [2, 3, 5]) (h1 : MatR w (.slice (some ⟨b1, 0, none⟩) 1 1) [[4, -4, 1]]) (h2 : MatR w (.slice (some ⟨b2, 0, none⟩) 2 2) [[1, 0, -4], [0, 1, 4]]) (h3 : GnR w (.slice (some ⟨b3, 0, none⟩) 2 2) mtG) (ho : OwnV T B w b 4 [.slice none 0 0, .slice none 0 0, .slice none 0 0, .slice none 0 0]) (hg : w.grownBy w' (some b)) :
    TuR w' (.agg #[.slice (some ⟨b0, 0, none⟩) 3 3, .slice (some ⟨b1, 0, none⟩) 1 1, .slice (some ⟨b2, 0, none⟩) 2 2, .slice (some ⟨b3, 0, none⟩) 2 2]) mtP mtC mtM mtG :=
  ⟨_, _, _, _, _, _, _, _, _, _, _, rfl, ⟨⟨mt_ok, row_off h0 ho hg, mat_off h1 (by decide) ho hg, mat_off h2 (by decide) ho hg⟩, gn_off h3 (by decide) ho hg, rfl, mtG_ok.1, mtG_ok.2⟩⟩
set_option maxRecDepth 100000 in
set_option maxHeartbeats 8000000 in
theorem meantone24_any {w : World} (hL : Laid w) : Calls Tryz.prog 60 #[] w fun e w' => ∃ t, e = .returned t ∧ TuR w' t mtP mtC mtM mtG ∧ Ext w w' := by
  have hw0 := Lib.hid (fun W (hW : Ext w W) => whole24_any (n := 0) (by omega) (hL.ext hW))
  have hw1 := Lib.hid (fun W (hW : Ext w W) => whole24_any (n := 1) (by omega) (hL.ext hW))
  have hp := Lib.hid (fun W (hW : Ext w W) => part24_any (n := 1) (d := 4) (by omega) (by omega) (by omega) (hL.ext hW))
  rw [RV_zero] at hw0
  rw [RV_one] at hw1
  rw [RV_four] at hp
  have hX := (Ext.refl w).alloc (.cells #[.slice none 0 0, .slice none 0 0, .slice none 0 0, .slice none 0 0] 44)
  have HO := Lib.hid (own4 w 44 (.slice none 0 0) (.slice none 0 0) (.slice none 0 0) (.slice none 0 0))
  clear hL
  go_enter Tryz.func60, Tryz.ntmps60
  go_wp2_with fail
  refine (hw0.out _ hX).mono ?_
  rintro e X1 ⟨rfl, hE1⟩
  have e1 := hX.trans hE1
  go_wp2_with fail
  refine (hw1.out _ e1).mono ?_
  rintro e X2 ⟨rfl, hE2⟩
  have e2 := e1.trans hE2
  have eA := ((Ext.refl X2).alloc (.cells #[.string ⟨#[48]⟩, .string ⟨#[49]⟩] 70)).alloc (.cells #[.string ⟨#[49]⟩, .string ⟨#[49]⟩] 70)
  have c0 : ((X2.alloc (.cells #[.string ⟨#[48]⟩, .string ⟨#[49]⟩] 70)).alloc (.cells #[.string ⟨#[49]⟩, .string ⟨#[49]⟩] 70)).cell? ⟨X2.heap.size, 0, none⟩ = some (.string ⟨#[48]⟩) := by go_simp
  have c1 : ((X2.alloc (.cells #[.string ⟨#[48]⟩, .string ⟨#[49]⟩] 70)).alloc (.cells #[.string ⟨#[49]⟩, .string ⟨#[49]⟩] 70)).cell? ⟨X2.heap.size, 1, none⟩ = some (.string ⟨#[49]⟩) := by go_simp
  have d0 : ((X2.alloc (.cells #[.string ⟨#[48]⟩, .string ⟨#[49]⟩] 70)).alloc (.cells #[.string ⟨#[49]⟩, .string ⟨#[49]⟩] 70)).cell? ⟨X2.heap.size + 1, 0, none⟩ = some (.string ⟨#[49]⟩) := by go_simp
  have d1 : ((X2.alloc (.cells #[.string ⟨#[48]⟩, .string ⟨#[49]⟩] 70)).alloc (.cells #[.string ⟨#[49]⟩, .string ⟨#[49]⟩] 70)).cell? ⟨X2.heap.size + 1, 1, none⟩ = some (.string ⟨#[49]⟩) := by go_simp
  have HO := Lib.hid (HO.out.ext ((hE1.trans hE2).trans eA))
  have eB := e2.trans eA
  clear hX hE1 e1 hE2 e2 eA hw0 hw1
  go_wp2_with fail
  generalize ((X2.alloc (.cells #[.string ⟨#[48]⟩, .string ⟨#[49]⟩] 70)).alloc (.cells #[.string ⟨#[49]⟩, .string ⟨#[49]⟩] 70)) = X at *
  generalize X2.heap.size = b1 at *
  obtain ⟨b0, hb0⟩ : ∃ b, b = w.heap.size := ⟨_, rfl⟩
  rw [← hb0] at HO ⊢
  have Hb0 := Lib.hid hb0
  clear hb0
  refine wp_region_held_tail (S := fun W => Ext X W) 17 (by kernel_rfl) (by simp) ?_
  intro inv
  have d9 : Ext X X.drew := (Ext.refl X).drew
  refine wpAnyLH_inv (D := fun j => j + 5) (G := mtP24) (fun i j _ _ h => by omega) (fun i hi => by simp; omega) ?_ (by kernel_rfl) (by kernel_rfl) (by simp) mtP24_ext ?_ ?_ 17 _ _ _ (unl_all 17 18 (by omega)) inv d9 (Frm.refl _ _ _) (fun j _ h => by rw [getD_replicate_false] at h; cases h)
  · intro i hi o ho e he hb
    rcases (show i = 0 ∨ i = 1 ∨ i = 2 ∨ i = 3 ∨ i = 4 ∨ i = 5 ∨ i = 6 ∨ i = 7 ∨ i = 8 ∨ i = 9 ∨ i = 10 ∨ i = 11 ∨ i = 12 ∨ i = 13 ∨ i = 14 ∨ i = 15 ∨ i = 16 by omega) with rfl | rfl | rfl | rfl | rfl | rfl | rfl | rfl | rfl | rfl | rfl | rfl | rfl | rfl | rfl | rfl | rfl <;> (obtain rfl := Option.some.inj ho; simp at he <;> (try rcases he with rfl | rfl | rfl) <;> (try rcases he with rfl | rfl) <;> (try subst he) <;> simp)
  · intro i hi o ho a W hS hF hd
    rcases (show i = 0 ∨ i = 1 ∨ i = 2 ∨ i = 3 ∨ i = 4 ∨ i = 5 ∨ i = 6 ∨ i = 7 ∨ i = 8 ∨ i = 9 ∨ i = 10 ∨ i = 11 ∨ i = 12 ∨ i = 13 ∨ i = 14 ∨ i = 15 ∨ i = 16 by omega) with rfl | rfl | rfl | rfl | rfl | rfl | rfl | rfl | rfl | rfl | rfl | rfl | rfl | rfl | rfl | rfl | rfl
    · obtain rfl := Option.some.inj ho
      refine wpOp_step rfl (fun K hK => ?_)
      clear hd ho
      go_simp
      refine hK _ _ ⟨hS.alloc _, (Ext.refl W).alloc _, _, rfl, ⟨_, rfl⟩, row3N (by go_simp) (by go_simp) (by go_simp)⟩
    · obtain rfl := Option.some.inj ho
      refine wpOp_step rfl (fun K hK => ?_)
      clear hd ho
      go_simp
      refine hK _ _ ⟨hS.alloc _, (Ext.refl W).alloc _, _, rfl, ⟨_, rfl⟩, row3N (by go_simp) (by go_simp) (by go_simp)⟩
    · obtain rfl := Option.some.inj ho
      refine wpOp_step rfl (fun K hK => ?_)
      obtain ⟨⟨bb, hb⟩, hr⟩ := hd ⟨1, .data⟩ (by simp) rfl
      rw [hb] at hr
      have t6 : a.tmps[6]?.getD undef = .slice (some ⟨bb, 0, none⟩) 3 3 := (ev_tmp a 6).symm.trans hb
      clear hd ho hb
      go_simp
      refine hK _ _ ⟨hS.alloc _, (Ext.refl W).alloc _, _, rfl, ⟨_, rfl⟩, mat1N (by go_simp) (hr.ext ((Ext.refl W).alloc _))⟩
    · obtain rfl := Option.some.inj ho
      refine wpOp_step rfl (fun K hK => ?_)
      clear hd ho
      go_simp
      refine hK _ _ ⟨hS.alloc _, (Ext.refl W).alloc _, _, rfl, ⟨_, rfl⟩, row3N (by go_simp) (by go_simp) (by go_simp)⟩
    · obtain rfl := Option.some.inj ho
      refine wpOp_step rfl (fun K hK => ?_)
      clear hd ho
      go_simp
      refine hK _ _ ⟨hS.alloc _, (Ext.refl W).alloc _, _, rfl, ⟨_, rfl⟩, row3N (by go_simp) (by go_simp) (by go_simp)⟩
    · obtain rfl := Option.some.inj ho
      refine wpOp_step rfl (fun K hK => ?_)
      obtain ⟨⟨ba, hba⟩, hra⟩ := hd ⟨3, .data⟩ (by simp) rfl
      obtain ⟨⟨bb, hbb⟩, hrb⟩ := hd ⟨4, .data⟩ (by simp) rfl
      rw [hba] at hra
      rw [hbb] at hrb
      have t8 : a.tmps[8]?.getD undef = .slice (some ⟨ba, 0, none⟩) 3 3 := (ev_tmp a 8).symm.trans hba
      have t9 : a.tmps[9]?.getD undef = .slice (some ⟨bb, 0, none⟩) 3 3 := (ev_tmp a 9).symm.trans hbb
      clear hd ho hba hbb
      go_simp
      refine hK _ _ ⟨hS.alloc _, (Ext.refl W).alloc _, _, rfl, ⟨_, rfl⟩, mat2N (by go_simp) (by go_simp) (hra.ext ((Ext.refl W).alloc _)) (hrb.ext ((Ext.refl W).alloc _))⟩
    · obtain rfl := Option.some.inj ho
      refine wpOp_step rfl (fun K hK => ?_)
      obtain ⟨⟨ba, hba⟩, hra⟩ := hd ⟨0, .data⟩ (by simp) rfl
      obtain ⟨⟨bb, hbb⟩, hrb⟩ := hd ⟨2, .data⟩ (by simp) rfl
      obtain ⟨⟨bc, hbc⟩, hrc⟩ := hd ⟨5, .data⟩ (by simp) rfl
      rw [hba] at hra
      rw [hbb] at hrb
      rw [hbc] at hrc
      have t5 : a.tmps[5]?.getD undef = .slice (some ⟨ba, 0, none⟩) 3 3 := (ev_tmp a 5).symm.trans hba
      have t7 : a.tmps[7]?.getD undef = .slice (some ⟨bb, 0, none⟩) 1 1 := (ev_tmp a 7).symm.trans hbb
      have t10 : a.tmps[10]?.getD undef = .slice (some ⟨bc, 0, none⟩) 2 2 := (ev_tmp a 10).symm.trans hbc
      clear hd ho hba hbb hbc
      go_simp
      refine hK _ _ ⟨hS, Ext.refl W, _, rfl, _, _, _, rfl, hra, hrb, hrc⟩
    · obtain rfl := Option.some.inj ho
      refine wpOp_step rfl (fun K hK => ?_)
      have t2 : a.tmps[2]?.getD undef = .pointer (some ⟨b1 + 1, 0, none⟩) := by rw [hF.other 2 (fun j _ => by omega)]; rfl
      have q0 := hS.cell d0
      have q1 := hS.cell d1
      clear hd ho
      go_simp
      refine hK _ _ ⟨hS, Ext.refl W, _, rfl, rfl⟩
    · obtain rfl := Option.some.inj ho
      refine wpOp_step rfl (fun K hK => ?_)
      have t1 : a.tmps[1]?.getD undef = .pointer (some ⟨b1, 0, none⟩) := by rw [hF.other 1 (fun j _ => by omega)]; rfl
      have q0 := hS.cell c0
      have q1 := hS.cell c1
      clear hd ho
      go_simp
      refine hK _ _ ⟨hS, Ext.refl W, _, rfl, rfl⟩
    · obtain rfl := Option.some.inj ho
      refine wpOp_step rfl (fun K hK => ?_)
      have t1 : a.tmps[1]?.getD undef = .pointer (some ⟨b1, 0, none⟩) := by rw [hF.other 1 (fun j _ => by omega)]; rfl
      have q0 := hS.cell c0
      have q1 := hS.cell c1
      clear hd ho
      go_simp
      refine hK _ _ ⟨hS, Ext.refl W, _, rfl, rfl⟩
    · obtain rfl := Option.some.inj ho
      refine wpOp_step rfl (fun K hK => ?_)
      have h0 := hd ⟨7, .data⟩ (by simp) rfl
      have h1 := hd ⟨8, .data⟩ (by simp) rfl
      have h2 := hd ⟨9, .data⟩ (by simp) rfl
      have s0 : a.tmps[12]?.getD undef = .agg #[.string ⟨#[49]⟩, .string ⟨#[49]⟩] := (ev_tmp a 12).symm.trans h0
      have s1 : a.tmps[13]?.getD undef = .agg #[.string ⟨#[48]⟩, .string ⟨#[49]⟩] := (ev_tmp a 13).symm.trans h1
      have s2 : a.tmps[14]?.getD undef = .agg #[.string ⟨#[48]⟩, .string ⟨#[49]⟩] := (ev_tmp a 14).symm.trans h2
      clear hd ho h0 h1 h2
      go_simp
      refine hK _ _ ⟨hS.alloc _, (Ext.refl W).alloc _, _, rfl, ⟨_, rfl⟩, sz3N (by rw [I_one1.1]; go_simp) (by rw [I_one1.2]; go_simp) (by rw [I_zeroR.1]; go_simp) (by rw [I_zeroR.2]; go_simp) (by rw [I_zeroR.1]; go_simp) (by rw [I_zeroR.2]; go_simp)⟩
    · obtain rfl := Option.some.inj ho
      refine wpOp_step rfl (fun K hK => ?_)
      have t2 : a.tmps[2]?.getD undef = .pointer (some ⟨b1 + 1, 0, none⟩) := by rw [hF.other 2 (fun j _ => by omega)]; rfl
      have q0 := hS.cell d0
      have q1 := hS.cell d1
      clear hd ho
      go_simp
      refine hK _ _ ⟨hS, Ext.refl W, _, rfl, rfl⟩
    · obtain rfl := Option.some.inj ho
      refine wpOp_step rfl (fun K hK => ?_)
      have t1 : a.tmps[1]?.getD undef = .pointer (some ⟨b1, 0, none⟩) := by rw [hF.other 1 (fun j _ => by omega)]; rfl
      have q0 := hS.cell c0
      have q1 := hS.cell c1
      clear hd ho
      go_simp
      refine hK _ _ ⟨hS, Ext.refl W, _, rfl, rfl⟩
    · obtain rfl := Option.some.inj ho
      refine wpOp_step rfl (fun K hK => ?_)
      clear hd ho
      go_simp
      refine (hp.out _ (eB.trans hS)).mono ?_
      rintro e W2 ⟨rfl, hE2⟩
      refine hK _ _ ⟨hS.trans hE2, hE2, _, rfl, rfl⟩
    · obtain rfl := Option.some.inj ho
      refine wpOp_step rfl (fun K hK => ?_)
      have h0 := hd ⟨11, .data⟩ (by simp) rfl
      have h1 := hd ⟨12, .data⟩ (by simp) rfl
      have h2 := hd ⟨13, .data⟩ (by simp) rfl
      have s0 : a.tmps[16]?.getD undef = .agg #[.string ⟨#[49]⟩, .string ⟨#[49]⟩] := (ev_tmp a 16).symm.trans h0
      have s1 : a.tmps[17]?.getD undef = .agg #[.string ⟨#[48]⟩, .string ⟨#[49]⟩] := (ev_tmp a 17).symm.trans h1
      have s2 : a.tmps[18]?.getD undef = .agg #[.string ⟨#[49]⟩, .string ⟨#[52]⟩] := (ev_tmp a 18).symm.trans h2
      clear hd ho h0 h1 h2
      go_simp
      refine hK _ _ ⟨hS.alloc _, (Ext.refl W).alloc _, _, rfl, ⟨_, rfl⟩, sz3N (by rw [I_one1.1]; go_simp) (by rw [I_one1.2]; go_simp) (by rw [I_zeroR.1]; go_simp) (by rw [I_zeroR.2]; go_simp) (by rw [I_four4.1]; go_simp) (by rw [I_four4.2]; go_simp)⟩
    · obtain rfl := Option.some.inj ho
      refine wpOp_step rfl (fun K hK => ?_)
      obtain ⟨⟨ba, hba⟩, hra⟩ := hd ⟨10, .data⟩ (by simp) rfl
      obtain ⟨⟨bb, hbb⟩, hrb⟩ := hd ⟨14, .data⟩ (by simp) rfl
      rw [hba] at hra
      rw [hbb] at hrb
      have t15 : a.tmps[15]?.getD undef = .slice (some ⟨ba, 0, none⟩) 3 3 := (ev_tmp a 15).symm.trans hba
      have t19 : a.tmps[19]?.getD undef = .slice (some ⟨bb, 0, none⟩) 3 3 := (ev_tmp a 19).symm.trans hbb
      clear hd ho hba hbb
      go_simp
      refine hK _ _ ⟨hS.alloc _, (Ext.refl W).alloc _, _, rfl, ⟨_, rfl⟩, gn2N (by go_simp) (by go_simp) (hra.ext ((Ext.refl W).alloc _)) (hrb.ext ((Ext.refl W).alloc _))⟩
    · obtain rfl := Option.some.inj ho
      refine wpOp_step rfl (fun K hK => ?_)
      obtain ⟨ba, bb, bc, hb, hra, hrb, hrc⟩ := hd ⟨6, .data⟩ (by simp) rfl
      obtain ⟨⟨bd, hbd⟩, hrd⟩ := hd ⟨15, .data⟩ (by simp) rfl
      rw [hbd] at hrd
      have t11 : a.tmps[11]?.getD undef = .agg #[.slice (some ⟨ba, 0, none⟩) 3 3, .slice (some ⟨bb, 0, none⟩) 1 1, .slice (some ⟨bc, 0, none⟩) 2 2] := (ev_tmp a 11).symm.trans hb
      have t20 : a.tmps[20]?.getD undef = .slice (some ⟨bd, 0, none⟩) 2 2 := (ev_tmp a 20).symm.trans hbd
      clear hd ho hb hbd
      go_simp
      refine hK _ _ ⟨hS, Ext.refl W, _, rfl, _, _, _, _, rfl, hra, hrb, hrc, hrd⟩
  · intro listed a W inv hall hS hF hGa
    obtain ⟨ba, bb, bc, bd, hv, hra, hrb, hrc, hrd⟩ := hGa 16 (by omega)
    have t0 : a.tmps[0]?.getD undef = .pointer (some ⟨b0, 0, none⟩) := by rw [hF.other 0 (fun j _ => by omega)]; rfl
    have t21 : a.tmps[21]?.getD undef = .agg #[.slice (some ⟨ba, 0, none⟩) 3 3, .slice (some ⟨bb, 0, none⟩) 1 1, .slice (some ⟨bc, 0, none⟩) 2 2, .slice (some ⟨bd, 0, none⟩) 2 2] := (ev_tmp a 21).symm.trans hv
    have hdf : a.defers = [] := hF.defers
    obtain ⟨tm, df⟩ := a
    simp only at t0 t21 hdf
    subst hdf
    have hH := HO.out.ext hS
    refine ⟨by rw [listed_eq inv hall]; kernel_rfl, ?_⟩
    clear hGa hF hall inv hv
    have hBW := eB.trans hS
    obtain ⟨Hr6, He6, Hg6⟩ := set4 hBW (by have := Hb0.out; omega) hH (.slice (some ⟨ba, 0, none⟩) 3 3) (.slice (some ⟨bb, 0, none⟩) 1 1) (.slice (some ⟨bc, 0, none⟩) 2 2) (.slice (some ⟨bd, 0, none⟩) 2 2)
    have r0 := Hr6.cell (j := 0) (by simp)
    have r1 := Hr6.cell (j := 1) (by simp)
    have r2 := Hr6.cell (j := 2) (by simp)
    have r3 := Hr6.cell (j := 3) (by simp)
    simp only [List.getElem_cons_zero, List.getElem_cons_succ] at r0 r1 r2 r3
    have f0 := hH.frozen 0
    have f1 := hH.frozen 1
    have f2 := hH.frozen 2
    have f3 := hH.frozen 3
    have m0 := hH.cell (j := 0) (by simp)
    have m1 := hH.cell (j := 1) (by simp)
    have m2 := hH.cell (j := 2) (by simp)
    have m3 := hH.cell (j := 3) (by simp)
    simp only [List.getElem_cons_zero, List.getElem_cons_succ] at m0 m1 m2 m3
    have Hres := Lib.hid (And.intro (mtT hra hrb hrc hrd hH Hg6) He6)
    clear hra hrb hrc hrd Hg6 He6 Hr6 hBW hH HO
    refine wpList_plain rfl (fun K hK => ?_)
    go_simp
    refine hK _ _ ?_
    clear hK K
    go_wp2_with fail
    refine bodyPost_ret (v := .agg #[.slice (some ⟨ba, 0, none⟩) 3 3, .slice (some ⟨bb, 0, none⟩) 1 1, .slice (some ⟨bc, 0, none⟩) 2 2, .slice (some ⟨bd, 0, none⟩) 2 2]) (by simp [results, Tryz.results60, go_sem, t0, r0, r1, r2, r3]) rfl ⟨_, rfl, Hres.out.1, Hres.out.2⟩
end Go.Proofs.YtdidbebgbinncaaGreatDoor
namespace Go.Proofs.YtdidbebgbinncaaGreatDoor
open Go.RowKit Go.Sort
def nbL (x : List Int) : List Rat := x.map fun (z : Int) => (z : Rat)
@[simp] theorem nbL_length (x : List Int) : (nbL x).length = x.length := by simp [nbL]
theorem nbL_snoc {x : List Int} {i : Nat} (h : i < x.length) : nbL (x.take i) ++ [(x[i] : Rat)] = nbL (x.take (i + 1)) := by
  unfold nbL
  rw [List.take_succ_eq_append_getElem h, List.map_append]; rfl
set_option maxRecDepth 100000 in
set_option maxHeartbeats 2000000 in
theorem numbers_any {w : World} {v : Value} {x : List Int} (hx : RowR w v x) (hl : x.length ≤ 1000000) (h64 : ∀ z ∈ x, I64 z) (hL : Laid w) :
    Calls Tryz.prog 65 #[v] w fun e w' => (∃ u, e = .returned u ∧ SzV w.heap.size w' u (nbL x)) ∧ Ext w w' := by
  obtain ⟨sa, gb, go, cap, rfl, hc, hS⟩ := hx
  have HS := Lib.hid hS
  have H64 := Lib.hid h64
  have HL := Lib.hid hL
  obtain ⟨n, hn⟩ : ∃ n, n = x.length := ⟨_, rfl⟩
  rw [← hn] at hc hl ⊢
  have Hn := Lib.hid hn
  clear hS h64 hL hn
  go_enter Tryz.func65, Tryz.ntmps65
  go_wp2_with fail
  go_loopw [3, 10] (fun u iv wr => ∃ i : Nat, i ≤ n ∧ iv = .int .i64 i ∧ Hid (SzV w.heap.size wr u (nbL (x.take i))) ∧ Ext w wr) (fun _ iv _ => n - (intOf iv).toNat)
  case atStart => exact ⟨0, by omega, by go_num, Lib.hid (SzV.nil _ _), Ext.refl _⟩
  case round =>
    obtain ⟨i, hi, rfl, HV, hE⟩ := hrel
    generalize wr = Y at *
    have hYs := hE.size
    by_cases hlt : i < n
    · have hii : (i : Int) < (n : Int) := by omega
      have hix : i < x.length := by rw [← Hn.out]; exact hlt
      obtain rfl := HS.out.addr (by simp; omega)
      have k0 := HS.out.cell i (.int .i64 x[i]) (by simp [is, List.getElem?_eq_getElem hix])
      have y0 := hE.cell k0
      have h6 := H64.out _ (List.getElem_mem hix)
      have hof := Lib.hid (fun W (hW : Ext Y W) => ratOf_any (n := x[i]) (d := 1) h6 (by omega) (by omega) (HL.out.ext (hE.trans hW)))
      rw [show ((x[i] : Rat) / ((1 : Int) : Rat)) = (x[i] : Rat) by grind] at hof
      have Hst := Lib.hid (nbL_snoc hix)
      have hlen : (nbL (x.take i)).length = i := by rw [nbL_length, List.length_take]; omega
      have Hlen := Lib.hid hlen
      have Hmin := Lib.hid (show min i x.length = i by omega)
      clear k0 hlen h6
      obtain ⟨r, hr⟩ : ∃ r : Rat, r = (x[i] : Rat) := ⟨_, rfl⟩
      rw [← hr] at hof Hst
      generalize x[i] = z at *
      clear hr hix
      go_wp2_with fail
      refine (hof.out _ (Ext.refl _)).mono ?_
      rintro e Z ⟨rfl, hE2⟩
      have eA := (hE2.alloc (.cells #[I r.num, I r.den] 70)).alloc (.cells #[I r.num, I r.den] 70)
      have hO := two_alloc (Z.alloc (.cells #[I r.num, I r.den] 70)) 70 (I r.num) (I r.den)
      rw [show (Z.alloc (.cells #[I r.num, I r.den] 70)).heap.size = Z.heap.size + 1 by simp] at hO
      have z0 := hO.cell (j := 0) (by simp)
      have z1 := hO.cell (j := 1) (by simp)
      simp only [List.getElem_cons_zero, List.getElem_cons_succ] at z0 z1
      have HVZ := Lib.hid (HV.out.ext eA)
      have hZs := hE2.size
      clear hO hof y0
      go_wp2_with (at_builtin; refine app_rat rfl _ _ 46 Tryz.underlying46 rfl (B := w.heap.size) rfl HVZ.out (b := Z.heap.size + 1) (r := r) rfl z0 z1 (by rw [Hlen.out]; omega) (by simp; omega) ?_; intro g9 cap9 w9 hO9 hB9 _; rw [Hst.out, Hlen.out] at hO9; have HO9 := Lib.hid hO9; have e9 := Below.trans (hE.trans eA) hB9; clear hO9 hB9)
      go_wp2_with fail
      go_roundw
      case rel => exact ⟨i + 1, by omega, by go_num, by rw [Hmin.out]; exact HO9, e9⟩
      case measure => simp [intOf] <;> omega
    · obtain rfl : i = n := by omega
      have Hres := Lib.hid (show SzV w.heap.size Y _ (nbL x) by have := HV.out; rw [Hn.out, List.take_length] at this; exact this)
      have hii : ¬ (i : Int) < (i : Int) := by omega
      go_wp2_with fail
      go_ret
      exact ⟨⟨_, rfl, Hres.out⟩, hE⟩
end Go.Proofs.YtdidbebgbinncaaGreatDoor
namespace Go.Proofs.YtdidbebgbinncaaGreatDoor
open Go.RowKit Go.Sort
theorem tmp_b {f : Nat → Int} (hf : ∀ i, (f i).natAbs ≤ 1000000000000000000) : ∀ k, (sumZ f k).natAbs ≤ k * 1000000000000000000
  | 0 => by simp [sumZ]
  | k + 1 => by
    have h1 := tmp_b hf k
    have h2 := hf k
    rw [sumZ]; omega
theorem nd_b66 {z : Int} (h : z.natAbs ≤ 64000000000000000000) : nd z ≤ 67 := nd_lt2 (E := 66) (by
  have e : (2 : Nat) ^ 66 = 73786976294838206464 := by decide
  rw [e]; omega)
theorem prod_b {a b : Int} (ha : -1000000000 ≤ a ∧ a ≤ 1000000000) (hb : -1000000000 ≤ b ∧ b ≤ 1000000000) : (a * b).natAbs ≤ 1000000000000000000 := by
  rw [Int.natAbs_mul]
  have := Nat.mul_le_mul (show a.natAbs ≤ 1000000000 by omega) (show b.natAbs ≤ 1000000000 by omega)
  omega
theorem getD_bd9 {l : List Int} (h : ∀ z ∈ l, -1000000000 ≤ z ∧ z ≤ 1000000000) (i : Nat) : -1000000000 ≤ l.getD i 0 ∧ l.getD i 0 ≤ 1000000000 := by
  rw [List.getD_eq_getElem?_getD]
  rcases Nat.lt_or_ge i l.length with hi | hi
  · rw [List.getElem?_eq_getElem hi]; exact h _ (List.getElem_mem hi)
  · rw [List.getElem?_eq_none hi]; simp
def tmpT (x v : List Int) (j : Nat) : Int := sumZ (fun i => x.getD i 0 * v.getD i 0) j
theorem tmpT_succ (x v : List Int) (j : Nat) : tmpT x v (j + 1) = tmpT x v j + x.getD j 0 * v.getD j 0 := rfl
theorem tmpT_b {x v : List Int} (hx : ∀ z ∈ x, -1000000000 ≤ z ∧ z ≤ 1000000000) (hv : ∀ z ∈ v, -1000000000 ≤ z ∧ z ≤ 1000000000) {j : Nat} (hj : j ≤ 64) : nd (tmpT x v j) ≤ 67 := by
  have := tmp_b (f := fun i => x.getD i 0 * v.getD i 0) (fun i => prod_b (getD_bd9 hx i) (getD_bd9 hv i)) j
  refine nd_b66 ?_
  unfold tmpT
  omega
set_option maxRecDepth 100000 in
set_option maxHeartbeats 4000000 in
theorem temper_any {w : World} {P : List Int} {C M : Mx} {sp : Option Addr} {cp : Nat} {sc : Option Addr} {lc cc : Nat} {sm : Option Addr} {lm cm : Nat} {sx : Option Addr} {n cx : Nat} {x : List Int} (h : TmV w P C M M sp cp sc lc cc sm lm cm) (hx : RowR w (.slice sx n cx) x) (hc : chkRow x = 0) (hl : x.length = P.length) (hL : Laid w) :
    Calls Tryz.prog 68 #[tmS P sp cp sc lc cc sm lm cm, .slice sx n cx] w fun e w' => ∃ v', e = .returned v' ∧ IntsV w.heap.size w' v' (tmpL M x) ∧ Ext w w' := by
  obtain ⟨hok, hP, hC, hM⟩ := h
  obtain ⟨psM, hIM⟩ := hok.kM.1
  have hlM := isH_len hIM
  have hp4 := hok.p4
  obtain ⟨hx64, hxb⟩ := chkRow_ok hc
  have Hxb := Lib.hid hxb
  have HsM := Lib.hid hok.sM
  have HrM := Lib.hid (show ∀ r ∈ M, r.length = x.length from fun r hr => by rw [hIM.rect r hr, hl])
  have HL := Lib.hid hL
  obtain ⟨sx', gx, ox, cx', ex, hxc, hSx⟩ := hx
  injection ex with q1 q2 q3
  subst q1 q3
  rw [q2]
  have hnx : x.length ≤ 4 := by omega
  have HSx := Lib.hid hSx
  obtain ⟨sm', gm, om, cm', vs, em, hmc, hvl, hSm, hrm⟩ := hM
  injection em with q4 q5 q6
  subst q4 q6
  rw [q5]
  have hlM4 : M.length ≤ 4 := by omega
  have HS := Lib.hid hSm
  have HV := Lib.hid hvl
  have HR := Lib.hid hrm
  have hX := (Ext.refl w).alloc (.cells #[.slice sp P.length cp, .slice sc lc cc, .slice sm M.length cm] 41)
  have x2 : (w.alloc (.cells #[.slice sp P.length cp, .slice sc lc cc, .slice sm M.length cm] 41)).cell? ⟨w.heap.size, 2, none⟩ = some (.slice sm M.length cm) := by go_simp
  have hsz : w.heap.size ≤ (w.alloc (.cells #[.slice sp P.length cp, .slice sc lc cc, .slice sm M.length cm] 41)).heap.size := by simp
  clear hxb hIM hok hP hC hl hp4 hlM hSm hvl hrm hL hSx q2 q5 hc hx64
  go_enter Tryz.func68, Tryz.ntmps68
  go_wp2_with fail
  generalize w.alloc (.cells #[.slice sp P.length cp, .slice sc lc cc, .slice sm M.length cm] 41) = V at *
  generalize P.length = np at *
  go_loopw [5, 14] (fun out idx wr => ∃ i : Nat, i ≤ M.length ∧ idx = .int .i64 i ∧ Hid (IntsV V.heap.size wr out ((tmpL M x).take i)) ∧ Ext V wr) (fun _ idx _ => M.length - (intOf idx).toNat)
  case atStart => exact ⟨0, by omega, by go_num, Lib.hid (by rw [List.take_zero]; exact IntsV.nil _ _), Ext.refl _⟩
  case round =>
    obtain ⟨i, hi', rfl, hV, hE⟩ := hrel
    generalize wr = X at *
    by_cases hlt : i < M.length
    · have hii : (i : Int) < (M.length : Int) := by omega
      obtain rfl := HS.out.addr (by rw [HV.out]; omega)
      obtain ⟨sr, br, or, cr, hrow, hrc, hSr⟩ := MatR.row HS.out HV.out HR.out hlt
      obtain ⟨r, hr⟩ : ∃ r, r = M[i] := ⟨_, rfl⟩
      have hrl := HrM.out _ (List.getElem_mem hlt)
      have Hrb := Lib.hid (HsM.out _ (List.getElem_mem hlt))
      have Htk := Lib.hid (show (tmpL M x).take (i + 1) = (tmpL M x).take i ++ [tmpE x M[i]] by
        rw [List.take_succ_eq_append_getElem (by simpa using hlt)]
        simp [tmpL])
      rw [← hr] at hrow hrc hSr hrl Hrb Htk
      have eX := hX.trans hE
      have hrow' := eX.cell hrow
      have HSr := Lib.hid (hSr.ext eX)
      have HSx2 := Lib.hid (HSx.out.ext eX)
      have Hil := Lib.hid (show ((tmpL M x).take i).length = i by rw [List.length_take, tmpL_length]; omega)
      rw [hrl] at hrow' hrc
      clear hrow hSr hr
      obtain ⟨m, hm⟩ : ∃ m, m = x.length := ⟨_, rfl⟩
      rw [← hm] at hrow' hrc hxc hnx ⊢
      have Hm := Lib.hid hm
      have Hrl := Lib.hid (hrl.trans hm.symm)
      clear hm hrl
      go_wp2_with fail
      go_loopw [8, 20] (fun sv jdx wr => ∃ j : Nat, j ≤ m ∧ jdx = .int .i64 j ∧ sv = I (tmpT x r j) ∧ Ext X wr) (fun _ jdx _ => m - (intOf jdx).toNat)
      case atStart => exact ⟨0, by omega, by go_num, (show I 0 = _ by unfold I S; rw [itoa_zero]).symm, Ext.refl _⟩
      case round =>
        obtain ⟨j, hj, rfl, rfl, hE2⟩ := hrel
        generalize wr = Y at *
        by_cases hjl : j < m
        · have hji : (j : Int) < (m : Int) := by omega
          have hj1 : j < x.length := by rw [← Hm.out]; exact hjl
          have hj2 : j < r.length := by rw [Hrl.out]; exact hjl
          obtain ⟨a, ha⟩ : ∃ a, a = x.getD j 0 := ⟨_, rfl⟩
          obtain ⟨b, hb⟩ : ∃ b, b = r.getD j 0 := ⟨_, rfl⟩
          have Hts := Lib.hid (tmpT_succ x r j)
          rw [← ha, ← hb] at Hts
          have hca := hE2.cell (HSx2.out.cell j (.int .i64 a) (by rw [ha, getD_get hj1]; exact is_get hj1))
          have hcb := hE2.cell (HSr.out.cell j (.int .i64 b) (by rw [hb, getD_get hj2]; exact is_get hj2))
          obtain rfl := HSx.out.addr (by simp; omega)
          obtain rfl := HSr.out.addr (by simp; omega)
          have hab := getD_bd9 Hxb.out j
          have hbb := getD_bd9 Hrb.out j
          rw [← ha] at hab
          rw [← hb] at hbb
          have n1 := tmpT_b Hxb.out Hrb.out (j := j) (by omega)
          have n2 := nd_b66 (z := a * b) (by have := prod_b hab hbb; omega)
          have n3 := nd_b66 (z := a) (by omega)
          have n4 := nd_b66 (z := b) (by omega)
          obtain ⟨s, hs⟩ : ∃ s, s = tmpT x r j := ⟨_, rfl⟩
          rw [← hs] at n1 Hts ⊢
          have eY := eX.trans hE2
          have HeY := Lib.hid eY
          have c1 := Lib.hid (quietC (w := Y) (fun W hW => wholeOf_any (n := a) (w := W) (by omega) (by omega) (HL.out.ext (HeY.out.trans hW))))
          have c2 := Lib.hid (quietC (w := Y) (fun W hW => wholeOf_any (n := b) (w := W) (by omega) (by omega) (HL.out.ext (HeY.out.trans hW))))
          have c3 := Lib.hid (quietC (w := Y) (fun W hW => Mul_any (a := a) (b := b) (w := W) (by unfold LIM; omega) (HL.out.ext (HeY.out.trans hW))))
          have c4 := Lib.hid (quietC (w := Y) (fun W hW => Add_any (a := s) (b := a * b) (w := W) (by unfold LIM; omega) (by unfold LIM; omega) (HL.out.ext (HeY.out.trans hW))))
          have k2 := cell_regrown hcb
          clear hab hbb n1 n2 n3 n4 hs ha hb eY hj1 hj2
          go_wp2_with fail
          refine wp_region_quiet_tail 10 (by kernel_rfl) (by kernel_rfl) ?_
          simp only [List.take_succ_cons, List.take_zero, List.drop_succ_cons, List.drop_zero]
          repeat (quiet_step (first | exact c1.out _ _ | exact c2.out _ _ | exact c3.out _ _ | exact c4.out _ _))
          refine wpQuiet_nil ?_
          intro _ hw'
          obtain ⟨⟨dq, osq⟩, hw''⟩ := hw'
          subst hw''
          have hE5 := hE2.trans (ext_regrown Y dq osq)
          clear c1 c2 c3 c4 k2
          generalize grow (redrawn Y dq) osq = w5 at *
          go_wp2_with fail
          go_roundw
          case rel => exact ⟨j + 1, by omega, by go_num, by rw [Hts.out], hE5⟩
          case measure => simp [intOf] <;> omega
        · obtain rfl : j = m := by omega
          have Hte := Lib.hid (show tmpT x r j = tmpE x r by rw [Hm.out]; rfl)
          rw [Hte.out]
          have HVY := Lib.hid (hV.out.ext hE2)
          have hYs := (hE.trans hE2).size
          have hEY := hE.trans hE2
          obtain ⟨z, hz⟩ : ∃ z, z = tmpE x r := ⟨_, rfl⟩
          rw [← hz] at Htk ⊢
          clear hV hz
          go_wp2_with (at_builtin; refine app_ints rfl _ _ rfl rfl (HVY.out.ext ((Ext.refl _).alloc _)) rfl (b := Y.heap.size) (z := z) (by go_simp) (by rw [Hil.out]; omega) (by simp; omega) ?_; intro gg cap2 w8 hO8 hB8 hG8; rw [Hil.out, ← Htk.out] at hO8; rw [Hil.out])
          have hE8 : Ext V w8 := Below.trans (hEY.alloc (.cells #[I z] 68)) hB8
          have HO8 := Lib.hid hO8
          clear hG8 hB8 hO8
          go_wp2_with fail
          go_roundw
          case rel => exact ⟨i + 1, by omega, by go_num, HO8, hE8⟩
          case measure => simp [intOf] <;> omega
    · obtain rfl : i = M.length := by omega
      have HF := Lib.hid (show IntsV V.heap.size X u5 (tmpL M x) by have := hV.out; rw [List.take_of_length_le (by simp)] at this; exact this)
      go_wp2_with fail
      go_ret
      exact ⟨_, rfl, HF.out.mono hsz, hX.trans hE⟩
end Go.Proofs.YtdidbebgbinncaaGreatDoor
