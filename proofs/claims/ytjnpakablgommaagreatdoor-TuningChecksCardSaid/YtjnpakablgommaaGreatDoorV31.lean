/- Part 31 of the proof of the claim: contracts of the functions that it reaches, and plain laws; no condition. -/
import Derived.Test.YtjnpakablgommaaGreatDoorV28
import Derived.Test.YtjnpakablgommaaGreatDoorV29
import Derived.Test.YtjnpakablgommaaGreatDoorV30
import Derived.Test.YtjnpakablgommaaGreatDoorV14
import Derived.Test.YtjnpakablgommaaGreatDoorV16
import Derived.Test.YtjnpakablgommaaGreatDoorV15
import Derived.Test.YtjnpakablgommaaGreatDoorV25
import Derived.Test.YtjnpakablgommaaGreatDoorV27
import Derived.BigQuiet
import Derived.Test.YtjnpakablgommaaGreatDoorV24
set_option maxRecDepth 100000
namespace Go.Proofs.YtjnpakablgommaaGreatDoor
open Go.RowKit Go.Sort
def mtG : List (List Rat) := [[1, 0, 0], [1, 0, 1 / 4]]
theorem sz3N {W : World} {b : Nat} {r0 r1 r2 : Rat} (h0 : W.cell? ⟨b, 0, none⟩ = some (I r0.num)) (h1 : W.cell? ⟨b, 1, none⟩ = some (I r0.den)) (h2 : W.cell? ⟨b, 2, none⟩ = some (I r1.num)) (h3 : W.cell? ⟨b, 3, none⟩ = some (I r1.den)) (h4 : W.cell? ⟨b, 4, none⟩ = some (I r2.num)) (h5 : W.cell? ⟨b, 5, none⟩ = some (I r2.den)) : SzR W (.slice (some ⟨b, 0, none⟩) 3 3) [r0, r1, r2] := by
 refine ⟨_, b, 0, 3, rfl, Nat.le_refl _, fun _ => rfl, fun i hi => ?_⟩
 have hi3 : i < 3 := hi
 rcases (show i = 0 ∨ i = 1 ∨ i = 2 by omega) with rfl | rfl | rfl
 ·exact ⟨h0, h1⟩
 ·exact ⟨h2, h3⟩
 ·exact ⟨h4, h5⟩
theorem gn2N {W : World} {b : Nat} {v0 v1 : Value} {l0 l1 : List Rat} (h0 : W.cell? ⟨b, 0, none⟩ = some v0) (h1 : W.cell? ⟨b, 1, none⟩ = some v1) (k0 : SzR W v0 l0) (k1 : SzR W v1 l1) : GnR W (.slice (some ⟨b, 0, none⟩) 2 2) [l0, l1] := by
 refine ⟨_, b, 0, 2, [v0, v1], rfl, Nat.le_refl _, rfl, ⟨fun _ => rfl, fun i u hu => ?_⟩, fun i hi hi' => ?_⟩
 ·obtain ⟨hi, rfl⟩ := List.getElem?_eq_some_iff.1 hu
  have hi3 : i < 2 := hi
  rw [Nat.zero_add]
  rcases (show i = 0 ∨ i = 1 by omega) with rfl | rfl
  ·exact h0
  ·exact h1
 ·have hi3 : i < 2 := hi
  rcases (show i = 0 ∨ i = 1 by omega) with rfl | rfl
  ·exact k0
  ·exact k1
theorem ev_tmp (a : Act) (t : Nat) : a.eval (.tmp t) = a.tmps[t]?.getD undef := by simp [Act.eval]
def Hd (v : Value) (n : Nat) : Prop := ∃ b, v = .slice (some ⟨b, 0, none⟩) n n
def mtP24 : Nat → Value → World → Prop
 | 0, v, w => Hd v 3 ∧ RowR w v [2, 3, 5]
 | 1, v, w => Hd v 3 ∧ RowR w v [4, -4, 1]
 | 2, v, w => Hd v 1 ∧ MatR w v [[4, -4, 1]]
 | 3, v, w => Hd v 3 ∧ RowR w v [1, 0, -4]
 | 4, v, w => Hd v 3 ∧ RowR w v [0, 1, 4]
 | 5, v, w => Hd v 2 ∧ MatR w v [[1, 0, -4], [0, 1, 4]]
 | 6, v, w => ∃ b0 b1 b2, v = .agg #[.slice (some ⟨b0, 0, none⟩) 3 3, .slice (some ⟨b1, 0, none⟩) 1 1, .slice (some ⟨b2, 0, none⟩) 2 2] ∧ RowR w (.slice (some ⟨b0, 0, none⟩) 3 3) [2, 3, 5] ∧ MatR w (.slice (some ⟨b1, 0, none⟩) 1 1) [[4, -4, 1]] ∧ MatR w (.slice (some ⟨b2, 0, none⟩) 2 2) [[1, 0, -4], [0, 1, 4]]
 | 7, v, _ => v = .agg #[.string ⟨#[49]⟩, .string ⟨#[49]⟩]
 | 8, v, _ => v = .agg #[.string ⟨#[48]⟩, .string ⟨#[49]⟩]
 | 9, v, _ => v = .agg #[.string ⟨#[48]⟩, .string ⟨#[49]⟩]
 | 10, v, w => Hd v 3 ∧ SzR w v [1, 0, 0]
 | 11, v, _ => v = .agg #[.string ⟨#[49]⟩, .string ⟨#[49]⟩]
 | 12, v, _ => v = .agg #[.string ⟨#[48]⟩, .string ⟨#[49]⟩]
 | 13, v, _ => v = .agg #[.string ⟨#[49]⟩, .string ⟨#[52]⟩]
 | 14, v, w => Hd v 3 ∧ SzR w v [1, 0, 1 / 4]
 | 15, v, w => Hd v 2 ∧ GnR w v mtG
 | _, v, w => ∃ b0 b1 b2 b3, v = .agg #[.slice (some ⟨b0, 0, none⟩) 3 3, .slice (some ⟨b1, 0, none⟩) 1 1, .slice (some ⟨b2, 0, none⟩) 2 2, .slice (some ⟨b3, 0, none⟩) 2 2] ∧ RowR w (.slice (some ⟨b0, 0, none⟩) 3 3) [2, 3, 5] ∧ MatR w (.slice (some ⟨b1, 0, none⟩) 1 1) [[4, -4, 1]] ∧ MatR w (.slice (some ⟨b2, 0, none⟩) 2 2) [[1, 0, -4], [0, 1, 4]] ∧ GnR w (.slice (some ⟨b3, 0, none⟩) 2 2) mtG
theorem mtP24_ext (j : Nat) (v : Value) (w w' : World) (h : mtP24 j v w) (hE : Ext w w') : mtP24 j v w' := by
 unfold mtP24 at h ⊢
 split at h
 ·exact ⟨h.1, h.2.ext hE⟩
 ·exact ⟨h.1, h.2.ext hE⟩
 ·exact ⟨h.1, h.2.ext hE⟩
 ·exact ⟨h.1, h.2.ext hE⟩
 ·exact ⟨h.1, h.2.ext hE⟩
 ·exact ⟨h.1, h.2.ext hE⟩
 ·obtain ⟨b0, b1, b2, e, k0, k1, k2⟩ := h; exact ⟨b0, b1, b2, e, k0.ext hE, k1.ext hE, k2.ext hE⟩
 ·exact h
 ·exact h
 ·exact h
 ·exact ⟨h.1, h.2.ext hE⟩
 ·exact h
 ·exact h
 ·exact h
 ·exact ⟨h.1, h.2.ext hE⟩
 ·exact ⟨h.1, h.2.ext hE⟩
 ·obtain ⟨b0, b1, b2, b3, e, k0, k1, k2, k3⟩ := h; exact ⟨b0, b1, b2, b3, e, k0.ext hE, k1.ext hE, k2.ext hE, k3.ext hE⟩
theorem four_parts : ((1 / 4 : Rat)).num = 1 ∧ (((1 / 4 : Rat)).den : Int) = 4 := by decide +kernel
theorem itoa_four : Lib.itoa 4 = [52] := by rw [show (4 : Int) = ((4 : Nat) : Int) from rfl, itoa_nat]; decide +kernel
theorem RV_one : RV ((1 : Int) : Rat) = .agg #[.string ⟨#[49]⟩, .string ⟨#[49]⟩] := by
 show Value.agg #[I (((1 : Int) : Rat)).num, I ((((1 : Int) : Rat)).den : Int)] = _
 rw [show (((1 : Int) : Rat)).num = 1 from rfl, show (((((1 : Int) : Rat)).den : Nat) : Int) = 1 from rfl]
 unfold I S; rw [itoa_one]
theorem RV_zero : RV ((0 : Int) : Rat) = .agg #[.string ⟨#[48]⟩, .string ⟨#[49]⟩] := by
 show Value.agg #[I (((0 : Int) : Rat)).num, I ((((0 : Int) : Rat)).den : Int)] = _
 rw [show (((0 : Int) : Rat)).num = 0 from rfl, show (((((0 : Int) : Rat)).den : Nat) : Int) = 1 from rfl]
 unfold I S; rw [itoa_one, itoa_zero]
theorem RV_four : RV (((1 : Int) : Rat) / ((4 : Int) : Rat)) = .agg #[.string ⟨#[49]⟩, .string ⟨#[52]⟩] := by
 have e : (((1 : Int) : Rat) / ((4 : Int) : Rat)) = (1 / 4 : Rat) := rfl
 rw [e]
 show Value.agg #[I ((1 / 4 : Rat)).num, I (((1 / 4 : Rat)).den : Int)] = _
 rw [four_parts.1, four_parts.2]
 unfold I S; rw [itoa_one, itoa_four]
theorem I_one1 : I ((1 : Rat)).num = .string ⟨#[49]⟩ ∧ I (((1 : Rat)).den : Int) = .string ⟨#[49]⟩ := by
 unfold I S
 rw [show ((1 : Rat)).num = 1 from rfl, show (((1 : Rat)).den : Int) = 1 from rfl, itoa_one]; exact ⟨rfl, rfl⟩
theorem I_four4 : I ((1 / 4 : Rat)).num = .string ⟨#[49]⟩ ∧ I (((1 / 4 : Rat)).den : Int) = .string ⟨#[52]⟩ := by
 unfold I S
 rw [four_parts.1, four_parts.2, itoa_one, itoa_four]; exact ⟨rfl, rfl⟩
theorem mtG_ok : (∀ l ∈ mtG, l.length = 3) ∧ ∀ l ∈ mtG, ShQ l := by
 refine ⟨fun l hl => ?_, fun l hl r hr => ?_⟩
 ·simp [mtG] at hl
  rcases hl with rfl | rfl <;> rfl
 ·have h1 : nd ((1 : Rat)).num ≤ 30 ∧ nd (((1 : Rat)).den : Int) ≤ 30 := by
   rw [show ((1 : Rat)).num = 1 from rfl, show (((1 : Rat)).den : Int) = 1 from rfl, nd_1]; omega
  have h0 : nd ((0 : Rat)).num ≤ 30 ∧ nd (((0 : Rat)).den : Int) ≤ 30 := by
   rw [show ((0 : Rat)).num = 0 from rfl, show (((0 : Rat)).den : Int) = 1 from rfl, nd_1, nd_0]; omega
  have h4 : nd ((1 / 4 : Rat)).num ≤ 30 ∧ nd (((1 / 4 : Rat)).den : Int) ≤ 30 := by
   rw [four_parts.1, four_parts.2, nd_1, show nd 4 = 1 from Lib.nDigits_small (u := 4) (by omega)]; omega
  simp only [mtG, List.mem_cons, List.not_mem_nil, or_false] at hl
  rcases hl with rfl | rfl
  ·simp only [List.mem_cons, List.not_mem_nil, or_false] at hr
   rcases hr with rfl | rfl | rfl
   ·exact h1
   ·exact h0
   ·exact h0
  ·simp only [List.mem_cons, List.not_mem_nil, or_false] at hr
   rcases hr with rfl | rfl | rfl
   ·exact h1
   ·exact h0
   ·exact h4
theorem gn_off {T : TypeId} {B : Nat} {w w' : World} {b : Nat} {v : Value} {G : List (List Rat)} (h : GnR w v G) (hG : ∀ r ∈ G, 0 < r.length) (ho : OwnV T B w b 4 [.slice none 0 0, .slice none 0 0, .slice none 0 0, .slice none 0 0]) (hg : w.grownBy w' (some b)) : GnR w' v G := by
 obtain ⟨sa, gb, go, cap, vs, e, hc, hl, hS, hr⟩ := h
 refine ⟨sa, gb, go, cap, vs, e, hc, hl, ⟨hS.addr, fun i x hx => ?_⟩, fun i a b' => ?_⟩
 ·have h0 := hS.cell i x hx
  have hne : gb ≠ b := fun hb => by
   subst hb
   have h2 := nil4 ho h0
   obtain ⟨hi, hx⟩ := List.getElem?_eq_some_iff.1 hx
   have hi2 : i < G.length := by omega
   obtain ⟨_, _, _, _, e2, _⟩ := hr i hi2 hi
   rw [hx, h2] at e2
   injection e2 with _ e3 _
   have := hG _ (List.getElem_mem hi2)
   omega
  exact grown_frozen_cell hg hne h0
 ·obtain ⟨xa, xb, xo, xc, ex, q1, q2, q3⟩ := hr i a b'
  refine ⟨xa, xb, xo, xc, ex, q1, q2, fun t ht => ?_⟩
  obtain ⟨k0, k1⟩ := q3 t ht
  have hne : xb ≠ b := fun hb => by
   subst hb
   have h2 := nil4 ho k0
   cases h2
  exact ⟨grown_frozen_cell hg hne k0, grown_frozen_cell hg hne k1⟩
theorem mtT {T : TypeId} {B : Nat} {w w' : World} {b b0 b1 b2 b3 : Nat} (h0 : RowR w (.slice (some ⟨b0, 0, none⟩) 3 3) [2, 3, 5]) (h1 : MatR w (.slice (some ⟨b1, 0, none⟩) 1 1) [[4, -4, 1]]) (h2 : MatR w (.slice (some ⟨b2, 0, none⟩) 2 2) [[1, 0, -4], [0, 1, 4]]) (h3 : GnR w (.slice (some ⟨b3, 0, none⟩) 2 2) mtG) (ho : OwnV T B w b 4 [.slice none 0 0, .slice none 0 0, .slice none 0 0, .slice none 0 0]) (hg : w.grownBy w' (some b)) :
  TuR w' (.agg #[.slice (some ⟨b0, 0, none⟩) 3 3, .slice (some ⟨b1, 0, none⟩) 1 1, .slice (some ⟨b2, 0, none⟩) 2 2, .slice (some ⟨b3, 0, none⟩) 2 2]) mtP mtC mtM mtG :=
 ⟨_, _, _, _, _, _, _, _, _, _, _, rfl, ⟨⟨mt_ok, row_off h0 ho hg, mat_off h1 (by decide) ho hg, mat_off h2 (by decide) ho hg⟩, gn_off h3 (by decide) ho hg, rfl, mtG_ok.1, mtG_ok.2⟩⟩
set_option maxHeartbeats 8000000 in
theorem meantone24_any {w : World} (hL : Laid w) : Calls Tryz.prog 79 #[] w fun e w' => ∃ t, e = .returned t ∧ TuR w' t mtP mtC mtM mtG ∧ Ext w w' := by
 have hw0 := Lib.hid (fun W (hW : Ext w W) => whole24_any (n := 0) (by omega) (hL.ext hW))
 have hw1 := Lib.hid (fun W (hW : Ext w W) => whole24_any (n := 1) (by omega) (hL.ext hW))
 have hp := Lib.hid (fun W (hW : Ext w W) => part24_any (n := 1) (d := 4) (by omega) (by omega) (by omega) (hL.ext hW))
 rw [RV_zero] at hw0
 rw [RV_one] at hw1
 rw [RV_four] at hp
 have hX := (Ext.refl w).alloc (.cells #[.slice none 0 0, .slice none 0 0, .slice none 0 0, .slice none 0 0] 67)
 have HO := Lib.hid (own4 w 67 (.slice none 0 0) (.slice none 0 0) (.slice none 0 0) (.slice none 0 0))
 clear hL
 go_enter Tryz.func79, Tryz.ntmps79
 go_wp2_with fail
 refine (hw0.out _ hX).mono ?_
 rintro e X1 ⟨rfl, hE1⟩
 have e1 := hX.trans hE1
 go_wp2_with fail
 refine (hw1.out _ e1).mono ?_
 rintro e X2 ⟨rfl, hE2⟩
 have e2 := e1.trans hE2
 have eA := ((Ext.refl X2).alloc (.cells #[.string ⟨#[48]⟩, .string ⟨#[49]⟩] 81)).alloc (.cells #[.string ⟨#[49]⟩, .string ⟨#[49]⟩] 81)
 have c0 : ((X2.alloc (.cells #[.string ⟨#[48]⟩, .string ⟨#[49]⟩] 81)).alloc (.cells #[.string ⟨#[49]⟩, .string ⟨#[49]⟩] 81)).cell? ⟨X2.heap.size, 0, none⟩ = some (.string ⟨#[48]⟩) := by go_simp
 have c1 : ((X2.alloc (.cells #[.string ⟨#[48]⟩, .string ⟨#[49]⟩] 81)).alloc (.cells #[.string ⟨#[49]⟩, .string ⟨#[49]⟩] 81)).cell? ⟨X2.heap.size, 1, none⟩ = some (.string ⟨#[49]⟩) := by go_simp
 have d0 : ((X2.alloc (.cells #[.string ⟨#[48]⟩, .string ⟨#[49]⟩] 81)).alloc (.cells #[.string ⟨#[49]⟩, .string ⟨#[49]⟩] 81)).cell? ⟨X2.heap.size + 1, 0, none⟩ = some (.string ⟨#[49]⟩) := by go_simp
 have d1 : ((X2.alloc (.cells #[.string ⟨#[48]⟩, .string ⟨#[49]⟩] 81)).alloc (.cells #[.string ⟨#[49]⟩, .string ⟨#[49]⟩] 81)).cell? ⟨X2.heap.size + 1, 1, none⟩ = some (.string ⟨#[49]⟩) := by go_simp
 have HO := Lib.hid (HO.out.ext ((hE1.trans hE2).trans eA))
 have eB := e2.trans eA
 clear hX hE1 e1 hE2 e2 eA hw0 hw1
 go_wp2_with fail
 generalize ((X2.alloc (.cells #[.string ⟨#[48]⟩, .string ⟨#[49]⟩] 81)).alloc (.cells #[.string ⟨#[49]⟩, .string ⟨#[49]⟩] 81)) = X at *
 generalize X2.heap.size = b1 at *
 obtain ⟨b0, hb0⟩ : ∃ b, b = w.heap.size := ⟨_, rfl⟩
 rw [← hb0] at HO ⊢
 have Hb0 := Lib.hid hb0
 clear hb0
 refine wp_region_held_tail (S := fun W => Ext X W) 17 (by kernel_rfl) (by simp) ?_
 intro inv
 have d9 : Ext X X.drew := (Ext.refl X).drew
 refine wpAnyLH_inv (D := fun j => j + 5) (G := mtP24) (fun i j _ _ h => by omega) (fun i hi => by simp; omega) ?_ (by kernel_rfl) (by kernel_rfl) (by simp) mtP24_ext ?_ ?_ 17 _ _ _ (unl_all 17 18 (by omega)) inv d9 (Frm.refl _ _ _) (fun j _ h => by rw [getD_replicate_false] at h; cases h)
 ·intro i hi o ho e he hb
  rcases (show i = 0 ∨ i = 1 ∨ i = 2 ∨ i = 3 ∨ i = 4 ∨ i = 5 ∨ i = 6 ∨ i = 7 ∨ i = 8 ∨ i = 9 ∨ i = 10 ∨ i = 11 ∨ i = 12 ∨ i = 13 ∨ i = 14 ∨ i = 15 ∨ i = 16 by omega) with rfl | rfl | rfl | rfl | rfl | rfl | rfl | rfl | rfl | rfl | rfl | rfl | rfl | rfl | rfl | rfl | rfl <;> (obtain rfl := Option.some.inj ho; simp at he <;> (try rcases he with rfl | rfl | rfl) <;> (try rcases he with rfl | rfl) <;> (try subst he) <;> simp)
 ·intro i hi o ho a W hS hF hd
  rcases (show i = 0 ∨ i = 1 ∨ i = 2 ∨ i = 3 ∨ i = 4 ∨ i = 5 ∨ i = 6 ∨ i = 7 ∨ i = 8 ∨ i = 9 ∨ i = 10 ∨ i = 11 ∨ i = 12 ∨ i = 13 ∨ i = 14 ∨ i = 15 ∨ i = 16 by omega) with rfl | rfl | rfl | rfl | rfl | rfl | rfl | rfl | rfl | rfl | rfl | rfl | rfl | rfl | rfl | rfl | rfl
  ·obtain rfl := Option.some.inj ho
   refine wpOp_step rfl (fun K hK => ?_)
   clear hd ho
   go_simp
   refine hK _ _ ⟨hS.alloc _, (Ext.refl W).alloc _, _, rfl, ⟨_, rfl⟩, row3N (by go_simp) (by go_simp) (by go_simp)⟩
  ·obtain rfl := Option.some.inj ho
   refine wpOp_step rfl (fun K hK => ?_)
   clear hd ho
   go_simp
   refine hK _ _ ⟨hS.alloc _, (Ext.refl W).alloc _, _, rfl, ⟨_, rfl⟩, row3N (by go_simp) (by go_simp) (by go_simp)⟩
  ·obtain rfl := Option.some.inj ho
   refine wpOp_step rfl (fun K hK => ?_)
   obtain ⟨⟨bb, hb⟩, hr⟩ := hd ⟨1, .data⟩ (by simp) rfl
   rw [hb] at hr
   have t6 : a.tmps[6]?.getD undef = .slice (some ⟨bb, 0, none⟩) 3 3 := (ev_tmp a 6).symm.trans hb
   clear hd ho hb
   go_simp
   refine hK _ _ ⟨hS.alloc _, (Ext.refl W).alloc _, _, rfl, ⟨_, rfl⟩, mat1N (by go_simp) (hr.ext ((Ext.refl W).alloc _))⟩
  ·obtain rfl := Option.some.inj ho
   refine wpOp_step rfl (fun K hK => ?_)
   clear hd ho
   go_simp
   refine hK _ _ ⟨hS.alloc _, (Ext.refl W).alloc _, _, rfl, ⟨_, rfl⟩, row3N (by go_simp) (by go_simp) (by go_simp)⟩
  ·obtain rfl := Option.some.inj ho
   refine wpOp_step rfl (fun K hK => ?_)
   clear hd ho
   go_simp
   refine hK _ _ ⟨hS.alloc _, (Ext.refl W).alloc _, _, rfl, ⟨_, rfl⟩, row3N (by go_simp) (by go_simp) (by go_simp)⟩
  ·obtain rfl := Option.some.inj ho
   refine wpOp_step rfl (fun K hK => ?_)
   obtain ⟨⟨ba, hba⟩, hra⟩ := hd ⟨3, .data⟩ (by simp) rfl
   obtain ⟨⟨bb, hbb⟩, hrb⟩ := hd ⟨4, .data⟩ (by simp) rfl
   rw [hba] at hra
   rw [hbb] at hrb
   have t8 : a.tmps[8]?.getD undef = .slice (some ⟨ba, 0, none⟩) 3 3 := (ev_tmp a 8).symm.trans hba
   have t9 : a.tmps[9]?.getD undef = .slice (some ⟨bb, 0, none⟩) 3 3 := (ev_tmp a 9).symm.trans hbb
   clear hd ho hba hbb
   go_simp
   refine hK _ _ ⟨hS.alloc _, (Ext.refl W).alloc _, _, rfl, ⟨_, rfl⟩, mat2N (by go_simp) (by go_simp) (hra.ext ((Ext.refl W).alloc _)) (hrb.ext ((Ext.refl W).alloc _))⟩
  ·obtain rfl := Option.some.inj ho
   refine wpOp_step rfl (fun K hK => ?_)
   obtain ⟨⟨ba, hba⟩, hra⟩ := hd ⟨0, .data⟩ (by simp) rfl
   obtain ⟨⟨bb, hbb⟩, hrb⟩ := hd ⟨2, .data⟩ (by simp) rfl
   obtain ⟨⟨bc, hbc⟩, hrc⟩ := hd ⟨5, .data⟩ (by simp) rfl
   rw [hba] at hra
   rw [hbb] at hrb
   rw [hbc] at hrc
   have t5 : a.tmps[5]?.getD undef = .slice (some ⟨ba, 0, none⟩) 3 3 := (ev_tmp a 5).symm.trans hba
   have t7 : a.tmps[7]?.getD undef = .slice (some ⟨bb, 0, none⟩) 1 1 := (ev_tmp a 7).symm.trans hbb
   have t10 : a.tmps[10]?.getD undef = .slice (some ⟨bc, 0, none⟩) 2 2 := (ev_tmp a 10).symm.trans hbc
   clear hd ho hba hbb hbc
   go_simp
   refine hK _ _ ⟨hS, Ext.refl W, _, rfl, _, _, _, rfl, hra, hrb, hrc⟩
  ·obtain rfl := Option.some.inj ho
   refine wpOp_step rfl (fun K hK => ?_)
   have t2 : a.tmps[2]?.getD undef = .pointer (some ⟨b1 + 1, 0, none⟩) := by rw [hF.other 2 (fun j _ => by omega)]; rfl
   have q0 := hS.cell d0
   have q1 := hS.cell d1
   clear hd ho
   go_simp
   refine hK _ _ ⟨hS, Ext.refl W, _, rfl, rfl⟩
  ·obtain rfl := Option.some.inj ho
   refine wpOp_step rfl (fun K hK => ?_)
   have t1 : a.tmps[1]?.getD undef = .pointer (some ⟨b1, 0, none⟩) := by rw [hF.other 1 (fun j _ => by omega)]; rfl
   have q0 := hS.cell c0
   have q1 := hS.cell c1
   clear hd ho
   go_simp
   refine hK _ _ ⟨hS, Ext.refl W, _, rfl, rfl⟩
  ·obtain rfl := Option.some.inj ho
   refine wpOp_step rfl (fun K hK => ?_)
   have t1 : a.tmps[1]?.getD undef = .pointer (some ⟨b1, 0, none⟩) := by rw [hF.other 1 (fun j _ => by omega)]; rfl
   have q0 := hS.cell c0
   have q1 := hS.cell c1
   clear hd ho
   go_simp
   refine hK _ _ ⟨hS, Ext.refl W, _, rfl, rfl⟩
  ·obtain rfl := Option.some.inj ho
   refine wpOp_step rfl (fun K hK => ?_)
   have h0 := hd ⟨7, .data⟩ (by simp) rfl
   have h1 := hd ⟨8, .data⟩ (by simp) rfl
   have h2 := hd ⟨9, .data⟩ (by simp) rfl
   have s0 : a.tmps[12]?.getD undef = .agg #[.string ⟨#[49]⟩, .string ⟨#[49]⟩] := (ev_tmp a 12).symm.trans h0
   have s1 : a.tmps[13]?.getD undef = .agg #[.string ⟨#[48]⟩, .string ⟨#[49]⟩] := (ev_tmp a 13).symm.trans h1
   have s2 : a.tmps[14]?.getD undef = .agg #[.string ⟨#[48]⟩, .string ⟨#[49]⟩] := (ev_tmp a 14).symm.trans h2
   clear hd ho h0 h1 h2
   go_simp
   refine hK _ _ ⟨hS.alloc _, (Ext.refl W).alloc _, _, rfl, ⟨_, rfl⟩, sz3N (by rw [I_one1.1]; go_simp) (by rw [I_one1.2]; go_simp) (by rw [I_zeroR.1]; go_simp) (by rw [I_zeroR.2]; go_simp) (by rw [I_zeroR.1]; go_simp) (by rw [I_zeroR.2]; go_simp)⟩
  ·obtain rfl := Option.some.inj ho
   refine wpOp_step rfl (fun K hK => ?_)
   have t2 : a.tmps[2]?.getD undef = .pointer (some ⟨b1 + 1, 0, none⟩) := by rw [hF.other 2 (fun j _ => by omega)]; rfl
   have q0 := hS.cell d0
   have q1 := hS.cell d1
   clear hd ho
   go_simp
   refine hK _ _ ⟨hS, Ext.refl W, _, rfl, rfl⟩
  ·obtain rfl := Option.some.inj ho
   refine wpOp_step rfl (fun K hK => ?_)
   have t1 : a.tmps[1]?.getD undef = .pointer (some ⟨b1, 0, none⟩) := by rw [hF.other 1 (fun j _ => by omega)]; rfl
   have q0 := hS.cell c0
   have q1 := hS.cell c1
   clear hd ho
   go_simp
   refine hK _ _ ⟨hS, Ext.refl W, _, rfl, rfl⟩
  ·obtain rfl := Option.some.inj ho
   refine wpOp_step rfl (fun K hK => ?_)
   clear hd ho
   go_simp
   refine (hp.out _ (eB.trans hS)).mono ?_
   rintro e W2 ⟨rfl, hE2⟩
   refine hK _ _ ⟨hS.trans hE2, hE2, _, rfl, rfl⟩
  ·obtain rfl := Option.some.inj ho
   refine wpOp_step rfl (fun K hK => ?_)
   have h0 := hd ⟨11, .data⟩ (by simp) rfl
   have h1 := hd ⟨12, .data⟩ (by simp) rfl
   have h2 := hd ⟨13, .data⟩ (by simp) rfl
   have s0 : a.tmps[16]?.getD undef = .agg #[.string ⟨#[49]⟩, .string ⟨#[49]⟩] := (ev_tmp a 16).symm.trans h0
   have s1 : a.tmps[17]?.getD undef = .agg #[.string ⟨#[48]⟩, .string ⟨#[49]⟩] := (ev_tmp a 17).symm.trans h1
   have s2 : a.tmps[18]?.getD undef = .agg #[.string ⟨#[49]⟩, .string ⟨#[52]⟩] := (ev_tmp a 18).symm.trans h2
   clear hd ho h0 h1 h2
   go_simp
   refine hK _ _ ⟨hS.alloc _, (Ext.refl W).alloc _, _, rfl, ⟨_, rfl⟩, sz3N (by rw [I_one1.1]; go_simp) (by rw [I_one1.2]; go_simp) (by rw [I_zeroR.1]; go_simp) (by rw [I_zeroR.2]; go_simp) (by rw [I_four4.1]; go_simp) (by rw [I_four4.2]; go_simp)⟩
  ·obtain rfl := Option.some.inj ho
   refine wpOp_step rfl (fun K hK => ?_)
   obtain ⟨⟨ba, hba⟩, hra⟩ := hd ⟨10, .data⟩ (by simp) rfl
   obtain ⟨⟨bb, hbb⟩, hrb⟩ := hd ⟨14, .data⟩ (by simp) rfl
   rw [hba] at hra
   rw [hbb] at hrb
   have t15 : a.tmps[15]?.getD undef = .slice (some ⟨ba, 0, none⟩) 3 3 := (ev_tmp a 15).symm.trans hba
   have t19 : a.tmps[19]?.getD undef = .slice (some ⟨bb, 0, none⟩) 3 3 := (ev_tmp a 19).symm.trans hbb
   clear hd ho hba hbb
   go_simp
   refine hK _ _ ⟨hS.alloc _, (Ext.refl W).alloc _, _, rfl, ⟨_, rfl⟩, gn2N (by go_simp) (by go_simp) (hra.ext ((Ext.refl W).alloc _)) (hrb.ext ((Ext.refl W).alloc _))⟩
  ·obtain rfl := Option.some.inj ho
   refine wpOp_step rfl (fun K hK => ?_)
   obtain ⟨ba, bb, bc, hb, hra, hrb, hrc⟩ := hd ⟨6, .data⟩ (by simp) rfl
   obtain ⟨⟨bd, hbd⟩, hrd⟩ := hd ⟨15, .data⟩ (by simp) rfl
   rw [hbd] at hrd
   have t11 : a.tmps[11]?.getD undef = .agg #[.slice (some ⟨ba, 0, none⟩) 3 3, .slice (some ⟨bb, 0, none⟩) 1 1, .slice (some ⟨bc, 0, none⟩) 2 2] := (ev_tmp a 11).symm.trans hb
   have t20 : a.tmps[20]?.getD undef = .slice (some ⟨bd, 0, none⟩) 2 2 := (ev_tmp a 20).symm.trans hbd
   clear hd ho hb hbd
   go_simp
   refine hK _ _ ⟨hS, Ext.refl W, _, rfl, _, _, _, _, rfl, hra, hrb, hrc, hrd⟩
 ·intro listed a W inv hall hS hF hGa
  obtain ⟨ba, bb, bc, bd, hv, hra, hrb, hrc, hrd⟩ := hGa 16 (by omega)
  have t0 : a.tmps[0]?.getD undef = .pointer (some ⟨b0, 0, none⟩) := by rw [hF.other 0 (fun j _ => by omega)]; rfl
  have t21 : a.tmps[21]?.getD undef = .agg #[.slice (some ⟨ba, 0, none⟩) 3 3, .slice (some ⟨bb, 0, none⟩) 1 1, .slice (some ⟨bc, 0, none⟩) 2 2, .slice (some ⟨bd, 0, none⟩) 2 2] := (ev_tmp a 21).symm.trans hv
  have hdf : a.defers = [] := hF.defers
  obtain ⟨tm, df⟩ := a
  simp only at t0 t21 hdf
  subst hdf
  have hH := HO.out.ext hS
  refine ⟨by rw [listed_eq inv hall]; kernel_rfl, ?_⟩
  clear hGa hF hall inv hv
  have hBW := eB.trans hS
  obtain ⟨Hr6, He6, Hg6⟩ := set4 hBW (by have := Hb0.out; omega) hH (.slice (some ⟨ba, 0, none⟩) 3 3) (.slice (some ⟨bb, 0, none⟩) 1 1) (.slice (some ⟨bc, 0, none⟩) 2 2) (.slice (some ⟨bd, 0, none⟩) 2 2)
  have r0 := Hr6.cell (j := 0) (by simp)
  have r1 := Hr6.cell (j := 1) (by simp)
  have r2 := Hr6.cell (j := 2) (by simp)
  have r3 := Hr6.cell (j := 3) (by simp)
  simp only [List.getElem_cons_zero, List.getElem_cons_succ] at r0 r1 r2 r3
  have f0 := hH.frozen 0
  have f1 := hH.frozen 1
  have f2 := hH.frozen 2
  have f3 := hH.frozen 3
  have m0 := hH.cell (j := 0) (by simp)
  have m1 := hH.cell (j := 1) (by simp)
  have m2 := hH.cell (j := 2) (by simp)
  have m3 := hH.cell (j := 3) (by simp)
  simp only [List.getElem_cons_zero, List.getElem_cons_succ] at m0 m1 m2 m3
  have Hres := Lib.hid (And.intro (mtT hra hrb hrc hrd hH Hg6) He6)
  clear hra hrb hrc hrd Hg6 He6 Hr6 hBW hH HO
  refine wpList_plain rfl (fun K hK => ?_)
  go_simp
  refine hK _ _ ?_
  clear hK K
  go_wp2_with fail
  refine bodyPost_ret (v := .agg #[.slice (some ⟨ba, 0, none⟩) 3 3, .slice (some ⟨bb, 0, none⟩) 1 1, .slice (some ⟨bc, 0, none⟩) 2 2, .slice (some ⟨bd, 0, none⟩) 2 2]) (by simp [results, Tryz.results79, go_sem, t0, r0, r1, r2, r3]) rfl ⟨_, rfl, Hres.out.1, Hres.out.2⟩
theorem szR_slc {w : World} {v : Value} {l : List Rat} (h : SzR w v l) : ∃ a c, v = .slice a l.length c := by
 obtain ⟨a, b, g0, c, e, _⟩ := h
 exact ⟨a, c, e⟩
abbrev tuZ : Value := .agg #[.slice none 0 0, .slice none 0 0, .slice none 0 0, .slice none 0 0]
end Go.Proofs.YtjnpakablgommaaGreatDoor
namespace Go.Proofs.YtjnpakablgommaaGreatDoor
def Fq (D B : Nat) (r : Rat) : Prop := ∃ m : Int, r * ((D : Int) : Rat) = (m : Rat) ∧ m.natAbs ≤ B
theorem Fq.add {D A B : Nat} {a b : Rat} (h : Fq D A a) (k : Fq D B b) : Fq D (A + B) (a + b) := by
 obtain ⟨m, h1, h2⟩ := h
 obtain ⟨n, k1, k2⟩ := k
 refine ⟨m + n, ?_, by omega⟩
 rw [Rat.intCast_add]; grind
theorem Fq.mul {D E A B : Nat} {a b : Rat} (h : Fq D A a) (k : Fq E B b) : Fq (D * E) (A * B) (a * b) := by
 obtain ⟨m, h1, h2⟩ := h
 obtain ⟨n, k1, k2⟩ := k
 refine ⟨m * n, ?_, ?_⟩
 ·rw [Int.natCast_mul, Rat.intCast_mul, Rat.intCast_mul]; grind
 ·rw [Int.natAbs_mul]; exact Nat.mul_le_mul h2 k2
theorem Fq.mono {D A B : Nat} {a : Rat} (h : Fq D A a) (hB : A ≤ B) : Fq D B a := by
 obtain ⟨m, h1, h2⟩ := h; exact ⟨m, h1, by omega⟩
theorem Fq.num {D B : Nat} {a : Rat} (h : Fq D B a) (hD : 0 < D) : a.num.natAbs ≤ B ∧ a.den ≤ D := by
 obtain ⟨m, h1, h2⟩ := h
 have hne : ((D : Int) : Rat) ≠ 0 := by exact_mod_cast (show (D : Int) ≠ 0 by omega)
 have e : a = Rat.divInt m (D : Int) := by
  rw [Rat.divInt_eq_div]; grind
 rw [e, Rat.num_divInt, Rat.den_divInt, if_neg (by omega)]
 constructor
 ·refine Nat.le_trans (Int.natAbs_ediv_le_natAbs _ _) ?_
  rw [Int.sign_eq_one_of_pos (by omega), Int.one_mul]
  exact h2
 ·exact Nat.div_le_self _ _
theorem Fq.sm {D B : Nat} {a : Rat} (h : Fq D B a) (hD : 0 < D) (hD2 : D < 10 ^ 30) (hB : B < 10 ^ 30) : nd a.num ≤ 30 ∧ nd a.den ≤ 30 := by
 obtain ⟨h1, h2⟩ := h.num hD
 exact ⟨nDigits_le (u := a.num.natAbs) (k := 30) (by omega) (by omega), nDigits_le (u := ((a.den : Int)).natAbs) (k := 30) (by omega) (by omega)⟩
end Go.Proofs.YtjnpakablgommaaGreatDoor
namespace Go.Proofs.YtjnpakablgommaaGreatDoor
open Go.RowKit Go.Sort
def strG (G : List (List Rat)) (k : Rat) (n : Nat) : List (List Rat) := G.map fun l => cmbQ [l] [k] n
@[simp] theorem strG_length (G : List (List Rat)) (k : Rat) (n : Nat) : (strG G k n).length = G.length := by simp [strG]
def shfG (G : List (List Rat)) (q : List Rat) (at' : Int) (n : Nat) : List (List Rat) := (List.range G.length).map fun i => cmbQ [G.getD i [], q] [1, if (i : Int) = at' then 1 else 0] n
@[simp] theorem shfG_length (G : List (List Rat)) (q : List Rat) (t : Int) (n : Nat) : (shfG G q t n).length = G.length := by simp [shfG]
theorem szc_slice {w : World} {v : Value} {L : List (List UInt8 × List UInt8)} (h : SzT w v L) : ∃ a c, v = .slice a L.length c := by
 obtain ⟨a, _, _, c, e, _⟩ := h
 exact ⟨a, c, e⟩
set_option maxHeartbeats 4000000 in
theorem eqQ_any {w : World} {va vb : Value} {la lb : List Rat} (ha : SzR w va la) (hb : SzR w vb lb) (hl : la.length ≤ 1000000) :
  Calls Tryz.prog 91 #[va, vb] w fun e w' => e = .returned (.bool (decide (la = lb))) ∧ Ext w w' := by
 obtain ⟨sa, ga, oa, ca, rfl, hca, haa, hra⟩ := ha
 obtain ⟨sb, gb, ob, cb, rfl, hcb, hbb, hrb⟩ := hb
 have Haa := Lib.hid haa
 have Hbb := Lib.hid hbb
 have Hra := Lib.hid hra
 have Hrb := Lib.hid hrb
 have Hno := Lib.hid (fun (h : la ≠ lb) => decide_eq_false h)
 have Hyes := Lib.hid (fun (hl : la.length = lb.length) (h : ∀ i (h : i < la.length) (h' : i < lb.length), la[i] = lb[i]) => decide_eq_true (show la = lb from List.ext_getElem hl h))
 obtain ⟨n, hn⟩ : ∃ n, n = la.length := ⟨_, rfl⟩
 obtain ⟨m, hm⟩ : ∃ m, m = lb.length := ⟨_, rfl⟩
 have Hn := Lib.hid hn
 have Hm := Lib.hid hm
 rw [← hn] at hl ⊢
 rw [← hm]
 generalize decide (la = lb) = q at *
 clear haa hbb hra hrb hn hm hca hcb
 by_cases hnm : n = m
 ·subst hnm
  go_enter Tryz.func91, Tryz.ntmps91
  go_wp2_with fail
  go_loopw [13] (fun iv wr => ∃ i : Nat, i ≤ n ∧ iv = .int .i64 i ∧ Hid (∀ t (h : t < la.length) (h' : t < lb.length), t < i → la[t] = lb[t]) ∧ Ext w wr) (fun iv _ => n - (intOf iv).toNat)
  case atStart => exact ⟨0, by omega, by go_num, Lib.hid (fun t _ _ h => by omega), Ext.refl _⟩
  case round =>
   obtain ⟨i, hi, rfl, HA, hE⟩ := hrel
   generalize wr = X at *
   by_cases hlt : i < n
   ·have hii : (i : Int) < (n : Int) := by omega
    have hia : i < la.length := by rw [← Hn.out]; exact hlt
    have hib : i < lb.length := by rw [← Hm.out]; exact hlt
    obtain rfl := Haa.out (by omega)
    obtain rfl := Hbb.out (by omega)
    obtain ⟨a0, a1⟩ := Hra.out i hia
    obtain ⟨b0, b1⟩ := Hrb.out i hib
    replace a0 := hE.cell a0
    replace a1 := hE.cell a1
    replace b0 := hE.cell b0
    replace b1 := hE.cell b1
    have Hq := Lib.hid (fun (h : la[i] ≠ lb[i]) => Hno.out (fun h2 => h (by simp only [h2])))
    have HA' := Lib.hid (fun (h : la[i] = lb[i]) t (ht : t < la.length) (ht' : t < lb.length) (hti : t < i + 1) => show la[t] = lb[t] by
     by_cases e : t = i
     ·subst e; exact h
     ·exact HA.out t ht ht' (by omega))
    obtain ⟨x, hx⟩ : ∃ x, x = la[i] := ⟨_, rfl⟩
    obtain ⟨y, hy⟩ : ∃ y, y = lb[i] := ⟨_, rfl⟩
    rw [← hx] at a0 a1 Hq HA'
    rw [← hy] at b0 b1 Hq HA'
    clear hx hy HA hlt hia hib
    have hqd : ∀ u v : Int, (Lib.itoa u == Lib.itoa v) = decide (u = v) := fun u v => by
     by_cases h : u = v
     ·subst h; simp
     ·rw [decide_eq_false h, beq_eq_false_iff_ne]; exact fun hc => h (itoa_inj hc)
    have k1 := hqd x.num y.num
    have k2 := hqd x.den y.den
    by_cases hxy : x = y
    ·subst hxy
     have HA := Lib.hid (HA'.out rfl)
     clear HA' Hq k1 k2 hqd
     go_wp2_with fail
     go_quiet (fail)
     have hE := hE.drewN nq
     go_wp2_with fail
     go_roundw
     case rel => exact ⟨i + 1, by omega, by go_num, HA, hE⟩
     case measure => simp [intOf] <;> omega
    ·have Hq0 := Lib.hid (Hq.out hxy)
     have hd : x.num ≠ y.num ∨ (x.num = y.num ∧ (x.den : Int) ≠ (y.den : Int)) := by
      by_cases h1 : x.num = y.num
      ·exact .inr ⟨h1, fun h2 => hxy (Rat.ext h1 (by omega))⟩
      ·exact .inl h1
     clear HA' Hq hxy hqd
     obtain ⟨la', hla⟩ : ∃ l, l = Lib.itoa x.num := ⟨_, rfl⟩
     obtain ⟨lb', hlb⟩ : ∃ l, l = Lib.itoa y.num := ⟨_, rfl⟩
     obtain ⟨da', hda⟩ : ∃ l, l = Lib.itoa x.den := ⟨_, rfl⟩
     obtain ⟨db', hdb⟩ : ∃ l, l = Lib.itoa y.den := ⟨_, rfl⟩
     unfold I S at a0 a1 b0 b1
     rw [← hla, ← hlb] at k1
     rw [← hda, ← hdb] at k2
     rw [← hla] at a0
     rw [← hda] at a1
     rw [← hlb] at b0
     rw [← hdb] at b1
     rcases hd with hd | ⟨hd, hd2⟩
     ·rw [decide_eq_false hd] at k1
      have k3 : (la' != lb') = true := by simp [bne, k1]
      clear hd k2 hla hlb hda hdb
      go_wp2_with fail
      go_quiet (fail)
      have hE := hE.drewN nq
      go_wp2_with fail
      go_ret
      exact ⟨ret_val (congrArg Value.bool Hq0.out.symm), hE⟩
     ·rw [decide_eq_false hd2] at k2
      have k3 : (da' != db') = true := by simp [bne, k2]
      rw [decide_eq_true hd] at k1
      obtain rfl : la' = lb' := by simpa using k1
      clear hd k1 hd2 hla hlb hda hdb
      go_wp2_with fail
      go_quiet (fail)
      have hE := hE.drewN nq
      go_wp2_with fail
      go_ret
      exact ⟨ret_val (congrArg Value.bool Hq0.out.symm), hE⟩
   ·obtain rfl : i = n := by omega
    have hii : ¬ (i : Int) < (i : Int) := by omega
    have Hq := Lib.hid (Hyes.out (by rw [← Hn.out, ← Hm.out]) (fun t h h' => HA.out t h h' (by rw [Hn.out]; exact h)))
    clear hlt HA
    go_wp2_with fail
    go_ret
    exact ⟨ret_val (congrArg Value.bool Hq.out.symm), hE⟩
 ·have h1 : ¬ ((n : Int) = (m : Int)) := by omega
  have h2 : ((n : Int) == (m : Int)) = false := beq_eq_false_iff_ne.2 h1
  have h3 : ((n : Int) != (m : Int)) = true := by simp [bne, h2]
  have Hq := Lib.hid (Hno.out (fun h => hnm (by rw [Hn.out, Hm.out, h])))
  clear hnm
  go_enter Tryz.func91, Tryz.ntmps91
  go_wp2_with fail
  go_ret
  exact ⟨ret_val (congrArg Value.bool Hq.out.symm), Ext.refl _⟩
theorem ix2_a (w : World) (v0 v1 v2 v3 v4 v5 v6 v7 : Value) : (Instr.index 157 (.agg #[v0, v1, v2, v3, v4, v5, v6, v7]) (.int .i64 0)).run Tryz.prog w = .ok (.agg #[v0, v1, v2, v3]) w := by
 simp [Instr.index, run_underlying Tryz.underlying157, asIntOf, go_sem]
def bldG (G G' : List (List Rat)) (k : Rat) (n : Nat) : List (List Rat) := (List.range G.length).map fun i => cmbQ [G.getD i [], G'.getD i []] [1 - k, k] n
@[simp] theorem bldG_length (G G' : List (List Rat)) (k : Rat) (n : Nat) : (bldG G G' k n).length = G.length := by simp [bldG]
end Go.Proofs.YtjnpakablgommaaGreatDoor
