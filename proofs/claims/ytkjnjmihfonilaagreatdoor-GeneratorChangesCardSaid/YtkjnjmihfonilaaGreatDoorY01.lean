/- Part 1, beside the shared parts, of the proof of the claim: contracts and plain laws; no condition. -/
import Derived.Test.YtkjnjmihfonilaaGreatDoorV01
import Derived.Test.YtkjnjmihfonilaaGreatDoorV02
import Derived.Test.YtkjnjmihfonilaaGreatDoorV03
import Derived.Test.YtkjnjmihfonilaaGreatDoorV04
import Derived.Test.YtkjnjmihfonilaaGreatDoorV05
import Derived.Test.YtkjnjmihfonilaaGreatDoorV06
import Derived.Test.YtkjnjmihfonilaaGreatDoorV07
import Derived.Test.YtkjnjmihfonilaaGreatDoorV08
import Derived.Test.YtkjnjmihfonilaaGreatDoorV09
import Derived.Test.YtkjnjmihfonilaaGreatDoorV10
import Derived.Test.YtkjnjmihfonilaaGreatDoorV11
import Derived.Test.YtkjnjmihfonilaaGreatDoorV12
import Derived.Test.YtkjnjmihfonilaaGreatDoorV13
import Derived.Test.YtkjnjmihfonilaaGreatDoorV14
import Derived.Test.YtkjnjmihfonilaaGreatDoorV15
import Derived.Test.YtkjnjmihfonilaaGreatDoorV16
import Derived.Test.YtkjnjmihfonilaaGreatDoorV17
import Derived.Test.YtkjnjmihfonilaaGreatDoorV18
import Derived.Test.YtkjnjmihfonilaaGreatDoorV19
import Derived.Test.YtkjnjmihfonilaaGreatDoorV20
import Derived.Test.YtkjnjmihfonilaaGreatDoorV21
import Derived.Test.YtkjnjmihfonilaaGreatDoorV22
import Derived.Test.YtkjnjmihfonilaaGreatDoorV23
import Derived.Test.YtkjnjmihfonilaaGreatDoorV24
import Derived.Test.YtkjnjmihfonilaaGreatDoorV25
import Derived.Test.YtkjnjmihfonilaaGreatDoorV26
import Derived.Test.YtkjnjmihfonilaaGreatDoorV27
import Derived.Test.YtkjnjmihfonilaaGreatDoorV28
import Derived.Test.YtkjnjmihfonilaaGreatDoorV29
import Derived.Test.YtkjnjmihfonilaaGreatDoorV30
import Derived.Lib.ItoaNum
import Derived.Deep.RegionHeld3
import Derived.Deep.AppendLies
namespace Go.Proofs.YtkjnjmihfonilaaGreatDoor
theorem itoa_inj {a b : Int} (h : Lib.itoa a = Lib.itoa b) : a = b := by
  by_cases ha : a < 0 <;> by_cases hb : b < 0
  · rw [itoa_neg ha, itoa_neg hb] at h; injection h with _ h; have := dec_inj h; omega
  · rw [itoa_neg ha, itoa_pos (by omega)] at h
    obtain ⟨c, t, e, hd, _⟩ := dec_head b.natAbs
    rw [e] at h; injection h with h _; subst h; exact absurd hd.1 (by decide)
  · rw [itoa_neg hb, itoa_pos (by omega)] at h
    obtain ⟨c, t, e, hd, _⟩ := dec_head a.natAbs
    rw [e] at h; injection h with h _; subst h; exact absurd hd.1 (by decide)
  · rw [itoa_pos (by omega), itoa_pos (by omega)] at h; have := dec_inj h; omega
end Go.Proofs.YtkjnjmihfonilaaGreatDoor
namespace Go.Proofs.YtkjnjmihfonilaaGreatDoor
def BestR (f : Nat → Int) (i : Nat) (b : Int) : Prop :=
  (b = -1 ∧ ∀ t, t < i → f t = 0) ∨ ∃ p : Nat, p < i ∧ b = (p : Int) ∧ f p ≠ 0 ∧ ∀ t, t < i → f t ≠ 0 → (f p).natAbs ≤ (f t).natAbs
theorem cntNZ_le (f : Nat → Int) : ∀ i, cntNZ f i ≤ i
  | 0 => Nat.le_refl _
  | i + 1 => by have := cntNZ_le f i; rw [cntNZ]; split <;> omega
theorem best_zero {f : Nat → Int} {i : Nat} {b : Int} (h : BestR f i b) (hz : f i = 0) : BestR f (i + 1) b := by
  rcases h with ⟨e, h⟩ | ⟨p, hp, e, hn, h⟩
  · refine .inl ⟨e, fun t ht => ?_⟩
    by_cases hti : t = i
    · subst hti; exact hz
    · exact h t (by omega)
  · refine .inr ⟨p, by omega, e, hn, fun t ht htn => ?_⟩
    by_cases hti : t = i
    · subst hti; exact absurd hz htn
    · exact h t (by omega) htn
theorem best_first {f : Nat → Int} {i : Nat} (h : ∀ t, t < i → f t = 0) (hz : f i ≠ 0) : BestR f (i + 1) (i : Int) := by
  refine .inr ⟨i, by omega, rfl, hz, fun t ht htn => ?_⟩
  by_cases hti : t = i
  · subst hti; exact Nat.le_refl _
  · exact absurd (h t (by omega)) htn
theorem best_less {f : Nat → Int} {i p : Nat} (h : ∀ t, t < i → f t ≠ 0 → (f p).natAbs ≤ (f t).natAbs) (hz : f i ≠ 0) (hlt : (f i).natAbs < (f p).natAbs) : BestR f (i + 1) (i : Int) := by
  refine .inr ⟨i, by omega, rfl, hz, fun t ht htn => ?_⟩
  by_cases hti : t = i
  · subst hti; exact Nat.le_refl _
  · have := h t (by omega) htn; omega
theorem best_keep {f : Nat → Int} {i p : Nat} (hp : p < i) (hpz : f p ≠ 0) (h : ∀ t, t < i → f t ≠ 0 → (f p).natAbs ≤ (f t).natAbs) (hlt : (f p).natAbs ≤ (f i).natAbs) : BestR f (i + 1) (p : Int) := by
  refine .inr ⟨p, by omega, rfl, hpz, fun t ht htn => ?_⟩
  by_cases hti : t = i
  · subst hti; exact hlt
  · exact h t (by omega) htn
end Go.Proofs.YtkjnjmihfonilaaGreatDoor
namespace Go.Proofs.YtkjnjmihfonilaaGreatDoor
open Hnf (V Span Ech Red)
theorem lines0_get {M : Mx} {i : Nat} (h : i < M.length) : (lines0 M)[i]'(by simpa using h) = (M[i], unitR M.length i) := by simp [lines0]
theorem lines0_dim {n : Nat} {M : Mx} (h : Rect n M) : Dim n M.length (lines0 M) := by
  intro l hl
  obtain ⟨i, hi, rfl⟩ := List.getElem_of_mem hl
  have hi' : i < M.length := by simpa using hi
  rw [lines0_get hi']
  exact ⟨h _ (List.getElem_mem hi'), by simp [unitR]⟩
theorem lines0_lat (M : Mx) : latL (lines0 M) = latM M := by
  refine List.ext_getElem (by simp [latL, latM]) fun i h1 h2 => ?_
  have hi : i < M.length := by simpa [latM] using h2
  simp only [latL, latM, List.getElem_map, lines0_get hi]
theorem form_of {n d : Nat} {ps : List Nat} {M : Mx} {ls : List Ln} (hM : Rect n M) (ho : Ops 0 (lines0 M) ls) (h : FormTo n d ps ls) : HnfOf n M (fRows d ls) := by
  have hd0 := lines0_dim hM
  have hd := hd0.ops ho
  have hl := ho.lat hd0
  rw [lines0_lat] at hl
  have hf := h.lat hd
  exact ⟨⟨ps, h.isH hd⟩, fun v hv => hl.1 v (hf.1 v hv), fun v hv => (hl.2 v hv).trans hf.2⟩
end Go.Proofs.YtkjnjmihfonilaaGreatDoor
namespace Go.Proofs.YtkjnjmihfonilaaGreatDoor
open Go.RowKit Go.Sort
theorem I_inj {a b : Int} (h : I a = I b) : a = b := by
  refine itoa_inj ?_
  unfold I S at h
  injection h with h
  have := congrArg (fun b : ByteArray => b.data.toList) h
  simpa using this
end Go.Proofs.YtkjnjmihfonilaaGreatDoor
namespace Go.Proofs.YtkjnjmihfonilaaGreatDoor
open Go.RowKit Go.Sort
theorem grown_set (w : World) (b i : Nat) (v : Value) : w.grownBy (w.setCell ⟨b, i, none⟩ v) (some b) :=
  ⟨rfl, rfl, rfl, by simp [World.setCell], fun k _ hk => Below.heap_setCell _ _ _ _ (fun e => hk (by simp [e]))⟩
theorem Lns.swap4 {B : Nat} {w : World} {g n m d p o gx cx gy cy gxp cxp gyp cyp : Nat} {ad : List Ad} {ls : List Ln} (h : Lns B w g ad ls) (hp0 : 0 < p) (hl : d + p < ls.length) (ho : 2 * d + p * 2 = o)
    (c1 : w.cell? ⟨g, 2 * d, none⟩ = some (slv gx n cx)) (c2 : w.cell? ⟨g, 2 * d + 1, none⟩ = some (slv gy m cy)) (c1p : w.cell? ⟨g, o, none⟩ = some (slv gxp n cxp)) (c2p : w.cell? ⟨g, o + 1, none⟩ = some (slv gyp m cyp)) :
    Lns B ((((w.setCell ⟨g, 2 * d, none⟩ (slv gxp n cxp)).setCell ⟨g, 2 * d + 1, none⟩ (slv gyp m cyp)).setCell ⟨g, o, none⟩ (slv gx n cx)).setCell ⟨g, o + 1, none⟩ (slv gy m cy)) g (swpA ad d (d + p)) (swp ls d (d + p))
      ∧ w.grownBy ((((w.setCell ⟨g, 2 * d, none⟩ (slv gxp n cxp)).setCell ⟨g, 2 * d + 1, none⟩ (slv gyp m cyp)).setCell ⟨g, o, none⟩ (slv gx n cx)).setCell ⟨g, o + 1, none⟩ (slv gy m cy)) (some g) := by
  have ne : ∀ {a b : Nat}, a ≠ b → (⟨g, a, none⟩ : Addr) ≠ ⟨g, b, none⟩ := fun h e => h (by injection e)
  obtain ⟨w1, e1⟩ : ∃ w1, w1 = w.setCell ⟨g, 2 * d, none⟩ (slv gxp n cxp) := ⟨_, rfl⟩
  obtain ⟨w2, e2⟩ : ∃ w2, w2 = w1.setCell ⟨g, 2 * d + 1, none⟩ (slv gyp m cyp) := ⟨_, rfl⟩
  obtain ⟨w3, e3⟩ : ∃ w3, w3 = w2.setCell ⟨g, o, none⟩ (slv gx n cx) := ⟨_, rfl⟩
  obtain ⟨w4, e4⟩ : ∃ w4, w4 = w3.setCell ⟨g, o + 1, none⟩ (slv gy m cy) := ⟨_, rfl⟩
  rw [← e1, ← e2, ← e3, ← e4]
  have hG : w.grownBy w4 (some g) := by
    rw [e4, e3, e2, e1]
    exact grown_trans (grown_trans (grown_trans (grown_set _ _ _ _) (grown_set _ _ _ _)) (grown_set _ _ _ _)) (grown_set _ _ _ _)
  have a1 : ∀ t, t ≠ 2 * d → w1.cell? ⟨g, t, none⟩ = w.cell? ⟨g, t, none⟩ := fun t ht => by rw [e1, World.cell?_setCell_other (h := ne (Ne.symm ht))]
  have a2 : ∀ t, t ≠ 2 * d + 1 → w2.cell? ⟨g, t, none⟩ = w1.cell? ⟨g, t, none⟩ := fun t ht => by rw [e2, World.cell?_setCell_other (h := ne (Ne.symm ht))]
  have a3 : ∀ t, t ≠ o → w3.cell? ⟨g, t, none⟩ = w2.cell? ⟨g, t, none⟩ := fun t ht => by rw [e3, World.cell?_setCell_other (h := ne (Ne.symm ht))]
  have a4 : ∀ t, t ≠ o + 1 → w4.cell? ⟨g, t, none⟩ = w3.cell? ⟨g, t, none⟩ := fun t ht => by rw [e4, World.cell?_setCell_other (h := ne (Ne.symm ht))]
  have b1 : w4.cell? ⟨g, 2 * d, none⟩ = some (slv gxp n cxp) := by
    rw [a4 _ (by omega), a3 _ (by omega), a2 _ (by omega), e1, World.cell?_setCell_same (h := c1)]
  have b2 : w4.cell? ⟨g, 2 * d + 1, none⟩ = some (slv gyp m cyp) := by
    rw [a4 _ (by omega), a3 _ (by omega), e2, World.cell?_setCell_same (h := by rw [a1 _ (by omega)]; exact c2)]
  have b3 : w4.cell? ⟨g, o, none⟩ = some (slv gx n cx) := by
    rw [a4 _ (by omega), e3, World.cell?_setCell_same (h := by rw [a2 _ (by omega), a1 _ (by omega)]; exact c1p)]
  have b4 : w4.cell? ⟨g, o + 1, none⟩ = some (slv gy m cy) := by
    rw [e4, World.cell?_setCell_same (h := by rw [a3 _ (by omega), a2 _ (by omega), a1 _ (by omega)]; exact c2p)]
  refine ⟨h.swapped (by omega) hl hG (fun t => by rw [e4, e3, e2, e1]; simpa using h.fz t) (fun t ht => ?_), hG⟩
  unfold sg
  by_cases h1 : t = d + p
  · subst h1
    rw [if_pos rfl, show 2 * (d + p) = o by omega, b3, b4, c1, c2]; exact ⟨rfl, rfl⟩
  · rw [if_neg h1]
    by_cases h2 : t = d
    · subst h2
      rw [if_pos rfl, show 2 * (t + p) = o by omega, b1, b2, c1p, c2p]; exact ⟨rfl, rfl⟩
    · rw [if_neg h2, a4 _ (by omega), a3 _ (by omega), a2 _ (by omega), a1 _ (by omega), a4 _ (by omega), a3 _ (by omega), a2 _ (by omega), a1 _ (by omega)]
      exact ⟨rfl, rfl⟩
theorem Lns.swap0 {B : Nat} {w : World} {g n m d gx cx gy cy : Nat} {ad : List Ad} {ls : List Ln} (h : Lns B w g ad ls) (hl : d < ls.length)
    (c1 : w.cell? ⟨g, 2 * d, none⟩ = some (slv gx n cx)) (c2 : w.cell? ⟨g, 2 * d + 1, none⟩ = some (slv gy m cy)) :
    Lns B ((((w.setCell ⟨g, 2 * d, none⟩ (slv gx n cx)).setCell ⟨g, 2 * d + 1, none⟩ (slv gy m cy)).setCell ⟨g, 2 * d, none⟩ (slv gx n cx)).setCell ⟨g, 2 * d + 1, none⟩ (slv gy m cy)) g (swpA ad d (d + 0)) (swp ls d (d + 0))
      ∧ w.grownBy ((((w.setCell ⟨g, 2 * d, none⟩ (slv gx n cx)).setCell ⟨g, 2 * d + 1, none⟩ (slv gy m cy)).setCell ⟨g, 2 * d, none⟩ (slv gx n cx)).setCell ⟨g, 2 * d + 1, none⟩ (slv gy m cy)) (some g) := by
  have ne : ∀ {a b : Nat}, a ≠ b → (⟨g, a, none⟩ : Addr) ≠ ⟨g, b, none⟩ := fun h e => h (by injection e)
  have hset : ∀ (w : World) (t : Nat) (v : Value), w.cell? ⟨g, t, none⟩ = some v → ∀ u, (w.setCell ⟨g, t, none⟩ v).cell? ⟨g, u, none⟩ = w.cell? ⟨g, u, none⟩ := fun w t v hv u => by
    by_cases e : u = t
    · subst e; rw [World.cell?_setCell_same (h := hv), hv]
    · rw [World.cell?_setCell_other (h := ne (Ne.symm e))]
  obtain ⟨w1, e1⟩ : ∃ w1, w1 = w.setCell ⟨g, 2 * d, none⟩ (slv gx n cx) := ⟨_, rfl⟩
  obtain ⟨w2, e2⟩ : ∃ w2, w2 = w1.setCell ⟨g, 2 * d + 1, none⟩ (slv gy m cy) := ⟨_, rfl⟩
  obtain ⟨w3, e3⟩ : ∃ w3, w3 = w2.setCell ⟨g, 2 * d, none⟩ (slv gx n cx) := ⟨_, rfl⟩
  obtain ⟨w4, e4⟩ : ∃ w4, w4 = w3.setCell ⟨g, 2 * d + 1, none⟩ (slv gy m cy) := ⟨_, rfl⟩
  rw [← e1, ← e2, ← e3, ← e4]
  have hG : w.grownBy w4 (some g) := by
    rw [e4, e3, e2, e1]
    exact grown_trans (grown_trans (grown_trans (grown_set _ _ _ _) (grown_set _ _ _ _)) (grown_set _ _ _ _)) (grown_set _ _ _ _)
  have a1 : ∀ t, w1.cell? ⟨g, t, none⟩ = w.cell? ⟨g, t, none⟩ := by rw [e1]; exact hset _ _ _ c1
  have a2 : ∀ t, w2.cell? ⟨g, t, none⟩ = w.cell? ⟨g, t, none⟩ := fun t => by rw [e2, hset _ _ _ (by rw [a1]; exact c2), a1]
  have a3 : ∀ t, w3.cell? ⟨g, t, none⟩ = w.cell? ⟨g, t, none⟩ := fun t => by rw [e3, hset _ _ _ (by rw [a2]; exact c1), a2]
  have a4 : ∀ t, w4.cell? ⟨g, t, none⟩ = w.cell? ⟨g, t, none⟩ := fun t => by rw [e4, hset _ _ _ (by rw [a3]; exact c2), a3]
  refine ⟨h.swapped hl (by omega) hG (fun t => by rw [e4, e3, e2, e1]; simpa using h.fz t) (fun t ht => ?_), hG⟩
  rw [a4, a4]
  have : sg d (d + 0) t = t := by unfold sg; split <;> (try split) <;> omega
  rw [this]; exact ⟨rfl, rfl⟩
end Go.Proofs.YtkjnjmihfonilaaGreatDoor
namespace Go.Proofs.YtkjnjmihfonilaaGreatDoor
open Go.RowKit Go.Sort
def hdrs (n m : Nat) (ad : List Ad) : List Value := ad.flatMap fun a => [xv n a.gx a.cx, slv a.gy m a.cy]
theorem hdrs_snoc (n m : Nat) (ad : List Ad) (a : Ad) : hdrs n m (ad ++ [a]) = hdrs n m ad ++ [xv n a.gx a.cx, slv a.gy m a.cy] := by simp [hdrs]
theorem hdrs_get (n m : Nat) : ∀ (ad : List Ad) (i : Nat) (h : i < ad.length), (hdrs n m ad)[2 * i]? = some (xv n ad[i].gx ad[i].cx) ∧ (hdrs n m ad)[2 * i + 1]? = some (slv ad[i].gy m ad[i].cy)
  | [], i, h => by simp at h
  | a :: ad, 0, h => by simp [hdrs]
  | a :: ad, i + 1, h => by
    have := hdrs_get n m ad i (by simpa using h)
    simp only [hdrs, List.flatMap_cons, List.getElem_cons_succ] at this ⊢
    rw [show 2 * (i + 1) = 2 * i + 2 by omega, show 2 * i + 2 + 1 = 2 * i + 1 + 2 by omega]
    simpa using this
end Go.Proofs.YtkjnjmihfonilaaGreatDoor
namespace Go.Proofs.YtkjnjmihfonilaaGreatDoor
open Go.RowKit Go.Sort
theorem w6_frozen {Y W5 w6 : World} {T : Nat} {o : Obj} {row : Option Nat} (hW5 : Ext Y.drew W5) (t2 : Y.frozen? ⟨T, 0, none⟩ = false) (t3 : T < Y.heap.size) (hg : (W5.alloc o).grownBy w6 row) (hne : some T ≠ row) : w6.frozen? ⟨T, 0, none⟩ = false := by
  have h5 : T < W5.heap.size := Nat.lt_of_lt_of_le t3 hW5.size
  rw [hg.frozen_far ⟨T, 0, none⟩ (by simp; omega) hne, ((Ext.refl W5).alloc o).frozen h5, hW5.frozen t3]
  exact t2
theorem lrow_step {X Y W5 w6 : World} {T gy cy gx cx j L cap2 gg : Nat} {z : Int} {r u : List Int} (hjl : j < r.length) (hz : z = r.getD j 0) (hyT : gy < T) (hXT : X.heap.size ≤ T)
    (t1 : Y.cell? ⟨T, 1, none⟩ = some (slv gy L cy)) (t3 : T < Y.heap.size)
    (hOx : Y.ownsRow X.heap.size 80 1 (xv j gx cx) j (ss (r.take j))) (hNe : 0 < j → gx ≠ T ∧ gx ≠ gy) (hOy : OwnV 80 X.heap.size Y gy cy (ss u)) (hE : Ext X Y) (hW5 : Ext Y.drew W5)
    (hTo : some T ≠ (xv j gx cx).ownBlock)
    (hown6 : w6.ownsRow X.heap.size 80 1 (slv gg (j + 1) cap2) (j + 1) (ss (r.take j) ++ [I z])) (hgrow6 : (W5.alloc (.cells #[I z] 80)).grownBy w6 (xv j gx cx).ownBlock)
    (hat6 : (xv j gx cx).ownBlock = some gg ∨ gg = W5.heap.size + 1) (t6 : w6.cell? ⟨T, 0, none⟩ = some (xv j gx cx)) (f6 : w6.frozen? ⟨T, 0, none⟩ = false) :
    (w6.setCell ⟨T, 0, none⟩ (slv gg (j + 1) cap2)).cell? ⟨T, 0, none⟩ = some (xv (j + 1) gg cap2) ∧ (w6.setCell ⟨T, 0, none⟩ (slv gg (j + 1) cap2)).cell? ⟨T, 1, none⟩ = some (slv gy L cy) ∧ (w6.setCell ⟨T, 0, none⟩ (slv gg (j + 1) cap2)).frozen? ⟨T, 0, none⟩ = false
      ∧ T < (w6.setCell ⟨T, 0, none⟩ (slv gg (j + 1) cap2)).heap.size
      ∧ Hid ((w6.setCell ⟨T, 0, none⟩ (slv gg (j + 1) cap2)).ownsRow X.heap.size 80 1 (xv (j + 1) gg cap2) (j + 1) (ss (r.take (j + 1)))) ∧ Hid (0 < j + 1 → gg ≠ T ∧ gg ≠ gy)
      ∧ Hid (OwnV 80 X.heap.size (w6.setCell ⟨T, 0, none⟩ (slv gg (j + 1) cap2)) gy cy (ss u)) ∧ Hid (Ext X (w6.setCell ⟨T, 0, none⟩ (slv gg (j + 1) cap2))) := by
  have h5 : Y.heap.size ≤ W5.heap.size := hW5.size
  have hE5 : Ext Y (W5.alloc (.cells #[I z] 80)) := (((Ext.refl Y).drew).trans hW5).alloc _
  have hgT : gg ≠ T := by
    rcases hat6 with h | h
    · rw [h] at hTo; exact fun e => hTo (by rw [e])
    · omega
  have hgy : gg ≠ gy := by
    rcases hat6 with h | h
    · rw [xv_own] at h
      split at h
      · cases h
      · injection h with h; subst h; exact (hNe (by omega)).2
    · omega
  have hrow : ∀ q, (xv j gx cx).ownBlock = some q → X.heap.size ≤ q := fun q hq => (World.ownsRow.lt hOx q hq).1
  have hE6 : Ext X w6 := Ext.mk' (Below.grown (hE.trans hE5) hgrow6 (hE.trans hE5).size hrow)
  have hyo : (xv j gx cx).ownBlock ≠ some gy := by
    rw [xv_own]
    split
    · simp
    · intro e; injection e with e; exact (hNe (by omega)).2 e
  have hOy6 : OwnV 80 X.heap.size w6 gy cy (ss u) := World.ownsRow.kept (hOy.ext hE5) hgrow6 (.inr (fun e => hyo e.symm))
  have t16 : w6.cell? ⟨T, 1, none⟩ = some (slv gy L cy) := hgrow6.cell (hE5.cell t1) hTo
  have hTs : T < w6.heap.size := Nat.lt_of_lt_of_le t3 (Nat.le_trans hE5.size hgrow6.size)
  refine ⟨?_, ?_, ?_, ?_, Lib.hid ?_, Lib.hid (fun _ => ⟨hgT, hgy⟩), Lib.hid ?_, Lib.hid ?_⟩
  · rw [World.cell?_setCell_same (h := t6), xv_pos (by omega)]
  · rw [World.cell?_setCell_other (h := by simp)]; exact t16
  · rw [World.frozen?_setCell]; exact f6
  · simpa using hTs
  · rw [xv_pos (by omega)]
    have e : ss (r.take (j + 1)) = ss (r.take j) ++ [I z] := by
      rw [List.take_succ_eq_append_getElem hjl, hz, getD_get hjl]; simp only [ss, List.map_append, List.map_cons, List.map_nil]
    rw [e]
    exact World.ownsRow.kept hown6 (grown_set w6 T 0 _) (.inr (by intro e; injection e with e; exact hgT e))
  · exact hOy6.other (grown_set w6 T 0 _) (by omega)
  · exact hE6.setCell hXT _
theorem line_one (n g c g' m c' : Nat) : ∀ u ∈ [xv n g c, slv g' m c'], u.oneCell' = true := by
  intro u hu
  simp only [List.mem_cons, List.not_mem_nil, or_false] at hu
  rcases hu with rfl | rfl
  · unfold xv; split <;> rfl
  · rfl
end Go.Proofs.YtkjnjmihfonilaaGreatDoor
namespace Go.Proofs.YtkjnjmihfonilaaGreatDoor
open Go.RowKit Go.Sort
open Hnf (V Span Ech Red)
def FrmPost (w : World) (F : Mx) (e : Ending) (w' : World) : Prop :=
  (if smallM F then ∃ v, e = .returned (.tuple #[v, .int .i64 0]) ∧ MatO w.heap.size w' v F else e = .returned (.tuple #[.slice none 0 0, .int .i64 4])) ∧ Ext w w'
theorem hnf_nil {M : Mx} (hM : Rect 0 M) : HnfOf 0 M [] := by
  refine ⟨⟨[], fun r hr => by (cases hr), rfl, fun i h => by simp at h, fun i k _ h => by simp at h, fun i h => by simp at h, fun i h => by simp at h, fun i k _ h => by simp at h⟩, fun v hv => by simp [latM] at hv, fun v hv => ?_⟩
  obtain ⟨r, hr, rfl⟩ := List.mem_map.1 hv
  have : r = [] := List.eq_nil_of_length_eq_zero (hM r hr)
  subst this
  have e : vr [] = fun _ => 0 := by funext j; simp [vr]
  rw [e]; exact .zero
theorem fRows_getD {d : Nat} {ls : List Ln} {i : Nat} (hi : i < d) (hd : d ≤ ls.length) : (fRows d ls).getD i [] = (ls.getD i default).1 := by
  rw [getD_get (show i < (fRows d ls).length by unfold fRows; simp; omega), fRows_get hi hd]
end Go.Proofs.YtkjnjmihfonilaaGreatDoor
namespace Go.Proofs.YtkjnjmihfonilaaGreatDoor
open Go.RowKit Go.Sort
theorem columns_any {w : World} {v : Value} {M : Mx} (hM : MatR w v M) :
    Calls Tryz.prog 57 #[v] w fun e w' => e = .returned (.int .i64 (ncols M)) ∧ Ext w w' := by
  obtain ⟨sa, gb, go, cap, vs, rfl, hcap, hvl, hS, hr⟩ := hM
  by_cases h0 : M.length = 0
  · have hn : ncols M = 0 := by
      have : M = [] := List.eq_nil_of_length_eq_zero h0
      rw [this]; rfl
    rw [h0, hn]
    clear hS hr hvl h0 hcap hn
    go_enter Tryz.func57, Tryz.ntmps57
    go_wp2_with fail
    go_ret
    exact ⟨rfl, Ext.refl _⟩
  · have hi0 : 0 < M.length := by omega
    obtain rfl := hS.addr (by rw [hvl]; omega)
    obtain ⟨s0, b0, o0, c0, hrow0, hrc0, hS0⟩ := MatR.row hS hvl hr hi0
    have hn : M[0].length = ncols M := by unfold ncols; rw [getD_get hi0]
    rw [hn, Nat.add_zero] at hrow0
    have hb : ((M.length : Int) == 0) = false := beq_eq_false_iff_ne.2 (by omega)
    have hb2 : ¬ (M.length : Int) = 0 := by omega
    clear hS hr hvl hn hS0 hrc0
    go_enter Tryz.func57, Tryz.ntmps57
    go_wp2_with fail
    go_ret
    exact ⟨rfl, Ext.refl _⟩
end Go.Proofs.YtkjnjmihfonilaaGreatDoor
namespace Go.Proofs.YtkjnjmihfonilaaGreatDoor
open Go.RowKit Go.Sort
theorem echelon_zero {v : Value} {ga : Option Addr} {L cp : Nat} {w : World} (hv : v = .slice ga L cp) : Calls Tryz.prog 59 #[v, .int .i64 0] w fun e w' => e = .returned (.int .i64 0) ∧ w' = w := by
  subst hv
  go_enter Tryz.func59, Tryz.ntmps59
  go_wp2_with fail
  go_loop [5, 14] (fun dn idx => idx = .int .i64 0 ∧ dn = .int .i64 0) (fun _ _ => 0)
  case atStart => exact ⟨rfl, rfl⟩
  case round =>
    obtain ⟨rfl, rfl⟩ := hrel
    go_wp2_with fail
    go_ret
    exact ⟨rfl, rfl⟩
theorem lines0_all {M : Mx} (h : ∀ r ∈ M, ∀ z ∈ r, -1000000000 ≤ z ∧ z ≤ 1000000000) : AllL 30 (lines0 M) := by
  intro i hi
  have hi' : i < M.length := by simpa using hi
  rw [getD_get hi, lines0_get hi']
  constructor
  · intro z hz
    have := h _ (List.getElem_mem hi') z hz
    show z.natAbs < 2 ^ 30
    have e : (2 : Nat) ^ 30 = 1073741824 := by decide
    rw [e]; omega
  · intro z hz
    show z.natAbs < 2 ^ 30
    have e : (2 : Nat) ^ 30 = 1073741824 := by decide
    rw [e]
    unfold unitR at hz
    rcases List.mem_or_eq_of_mem_set hz with hz | rfl
    · rw [List.mem_replicate] at hz; rw [hz.2]; decide
    · decide
end Go.Proofs.YtkjnjmihfonilaaGreatDoor
namespace Go.Proofs.YtkjnjmihfonilaaGreatDoor
open Go.RowKit Go.Sort
set_option maxRecDepth 100000 in
set_option maxHeartbeats 1000000 in
theorem hSmall_any {w : World} {ga : Option Addr} {gb go cap : Nat} {l : List Int} (hS : Sl w ga gb go (ss l)) (hl : l.length ≤ 1000000) (hb : ∀ z ∈ l, nd z ≤ LIM) (hL : Laid w) :
    Calls Tryz.prog 62 #[.slice ga l.length cap] w (SmlPost w l) := by
  obtain ⟨i0, hi, hz0, hz1, hz2⟩ := info_parts Tryz.infoInt
  have HS := Lib.hid hS
  have HB := Lib.hid hb
  have HL := Lib.hid hL
  clear hS hb hL
  go_enter Tryz.func62, Tryz.ntmps62
  go_wp2_with (at_make; refine wpList_make_own _ rfl _ _ 26 rfl w.heap.size 3 i0 (.int .i64 0) 1 Tryz.underlying26 hi hz0 hz1 .i64 .i64 _ l.length rfl rfl (by omega) (by rw [hz2]; omega) (by unfold maxLen; omega) (Nat.le_refl _) ?_; intro w1 hown1 hgrow1)
  have he1 := ext_grown hgrow1
  obtain ⟨g, hg⟩ : ∃ g, g = w.heap.size := ⟨_, rfl⟩
  have Hg := Lib.hid hg
  have Hown := Lib.hid hown1
  rw [← hg] at Hown ⊢
  clear hg hown1 hgrow1
  go_loopw [4, 14] (fun out idx wr => ∃ i : Nat, i ≤ l.length ∧ idx = .int .i64 i ∧ out = slv g i l.length ∧ Hid (wr.ownsRow g 3 1 (slv g i l.length) i (is (l.take i))) ∧ Hid (∀ j (h : j < l.length), j < i → grt l[j] = false) ∧ Ext w wr) (fun _ idx _ => l.length - (intOf idx).toNat)
  case atStart => exact ⟨0, by omega, by go_num, rfl, Hown, Lib.hid (fun j _ h => by omega), he1⟩
  case round =>
    obtain ⟨i, hi', rfl, rfl, HO, Hz, hE⟩ := hrel
    generalize wr = X at *
    by_cases hlt : i < l.length
    · have hii : (i : Int) < (l.length : Int) := by omega
      obtain ⟨z, hz⟩ : ∃ z, z = l[i] := ⟨_, rfl⟩
      have hc := hE.cell (HS.out.cell i (I z) (by rw [hz]; simp [ss, hlt]))
      obtain rfl := HS.out.addr (by simp; omega)
      have hsm := Lib.hid (wholeSmall_any (z := z) (w := X) (HB.out z (by rw [hz]; exact List.getElem_mem hlt)) (HL.out.ext hE))
      have Hzz := Lib.hid hz
      cases hgz : grt z
      · have hzb : -1000000000 ≤ z ∧ z ≤ 1000000000 := by
          unfold grt at hgz; have := of_decide_eq_false hgz; omega
        have hin : inI64 z = true := decide_eq_true (by omega)
        rw [hin, if_pos rfl] at hsm
        obtain ⟨hy1, hy2⟩ := hzb
        have Hgz := Lib.hid hgz
        have hgX := Nat.lt_of_lt_of_le (show g < X.heap.size from (World.ownsRow.lt HO.out g rfl).2) (Nat.le_refl _)
        clear hin hgz hz
        go_wp2_with (first
          | (go_at_call 50; refine hsm.out.mono ?_; rintro e W ⟨rfl, hW⟩; have hWg : g < W.heap.size := Nat.lt_of_lt_of_le hgX hW.size)
          | (at_builtin; refine wpList_append_fits _ rfl _ _ 26 rfl g 3 i0 1 Tryz.underlying26 hi hz1 g i l.length _ rfl (World.ownsRow.alloc (ownsRow_ext HO.out hW) _) ⟨W.heap.size, 0, none⟩ 1 1 [.int .i64 z] rfl rfl (cell_one_new _ _ _) (one_int _ _) (by omega) ?_; intro w2 hown2 hgrow2))
        have hE2 : Ext w w2 := Ext.mk' (Below.grown ((hE.trans hW).alloc _) hgrow2 (by have := hE.size; have := hW.size; simp; omega) (by intro q hq; injection hq with hq; have := Hg.out; omega))
        rw [Hzz.out, ← is_take_snoc hlt] at hown2
        clear hgrow2 hW
        go_roundw
        case rel => exact ⟨i + 1, by omega, by go_num, rfl, Lib.hid hown2, Lib.hid (fun j h hj => by
          by_cases e : j = i
          · subst e; rw [← Hzz.out]; exact Hgz.out
          · exact Hz.out j h (by omega)), hE2⟩
        case measure => simp [intOf] <;> omega
      · have Hno := Lib.hid (small_not hlt (by rw [← hz]; exact hgz))
        have hzb : 1000000000 < z ∨ z < -1000000000 := by
          unfold grt at hgz; exact of_decide_eq_true hgz
        clear hgz hz
        have hfin : ∀ W, Ext w W → SmlPost w l (.returned (.tuple #[.slice none 0 0, .int .i64 4])) W := fun W hW => by
          unfold SmlPost; rw [if_neg (by rw [Hno.out]; decide)]; exact ⟨rfl, hW⟩
        have Hfin := Lib.hid hfin
        clear hfin
        cases hin : inI64 z
        · rw [hin, if_neg (by decide)] at hsm
          clear hin hzb
          go_wp2_with (first
            | (go_at_call 50; refine hsm.out.mono ?_; rintro e W ⟨rfl, hW⟩))
          go_ret2
          exact Hfin.out _ (hE.trans hW)
        · rw [hin, if_pos rfl] at hsm
          clear hin
          rcases hzb with hzb | hzb
          · go_wp2_with (first
              | (go_at_call 50; refine hsm.out.mono ?_; rintro e W ⟨rfl, hW⟩))
            go_ret2
            exact Hfin.out _ (hE.trans hW)
          · have hzc : z ≤ 1000000000 := by omega
            go_wp2_with (first
              | (go_at_call 50; refine hsm.out.mono ?_; rintro e W ⟨rfl, hW⟩))
            go_ret2
            exact Hfin.out _ (hE.trans hW)
    · have hie : i = l.length := by omega
      subst hie
      go_wp2_with fail
      go_ret2
      have hs : smallB l = true := small_yes (fun j hj => Hz.out j hj hj)
      refine ⟨?_, hE⟩
      rw [if_pos hs]
      refine ⟨_, rfl, g, l.length, rfl, ?_⟩
      have := HO.out
      rw [List.take_length] at this
      have h2 : OwnV 3 g X g l.length (is l) := by unfold OwnV; rw [is_length]; exact this
      rw [← Hg.out]; exact h2
end Go.Proofs.YtkjnjmihfonilaaGreatDoor
namespace Go.Proofs.YtkjnjmihfonilaaGreatDoor
open Go.RowKit Go.Sort
section
variable {w : World} {ops : Array Oper} {rest : List Oper} {o : Oper} {a : Act} {Q : Exit → Act → World → Prop}
end
set_option maxRecDepth 100000 in
set_option maxHeartbeats 4000000 in
theorem same20_any {w : World} {sa sb : Option Addr} {na nb ca cb : Nat} {A B : Mx} (hA : MatR w (.slice sa na ca) A) (hB : MatR w (.slice sb nb cb) B) (hbig : A.length ≤ 1000000) (hrow : ∀ r ∈ A, r.length ≤ 1000000) :
    Calls Tryz.prog 17 #[.slice sa na ca, .slice sb nb cb] w fun e w' => e = .returned (.bool (decide (A = B))) ∧ Ext w w' := by
  obtain ⟨sa', ga, oa, ca', va, el, hlc, hvl, hSl, hrl⟩ := hA
  injection el with q4 q5 q6
  subst q4 q6 q5
  obtain ⟨sb', gb, ob, cb', vb, el, hlc2, hvl2, hSl2, hrl2⟩ := hB
  injection el with q4 q5 q6
  subst q4 q6 q5
  have HSa := Lib.hid hSl
  have HVa := Lib.hid hvl
  have HRa := Lib.hid hrl
  have HSb := Lib.hid hSl2
  have HVb := Lib.hid hvl2
  have HRb := Lib.hid hrl2
  have Hrw := Lib.hid hrow
  clear hSl hvl hrl hSl2 hvl2 hrl2 hrow hlc hlc2
  by_cases hl : A.length = B.length
  · have Hl := Lib.hid hl
    obtain ⟨n, hn⟩ : ∃ n, n = A.length := ⟨_, rfl⟩
    rw [← hl, ← hn]
    rw [← hn] at hbig
    have Hn := Lib.hid hn
    clear hl hn
    go_enter Tryz.func17, Tryz.ntmps17
    go_wp2_with fail
    go_loopw [4, 5] (fun rv iv wr => ∃ i : Nat, i ≤ n ∧ iv = .int .i64 i ∧ rv = .bool false ∧ Hid (∀ j, j < i → A.getD j [] = B.getD j []) ∧ Ext w wr) (fun _ iv _ => n - (intOf iv).toNat)
    case atStart => exact ⟨0, by omega, by go_num, rfl, Lib.hid (fun j h => by omega), Ext.refl _⟩
    case round =>
      obtain ⟨i, hi, rfl, rfl, HK, hE⟩ := hrel
      generalize wr = U at *
      by_cases hlt : i < n
      · have hii : (i : Int) < (n : Int) := by omega
        have hia : i < A.length := by rw [← Hn.out]; exact hlt
        have hib : i < B.length := by rw [← Hl.out]; exact hia
        obtain rfl := HSa.out.addr (by rw [HVa.out]; omega)
        obtain rfl := HSb.out.addr (by rw [HVb.out]; omega)
        obtain ⟨sr, br, or, cr, hrow, hrc, hSr⟩ := MatR.row HSa.out HVa.out HRa.out hia
        obtain ⟨sr2, br2, or2, cr2, hrow2, hrc2, hSr2⟩ := MatR.row HSb.out HVb.out HRb.out hib
        have hU1 := hE.cell hrow
        have hU2 := hE.cell hrow2
        have c1 := Lib.hid (fun W (hW : Ext U W) => Same_any ((⟨_, _, _, _, rfl, hrc, hSr.ext (hE.trans hW)⟩ : RowR W (.slice sr A[i].length cr) A[i])) ((⟨_, _, _, _, rfl, hrc2, hSr2.ext (hE.trans hW)⟩ : RowR W (.slice sr2 B[i].length cr2) B[i])) (Hrw.out _ (List.getElem_mem hia)))
        have Hga := Lib.hid (show A.getD i [] = A[i] from getD_get hia _)
        have Hgb := Lib.hid (show B.getD i [] = B[i] from getD_get hib _)
        have hxy : (A[i] = B[i] → Hid (∀ j, j < i + 1 → A.getD j [] = B.getD j [])) := fun h => Lib.hid (fun j hj => by
          by_cases e : j = i
          · subst e; rw [Hga.out, Hgb.out, h]
          · exact HK.out j (by omega))
        have hno : (¬ A[i] = B[i] → Hid (decide (A = B) = false)) := fun h => Lib.hid (decide_eq_false (fun e => h (by rw [← Hga.out, ← Hgb.out, e])))
        obtain ⟨q, hq⟩ : ∃ q, q = decide (A[i] = B[i]) := ⟨_, rfl⟩
        rw [← hq] at c1
        have Hq := Lib.hid hq
        generalize A[i].length = nr at *
        generalize B[i].length = nr2 at *
        clear hSr hSr2 hrc hrc2 hrow hrow2 hq
        go_wp2_with fail
        have dd : Ext U U.drew := (Ext.refl U).drew
        refine wp_region_held_tail (S := fun W => Ext U W) 9 (by kernel_rfl) (by simp) ?_
        intro inv
        generalize U.drew = U1 at *
        refine wpAnyLH_take (i := 0) (v := .slice (some ⟨ga, oa, none⟩) n ca) rfl (by kernel_rfl) (fun _ _ _ h => h) (.inl ⟨by rfl, fun W hW => by go_simp⟩) dd inv ?_
        intro inv
        go_simp
        refine wpAnyLH_take (i := 1) (v := .int .i64 i) rfl (by kernel_rfl) (fun _ _ _ h => h) (.inl ⟨by rfl, fun W hW => by go_simp⟩) dd inv ?_
        intro inv
        go_simp
        refine wpAnyLH_take (i := 2) (v := .pointer (some ⟨ga, oa + i, none⟩)) rfl (by kernel_rfl) (fun _ _ _ h => h) (.inl ⟨by rfl, fun W hW => by go_simp⟩) dd inv ?_
        intro inv
        go_simp
        refine wpAnyLH_take (i := 3) (v := .slice sr nr cr) rfl (by kernel_rfl) (fun _ _ _ h => h) (.inl ⟨by rfl, fun W hW => by have q0 := hW.cell hU1; go_simp⟩) dd inv ?_
        intro inv
        go_simp
        refine wpAnyLH_take (i := 4) (v := .slice (some ⟨gb, ob, none⟩) n cb) rfl (by kernel_rfl) (fun _ _ _ h => h) (.inl ⟨by rfl, fun W hW => by go_simp⟩) dd inv ?_
        intro inv
        go_simp
        refine wpAnyLH_take (i := 5) (v := .int .i64 i) rfl (by kernel_rfl) (fun _ _ _ h => h) (.inl ⟨by rfl, fun W hW => by go_simp⟩) dd inv ?_
        intro inv
        go_simp
        refine wpAnyLH_take (i := 6) (v := .pointer (some ⟨gb, ob + i, none⟩)) rfl (by kernel_rfl) (fun _ _ _ h => h) (.inl ⟨by rfl, fun W hW => by go_simp⟩) dd inv ?_
        intro inv
        go_simp
        refine wpAnyLH_take (i := 7) (v := .slice sr2 nr2 cr2) rfl (by kernel_rfl) (fun _ _ _ h => h) (.inl ⟨by rfl, fun W hW => by have q0 := hW.cell hU2; go_simp⟩) dd inv ?_
        intro inv
        go_simp
        refine wpAnyLH_oneI (i := 8) rfl (by kernel_rfl) inv (fun inv K0 hK0 => ?_)
        go_simp
        refine (c1.out _ dd).mono ?_
        rintro e U2 ⟨rfl, hG⟩
        have d2 := dd.trans hG
        refine hK0 _ _ d2 ?_
        clear hK0
        refine wpAnyLH_end (by kernel_rfl) ?_
        have eU := hE.trans d2
        clear inv c1 hG dd d2
        cases q
        · have Hd := hno (of_decide_eq_false Hq.out.symm)
          clear hxy hno
          go_wp2_with fail
          go_ret
          exact ⟨by rw [Hd.out]; rfl, eU⟩
        · have Hk := hxy (of_decide_eq_true Hq.out.symm)
          clear hxy hno
          go_wp2_with fail
          go_roundw
          case rel => exact ⟨i + 1, by omega, by go_num, rfl, Hk, eU⟩
          case measure => simp [intOf] <;> omega
      · have Hd := Lib.hid (show decide (A = B) = true from decide_eq_true (List.ext_getElem Hl.out (fun j h1 h2 => by
          have := HK.out j (by have := Hn.out; omega)
          rwa [getD_get h1, getD_get h2] at this)))
        go_wp2_with fail
        go_ret
        exact ⟨by rw [Hd.out]; rfl, hE⟩
  · have hne : decide (A = B) = false := decide_eq_false (fun e => hl (by rw [e]))
    rw [hne]
    have h1 : ¬ ((A.length : Int) = (B.length : Int)) := by omega
    have h2 : ((A.length : Int) == (B.length : Int)) = false := beq_eq_false_iff_ne.2 h1
    have h3 : ((A.length : Int) != (B.length : Int)) = true := by simp [bne, h2]
    clear hne HSa HVa HRa HSb HVb HRb Hrw
    generalize A.length = n at *
    generalize B.length = m at *
    go_enter Tryz.func17, Tryz.ntmps17
    go_wp2_with fail
    go_ret
    exact ⟨rfl, Ext.refl _⟩
end Go.Proofs.YtkjnjmihfonilaaGreatDoor
namespace Go.Proofs.YtkjnjmihfonilaaGreatDoor
open Hnf (V Span Ech Red)
theorem I_one : I 1 = .string ⟨#[49]⟩ := by unfold I S; rw [show (1 : Int) = ((1 : Nat) : Int) from rfl, itoa_nat, Lib.decDigits]; rfl
theorem isH_diag {n : Nat} {ps : List Nat} {G : Mx} (hI : IsH n ps G) (hl : G.length = n) : ∀ i, i < n → ps.getD i 0 = i := by
  have hge : ∀ i, i < n → i ≤ ps.getD i 0 := by
    intro i
    induction i with
    | zero => intro _; omega
    | succ i ih => intro hi; have := ih (by omega); have := hI.inc i (i + 1) (by omega) (by omega); omega
  have hle : ∀ d i, i + d + 1 = n → ps.getD i 0 + d + 1 ≤ n := by
    intro d
    induction d with
    | zero => intro i hi; have := hI.lt i (by omega); omega
    | succ d ih => intro i hi; have := ih (i + 1) (by omega); have := hI.inc i (i + 1) (by omega) (by omega); omega
  intro i hi
  have := hge i hi
  have := hle (n - i - 1) i (by omega)
  omega
end Go.Proofs.YtkjnjmihfonilaaGreatDoor
namespace Go.Proofs.YtkjnjmihfonilaaGreatDoor
open Go.RowKit Go.Sort
open Hnf (V Span)
theorem unit_span {r : Nat} {qs : List Nat} {F : Mx} (hF : IsH r qs F) (hl : F.length = r) (h2 : ∀ i, i < r → eM F i i = 1) {b : V} (hb : ∀ i, r ≤ i → b i = 0) : Span (latM F) b := by
  have hd := isH_diag hF hl
  refine span_cmb.2 ⟨b, ?_⟩
  funext j
  by_cases hj : j < r
  · unfold cmb
    rw [sumZ_one (k := j) (by omega) (fun k hk hkj => by
      have : eM F k j = 0 := by
        rcases Nat.lt_or_ge j k with h | h
        · exact hF.left k hk j (by rw [hd k (by omega)]; exact h)
        · have h3 := hF.red k j (by omega) (by omega)
          rw [hd j hj, h2 j hj] at h3
          omega
      rw [this]; simp), h2 j hj, Int.mul_one]
  · rw [hb j (by omega)]
    symm
    refine sumZ_zero fun k hk => ?_
    have : eM F k j = 0 := by
      unfold eM; rw [getD_get hk]
      exact vr_far (by rw [hF.rect _ (List.getElem_mem hk)]; omega)
    rw [this]; simp
def mulM (n : Nat) (B M : Mx) : Mx := B.map fun r => (List.range n).map fun c => sumZ (fun k => r.getD k 0 * eM M k c) r.length
@[simp] theorem mulM_length (n : Nat) (B M : Mx) : (mulM n B M).length = B.length := by simp [mulM]
theorem mulM_rect (n : Nat) (B M : Mx) : Rect n (mulM n B M) := fun r hr => by
  obtain ⟨b, _, rfl⟩ := List.mem_map.1 hr
  simp
theorem mulM_row {n : Nat} {M : Mx} {r : List Int} (hr : r.length = M.length) (hM : Rect n M) : vr ((List.range n).map fun c => sumZ (fun k => r.getD k 0 * eM M k c) r.length) = cmb M (vr r) := by
  funext c
  by_cases hc : c < n
  · have h1 : vr ((List.range n).map fun c => sumZ (fun k => r.getD k 0 * eM M k c) r.length) c = sumZ (fun k => r.getD k 0 * eM M k c) r.length := by
      show List.getD _ c 0 = _
      rw [getD_get (by simpa using hc)]
      simp
    rw [h1, hr]; rfl
  · rw [vr_far (by simpa using hc)]
    symm
    refine sumZ_zero fun k hk => ?_
    have : eM M k c = 0 := by
      unfold eM; rw [getD_get hk]
      exact vr_far (by rw [hM _ (List.getElem_mem hk)]; omega)
    rw [this]; simp
theorem chg_law {n : Nat} {ps : List Nat} {M B G : Mx} (hI : IsH n ps M) (hB : Rect M.length B) (hlB : B.length = M.length) (hG : HnfOf M.length B G) (hu : G.length = B.length ∧ ∀ i, i < B.length → eM G i i = 1) : HnfOf n (mulM n B M) M := by
  have hrow : ∀ r ∈ B, vr ((List.range n).map fun c => sumZ (fun k => r.getD k 0 * eM M k c) r.length) = cmb M (vr r) := fun r hr => mulM_row (hB r hr) hI.rect
  refine ⟨⟨ps, hI⟩, fun v hv => ?_, fun v hv => ?_⟩
  · obtain ⟨l, hl, rfl⟩ := List.mem_map.1 hv
    obtain ⟨k, hk, rfl⟩ := List.getElem_of_mem hl
    obtain ⟨⟨qs, hGI⟩, g1, g2⟩ := hG
    have hlin : ∀ u, Span (latM B) u → Span (latM (mulM n B M)) (cmb M u) := fun u hu => by
      induction hu with
      | zero =>
        have e : cmb M (fun _ => 0) = fun _ => 0 := by funext j; exact cmb_zero M j
        rw [e]; exact .zero
      | @step v r q _ hr ih =>
        obtain ⟨b, hb, rfl⟩ := List.mem_map.1 hr
        have e : cmb M (Hnf.sub v q (vr b)) = Hnf.sub (cmb M v) q (cmb M (vr b)) := by funext j; rw [cmb_sub]; rfl
        rw [e, ← hrow b hb]
        exact ih.step q (List.mem_map_of_mem (List.mem_map_of_mem hb))
    have h1 : Span (latM G) (uE k) := unit_span hGI (by rw [hu.1, hlB]) (fun i hi => hu.2 i (by omega)) (fun i hi => by unfold uE; rw [if_neg (by omega)])
    have h2 := hlin _ (h1.trans g1)
    refine span_of_eq h2 fun j => ?_
    unfold cmb
    rw [sumZ_one (k := k) hk (fun i hi hik => by unfold uE; rw [if_neg hik]; simp)]
    unfold uE eM
    rw [if_pos rfl, getD_get hk]
    simp [vr]
  · obtain ⟨l, hl, rfl⟩ := List.mem_map.1 hv
    obtain ⟨b, hb, rfl⟩ := List.mem_map.1 hl
    rw [hrow b hb]
    exact span_cmb.2 ⟨vr b, rfl⟩
end Go.Proofs.YtkjnjmihfonilaaGreatDoor
