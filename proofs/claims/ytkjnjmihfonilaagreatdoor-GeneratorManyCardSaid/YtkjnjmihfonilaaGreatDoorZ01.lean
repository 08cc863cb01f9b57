/- Part 1, beside the shared parts, of the proof of the claim: contracts and plain laws; no condition. -/
import Derived.Test.YtkjnjmihfonilaaGreatDoorV01
import Derived.Test.YtkjnjmihfonilaaGreatDoorV02
import Derived.Test.YtkjnjmihfonilaaGreatDoorV03
import Derived.Test.YtkjnjmihfonilaaGreatDoorV04
import Derived.Test.YtkjnjmihfonilaaGreatDoorV05
import Derived.Test.YtkjnjmihfonilaaGreatDoorV06
import Derived.Test.YtkjnjmihfonilaaGreatDoorV07
import Derived.Test.YtkjnjmihfonilaaGreatDoorV08
import Derived.Test.YtkjnjmihfonilaaGreatDoorV09
import Derived.Test.YtkjnjmihfonilaaGreatDoorV10
import Derived.Test.YtkjnjmihfonilaaGreatDoorV11
import Derived.Test.YtkjnjmihfonilaaGreatDoorV12
import Derived.Test.YtkjnjmihfonilaaGreatDoorV13
import Derived.Test.YtkjnjmihfonilaaGreatDoorV14
import Derived.Test.YtkjnjmihfonilaaGreatDoorV15
import Derived.Test.YtkjnjmihfonilaaGreatDoorV16
import Derived.Test.YtkjnjmihfonilaaGreatDoorV17
import Derived.Test.YtkjnjmihfonilaaGreatDoorV18
import Derived.Test.YtkjnjmihfonilaaGreatDoorV19
import Derived.Test.YtkjnjmihfonilaaGreatDoorV20
import Derived.Test.YtkjnjmihfonilaaGreatDoorV21
import Derived.Test.YtkjnjmihfonilaaGreatDoorV22
import Derived.Test.YtkjnjmihfonilaaGreatDoorV23
import Derived.Test.YtkjnjmihfonilaaGreatDoorV24
import Derived.Test.YtkjnjmihfonilaaGreatDoorV25
import Derived.Test.YtkjnjmihfonilaaGreatDoorV26
import Derived.Test.YtkjnjmihfonilaaGreatDoorV27
import Derived.Test.YtkjnjmihfonilaaGreatDoorV28
import Derived.Test.YtkjnjmihfonilaaGreatDoorV29
import Derived.Test.YtkjnjmihfonilaaGreatDoorV30
import Derived.RangeFuncBox
import Derived.RangeFuncNested
import Derived.RangeFuncLeaves
import Derived.Shelf.Abstract
import Derived.OwnWalkIn
import Derived.TacticsInMore
import Derived.LoopNIn
import Derived.LoopIn
import Derived.Maps.AppendAt
namespace Go.Proofs.YtkjnjmihfonilaaGreatDoor
open Go.RowKit Go.Sort
theorem grown_set (w : World) (b i : Nat) (v : Value) : w.grownBy (w.setCell ⟨b, i, none⟩ v) (some b) :=
  ⟨rfl, rfl, rfl, by simp [World.setCell], fun k _ hk => Below.heap_setCell _ _ _ _ (fun e => hk (by simp [e]))⟩
end Go.Proofs.YtkjnjmihfonilaaGreatDoor
namespace Go.Proofs.YtkjnjmihfonilaaGreatDoor
open Go.RowKit Go.Sort
theorem GrX.keep {B : Nat} {w w' : World} {g cap : Nat} {F : Mx} {ad : List (Nat × Nat)} {R : Nat → Prop} (h : GrX B w (slv g F.length cap) F ad) (hC : Chg R w w') (hg : ¬ R g) (ha : ∀ i (h : i < ad.length) (h' : i < F.length), 0 < F[i].length → ¬ R ad[i].1) : GrX B w' (slv g F.length cap) F ad := by
  have hOut := hC.own hg h.outer
  refine ⟨h.len, ?_, fun j hj hj' hj0 => hC.own (ha j hj' hj hj0) (h.row j hj hj' hj0), h.dis⟩
  unfold OwnV at hOut
  rw [hdV_length _ _ h.len] at hOut
  exact hOut
section
variable {w : World} {ops : Array Oper} {rest : List Oper} {o : Oper} {a : Act} {Q : Exit → Act → World → Prop}
end
end Go.Proofs.YtkjnjmihfonilaaGreatDoor
namespace Go.Proofs.YtkjnjmihfonilaaGreatDoor
open Go.RowKit Go.Sort
theorem LrX.keep {B : Nat} {w w' : World} {g cap : Nat} {F : Mx} {ad : List (Nat × Nat)} {R : Nat → Prop} (h : LrX B w (slv g F.length cap) F ad) (hC : Chg R w w') (hg : ¬ R g) (ha : ∀ i (h : i < ad.length) (h' : i < F.length), 0 < F[i].length → ¬ R ad[i].1) : LrX B w' (slv g F.length cap) F ad := by
  have hOut := hC.own hg h.outer
  refine ⟨h.len, ?_, fun j hj hj' hj0 => hC.own (ha j hj' hj hj0) (h.row j hj hj' hj0), h.dis⟩
  unfold OwnV at hOut
  rw [hdV_length _ _ h.len] at hOut
  exact hOut
section
variable {w : World} {ops : Array Oper} {rest : List Oper} {o : Oper} {a : Act} {Q : Exit → Act → World → Prop}
end
end Go.Proofs.YtkjnjmihfonilaaGreatDoor
namespace Go.Proofs.YtkjnjmihfonilaaGreatDoor
open Go.RowKit Go.Sort
theorem unitM_rect (n : Nat) : Rect n (unitM n) := fun r hr => by
  obtain ⟨i, hi, rfl⟩ := List.getElem_of_mem hr
  rw [unitM_get]; simp [unitR]
end Go.Proofs.YtkjnjmihfonilaaGreatDoor
namespace Go.Proofs.YtkjnjmihfonilaaGreatDoor
open Go.RowKit Go.Sort
def gnB (r : Nat) (free : Int) (fl : Nat) : Bool := decide (r = 0 ∨ (free = 0 ∧ fl = 0))
set_option maxRecDepth 100000 in
set_option maxHeartbeats 4000000 in
theorem gGenerates_u {w : World} {P : List Int} {C M : Mx} {sp : Option Addr} {cp : Nat} {sc : Option Addr} {lc cc : Nat} {sm : Option Addr} {lm cm : Nat} {sl : Option Addr} {nl cl : Nat} {L : Mx} {free : Int} {fl : Nat} (h : TmV w P C M M sp cp sc lc cc sm lm cm) (hl : MatR w (.slice sl nl cl) L) (hL : Laid w)
    (hls0 : lsE P.length L = 0) (ha : allS M L = true) (hbig : L.length ≤ 1000000)
    (hq : 0 < M.length → ∀ W v, Ext w W → MatR W v (L.map (tmpL M)) → Calls Tryz.prog 54 #[v, .int .i64 M.length] W fun e w' => (∃ s c, e = .returned (.tuple #[.slice s fl c, .int .i64 free, .int .i64 0])) ∧ Ext W w') :
    Calls Tryz.prog 26 #[tmS P sp cp sc lc cc sm lm cm, .slice sl nl cl] w fun e w' => e = .returned (.tuple #[.bool (gnB M.length free fl), .int .i64 0]) ∧ Ext w w' := by
  have hml : lm = M.length := by obtain ⟨_, _, _, _, _, e, _⟩ := h.hM; injection e
  subst hml
  have htm := Lib.hid (fun W (hW : Ext w W) => gtempered_any (h.ext hW) (hl.ext hW) (hL.ext hW) hbig)
  have Hq := Lib.hid hq
  have Ha := Lib.hid ha
  have Hl0 := Lib.hid hls0
  have hX := (Ext.refl w).alloc (.cells #[.slice sp P.length cp, .slice sc lc cc, .slice sm M.length cm] 34)
  have x0 : (w.alloc (.cells #[.slice sp P.length cp, .slice sc lc cc, .slice sm M.length cm] 34)).cell? ⟨w.heap.size, 0, none⟩ = some (.slice sp P.length cp) := by go_simp
  have x1 : (w.alloc (.cells #[.slice sp P.length cp, .slice sc lc cc, .slice sm M.length cm] 34)).cell? ⟨w.heap.size, 1, none⟩ = some (.slice sc lc cc) := by go_simp
  have x2 : (w.alloc (.cells #[.slice sp P.length cp, .slice sc lc cc, .slice sm M.length cm] 34)).cell? ⟨w.heap.size, 2, none⟩ = some (.slice sm M.length cm) := by go_simp
  clear h hl hL hls0 ha hq
  go_enter Tryz.func26, Tryz.ntmps26
  go_wp2_with fail
  refine (htm.out _ hX).mono ?_
  rintro e X ⟨hE1, (⟨k1, _⟩ | ⟨_, k1, _⟩ | ⟨_, _, v, rfl, hv⟩)⟩
  · exact absurd Hl0.out k1
  · rw [Ha.out] at k1; cases k1
  · have y2 := hE1.cell x2
    have e1 := hX.trans hE1
    have Hq1 := Lib.hid (fun h0 => Hq.out h0 X v e1 hv.mat)
    obtain ⟨va, vl, vc, rfl⟩ := hv.slice
    clear Hq hv htm hE1 x0 x1 x2 hX
    by_cases h0 : M.length = 0
    · have Hb := Lib.hid (show gnB M.length free fl = true by unfold gnB; exact decide_eq_true (.inl h0))
      rw [h0] at y2
      clear h0 Hq1
      go_wp2_with fail
      go_ret2
      exact ⟨by rw [Hb.out]; rfl, e1⟩
    · have h0I : ¬ (M.length : Int) = 0 := by omega
      have h0b : ((M.length : Int) == 0) = false := beq_eq_false_iff_ne.2 h0I
      have hq2 := Lib.hid (Hq1.out (by omega))
      have Hg := Lib.hid (show gnB M.length free fl = (decide (free = 0) && decide (fl = 0)) by simp [gnB, h0])
      clear h0 Hq1
      by_cases hf : free = 0
      · subst hf
        by_cases hl0 : fl = 0
        · subst hl0
          go_wp2_with fail
          refine hq2.out.mono ?_
          rintro e X2 ⟨⟨s, c, rfl⟩, hE2⟩
          have e2 := e1.trans hE2
          go_wp2_with fail
          go_ret2
          exact ⟨by rw [Hg.out]; rfl, e2⟩
        · have hlI : ¬ (fl : Int) = 0 := by omega
          have hlb : ((fl : Int) == 0) = false := beq_eq_false_iff_ne.2 hlI
          have Hd := Lib.hid (decide_eq_false hl0)
          clear hl0
          go_wp2_with fail
          refine hq2.out.mono ?_
          rintro e X2 ⟨⟨s, c, rfl⟩, hE2⟩
          have e2 := e1.trans hE2
          go_wp2_with fail
          go_ret2
          exact ⟨by rw [Hg.out, Hd.out]; rfl, e2⟩
      · have hfb : (free == 0) = false := beq_eq_false_iff_ne.2 hf
        have Hd := Lib.hid (decide_eq_false hf)
        go_wp2_with fail
        refine hq2.out.mono ?_
        rintro e X2 ⟨⟨s, c, rfl⟩, hE2⟩
        have e2 := e1.trans hE2
        go_wp2_with fail
        go_ret2
        exact ⟨by rw [Hg.out, Hd.out]; rfl, e2⟩
set_option maxRecDepth 100000 in
set_option maxHeartbeats 4000000 in
theorem gGenerates_bad {w : World} {P : List Int} {C M : Mx} {sp : Option Addr} {cp : Nat} {sc : Option Addr} {lc cc : Nat} {sm : Option Addr} {lm cm : Nat} {sl : Option Addr} {nl cl : Nat} {L : Mx} (h : TmV w P C M M sp cp sc lc cc sm lm cm) (hl : MatR w (.slice sl nl cl) L) (hL : Laid w) (hls : lsE P.length L ≠ 0) (hbig : L.length ≤ 1000000) :
    Calls Tryz.prog 26 #[tmS P sp cp sc lc cc sm lm cm, .slice sl nl cl] w fun e w' => e = .returned (.tuple #[.bool false, .int .i64 (lsE P.length L)]) ∧ Ext w w' := by
  have htm := Lib.hid (fun W (hW : Ext w W) => gtempered_any (h.ext hW) (hl.ext hW) (hL.ext hW) hbig)
  have hX := (Ext.refl w).alloc (.cells #[.slice sp P.length cp, .slice sc lc cc, .slice sm lm cm] 34)
  have x0 : (w.alloc (.cells #[.slice sp P.length cp, .slice sc lc cc, .slice sm lm cm] 34)).cell? ⟨w.heap.size, 0, none⟩ = some (.slice sp P.length cp) := by go_simp
  have x1 : (w.alloc (.cells #[.slice sp P.length cp, .slice sc lc cc, .slice sm lm cm] 34)).cell? ⟨w.heap.size, 1, none⟩ = some (.slice sc lc cc) := by go_simp
  have x2 : (w.alloc (.cells #[.slice sp P.length cp, .slice sc lc cc, .slice sm lm cm] 34)).cell? ⟨w.heap.size, 2, none⟩ = some (.slice sm lm cm) := by go_simp
  have Hls := Lib.hid hls
  obtain ⟨z, hz⟩ : ∃ z, z = lsE P.length L := ⟨_, rfl⟩
  rw [← hz] at hls ⊢
  have h2 : (z == 0) = false := beq_eq_false_iff_ne.2 hls
  have h3 : (z != 0) = true := by simp [bne, h2]
  have Hz := Lib.hid hz
  clear h hl hL hz
  go_enter Tryz.func26, Tryz.ntmps26
  go_wp2_with fail
  refine (htm.out _ hX).mono ?_
  rintro e X ⟨hE1, (⟨_, rfl⟩ | ⟨k1, _⟩ | ⟨k1, _⟩)⟩
  · rw [← Hz.out]
    have e1 := hX.trans hE1
    go_wp2_with fail
    go_ret2
    exact ⟨rfl, e1⟩
  · exact absurd k1 Hls.out
  · exact absurd k1 Hls.out
end Go.Proofs.YtkjnjmihfonilaaGreatDoor
namespace Go.Proofs.YtkjnjmihfonilaaGreatDoor
open Go.RowKit Go.Sort Go.Shelf
attribute [local go_sem] Oper.semAt_some
def PrR (B : Nat) (M : Mx) (k : Nat) (x : Int × Nat × Nat) (W : World) : Prop := x.1 = pvI (M.getD k []) ∧ OwnV 80 B W x.2.1 x.2.2 (ss (M.getD k []))
theorem PrR.put {B k : Nat} {M : Mx} {x : Int × Nat × Nat} {W : World} {l : Nat} {o : Obj} (o' : Obj) (hl : W.heap[l]? = some o) (ho : o.isCells = false) (h : PrR B M k x W) : PrR B M k x (W.putObj l o') :=
  ⟨h.1, ownsRow_putObj h.2 o' hl ho⟩
end Go.Proofs.YtkjnjmihfonilaaGreatDoor
namespace Go.Proofs.YtkjnjmihfonilaaGreatDoor
open Go.RowKit Go.Sort Go.Shelf
attribute [local go_sem] Oper.semAt_some
theorem boxed_ext {W W' : World} {B : Nat} {t : TypeId} {v : Value} (h : Boxed W B t v) (he : Ext W W') : Boxed W' B t v := (he.block B h.lt).trans h
def RdI (w : World) (B4 br bm gr cr n : Nat) (M : Mx) (x : List Int) (pre : List (Int × Nat × Nat)) (W : World) : Prop :=
  (∃ v, Boxed W br 138 v ∧ W.ownsRow w.heap.size 80 1 v n (ss (redX (M.take pre.length) x)) ∧ v = slv gr n cr) ∧
  (∃ v, Boxed W bm 138 v ∧ W.ownsRow B4 80 1 v pre.length (ss (redQ (M.take pre.length) x)) ∧ True) ∧ Below w.heap.size w W ∧ B4 ≤ W.heap.size
theorem RdI.own {w : World} {B4 br bm gr cr n D : Nat} {M : Mx} {x : List Int} (hD : w.heap.size ≤ D) : OwnFrom D (RdI w B4 br bm gr cr n M x) :=
  OwnFrom.and (Own.from (holdsRow_own w.heap.size br 138 80 1 (fun (_ : List (Int × Nat × Nat)) => n) (fun (pre : List (Int × Nat × Nat)) => ss (redX (M.take pre.length) x)) (fun _ v => v = slv gr n cr)) _)
    (OwnFrom.and (Own.from (holdsRow_own B4 bm 138 80 1 (fun (pre : List (Int × Nat × Nat)) => pre.length) (fun (pre : List (Int × Nat × Nat)) => ss (redQ (M.take pre.length) x)) (fun _ _ => True)) _) (OwnFrom.and (ownFrom_below (Nat.le_refl _) hD) (fun _ _ _ _ hs hg _ => Nat.le_trans hs hg.size)))
theorem RdI.ext {w A B : World} {B4 br bm gr cr n : Nat} {M : Mx} {x : List Int} {pre : List (Int × Nat × Nat)} (h : RdI w B4 br bm gr cr n M x pre A) (he : Ext A B) : RdI w B4 br bm gr cr n M x pre B := by
  obtain ⟨⟨v, h1, h2, h3⟩, ⟨u, k1, k2, _⟩, hb, hz⟩ := h
  exact ⟨⟨v, boxed_ext h1 he, ownsRow_ext h2 he, h3⟩, ⟨u, boxed_ext k1 he, ownsRow_ext k2 he, trivial⟩, Below.trans hb (Below.mono he hb.size), Nat.le_trans hz he.size⟩
end Go.Proofs.YtkjnjmihfonilaaGreatDoor
namespace Go.Proofs.YtkjnjmihfonilaaGreatDoor
open Go.RowKit Go.Sort
open Hnf (V Span)
def unitL (r i : Nat) : List Int := (List.replicate r 0).set i 1
@[simp] theorem unitL_length (r i : Nat) : (unitL r i).length = r := by simp [unitL]
end Go.Proofs.YtkjnjmihfonilaaGreatDoor
namespace Go.Proofs.YtkjnjmihfonilaaGreatDoor
open Go.RowKit Go.Sort
theorem small_chk {l : List Int} (h : smallB l = true) (hl : l.length ≤ 64) : chkRow l = 0 := by
  unfold chkRow
  rw [if_neg (by omega)]
  have : l.any grt = false := by
    cases hg : l.any grt
    · rfl
    · obtain ⟨z, hz, hzg⟩ := List.any_eq_true.1 hg
      have := smallB_iff.1 h z hz
      unfold grt at hzg
      have := of_decide_eq_true hzg
      omega
  rw [this]; rfl
end Go.Proofs.YtkjnjmihfonilaaGreatDoor
namespace Go.Proofs.YtkjnjmihfonilaaGreatDoor
open Go.RowKit Go.Sort
structure Wa where
  p : Nat
  ga : Nat
  ca : Nat
  gl : Nat
  cl : Nat
  gr : Nat
  cr : Nat
structure WkR (B : Nat) (w : World) (n c : Nat) (x : Wa) (aa al ar : List (Nat × Nat)) (s : Dg) : Prop where
  c0 : w.cell? ⟨x.p, 0, none⟩ = some (slv x.ga n x.ca)
  c1 : w.cell? ⟨x.p, 1, none⟩ = some (slv x.gl n x.cl)
  c2 : w.cell? ⟨x.p, 2, none⟩ = some (slv x.gr c x.cr)
  c3 : w.cell? ⟨x.p, 3, none⟩ = some (.int .i64 c)
  a : GrX B w (slv x.ga s.a.length x.ca) s.a aa
  l : GrX B w (slv x.gl s.l.length x.cl) s.l al
  r : GrX B w (slv x.gr s.r.length x.cr) s.r ar
  la : s.a.length = n
  ll : s.l.length = n
  lr : s.r.length = c
  ra : Rect c s.a
  rl : Rect n s.l
  rr : Rect c s.r
  pB : B ≤ x.p
  po : x.p ≠ x.ga ∧ x.p ≠ x.gl ∧ x.p ≠ x.gr
  pi : (∀ y ∈ aa, y.1 ≠ x.p) ∧ (∀ y ∈ al, y.1 ≠ x.p) ∧ ∀ y ∈ ar, y.1 ≠ x.p
  oo : x.ga ≠ x.gl ∧ x.ga ≠ x.gr ∧ x.gl ≠ x.gr
  ii : (∀ y ∈ aa, ∀ z ∈ al, y.1 ≠ z.1) ∧ (∀ y ∈ aa, ∀ z ∈ ar, y.1 ≠ z.1) ∧ ∀ y ∈ al, ∀ z ∈ ar, y.1 ≠ z.1
section
variable {B : Nat} {w w' : World} {n c : Nat} {x : Wa} {aa al ar : List (Nat × Nat)} {s : Dg}
theorem WkR.ext (h : WkR B w n c x aa al ar s) (he : Ext w w') : WkR B w' n c x aa al ar s :=
  ⟨he.cell h.c0, he.cell h.c1, he.cell h.c2, he.cell h.c3, h.a.ext he, h.l.ext he, h.r.ext he, h.la, h.ll, h.lr, h.ra, h.rl, h.rr, h.pB, h.po, h.pi, h.oo, h.ii⟩
theorem GrX.atM {g cap m i : Nat} {F : Mx} {ad : List (Nat × Nat)} (h : GrX B w (slv g F.length cap) F ad) (hR : Rect m F) (hm : 0 < m) (hi : i < F.length) :
    ∃ gx cx, ad[i]? = some (gx, cx) ∧ (gx, cx) ∈ ad ∧ w.cell? ⟨g, i, none⟩ = some (slv gx m cx) ∧ OwnV 80 B w gx cx (ss (F.getD i [])) ∧ (F.getD i []).length = m ∧ ∀ k, k < m → w.cell? ⟨gx, k, none⟩ = some (I (eM F i k)) := by
  obtain ⟨gx, cx, h1, h2, h3, h4, h5⟩ := h.at hR hm hi
  refine ⟨gx, cx, h1, List.mem_of_getElem? h1, h2, h3, h5, fun k hk => ?_⟩
  rw [h3.cell (j := k) (by rw [ss_length, h5]; exact hk)]
  exact congrArg some (ss_at (by rw [h5]; exact hk) _)
theorem GrX.neM {g cap m i t gi ci gt ct : Nat} {F : Mx} {ad : List (Nat × Nat)} (h : GrX B w (slv g F.length cap) F ad) (hR : Rect m F) (hm : 0 < m) (hi : i < F.length) (ht : t < F.length) (hne : i ≠ t) (hai : ad[i]? = some (gi, ci)) (hat : ad[t]? = some (gt, ct)) : gi ≠ gt := by
  obtain ⟨h1, e1⟩ := List.getElem?_eq_some_iff.1 hai
  obtain ⟨h2, e2⟩ := List.getElem?_eq_some_iff.1 hat
  have := h.dis i t h1 h2 hi ht (by rw [hR _ (List.getElem_mem hi)]; exact hm) (by rw [hR _ (List.getElem_mem ht)]; exact hm) hne
  rw [e1, e2] at this
  exact this
theorem rect_set {m i : Nat} {F : Mx} {r : List Int} (hR : Rect m F) (hr : r.length = m) : Rect m (F.set i r) := fun s hs => by
  rcases List.mem_or_eq_of_mem_set hs with hs | rfl
  · exact hR s hs
  · exact hr
theorem sw2_mem {α : Type} {l : List α} {d : α} {i j : Nat} (hi : i < l.length) (hj : j < l.length) {y : α} (h : y ∈ sw2 l d i j) : y ∈ l := by
  obtain ⟨t, ht, rfl⟩ := List.getElem_of_mem h
  rw [sw2_get l d hi hj ht]; exact List.getElem_mem _
theorem GrX.keepG {g cap : Nat} {F : Mx} {ad : List (Nat × Nat)} {q : Nat} (h : GrX B w (slv g F.length cap) F ad) (hG : w.grownBy w' (some q)) (hg : g ≠ q) (ha : ∀ y ∈ ad, y.1 ≠ q) : GrX B w' (slv g F.length cap) F ad :=
  h.keep (Chg.of_grown (R := fun k => k = q) hG rfl) hg (fun _ hi _ _ => ha _ (List.getElem_mem hi))
theorem WkR.setA {i gx cx : Nat} {u : List Int} (h : WkR B w n c x aa al ar s) (hc : 0 < c) (hi : i < n) (hai : aa[i]? = some (gx, cx)) (hu : u.length = c) (hO : OwnV 80 B w' gx cx (ss u)) (hG : w.grownBy w' (some gx)) : WkR B w' n c x aa al ar { s with a := s.a.set i u } := by
  have hm := List.mem_of_getElem? hai
  have hin : i < s.a.length := by rw [h.la]; exact hi
  obtain ⟨gx', cx', e1, _, _, o1, l1, _⟩ := h.a.atM h.ra hc hin
  rw [hai] at e1; injection e1 with e1; injection e1 with e1 e2; subst e1 e2
  have hC : Chg (fun k => k = gx) w w' := Chg.of_grown hG rfl
  have hp : x.p ≠ gx := Ne.symm (h.pi.1 _ hm)
  have h1 := h.a.wrote (r := u) hin hai (by rw [hu, l1]) (by omega) hO hC
  refine ⟨hC.cell hp h.c0, hC.cell hp h.c1, hC.cell hp h.c2, hC.cell hp h.c3, ?_, h.l.keepG hG (Ne.symm (ne_outer h.l.outer o1)) (fun y hy => Ne.symm (h.ii.1 _ hm y hy)), h.r.keepG hG (Ne.symm (ne_outer h.r.outer o1)) (fun y hy => Ne.symm (h.ii.2.1 _ hm y hy)), ?_, h.ll, h.lr, rect_set h.ra hu, h.rl, h.rr, h.pB, h.po, h.pi, h.oo, h.ii⟩
  · show GrX B w' (slv x.ga (s.a.set i u).length x.ca) _ _
    rw [List.length_set]; exact h1
  · show (s.a.set i u).length = n
    rw [List.length_set]; exact h.la
theorem WkR.setL {i gx cx : Nat} {u : List Int} (h : WkR B w n c x aa al ar s) (hi : i < n) (hai : al[i]? = some (gx, cx)) (hu : u.length = n) (hO : OwnV 80 B w' gx cx (ss u)) (hG : w.grownBy w' (some gx)) : WkR B w' n c x aa al ar { s with l := s.l.set i u } := by
  have hm := List.mem_of_getElem? hai
  have hin : i < s.l.length := by rw [h.ll]; exact hi
  obtain ⟨gx', cx', e1, _, _, o1, l1, _⟩ := h.l.atM h.rl (by omega) hin
  rw [hai] at e1; injection e1 with e1; injection e1 with e1 e2; subst e1 e2
  have hC : Chg (fun k => k = gx) w w' := Chg.of_grown hG rfl
  have hp : x.p ≠ gx := Ne.symm (h.pi.2.1 _ hm)
  have h1 := h.l.wrote (r := u) hin hai (by rw [hu, l1]) (by omega) hO hC
  refine ⟨hC.cell hp h.c0, hC.cell hp h.c1, hC.cell hp h.c2, hC.cell hp h.c3, h.a.keepG hG (Ne.symm (ne_outer h.a.outer o1)) (fun y hy => h.ii.1 y hy _ hm), ?_, h.r.keepG hG (Ne.symm (ne_outer h.r.outer o1)) (fun y hy => Ne.symm (h.ii.2.2 _ hm y hy)), h.la, ?_, h.lr, h.ra, rect_set h.rl hu, h.rr, h.pB, h.po, h.pi, h.oo, h.ii⟩
  · show GrX B w' (slv x.gl (s.l.set i u).length x.cl) _ _
    rw [List.length_set]; exact h1
  · show (s.l.set i u).length = n
    rw [List.length_set]; exact h.ll
theorem WkR.setR {i gx cx : Nat} {u : List Int} (h : WkR B w n c x aa al ar s) (hi : i < c) (hai : ar[i]? = some (gx, cx)) (hu : u.length = c) (hO : OwnV 80 B w' gx cx (ss u)) (hG : w.grownBy w' (some gx)) : WkR B w' n c x aa al ar { s with r := s.r.set i u } := by
  have hm := List.mem_of_getElem? hai
  have hin : i < s.r.length := by rw [h.lr]; exact hi
  obtain ⟨gx', cx', e1, _, _, o1, l1, _⟩ := h.r.atM h.rr (by omega) hin
  rw [hai] at e1; injection e1 with e1; injection e1 with e1 e2; subst e1 e2
  have hC : Chg (fun k => k = gx) w w' := Chg.of_grown hG rfl
  have hp : x.p ≠ gx := Ne.symm (h.pi.2.2 _ hm)
  have h1 := h.r.wrote (r := u) hin hai (by rw [hu, l1]) (by omega) hO hC
  refine ⟨hC.cell hp h.c0, hC.cell hp h.c1, hC.cell hp h.c2, hC.cell hp h.c3, h.a.keepG hG (Ne.symm (ne_outer h.a.outer o1)) (fun y hy => h.ii.2.1 y hy _ hm), h.l.keepG hG (Ne.symm (ne_outer h.l.outer o1)) (fun y hy => h.ii.2.2 y hy _ hm), ?_, h.la, h.ll, ?_, h.ra, h.rl, rect_set h.rr hu, h.pB, h.po, h.pi, h.oo, h.ii⟩
  · show GrX B w' (slv x.gr (s.r.set i u).length x.cr) _ _
    rw [List.length_set]; exact h1
  · show (s.r.set i u).length = c
    rw [List.length_set]; exact h.lr
theorem WkR.swapA {i j gi ci gj cj : Nat} (h : WkR B w n c x aa al ar s) (hc : 0 < c) (hi : i < n) (hj : j < n) (hai : aa[i]? = some (gi, ci)) (haj : aa[j]? = some (gj, cj)) :
    WkR B ((w.setCell ⟨x.ga, i, none⟩ (slv gj c cj)).setCell ⟨x.ga, j, none⟩ (slv gi c ci)) n c x (sw2 aa (0, 0) i j) al ar { s with a := sw2 s.a [] i j }
      ∧ w.grownBy ((w.setCell ⟨x.ga, i, none⟩ (slv gj c cj)).setCell ⟨x.ga, j, none⟩ (slv gi c ci)) (some x.ga) := by
  have hi' : i < s.a.length := by rw [h.la]; exact hi
  have hj' : j < s.a.length := by rw [h.la]; exact hj
  have hia : i < aa.length := by rw [h.a.len]; exact hi'
  have hja : j < aa.length := by rw [h.a.len]; exact hj'
  obtain ⟨h1, hG, h3⟩ := h.a.swapped h.ra hc hi' hj' hai haj
  have hC : Chg (fun k => k = x.ga) w _ := Chg.of_grown hG rfl
  have hp := h.po.1
  have ha : ∀ y ∈ sw2 aa (0, 0) i j, y ∈ aa := fun y hy => sw2_mem hia hja hy
  refine ⟨⟨hC.cell hp h.c0, hC.cell hp h.c1, hC.cell hp h.c2, hC.cell hp h.c3, ?_, h.l.keepG hG (Ne.symm h.oo.1) (fun y hy e => ?_), h.r.keepG hG (Ne.symm h.oo.2.1) (fun y hy e => ?_), ?_, h.ll, h.lr, h3, h.rl, h.rr, h.pB, h.po, ⟨fun y hy => h.pi.1 y (ha y hy), h.pi.2⟩, h.oo, ⟨fun y hy => h.ii.1 y (ha y hy), fun y hy => h.ii.2.1 y (ha y hy), h.ii.2.2⟩⟩, hG⟩
  · show GrX B _ (slv x.ga (sw2 s.a [] i j).length x.ca) _ _
    rw [sw2_length]; exact h1
  · obtain ⟨t, ht, rfl⟩ := List.getElem_of_mem hy
    have hts : t < s.l.length := by rw [← h.l.len]; exact ht
    have hO := h.l.row t hts ht (by rw [h.rl _ (List.getElem_mem hts)]; omega)
    exact ne_outer h.a.outer hO e
  · obtain ⟨t, ht, rfl⟩ := List.getElem_of_mem hy
    have hts : t < s.r.length := by rw [← h.r.len]; exact ht
    have hO := h.r.row t hts ht (by rw [h.rr _ (List.getElem_mem hts)]; omega)
    exact ne_outer h.a.outer hO e
  · show (sw2 s.a [] i j).length = n
    rw [sw2_length]; exact h.la
theorem WkR.swapL {i j gi ci gj cj : Nat} (h : WkR B w n c x aa al ar s) (hc : 0 < c) (hi : i < n) (hj : j < n) (hai : al[i]? = some (gi, ci)) (haj : al[j]? = some (gj, cj)) :
    WkR B ((w.setCell ⟨x.gl, i, none⟩ (slv gj n cj)).setCell ⟨x.gl, j, none⟩ (slv gi n ci)) n c x aa (sw2 al (0, 0) i j) ar { s with l := sw2 s.l [] i j }
      ∧ w.grownBy ((w.setCell ⟨x.gl, i, none⟩ (slv gj n cj)).setCell ⟨x.gl, j, none⟩ (slv gi n ci)) (some x.gl) := by
  have hi' : i < s.l.length := by rw [h.ll]; exact hi
  have hj' : j < s.l.length := by rw [h.ll]; exact hj
  have hia : i < al.length := by rw [h.l.len]; exact hi'
  have hja : j < al.length := by rw [h.l.len]; exact hj'
  obtain ⟨h1, hG, h3⟩ := h.l.swapped h.rl (by omega) hi' hj' hai haj
  have hC : Chg (fun k => k = x.gl) w _ := Chg.of_grown hG rfl
  have hp := h.po.2.1
  have ha : ∀ y ∈ sw2 al (0, 0) i j, y ∈ al := fun y hy => sw2_mem hia hja hy
  refine ⟨⟨hC.cell hp h.c0, hC.cell hp h.c1, hC.cell hp h.c2, hC.cell hp h.c3, h.a.keepG hG h.oo.1 (fun y hy e => ?_), ?_, h.r.keepG hG (Ne.symm h.oo.2.2) (fun y hy e => ?_), h.la, ?_, h.lr, h.ra, h3, h.rr, h.pB, h.po, ⟨h.pi.1, fun y hy => h.pi.2.1 y (ha y hy), h.pi.2.2⟩, h.oo, ⟨fun y hy z hz => h.ii.1 y hy z (ha z hz), h.ii.2.1, fun y hy => h.ii.2.2 y (ha y hy)⟩⟩, hG⟩
  · obtain ⟨t, ht, rfl⟩ := List.getElem_of_mem hy
    have hts : t < s.a.length := by rw [← h.a.len]; exact ht
    have hO := h.a.row t hts ht (by rw [h.ra _ (List.getElem_mem hts)]; omega)
    exact ne_outer h.l.outer hO e
  · show GrX B _ (slv x.gl (sw2 s.l [] i j).length x.cl) _ _
    rw [sw2_length]; exact h1
  · obtain ⟨t, ht, rfl⟩ := List.getElem_of_mem hy
    have hts : t < s.r.length := by rw [← h.r.len]; exact ht
    have hO := h.r.row t hts ht (by rw [h.rr _ (List.getElem_mem hts)]; omega)
    exact ne_outer h.l.outer hO e
  · show (sw2 s.l [] i j).length = n
    rw [sw2_length]; exact h.ll
end
theorem ix_a (w : World) (g n a h m b : Nat) : (Instr.index 254 (.agg #[slv g n a, slv h m b]) (.int .i64 0)).run Tryz.prog w = .ok (slv g n a) w := by
  simp [Instr.index, run_underlying Tryz.underlying254, asIntOf, go_sem]
theorem ix_b (w : World) (g n a h m b : Nat) : (Instr.index 254 (.agg #[slv g n a, slv h m b]) (.int .i64 1)).run Tryz.prog w = .ok (slv h m b) w := by
  simp [Instr.index, run_underlying Tryz.underlying254, asIntOf, go_sem]
def mapTo (f : List Int → List Int) (j : Nat) (A : Mx) : Mx := A.mapIdx fun t l => if t < j then f l else l
@[simp] theorem mapTo_length (f : List Int → List Int) (j : Nat) (A : Mx) : (mapTo f j A).length = A.length := by simp [mapTo]
theorem mapTo_get (f : List Int → List Int) (j : Nat) (A : Mx) {t : Nat} (h : t < A.length) : (mapTo f j A)[t]'(by simpa using h) = if t < j then f A[t] else A[t] := by simp [mapTo]
theorem mapTo_zero (f : List Int → List Int) (A : Mx) : mapTo f 0 A = A := List.ext_getElem (by simp) fun t h1 h2 => by rw [mapTo_get f 0 A h2, if_neg (by omega)]
theorem mapTo_all (f : List Int → List Int) (A : Mx) : mapTo f A.length A = A.map f := List.ext_getElem (by simp) fun t h1 h2 => by
  have ht : t < A.length := by simpa using h1
  rw [mapTo_get f _ A ht, if_pos ht, List.getElem_map]
theorem mapTo_at (f : List Int → List Int) {j : Nat} {A : Mx} (h : j < A.length) : (mapTo f j A).getD j [] = A.getD j [] := by
  rw [getD_get (by simpa using h), mapTo_get f j A h, if_neg (by omega), getD_get h]
theorem mapTo_step (f : List Int → List Int) {j : Nat} {A : Mx} (h : j < A.length) : mapTo f (j + 1) A = (mapTo f j A).set j (f (A.getD j [])) := by
  refine List.ext_getElem (by simp) fun t h1 h2 => ?_
  have ht : t < A.length := by simpa using h1
  rw [mapTo_get f _ A ht]
  by_cases e : j = t
  · subst e; rw [List.getElem_set_self, if_pos (by omega), getD_get h]
  · rw [List.getElem_set_ne e, mapTo_get f _ A ht]
    by_cases h3 : t < j
    · rw [if_pos h3, if_pos (by omega)]
    · rw [if_neg h3, if_neg (by omega)]
end Go.Proofs.YtkjnjmihfonilaaGreatDoor
namespace Go.Proofs.YtkjnjmihfonilaaGreatDoor
open Go.RowKit Go.Sort
def BM (E : Nat) (A : Mx) : Prop := ∀ r ∈ A, ∀ z ∈ r, z.natAbs < 2 ^ E
theorem BM.at {E : Nat} {A : Mx} (h : BM E A) (i : Nat) : ∀ z ∈ A.getD i [], z.natAbs < 2 ^ E := by
  intro z hz
  rcases Nat.lt_or_ge i A.length with hi | hi
  · rw [getD_get hi] at hz; exact h _ (List.getElem_mem hi) z hz
  · rw [List.getD_eq_getElem?_getD, List.getElem?_eq_none hi] at hz; cases hz
theorem BM.el {E : Nat} {A : Mx} (h : BM E A) (i k : Nat) : (eM A i k).natAbs < 2 ^ E := by
  unfold eM
  rcases Nat.lt_or_ge k (A.getD i []).length with hk | hk
  · rw [getD_get hk]; exact h.at i _ (List.getElem_mem hk)
  · rw [List.getD_eq_getElem?_getD, List.getElem?_eq_none hk]; exact Nat.pow_pos (by omega)
theorem BM.mono {E F : Nat} {A : Mx} (h : BM E A) (hf : E ≤ F) : BM F A := fun r hr z hz => Nat.lt_of_lt_of_le (h r hr z hz) (Nat.pow_le_pow_right (by omega) hf)
section
variable {w0 w : World} {n c E : Nat} {x : Wa} {aa al ar : List (Nat × Nat)} {s : Dg} {q : Int} {i t gx cx gt ct : Nat}
set_option maxRecDepth 100000 in
theorem takeA_w (h : WkR w0.heap.size w n c x aa al ar s) (hc : 0 < c) (hc2 : c ≤ 1000000) (hi : i < n) (ht : t < n) (hne : i ≠ t) (hai : aa[i]? = some (gx, cx)) (hat : aa[t]? = some (gt, ct))
    (hA : ∀ z ∈ s.a.getD i [], z.natAbs < 2 ^ E) (hB : ∀ z ∈ s.a.getD t [], z.natAbs < 2 ^ E) (hq : q.natAbs < 2 ^ E) (hE : 2 * E + 2 < LIM) (hL : Laid w0) (hE0 : Ext w0 w) :
    Calls Tryz.prog 152 #[slv gx c cx, slv gt c ct, I q] w fun e w' =>
      e = .returned (.tuple #[]) ∧ WkR w0.heap.size w' n c x aa al ar { s with a := rowSub i t q s.a } ∧ Ext w0 w' ∧ w.grownBy w' (some gx) := by
  have hi' : i < s.a.length := by rw [h.la]; exact hi
  have ht' : t < s.a.length := by rw [h.la]; exact ht
  obtain ⟨g1, c1, a1, _, _, o1, l1, _⟩ := h.a.atM h.ra hc hi'
  obtain ⟨g2, c2, a2, _, _, o2, l2, _⟩ := h.a.atM h.ra hc ht'
  have hdn := h.a.neM h.ra hc hi' ht' hne hai hat
  rw [hai] at a1; injection a1 with a1; injection a1 with e1 e2; subst e1 e2
  rw [hat] at a2; injection a2 with a2; injection a2 with e1 e2; subst e1 e2
  have hk := stake_any (w0 := w0) (w := w) (ga := gx) (ca := cx) (k := q) (cb := ct) o1 o2.sl (Ne.symm hdn) (by rw [l1, l2]) (by rw [l1]; exact hc2) (less_big hA hB hq hE) hL hE0
  rw [l1] at hk
  refine hk.mono ?_
  rintro e w' ⟨rfl, hO, hG⟩
  exact ⟨rfl, h.setA hc hi hai (by rw [subK_length]; exact l1) hO hG, ext_trans_grown hE0 hG o1.lt.1, hG⟩
set_option maxRecDepth 100000 in
theorem takeL_w (h : WkR w0.heap.size w n c x aa al ar s) (hn2 : n ≤ 1000000) (hi : i < n) (ht : t < n) (hne : i ≠ t) (hai : al[i]? = some (gx, cx)) (hat : al[t]? = some (gt, ct))
    (hA : ∀ z ∈ s.l.getD i [], z.natAbs < 2 ^ E) (hB : ∀ z ∈ s.l.getD t [], z.natAbs < 2 ^ E) (hq : q.natAbs < 2 ^ E) (hE : 2 * E + 2 < LIM) (hL : Laid w0) (hE0 : Ext w0 w) :
    Calls Tryz.prog 152 #[slv gx n cx, slv gt n ct, I q] w fun e w' =>
      e = .returned (.tuple #[]) ∧ WkR w0.heap.size w' n c x aa al ar { s with l := rowSub i t q s.l } ∧ Ext w0 w' ∧ w.grownBy w' (some gx) := by
  have hi' : i < s.l.length := by rw [h.ll]; exact hi
  have ht' : t < s.l.length := by rw [h.ll]; exact ht
  obtain ⟨g1, c1, a1, _, _, o1, l1, _⟩ := h.l.atM h.rl (by omega) hi'
  obtain ⟨g2, c2, a2, _, _, o2, l2, _⟩ := h.l.atM h.rl (by omega) ht'
  have hdn := h.l.neM h.rl (by omega) hi' ht' hne hai hat
  rw [hai] at a1; injection a1 with a1; injection a1 with e1 e2; subst e1 e2
  rw [hat] at a2; injection a2 with a2; injection a2 with e1 e2; subst e1 e2
  have hk := stake_any (w0 := w0) (w := w) (ga := gx) (ca := cx) (k := q) (cb := ct) o1 o2.sl (Ne.symm hdn) (by rw [l1, l2]) (by rw [l1]; exact hn2) (less_big hA hB hq hE) hL hE0
  rw [l1] at hk
  refine hk.mono ?_
  rintro e w' ⟨rfl, hO, hG⟩
  exact ⟨rfl, h.setL hi hai (by rw [subK_length]; exact l1) hO hG, ext_trans_grown hE0 hG o1.lt.1, hG⟩
set_option maxRecDepth 100000 in
theorem turnA_w (h : WkR w0.heap.size w n c x aa al ar s) (hc : 0 < c) (hc2 : c ≤ 1000000) (hi : i < n) (hai : aa[i]? = some (gx, cx)) (hA : ∀ z ∈ s.a.getD i [], z.natAbs < 2 ^ E) (hE : 2 * E + 2 < LIM) (hE0 : Ext w0 w) :
    Calls Tryz.prog 111 #[slv gx c cx] w fun e w' => e = .returned (.tuple #[]) ∧ WkR w0.heap.size w' n c x aa al ar { s with a := rowNeg i s.a } ∧ Ext w0 w' := by
  have hi' : i < s.a.length := by rw [h.la]; exact hi
  obtain ⟨g1, c1, a1, _, _, o1, l1, _⟩ := h.a.atM h.ra hc hi'
  rw [hai] at a1; injection a1 with a1; injection a1 with e1 e2; subst e1 e2
  refine (sturn_row (B := w0.heap.size) (w := w) o1 l1 hc2 (fun z hz => by have := nd_lt2 (hA z hz); omega)).mono ?_
  rintro e w' ⟨rfl, hO, hG⟩
  exact ⟨rfl, h.setA hc hi hai (by rw [List.length_map]; exact l1) hO hG, ext_trans_grown hE0 hG o1.lt.1⟩
set_option maxRecDepth 100000 in
theorem turnL_w (h : WkR w0.heap.size w n c x aa al ar s) (hn2 : n ≤ 1000000) (hi : i < n) (hai : al[i]? = some (gx, cx)) (hA : ∀ z ∈ s.l.getD i [], z.natAbs < 2 ^ E) (hE : 2 * E + 2 < LIM) (hE0 : Ext w0 w) :
    Calls Tryz.prog 111 #[slv gx n cx] w fun e w' => e = .returned (.tuple #[]) ∧ WkR w0.heap.size w' n c x aa al ar { s with l := rowNeg i s.l } ∧ Ext w0 w' := by
  have hi' : i < s.l.length := by rw [h.ll]; exact hi
  obtain ⟨g1, c1, a1, _, _, o1, l1, _⟩ := h.l.atM h.rl (by omega) hi'
  rw [hai] at a1; injection a1 with a1; injection a1 with e1 e2; subst e1 e2
  refine (sturn_row (B := w0.heap.size) (w := w) o1 l1 hn2 (fun z hz => by have := nd_lt2 (hA z hz); omega)).mono ?_
  rintro e w' ⟨rfl, hO, hG⟩
  exact ⟨rfl, h.setL hi hai (by rw [List.length_map]; exact l1) hO hG, ext_trans_grown hE0 hG o1.lt.1⟩
end
def colF (i o : Nat) (q : Int) (l : List Int) : List Int := l.set i (l.getD i 0 - q * l.getD o 0)
@[simp] theorem colF_length (i o : Nat) (q : Int) (l : List Int) : (colF i o q l).length = l.length := by simp [colF]
theorem colSub_map (i o : Nat) (q : Int) (A : Mx) : colSub i o q A = A.map (colF i o q) := rfl
set_option maxRecDepth 100000 in
set_option maxHeartbeats 2000000 in
theorem takeColumn_w {w0 w : World} {n c E : Nat} {x : Wa} {aa al ar : List (Nat × Nat)} {s : Dg} {q : Int} {i o : Nat} (h : WkR w0.heap.size w n c x aa al ar s) (hn : 0 < n) (hc : 0 < c) (hn2 : n ≤ 1000000) (hc2 : c ≤ 1000000) (hi : i < c) (ho : o < c)
    (hA : BM E s.a) (hR : BM E s.r) (hq : q.natAbs < 2 ^ E) (hE : 2 * E + 2 < LIM) (hL : Laid w0) (hE0 : Ext w0 w) :
    Calls Tryz.prog 199 #[.pointer (some ⟨x.p, 0, none⟩), .int .i64 i, .int .i64 o, I q] w fun e w' =>
      e = .returned (.tuple #[]) ∧ WkR w0.heap.size w' n c x aa al ar { s with a := colSub i o q s.a, r := colSub i o q s.r } ∧ Ext w0 w' := by
  have hcA := h.c0
  have hcR := h.c2
  have HW := Lib.hid h
  have HA := Lib.hid hA
  have HR := Lib.hid hR
  have Hq := Lib.hid hq
  have HE := Lib.hid hE
  have HL := Lib.hid hL
  have hiI : (i : Int) < (c : Int) := by omega
  have hoI : (o : Int) < (c : Int) := by omega
  have Hla := Lib.hid h.la
  have Hlr := Lib.hid h.lr
  obtain ⟨f, hf⟩ : ∃ f, f = colF i o q := ⟨_, rfl⟩
  have Hf := Lib.hid hf
  have Hfl := Lib.hid (show ∀ l, (f l).length = l.length from fun l => by rw [hf]; exact colF_length _ _ _ _)
  rw [colSub_map, colSub_map, ← hf]
  obtain ⟨p, ga, ca, gl, cl, gr, cr⟩ := x
  simp only at hcA hcR
  clear h hA hR hq hE hL hf
  go_enter Tryz.func199, Tryz.ntmps199
  go_wp2_with fail
  go_quiet (fail)
  go_wp2_with fail
  go_loopw [21] (fun idx wr => ∃ k : Nat, k ≤ 2 ∧ idx = .int .i64 k ∧ Hid (WkR w0.heap.size wr n c ⟨p, ga, ca, gl, cl, gr, cr⟩ aa al ar { s with a := if 0 < k then s.a.map f else s.a, r := if 1 < k then s.r.map f else s.r }) ∧ Ext w0 wr) (fun idx _ => 2 - (intOf idx).toNat)
  case atStart => exact ⟨0, by omega, by go_num, Lib.hid (HW.out.ext ((Ext.refl _).drewN _)), hE0.drewN _⟩
  case round =>
    obtain ⟨k, hk, rfl, hW, hE1⟩ := hrel
    generalize wr = V at *
    rcases (show k = 0 ∨ k = 1 ∨ k = 2 by omega) with rfl | rfl | rfl
    · rw [if_neg (by omega), if_neg (by omega)] at hW
      rw [show ((0 : Nat) : Int) = 0 from rfl]
      have hW0 := hW
      have hix := fun W => ix_a W ga n ca gr c cr
      go_wp2_with fail
      clear hix
      go_loopw [26] (fun jdx wi => ∃ j : Nat, j ≤ n ∧ jdx = .int .i64 j ∧ Hid (WkR w0.heap.size wi n c ⟨p, ga, ca, gl, cl, gr, cr⟩ aa al ar { s with a := mapTo f j s.a }) ∧ Ext w0 wi) (fun jdx _ => n - (intOf jdx).toNat)
      case atStart => exact ⟨0, by omega, by go_num, Lib.hid (by rw [mapTo_zero]; exact hW0.out), hE1⟩
      case round =>
        obtain ⟨j, hj, rfl, hWj, hEj⟩ := hrel
        generalize wr = Y at *
        by_cases hjl : j < n
        · have hji : (j : Int) < (n : Int) := by omega
          have hjs : j < s.a.length := by rw [Hla.out]; exact hjl
          have hjm : j < (mapTo f j s.a).length := by rw [mapTo_length]; exact hjs
          obtain ⟨gx, cx, ead, _, c1, o1, l1, hel⟩ := hWj.out.a.atM hWj.out.ra hc hjm
          have cx1 := hel i hi
          have cy1 := hel o ho
          rw [mapTo_at f hjs] at o1 l1
          obtain ⟨u, hu⟩ : ∃ u, u = s.a.getD j [] := ⟨_, rfl⟩
          have hex : eM (mapTo f j s.a) j i = u.getD i 0 := by unfold eM; rw [mapTo_at f hjs, hu]
          have hey : eM (mapTo f j s.a) j o = u.getD o 0 := by unfold eM; rw [mapTo_at f hjs, hu]
          obtain ⟨X, hX⟩ : ∃ X, X = u.getD i 0 := ⟨_, rfl⟩
          obtain ⟨Z, hZ⟩ : ∃ Z, Z = u.getD o 0 := ⟨_, rfl⟩
          rw [hex, ← hX] at cx1
          rw [hey, ← hZ] at cy1
          rw [← hu] at o1 l1
          have hXb : X.natAbs < 2 ^ E := by rw [hX, ← hex, show eM (mapTo f j s.a) j i = eM s.a j i by unfold eM; rw [mapTo_at f hjs]]; exact HA.out.el j i
          have hZb : Z.natAbs < 2 ^ E := by rw [hZ, ← hey, show eM (mapTo f j s.a) j o = eM s.a j o by unfold eM; rw [mapTo_at f hjs]]; exact HA.out.el j o
          have n1 := nd_lt2 hXb
          have n2 := nd_lt2 hZb
          have n3 := nd_lt2 Hq.out
          have n4 := nd_mul q Z
          have hEl := HE.out
          have c1' := Lib.hid (quietC (w := Y) (fun W hh => Mul_any (a := q) (b := Z) (w := W) (by omega) (HL.out.ext (hEj.trans hh))))
          have c2' := Lib.hid (quietC (w := Y) (fun W hh => Sub_any (a := X) (b := q * Z) (w := W) (by omega) (by omega) (HL.out.ext (hEj.trans hh))))
          have hfu : f u = u.set i (X - q * Z) := by rw [Hf.out, hX, hZ]; rfl
          have Hfu := Lib.hid hfu
          have Hul := Lib.hid l1
          have Hu := Lib.hid hu
          have Ead := Lib.hid ead
          have HO := Lib.hid o1
          have hgxY := o1.lt
          have Hjs := Lib.hid hjs
          have d1 := cx1
          have fz := o1.frozen i
          have k1 := cell_regrown cx1
          have k2 := cell_regrown cy1
          clear hex hey hX hZ hXb hZb n1 n2 n3 n4 hEl hfu l1 hu ead o1 hel hjm hjs
          go_wp2_with fail
          refine wp_region_quiet_tail 13 (by kernel_rfl) (by kernel_rfl) ?_
          simp only [List.take_succ_cons, List.take_zero, List.drop_succ_cons, List.drop_zero]
          repeat (quiet_step (first | exact c1'.out _ _ | exact c2'.out _ _))
          refine wpQuiet_nil ?_
          intro _ hw'
          obtain ⟨⟨dq, osq⟩, hw''⟩ := hw'
          subst hw''
          have hE5 := ext_regrown Y dq osq
          have d5 := hE5.cell d1
          clear c1' c2' k1 k2
          generalize grow (redrawn Y dq) osq = w5 at *
          have f5 := (HO.out.ext hE5).frozen i
          obtain ⟨hO6, hG6⟩ := (HO.out.ext hE5).set i (I (X - q * Z))
          rw [← ss_set, ← Hfu.out] at hO6
          have hW6 := (hWj.out.ext hE5).setA hc hjl Ead.out (by rw [Hfl.out]; exact Hul.out) hO6 hG6
          have hW7 := Lib.hid hW6
          have hE7 := ext_trans_grown (hEj.trans hE5) hG6 hgxY.1
          clear hO6 hG6 hW6 hE5
          go_wp2_with fail
          go_roundw
          case rel => exact ⟨j + 1, by omega, by go_num, Lib.hid (by rw [mapTo_step f Hjs.out, ← Hu.out]; exact hW7.out), hE7⟩
          case measure => simp [intOf] <;> omega
        · have hje : j = n := by omega
          have hji : ¬ (j : Int) < (n : Int) := by omega
          have hWe := Lib.hid (show WkR w0.heap.size Y n c ⟨p, ga, ca, gl, cl, gr, cr⟩ aa al ar { s with a := s.a.map f } by
            have := hWj.out
            have h7 := mapTo_all f s.a
            rw [Hla.out] at h7
            rw [hje, h7] at this; exact this)
          clear hje
          go_wp2_with fail
          go_roundw
          case rel => exact ⟨1, by omega, by go_num, by rw [if_pos (by omega), if_neg (by omega)]; exact hWe, hEj⟩
          case measure => simp [intOf]
    · rw [if_pos (by omega), if_neg (by omega)] at hW
      rw [show ((1 : Nat) : Int) = 1 from rfl]
      have hW0 := hW
      have hix := fun W => ix_b W ga n ca gr c cr
      go_wp2_with fail
      clear hix
      go_loopw [26] (fun jdx wi => ∃ j : Nat, j ≤ c ∧ jdx = .int .i64 j ∧ Hid (WkR w0.heap.size wi n c ⟨p, ga, ca, gl, cl, gr, cr⟩ aa al ar { s with a := s.a.map f, r := mapTo f j s.r }) ∧ Ext w0 wi) (fun jdx _ => c - (intOf jdx).toNat)
      case atStart => exact ⟨0, by omega, by go_num, Lib.hid (by rw [mapTo_zero]; exact hW0.out), hE1⟩
      case round =>
        obtain ⟨j, hj, rfl, hWj, hEj⟩ := hrel
        generalize wr = Y at *
        by_cases hjl : j < c
        · have hji : (j : Int) < (c : Int) := by omega
          have hjs : j < s.r.length := by rw [Hlr.out]; exact hjl
          have hjm : j < (mapTo f j s.r).length := by rw [mapTo_length]; exact hjs
          obtain ⟨gx, cx, ead, _, c1, o1, l1, hel⟩ := hWj.out.r.atM hWj.out.rr hc hjm
          have cx1 := hel i hi
          have cy1 := hel o ho
          rw [mapTo_at f hjs] at o1 l1
          obtain ⟨u, hu⟩ : ∃ u, u = s.r.getD j [] := ⟨_, rfl⟩
          have hex : eM (mapTo f j s.r) j i = u.getD i 0 := by unfold eM; rw [mapTo_at f hjs, hu]
          have hey : eM (mapTo f j s.r) j o = u.getD o 0 := by unfold eM; rw [mapTo_at f hjs, hu]
          obtain ⟨X, hX⟩ : ∃ X, X = u.getD i 0 := ⟨_, rfl⟩
          obtain ⟨Z, hZ⟩ : ∃ Z, Z = u.getD o 0 := ⟨_, rfl⟩
          rw [hex, ← hX] at cx1
          rw [hey, ← hZ] at cy1
          rw [← hu] at o1 l1
          have hXb : X.natAbs < 2 ^ E := by rw [hX, ← hex, show eM (mapTo f j s.r) j i = eM s.r j i by unfold eM; rw [mapTo_at f hjs]]; exact HR.out.el j i
          have hZb : Z.natAbs < 2 ^ E := by rw [hZ, ← hey, show eM (mapTo f j s.r) j o = eM s.r j o by unfold eM; rw [mapTo_at f hjs]]; exact HR.out.el j o
          have n1 := nd_lt2 hXb
          have n2 := nd_lt2 hZb
          have n3 := nd_lt2 Hq.out
          have n4 := nd_mul q Z
          have hEl := HE.out
          have c1' := Lib.hid (quietC (w := Y) (fun W hh => Mul_any (a := q) (b := Z) (w := W) (by omega) (HL.out.ext (hEj.trans hh))))
          have c2' := Lib.hid (quietC (w := Y) (fun W hh => Sub_any (a := X) (b := q * Z) (w := W) (by omega) (by omega) (HL.out.ext (hEj.trans hh))))
          have hfu : f u = u.set i (X - q * Z) := by rw [Hf.out, hX, hZ]; rfl
          have Hfu := Lib.hid hfu
          have Hul := Lib.hid l1
          have Hu := Lib.hid hu
          have Ead := Lib.hid ead
          have HO := Lib.hid o1
          have hgxY := o1.lt
          have Hjs := Lib.hid hjs
          have d1 := cx1
          have fz := o1.frozen i
          have k1 := cell_regrown cx1
          have k2 := cell_regrown cy1
          clear hex hey hX hZ hXb hZb n1 n2 n3 n4 hEl hfu l1 hu ead o1 hel hjm hjs
          go_wp2_with fail
          refine wp_region_quiet_tail 13 (by kernel_rfl) (by kernel_rfl) ?_
          simp only [List.take_succ_cons, List.take_zero, List.drop_succ_cons, List.drop_zero]
          repeat (quiet_step (first | exact c1'.out _ _ | exact c2'.out _ _))
          refine wpQuiet_nil ?_
          intro _ hw'
          obtain ⟨⟨dq, osq⟩, hw''⟩ := hw'
          subst hw''
          have hE5 := ext_regrown Y dq osq
          have d5 := hE5.cell d1
          clear c1' c2' k1 k2
          generalize grow (redrawn Y dq) osq = w5 at *
          have f5 := (HO.out.ext hE5).frozen i
          obtain ⟨hO6, hG6⟩ := (HO.out.ext hE5).set i (I (X - q * Z))
          rw [← ss_set, ← Hfu.out] at hO6
          have hW6 := (hWj.out.ext hE5).setR hjl Ead.out (by rw [Hfl.out]; exact Hul.out) hO6 hG6
          have hW7 := Lib.hid hW6
          have hE7 := ext_trans_grown (hEj.trans hE5) hG6 hgxY.1
          clear hO6 hG6 hW6 hE5
          go_wp2_with fail
          go_roundw
          case rel => exact ⟨j + 1, by omega, by go_num, Lib.hid (by rw [mapTo_step f Hjs.out, ← Hu.out]; exact hW7.out), hE7⟩
          case measure => simp [intOf] <;> omega
        · have hje : j = c := by omega
          have hji : ¬ (j : Int) < (c : Int) := by omega
          have hWe := Lib.hid (show WkR w0.heap.size Y n c ⟨p, ga, ca, gl, cl, gr, cr⟩ aa al ar { s with a := s.a.map f, r := s.r.map f } by
            have := hWj.out
            have h7 := mapTo_all f s.r
            rw [Hlr.out] at h7
            rw [hje, h7] at this; exact this)
          clear hje
          go_wp2_with fail
          go_roundw
          case rel => exact ⟨2, by omega, by go_num, by rw [if_pos (by omega), if_pos (by omega)]; exact hWe, hEj⟩
          case measure => simp [intOf]
    · rw [if_pos (by omega), if_pos (by omega)] at hW
      rw [show ((2 : Nat) : Int) = 2 from rfl]
      go_wp2_with fail
      go_end0
      exact ⟨rfl, hW.out, hE1⟩
end Go.Proofs.YtkjnjmihfonilaaGreatDoor
