/- Part 26 of the proof of the claim: contracts of the functions that it reaches, and plain laws; no condition. -/
import Derived.Test.YtnmmglnadnfoiaaGreatDoorV25
import Derived.Deep.CutRange
import Derived.Test.YtnmmglnadnfoiaaGreatDoorV12
import Derived.Test.YtnmmglnadnfoiaaGreatDoorV21
import Derived.RangeFuncBox
import Derived.RangeFuncNested
import Derived.RangeFuncLeaves
import Derived.Shelf.Abstract
import Derived.OwnWalkIn
import Derived.TacticsInMore
import Derived.LoopNIn
import Derived.LoopIn
import Derived.Maps.AppendAt
/- schismalaw44: Make. -/
namespace Go.Proofs.YtnmmglnadnfoiaaGreatDoor
open Go.RowKit Go.Sort
/-- A plan's cells in memory. -/
structure plC (W : World) (g : Nat) (P : Pl) : Prop where
  k0 : W.cell? ⟨g, 0, none⟩ = some (.bool P.hx)
  k1 : W.cell? ⟨g, 1, none⟩ = some (.int .u8 P.m)
  k2 : W.cell? ⟨g, 2, none⟩ = some (.int .i8 P.a)
  k3 : W.cell? ⟨g, 3, none⟩ = some (.int .i8 P.b)
  k4 : W.cell? ⟨g, 4, none⟩ = some (.int .i8 P.c)
  k5 : W.cell? ⟨g, 5, none⟩ = some (.int .i8 P.d)
  k6 : W.cell? ⟨g, 6, none⟩ = some (.int .i8 P.e)
  k7 : W.cell? ⟨g, 7, none⟩ = some (.int .i8 P.f)
  k8 : W.cell? ⟨g, 8, none⟩ = some (.int .i8 P.p)
  k9 : W.cell? ⟨g, 9, none⟩ = some (.int .i8 P.q)
  k10 : W.cell? ⟨g, 10, none⟩ = some (.int .i8 P.s)
theorem plC.ext {W W' : World} {g : Nat} {P : Pl} (h : plC W g P) (hE : Ext W W') : plC W' g P :=
  ⟨hE.cell h.k0, hE.cell h.k1, hE.cell h.k2, hE.cell h.k3, hE.cell h.k4, hE.cell h.k5, hE.cell h.k6, hE.cell h.k7, hE.cell h.k8, hE.cell h.k9, hE.cell h.k10⟩
theorem plC_new (w : World) (P : Pl) : plC (w.alloc (.cells #[.bool P.hx, .int .u8 P.m, .int .i8 P.a, .int .i8 P.b, .int .i8 P.c, .int .i8 P.d, .int .i8 P.e, .int .i8 P.f, .int .i8 P.p, .int .i8 P.q, .int .i8 P.s] 25)) w.heap.size P :=
  ⟨by go_simp, by go_simp, by go_simp, by go_simp, by go_simp, by go_simp, by go_simp, by go_simp, by go_simp, by go_simp, by go_simp⟩
theorem lay_new (w : World) (T : TypeId) (a b c d : Value) : OwnV T w.heap.size (w.alloc (.cells #[a, b, c, d] T)) w.heap.size 4 [a, b, c, d] :=
  OwnV.of (Nat.le_refl _) Array.getElem?_push_size (by simp) (by unfold maxLen; omega) rfl rfl
theorem four_facts {T : TypeId} {B g : Nat} {W : World} {a b c d : Value} (h : OwnV T B W g 4 [a, b, c, d]) : (W.cell? ⟨g, 0, none⟩ = some a ∧ W.cell? ⟨g, 1, none⟩ = some b ∧ W.cell? ⟨g, 2, none⟩ = some c ∧ W.cell? ⟨g, 3, none⟩ = some d) ∧ W.frozen? ⟨g, 0, none⟩ = false ∧ W.frozen? ⟨g, 1, none⟩ = false ∧ W.frozen? ⟨g, 2, none⟩ = false ∧ W.frozen? ⟨g, 3, none⟩ = false :=
  ⟨⟨h.cell (j := 0) (by simp), h.cell (j := 1) (by simp), h.cell (j := 2) (by simp), h.cell (j := 3) (by simp)⟩, h.frozen 0, h.frozen 1, h.frozen 2, h.frozen 3⟩
theorem four_set {T : TypeId} {B g : Nat} {W : World} {a b c d : Value} (h : OwnV T B W g 4 [a, b, c, d]) (v0 v1 v2 v3 : Value) :
    OwnV T B ((((W.setCell ⟨g, 0, none⟩ v0).setCell ⟨g, 1, none⟩ v1).setCell ⟨g, 2, none⟩ v2).setCell ⟨g, 3, none⟩ v3) g 4 [v0, v1, v2, v3] ∧ W.grownBy ((((W.setCell ⟨g, 0, none⟩ v0).setCell ⟨g, 1, none⟩ v1).setCell ⟨g, 2, none⟩ v2).setCell ⟨g, 3, none⟩ v3) (some g) := by
  obtain ⟨h1, g1⟩ := h.set 0 v0
  obtain ⟨h2, g2⟩ := h1.set 1 v1
  obtain ⟨h3, g3⟩ := h2.set 2 v2
  obtain ⟨h4, g4⟩ := h3.set 3 v3
  exact ⟨h4, grown_trans (grown_trans (grown_trans g1 g2) g3) g4⟩
section
variable {P : Program} {ops : Array Oper} {md : Region.Mode} {Q : Exit → Act → World → Prop} {S : World → Prop}
/-- Two operations that may come up. -/
theorem wpAnyLH_two {n i j f : Nat} {o p : Oper} {L : Array Bool → Act → World → Prop} {listed : Array Bool} {a : Act} {w : World} (hi : ops[i]? = some o) (hj : ops[j]? = some p) (hr : (Region.ready md ops listed == [i, j] && decide (i < n) && decide (j < n)) = true)
    (h1 : ∀ K' : Act → World → Prop, (∀ a w, S w → wpAnyLH P md ops Q S n L f (listed.setIfInBounds i true) a w → K' a w) → if Region.wanted o (yielded ops a.tmps) = true then Oper.wp P o a w K' Q else K' (a.put o.dst undef) w)
    (h2 : ∀ K' : Act → World → Prop, (∀ a w, S w → wpAnyLH P md ops Q S n L f (listed.setIfInBounds j true) a w → K' a w) → if Region.wanted p (yielded ops a.tmps) = true then Oper.wp P p a w K' Q else K' (a.put p.dst undef) w) : wpAnyLH P md ops Q S n L (f + 1) listed a w := by
  simp only [Bool.and_eq_true, decide_eq_true_eq, beq_iff_eq] at hr
  refine ⟨fun h0 => (by rw [h0] at hr; cases hr.1.1), fun k hk => ?_⟩
  rw [hr.1.1] at hk
  simp only [List.mem_cons, List.not_mem_nil, or_false] at hk
  rcases hk with rfl | rfl
  · exact ⟨hr.1.2, wpOp_step hi (fun K' hK => h1 K' (fun a w hS hW => hK a w ⟨hS, hW⟩))⟩
  · exact ⟨hr.2, wpOp_step hj (fun K' hK => h2 K' (fun a w hS hW => hK a w ⟨hS, hW⟩))⟩
end
theorem range3 {w : World} {b o : Nat} {x y z : Value} (h0 : w.cell? ⟨b, o, none⟩ = some x) (h1 : w.cell? ⟨b, o + 1, none⟩ = some y) (h2 : w.cell? ⟨b, o + 2, none⟩ = some z) : w.rangeAt b o [x, y, z] := fun j v hj => by
  match j with
  | 0 => simp at hj; subst hj; exact h0
  | 1 => simp at hj; subst hj; exact h1
  | 2 => simp at hj; subst hj; exact h2
  | j + 3 => simp at hj
def MkPost (w : World) (P : Pl) (e : Ending) (w' : World) : Prop :=
  ∃ g1 g2 g3, e = .returned (layv P.k P.n g1 P.n g2 P.n g3 P.n) ∧ PlP w' P g1 g2 g3 ∧ Ext w w'
theorem own_rowP {B : Nat} {w : World} {g n : Nat} {x : List Int} (h : OwnV 3 B w g n (is x)) (hl : x.length = n) : RowP w g n x := ⟨by omega, h.sl⟩
theorem mk_leaf {X W : World} {bl n g1 g2 g3 : Nat} {a b c d : Value} {oo rr uu : List Int} (hB : OwnV 32 X.heap.size W bl 4 [a, b, c, d]) (h1 : OwnV 3 0 W g1 n (is oo)) (h2 : OwnV 3 0 W g2 n (is rr)) (h3 : OwnV 3 0 W g3 n (is uu)) (hX : Ext X W) (v0 v1 v2 v3 : Value) :
    Hid (OwnV 32 X.heap.size ((((W.setCell ⟨bl, 0, none⟩ v0).setCell ⟨bl, 1, none⟩ v1).setCell ⟨bl, 2, none⟩ v2).setCell ⟨bl, 3, none⟩ v3) bl 4 [v0, v1, v2, v3])
      ∧ Hid (OwnV 3 0 ((((W.setCell ⟨bl, 0, none⟩ v0).setCell ⟨bl, 1, none⟩ v1).setCell ⟨bl, 2, none⟩ v2).setCell ⟨bl, 3, none⟩ v3) g1 n (is oo))
      ∧ Hid (OwnV 3 0 ((((W.setCell ⟨bl, 0, none⟩ v0).setCell ⟨bl, 1, none⟩ v1).setCell ⟨bl, 2, none⟩ v2).setCell ⟨bl, 3, none⟩ v3) g2 n (is rr))
      ∧ Hid (OwnV 3 0 ((((W.setCell ⟨bl, 0, none⟩ v0).setCell ⟨bl, 1, none⟩ v1).setCell ⟨bl, 2, none⟩ v2).setCell ⟨bl, 3, none⟩ v3) g3 n (is uu))
      ∧ Ext X ((((W.setCell ⟨bl, 0, none⟩ v0).setCell ⟨bl, 1, none⟩ v1).setCell ⟨bl, 2, none⟩ v2).setCell ⟨bl, 3, none⟩ v3) := by
  obtain ⟨hS1, hS2⟩ := four_set hB v0 v1 v2 v3
  have hk : ∀ {B g : Nat} {x : List Int}, OwnV 3 B W g n (is x) → OwnV 3 B ((((W.setCell ⟨bl, 0, none⟩ v0).setCell ⟨bl, 1, none⟩ v1).setCell ⟨bl, 2, none⟩ v2).setCell ⟨bl, 3, none⟩ v3) g n (is x) := fun h => own_kept h hB (by decide) hS2
  exact ⟨Lib.hid hS1, Lib.hid (hk h1), Lib.hid (hk h2), Lib.hid (hk h3), ext_trans_grown hX hS2 hB.lt.1⟩
set_option maxRecDepth 100000 in
set_option maxHeartbeats 4000000 in
theorem make44 {w : World} {P : Pl} (hP : P.ok) : Calls Tryz.prog 16 #[P.v] w (MkPost w P) := by
  have hn3 := P.n3
  have hr1 := Lib.hid (fun W => row44_any (w := W) hn3 hP.a hP.b hP.c)
  have hr2 := Lib.hid (fun W => row44_any (w := W) hn3 hP.d hP.e hP.f)
  have hr3 := Lib.hid (fun W => row44_any (w := W) hn3 hP.p hP.q hP.s)
  obtain ⟨hm1, hm2⟩ := hP.m
  have hmn : P.m % 4 = (P.n : Int) := Pl.nI
  have hmt : P.m.tmod 4 = (P.n : Int) := by rw [Int.tmod_eq_emod_of_nonneg hm1]; exact hmn
  have Hlo := Lib.hid P.lo
  have Hlr := Lib.hid P.lr
  have Hlu := Lib.hid P.lu
  have Hk : Hid (P.k = if P.hx then 2 else 1) := Lib.hid rfl
  have Hpost : Hid (∀ W g1 g2 g3 (e : Ending), e = .returned (layv P.k P.n g1 P.n g2 P.n g3 P.n) → RowP W g1 P.n P.o → RowP W g2 P.n P.r → RowP W g3 P.n P.u → Ext w W → MkPost w P e W) := Lib.hid (fun W g1 g2 g3 e he h1 h2 h3 hE => ⟨g1, g2, g3, he, ⟨P.kind, by omega, P.lo, P.lr, P.lu, P.eo, P.er, P.eu, h1, h2, h3⟩, hE⟩)
  rw [show plTo P.n [P.a, P.b, P.c] P.n = P.o from rfl] at hr1
  rw [show plTo P.n [P.d, P.e, P.f] P.n = P.r from rfl] at hr2
  rw [show plTo P.n [P.p, P.q, P.s] P.n = P.u from rfl] at hr3
  generalize P.o = oo at *
  generalize P.r = rr at *
  generalize P.u = uu at *
  generalize P.n = n at *
  generalize P.k = k at *
  have hpc := plC_new w P
  have hres := (lay_new (w.alloc (.cells #[.bool P.hx, .int .u8 P.m, .int .i8 P.a, .int .i8 P.b, .int .i8 P.c, .int .i8 P.d, .int .i8 P.e, .int .i8 P.f, .int .i8 P.p, .int .i8 P.q, .int .i8 P.s] 25)) 32 (.int .i64 0) (.slice none 0 0) (.slice none 0 0) (.slice none 0 0))
  clear hP
  go_enter Tryz.func16, Tryz.ntmps16
  go_wp2_with fail
  replace hpc := hpc.ext ((Ext.refl _).alloc (.cells #[.int .i64 0, .slice none 0 0, .slice none 0 0, .slice none 0 0] 32))
  obtain ⟨X, hX⟩ : ∃ X, ((w.alloc (.cells #[.bool P.hx, .int .u8 P.m, .int .i8 P.a, .int .i8 P.b, .int .i8 P.c, .int .i8 P.d, .int .i8 P.e, .int .i8 P.f, .int .i8 P.p, .int .i8 P.q, .int .i8 P.s] 25)).alloc (.cells #[.int .i64 0, .slice none 0 0, .slice none 0 0, .slice none 0 0] 32)) = X := ⟨_, rfl⟩
  have hEX : Ext w X := by rw [← hX]; exact ((Ext.refl w).alloc _).alloc _
  rw [World.size_alloc] at hres
  rw [hX] at hpc hres ⊢
  clear hX
  have hres2 := Lib.hid hres
  obtain ⟨bp, hbp⟩ : ∃ bp, bp = w.heap.size := ⟨_, rfl⟩
  have hbp2 := hres.lt
  rw [← hbp] at hpc ⊢
  have Hbp := Lib.hid hbp
  clear hbp hres
  go_cut [4] from 9 to 21 (fun lp wx => ∃ bl g1 g2 g3, lp = .pointer (some ⟨bl, 0, none⟩) ∧ Hid (OwnV 32 X.heap.size wx bl 4 [.int .i64 1, slv g1 n n, slv g2 n n, slv g3 n n]) ∧ Hid (OwnV 3 0 wx g1 n (is oo)) ∧ Hid (OwnV 3 0 wx g2 n (is rr)) ∧ Hid (OwnV 3 0 wx g3 n (is uu)) ∧ Ext X wx)
  case first =>
    have d7 : Ext X X.drew := (Ext.refl X).drew
    refine wp_region_held_tail (S := fun W => Ext X W) 14 (by kernel_rfl) (by simp) ?_
    intro inv
    refine wpAnyLH_take (i := 0) (v := .pointer (some ⟨bp, 2, none⟩)) rfl (by kernel_rfl) (fun _ _ _ h => h) (.inl ⟨by rfl, fun W hW => by go_simp⟩) d7 inv ?_
    intro inv
    refine wpAnyLH_take (i := 1) (v := .agg #[.int .i8 P.a, .int .i8 P.b, .int .i8 P.c]) rfl (by kernel_rfl) (fun _ _ _ h => h) (yieldsIf_load_mid (by rfl) 23 _ rfl bp 2 rfl [.int .i8 P.a, .int .i8 P.b, .int .i8 P.c] _ (fun W hW => range3 (hpc.ext hW).k2 (hpc.ext hW).k3 (hpc.ext hW).k4) Tryz.underlying23 rfl (by kernel_rfl)) d7 inv ?_
    intro inv
    refine wpAnyLH_take (i := 2) (v := .int .i64 n) rfl (by kernel_rfl) (fun _ _ _ h => h) (.inl ⟨by rfl, fun W hW => by go_simp⟩) d7 inv ?_
    intro inv
    refine wpAnyLH_take (i := 4) (v := .pointer (some ⟨bp, 5, none⟩)) rfl (by kernel_rfl) (fun _ _ _ h => h) (.inl ⟨by rfl, fun W hW => by go_simp⟩) d7 inv ?_
    intro inv
    refine wpAnyLH_take (i := 5) (v := .agg #[.int .i8 P.d, .int .i8 P.e, .int .i8 P.f]) rfl (by kernel_rfl) (fun _ _ _ h => h) (yieldsIf_load_mid (by rfl) 23 _ rfl bp 5 rfl [.int .i8 P.d, .int .i8 P.e, .int .i8 P.f] _ (fun W hW => range3 (hpc.ext hW).k5 (hpc.ext hW).k6 (hpc.ext hW).k7) Tryz.underlying23 rfl (by kernel_rfl)) d7 inv ?_
    intro inv
    refine wpAnyLH_take (i := 6) (v := .int .i64 n) rfl (by kernel_rfl) (fun _ _ _ h => h) (.inl ⟨by rfl, fun W hW => by go_simp⟩) d7 inv ?_
    intro inv
    refine wpAnyLH_take (i := 8) (v := .pointer (some ⟨bp, 8, none⟩)) rfl (by kernel_rfl) (fun _ _ _ h => h) (.inl ⟨by rfl, fun W hW => by go_simp⟩) d7 inv ?_
    intro inv
    refine wpAnyLH_take (i := 9) (v := .agg #[.int .i8 P.p, .int .i8 P.q, .int .i8 P.s]) rfl (by kernel_rfl) (fun _ _ _ h => h) (yieldsIf_load_mid (by rfl) 23 _ rfl bp 8 rfl [.int .i8 P.p, .int .i8 P.q, .int .i8 P.s] _ (fun W hW => range3 (hpc.ext hW).k8 (hpc.ext hW).k9 (hpc.ext hW).k10) Tryz.underlying23 rfl (by kernel_rfl)) d7 inv ?_
    intro inv
    refine wpAnyLH_take (i := 10) (v := .int .i64 n) rfl (by kernel_rfl) (fun _ _ _ h => h) (.inl ⟨by rfl, fun W hW => by go_simp⟩) d7 inv ?_
    intro inv
    refine wpAnyLH_two (i := 3) (j := 13) rfl rfl (by kernel_rfl) (fun K0 hK0 => ?_) (fun KA hKA => ?_)
    case refine_1 =>
      go_simp
      refine (hr1.out _).mono ?_
      rintro e W1 ⟨g1, rfl, hO1, hE1⟩
      have d1 := d7.trans hE1
      replace hO1 := hO1.mono (Nat.zero_le _)
      refine hK0 _ _ d1 ?_
      clear hK0
      refine wpAnyLH_two (i := 7) (j := 13) rfl rfl (by kernel_rfl) (fun K1 hK1 => ?_) (fun KA hKA => ?_)
      case refine_1 =>
        go_simp
        refine (hr2.out _).mono ?_
        rintro e W2 ⟨g2, rfl, hO2, hE2⟩
        have d2 := d1.trans hE2
        replace hO2 := hO2.mono (Nat.zero_le _)
        replace hO1 := hO1.ext hE2
        refine hK1 _ _ d2 ?_
        clear hK1
        refine wpAnyLH_two (i := 11) (j := 13) rfl rfl (by kernel_rfl) (fun K2 hK2 => ?_) (fun KA hKA => ?_)
        case refine_1 =>
          go_simp
          refine (hr3.out _).mono ?_
          rintro e W3 ⟨g3, rfl, hO3, hE3⟩
          have d3 := d2.trans hE3
          replace hO3 := hO3.mono (Nat.zero_le _)
          replace hO1 := hO1.ext hE3
          replace hO2 := hO2.ext hE3
          refine hK2 _ _ d3 ?_
          clear hK2
          refine wpAnyLH_two (i := 12) (j := 13) rfl rfl (by kernel_rfl) (fun K3 hK3 => ?_) (fun KA hKA => ?_)
          case refine_1 =>
            go_simp
            refine hK3 _ _ d3 ?_
            clear hK3
            refine wpAnyLH_one (i := 13) rfl (by kernel_rfl) (fun KA hKA => ?_)
            go_simp
            have dA := d3.alloc (.cells #[.int .i64 0, .slice none 0 0, .slice none 0 0, .slice none 0 0] 32)
            have hB := (lay_new W3 32 (.int .i64 0) (.slice none 0 0) (.slice none 0 0) (.slice none 0 0)).mono (show X.heap.size ≤ _ from d3.size)
            replace hO1 := hO1.ext ((Ext.refl _).alloc (.cells #[.int .i64 0, .slice none 0 0, .slice none 0 0, .slice none 0 0] 32))
            replace hO2 := hO2.ext ((Ext.refl _).alloc (.cells #[.int .i64 0, .slice none 0 0, .slice none 0 0, .slice none 0 0] 32))
            replace hO3 := hO3.ext ((Ext.refl _).alloc (.cells #[.int .i64 0, .slice none 0 0, .slice none 0 0, .slice none 0 0] 32))
            refine hKA _ _ dA ?_
            clear hKA
            refine wpAnyLH_end (by kernel_rfl) ?_
            generalize (W3.alloc (.cells #[.int .i64 0, .slice none 0 0, .slice none 0 0, .slice none 0 0] 32)) = WZ at *
            generalize W3.heap.size = bl at *
            obtain ⟨⟨q0, q1, q2, q3⟩, f0, f1, f2, f3⟩ := four_facts hB
            have HL := Lib.hid (mk_leaf hB hO1 hO2 hO3 dA (.int .i64 1) (slv g1 n n) (slv g2 n n) (slv g3 n n))
            clear hB hO1 hO2 hO3
            go_wp2_with fail
            go_meet
            exact ⟨_, g1, g2, g3, rfl, HL.out⟩
          case refine_2 =>
            go_simp
            have dA := d3.alloc (.cells #[.int .i64 0, .slice none 0 0, .slice none 0 0, .slice none 0 0] 32)
            have hB := (lay_new W3 32 (.int .i64 0) (.slice none 0 0) (.slice none 0 0) (.slice none 0 0)).mono (show X.heap.size ≤ _ from d3.size)
            replace hO1 := hO1.ext ((Ext.refl _).alloc (.cells #[.int .i64 0, .slice none 0 0, .slice none 0 0, .slice none 0 0] 32))
            replace hO2 := hO2.ext ((Ext.refl _).alloc (.cells #[.int .i64 0, .slice none 0 0, .slice none 0 0, .slice none 0 0] 32))
            replace hO3 := hO3.ext ((Ext.refl _).alloc (.cells #[.int .i64 0, .slice none 0 0, .slice none 0 0, .slice none 0 0] 32))
            refine hKA _ _ dA ?_
            clear hKA
            refine wpAnyLH_one (i := 12) rfl (by kernel_rfl) (fun K3 hK3 => ?_)
            go_simp
            refine hK3 _ _ dA ?_
            clear hK3
            refine wpAnyLH_end (by kernel_rfl) ?_
            generalize (W3.alloc (.cells #[.int .i64 0, .slice none 0 0, .slice none 0 0, .slice none 0 0] 32)) = WZ at *
            generalize W3.heap.size = bl at *
            obtain ⟨⟨q0, q1, q2, q3⟩, f0, f1, f2, f3⟩ := four_facts hB
            have HL := Lib.hid (mk_leaf hB hO1 hO2 hO3 dA (.int .i64 1) (slv g1 n n) (slv g2 n n) (slv g3 n n))
            clear hB hO1 hO2 hO3
            go_wp2_with fail
            go_meet
            exact ⟨_, g1, g2, g3, rfl, HL.out⟩
        case refine_2 =>
          go_simp
          have dA := d2.alloc (.cells #[.int .i64 0, .slice none 0 0, .slice none 0 0, .slice none 0 0] 32)
          have hB := (lay_new W2 32 (.int .i64 0) (.slice none 0 0) (.slice none 0 0) (.slice none 0 0)).mono (show X.heap.size ≤ _ from d2.size)
          replace hO1 := hO1.ext ((Ext.refl _).alloc (.cells #[.int .i64 0, .slice none 0 0, .slice none 0 0, .slice none 0 0] 32))
          replace hO2 := hO2.ext ((Ext.refl _).alloc (.cells #[.int .i64 0, .slice none 0 0, .slice none 0 0, .slice none 0 0] 32))
          refine hKA _ _ dA ?_
          clear hKA
          refine wpAnyLH_one (i := 11) rfl (by kernel_rfl) (fun K2 hK2 => ?_)
          go_simp
          refine (hr3.out _).mono ?_
          rintro e W3 ⟨g3, rfl, hO3, hE3⟩
          have d3 := dA.trans hE3
          replace hO3 := hO3.mono (Nat.zero_le _)
          replace hO1 := hO1.ext hE3
          replace hO2 := hO2.ext hE3
          replace hB := hB.ext hE3
          refine hK2 _ _ d3 ?_
          clear hK2
          refine wpAnyLH_one (i := 12) rfl (by kernel_rfl) (fun K3 hK3 => ?_)
          go_simp
          refine hK3 _ _ d3 ?_
          clear hK3
          refine wpAnyLH_end (by kernel_rfl) ?_
          generalize W3 = WZ at *
          generalize W2.heap.size = bl at *
          obtain ⟨⟨q0, q1, q2, q3⟩, f0, f1, f2, f3⟩ := four_facts hB
          have HL := Lib.hid (mk_leaf hB hO1 hO2 hO3 d3 (.int .i64 1) (slv g1 n n) (slv g2 n n) (slv g3 n n))
          clear hB hO1 hO2 hO3
          go_wp2_with fail
          go_meet
          exact ⟨_, g1, g2, g3, rfl, HL.out⟩
      case refine_2 =>
        go_simp
        have dA := d1.alloc (.cells #[.int .i64 0, .slice none 0 0, .slice none 0 0, .slice none 0 0] 32)
        have hB := (lay_new W1 32 (.int .i64 0) (.slice none 0 0) (.slice none 0 0) (.slice none 0 0)).mono (show X.heap.size ≤ _ from d1.size)
        replace hO1 := hO1.ext ((Ext.refl _).alloc (.cells #[.int .i64 0, .slice none 0 0, .slice none 0 0, .slice none 0 0] 32))
        refine hKA _ _ dA ?_
        clear hKA
        refine wpAnyLH_one (i := 7) rfl (by kernel_rfl) (fun K1 hK1 => ?_)
        go_simp
        refine (hr2.out _).mono ?_
        rintro e W2 ⟨g2, rfl, hO2, hE2⟩
        have d2 := dA.trans hE2
        replace hO2 := hO2.mono (Nat.zero_le _)
        replace hO1 := hO1.ext hE2
        replace hB := hB.ext hE2
        refine hK1 _ _ d2 ?_
        clear hK1
        refine wpAnyLH_one (i := 11) rfl (by kernel_rfl) (fun K2 hK2 => ?_)
        go_simp
        refine (hr3.out _).mono ?_
        rintro e W3 ⟨g3, rfl, hO3, hE3⟩
        have d3 := d2.trans hE3
        replace hO3 := hO3.mono (Nat.zero_le _)
        replace hO1 := hO1.ext hE3
        replace hO2 := hO2.ext hE3
        replace hB := hB.ext hE3
        refine hK2 _ _ d3 ?_
        clear hK2
        refine wpAnyLH_one (i := 12) rfl (by kernel_rfl) (fun K3 hK3 => ?_)
        go_simp
        refine hK3 _ _ d3 ?_
        clear hK3
        refine wpAnyLH_end (by kernel_rfl) ?_
        generalize W3 = WZ at *
        generalize W1.heap.size = bl at *
        obtain ⟨⟨q0, q1, q2, q3⟩, f0, f1, f2, f3⟩ := four_facts hB
        have HL := Lib.hid (mk_leaf hB hO1 hO2 hO3 d3 (.int .i64 1) (slv g1 n n) (slv g2 n n) (slv g3 n n))
        clear hB hO1 hO2 hO3
        go_wp2_with fail
        go_meet
        exact ⟨_, g1, g2, g3, rfl, HL.out⟩
    case refine_2 =>
      go_simp
      have dA := d7.alloc (.cells #[.int .i64 0, .slice none 0 0, .slice none 0 0, .slice none 0 0] 32)
      have hB := (lay_new X.drew 32 (.int .i64 0) (.slice none 0 0) (.slice none 0 0) (.slice none 0 0)).mono (show X.heap.size ≤ _ from d7.size)
      rw [show X.drew.heap.size = X.heap.size by simp] at hB
      refine hKA _ _ dA ?_
      clear hKA
      refine wpAnyLH_one (i := 3) rfl (by kernel_rfl) (fun K0 hK0 => ?_)
      go_simp
      refine (hr1.out _).mono ?_
      rintro e W1 ⟨g1, rfl, hO1, hE1⟩
      have d1 := dA.trans hE1
      replace hO1 := hO1.mono (Nat.zero_le _)
      replace hB := hB.ext hE1
      refine hK0 _ _ d1 ?_
      clear hK0
      refine wpAnyLH_one (i := 7) rfl (by kernel_rfl) (fun K1 hK1 => ?_)
      go_simp
      refine (hr2.out _).mono ?_
      rintro e W2 ⟨g2, rfl, hO2, hE2⟩
      have d2 := d1.trans hE2
      replace hO2 := hO2.mono (Nat.zero_le _)
      replace hO1 := hO1.ext hE2
      replace hB := hB.ext hE2
      refine hK1 _ _ d2 ?_
      clear hK1
      refine wpAnyLH_one (i := 11) rfl (by kernel_rfl) (fun K2 hK2 => ?_)
      go_simp
      refine (hr3.out _).mono ?_
      rintro e W3 ⟨g3, rfl, hO3, hE3⟩
      have d3 := d2.trans hE3
      replace hO3 := hO3.mono (Nat.zero_le _)
      replace hO1 := hO1.ext hE3
      replace hO2 := hO2.ext hE3
      replace hB := hB.ext hE3
      refine hK2 _ _ d3 ?_
      clear hK2
      refine wpAnyLH_one (i := 12) rfl (by kernel_rfl) (fun K3 hK3 => ?_)
      go_simp
      refine hK3 _ _ d3 ?_
      clear hK3
      refine wpAnyLH_end (by kernel_rfl) ?_
      generalize W3 = WZ at *
      obtain ⟨⟨q0, q1, q2, q3⟩, f0, f1, f2, f3⟩ := four_facts hB
      have HL := Lib.hid (mk_leaf hB hO1 hO2 hO3 d3 (.int .i64 1) (slv g1 n n) (slv g2 n n) (slv g3 n n))
      clear hB hO1 hO2 hO3
      go_wp2_with fail
      go_meet
      exact ⟨_, g1, g2, g3, rfl, HL.out⟩
  case rest =>
    obtain ⟨bl, g1, g2, g3, rfl, hB, hR1, hR2, hR3, hXc⟩ := hcut
    generalize wc = Y at *
    have hRB : OwnV 32 w.heap.size Y (bp + 1) 4 [.int .i64 0, .slice none 0 0, .slice none 0 0, .slice none 0 0] := by rw [Hbp.out]; exact (hres2.out.ext hXc).mono (by omega)
    have hEY := hEX.trans hXc
    have hEX0 := hEX.size
    have hbl : bp + 1 ≠ bl := by have := hB.out.lt; have := Hbp.out; omega
    have k0 := (hpc.ext hXc).k0
    obtain ⟨⟨q0, q1, q2, q3⟩, f0, f1, f2, f3⟩ := four_facts hB.out
    clear hpc hXc hres2 hbp2 hEX
    cases hx : P.hx
    · rw [hx] at k0
      obtain ⟨⟨r0, r1, r2, r3⟩, s0, s1, s2, s3⟩ := four_facts hRB
      obtain ⟨hF, hF1, hF2, hF3, hFE⟩ := mk_leaf hRB hR1.out hR2.out hR3.out hEY (.int .i64 1) (slv g1 n n) (slv g2 n n) (slv g3 n n)
      obtain ⟨⟨t0, t1, t2, t3⟩, _⟩ := four_facts hF.out
      have Hres := Lib.hid (Hpost.out _ g1 g2 g3 (.returned (layv 1 n g1 n g2 n g3 n)) (by rw [Hk.out, hx]; rfl) (own_rowP hF1.out Hlo.out) (own_rowP hF2.out Hlr.out) (own_rowP hF3.out Hlu.out) hFE)
      clear hF hF1 hF2 hF3 hFE hx
      go_wp2_with fail
      refine bodyPost_ret (v := layv 1 n g1 n g2 n g3 n) (by simp [results, Tryz.results16, go_sem, t0, t1, t2, t3]) rfl Hres.out
    · rw [hx] at k0
      obtain ⟨hO, hG⟩ := hB.out.set 0 (.int .i64 2)
      have hk : ∀ {g : Nat} {x : List Int}, OwnV 3 0 Y g n (is x) → OwnV 3 0 (Y.setCell ⟨bl, 0, none⟩ (.int .i64 2)) g n (is x) := fun h => own_kept h hB.out (by decide) hG
      have hA1 := Lib.hid (hk hR1.out)
      have hA2 := Lib.hid (hk hR2.out)
      have hA3 := Lib.hid (hk hR3.out)
      have hRB2 := Lib.hid (hRB.other hG hbl)
      have hE2 := Lib.hid (ext_trans_grown hEY hG (by have := hB.out.lt; have := hEX0; omega))
      obtain ⟨⟨r0, r1, r2, r3⟩, s0, s1, s2, s3⟩ := four_facts hRB
      obtain ⟨hF, hF1, hF2, hF3, hFE⟩ := mk_leaf hRB2.out hA1.out hA2.out hA3.out hE2.out (.int .i64 2) (slv g1 n n) (slv g2 n n) (slv g3 n n)
      obtain ⟨⟨t0, t1, t2, t3⟩, _⟩ := four_facts hF.out
      have Hres := Lib.hid (Hpost.out _ g1 g2 g3 (.returned (layv 2 n g1 n g2 n g3 n)) (by rw [Hk.out, hx]; rfl) (own_rowP hF1.out Hlo.out) (own_rowP hF2.out Hlr.out) (own_rowP hF3.out Hlu.out) hFE)
      clear hF hF1 hF2 hF3 hFE hx hO hG hk hRB hR1 hR2 hR3 hB hA1 hA2 hA3 hRB2 hE2
      go_wp2_with fail
      refine bodyPost_ret (v := layv 2 n g1 n g2 n g3 n) (by simp [results, Tryz.results16, go_sem, t0, t1, t2, t3]) rfl Hres.out
end Go.Proofs.YtnmmglnadnfoiaaGreatDoor
/- row: both, result, pairs: the iterator over two rows. -/
namespace Go.Proofs.YtnmmglnadnfoiaaGreatDoor
open Go.RowKit Go.Sort Go.Shelf
attribute [local go_sem] Oper.semAt_some
set_option maxRecDepth 100000 in
theorem rboth_ok {w : World} {va vb : Value} {a b : List Int} (hA : RowR w va a) (hB : RowR w vb b) (ea : chkRow a = 0) (eb : chkRow b = 0) (hl : a.length = b.length) :
    Calls Tryz.prog 76 #[va, vb] w fun e w' => e = .returned (.int .i64 0) ∧ Ext w w' := by
  have h1 := Lib.hid (rowCheck_any hA)
  have h2 := Lib.hid (fun W (hW : Ext w W) => rowCheck_any (hB.ext hW))
  rw [ea] at h1
  rw [eb] at h2
  obtain ⟨sa, ga, oa, ca, rfl, hca, hSa⟩ := hA
  obtain ⟨sb, gb, ob, cb, rfl, hcb, hSb⟩ := hB
  rw [← hl] at h2 ⊢
  generalize a.length = n at *
  clear hSa hSb hl ea eb hca hcb
  go_enter Tryz.func76, Tryz.ntmps76
  go_wp2_with fail
  refine h1.out.mono ?_
  rintro e w1 ⟨rfl, hE1⟩
  go_wp2_with fail
  refine (h2.out _ hE1).mono ?_
  rintro e w2 ⟨rfl, hE2⟩
  have hX := hE1.trans hE2
  go_wp2_with fail
  go_ret
  exact ⟨rfl, hX⟩
/-- What row.result hands back. -/
def ResPost (w : World) (v : Value) (x : List Int) (e : Ending) (w' : World) : Prop :=
  e = .returned (.tuple #[if chkRow x = 0 then v else .slice none 0 0, .int .i64 (chkRow x)]) ∧ Ext w w'
set_option maxRecDepth 100000 in
theorem rresult_any {w : World} {v : Value} {x : List Int} (hX : RowR w v x) : Calls Tryz.prog 78 #[v] w (ResPost w v x) := by
  have h1 := Lib.hid (rowCheck_any hX)
  obtain ⟨sa, ga, oa, ca, rfl, hca, hSa⟩ := hX
  obtain ⟨z, hz⟩ : ∃ z, z = chkRow x := ⟨_, rfl⟩
  unfold ResPost
  rw [← hz] at h1 ⊢
  generalize x.length = n at *
  clear hz hSa hca
  by_cases h0 : z = 0
  · subst h0
    go_enter Tryz.func78, Tryz.ntmps78
    go_wp2_with fail
    refine h1.out.mono ?_
    rintro e w1 ⟨rfl, hE1⟩
    go_wp2_with fail
    go_ret2
    exact ⟨rfl, hE1⟩
  · have h2 : (z == 0) = false := beq_eq_false_iff_ne.2 h0
    have h3 : (z != 0) = true := by simp [bne, h2]
    rw [if_neg h0]
    go_enter Tryz.func78, Tryz.ntmps78
    go_wp2_with fail
    refine h1.out.mono ?_
    rintro e w1 ⟨rfl, hE1⟩
    go_wp2_with fail
    go_ret2
    exact ⟨rfl, hE1⟩
theorem pairs_any {w : World} {m : Nat} {sa sb : Option Addr} {n ca cb : Nat} :
    CallsIn Fence.wide m Tryz.prog 77 #[.slice sa n ca, .slice sb n cb] w fun e w' => e = .returned (.func (.func 114) #[] #[.pointer (some ⟨w.heap.size, 0, none⟩), .pointer (some ⟨w.heap.size + 1, 0, none⟩)]) ∧ w' = (w.alloc (.cells #[.slice sa n ca] 30)).alloc (.cells #[.slice sb n cb] 30) := by
  refine callsIn_wide.2 ?_
  go_enter Tryz.func77, Tryz.ntmps77
  go_wp2_with fail
  go_ret
  exact ⟨rfl, rfl⟩
def uptoP {α : Type} (f : Nat → α) (k : Nat) : List α := (List.range k).map f
theorem uptoP_succ {α : Type} (f : Nat → α) (k : Nat) : uptoP f (k + 1) = uptoP f k ++ [f k] := by simp [uptoP, List.range_succ]
theorem uptoP_length {α : Type} (f : Nat → α) (k : Nat) : (uptoP f k).length = k := by simp [uptoP]
/-- What a round keeps: what lay below n₀, and the box of the second row. -/
def KpB (n₀ Bb : Nat) (W W' : World) : Prop := Below n₀ W W' ∧ ∀ v, W.cell? ⟨Bb, 0, none⟩ = some v → W'.cell? ⟨Bb, 0, none⟩ = some v
theorem kpB_t {n₀ Bb : Nat} {A B C : World} (h : KpB n₀ Bb A B) (k : KpB n₀ Bb B C) : KpB n₀ Bb A C := ⟨h.1.trans k.1, fun v hv => k.2 v (h.2 v hv)⟩
theorem kpB_b {n₀ Bb : Nat} {w : World} (hn : n₀ ≤ w.heap.size) (W : World) (l : Nat) (o o' : Obj) (hl : w.heap.size ≤ l) (h : W.heap[l]? = some o) (h1 : o.isCells = false) (h2 : o.isWalk = false) : KpB n₀ Bb W (W.putObj l o') :=
  ⟨belowK_b hn W l o o' hl h h1 h2, fun _ hv => cell_kept hv (grownBy_putObj' W l o') (fun r e => by cases e; exact ⟨o, h, h1⟩)⟩
def pairF (xs ys : List Int) (j : Nat) : Int × Int := (xs[j]?.getD 0, ys[j]?.getD 0)
abbrev encP (p : Int × Int) : Array Value := #[.int .i64 p.1, .int .i64 p.2]
set_option maxRecDepth 100000 in
set_option maxHeartbeats 2000000 in
theorem pairs1_in (n l Ba Bb ga oa ca gb ob cb len : Nat) (sa sb : Option Addr) (xs ys : List Int) (hn : 1 ≤ n) (hlen : len ≤ 1000) (hla : xs.length = len) (hlb : ys.length = len) (w0 : World) (hSa : Sl w0 sa ga oa (is xs)) (hSb : Sl w0 sb gb ob (is ys)) (J Jx : List (Int × Int) → World → Prop)
    (hY : ∀ pre x W, J pre W → pre.length < len → YieldAt Fence.wide (n - 1) Tryz.prog l (encP x) W fun e W' =>
      (e = .returned (.bool true) ∧ J (pre ++ [x]) W' ∧ KpB w0.heap.size Bb W W') ∨ (e = .returned (.bool false) ∧ Jx (pre ++ [x]) W'))
    (W : World) (hE : Ext w0 W) (hBa : W.cell? ⟨Ba, 0, none⟩ = some (.slice sa len ca)) (hBb : W.cell? ⟨Bb, 0, none⟩ = some (.slice sb len cb)) (h0 : J [] W) :
    CallsIn Fence.wide n Tryz.prog 114 #[.func (.yield l) #[] #[], .pointer (some ⟨Ba, 0, none⟩), .pointer (some ⟨Bb, 0, none⟩)] W fun e W' => (∃ v, e = .returned v) ∧
      ((∃ zs, zs = uptoP (pairF xs ys) len ∧ J zs W') ∨ (∃ pre, (∃ k, k ≤ len ∧ pre = uptoP (pairF xs ys) k) ∧ Jx pre W')) := by
  have HA := Lib.hid hSa
  have HB := Lib.hid hSb
  have Hla := Lib.hid hla
  have Hlb := Lib.hid hlb
  clear hSa hSb hla hlb
  refine callsIn_of_wp Tryz.func114 rfl trivial ?_ rfl
  simp only [Tryz.ntmps114, List.size_toArray, List.length_cons, List.length_nil, Nat.reduceAdd, Nat.reduceSub, Array.replicate_succ, Array.replicate_zero, List.push_toArray, List.append_toArray, List.nil_append, List.cons_append]
  gi_wp2
  gi_loopw [8] (fun i wr => ∃ k : Nat, k ≤ len ∧ i = .int .i64 k ∧ J (uptoP (pairF xs ys) k) wr ∧ Ext w0 wr ∧ wr.cell? ⟨Bb, 0, none⟩ = some (.slice sb len cb))
    (fun i _ => len - (intOf i).toNat)
  case atStart => exact ⟨0, Nat.zero_le _, rfl, h0, hE, hBb⟩
  case round =>
    obtain ⟨k, hk, rfl, hJs, hX, hc⟩ := hrel
    by_cases hlt : k < len
    · have hka : k < xs.length := by rw [Hla.out]; exact hlt
      have hkb : k < ys.length := by rw [Hlb.out]; exact hlt
      have c1 := (HA.out.ext hX).cell k (.int .i64 (xs[k]?.getD 0)) (by rw [List.getElem?_eq_getElem hka]; exact is_get hka)
      have c2 := (HB.out.ext hX).cell k (.int .i64 (ys[k]?.getD 0)) (by rw [List.getElem?_eq_getElem hkb]; exact is_get hkb)
      obtain rfl := HA.out.addr (by rw [is_length]; omega)
      obtain rfl := HB.out.addr (by rw [is_length]; omega)
      obtain ⟨fn, tmps, assign, body, hy, hR⟩ := hY _ (pairF xs ys k) wr hJs (by rw [uptoP_length]; exact hlt)
      dsimp only [encP, pairF] at hy
      clear hka hkb
      gi_wp2
      refine hR.mono ?_
      rintro e W3 (⟨rfl, hJ3, hk3⟩ | ⟨rfl, hJx3⟩)
      · gi_wp2
        go_roundw
        case rel => exact ⟨k + 1, by omega, by simp, by rw [uptoP_succ]; exact hJ3, Ext.mk' (Below.trans hX hk3.1), hk3.2 _ hc⟩
        case measure => simp [intOf]; omega
      · gi_wp2
        refine bodyPost_ret (results_none rfl _ _ _) rfl ?_
        exact ⟨⟨_, rfl⟩, .inr ⟨_, ⟨k + 1, by omega, (uptoP_succ _ _).symm⟩, hJx3⟩⟩
    · obtain rfl : k = len := by omega
      gi_wp2
      go_end0
      exact ⟨⟨_, rfl⟩, .inl ⟨_, rfl, hJs⟩⟩
theorem pairs_stops (n Ba Bb ga oa ca gb ob cb len : Nat) (sa sb : Option Addr) (xs ys : List Int) (hn : 1 ≤ n) (hlen : len ≤ 1000) (hla : xs.length = len) (hlb : ys.length = len) (w0 w : World) (hE : Ext w0 w) (hSa : Sl w0 sa ga oa (is xs)) (hSb : Sl w0 sb gb ob (is ys))
    (hBa : w.cell? ⟨Ba, 0, none⟩ = some (.slice sa len ca)) (hBb : w.cell? ⟨Bb, 0, none⟩ = some (.slice sb len cb)) :
    SeqStopsK Fence.wide n Tryz.prog 114 #[.pointer (some ⟨Ba, 0, none⟩), .pointer (some ⟨Bb, 0, none⟩)] encP (KpB w0.heap.size Bb) (fun zs => zs = uptoP (pairF xs ys) len) (fun pre => ∃ k, k ≤ len ∧ pre = uptoP (pairF xs ys) k) len w := fun l J Jx W hW _ _ hY h0 =>
  pairs1_in n l Ba Bb ga oa ca gb ob cb len sa sb xs ys hn hlen hla hlb w0 hSa hSb J Jx hY W (hE.trans hW) (Ext.cell hW hBa) (Ext.cell hW hBb) h0
end Go.Proofs.YtnmmglnadnfoiaaGreatDoor
/- row: Sub, Add. -/
namespace Go.Proofs.YtnmmglnadnfoiaaGreatDoor
open Go.RowKit Go.Sort Go.Shelf
attribute [local go_sem] Oper.semAt_some
/-- The values reckoned of pairs. -/
def subP (zs : List (Int × Int)) : List Int := zs.map fun p => wrap64 (p.1 - p.2)
theorem subP_snoc (zs : List (Int × Int)) (x : Int × Int) : subP (zs ++ [x]) = subP zs ++ [wrap64 (x.1 - x.2)] := by simp [subP]
theorem subP_length (zs : List (Int × Int)) : (subP zs).length = zs.length := by simp [subP]
def subR (a b : List Int) : List Int := List.zipWith (fun x y => x - y) a b
theorem subP_all {n : Nat} {a b : List Int} (la : a.length = n) (lb : b.length = n) (ha : ∀ z ∈ a, -1000000000 ≤ z ∧ z ≤ 1000000000) (hb : ∀ z ∈ b, -1000000000 ≤ z ∧ z ≤ 1000000000) : subP (uptoP (pairF a b) n) = subR a b := by
  refine List.ext_getElem (by rw [subP_length]; simp [uptoP, subR, la, lb]) fun i h1 h2 => ?_
  have hi : i < n := by rw [subP_length] at h1; simpa [uptoP] using h1
  have h3 := ha _ (List.getElem_mem (show i < a.length by omega))
  have h4 := hb _ (List.getElem_mem (show i < b.length by omega))
  simp only [subP, uptoP, pairF, subR, List.getElem_map, List.getElem_range, List.getElem_zipWith]
  rw [List.getElem?_eq_getElem (by omega), List.getElem?_eq_getElem (by omega)]
  simp only [Option.getD_some]
  exact IntWalk.wrap64_in _ (by omega)
/-- What row.Sub hands back. -/
def SubPost (w : World) (n : Nat) (d : List Int) (e : Ending) (w' : World) : Prop :=
  ∃ g c, e = .returned (.tuple #[if chkRow d = 0 then slv g n c else .slice none 0 0, .int .i64 (chkRow d)]) ∧ RowV w.heap.size w' (slv g n c) d ∧ Ext w w'
set_option maxRecDepth 100000 in
set_option maxHeartbeats 4000000 in
theorem rowSub_any {w : World} {sa sb : Option Addr} {n ca cb : Nat} {a b : List Int} (hA : RowR w (.slice sa n ca) a) (hB : RowR w (.slice sb n cb) b) (ea : chkRow a = 0) (eb : chkRow b = 0) (la : a.length = n) (lb : b.length = n) :
    Calls Tryz.prog 71 #[.slice sa n ca, .slice sb n cb] w (SubPost w n (subR a b)) := by
  have Hall := Lib.hid (subP_all la lb (chkRow_ok ea).2 (chkRow_ok eb).2)
  have hbo := Lib.hid (rboth_ok hA hB ea eb (by rw [la, lb]))
  have hn64 : n ≤ 64 := by have := (chkRow_ok ea).1; omega
  obtain ⟨i0, hi, hz0, hz1, hz2⟩ := info_parts Tryz.infoInt
  obtain ⟨sa', ga, oa, ca', hva, hca, hSa⟩ := hA
  obtain ⟨sb', gb, ob, cb', hvb, hcb, hSb⟩ := hB
  injection hva with q1 q2 q3
  subst q1 q3
  clear q2
  injection hvb with q1 q2 q3
  subst q1 q3
  clear q2
  have HA := Lib.hid hSa
  have HB := Lib.hid hSb
  have Hla := Lib.hid la
  have Hlb := Lib.hid lb
  have Hinfo := Lib.hid (⟨hi, hz0, hz1, hz2⟩ : _ ∧ _ ∧ _ ∧ _)
  clear hSa hSb la lb ea eb hcb hca hi hz0 hz1 hz2
  refine (callsIn_wide (n := 6)).1 ?_
  refine callsIn_of_wp_marks Tryz.func71 rfl trivial ?_ rfl
  simp only [Tryz.ntmps71, List.size_toArray, List.length_cons, List.length_nil, Nat.reduceAdd, Nat.reduceSub, Array.replicate_succ, Array.replicate_zero, List.push_toArray, List.append_toArray, List.nil_append, List.cons_append]
  gi_wp2
  refine ⟨trivial, (callsIn_wide.2 hbo.out).mono ?_⟩
  rintro e w1 ⟨rfl, hE1⟩
  gi_wp2_with (gi_at_make; refine wpListIn_make_own _ rfl _ _ 30 rfl w.heap.size 3 i0 (.int .i64 0) 1 Tryz.underlying30 Hinfo.out.1 Hinfo.out.2.1 Hinfo.out.2.2.1 .i64 .i64 _ n rfl rfl rfl (by rw [Hinfo.out.2.2.2]; omega) (by unfold maxLen; omega) (by have := hE1.size; omega) ?_; intro w2 hown2 hgrow2)
  refine ⟨trivial, pairs_any.mono ?_⟩
  rintro e w3 ⟨rfl, rfl⟩
  have hE2 : Ext w w2 := hE1.trans (Ext.mk' (Below.grown (Below.refl _ _) hgrow2 (Nat.le_refl _) (fun q hq => by cases hq)))
  have bO := ((Boxed.new w2 30 (.slice (some ⟨w1.heap.size, 0, none⟩) 0 n)).alloc (.cells #[.slice sa n ca] 30)).alloc (.cells #[.slice sb n cb] 30)
  have bA := (Boxed.new (w2.alloc (.cells #[.slice (some ⟨w1.heap.size, 0, none⟩) 0 n] 30)) 30 (.slice sa n ca)).alloc (.cells #[.slice sb n cb] 30)
  have bB := Boxed.new ((w2.alloc (.cells #[.slice (some ⟨w1.heap.size, 0, none⟩) 0 n] 30)).alloc (.cells #[.slice sa n ca] 30)) 30 (.slice sb n cb)
  simp only [World.size_alloc] at bA bB
  have hE3 := ((hE2.alloc (.cells #[.slice (some ⟨w1.heap.size, 0, none⟩) 0 n] 30)).alloc (.cells #[.slice sa n ca] 30)).alloc (.cells #[.slice sb n cb] 30)
  have hown3 := ownsRow_ext (ownsRow_ext (ownsRow_ext hown2 ((Ext.refl w2).alloc (.cells #[.slice (some ⟨w1.heap.size, 0, none⟩) 0 n] 30))) ((Ext.refl _).alloc (.cells #[.slice sa n ca] 30))) ((Ext.refl _).alloc (.cells #[.slice sb n cb] 30))
  simp only [World.size_alloc]
  have hsz2 := hE2.size
  obtain ⟨Bo, hBo⟩ : ∃ Bo, Bo = w2.heap.size := ⟨_, rfl⟩
  obtain ⟨w3, hw3⟩ : ∃ w3, ((w2.alloc (.cells #[.slice (some ⟨w1.heap.size, 0, none⟩) 0 n] 30)).alloc (.cells #[.slice sa n ca] 30)).alloc (.cells #[.slice sb n cb] 30) = w3 := ⟨_, rfl⟩
  have hsz3 : w3.heap.size = Bo + 3 := by rw [← hw3, hBo]; simp
  rw [← hBo] at bO bA bB hsz2 ⊢
  rw [hw3] at bO bA bB hE3 hown3 ⊢
  clear hw3 hown2 hgrow2 hE2 hBo
  generalize w1.heap.size = g0 at *
  gi_wp2
  refine wpIn_rangeFunc_ownG (Kp := KpB w.heap.size (Bo + 1 + 1)) rfl (by omega) (gf := 114) (lb := #[.pointer (some ⟨Bo + 1, 0, none⟩), .pointer (some ⟨Bo + 1 + 1, 0, none⟩)]) rfl trivial (enters_of Tryz.func114 (by kernel_rfl) rfl)
    (pairs_stops _ (Bo + 1) (Bo + 1 + 1) ga oa ca gb ob cb n sa sb a b (by omega) (by omega) Hla.out Hlb.out w w3 hE3 HA.out HB.out bA.cell bB.cell) kpB_t (kpB_b (by omega)) (Below.refl _ _) (fun _ => rfl)
    (fun pre W => (∃ v, Boxed W Bo 30 v ∧ W.ownsRow w.heap.size 3 1 v (subP pre).length (is (subP pre)) ∧ ∃ g c, v = .slice (some ⟨g, 0, none⟩) (subP pre).length c) ∧ Boxed W (Bo + 1 + 1) 30 (.slice sb n cb) ∧ Below w.heap.size w W)
    (fun _ _ _ => False)
    (OwnFrom.and (Own.from (holdsRow_own w.heap.size Bo 30 3 1 (fun pre => (subP pre).length) (fun pre => is (subP pre)) (fun pre v => ∃ g c, v = .slice (some ⟨g, 0, none⟩) (subP pre).length c)) _) (OwnFrom.and (Own.from (boxed_own (Bo + 1 + 1) 30 (fun _ => .slice sb n cb)) _) (ownFrom_below (Nat.le_refl _) (by omega))))
    (fun _ _ _ _ _ hs _ _ => hs)
    ⟨⟨_, bO, hown3, _, _, rfl⟩, bB, hE3⟩
    (fun x => { tmps := #[.slice sa n ca, .slice sb n cb, undef, undef, .slice none 0 0, .int .i64 0, .int .i64 0, .pointer (some ⟨Bo, 0, none⟩), .int .i64 x.1, .int .i64 x.2, .slice sa n ca, .slice sb n cb, .int .i64 0, .int .i64 0, .bool false, undef, .slice sa n ca, .int .i64 n, .slice (some ⟨g0, 0, none⟩) 0 n, .slice sa n ca, .slice sb n cb, .func (.func 114) #[] #[.pointer (some ⟨Bo + 1, 0, none⟩), .pointer (some ⟨Bo + 1 + 1, 0, none⟩)], .int .i64 x.1, .int .i64 x.2, undef, undef, undef, undef, undef, undef, undef, undef, undef, undef], defers := [] }) ?assign ?body ?done ?stop
  case assign =>
    intro l x W K hK
    gi_wp2
    exact hK
  case body =>
    rintro l pre x W ⟨⟨v, hv, hrow, hg⟩, hb, hB⟩ hlt
    have hc := hv.cell
    gi_wp2_with (gi_at_builtin; refine wpListIn_append_own _ rfl _ _ 30 rfl w.heap.size 3 i0 (.int .i64 0) 1 8 Tryz.underlying30 Hinfo.out.1 Hinfo.out.2.1 Hinfo.out.2.2.1 Hinfo.out.2.2.2 rfl (by decide) _ _ _ rfl (hrow.alloc _) ⟨W.heap.size, 0, none⟩ 1 1 [.int .i64 (wrap64 (x.1 - x.2))] rfl rfl (cell_one_new _ _ _) (by simp [Value.oneCell']) (by unfold maxLen; rw [subP_length]; omega) (by rw [subP_length]; omega) (by have := hB.size; simp; omega) ?_; intro v' w1 hown' hgrow _; obtain ⟨g', cap', rfl⟩ := ownsRow_succ hown'; obtain ⟨hv1, hv2, hr2, hk2, hb2⟩ := hv.appended (by decide) hrow hB.size (by omega) hown' hgrow; have hbb := ((hb.alloc _).kept hgrow (hb.not_row (by decide) hrow)).other (B' := Bo) (by omega) (.slice (some ⟨g', 0, none⟩) ((subP pre).length + 1) cap'); have hc1 := hv1.cell; have hf1 := hv1.frozen)
    refine ⟨hk2.from _, ⟨hb2, fun u hu => ?_⟩, ⟨_, hv2, ?_, g', cap', ?_⟩, hbb, hB.trans hb2⟩
    · rw [hb.cell] at hu; cases hu; exact hbb.cell
    · have e : (subP (pre ++ [x])).length = (subP pre).length + 1 := by simp [subP_length]
      rw [e, subP_snoc, is_snoc]; exact hr2
    · have e : (subP (pre ++ [x])).length = (subP pre).length + 1 := by simp [subP_length]
      rw [e]
  case done =>
    rintro D ys W hD rfl ⟨⟨v, hv, hrow, g, c, hvg⟩, hb, hB⟩ hK
    have hln : (subP (uptoP (pairF a b) n)).length = n := by rw [subP_length, uptoP_length]
    rw [hln] at hvg
    subst hvg
    rw [hln, Hall.out] at hrow
    rw [Hall.out] at hln
    have hrv : RowV w.heap.size W (slv g n c) (subR a b) := by unfold RowV; rw [hln]; exact hrow
    have hc := hv.cell
    have hres := Lib.hid (rresult_any hrv.row)
    unfold ResPost at hres
    have Hrv := Lib.hid hrv
    clear hrv hrow
    obtain ⟨rv, hrv⟩ : ∃ rv, rv = if chkRow (subR a b) = 0 then slv g n c else .slice none 0 0 := ⟨_, rfl⟩
    obtain ⟨z, hz⟩ : ∃ z, z = chkRow (subR a b) := ⟨_, rfl⟩
    have Hpost := Lib.hid (fun W' (hW : RowV w.heap.size W' (slv g n c) (subR a b)) (hX : Ext w W') => (⟨g, c, by rw [← hrv, ← hz], hW, hX⟩ : SubPost w n (subR a b) (.returned (.tuple #[rv, .int .i64 z])) W'))
    rw [← hrv, ← hz] at hres
    clear hz hrv
    gi_wp2
    refine ⟨trivial, (callsIn_wide.2 hres.out).mono ?_⟩
    rintro e w5 ⟨rfl, hE5⟩
    have hK5 := (hE5.block D (Array.getElem?_eq_some_iff.1 hK).1).trans hK
    gi_wp2
    refine ⟨by simp, .inl ⟨_, _, rfl, run_takeDeferred hK5, ?_⟩⟩
    refine ⟨.tuple #[rv, .int .i64 z], ?_, Hpost.out _ (ownsRow_putObj (Hrv.out.ext hE5) _ hK5 rfl) ?_⟩
    · simp [results, Tryz.results71, go_sem]
    · exact Ext.mk' ((Below.trans hB (Below.mono hE5 hB.size)).trans (belowK_b (w := w) (Nat.le_refl _) w5 D _ _ (by omega) hK5 rfl rfl))
  case stop =>
    rintro D c pre W _ _ h _
    exact h.elim
end Go.Proofs.YtnmmglnadnfoiaaGreatDoor
