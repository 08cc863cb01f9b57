/- Part 29 of the proof of the claim: contracts of the functions that it reaches, and plain laws; no condition. -/
import Derived.Test.YtokjolmpdfmnbaaGreatDoorU28
import Derived.Deep.CutRange
import Derived.Test.YtokjolmpdfmnbaaGreatDoorU24
import Derived.Test.YtokjolmpdfmnbaaGreatDoorU25
import Derived.BigQuiet
namespace Go.Proofs.YtokjolmpdfmnbaaGreatDoor
open Go.RowKit Go.Sort
structure plC (W : World) (g : Nat) (P : Pl) : Prop where
  k0 : W.cell? ⟨g, 0, none⟩ = some (.bool P.hx)
  k1 : W.cell? ⟨g, 1, none⟩ = some (.int .u8 P.m)
  k2 : W.cell? ⟨g, 2, none⟩ = some (.int .i8 P.a)
  k3 : W.cell? ⟨g, 3, none⟩ = some (.int .i8 P.b)
  k4 : W.cell? ⟨g, 4, none⟩ = some (.int .i8 P.c)
  k5 : W.cell? ⟨g, 5, none⟩ = some (.int .i8 P.d)
  k6 : W.cell? ⟨g, 6, none⟩ = some (.int .i8 P.e)
  k7 : W.cell? ⟨g, 7, none⟩ = some (.int .i8 P.f)
  k8 : W.cell? ⟨g, 8, none⟩ = some (.int .i8 P.p)
  k9 : W.cell? ⟨g, 9, none⟩ = some (.int .i8 P.q)
  k10 : W.cell? ⟨g, 10, none⟩ = some (.int .i8 P.s)
theorem plC.ext {W W' : World} {g : Nat} {P : Pl} (h : plC W g P) (hE : Ext W W') : plC W' g P :=
  ⟨hE.cell h.k0, hE.cell h.k1, hE.cell h.k2, hE.cell h.k3, hE.cell h.k4, hE.cell h.k5, hE.cell h.k6, hE.cell h.k7, hE.cell h.k8, hE.cell h.k9, hE.cell h.k10⟩
theorem plC_new (w : World) (P : Pl) : plC (w.alloc (.cells #[.bool P.hx, .int .u8 P.m, .int .i8 P.a, .int .i8 P.b, .int .i8 P.c, .int .i8 P.d, .int .i8 P.e, .int .i8 P.f, .int .i8 P.p, .int .i8 P.q, .int .i8 P.s] 76)) w.heap.size P :=
  ⟨by go_simp, by go_simp, by go_simp, by go_simp, by go_simp, by go_simp, by go_simp, by go_simp, by go_simp, by go_simp, by go_simp⟩
theorem lay_new (w : World) (T : TypeId) (a b c d : Value) : OwnV T w.heap.size (w.alloc (.cells #[a, b, c, d] T)) w.heap.size 4 [a, b, c, d] :=
  OwnV.of (Nat.le_refl _) Array.getElem?_push_size (by simp) (by unfold maxLen; omega) rfl rfl
theorem four_facts {T : TypeId} {B g : Nat} {W : World} {a b c d : Value} (h : OwnV T B W g 4 [a, b, c, d]) : (W.cell? ⟨g, 0, none⟩ = some a ∧ W.cell? ⟨g, 1, none⟩ = some b ∧ W.cell? ⟨g, 2, none⟩ = some c ∧ W.cell? ⟨g, 3, none⟩ = some d) ∧ W.frozen? ⟨g, 0, none⟩ = false ∧ W.frozen? ⟨g, 1, none⟩ = false ∧ W.frozen? ⟨g, 2, none⟩ = false ∧ W.frozen? ⟨g, 3, none⟩ = false :=
  ⟨⟨h.cell (j := 0) (by simp), h.cell (j := 1) (by simp), h.cell (j := 2) (by simp), h.cell (j := 3) (by simp)⟩, h.frozen 0, h.frozen 1, h.frozen 2, h.frozen 3⟩
theorem four_set {T : TypeId} {B g : Nat} {W : World} {a b c d : Value} (h : OwnV T B W g 4 [a, b, c, d]) (v0 v1 v2 v3 : Value) :
    OwnV T B ((((W.setCell ⟨g, 0, none⟩ v0).setCell ⟨g, 1, none⟩ v1).setCell ⟨g, 2, none⟩ v2).setCell ⟨g, 3, none⟩ v3) g 4 [v0, v1, v2, v3] ∧ W.grownBy ((((W.setCell ⟨g, 0, none⟩ v0).setCell ⟨g, 1, none⟩ v1).setCell ⟨g, 2, none⟩ v2).setCell ⟨g, 3, none⟩ v3) (some g) := by
  obtain ⟨h1, g1⟩ := h.set 0 v0
  obtain ⟨h2, g2⟩ := h1.set 1 v1
  obtain ⟨h3, g3⟩ := h2.set 2 v2
  obtain ⟨h4, g4⟩ := h3.set 3 v3
  exact ⟨h4, grown_trans (grown_trans (grown_trans g1 g2) g3) g4⟩
section
variable {P : Program} {ops : Array Oper} {md : Region.Mode} {Q : Exit → Act → World → Prop} {S : World → Prop}
theorem wpAnyLH_two {n i j f : Nat} {o p : Oper} {L : Array Bool → Act → World → Prop} {listed : Array Bool} {a : Act} {w : World} (hi : ops[i]? = some o) (hj : ops[j]? = some p) (hr : (Region.ready md ops listed == [i, j] && decide (i < n) && decide (j < n)) = true)
    (h1 : ∀ K' : Act → World → Prop, (∀ a w, S w → wpAnyLH P md ops Q S n L f (listed.setIfInBounds i true) a w → K' a w) → if Region.wanted o (yielded ops a.tmps) = true then Oper.wp P o a w K' Q else K' (a.put o.dst undef) w)
    (h2 : ∀ K' : Act → World → Prop, (∀ a w, S w → wpAnyLH P md ops Q S n L f (listed.setIfInBounds j true) a w → K' a w) → if Region.wanted p (yielded ops a.tmps) = true then Oper.wp P p a w K' Q else K' (a.put p.dst undef) w) : wpAnyLH P md ops Q S n L (f + 1) listed a w := by
  simp only [Bool.and_eq_true, decide_eq_true_eq, beq_iff_eq] at hr
  refine ⟨fun h0 => (by rw [h0] at hr; cases hr.1.1), fun k hk => ?_⟩
  rw [hr.1.1] at hk
  simp only [List.mem_cons, List.not_mem_nil, or_false] at hk
  rcases hk with rfl | rfl
  · exact ⟨hr.1.2, wpOp_step hi (fun K' hK => h1 K' (fun a w hS hW => hK a w ⟨hS, hW⟩))⟩
  · exact ⟨hr.2, wpOp_step hj (fun K' hK => h2 K' (fun a w hS hW => hK a w ⟨hS, hW⟩))⟩
end
theorem range3 {w : World} {b o : Nat} {x y z : Value} (h0 : w.cell? ⟨b, o, none⟩ = some x) (h1 : w.cell? ⟨b, o + 1, none⟩ = some y) (h2 : w.cell? ⟨b, o + 2, none⟩ = some z) : w.rangeAt b o [x, y, z] := fun j v hj => by
  match j with
  | 0 => simp at hj; subst hj; exact h0
  | 1 => simp at hj; subst hj; exact h1
  | 2 => simp at hj; subst hj; exact h2
  | j + 3 => simp at hj
def MkPost (w : World) (P : Pl) (e : Ending) (w' : World) : Prop :=
  ∃ g1 g2 g3, e = .returned (layv P.k P.n g1 P.n g2 P.n g3 P.n) ∧ PlP w' P g1 g2 g3 ∧ Ext w w'
theorem own_rowP {B : Nat} {w : World} {g n : Nat} {x : List Int} (h : OwnV 3 B w g n (is x)) (hl : x.length = n) : RowP w g n x := ⟨by omega, h.sl⟩
theorem mk_leaf {X W : World} {bl n g1 g2 g3 : Nat} {a b c d : Value} {oo rr uu : List Int} (hB : OwnV 54 X.heap.size W bl 4 [a, b, c, d]) (h1 : OwnV 3 0 W g1 n (is oo)) (h2 : OwnV 3 0 W g2 n (is rr)) (h3 : OwnV 3 0 W g3 n (is uu)) (hX : Ext X W) (v0 v1 v2 v3 : Value) :
    Hid (OwnV 54 X.heap.size ((((W.setCell ⟨bl, 0, none⟩ v0).setCell ⟨bl, 1, none⟩ v1).setCell ⟨bl, 2, none⟩ v2).setCell ⟨bl, 3, none⟩ v3) bl 4 [v0, v1, v2, v3])
      ∧ Hid (OwnV 3 0 ((((W.setCell ⟨bl, 0, none⟩ v0).setCell ⟨bl, 1, none⟩ v1).setCell ⟨bl, 2, none⟩ v2).setCell ⟨bl, 3, none⟩ v3) g1 n (is oo))
      ∧ Hid (OwnV 3 0 ((((W.setCell ⟨bl, 0, none⟩ v0).setCell ⟨bl, 1, none⟩ v1).setCell ⟨bl, 2, none⟩ v2).setCell ⟨bl, 3, none⟩ v3) g2 n (is rr))
      ∧ Hid (OwnV 3 0 ((((W.setCell ⟨bl, 0, none⟩ v0).setCell ⟨bl, 1, none⟩ v1).setCell ⟨bl, 2, none⟩ v2).setCell ⟨bl, 3, none⟩ v3) g3 n (is uu))
      ∧ Ext X ((((W.setCell ⟨bl, 0, none⟩ v0).setCell ⟨bl, 1, none⟩ v1).setCell ⟨bl, 2, none⟩ v2).setCell ⟨bl, 3, none⟩ v3) := by
  obtain ⟨hS1, hS2⟩ := four_set hB v0 v1 v2 v3
  have hk : ∀ {B g : Nat} {x : List Int}, OwnV 3 B W g n (is x) → OwnV 3 B ((((W.setCell ⟨bl, 0, none⟩ v0).setCell ⟨bl, 1, none⟩ v1).setCell ⟨bl, 2, none⟩ v2).setCell ⟨bl, 3, none⟩ v3) g n (is x) := fun h => own_kept h hB (by decide) hS2
  exact ⟨Lib.hid hS1, Lib.hid (hk h1), Lib.hid (hk h2), Lib.hid (hk h3), ext_trans_grown hX hS2 hB.lt.1⟩
set_option maxRecDepth 100000 in
set_option maxHeartbeats 4000000 in
theorem make44 {w : World} {P : Pl} (hP : P.ok) : Calls Tryz.prog 35 #[P.v] w (MkPost w P) := by
  have hn3 := P.n3
  have hr1 := Lib.hid (fun W => row44_any (w := W) hn3 hP.a hP.b hP.c)
  have hr2 := Lib.hid (fun W => row44_any (w := W) hn3 hP.d hP.e hP.f)
  have hr3 := Lib.hid (fun W => row44_any (w := W) hn3 hP.p hP.q hP.s)
  obtain ⟨hm1, hm2⟩ := hP.m
  have hmn : P.m % 4 = (P.n : Int) := Pl.nI
  have hmt : P.m.tmod 4 = (P.n : Int) := by rw [Int.tmod_eq_emod_of_nonneg hm1]; exact hmn
  have Hlo := Lib.hid P.lo
  have Hlr := Lib.hid P.lr
  have Hlu := Lib.hid P.lu
  have Hk : Hid (P.k = if P.hx then 2 else 1) := Lib.hid rfl
  have Hpost : Hid (∀ W g1 g2 g3 (e : Ending), e = .returned (layv P.k P.n g1 P.n g2 P.n g3 P.n) → RowP W g1 P.n P.o → RowP W g2 P.n P.r → RowP W g3 P.n P.u → Ext w W → MkPost w P e W) := Lib.hid (fun W g1 g2 g3 e he h1 h2 h3 hE => ⟨g1, g2, g3, he, ⟨P.kind, by omega, P.lo, P.lr, P.lu, P.eo, P.er, P.eu, h1, h2, h3⟩, hE⟩)
  rw [show plTo P.n [P.a, P.b, P.c] P.n = P.o from rfl] at hr1
  rw [show plTo P.n [P.d, P.e, P.f] P.n = P.r from rfl] at hr2
  rw [show plTo P.n [P.p, P.q, P.s] P.n = P.u from rfl] at hr3
  generalize P.o = oo at *
  generalize P.r = rr at *
  generalize P.u = uu at *
  generalize P.n = n at *
  generalize P.k = k at *
  have hpc := plC_new w P
  have hres := (lay_new (w.alloc (.cells #[.bool P.hx, .int .u8 P.m, .int .i8 P.a, .int .i8 P.b, .int .i8 P.c, .int .i8 P.d, .int .i8 P.e, .int .i8 P.f, .int .i8 P.p, .int .i8 P.q, .int .i8 P.s] 76)) 54 (.int .i64 0) (.slice none 0 0) (.slice none 0 0) (.slice none 0 0))
  clear hP
  go_enter Tryz.func35, Tryz.ntmps35
  go_wp2_with fail
  replace hpc := hpc.ext ((Ext.refl _).alloc (.cells #[.int .i64 0, .slice none 0 0, .slice none 0 0, .slice none 0 0] 54))
  obtain ⟨X, hX⟩ : ∃ X, ((w.alloc (.cells #[.bool P.hx, .int .u8 P.m, .int .i8 P.a, .int .i8 P.b, .int .i8 P.c, .int .i8 P.d, .int .i8 P.e, .int .i8 P.f, .int .i8 P.p, .int .i8 P.q, .int .i8 P.s] 76)).alloc (.cells #[.int .i64 0, .slice none 0 0, .slice none 0 0, .slice none 0 0] 54)) = X := ⟨_, rfl⟩
  have hEX : Ext w X := by rw [← hX]; exact ((Ext.refl w).alloc _).alloc _
  rw [World.size_alloc] at hres
  rw [hX] at hpc hres ⊢
  clear hX
  have hres2 := Lib.hid hres
  obtain ⟨bp, hbp⟩ : ∃ bp, bp = w.heap.size := ⟨_, rfl⟩
  have hbp2 := hres.lt
  rw [← hbp] at hpc ⊢
  have Hbp := Lib.hid hbp
  clear hbp hres
  go_cut [4] from 9 to 21 (fun lp wx => ∃ bl g1 g2 g3, lp = .pointer (some ⟨bl, 0, none⟩) ∧ Hid (OwnV 54 X.heap.size wx bl 4 [.int .i64 1, slv g1 n n, slv g2 n n, slv g3 n n]) ∧ Hid (OwnV 3 0 wx g1 n (is oo)) ∧ Hid (OwnV 3 0 wx g2 n (is rr)) ∧ Hid (OwnV 3 0 wx g3 n (is uu)) ∧ Ext X wx)
  case first =>
    have d7 : Ext X X.drew := (Ext.refl X).drew
    refine wp_region_held_tail (S := fun W => Ext X W) 14 (by kernel_rfl) (by simp) ?_
    intro inv
    refine wpAnyLH_take (i := 0) (v := .pointer (some ⟨bp, 2, none⟩)) rfl (by kernel_rfl) (fun _ _ _ h => h) (.inl ⟨by rfl, fun W hW => by go_simp⟩) d7 inv ?_
    intro inv
    refine wpAnyLH_take (i := 1) (v := .agg #[.int .i8 P.a, .int .i8 P.b, .int .i8 P.c]) rfl (by kernel_rfl) (fun _ _ _ h => h) (yieldsIf_load_mid (by rfl) 26 _ rfl bp 2 rfl [.int .i8 P.a, .int .i8 P.b, .int .i8 P.c] _ (fun W hW => range3 (hpc.ext hW).k2 (hpc.ext hW).k3 (hpc.ext hW).k4) Tryz.underlying26 rfl (by kernel_rfl)) d7 inv ?_
    intro inv
    refine wpAnyLH_take (i := 2) (v := .int .i64 n) rfl (by kernel_rfl) (fun _ _ _ h => h) (.inl ⟨by rfl, fun W hW => by go_simp⟩) d7 inv ?_
    intro inv
    refine wpAnyLH_take (i := 4) (v := .pointer (some ⟨bp, 5, none⟩)) rfl (by kernel_rfl) (fun _ _ _ h => h) (.inl ⟨by rfl, fun W hW => by go_simp⟩) d7 inv ?_
    intro inv
    refine wpAnyLH_take (i := 5) (v := .agg #[.int .i8 P.d, .int .i8 P.e, .int .i8 P.f]) rfl (by kernel_rfl) (fun _ _ _ h => h) (yieldsIf_load_mid (by rfl) 26 _ rfl bp 5 rfl [.int .i8 P.d, .int .i8 P.e, .int .i8 P.f] _ (fun W hW => range3 (hpc.ext hW).k5 (hpc.ext hW).k6 (hpc.ext hW).k7) Tryz.underlying26 rfl (by kernel_rfl)) d7 inv ?_
    intro inv
    refine wpAnyLH_take (i := 6) (v := .int .i64 n) rfl (by kernel_rfl) (fun _ _ _ h => h) (.inl ⟨by rfl, fun W hW => by go_simp⟩) d7 inv ?_
    intro inv
    refine wpAnyLH_take (i := 8) (v := .pointer (some ⟨bp, 8, none⟩)) rfl (by kernel_rfl) (fun _ _ _ h => h) (.inl ⟨by rfl, fun W hW => by go_simp⟩) d7 inv ?_
    intro inv
    refine wpAnyLH_take (i := 9) (v := .agg #[.int .i8 P.p, .int .i8 P.q, .int .i8 P.s]) rfl (by kernel_rfl) (fun _ _ _ h => h) (yieldsIf_load_mid (by rfl) 26 _ rfl bp 8 rfl [.int .i8 P.p, .int .i8 P.q, .int .i8 P.s] _ (fun W hW => range3 (hpc.ext hW).k8 (hpc.ext hW).k9 (hpc.ext hW).k10) Tryz.underlying26 rfl (by kernel_rfl)) d7 inv ?_
    intro inv
    refine wpAnyLH_take (i := 10) (v := .int .i64 n) rfl (by kernel_rfl) (fun _ _ _ h => h) (.inl ⟨by rfl, fun W hW => by go_simp⟩) d7 inv ?_
    intro inv
    refine wpAnyLH_two (i := 3) (j := 13) rfl rfl (by kernel_rfl) (fun K0 hK0 => ?_) (fun KA hKA => ?_)
    case refine_1 =>
      go_simp
      refine (hr1.out _).mono ?_
      rintro e W1 ⟨g1, rfl, hO1, hE1⟩
      have d1 := d7.trans hE1
      replace hO1 := hO1.mono (Nat.zero_le _)
      refine hK0 _ _ d1 ?_
      clear hK0
      refine wpAnyLH_two (i := 7) (j := 13) rfl rfl (by kernel_rfl) (fun K1 hK1 => ?_) (fun KA hKA => ?_)
      case refine_1 =>
        go_simp
        refine (hr2.out _).mono ?_
        rintro e W2 ⟨g2, rfl, hO2, hE2⟩
        have d2 := d1.trans hE2
        replace hO2 := hO2.mono (Nat.zero_le _)
        replace hO1 := hO1.ext hE2
        refine hK1 _ _ d2 ?_
        clear hK1
        refine wpAnyLH_two (i := 11) (j := 13) rfl rfl (by kernel_rfl) (fun K2 hK2 => ?_) (fun KA hKA => ?_)
        case refine_1 =>
          go_simp
          refine (hr3.out _).mono ?_
          rintro e W3 ⟨g3, rfl, hO3, hE3⟩
          have d3 := d2.trans hE3
          replace hO3 := hO3.mono (Nat.zero_le _)
          replace hO1 := hO1.ext hE3
          replace hO2 := hO2.ext hE3
          refine hK2 _ _ d3 ?_
          clear hK2
          refine wpAnyLH_two (i := 12) (j := 13) rfl rfl (by kernel_rfl) (fun K3 hK3 => ?_) (fun KA hKA => ?_)
          case refine_1 =>
            go_simp
            refine hK3 _ _ d3 ?_
            clear hK3
            refine wpAnyLH_one (i := 13) rfl (by kernel_rfl) (fun KA hKA => ?_)
            go_simp
            have dA := d3.alloc (.cells #[.int .i64 0, .slice none 0 0, .slice none 0 0, .slice none 0 0] 54)
            have hB := (lay_new W3 54 (.int .i64 0) (.slice none 0 0) (.slice none 0 0) (.slice none 0 0)).mono (show X.heap.size ≤ _ from d3.size)
            replace hO1 := hO1.ext ((Ext.refl _).alloc (.cells #[.int .i64 0, .slice none 0 0, .slice none 0 0, .slice none 0 0] 54))
            replace hO2 := hO2.ext ((Ext.refl _).alloc (.cells #[.int .i64 0, .slice none 0 0, .slice none 0 0, .slice none 0 0] 54))
            replace hO3 := hO3.ext ((Ext.refl _).alloc (.cells #[.int .i64 0, .slice none 0 0, .slice none 0 0, .slice none 0 0] 54))
            refine hKA _ _ dA ?_
            clear hKA
            refine wpAnyLH_end (by kernel_rfl) ?_
            generalize (W3.alloc (.cells #[.int .i64 0, .slice none 0 0, .slice none 0 0, .slice none 0 0] 54)) = WZ at *
            generalize W3.heap.size = bl at *
            obtain ⟨⟨q0, q1, q2, q3⟩, f0, f1, f2, f3⟩ := four_facts hB
            have HL := Lib.hid (mk_leaf hB hO1 hO2 hO3 dA (.int .i64 1) (slv g1 n n) (slv g2 n n) (slv g3 n n))
            clear hB hO1 hO2 hO3
            go_wp2_with fail
            go_meet
            exact ⟨_, g1, g2, g3, rfl, HL.out⟩
          case refine_2 =>
            go_simp
            have dA := d3.alloc (.cells #[.int .i64 0, .slice none 0 0, .slice none 0 0, .slice none 0 0] 54)
            have hB := (lay_new W3 54 (.int .i64 0) (.slice none 0 0) (.slice none 0 0) (.slice none 0 0)).mono (show X.heap.size ≤ _ from d3.size)
            replace hO1 := hO1.ext ((Ext.refl _).alloc (.cells #[.int .i64 0, .slice none 0 0, .slice none 0 0, .slice none 0 0] 54))
            replace hO2 := hO2.ext ((Ext.refl _).alloc (.cells #[.int .i64 0, .slice none 0 0, .slice none 0 0, .slice none 0 0] 54))
            replace hO3 := hO3.ext ((Ext.refl _).alloc (.cells #[.int .i64 0, .slice none 0 0, .slice none 0 0, .slice none 0 0] 54))
            refine hKA _ _ dA ?_
            clear hKA
            refine wpAnyLH_one (i := 12) rfl (by kernel_rfl) (fun K3 hK3 => ?_)
            go_simp
            refine hK3 _ _ dA ?_
            clear hK3
            refine wpAnyLH_end (by kernel_rfl) ?_
            generalize (W3.alloc (.cells #[.int .i64 0, .slice none 0 0, .slice none 0 0, .slice none 0 0] 54)) = WZ at *
            generalize W3.heap.size = bl at *
            obtain ⟨⟨q0, q1, q2, q3⟩, f0, f1, f2, f3⟩ := four_facts hB
            have HL := Lib.hid (mk_leaf hB hO1 hO2 hO3 dA (.int .i64 1) (slv g1 n n) (slv g2 n n) (slv g3 n n))
            clear hB hO1 hO2 hO3
            go_wp2_with fail
            go_meet
            exact ⟨_, g1, g2, g3, rfl, HL.out⟩
        case refine_2 =>
          go_simp
          have dA := d2.alloc (.cells #[.int .i64 0, .slice none 0 0, .slice none 0 0, .slice none 0 0] 54)
          have hB := (lay_new W2 54 (.int .i64 0) (.slice none 0 0) (.slice none 0 0) (.slice none 0 0)).mono (show X.heap.size ≤ _ from d2.size)
          replace hO1 := hO1.ext ((Ext.refl _).alloc (.cells #[.int .i64 0, .slice none 0 0, .slice none 0 0, .slice none 0 0] 54))
          replace hO2 := hO2.ext ((Ext.refl _).alloc (.cells #[.int .i64 0, .slice none 0 0, .slice none 0 0, .slice none 0 0] 54))
          refine hKA _ _ dA ?_
          clear hKA
          refine wpAnyLH_one (i := 11) rfl (by kernel_rfl) (fun K2 hK2 => ?_)
          go_simp
          refine (hr3.out _).mono ?_
          rintro e W3 ⟨g3, rfl, hO3, hE3⟩
          have d3 := dA.trans hE3
          replace hO3 := hO3.mono (Nat.zero_le _)
          replace hO1 := hO1.ext hE3
          replace hO2 := hO2.ext hE3
          replace hB := hB.ext hE3
          refine hK2 _ _ d3 ?_
          clear hK2
          refine wpAnyLH_one (i := 12) rfl (by kernel_rfl) (fun K3 hK3 => ?_)
          go_simp
          refine hK3 _ _ d3 ?_
          clear hK3
          refine wpAnyLH_end (by kernel_rfl) ?_
          generalize W3 = WZ at *
          generalize W2.heap.size = bl at *
          obtain ⟨⟨q0, q1, q2, q3⟩, f0, f1, f2, f3⟩ := four_facts hB
          have HL := Lib.hid (mk_leaf hB hO1 hO2 hO3 d3 (.int .i64 1) (slv g1 n n) (slv g2 n n) (slv g3 n n))
          clear hB hO1 hO2 hO3
          go_wp2_with fail
          go_meet
          exact ⟨_, g1, g2, g3, rfl, HL.out⟩
      case refine_2 =>
        go_simp
        have dA := d1.alloc (.cells #[.int .i64 0, .slice none 0 0, .slice none 0 0, .slice none 0 0] 54)
        have hB := (lay_new W1 54 (.int .i64 0) (.slice none 0 0) (.slice none 0 0) (.slice none 0 0)).mono (show X.heap.size ≤ _ from d1.size)
        replace hO1 := hO1.ext ((Ext.refl _).alloc (.cells #[.int .i64 0, .slice none 0 0, .slice none 0 0, .slice none 0 0] 54))
        refine hKA _ _ dA ?_
        clear hKA
        refine wpAnyLH_one (i := 7) rfl (by kernel_rfl) (fun K1 hK1 => ?_)
        go_simp
        refine (hr2.out _).mono ?_
        rintro e W2 ⟨g2, rfl, hO2, hE2⟩
        have d2 := dA.trans hE2
        replace hO2 := hO2.mono (Nat.zero_le _)
        replace hO1 := hO1.ext hE2
        replace hB := hB.ext hE2
        refine hK1 _ _ d2 ?_
        clear hK1
        refine wpAnyLH_one (i := 11) rfl (by kernel_rfl) (fun K2 hK2 => ?_)
        go_simp
        refine (hr3.out _).mono ?_
        rintro e W3 ⟨g3, rfl, hO3, hE3⟩
        have d3 := d2.trans hE3
        replace hO3 := hO3.mono (Nat.zero_le _)
        replace hO1 := hO1.ext hE3
        replace hO2 := hO2.ext hE3
        replace hB := hB.ext hE3
        refine hK2 _ _ d3 ?_
        clear hK2
        refine wpAnyLH_one (i := 12) rfl (by kernel_rfl) (fun K3 hK3 => ?_)
        go_simp
        refine hK3 _ _ d3 ?_
        clear hK3
        refine wpAnyLH_end (by kernel_rfl) ?_
        generalize W3 = WZ at *
        generalize W1.heap.size = bl at *
        obtain ⟨⟨q0, q1, q2, q3⟩, f0, f1, f2, f3⟩ := four_facts hB
        have HL := Lib.hid (mk_leaf hB hO1 hO2 hO3 d3 (.int .i64 1) (slv g1 n n) (slv g2 n n) (slv g3 n n))
        clear hB hO1 hO2 hO3
        go_wp2_with fail
        go_meet
        exact ⟨_, g1, g2, g3, rfl, HL.out⟩
    case refine_2 =>
      go_simp
      have dA := d7.alloc (.cells #[.int .i64 0, .slice none 0 0, .slice none 0 0, .slice none 0 0] 54)
      have hB := (lay_new X.drew 54 (.int .i64 0) (.slice none 0 0) (.slice none 0 0) (.slice none 0 0)).mono (show X.heap.size ≤ _ from d7.size)
      rw [show X.drew.heap.size = X.heap.size by simp] at hB
      refine hKA _ _ dA ?_
      clear hKA
      refine wpAnyLH_one (i := 3) rfl (by kernel_rfl) (fun K0 hK0 => ?_)
      go_simp
      refine (hr1.out _).mono ?_
      rintro e W1 ⟨g1, rfl, hO1, hE1⟩
      have d1 := dA.trans hE1
      replace hO1 := hO1.mono (Nat.zero_le _)
      replace hB := hB.ext hE1
      refine hK0 _ _ d1 ?_
      clear hK0
      refine wpAnyLH_one (i := 7) rfl (by kernel_rfl) (fun K1 hK1 => ?_)
      go_simp
      refine (hr2.out _).mono ?_
      rintro e W2 ⟨g2, rfl, hO2, hE2⟩
      have d2 := d1.trans hE2
      replace hO2 := hO2.mono (Nat.zero_le _)
      replace hO1 := hO1.ext hE2
      replace hB := hB.ext hE2
      refine hK1 _ _ d2 ?_
      clear hK1
      refine wpAnyLH_one (i := 11) rfl (by kernel_rfl) (fun K2 hK2 => ?_)
      go_simp
      refine (hr3.out _).mono ?_
      rintro e W3 ⟨g3, rfl, hO3, hE3⟩
      have d3 := d2.trans hE3
      replace hO3 := hO3.mono (Nat.zero_le _)
      replace hO1 := hO1.ext hE3
      replace hO2 := hO2.ext hE3
      replace hB := hB.ext hE3
      refine hK2 _ _ d3 ?_
      clear hK2
      refine wpAnyLH_one (i := 12) rfl (by kernel_rfl) (fun K3 hK3 => ?_)
      go_simp
      refine hK3 _ _ d3 ?_
      clear hK3
      refine wpAnyLH_end (by kernel_rfl) ?_
      generalize W3 = WZ at *
      obtain ⟨⟨q0, q1, q2, q3⟩, f0, f1, f2, f3⟩ := four_facts hB
      have HL := Lib.hid (mk_leaf hB hO1 hO2 hO3 d3 (.int .i64 1) (slv g1 n n) (slv g2 n n) (slv g3 n n))
      clear hB hO1 hO2 hO3
      go_wp2_with fail
      go_meet
      exact ⟨_, g1, g2, g3, rfl, HL.out⟩
  case rest =>
    obtain ⟨bl, g1, g2, g3, rfl, hB, hR1, hR2, hR3, hXc⟩ := hcut
    generalize wc = Y at *
    have hRB : OwnV 54 w.heap.size Y (bp + 1) 4 [.int .i64 0, .slice none 0 0, .slice none 0 0, .slice none 0 0] := by rw [Hbp.out]; exact (hres2.out.ext hXc).mono (by omega)
    have hEY := hEX.trans hXc
    have hEX0 := hEX.size
    have hbl : bp + 1 ≠ bl := by have := hB.out.lt; have := Hbp.out; omega
    have k0 := (hpc.ext hXc).k0
    obtain ⟨⟨q0, q1, q2, q3⟩, f0, f1, f2, f3⟩ := four_facts hB.out
    clear hpc hXc hres2 hbp2 hEX
    cases hx : P.hx
    · rw [hx] at k0
      obtain ⟨⟨r0, r1, r2, r3⟩, s0, s1, s2, s3⟩ := four_facts hRB
      obtain ⟨hF, hF1, hF2, hF3, hFE⟩ := mk_leaf hRB hR1.out hR2.out hR3.out hEY (.int .i64 1) (slv g1 n n) (slv g2 n n) (slv g3 n n)
      obtain ⟨⟨t0, t1, t2, t3⟩, _⟩ := four_facts hF.out
      have Hres := Lib.hid (Hpost.out _ g1 g2 g3 (.returned (layv 1 n g1 n g2 n g3 n)) (by rw [Hk.out, hx]; rfl) (own_rowP hF1.out Hlo.out) (own_rowP hF2.out Hlr.out) (own_rowP hF3.out Hlu.out) hFE)
      clear hF hF1 hF2 hF3 hFE hx
      go_wp2_with fail
      refine bodyPost_ret (v := layv 1 n g1 n g2 n g3 n) (by simp [results, Tryz.results35, go_sem, t0, t1, t2, t3]) rfl Hres.out
    · rw [hx] at k0
      obtain ⟨hO, hG⟩ := hB.out.set 0 (.int .i64 2)
      have hk : ∀ {g : Nat} {x : List Int}, OwnV 3 0 Y g n (is x) → OwnV 3 0 (Y.setCell ⟨bl, 0, none⟩ (.int .i64 2)) g n (is x) := fun h => own_kept h hB.out (by decide) hG
      have hA1 := Lib.hid (hk hR1.out)
      have hA2 := Lib.hid (hk hR2.out)
      have hA3 := Lib.hid (hk hR3.out)
      have hRB2 := Lib.hid (hRB.other hG hbl)
      have hE2 := Lib.hid (ext_trans_grown hEY hG (by have := hB.out.lt; have := hEX0; omega))
      obtain ⟨⟨r0, r1, r2, r3⟩, s0, s1, s2, s3⟩ := four_facts hRB
      obtain ⟨hF, hF1, hF2, hF3, hFE⟩ := mk_leaf hRB2.out hA1.out hA2.out hA3.out hE2.out (.int .i64 2) (slv g1 n n) (slv g2 n n) (slv g3 n n)
      obtain ⟨⟨t0, t1, t2, t3⟩, _⟩ := four_facts hF.out
      have Hres := Lib.hid (Hpost.out _ g1 g2 g3 (.returned (layv 2 n g1 n g2 n g3 n)) (by rw [Hk.out, hx]; rfl) (own_rowP hF1.out Hlo.out) (own_rowP hF2.out Hlr.out) (own_rowP hF3.out Hlu.out) hFE)
      clear hF hF1 hF2 hF3 hFE hx hO hG hk hRB hR1 hR2 hR3 hB hA1 hA2 hA3 hRB2 hE2
      go_wp2_with fail
      refine bodyPost_ret (v := layv 2 n g1 n g2 n g3 n) (by simp [results, Tryz.results35, go_sem, t0, t1, t2, t3]) rfl Hres.out
end Go.Proofs.YtokjolmpdfmnbaaGreatDoor
namespace Go.Proofs.YtokjolmpdfmnbaaGreatDoor
open Go.RowKit Go.Sort
theorem byt_app_nil (a : ByteArray) : a ++ ⟨#[]⟩ = a := by
  apply ByteArray.ext
  simp
theorem byt_assoc (a b c : ByteArray) : a ++ b ++ c = a ++ (b ++ c) := by
  apply ByteArray.ext
  simp [Array.append_assoc]
theorem byt_ext {a b : ByteArray} (h : a.data.toList = b.data.toList) : a = b := by
  apply ByteArray.ext
  exact Array.toList_inj.1 h
theorem rep32_succ : ∀ k, Lib.repeatL [32] (k + 1) = Lib.repeatL [32] k ++ [32]
  | 0 => rfl
  | k + 1 => by
    have h := rep32_succ k
    show ([32] : List UInt8) ++ Lib.repeatL [32] (k + 1) = ([32] ++ Lib.repeatL [32] k) ++ [32]
    rw [h, List.append_assoc]
theorem spc_succ (k : Nat) : spc (k + 1) = spc k ++ ⟨#[32]⟩ := byt_ext (by
  rw [bytes_app]
  unfold spc
  simp [rep32_succ])
theorem spc_zero : spc 0 = ⟨#[]⟩ := rfl
theorem indS_succ (k : Int) (i : Nat) : indS k (i + 1) = if k = 2 then indS k i ++ ⟨#[32]⟩ else indS k i := by
  unfold indS
  split
  · exact spc_succ i
  · rfl
theorem indS_zero (k : Int) : indS k 0 = ⟨#[]⟩ := by
  unfold indS
  split
  · rfl
  · rfl
theorem indS_le (k : Int) (i : Nat) : (indS k i).size ≤ i := by
  unfold indS
  split
  · rw [spc_size]; exact Nat.le_refl _
  · exact Nat.zero_le _
theorem pre_size {wd : Nat} {ns : List Nm} {m : Nat} {y : Int} {o r u : List Int} {c : Nat} (h : ∀ q, (nameOf q ns).size ≤ wd) : (joinS (picRow wd ns m y o r u c)).size ≤ (wd + 1) * c := by
  have := picRow_join (m := m) (y := y) (o := o) (r := r) (u := u) (t := c) h
  show (Lib.join _ [32]).toArray.size ≤ _
  simpa using this
theorem joinS_nil : joinS [] = ⟨#[]⟩ := rfl
theorem joinS_one (x : ByteArray) : joinS [x] = x := byt_ext (by simp [joinS, Lib.join_one])
theorem joinTail_snoc (sep : List UInt8) (r : List (List UInt8)) (y : List UInt8) : Lib.joinTail sep (r ++ [y]) = Lib.joinTail sep r ++ (sep ++ y) := by simp [Lib.joinTail]
theorem joinS_snoc {xs : List ByteArray} (h : xs ≠ []) (y : ByteArray) : joinS (xs ++ [y]) = joinS xs ++ ⟨#[32]⟩ ++ y := by
  obtain ⟨x, r, rfl⟩ := List.exists_cons_of_ne_nil h
  refine byt_ext ?_
  rw [bytes_app, bytes_app]
  unfold joinS
  simp only [List.cons_append, List.map_cons, List.map_append, List.map_nil]
  rw [Lib.join_cons, Lib.join_cons, joinTail_snoc]
  simp
def lawE (n : Nat) (e : Int) (p : Nm) : Int := if e = 0 then (if p.1.size = 0 then 13 else rowE n p.2) else e
def lawA (n : Nat) : Int → List Nm → Int
  | e, [] => e
  | e, p :: t => lawA n (lawE n e p) t
theorem lawA_stay {n : Nat} {e : Int} (h : e ≠ 0) : ∀ {ns : List Nm}, lawA n e ns = e
  | [] => rfl
  | p :: t => by rw [lawA, lawE, if_neg h]; exact lawA_stay h
theorem lawA_picE (n : Nat) : ∀ (ns : List Nm), lawA n 0 ns = picE n ns
  | [] => rfl
  | p :: t => by
    rw [lawA, lawE, if_pos rfl, picE]
    split
    · exact lawA_stay (by decide)
    · split
      · rename_i h; rw [h]; exact lawA_picE n t
      · rename_i h; exact lawA_stay h
theorem lawA_drop {n : Nat} {ns : List Nm} {i : Nat} {e : Int} (h : i < ns.length) : lawA n e (ns.drop i) = lawA n (lawE n e ns[i]) (ns.drop (i + 1)) := by
  rw [List.drop_eq_getElem_cons h, lawA]
end Go.Proofs.YtokjolmpdfmnbaaGreatDoor
