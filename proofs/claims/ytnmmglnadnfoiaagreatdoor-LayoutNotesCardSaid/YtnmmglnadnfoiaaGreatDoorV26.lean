/- Part 26 of the proof of the claim: contracts of the functions that it reaches, and plain laws; no condition. -/
import Derived.Test.YtnmmglnadnfoiaaGreatDoorV25
import Derived.Deep.CutRange
import Derived.Test.YtnmmglnadnfoiaaGreatDoorV24
import Derived.BigQuiet
/- schismalaw44: Make. -/
namespace Go.Proofs.YtnmmglnadnfoiaaGreatDoor
open Go.RowKit Go.Sort
/-- A plan's cells in memory. -/
structure plC (W : World) (g : Nat) (P : Pl) : Prop where
  k0 : W.cell? ⟨g, 0, none⟩ = some (.bool P.hx)
  k1 : W.cell? ⟨g, 1, none⟩ = some (.int .u8 P.m)
  k2 : W.cell? ⟨g, 2, none⟩ = some (.int .i8 P.a)
  k3 : W.cell? ⟨g, 3, none⟩ = some (.int .i8 P.b)
  k4 : W.cell? ⟨g, 4, none⟩ = some (.int .i8 P.c)
  k5 : W.cell? ⟨g, 5, none⟩ = some (.int .i8 P.d)
  k6 : W.cell? ⟨g, 6, none⟩ = some (.int .i8 P.e)
  k7 : W.cell? ⟨g, 7, none⟩ = some (.int .i8 P.f)
  k8 : W.cell? ⟨g, 8, none⟩ = some (.int .i8 P.p)
  k9 : W.cell? ⟨g, 9, none⟩ = some (.int .i8 P.q)
  k10 : W.cell? ⟨g, 10, none⟩ = some (.int .i8 P.s)
theorem plC.ext {W W' : World} {g : Nat} {P : Pl} (h : plC W g P) (hE : Ext W W') : plC W' g P :=
  ⟨hE.cell h.k0, hE.cell h.k1, hE.cell h.k2, hE.cell h.k3, hE.cell h.k4, hE.cell h.k5, hE.cell h.k6, hE.cell h.k7, hE.cell h.k8, hE.cell h.k9, hE.cell h.k10⟩
theorem plC_new (w : World) (P : Pl) : plC (w.alloc (.cells #[.bool P.hx, .int .u8 P.m, .int .i8 P.a, .int .i8 P.b, .int .i8 P.c, .int .i8 P.d, .int .i8 P.e, .int .i8 P.f, .int .i8 P.p, .int .i8 P.q, .int .i8 P.s] 25)) w.heap.size P :=
  ⟨by go_simp, by go_simp, by go_simp, by go_simp, by go_simp, by go_simp, by go_simp, by go_simp, by go_simp, by go_simp, by go_simp⟩
theorem lay_new (w : World) (T : TypeId) (a b c d : Value) : OwnV T w.heap.size (w.alloc (.cells #[a, b, c, d] T)) w.heap.size 4 [a, b, c, d] :=
  OwnV.of (Nat.le_refl _) Array.getElem?_push_size (by simp) (by unfold maxLen; omega) rfl rfl
theorem four_facts {T : TypeId} {B g : Nat} {W : World} {a b c d : Value} (h : OwnV T B W g 4 [a, b, c, d]) : (W.cell? ⟨g, 0, none⟩ = some a ∧ W.cell? ⟨g, 1, none⟩ = some b ∧ W.cell? ⟨g, 2, none⟩ = some c ∧ W.cell? ⟨g, 3, none⟩ = some d) ∧ W.frozen? ⟨g, 0, none⟩ = false ∧ W.frozen? ⟨g, 1, none⟩ = false ∧ W.frozen? ⟨g, 2, none⟩ = false ∧ W.frozen? ⟨g, 3, none⟩ = false :=
  ⟨⟨h.cell (j := 0) (by simp), h.cell (j := 1) (by simp), h.cell (j := 2) (by simp), h.cell (j := 3) (by simp)⟩, h.frozen 0, h.frozen 1, h.frozen 2, h.frozen 3⟩
theorem four_set {T : TypeId} {B g : Nat} {W : World} {a b c d : Value} (h : OwnV T B W g 4 [a, b, c, d]) (v0 v1 v2 v3 : Value) :
    OwnV T B ((((W.setCell ⟨g, 0, none⟩ v0).setCell ⟨g, 1, none⟩ v1).setCell ⟨g, 2, none⟩ v2).setCell ⟨g, 3, none⟩ v3) g 4 [v0, v1, v2, v3] ∧ W.grownBy ((((W.setCell ⟨g, 0, none⟩ v0).setCell ⟨g, 1, none⟩ v1).setCell ⟨g, 2, none⟩ v2).setCell ⟨g, 3, none⟩ v3) (some g) := by
  obtain ⟨h1, g1⟩ := h.set 0 v0
  obtain ⟨h2, g2⟩ := h1.set 1 v1
  obtain ⟨h3, g3⟩ := h2.set 2 v2
  obtain ⟨h4, g4⟩ := h3.set 3 v3
  exact ⟨h4, grown_trans (grown_trans (grown_trans g1 g2) g3) g4⟩
section
variable {P : Program} {ops : Array Oper} {md : Region.Mode} {Q : Exit → Act → World → Prop} {S : World → Prop}
/-- Two operations that may come up. -/
theorem wpAnyLH_two {n i j f : Nat} {o p : Oper} {L : Array Bool → Act → World → Prop} {listed : Array Bool} {a : Act} {w : World} (hi : ops[i]? = some o) (hj : ops[j]? = some p) (hr : (Region.ready md ops listed == [i, j] && decide (i < n) && decide (j < n)) = true)
    (h1 : ∀ K' : Act → World → Prop, (∀ a w, S w → wpAnyLH P md ops Q S n L f (listed.setIfInBounds i true) a w → K' a w) → if Region.wanted o (yielded ops a.tmps) = true then Oper.wp P o a w K' Q else K' (a.put o.dst undef) w)
    (h2 : ∀ K' : Act → World → Prop, (∀ a w, S w → wpAnyLH P md ops Q S n L f (listed.setIfInBounds j true) a w → K' a w) → if Region.wanted p (yielded ops a.tmps) = true then Oper.wp P p a w K' Q else K' (a.put p.dst undef) w) : wpAnyLH P md ops Q S n L (f + 1) listed a w := by
  simp only [Bool.and_eq_true, decide_eq_true_eq, beq_iff_eq] at hr
  refine ⟨fun h0 => (by rw [h0] at hr; cases hr.1.1), fun k hk => ?_⟩
  rw [hr.1.1] at hk
  simp only [List.mem_cons, List.not_mem_nil, or_false] at hk
  rcases hk with rfl | rfl
  · exact ⟨hr.1.2, wpOp_step hi (fun K' hK => h1 K' (fun a w hS hW => hK a w ⟨hS, hW⟩))⟩
  · exact ⟨hr.2, wpOp_step hj (fun K' hK => h2 K' (fun a w hS hW => hK a w ⟨hS, hW⟩))⟩
end
theorem range3 {w : World} {b o : Nat} {x y z : Value} (h0 : w.cell? ⟨b, o, none⟩ = some x) (h1 : w.cell? ⟨b, o + 1, none⟩ = some y) (h2 : w.cell? ⟨b, o + 2, none⟩ = some z) : w.rangeAt b o [x, y, z] := fun j v hj => by
  match j with
  | 0 => simp at hj; subst hj; exact h0
  | 1 => simp at hj; subst hj; exact h1
  | 2 => simp at hj; subst hj; exact h2
  | j + 3 => simp at hj
def MkPost (w : World) (P : Pl) (e : Ending) (w' : World) : Prop :=
  ∃ g1 g2 g3, e = .returned (layv P.k P.n g1 P.n g2 P.n g3 P.n) ∧ PlP w' P g1 g2 g3 ∧ Ext w w'
theorem own_rowP {B : Nat} {w : World} {g n : Nat} {x : List Int} (h : OwnV 3 B w g n (is x)) (hl : x.length = n) : RowP w g n x := ⟨by omega, h.sl⟩
theorem mk_leaf {X W : World} {bl n g1 g2 g3 : Nat} {a b c d : Value} {oo rr uu : List Int} (hB : OwnV 32 X.heap.size W bl 4 [a, b, c, d]) (h1 : OwnV 3 0 W g1 n (is oo)) (h2 : OwnV 3 0 W g2 n (is rr)) (h3 : OwnV 3 0 W g3 n (is uu)) (hX : Ext X W) (v0 v1 v2 v3 : Value) :
    Hid (OwnV 32 X.heap.size ((((W.setCell ⟨bl, 0, none⟩ v0).setCell ⟨bl, 1, none⟩ v1).setCell ⟨bl, 2, none⟩ v2).setCell ⟨bl, 3, none⟩ v3) bl 4 [v0, v1, v2, v3])
      ∧ Hid (OwnV 3 0 ((((W.setCell ⟨bl, 0, none⟩ v0).setCell ⟨bl, 1, none⟩ v1).setCell ⟨bl, 2, none⟩ v2).setCell ⟨bl, 3, none⟩ v3) g1 n (is oo))
      ∧ Hid (OwnV 3 0 ((((W.setCell ⟨bl, 0, none⟩ v0).setCell ⟨bl, 1, none⟩ v1).setCell ⟨bl, 2, none⟩ v2).setCell ⟨bl, 3, none⟩ v3) g2 n (is rr))
      ∧ Hid (OwnV 3 0 ((((W.setCell ⟨bl, 0, none⟩ v0).setCell ⟨bl, 1, none⟩ v1).setCell ⟨bl, 2, none⟩ v2).setCell ⟨bl, 3, none⟩ v3) g3 n (is uu))
      ∧ Ext X ((((W.setCell ⟨bl, 0, none⟩ v0).setCell ⟨bl, 1, none⟩ v1).setCell ⟨bl, 2, none⟩ v2).setCell ⟨bl, 3, none⟩ v3) := by
  obtain ⟨hS1, hS2⟩ := four_set hB v0 v1 v2 v3
  have hk : ∀ {B g : Nat} {x : List Int}, OwnV 3 B W g n (is x) → OwnV 3 B ((((W.setCell ⟨bl, 0, none⟩ v0).setCell ⟨bl, 1, none⟩ v1).setCell ⟨bl, 2, none⟩ v2).setCell ⟨bl, 3, none⟩ v3) g n (is x) := fun h => own_kept h hB (by decide) hS2
  exact ⟨Lib.hid hS1, Lib.hid (hk h1), Lib.hid (hk h2), Lib.hid (hk h3), ext_trans_grown hX hS2 hB.lt.1⟩
set_option maxRecDepth 100000 in
set_option maxHeartbeats 4000000 in
theorem make44 {w : World} {P : Pl} (hP : P.ok) : Calls Tryz.prog 16 #[P.v] w (MkPost w P) := by
  have hn3 := P.n3
  have hr1 := Lib.hid (fun W => row44_any (w := W) hn3 hP.a hP.b hP.c)
  have hr2 := Lib.hid (fun W => row44_any (w := W) hn3 hP.d hP.e hP.f)
  have hr3 := Lib.hid (fun W => row44_any (w := W) hn3 hP.p hP.q hP.s)
  obtain ⟨hm1, hm2⟩ := hP.m
  have hmn : P.m % 4 = (P.n : Int) := Pl.nI
  have hmt : P.m.tmod 4 = (P.n : Int) := by rw [Int.tmod_eq_emod_of_nonneg hm1]; exact hmn
  have Hlo := Lib.hid P.lo
  have Hlr := Lib.hid P.lr
  have Hlu := Lib.hid P.lu
  have Hk : Hid (P.k = if P.hx then 2 else 1) := Lib.hid rfl
  have Hpost : Hid (∀ W g1 g2 g3 (e : Ending), e = .returned (layv P.k P.n g1 P.n g2 P.n g3 P.n) → RowP W g1 P.n P.o → RowP W g2 P.n P.r → RowP W g3 P.n P.u → Ext w W → MkPost w P e W) := Lib.hid (fun W g1 g2 g3 e he h1 h2 h3 hE => ⟨g1, g2, g3, he, ⟨P.kind, by omega, P.lo, P.lr, P.lu, P.eo, P.er, P.eu, h1, h2, h3⟩, hE⟩)
  rw [show plTo P.n [P.a, P.b, P.c] P.n = P.o from rfl] at hr1
  rw [show plTo P.n [P.d, P.e, P.f] P.n = P.r from rfl] at hr2
  rw [show plTo P.n [P.p, P.q, P.s] P.n = P.u from rfl] at hr3
  generalize P.o = oo at *
  generalize P.r = rr at *
  generalize P.u = uu at *
  generalize P.n = n at *
  generalize P.k = k at *
  have hpc := plC_new w P
  have hres := (lay_new (w.alloc (.cells #[.bool P.hx, .int .u8 P.m, .int .i8 P.a, .int .i8 P.b, .int .i8 P.c, .int .i8 P.d, .int .i8 P.e, .int .i8 P.f, .int .i8 P.p, .int .i8 P.q, .int .i8 P.s] 25)) 32 (.int .i64 0) (.slice none 0 0) (.slice none 0 0) (.slice none 0 0))
  clear hP
  go_enter Tryz.func16, Tryz.ntmps16
  go_wp2_with fail
  replace hpc := hpc.ext ((Ext.refl _).alloc (.cells #[.int .i64 0, .slice none 0 0, .slice none 0 0, .slice none 0 0] 32))
  obtain ⟨X, hX⟩ : ∃ X, ((w.alloc (.cells #[.bool P.hx, .int .u8 P.m, .int .i8 P.a, .int .i8 P.b, .int .i8 P.c, .int .i8 P.d, .int .i8 P.e, .int .i8 P.f, .int .i8 P.p, .int .i8 P.q, .int .i8 P.s] 25)).alloc (.cells #[.int .i64 0, .slice none 0 0, .slice none 0 0, .slice none 0 0] 32)) = X := ⟨_, rfl⟩
  have hEX : Ext w X := by rw [← hX]; exact ((Ext.refl w).alloc _).alloc _
  rw [World.size_alloc] at hres
  rw [hX] at hpc hres ⊢
  clear hX
  have hres2 := Lib.hid hres
  obtain ⟨bp, hbp⟩ : ∃ bp, bp = w.heap.size := ⟨_, rfl⟩
  have hbp2 := hres.lt
  rw [← hbp] at hpc ⊢
  have Hbp := Lib.hid hbp
  clear hbp hres
  go_cut [4] from 9 to 21 (fun lp wx => ∃ bl g1 g2 g3, lp = .pointer (some ⟨bl, 0, none⟩) ∧ Hid (OwnV 32 X.heap.size wx bl 4 [.int .i64 1, slv g1 n n, slv g2 n n, slv g3 n n]) ∧ Hid (OwnV 3 0 wx g1 n (is oo)) ∧ Hid (OwnV 3 0 wx g2 n (is rr)) ∧ Hid (OwnV 3 0 wx g3 n (is uu)) ∧ Ext X wx)
  case first =>
    have d7 : Ext X X.drew := (Ext.refl X).drew
    refine wp_region_held_tail (S := fun W => Ext X W) 14 (by kernel_rfl) (by simp) ?_
    intro inv
    refine wpAnyLH_take (i := 0) (v := .pointer (some ⟨bp, 2, none⟩)) rfl (by kernel_rfl) (fun _ _ _ h => h) (.inl ⟨by rfl, fun W hW => by go_simp⟩) d7 inv ?_
    intro inv
    refine wpAnyLH_take (i := 1) (v := .agg #[.int .i8 P.a, .int .i8 P.b, .int .i8 P.c]) rfl (by kernel_rfl) (fun _ _ _ h => h) (yieldsIf_load_mid (by rfl) 23 _ rfl bp 2 rfl [.int .i8 P.a, .int .i8 P.b, .int .i8 P.c] _ (fun W hW => range3 (hpc.ext hW).k2 (hpc.ext hW).k3 (hpc.ext hW).k4) Tryz.underlying23 rfl (by kernel_rfl)) d7 inv ?_
    intro inv
    refine wpAnyLH_take (i := 2) (v := .int .i64 n) rfl (by kernel_rfl) (fun _ _ _ h => h) (.inl ⟨by rfl, fun W hW => by go_simp⟩) d7 inv ?_
    intro inv
    refine wpAnyLH_take (i := 4) (v := .pointer (some ⟨bp, 5, none⟩)) rfl (by kernel_rfl) (fun _ _ _ h => h) (.inl ⟨by rfl, fun W hW => by go_simp⟩) d7 inv ?_
    intro inv
    refine wpAnyLH_take (i := 5) (v := .agg #[.int .i8 P.d, .int .i8 P.e, .int .i8 P.f]) rfl (by kernel_rfl) (fun _ _ _ h => h) (yieldsIf_load_mid (by rfl) 23 _ rfl bp 5 rfl [.int .i8 P.d, .int .i8 P.e, .int .i8 P.f] _ (fun W hW => range3 (hpc.ext hW).k5 (hpc.ext hW).k6 (hpc.ext hW).k7) Tryz.underlying23 rfl (by kernel_rfl)) d7 inv ?_
    intro inv
    refine wpAnyLH_take (i := 6) (v := .int .i64 n) rfl (by kernel_rfl) (fun _ _ _ h => h) (.inl ⟨by rfl, fun W hW => by go_simp⟩) d7 inv ?_
    intro inv
    refine wpAnyLH_take (i := 8) (v := .pointer (some ⟨bp, 8, none⟩)) rfl (by kernel_rfl) (fun _ _ _ h => h) (.inl ⟨by rfl, fun W hW => by go_simp⟩) d7 inv ?_
    intro inv
    refine wpAnyLH_take (i := 9) (v := .agg #[.int .i8 P.p, .int .i8 P.q, .int .i8 P.s]) rfl (by kernel_rfl) (fun _ _ _ h => h) (yieldsIf_load_mid (by rfl) 23 _ rfl bp 8 rfl [.int .i8 P.p, .int .i8 P.q, .int .i8 P.s] _ (fun W hW => range3 (hpc.ext hW).k8 (hpc.ext hW).k9 (hpc.ext hW).k10) Tryz.underlying23 rfl (by kernel_rfl)) d7 inv ?_
    intro inv
    refine wpAnyLH_take (i := 10) (v := .int .i64 n) rfl (by kernel_rfl) (fun _ _ _ h => h) (.inl ⟨by rfl, fun W hW => by go_simp⟩) d7 inv ?_
    intro inv
    refine wpAnyLH_two (i := 3) (j := 13) rfl rfl (by kernel_rfl) (fun K0 hK0 => ?_) (fun KA hKA => ?_)
    case refine_1 =>
      go_simp
      refine (hr1.out _).mono ?_
      rintro e W1 ⟨g1, rfl, hO1, hE1⟩
      have d1 := d7.trans hE1
      replace hO1 := hO1.mono (Nat.zero_le _)
      refine hK0 _ _ d1 ?_
      clear hK0
      refine wpAnyLH_two (i := 7) (j := 13) rfl rfl (by kernel_rfl) (fun K1 hK1 => ?_) (fun KA hKA => ?_)
      case refine_1 =>
        go_simp
        refine (hr2.out _).mono ?_
        rintro e W2 ⟨g2, rfl, hO2, hE2⟩
        have d2 := d1.trans hE2
        replace hO2 := hO2.mono (Nat.zero_le _)
        replace hO1 := hO1.ext hE2
        refine hK1 _ _ d2 ?_
        clear hK1
        refine wpAnyLH_two (i := 11) (j := 13) rfl rfl (by kernel_rfl) (fun K2 hK2 => ?_) (fun KA hKA => ?_)
        case refine_1 =>
          go_simp
          refine (hr3.out _).mono ?_
          rintro e W3 ⟨g3, rfl, hO3, hE3⟩
          have d3 := d2.trans hE3
          replace hO3 := hO3.mono (Nat.zero_le _)
          replace hO1 := hO1.ext hE3
          replace hO2 := hO2.ext hE3
          refine hK2 _ _ d3 ?_
          clear hK2
          refine wpAnyLH_two (i := 12) (j := 13) rfl rfl (by kernel_rfl) (fun K3 hK3 => ?_) (fun KA hKA => ?_)
          case refine_1 =>
            go_simp
            refine hK3 _ _ d3 ?_
            clear hK3
            refine wpAnyLH_one (i := 13) rfl (by kernel_rfl) (fun KA hKA => ?_)
            go_simp
            have dA := d3.alloc (.cells #[.int .i64 0, .slice none 0 0, .slice none 0 0, .slice none 0 0] 32)
            have hB := (lay_new W3 32 (.int .i64 0) (.slice none 0 0) (.slice none 0 0) (.slice none 0 0)).mono (show X.heap.size ≤ _ from d3.size)
            replace hO1 := hO1.ext ((Ext.refl _).alloc (.cells #[.int .i64 0, .slice none 0 0, .slice none 0 0, .slice none 0 0] 32))
            replace hO2 := hO2.ext ((Ext.refl _).alloc (.cells #[.int .i64 0, .slice none 0 0, .slice none 0 0, .slice none 0 0] 32))
            replace hO3 := hO3.ext ((Ext.refl _).alloc (.cells #[.int .i64 0, .slice none 0 0, .slice none 0 0, .slice none 0 0] 32))
            refine hKA _ _ dA ?_
            clear hKA
            refine wpAnyLH_end (by kernel_rfl) ?_
            generalize (W3.alloc (.cells #[.int .i64 0, .slice none 0 0, .slice none 0 0, .slice none 0 0] 32)) = WZ at *
            generalize W3.heap.size = bl at *
            obtain ⟨⟨q0, q1, q2, q3⟩, f0, f1, f2, f3⟩ := four_facts hB
            have HL := Lib.hid (mk_leaf hB hO1 hO2 hO3 dA (.int .i64 1) (slv g1 n n) (slv g2 n n) (slv g3 n n))
            clear hB hO1 hO2 hO3
            go_wp2_with fail
            go_meet
            exact ⟨_, g1, g2, g3, rfl, HL.out⟩
          case refine_2 =>
            go_simp
            have dA := d3.alloc (.cells #[.int .i64 0, .slice none 0 0, .slice none 0 0, .slice none 0 0] 32)
            have hB := (lay_new W3 32 (.int .i64 0) (.slice none 0 0) (.slice none 0 0) (.slice none 0 0)).mono (show X.heap.size ≤ _ from d3.size)
            replace hO1 := hO1.ext ((Ext.refl _).alloc (.cells #[.int .i64 0, .slice none 0 0, .slice none 0 0, .slice none 0 0] 32))
            replace hO2 := hO2.ext ((Ext.refl _).alloc (.cells #[.int .i64 0, .slice none 0 0, .slice none 0 0, .slice none 0 0] 32))
            replace hO3 := hO3.ext ((Ext.refl _).alloc (.cells #[.int .i64 0, .slice none 0 0, .slice none 0 0, .slice none 0 0] 32))
            refine hKA _ _ dA ?_
            clear hKA
            refine wpAnyLH_one (i := 12) rfl (by kernel_rfl) (fun K3 hK3 => ?_)
            go_simp
            refine hK3 _ _ dA ?_
            clear hK3
            refine wpAnyLH_end (by kernel_rfl) ?_
            generalize (W3.alloc (.cells #[.int .i64 0, .slice none 0 0, .slice none 0 0, .slice none 0 0] 32)) = WZ at *
            generalize W3.heap.size = bl at *
            obtain ⟨⟨q0, q1, q2, q3⟩, f0, f1, f2, f3⟩ := four_facts hB
            have HL := Lib.hid (mk_leaf hB hO1 hO2 hO3 dA (.int .i64 1) (slv g1 n n) (slv g2 n n) (slv g3 n n))
            clear hB hO1 hO2 hO3
            go_wp2_with fail
            go_meet
            exact ⟨_, g1, g2, g3, rfl, HL.out⟩
        case refine_2 =>
          go_simp
          have dA := d2.alloc (.cells #[.int .i64 0, .slice none 0 0, .slice none 0 0, .slice none 0 0] 32)
          have hB := (lay_new W2 32 (.int .i64 0) (.slice none 0 0) (.slice none 0 0) (.slice none 0 0)).mono (show X.heap.size ≤ _ from d2.size)
          replace hO1 := hO1.ext ((Ext.refl _).alloc (.cells #[.int .i64 0, .slice none 0 0, .slice none 0 0, .slice none 0 0] 32))
          replace hO2 := hO2.ext ((Ext.refl _).alloc (.cells #[.int .i64 0, .slice none 0 0, .slice none 0 0, .slice none 0 0] 32))
          refine hKA _ _ dA ?_
          clear hKA
          refine wpAnyLH_one (i := 11) rfl (by kernel_rfl) (fun K2 hK2 => ?_)
          go_simp
          refine (hr3.out _).mono ?_
          rintro e W3 ⟨g3, rfl, hO3, hE3⟩
          have d3 := dA.trans hE3
          replace hO3 := hO3.mono (Nat.zero_le _)
          replace hO1 := hO1.ext hE3
          replace hO2 := hO2.ext hE3
          replace hB := hB.ext hE3
          refine hK2 _ _ d3 ?_
          clear hK2
          refine wpAnyLH_one (i := 12) rfl (by kernel_rfl) (fun K3 hK3 => ?_)
          go_simp
          refine hK3 _ _ d3 ?_
          clear hK3
          refine wpAnyLH_end (by kernel_rfl) ?_
          generalize W3 = WZ at *
          generalize W2.heap.size = bl at *
          obtain ⟨⟨q0, q1, q2, q3⟩, f0, f1, f2, f3⟩ := four_facts hB
          have HL := Lib.hid (mk_leaf hB hO1 hO2 hO3 d3 (.int .i64 1) (slv g1 n n) (slv g2 n n) (slv g3 n n))
          clear hB hO1 hO2 hO3
          go_wp2_with fail
          go_meet
          exact ⟨_, g1, g2, g3, rfl, HL.out⟩
      case refine_2 =>
        go_simp
        have dA := d1.alloc (.cells #[.int .i64 0, .slice none 0 0, .slice none 0 0, .slice none 0 0] 32)
        have hB := (lay_new W1 32 (.int .i64 0) (.slice none 0 0) (.slice none 0 0) (.slice none 0 0)).mono (show X.heap.size ≤ _ from d1.size)
        replace hO1 := hO1.ext ((Ext.refl _).alloc (.cells #[.int .i64 0, .slice none 0 0, .slice none 0 0, .slice none 0 0] 32))
        refine hKA _ _ dA ?_
        clear hKA
        refine wpAnyLH_one (i := 7) rfl (by kernel_rfl) (fun K1 hK1 => ?_)
        go_simp
        refine (hr2.out _).mono ?_
        rintro e W2 ⟨g2, rfl, hO2, hE2⟩
        have d2 := dA.trans hE2
        replace hO2 := hO2.mono (Nat.zero_le _)
        replace hO1 := hO1.ext hE2
        replace hB := hB.ext hE2
        refine hK1 _ _ d2 ?_
        clear hK1
        refine wpAnyLH_one (i := 11) rfl (by kernel_rfl) (fun K2 hK2 => ?_)
        go_simp
        refine (hr3.out _).mono ?_
        rintro e W3 ⟨g3, rfl, hO3, hE3⟩
        have d3 := d2.trans hE3
        replace hO3 := hO3.mono (Nat.zero_le _)
        replace hO1 := hO1.ext hE3
        replace hO2 := hO2.ext hE3
        replace hB := hB.ext hE3
        refine hK2 _ _ d3 ?_
        clear hK2
        refine wpAnyLH_one (i := 12) rfl (by kernel_rfl) (fun K3 hK3 => ?_)
        go_simp
        refine hK3 _ _ d3 ?_
        clear hK3
        refine wpAnyLH_end (by kernel_rfl) ?_
        generalize W3 = WZ at *
        generalize W1.heap.size = bl at *
        obtain ⟨⟨q0, q1, q2, q3⟩, f0, f1, f2, f3⟩ := four_facts hB
        have HL := Lib.hid (mk_leaf hB hO1 hO2 hO3 d3 (.int .i64 1) (slv g1 n n) (slv g2 n n) (slv g3 n n))
        clear hB hO1 hO2 hO3
        go_wp2_with fail
        go_meet
        exact ⟨_, g1, g2, g3, rfl, HL.out⟩
    case refine_2 =>
      go_simp
      have dA := d7.alloc (.cells #[.int .i64 0, .slice none 0 0, .slice none 0 0, .slice none 0 0] 32)
      have hB := (lay_new X.drew 32 (.int .i64 0) (.slice none 0 0) (.slice none 0 0) (.slice none 0 0)).mono (show X.heap.size ≤ _ from d7.size)
      rw [show X.drew.heap.size = X.heap.size by simp] at hB
      refine hKA _ _ dA ?_
      clear hKA
      refine wpAnyLH_one (i := 3) rfl (by kernel_rfl) (fun K0 hK0 => ?_)
      go_simp
      refine (hr1.out _).mono ?_
      rintro e W1 ⟨g1, rfl, hO1, hE1⟩
      have d1 := dA.trans hE1
      replace hO1 := hO1.mono (Nat.zero_le _)
      replace hB := hB.ext hE1
      refine hK0 _ _ d1 ?_
      clear hK0
      refine wpAnyLH_one (i := 7) rfl (by kernel_rfl) (fun K1 hK1 => ?_)
      go_simp
      refine (hr2.out _).mono ?_
      rintro e W2 ⟨g2, rfl, hO2, hE2⟩
      have d2 := d1.trans hE2
      replace hO2 := hO2.mono (Nat.zero_le _)
      replace hO1 := hO1.ext hE2
      replace hB := hB.ext hE2
      refine hK1 _ _ d2 ?_
      clear hK1
      refine wpAnyLH_one (i := 11) rfl (by kernel_rfl) (fun K2 hK2 => ?_)
      go_simp
      refine (hr3.out _).mono ?_
      rintro e W3 ⟨g3, rfl, hO3, hE3⟩
      have d3 := d2.trans hE3
      replace hO3 := hO3.mono (Nat.zero_le _)
      replace hO1 := hO1.ext hE3
      replace hO2 := hO2.ext hE3
      replace hB := hB.ext hE3
      refine hK2 _ _ d3 ?_
      clear hK2
      refine wpAnyLH_one (i := 12) rfl (by kernel_rfl) (fun K3 hK3 => ?_)
      go_simp
      refine hK3 _ _ d3 ?_
      clear hK3
      refine wpAnyLH_end (by kernel_rfl) ?_
      generalize W3 = WZ at *
      obtain ⟨⟨q0, q1, q2, q3⟩, f0, f1, f2, f3⟩ := four_facts hB
      have HL := Lib.hid (mk_leaf hB hO1 hO2 hO3 d3 (.int .i64 1) (slv g1 n n) (slv g2 n n) (slv g3 n n))
      clear hB hO1 hO2 hO3
      go_wp2_with fail
      go_meet
      exact ⟨_, g1, g2, g3, rfl, HL.out⟩
  case rest =>
    obtain ⟨bl, g1, g2, g3, rfl, hB, hR1, hR2, hR3, hXc⟩ := hcut
    generalize wc = Y at *
    have hRB : OwnV 32 w.heap.size Y (bp + 1) 4 [.int .i64 0, .slice none 0 0, .slice none 0 0, .slice none 0 0] := by rw [Hbp.out]; exact (hres2.out.ext hXc).mono (by omega)
    have hEY := hEX.trans hXc
    have hEX0 := hEX.size
    have hbl : bp + 1 ≠ bl := by have := hB.out.lt; have := Hbp.out; omega
    have k0 := (hpc.ext hXc).k0
    obtain ⟨⟨q0, q1, q2, q3⟩, f0, f1, f2, f3⟩ := four_facts hB.out
    clear hpc hXc hres2 hbp2 hEX
    cases hx : P.hx
    · rw [hx] at k0
      obtain ⟨⟨r0, r1, r2, r3⟩, s0, s1, s2, s3⟩ := four_facts hRB
      obtain ⟨hF, hF1, hF2, hF3, hFE⟩ := mk_leaf hRB hR1.out hR2.out hR3.out hEY (.int .i64 1) (slv g1 n n) (slv g2 n n) (slv g3 n n)
      obtain ⟨⟨t0, t1, t2, t3⟩, _⟩ := four_facts hF.out
      have Hres := Lib.hid (Hpost.out _ g1 g2 g3 (.returned (layv 1 n g1 n g2 n g3 n)) (by rw [Hk.out, hx]; rfl) (own_rowP hF1.out Hlo.out) (own_rowP hF2.out Hlr.out) (own_rowP hF3.out Hlu.out) hFE)
      clear hF hF1 hF2 hF3 hFE hx
      go_wp2_with fail
      refine bodyPost_ret (v := layv 1 n g1 n g2 n g3 n) (by simp [results, Tryz.results16, go_sem, t0, t1, t2, t3]) rfl Hres.out
    · rw [hx] at k0
      obtain ⟨hO, hG⟩ := hB.out.set 0 (.int .i64 2)
      have hk : ∀ {g : Nat} {x : List Int}, OwnV 3 0 Y g n (is x) → OwnV 3 0 (Y.setCell ⟨bl, 0, none⟩ (.int .i64 2)) g n (is x) := fun h => own_kept h hB.out (by decide) hG
      have hA1 := Lib.hid (hk hR1.out)
      have hA2 := Lib.hid (hk hR2.out)
      have hA3 := Lib.hid (hk hR3.out)
      have hRB2 := Lib.hid (hRB.other hG hbl)
      have hE2 := Lib.hid (ext_trans_grown hEY hG (by have := hB.out.lt; have := hEX0; omega))
      obtain ⟨⟨r0, r1, r2, r3⟩, s0, s1, s2, s3⟩ := four_facts hRB
      obtain ⟨hF, hF1, hF2, hF3, hFE⟩ := mk_leaf hRB2.out hA1.out hA2.out hA3.out hE2.out (.int .i64 2) (slv g1 n n) (slv g2 n n) (slv g3 n n)
      obtain ⟨⟨t0, t1, t2, t3⟩, _⟩ := four_facts hF.out
      have Hres := Lib.hid (Hpost.out _ g1 g2 g3 (.returned (layv 2 n g1 n g2 n g3 n)) (by rw [Hk.out, hx]; rfl) (own_rowP hF1.out Hlo.out) (own_rowP hF2.out Hlr.out) (own_rowP hF3.out Hlu.out) hFE)
      clear hF hF1 hF2 hF3 hFE hx hO hG hk hRB hR1 hR2 hR3 hB hA1 hA2 hA3 hRB2 hE2
      go_wp2_with fail
      refine bodyPost_ret (v := layv 2 n g1 n g2 n g3 n) (by simp [results, Tryz.results16, go_sem, t0, t1, t2, t3]) rfl Hres.out
end Go.Proofs.YtnmmglnadnfoiaaGreatDoor
/- Lists of rows, and lists of these, that a call makes by append. -/
namespace Go.Proofs.YtnmmglnadnfoiaaGreatDoor
open Go.RowKit Go.Sort
section
variable {w : World} {ops : Array Oper} {rest : List Oper} {o : Oper} {a : Act} {Q : Exit → Act → World → Prop}
theorem app_rows (hgd : o.guard = none) (s x : Operand) (t : TypeId) (ht : Tryz.prog.underlying t = some (.slice 30)) (ho : o.op = .call { callee := .builtin .append, args := #[s, x], argTypes := #[t, t] })
    {B : Nat} {v rv : Value} {F : Mx} {r : List Int} (hs : a.eval s = v) (hown : MatO B w v F) {b : Nat} (hx : a.eval x = .slice (some ⟨b, 0, none⟩) 1 1) (hc : w.cell? ⟨b, 0, none⟩ = some rv) (hr : RowV B w rv r) (hl : F.length ≤ 1000000000) (hB : B ≤ w.heap.size)
    (h : ∀ g cap w', MatO B w' (slv g (F.length + 1) cap) (F ++ [r]) → Below B w w' → w.grownBy w' v.ownBlock → wpList Tryz.prog ops Q rest (a.put o.dst (slv g (F.length + 1) cap)) w') : wpList Tryz.prog ops Q (o :: rest) a w := by
  obtain ⟨i0, hi, hz0, hz1, hz2⟩ := info_parts Tryz.infoRow
  obtain ⟨vs, h1, h2, h3⟩ := hown
  refine wpList_append_lies w hgd s x t ho B 30 i0 _ 1 24 ht hi hz0 hz1 hz2 rfl (by omega) v F.length vs hs h2 ⟨b, 0, none⟩ 1 1 [rv] hx rfl ?_ ?_ (by omega) (by unfold maxLen; omega) (by omega) hB w.heap.size rfl ?_
  · intro j u hj
    have : j = 0 := by have := (List.getElem?_eq_some_iff.1 hj).1; simp at this; omega
    subst this
    simp only [List.getElem?_cons_zero, Option.some.injEq] at hj
    subst hj
    simpa [Addr.add_lit] using hc
  · intro u hu
    simp only [List.mem_cons, List.not_mem_nil, or_false] at hu
    subst hu; exact hr.one
  · intro g cap w' k1 k2 k3 k4
    have hkeep : ∀ {u : Value} {l : List Int}, RowV B w u l → RowV B w' u l := fun hu => own_kept hu h2 (by decide) k2
    refine h g cap w' ⟨vs ++ [rv], by simp [h1], ?_, fun t ht ht' => ?_⟩ (Below.grown (Below.refl _ _) k2 hB (fun q hq => (World.ownsRow.lt h2 q hq).1)) k2
    · rw [List.length_append]; exact k1
    · rcases Nat.lt_or_ge t F.length with hlt | hge
      · rw [List.getElem_append_left (by omega), List.getElem_append_left hlt]
        exact hkeep (h3 t hlt (by omega))
      · have hte : t = F.length := by simp at ht; omega
        subst hte
        rw [List.getElem_append_right (by omega), List.getElem_append_right (by omega)]
        simp only [h1, Nat.sub_self, List.getElem_cons_zero]
        exact hkeep hr
end
theorem Tryz.infoRows : (Tryz.prog.info? 48).map (fun i => (i.zero, i.size, i.bytes)) = some (some (.slice none 0 0), 1, 24) := by kernel_rfl
/-- A list of lists of rows that the call has made. -/
def BookO (B : Nat) (w : World) (v : Value) (G : List Mx) : Prop := ∃ vs, vs.length = G.length ∧ w.ownsRow B 48 1 v G.length vs ∧ ∀ t (_ : t < G.length) (h' : t < vs.length), MatO B w vs[t] G[t]
theorem BookO.nil (B : Nat) (w : World) : BookO B w (.slice none 0 0) [] := ⟨[], rfl, ⟨rfl, .inl ⟨rfl, rfl⟩⟩, fun t h => by simp at h⟩
theorem BookO.ext {B : Nat} {w w' : World} {v : Value} {G : List Mx} (h : BookO B w v G) (he : Ext w w') : BookO B w' v G := by
  obtain ⟨vs, h1, h2, h3⟩ := h
  exact ⟨vs, h1, ownsRow_ext h2 he, fun t ht ht' => (h3 t ht ht').ext he⟩
theorem BookO.mono {B B' : Nat} {w : World} {v : Value} {G : List Mx} (h : BookO B w v G) (hB : B' ≤ B) : BookO B' w v G := by
  obtain ⟨vs, h1, h2, h3⟩ := h
  exact ⟨vs, h1, ownsRow_mono h2 hB, fun t ht ht' => (h3 t ht ht').mono hB⟩
theorem mat_kept {B B' : Nat} {w w' : World} {T' : TypeId} {size' n' : Nat} {u v : Value} {F : Mx} {ys : List Value} (h : MatO B w u F) (h' : w.ownsRow B' T' size' v n' ys) (h1 : 30 ≠ T') (h2 : 3 ≠ T') (hg : w.grownBy w' v.ownBlock) : MatO B w' u F := by
  obtain ⟨vs, k1, k2, k3⟩ := h
  exact ⟨vs, k1, own_kept k2 h' h1 hg, fun t ht ht' => own_kept (k3 t ht ht') h' h2 hg⟩
theorem MatO.one {B : Nat} {w : World} {v : Value} {F : Mx} (h : MatO B w v F) : v.oneCell' = true := by
  obtain ⟨vs, k1, k2, k3⟩ := h
  rcases k2.2 with ⟨rfl, _⟩ | ⟨g, cap, cur, rfl, _⟩ <;> rfl
section
variable {w : World} {ops : Array Oper} {rest : List Oper} {o : Oper} {a : Act} {Q : Exit → Act → World → Prop}
theorem app_book (hgd : o.guard = none) (s x : Operand) (ho : o.op = .call { callee := .builtin .append, args := #[s, x], argTypes := #[72, 72] })
    {B : Nat} {v rv : Value} {G : List Mx} {F : Mx} (hs : a.eval s = v) (hown : BookO B w v G) {b : Nat} (hx : a.eval x = .slice (some ⟨b, 0, none⟩) 1 1) (hc : w.cell? ⟨b, 0, none⟩ = some rv) (hr : MatO B w rv F) (hl : G.length ≤ 1000000000) (hB : B ≤ w.heap.size)
    (h : ∀ g cap w', BookO B w' (slv g (G.length + 1) cap) (G ++ [F]) → Below B w w' → w.grownBy w' v.ownBlock → wpList Tryz.prog ops Q rest (a.put o.dst (slv g (G.length + 1) cap)) w') : wpList Tryz.prog ops Q (o :: rest) a w := by
  obtain ⟨i0, hi, hz0, hz1, hz2⟩ := info_parts Tryz.infoRows
  obtain ⟨vs, h1, h2, h3⟩ := hown
  refine wpList_append_lies w hgd s x 72 ho B 48 i0 _ 1 24 Tryz.underlying72 hi hz0 hz1 hz2 rfl (by omega) v G.length vs hs h2 ⟨b, 0, none⟩ 1 1 [rv] hx rfl ?_ ?_ (by omega) (by unfold maxLen; omega) (by omega) hB w.heap.size rfl ?_
  · intro j u hj
    have : j = 0 := by have := (List.getElem?_eq_some_iff.1 hj).1; simp at this; omega
    subst this
    simp only [List.getElem?_cons_zero, Option.some.injEq] at hj
    subst hj
    simpa [Addr.add_lit] using hc
  · intro u hu
    simp only [List.mem_cons, List.not_mem_nil, or_false] at hu
    subst hu; exact hr.one
  · intro g cap w' k1 k2 k3 k4
    have hkeep : ∀ {u : Value} {F : Mx}, MatO B w u F → MatO B w' u F := fun hu => mat_kept hu h2 (by decide) (by decide) k2
    refine h g cap w' ⟨vs ++ [rv], by simp [h1], ?_, fun t ht ht' => ?_⟩ (Below.grown (Below.refl _ _) k2 hB (fun q hq => (World.ownsRow.lt h2 q hq).1)) k2
    · rw [List.length_append]; exact k1
    · rcases Nat.lt_or_ge t G.length with hlt | hge
      · rw [List.getElem_append_left (by omega), List.getElem_append_left hlt]
        exact hkeep (h3 t hlt (by omega))
      · have hte : t = G.length := by simp at ht; omega
        subst hte
        rw [List.getElem_append_right (by omega), List.getElem_append_right (by omega)]
        simp only [h1, Nat.sub_self, List.getElem_cons_zero]
        exact hkeep hr
end
/-- The intervals of a window. -/
def winRow (m : Nat) (y : Int) (o r u : List Int) (t : Nat) : Mx := (List.range t).map fun (x : Nat) => atL ((x : Int) - m) y o r u
def winTo (m : Nat) (o r u : List Int) (t : Nat) : List Mx := (List.range t).map fun (y : Nat) => winRow m ((y : Int) - m) o r u (2 * m + 1)
theorem winRow_length (m : Nat) (y : Int) (o r u : List Int) (t : Nat) : (winRow m y o r u t).length = t := by simp [winRow]
theorem winTo_length (m : Nat) (o r u : List Int) (t : Nat) : (winTo m o r u t).length = t := by simp [winTo]
theorem winRow_succ (m : Nat) (y : Int) (o r u : List Int) (t : Nat) : winRow m y o r u (t + 1) = winRow m y o r u t ++ [atL ((t : Int) - m) y o r u] := by
  simp [winRow, List.range_succ]
theorem winTo_succ (m : Nat) (o r u : List Int) (t : Nat) : winTo m o r u (t + 1) = winTo m o r u t ++ [winRow m ((t : Int) - m) o r u (2 * m + 1)] := by
  simp [winTo, List.range_succ]
/-- The keys of a window that have an interval. -/
def kyRow (m : Nat) (q : List Int) (y : Int) (o r u : List Int) (t : Nat) : List (Int × Int) := (List.range t).flatMap fun (x : Nat) => if atL ((x : Int) - m) y o r u = q then [((x : Int) - m, y)] else []
def kyTo (m : Nat) (q : List Int) (o r u : List Int) (t : Nat) : List (Int × Int) := (List.range t).flatMap fun (y : Nat) => kyRow m q ((y : Int) - m) o r u (2 * m + 1)
theorem kyRow_succ (m : Nat) (q : List Int) (y : Int) (o r u : List Int) (t : Nat) : kyRow m q y o r u (t + 1) = kyRow m q y o r u t ++ (if atL ((t : Int) - m) y o r u = q then [((t : Int) - m, y)] else []) := by
  simp [kyRow, List.range_succ]
theorem kyTo_succ (m : Nat) (q : List Int) (o r u : List Int) (t : Nat) : kyTo m q o r u (t + 1) = kyTo m q o r u t ++ kyRow m q ((t : Int) - m) o r u (2 * m + 1) := by
  simp [kyTo, List.range_succ]
theorem kyRow_le (m : Nat) (q : List Int) (y : Int) (o r u : List Int) : ∀ t, (kyRow m q y o r u t).length ≤ t
  | 0 => by simp [kyRow]
  | t + 1 => by
    rw [kyRow_succ, List.length_append]
    have := kyRow_le m q y o r u t
    split <;> simp <;> omega
theorem kyTo_le (m : Nat) (q : List Int) (o r u : List Int) : ∀ t, (kyTo m q o r u t).length ≤ (2 * m + 1) * t
  | 0 => by simp [kyTo]
  | t + 1 => by
    rw [kyTo_succ, List.length_append, Nat.mul_succ]
    have := kyTo_le m q o r u t
    have := kyRow_le m q ((t : Int) - m) o r u (2 * m + 1)
    omega
end Go.Proofs.YtnmmglnadnfoiaaGreatDoor
/- layout: window, Window. -/
namespace Go.Proofs.YtnmmglnadnfoiaaGreatDoor
open Go.RowKit Go.Sort
def winE (z : Int) : Int := if z < 0 ∨ 20 < z then 3 else 0
theorem window_any (z : Int) (w : World) : Calls Tryz.prog 75 #[.int .i64 z] w fun e w' => e = .returned (.int .i64 (winE z)) ∧ Ext w w' := by
  unfold winE
  by_cases h1 : z < 0
  · rw [if_pos (.inl h1)]
    go_enter Tryz.func75, Tryz.ntmps75
    go_wp2_with fail
    go_ret
    exact ⟨rfl, Ext.refl _⟩
  · by_cases h2 : 20 < z
    · rw [if_pos (.inr h2)]
      have h3 : z > 20 := h2
      go_enter Tryz.func75, Tryz.ntmps75
      go_wp2_with fail
      go_ret
      exact ⟨rfl, Ext.refl _⟩
    · rw [if_neg (by omega)]
      have h3 : ¬ z > 20 := h2
      go_enter Tryz.func75, Tryz.ntmps75
      go_wp2_with fail
      go_ret
      exact ⟨rfl, Ext.refl _⟩
theorem Note_ok {w : World} {k x y : Int} {n go co gr cr gu cu : Nat} {o r u : List Int} (h : LayP w k n go co gr cr gu cu o r u) (hx : -1000000 ≤ x ∧ x ≤ 1000000) (hy : -1000000 ≤ y ∧ y ≤ 1000000) (hc : chkRow (atL x y o r u) = 0) :
    Calls Tryz.prog 17 #[layv k n go co gr cr gu cu, .agg #[.int .i64 x, .int .i64 y]] w fun e w' => (∃ g, e = .returned (.tuple #[slv g n n, .int .i64 0]) ∧ OwnV 3 w.heap.size w' g n (is (atL x y o r u))) ∧ Ext w w' := by
  refine (Note_any h (by unfold I64; omega) (by unfold I64; omega) (fun _ => hc)).mono ?_
  rintro e w' ⟨hp, hE⟩
  have hf : farB x y = false := by
    unfold farB
    simp only [Bool.or_eq_false_iff, decide_eq_false_iff_not]
    omega
  rw [hf, if_neg (by decide)] at hp
  exact ⟨hp, hE⟩
theorem OwnV.rowV {B : Nat} {w : World} {g n : Nat} {x : List Int} (h : OwnV 3 B w g n (is x)) (hl : x.length = n) : RowV B w (slv g n n) x := by
  subst hl
  unfold OwnV at h; unfold RowV
  simpa using h
theorem MatO.shape {B : Nat} {w : World} {v : Value} {F : Mx} (h : MatO B w v F) (h0 : 0 < F.length) : ∃ g cap, v = slv g F.length cap := by
  obtain ⟨vs, k1, k2, k3⟩ := h
  rcases k2.2 with ⟨_, he⟩ | ⟨g, cap, cur, rfl, _⟩
  · rw [he] at k1; simp at k1; omega
  · exact ⟨g, cap, rfl⟩
theorem BookO.shape {B : Nat} {w : World} {v : Value} {F : List Mx} (h : BookO B w v F) (h0 : 0 < F.length) : ∃ g cap, v = slv g F.length cap := by
  obtain ⟨vs, k1, k2, k3⟩ := h
  rcases k2.2 with ⟨_, he⟩ | ⟨g, cap, cur, rfl, _⟩
  · rw [he] at k1; simp at k1; omega
  · exact ⟨g, cap, rfl⟩
theorem winRow_c (m : Nat) (y : Int) (o r u : List Int) {x : Int} (hx : -(m : Int) ≤ x) : winRow m y o r u (x + 1 + m).toNat = winRow m y o r u (x + m).toNat ++ [atL x y o r u] := by
  obtain ⟨t, ht⟩ : ∃ t : Nat, x = (t : Int) - m := ⟨(x + m).toNat, by omega⟩
  subst ht
  rw [show ((t : Int) - m + 1 + m).toNat = t + 1 by omega, show ((t : Int) - m + m).toNat = t by omega, winRow_succ]
theorem winTo_c (m : Nat) (o r u : List Int) {y : Int} (hy : -(m : Int) ≤ y) : winTo m o r u (y + 1 + m).toNat = winTo m o r u (y + m).toNat ++ [winRow m y o r u (2 * m + 1)] := by
  obtain ⟨t, ht⟩ : ∃ t : Nat, y = (t : Int) - m := ⟨(y + m).toNat, by omega⟩
  subst ht
  rw [show ((t : Int) - m + 1 + m).toNat = t + 1 by omega, show ((t : Int) - m + m).toNat = t by omega, winTo_succ]
/-- The four cells of a layout's box. -/
structure LayC (w : World) (b : Nat) (k : Int) (n go co gr cr gu cu : Nat) : Prop where
  c0 : w.cell? ⟨b, 0, none⟩ = some (.int .i64 k)
  c1 : w.cell? ⟨b, 1, none⟩ = some (slv go n co)
  c2 : w.cell? ⟨b, 2, none⟩ = some (slv gr n cr)
  c3 : w.cell? ⟨b, 3, none⟩ = some (slv gu n cu)
theorem LayC.ext {w w' : World} {b : Nat} {k : Int} {n go co gr cr gu cu : Nat} (h : LayC w b k n go co gr cr gu cu) (he : Ext w w') : LayC w' b k n go co gr cr gu cu :=
  ⟨he.cell h.c0, he.cell h.c1, he.cell h.c2, he.cell h.c3⟩
theorem layC_new (w : World) (k : Int) (n go co gr cr gu cu : Nat) : LayC (w.alloc (.cells #[.int .i64 k, slv go n co, slv gr n cr, slv gu n cu] 32)) w.heap.size k n go co gr cr gu cu :=
  ⟨by go_simp, by go_simp, by go_simp, by go_simp⟩
set_option maxRecDepth 100000 in
set_option maxHeartbeats 2000000 in
theorem Window_any {w : World} {k : Int} {n go co gr cr gu cu m : Nat} {o r u : List Int} (h : LayP w k n go co gr cr gu cu o r u) (hm : m ≤ 20) (hres : ∀ x y : Int, -20 ≤ x → x ≤ 20 → -20 ≤ y → y ≤ 20 → chkRow (atL x y o r u) = 0) :
    Calls Tryz.prog 42 #[layv k n go co gr cr gu cu, .int .i64 m] w fun e w' => (∃ v, e = .returned (.tuple #[v, .int .i64 0]) ∧ BookO w.heap.size w' v (winTo m o r u (2 * m + 1))) ∧ Ext w w' := by
  have hck := Lib.hid (fun W (hW : Ext w W) => lcheck_ok (h.ext hW))
  have hwn := Lib.hid (fun W => window_any (m : Int) W)
  rw [show winE (m : Int) = 0 by unfold winE; rw [if_neg (by omega)]] at hwn
  have hnt := Lib.hid (fun W (x y : Int) (hW : Ext w W) (h1 : -20 ≤ x ∧ x ≤ 20) (h2 : -20 ≤ y ∧ y ≤ 20) => Note_ok (h.ext hW) (x := x) (y := y) (by omega) (by omega) (hres x y h1.1 h1.2 h2.1 h2.2))
  have hol : ∀ x y, (atL x y o r u).length = n := fun x y => by rw [atL_length _ _ _ _ _ (by rw [h.lo, h.lr]) (by rw [h.lo, h.lu])]; exact h.lo
  have Hol := Lib.hid hol
  obtain ⟨M, hM⟩ : ∃ M : Int, M = (m : Int) := ⟨_, rfl⟩
  have hM1 : 0 ≤ M := by omega
  have hM2 : M ≤ 20 := by omega
  rw [← hM] at hwn ⊢
  have HM := Lib.hid hM
  have hX : Ext w (w.alloc (.cells #[.int .i64 k, slv go n co, slv gr n cr, slv gu n cu] 32)) := (Ext.refl w).alloc _
  have hb := layC_new w k n go co gr cr gu cu
  obtain ⟨b, hbb⟩ : ∃ b, b = w.heap.size := ⟨_, rfl⟩
  clear h hres hol hm hM
  go_enter Tryz.func42, Tryz.ntmps42
  go_wp2_with fail
  refine (hck.out _ hX).mono ?_
  rintro e w1 ⟨rfl, hE1⟩
  have hb1 := hb.ext hE1
  have hX1 := hX.trans hE1
  clear hE1 hck hX hb
  go_wp2_with fail
  refine (hwn.out _).mono ?_
  rintro e w2 ⟨rfl, hE2⟩
  have hb2 := Lib.hid (hb1.ext hE2)
  have hX2 := hX1.trans hE2
  have hneg : IntKind.i64.wrap (-M) = -M := IntWalk.i64_in _ (by omega)
  rw [← hbb] at hb2
  clear hE2 hwn hX1 hb1
  rw [← hbb]
  clear hbb
  go_wp2_with fail
  go_loopw [8, 9, 10, 11, 12, 13] (fun out yv line xv rv ev wr => ∃ y : Int, -M ≤ y ∧ y ≤ M + 1 ∧ yv = .int .i64 y ∧ Hid (BookO w2.heap.size wr out (winTo m o r u (y + m).toNat)) ∧ Ext w2 wr) (fun _ yv _ _ _ _ _ => (M + 1 - intOf yv).toNat)
  case atStart => exact ⟨-M, by omega, by omega, rfl, Lib.hid (by rw [HM.out, show (-(m : Int) + m).toNat = 0 by omega]; exact BookO.nil _ _), Ext.refl _⟩
  case round =>
    obtain ⟨y, hy1, hy2, rfl, hO, hE3⟩ := hrel
    generalize wr = Y at *
    by_cases hy3 : y ≤ M
    · go_wp2_with fail
      go_loopw [10, 11, 12, 13] (fun line xv rv ev wr => ∃ x : Int, -M ≤ x ∧ x ≤ M + 1 ∧ xv = .int .i64 x ∧ Hid (MatO Y.heap.size wr line (winRow m y o r u (x + m).toNat)) ∧ Ext Y wr) (fun _ xv _ _ _ => (M + 1 - intOf xv).toNat)
      case atStart => exact ⟨-M, by omega, by omega, rfl, Lib.hid (by rw [HM.out, show (-(m : Int) + m).toNat = 0 by omega]; exact MatO.nil _ _), Ext.refl _⟩
      case round =>
        obtain ⟨x, hx1, hx2, rfl, hI, hE4⟩ := hrel
        generalize wr = Z at *
        have hXZ := hX2.trans (hE3.trans hE4)
        by_cases hx3 : x ≤ M
        · have hb5 := hb2.out.ext (hE3.trans hE4)
          obtain ⟨c0, c1, c2, c3⟩ := hb5
          have hn := Lib.hid (hnt.out Z x y hXZ ⟨by omega, by omega⟩ ⟨by omega, by omega⟩)
          have Hx := Lib.hid hx1
          go_wp2_with fail
          refine hn.out.mono ?_
          rintro e w5 ⟨⟨g, rfl, hO5⟩, hE5⟩
          have HR := Lib.hid ((hO5.rowV (Hol.out x y)).mono hE4.size)
          have hE6 := hE4.trans hE5
          have HI := Lib.hid (hI.out.ext hE5)
          have hstep := winRow_c m y o r u (x := x) (by rw [← HM.out]; exact Hx.out)
          have Hstep := Lib.hid hstep
          have Hln := Lib.hid (show (winRow m y o r u (x + m).toNat).length ≤ 1000 by rw [winRow_length, ← HM.out]; omega)
          have hs6 := hE6.size
          clear hn hO5 hI c0 c1 c2 c3 hstep
          go_wp2_with (at_builtin; refine app_rows rfl _ _ _ Tryz.underlying48 rfl rfl (HI.out.ext ((Ext.refl _).alloc _)) rfl (b := w5.heap.size) (rv := slv g n n) (r := atL x y o r u) (by go_simp) (HR.out.ext ((Ext.refl _).alloc _)) (by have := Hln.out; omega) (by simp; omega) ?_; intro gg cap2 w8 hO8 hB8 hG8; rw [← Hstep.out] at hO8; have hE8 := Below.trans (hE6.alloc _) hB8; replace hO8 := Lib.hid hO8; clear hB8 hG8)
          refine ⟨⟨x + 1, by omega, by omega, by go_num, hO8, hE8⟩, by simp [intOf]; omega⟩
        · have hxe : x = M + 1 := by omega
          have hT := hI.out
          rw [hxe, show (M + 1 + (m : Int)).toNat = 2 * m + 1 by rw [HM.out]; omega] at hT
          obtain ⟨g, cp, rfl⟩ := hT.shape (by rw [winRow_length]; omega)
          have hsY := hE3.size
          have HT := Lib.hid (hT.mono hsY)
          have HO4 := Lib.hid (hO.out.ext hE4)
          have Hy := Lib.hid hy1
          have hstep := winTo_c m o r u (y := y) (by rw [← HM.out]; exact Hy.out)
          have Hstep := Lib.hid hstep
          have Hln := Lib.hid (show (winTo m o r u (y + m).toNat).length ≤ 1000 by rw [winTo_length, ← HM.out]; omega)
          have hE6 := hE3.trans hE4
          have hs6 := hE6.size
          clear hT hI hO hstep
          go_wp2_with (at_builtin; go_loud (refine app_book rfl _ _ rfl rfl (HO4.out.ext ((Ext.refl _).alloc _)) rfl (b := Z.heap.size) (rv := slv g (winRow m y o r u (2 * m + 1)).length cp) (F := winRow m y o r u (2 * m + 1)) (by go_simp) (HT.out.ext ((Ext.refl _).alloc _)) (by have := Hln.out; omega) (by simp; omega) ?_; intro gg cap2 w8 hO8 hB8 hG8; rw [← Hstep.out] at hO8; have hE8 := Below.trans (hE6.alloc _) hB8; replace hO8 := Lib.hid hO8; clear hB8 hG8))
          refine ⟨⟨y + 1, by omega, by omega, by go_num, hO8, hE8⟩, by simp [intOf]; omega⟩
    · have hye : y = M + 1 := by omega
      have hT := hO.out
      rw [hye, show (M + 1 + (m : Int)).toNat = 2 * m + 1 by rw [HM.out]; omega] at hT
      have HT := Lib.hid (hT.mono hX2.size)
      have HX := Lib.hid (hX2.trans hE3)
      clear hT hO
      go_wp2_with fail
      go_ret2
      exact ⟨⟨_, rfl, HT.out⟩, HX.out⟩
end Go.Proofs.YtnmmglnadnfoiaaGreatDoor
