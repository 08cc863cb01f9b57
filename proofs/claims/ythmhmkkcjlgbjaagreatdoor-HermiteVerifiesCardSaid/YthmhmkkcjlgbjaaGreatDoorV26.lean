/- Part 26 of the proof of the claim: contracts of the functions that it reaches, and plain laws; no condition. -/
import Derived.Test.YthmhmkkcjlgbjaaGreatDoorV25
import Derived.Test.YthmhmkkcjlgbjaaGreatDoorV13
import Derived.Test.YthmhmkkcjlgbjaaGreatDoorV18
import Derived.Test.YthmhmkkcjlgbjaaGreatDoorV11
import Derived.Test.YthmhmkkcjlgbjaaGreatDoorV24
/- schismaref07: matrices of integers of the reference; To -/
namespace Go.Proofs.YthmhmkkcjlgbjaaGreatDoor
open Go.RowKit Go.Sort
theorem Tryz.infoWholes : (Tryz.prog.info? 56).map (fun i => (i.zero, i.size, i.bytes)) = some (some (.slice none 0 0), 1, 24) := by kernel_rfl
/-- A readable row whose block is of the type of integers. -/
structure RwT (w : World) (v : Value) (r : List Int) : Prop where
  row : RwR w v r
  ty : ∀ a n c, v = .slice (some a) n c → 0 < n → ∃ cur fr, w.heap[a.block]? = some (.cells cur 66 fr)
theorem heap_ext {w w' : World} {k : Nat} {o : Obj} (h : w.heap[k]? = some o) (he : Ext w w') : w'.heap[k]? = some o := by
  rw [he.block k (Array.getElem?_eq_some_iff.1 h).1]; exact h
theorem RwT.ext {w w' : World} {v : Value} {r : List Int} (h : RwT w v r) (he : Ext w w') : RwT w' v r :=
  ⟨h.row.ext he, fun a n c e h0 => by obtain ⟨cur, fr, hh⟩ := h.ty a n c e h0; exact ⟨cur, fr, heap_ext hh he⟩⟩
theorem RwV.rwT {B : Nat} {w : World} {v : Value} {r : List Int} (h : RwV B w v r) : RwT w v r := by
  refine ⟨h.row, fun a n c e h0 => ?_⟩
  obtain ⟨ds, h1, h2, h3⟩ := h
  rcases h2.2 with ⟨rfl, h0'⟩ | ⟨g, cap, cur, rfl, hb, hg, hn, hm, hs, ht⟩
  · cases e
  · injection e with e1 _ _
    injection e1 with e1
    subst e1
    exact ⟨_, _, hg⟩
theorem rwT_far {g : Nat} {T : TypeId} {cur0 : Array Value} {fr0 : Nat × Nat} {w w' : World} (hg : w.heap[g]? = some (.cells cur0 T fr0)) (hT : T ≠ 3) (hT2 : T ≠ 66) (hG : w.grownBy w' (some g)) {v : Value} {r : List Int} (h : RwT w v r) : RwT w' v r := by
  have hne : ∀ a n c, v = .slice (some a) n c → 0 < n → a.block ≠ g := fun a n c e h0 hr => by
    obtain ⟨cur', fr, hh⟩ := h.ty a n c e h0
    rw [hr, hg] at hh
    injection hh with hh
    injection hh with _ h3
    exact hT2 h3
  refine ⟨?_, fun a n c e h0 => ?_⟩
  · obtain ⟨sa, gb, go, cap, e, hc, ha, hr⟩ := h.row
    refine ⟨sa, gb, go, cap, e, hc, ha, fun i hi => ?_⟩
    obtain ⟨d, c0, c1, hd⟩ := hr i hi
    have hb : gb ≠ g := hne ⟨gb, go, none⟩ _ _ (by rw [e, ha (by omega)]) (by omega)
    exact ⟨d, grown_frozen_cell hG hb c0, grown_frozen_cell hG hb c1, dig_far hg hT hG hd⟩
  · obtain ⟨cur', fr, hh⟩ := h.ty a n c e h0
    exact ⟨cur', fr, by rw [hG.block _ (Array.getElem?_eq_some_iff.1 hh).1 (fun e2 => hne a n c e h0 (Option.some.inj e2))]; exact hh⟩
theorem rwT_own {B size n : Nat} {T : TypeId} {xs : List Value} {u : Value} {w w' : World} (hO : w.ownsRow B T size u n xs) (hT : T ≠ 3) (hT2 : T ≠ 66) (hG : w.grownBy w' u.ownBlock) {v : Value} {r : List Int} (h : RwT w v r) : RwT w' v r := by
  rcases hO.2 with ⟨rfl, _⟩ | ⟨g, cap, cur, rfl, _, hg, _⟩
  · exact h.ext (ext_grown hG)
  · exact rwT_far hg hT hT2 hG h
/-- A readable matrix of integers of the reference. -/
def MtR (w : World) (v : Value) (M : Mx) : Prop := ∃ sa gb go cap vs, v = .slice sa M.length cap ∧ M.length ≤ cap ∧ vs.length = M.length ∧ Sl w sa gb go vs ∧ ∀ i (h : i < M.length) (h' : i < vs.length), RwT w vs[i] M[i]
theorem MtR.ext {w w' : World} {v : Value} {M : Mx} (h : MtR w v M) (he : Ext w w') : MtR w' v M := by
  obtain ⟨sa, gb, go, cap, vs, e, hc, hl, hs, hr⟩ := h; exact ⟨sa, gb, go, cap, vs, e, hc, hl, hs.ext he, fun i a b => (hr i a b).ext he⟩
/-- A matrix whose own block a call has made. -/
def MtO (B : Nat) (w : World) (v : Value) (F : Mx) : Prop := ∃ vs, vs.length = F.length ∧ w.ownsRow B 56 1 v F.length vs ∧ ∀ t (_ : t < F.length) (h' : t < vs.length), RwT w vs[t] F[t]
theorem MtO.nil (B : Nat) (w : World) : MtO B w (.slice none 0 0) [] := ⟨[], rfl, ⟨rfl, .inl ⟨rfl, rfl⟩⟩, fun t h => by simp at h⟩
theorem MtO.ext {B : Nat} {w w' : World} {v : Value} {F : Mx} (h : MtO B w v F) (he : Ext w w') : MtO B w' v F := by
  obtain ⟨vs, h1, h2, h3⟩ := h
  exact ⟨vs, h1, ownsRow_ext h2 he, fun t a b => (h3 t a b).ext he⟩
theorem MtO.mono {B B' : Nat} {w : World} {v : Value} {F : Mx} (h : MtO B w v F) (hB : B' ≤ B) : MtO B' w v F := by
  obtain ⟨vs, h1, h2, h3⟩ := h
  exact ⟨vs, h1, ownsRow_mono h2 hB, h3⟩
theorem MtO.mat {B : Nat} {w : World} {v : Value} {F : Mx} (h : MtO B w v F) : MtR w v F := by
  obtain ⟨vs, h1, h2, h3⟩ := h
  rcases h2.2 with ⟨rfl, h0⟩ | ⟨g, cap, cur, rfl, hb, hg, hn, hm, hs, ht⟩
  · have : F = [] := List.eq_nil_of_length_eq_zero h0
    subst this
    have hv : vs = [] := List.eq_nil_of_length_eq_zero h1
    subst hv
    exact ⟨none, 0, 0, 0, [], rfl, Nat.le_refl _, rfl, Sl.nil _ _ _ _, h3⟩
  · have ho : OwnV 56 B w g cap vs := by unfold OwnV; rw [h1]; exact h2
    exact ⟨_, g, 0, cap, vs, rfl, hn, h1, ho.sl, h3⟩
/-- A readable matrix stays when another block is grown or written. -/
theorem mtR_far {g : Nat} {T : TypeId} {cur0 : Array Value} {fr0 : Nat × Nat} {w w' : World} (hg : w.heap[g]? = some (.cells cur0 T fr0)) (hT : T ≠ 3) (hT2 : T ≠ 66) (hG : w.grownBy w' (some g)) {v : Value} {M : Mx} (h : MtR w v M) (hv : v.ownBlock ≠ some g) : MtR w' v M := by
  obtain ⟨sa, gb, go, cap, vs, e, hc, hl, hs, hr⟩ := h
  refine ⟨sa, gb, go, cap, vs, e, hc, hl, ⟨hs.addr, fun i x hx => ?_⟩, fun i a b => rwT_far hg hT hT2 hG (hr i a b)⟩
  have hi := (List.getElem?_eq_some_iff.1 hx).1
  refine grown_frozen_cell hG ?_ (hs.cell i x hx)
  intro e2
  subst e2
  rw [e, hs.addr (by omega)] at hv
  exact hv rfl
theorem RwT.one {w : World} {v : Value} {r : List Int} (h : RwT w v r) : v.oneCell' = true := by
  obtain ⟨sa, gb, go, cap, rfl, _⟩ := h.row; rfl
section
variable {w : World} {ops : Array Oper} {rest : List Oper} {o : Oper} {a : Act} {Q : Exit → Act → World → Prop}
theorem app_mtx (hgd : o.guard = none) (s x : Operand) (ho : o.op = .call { callee := .builtin .append, args := #[s, x], argTypes := #[60, 60] })
    {B : Nat} {v rv : Value} {F : Mx} {r : List Int} (hs : a.eval s = v) (hown : MtO B w v F) {b : Nat} (hx : a.eval x = .slice (some ⟨b, 0, none⟩) 1 1) (hc : w.cell? ⟨b, 0, none⟩ = some rv) (hr : RwT w rv r) (hl : F.length ≤ 1000000000) (hB : B ≤ w.heap.size)
    (h : ∀ g cap w', MtO B w' (slv g (F.length + 1) cap) (F ++ [r]) → Below B w w' → w.grownBy w' v.ownBlock → wpList Tryz.prog ops Q rest (a.put o.dst (slv g (F.length + 1) cap)) w') : wpList Tryz.prog ops Q (o :: rest) a w := by
  obtain ⟨i0, hi, hz0, hz1, hz2⟩ := info_parts Tryz.infoWholes
  obtain ⟨vs, h1, h2, h3⟩ := hown
  refine wpList_append_lies w hgd s x 60 ho B 56 i0 _ 1 24 Tryz.underlying60 hi hz0 hz1 hz2 rfl (by omega) v F.length vs hs h2 ⟨b, 0, none⟩ 1 1 [rv] hx rfl ?_ ?_ (by omega) (by unfold maxLen; omega) (by omega) hB w.heap.size rfl ?_
  · intro j u hj
    have : j = 0 := by have := (List.getElem?_eq_some_iff.1 hj).1; simp at this; omega
    subst this
    simp only [List.getElem?_cons_zero, Option.some.injEq] at hj
    subst hj
    simpa [Addr.add_lit] using hc
  · intro u hu
    simp only [List.mem_cons, List.not_mem_nil, or_false] at hu
    subst hu; exact hr.one
  · intro g cap w' k1 k2 k3 k4
    have hkeep : ∀ {u : Value} {l : List Int}, RwT w u l → RwT w' u l := fun hu => rwT_own h2 (by decide) (by decide) k2 hu
    refine h g cap w' ⟨vs ++ [rv], by simp [h1], ?_, fun t ht ht' => ?_⟩ (Below.grown (Below.refl _ _) k2 hB (fun q hq => (World.ownsRow.lt h2 q hq).1)) k2
    · rw [List.length_append]; exact k1
    · rcases Nat.lt_or_ge t F.length with hlt | hge
      · rw [List.getElem_append_left (by omega), List.getElem_append_left hlt]
        exact hkeep (h3 t hlt (by omega))
      · have hte : t = F.length := by simp at ht; omega
        subst hte
        rw [List.getElem_append_right (by omega), List.getElem_append_right (by omega)]
        simp only [h1, Nat.sub_self, List.getElem_cons_zero]
        exact hkeep hr
end
end Go.Proofs.YthmhmkkcjlgbjaaGreatDoor
/- schismaref07: To, From -/
namespace Go.Proofs.YthmhmkkcjlgbjaaGreatDoor
open Go.RowKit Go.Sort
theorem MtR.at {w : World} {v : Value} {M : Mx} (h : MtR w v M) : ∃ sa gb go cap, v = .slice sa M.length cap ∧ Hid (∀ i (h : i < M.length), sa = some ⟨gb, go, none⟩ ∧ ∃ s c, w.cell? ⟨gb, go + i, none⟩ = some (.slice s M[i].length c) ∧ RwT w (.slice s M[i].length c) M[i]) := by
  obtain ⟨sa, gb, go, cap, vs, e, _, hl, hs, hr⟩ := h
  refine ⟨sa, gb, go, cap, e, Lib.hid fun i hi => ⟨hs.addr (by omega), ?_⟩⟩
  have hv : i < vs.length := by omega
  have h1 := hs.cell i vs[i] (List.getElem?_eq_getElem hv)
  have h2 := hr i hi hv
  obtain ⟨s, _, _, c, e2, _⟩ := h2.row
  exact ⟨s, c, by rw [← e2]; exact h1, by rw [← e2]; exact h2⟩
set_option maxRecDepth 100000 in
set_option maxHeartbeats 1000000 in
theorem to_m {w : World} {v : Value} {M : Mx} (hM : MatR w v M) (h64 : ∀ r ∈ M, ∀ z ∈ r, I64 z) (hml : M.length ≤ 1000000) (hbr : ∀ r ∈ M, r.length ≤ 1000000) (hL : Laid w) :
    Calls Tryz.prog 30 #[v] w fun e w' => ∃ u, e = .returned u ∧ MtO w.heap.size w' u M ∧ Ext w w' := by
  obtain ⟨sa, gb, go, cap, vs, rfl, hcap, hvl, hS, hr⟩ := hM
  have HS := Lib.hid hS
  have HV := Lib.hid hvl
  have HR := Lib.hid hr
  have HL := Lib.hid hL
  have H64 := Lib.hid h64
  clear hS hvl hr hL h64
  go_enter Tryz.func30, Tryz.ntmps30
  go_wp2_with fail
  go_loopw [3, 4] (fun out idx wr => ∃ i : Nat, i ≤ M.length ∧ idx = .int .i64 i ∧ Hid (MtO w.heap.size wr out (M.take i)) ∧ Ext w wr) (fun _ idx _ => M.length - (intOf idx).toNat)
  case atStart => exact ⟨0, by omega, by go_num, Lib.hid (MtO.nil _ _), Ext.refl _⟩
  case round =>
    obtain ⟨i, hi, rfl, hO, hE⟩ := hrel
    generalize wr = X at *
    by_cases hlt : i < M.length
    · have hii : (i : Int) < (M.length : Int) := by omega
      obtain rfl := HS.out.addr (by rw [HV.out]; omega)
      obtain ⟨sr, br, or, cr, hrow, hrc, hSr⟩ := MatR.row HS.out HV.out HR.out hlt
      have hrow' := hE.cell hrow
      have hpc := Lib.hid (toRow_w (w := X) (v := .slice sr M[i].length cr) (r := M[i]) ⟨sr, br, or, cr, rfl, hrc, hSr.ext hE⟩ (H64.out _ (List.getElem_mem hlt)) (hbr _ (List.getElem_mem hlt)) (HL.out.ext hE))
      have Hil := Lib.hid (show (M.take i).length = i by rw [List.length_take]; omega)
      obtain ⟨q, hq⟩ : ∃ q, q = M[i] := ⟨_, rfl⟩
      obtain ⟨qn, hqn⟩ : ∃ qn, qn = M[i].length := ⟨_, rfl⟩
      rw [← hqn] at hpc hrow'
      rw [← hq] at hpc
      have Hsn := Lib.hid (show M.take (i + 1) = M.take i ++ [q] by
        rw [List.take_succ_eq_append_getElem hlt, hq])
      clear hq hqn hrow hrc hSr
      go_wp2_with fail
      refine hpc.out.mono ?_
      rintro e W ⟨u, rfl, hu, hW⟩
      have HO2 := Lib.hid (hO.out.ext hW)
      have hE2 := Lib.hid (hE.trans hW)
      have hsz := hE2.out.size
      have HU := Lib.hid hu.rwT
      obtain ⟨us, ub, uo, uc, hue, _⟩ := HU.out.row
      obtain ⟨un, hun⟩ : ∃ un, un = q.length := ⟨_, rfl⟩
      rw [← hun] at hue
      subst hue
      clear hpc hW hu hun
      go_wp2_with (at_builtin; refine app_mtx rfl _ _ rfl rfl (HO2.out.ext ((Ext.refl _).alloc _)) rfl (b := W.heap.size) (rv := .slice us un uc) (r := q) (by go_simp) (HU.out.ext ((Ext.refl _).alloc _)) (by rw [Hil.out]; omega) (by simp; omega) ?_; intro gg cap2 w8 hO8 hB8 hG8; rw [Hil.out, ← Hsn.out] at hO8; rw [Hil.out])
      have hE8 : Ext w w8 := Below.trans (hE2.out.alloc (.cells #[.slice us un uc] 56)) hB8
      have hO9 := Lib.hid hO8
      clear hG8 hB8 hO8
      go_wp2_with fail
      go_roundw
      case rel => exact ⟨i + 1, by omega, by go_num, hO9, hE8⟩
      case measure => simp [intOf] <;> omega
    · have hie : M.take i = M := List.take_of_length_le (by omega)
      rw [hie] at hO
      go_wp2_with fail
      go_ret
      exact ⟨_, rfl, hO.out, hE⟩
def FmPost (B : Nat) (M : Mx) (w : World) (e : Ending) (w' : World) : Prop :=
  (smallM M = true ∧ ∃ u, e = .returned (.tuple #[u, .bool true]) ∧ MatO B w' u M ∧ Ext w w') ∨ (smallM M = false ∧ e = .returned (.tuple #[.slice none 0 0, .bool false]) ∧ Ext w w')
set_option maxRecDepth 100000 in
set_option maxHeartbeats 2000000 in
theorem from_m {w : World} {v : Value} {M : Mx} (hM : MtR w v M) (hb : ∀ r ∈ M, ∀ z ∈ r, (pc z.natAbs).length ≤ 100000000) (hml : M.length ≤ 1000000) (hbr : ∀ r ∈ M, r.length ≤ 1000000) (hL : Laid w) :
    Calls Tryz.prog 61 #[v] w (FmPost w.heap.size M w) := by
  obtain ⟨sa, gb, go, cap, rfl, hS⟩ := hM.at
  have HL := Lib.hid hL
  have Hb := Lib.hid hb
  have Hbr := Lib.hid hbr
  obtain ⟨n, hn⟩ : ∃ n, n = M.length := ⟨_, rfl⟩
  rw [← hn] at hml ⊢
  have Hn := Lib.hid hn
  clear hL hM hb hbr hn
  go_enter Tryz.func61, Tryz.ntmps61
  go_wp2_with fail
  go_loopw [4, 5] (fun out idx wr => ∃ i : Nat, i ≤ n ∧ idx = .int .i64 i ∧ Hid (MatO w.heap.size wr out (M.take i)) ∧ Hid (∀ j (hj : j < M.length), j < i → smallB M[j] = true) ∧ Ext w wr) (fun _ idx _ => n - (intOf idx).toNat)
  case atStart => exact ⟨0, by omega, by go_num, Lib.hid (MatO.nil _ _), Lib.hid (fun j _ h => by omega), Ext.refl _⟩
  case round =>
    obtain ⟨i, hi, rfl, hO, hZ, hE⟩ := hrel
    generalize wr = X at *
    by_cases hlt : i < n
    · have hii : (i : Int) < (n : Int) := by omega
      have hir : i < M.length := by rw [← Hn.out]; exact hlt
      obtain ⟨rfl, sr, cr, c0, hw⟩ := hS.out i hir
      obtain ⟨q, hq⟩ : ∃ q, q = M[i] := ⟨_, rfl⟩
      have hmem : q ∈ M := by rw [hq]; exact List.getElem_mem hir
      have Hq := Lib.hid hq
      obtain ⟨qn, hqn⟩ : ∃ qn, qn = M[i].length := ⟨_, rfl⟩
      rw [← hqn] at c0 hw
      rw [← hq] at hw
      have hfr := Lib.hid (fromRow_w (hw.ext hE).row (Hb.out _ hmem) (Hbr.out _ hmem) (HL.out.ext hE))
      have c0 := hE.cell c0
      have Hil := Lib.hid (show (M.take i).length = i by rw [List.length_take]; omega)
      have Hsn := Lib.hid (show M.take (i + 1) = M.take i ++ [q] by rw [take_snocM hir, hq])
      have hsz := hE.size
      clear hw hmem hq hqn
      go_wp2_with fail
      refine hfr.out.mono ?_
      rintro e W hp
      rcases hp with ⟨hs, u, rfl, hu, hW⟩ | ⟨hs, rfl, hW⟩
      · have HO2 := Lib.hid (hO.out.ext hW)
        have hE2 := Lib.hid (hE.trans hW)
        have hsz2 := hE2.out.size
        have HU := Lib.hid (hu.mono hsz)
        have HZ2 := Lib.hid (show ∀ j (hj : j < M.length), j < i + 1 → smallB M[j] = true from fun j hj h => by
          by_cases e : j = i
          · subst e; rw [← Hq.out]; exact hs
          · exact hZ.out j hj (by omega))
        obtain ⟨us, un, uc, rfl⟩ : ∃ us un uc, u = .slice us un uc := by
          obtain ⟨us, ub, uo, uc, hue, _⟩ := hu.row
          exact ⟨us, _, uc, hue⟩
        clear hfr hW hu hs
        go_wp2_with (at_builtin; refine app_mat rfl _ _ rfl rfl (HO2.out.ext ((Ext.refl _).alloc _)) rfl (b := W.heap.size) (rv := .slice us un uc) (r := q) (by go_simp) (HU.out.ext ((Ext.refl _).alloc _)) (by rw [Hil.out]; omega) (by simp; omega) ?_; intro gg cap2 w8 hO8 hB8 hG8; rw [Hil.out, ← Hsn.out] at hO8; rw [Hil.out])
        have hE8 : Ext w w8 := Below.trans (hE2.out.alloc (.cells #[.slice us un uc] 35)) hB8
        have hO9 := Lib.hid hO8
        clear hG8 hB8 hO8
        go_wp2_with fail
        go_roundw
        case rel => exact ⟨i + 1, by omega, by go_num, hO9, HZ2, hE8⟩
        case measure => simp [intOf] <;> omega
      · have hfin := Lib.hid (show FmPost w.heap.size M w (.returned (.tuple #[.slice none 0 0, .bool false])) W from .inr ⟨smallM_not hir (by rw [← Hq.out]; exact hs), rfl, hE.trans hW⟩)
        clear hfr hs
        go_wp2_with fail
        go_ret2
        exact hfin.out
    · have hie : M.take i = M := List.take_of_length_le (by rw [← Hn.out]; omega)
      rw [hie] at hO
      have Hyes := Lib.hid (smallM_yes (F := M) fun j hj => hZ.out j hj (by rw [← Hn.out] at hj; omega))
      go_wp2_with fail
      go_ret2
      exact .inl ⟨Hyes.out, _, rfl, hO.out, hE⟩
end Go.Proofs.YthmhmkkcjlgbjaaGreatDoor
/- Plain facts on the reference's rows: less and negative in lattices -/
namespace Go.Proofs.YthmhmkkcjlgbjaaGreatDoor
open Go.RowKit Go.Sort
open Hnf
theorem lessL_length {k : Int} {x y : List Int} (h : y.length = x.length) : (lessL k x y).length = x.length := by
  unfold lessL; rw [List.length_zipWith]; omega
theorem lessL_getD {k : Int} {x y : List Int} (h : y.length = x.length) (j : Nat) : (lessL k x y).getD j 0 = x.getD j 0 - k * y.getD j 0 := by
  unfold lessL
  rcases Nat.lt_or_ge j x.length with hj | hj
  · rw [List.getD_eq_getElem?_getD, List.getD_eq_getElem?_getD, List.getD_eq_getElem?_getD, List.getElem?_eq_getElem (by rw [List.length_zipWith]; omega), List.getElem?_eq_getElem hj, List.getElem?_eq_getElem (by omega : j < y.length)]
    simp
  · rw [List.getD_eq_getElem?_getD, List.getD_eq_getElem?_getD, List.getD_eq_getElem?_getD, List.getElem?_eq_none (by rw [List.length_zipWith]; omega), List.getElem?_eq_none hj, List.getElem?_eq_none (by omega : y.length ≤ j)]
    simp
theorem vr_less {k : Int} {x y : List Int} (h : y.length = x.length) : vr (lessL k x y) = Hnf.sub (vr x) k (vr y) := by
  funext j; exact lessL_getD h j
theorem ngL_length (x : List Int) : (ngL x).length = x.length := by unfold ngL; simp
theorem vr_ng (x : List Int) : vr (ngL x) = Hnf.sub (fun _ => 0) 1 (vr x) := vr_neg x
/-- Two lists of vectors have one lattice. -/
def Same (A B : List V) : Prop := (∀ v ∈ A, Span B v) ∧ (∀ v ∈ B, Span A v)
theorem Same.refl (A : List V) : Same A A := ⟨fun _ h => .mem h, fun _ h => .mem h⟩
theorem Same.symm {A B : List V} (h : Same A B) : Same B A := ⟨h.2, h.1⟩
theorem Same.trans {A B C : List V} (h : Same A B) (k : Same B C) : Same A C := ⟨fun v hv => (h.1 v hv).trans k.1, fun v hv => (k.2 v hv).trans h.2⟩
/-- The inner loop of column: two rows, with one lattice from the start, and the bound of their entries. -/
structure In2 (c n C : Nat) (A : List V) (x p : List Int) : Prop where
  lx : x.length = n
  lp : p.length = n
  same : Same A [vr x, vr p]
  xc : 0 ≤ x.getD c 0
  pc : 0 < p.getD c 0
  bd : ∃ nx np : Nat, (∀ z ∈ x, z.natAbs ≤ nx) ∧ (∀ z ∈ p, z.natAbs ≤ np) ∧ nx * (p.getD c 0).natAbs + np * (x.getD c 0).natAbs ≤ C ∧ nx ≤ C ∧ np ≤ C
theorem same_swap (a b : V) : Same [a, b] [b, a] :=
  ⟨fun v hv => .mem (by simp at hv ⊢; exact hv.symm), fun v hv => .mem (by simp at hv ⊢; exact hv.symm)⟩
theorem In2.swap {c n C : Nat} {A : List V} {x p : List Int} (h : In2 c n C A x p) (hx : x.getD c 0 ≠ 0) : In2 c n C A p x := by
  obtain ⟨nx, np, h1, h2, h3, h4, h5⟩ := h.bd
  have := h.xc
  exact ⟨h.lp, h.lx, h.same.trans (same_swap _ _), Int.le_of_lt h.pc, by omega, np, nx, h2, h1, by omega, h5, h4⟩
theorem same_sub (a b : V) (q : Int) : Same [a, b] [Hnf.sub a q b, b] := by
  refine ⟨fun v hv => ?_, fun v hv => ?_⟩
  · simp only [List.mem_cons, List.not_mem_nil, or_false] at hv
    rcases hv with rfl | rfl
    · have h1 : Span [Hnf.sub v q b, b] (Hnf.sub (Hnf.sub v q b) (-q) b) := Span.sub (-q) (.mem (by simp)) (.mem (by simp))
      have : Hnf.sub (Hnf.sub v q b) (-q) b = v := by funext j; simp only [Hnf.sub, Int.neg_mul]; omega
      rwa [this] at h1
    · exact .mem (by simp)
  · simp only [List.mem_cons, List.not_mem_nil, or_false] at hv
    rcases hv with rfl | rfl
    · exact Span.sub q (.mem (by simp)) (.mem (by simp))
    · exact .mem (by simp)
theorem less_abs {k : Int} {x y : List Int} {nx ny : Nat} (hx : ∀ z ∈ x, z.natAbs ≤ nx) (hy : ∀ z ∈ y, z.natAbs ≤ ny) : ∀ z ∈ lessL k x y, z.natAbs ≤ nx + k.natAbs * ny := by
  intro z hz
  unfold lessL at hz
  obtain ⟨i, hi, rfl⟩ := List.getElem_of_mem hz
  rw [List.length_zipWith] at hi
  rw [List.getElem_zipWith]
  have h1 := hx _ (List.getElem_mem (show i < x.length by omega))
  have h2 := Nat.mul_le_mul_left k.natAbs (hy _ (List.getElem_mem (show i < y.length by omega)))
  have h3 := Int.natAbs_mul k (y[i]'(by omega))
  generalize x[i]'(by omega) = a at *
  generalize y[i]'(by omega) = b at *
  rw [← h3] at h2
  generalize k * b = kb at *
  omega
theorem In2.less {c n C : Nat} {A : List V} {x p : List Int} (h : In2 c n C A x p) : In2 c n C A (lessL ((x.getD c 0).fdiv (p.getD c 0)) x p) p ∧ (lessL ((x.getD c 0).fdiv (p.getD c 0)) x p).getD c 0 < p.getD c 0 := by
  obtain ⟨nx, np, h1, h2, h3, h4, h5⟩ := h.bd
  have hl : p.length = x.length := by rw [h.lx, h.lp]
  have hxc := h.xc
  have hpc := h.pc
  have hg := lessL_getD (k := (x.getD c 0).fdiv (p.getD c 0)) hl c
  have hm : (x.getD c 0) - ((x.getD c 0).fdiv (p.getD c 0)) * (p.getD c 0) = (x.getD c 0).fmod (p.getD c 0) := by
    rw [Int.fmod_def, Int.mul_comm]
  have hm0 := Int.fmod_nonneg_of_pos (x.getD c 0) hpc
  have hm1 := Int.fmod_lt_of_pos (x.getD c 0) hpc
  have hq : 0 ≤ (x.getD c 0).fdiv (p.getD c 0) := Int.fdiv_nonneg hxc (Int.le_of_lt hpc)
  have hb := less_abs (k := (x.getD c 0).fdiv (p.getD c 0)) h1 h2
  have hs := same_sub (vr x) (vr p) ((x.getD c 0).fdiv (p.getD c 0))
  rw [← vr_less hl] at hs
  generalize (x.getD c 0).fdiv (p.getD c 0) = q at *
  have hx' : (lessL q x p).getD c 0 < p.getD c 0 := by rw [hg, hm]; exact hm1
  refine ⟨⟨by rw [lessL_length hl]; exact h.lx, h.lp, h.same.trans hs, by rw [hg, hm]; exact hm0, hpc, nx + q.natAbs * np, np, hb, h2, ?_, ?_, h5⟩, hx'⟩
  all_goals
    have hk : (nx + q.natAbs * np) * (p.getD c 0).natAbs + np * ((lessL q x p).getD c 0).natAbs = nx * (p.getD c 0).natAbs + np * (x.getD c 0).natAbs := by
      have e : (x.getD c 0).natAbs = q.natAbs * (p.getD c 0).natAbs + ((lessL q x p).getD c 0).natAbs := by
        rw [← Int.natAbs_mul]
        have h0 : 0 ≤ q * p.getD c 0 := Int.mul_nonneg hq (Int.le_of_lt hpc)
        rw [hg]
        generalize q * p.getD c 0 = t at *
        omega
      rw [e, Nat.add_mul, Nat.mul_add, Nat.mul_assoc, Nat.mul_left_comm np, Nat.mul_comm np]
      simp only [Nat.mul_comm, Nat.mul_left_comm, Nat.add_assoc]
  · omega
  · have h6 : nx + q.natAbs * np ≤ (nx + q.natAbs * np) * (p.getD c 0).natAbs := Nat.le_mul_of_pos_right _ (by omega)
    omega
end Go.Proofs.YthmhmkkcjlgbjaaGreatDoor
/- Plain facts on the reference's column: the state between two rows -/
namespace Go.Proofs.YthmhmkkcjlgbjaaGreatDoor
open Go.RowKit Go.Sort
open Hnf
theorem Same.app {A B C D : List V} (h : Same A B) (k : Same C D) : Same (A ++ C) (B ++ D) := by
  refine ⟨fun v hv => ?_, fun v hv => ?_⟩
  · rcases List.mem_append.1 hv with hv | hv
    · exact (h.1 v hv).mono fun r hr => List.mem_append_left _ hr
    · exact (k.1 v hv).mono fun r hr => List.mem_append_right _ hr
  · rcases List.mem_append.1 hv with hv | hv
    · exact (h.2 v hv).mono fun r hr => List.mem_append_left _ hr
    · exact (k.2 v hv).mono fun r hr => List.mem_append_right _ hr
theorem same_mem {A B : List V} (h : ∀ v, v ∈ A ↔ v ∈ B) : Same A B := ⟨fun v hv => .mem ((h v).1 hv), fun v hv => .mem ((h v).2 hv)⟩
structure Col (c n k : Nat) (T : Mx) (q : Option (List Int)) (Z : Mx) : Prop where
  len : Z.length + q.toList.length = T.length
  rZ : Rect n Z
  zZ : ∀ z ∈ Z, z.getD c 0 = 0
  pp : ∀ p, q = some p → p.length = n ∧ 0 < p.getD c 0
  same : Same (latM T) (latM (q.toList ++ Z))
  bd : ∀ r ∈ q.toList ++ Z, ∀ z ∈ r, z.natAbs < 2 ^ ((k + 1) * T.length)
theorem Col.start (c n k : Nat) : Col c n k [] none [] :=
  ⟨rfl, (fun r h => by cases h), (fun r h => by cases h), (fun p h => by cases h), Same.refl _, (fun r h => by simp at h)⟩
theorem latM_app (A B : Mx) : latM (A ++ B) = latM A ++ latM B := by simp [latM]
theorem Col.zero {c n k : Nat} {T Z : Mx} {q : Option (List Int)} (h : Col c n k T q Z) {x : List Int} (hx : x.length = n) (h0 : x.getD c 0 = 0) (hb : ∀ z ∈ x, z.natAbs < 2 ^ k) : Col c n k (T ++ [x]) q (Z ++ [x]) := by
  have he : 2 ^ ((k + 1) * T.length) ≤ 2 ^ ((k + 1) * (T ++ [x]).length) := Nat.pow_le_pow_right (by omega) (Nat.mul_le_mul_left _ (by simp))
  have hk : 2 ^ k ≤ 2 ^ ((k + 1) * (T ++ [x]).length) := Nat.pow_le_pow_right (by omega) (by
    rw [List.length_append, List.length_singleton, Nat.mul_add, Nat.mul_one]; omega)
  refine ⟨by have := h.len; simp only [List.length_append, List.length_singleton]; omega, fun r hr => ?_, fun r hr => ?_, h.pp, ?_, fun r hr z hz => ?_⟩
  · rcases List.mem_append.1 hr with hr | hr
    · exact h.rZ r hr
    · rw [List.mem_singleton.1 hr]; exact hx
  · rcases List.mem_append.1 hr with hr | hr
    · exact h.zZ r hr
    · rw [List.mem_singleton.1 hr]; exact h0
  · rw [← List.append_assoc, latM_app, latM_app]
    exact h.same.app (Same.refl _)
  · rw [← List.append_assoc] at hr
    rcases List.mem_append.1 hr with hr | hr
    · exact Nat.lt_of_lt_of_le (h.bd r hr z hz) he
    · rw [List.mem_singleton.1 hr] at hz; exact Nat.lt_of_lt_of_le (hb z hz) hk
theorem Col.first {c n k : Nat} {T Z : Mx} (h : Col c n k T none Z) {x y : List Int} (hy : y.length = n) (h0 : 0 < y.getD c 0) (hs : Same [vr x] [vr y]) (hb : ∀ z ∈ y, z.natAbs < 2 ^ k) : Col c n k (T ++ [x]) (some y) Z := by
  have he : 2 ^ ((k + 1) * T.length) ≤ 2 ^ ((k + 1) * (T ++ [x]).length) := Nat.pow_le_pow_right (by omega) (Nat.mul_le_mul_left _ (by simp))
  have hk : 2 ^ k ≤ 2 ^ ((k + 1) * (T ++ [x]).length) := Nat.pow_le_pow_right (by omega) (by
    rw [List.length_append, List.length_singleton, Nat.mul_add, Nat.mul_one]; omega)
  refine ⟨by have := h.len; simp only [List.length_append, List.length_singleton, Option.toList_some, Option.toList_none, List.length_nil] at *; omega, h.rZ, h.zZ, fun p hp => ?_, ?_, fun r hr z hz => ?_⟩
  · cases hp; exact ⟨hy, h0⟩
  · have h1 := h.same.app hs
    rw [latM_app]
    refine h1.trans (same_mem fun v => ?_)
    simp [latM, or_comm]
  · rcases List.mem_append.1 hr with hr | hr
    · rw [show (some y).toList = [y] from rfl, List.mem_singleton] at hr
      subst hr; exact Nat.lt_of_lt_of_le (hb z hz) hk
    · exact Nat.lt_of_lt_of_le (h.bd r (List.mem_append_right _ hr) z hz) he
theorem getD_bd {B : Nat} (hB : 0 < B) {r : List Int} (h : ∀ z ∈ r, z.natAbs < B) (c : Nat) : (r.getD c 0).natAbs < B := by
  rw [List.getD_eq_getElem?_getD]
  rcases Nat.lt_or_ge c r.length with hc | hc
  · rw [List.getElem?_eq_getElem hc]; exact h _ (List.getElem_mem hc)
  · rw [List.getElem?_eq_none hc]; exact hB
theorem In2.start {c n k K : Nat} {x p : List Int} (hx : x.length = n) (hp : p.length = n) (h0 : 0 ≤ x.getD c 0) (h1 : 0 < p.getD c 0) (bx : ∀ z ∈ x, z.natAbs < 2 ^ k) (bp : ∀ z ∈ p, z.natAbs < 2 ^ K) : In2 c n (2 ^ (k + 1 + K) - 1) [vr x, vr p] x p := by
  have hk : 0 < 2 ^ k := Nat.two_pow_pos k
  have hK : 0 < 2 ^ K := Nat.two_pow_pos K
  have e : 2 ^ (k + 1 + K) = 2 * (2 ^ k * 2 ^ K) := by rw [Nat.pow_add, Nat.pow_succ, Nat.mul_comm (2 ^ k) 2, Nat.mul_assoc]
  have ex := getD_bd hk bx c
  have ep := getD_bd hK bp c
  rw [e]
  generalize 2 ^ k = a at *
  generalize 2 ^ K = b at *
  have m1 : a * 1 ≤ a * b := Nat.mul_le_mul_left a hK
  have m2 : 1 * b ≤ a * b := Nat.mul_le_mul_right b hk
  refine ⟨hx, hp, Same.refl _, h0, h1, a - 1, b - 1, fun z hz => by have := bx z hz; omega, fun z hz => by have := bp z hz; omega, ?_, by omega, by omega⟩
  have m3 : (a - 1) * (p.getD c 0).natAbs ≤ (a - 1) * (b - 1) := Nat.mul_le_mul_left _ (by omega)
  have m4 : (b - 1) * (x.getD c 0).natAbs ≤ (b - 1) * (a - 1) := Nat.mul_le_mul_left _ (by omega)
  have m5 : (b - 1) * (a - 1) = (a - 1) * (b - 1) := Nat.mul_comm _ _
  have m6 : (a - 1) * (b - 1) + (a - 1) = (a - 1) * b := by
    have := Nat.mul_succ (a - 1) (b - 1); rw [Nat.succ_eq_add_one, Nat.sub_add_cancel hK] at this; exact this.symm
  have m7 : (a - 1) * b + b = a * b := by
    have := Nat.succ_mul (a - 1) b; rw [Nat.succ_eq_add_one, Nat.sub_add_cancel hk] at this; exact this.symm
  omega
theorem Col.join {c n k : Nat} {T Z : Mx} {p : List Int} (h : Col c n k T (some p) Z) {x y x' p' : List Int} (hs : Same [vr x] [vr y]) (hI : In2 c n (2 ^ (k + 1 + (k + 1) * T.length) - 1) [vr y, vr p] x' p') (h0 : x'.getD c 0 = 0) : Col c n k (T ++ [x]) (some p') (Z ++ [x']) := by
  have he : 2 ^ ((k + 1) * T.length) ≤ 2 ^ ((k + 1) * (T ++ [x]).length) := Nat.pow_le_pow_right (by omega) (Nat.mul_le_mul_left _ (by simp))
  have e2 : (k + 1) * (T ++ [x]).length = k + 1 + (k + 1) * T.length := by
    rw [List.length_append, List.length_singleton, Nat.mul_add, Nat.mul_one, Nat.add_comm]
  obtain ⟨nx, np, b1, b2, b3, b4, b5⟩ := hI.bd
  have h2 : 0 < 2 ^ (k + 1 + (k + 1) * T.length) := Nat.two_pow_pos _
  refine ⟨by have := h.len; simp only [List.length_append, List.length_singleton, Option.toList_some] at *; omega, fun r hr => ?_, fun r hr => ?_, fun q hq => ?_, ?_, fun r hr z hz => ?_⟩
  · rcases List.mem_append.1 hr with hr | hr
    · exact h.rZ r hr
    · rw [List.mem_singleton.1 hr]; exact hI.lx
  · rcases List.mem_append.1 hr with hr | hr
    · exact h.zZ r hr
    · rw [List.mem_singleton.1 hr]; exact h0
  · cases hq; exact ⟨hI.lp, hI.pc⟩
  · rw [latM_app]
    refine (h.same.app hs).trans ?_
    have h3 := hI.same.app (Same.refl (latM Z))
    refine Same.trans (same_mem fun v => ?_) (h3.trans (same_mem fun v => ?_))
    · simp only [latM, Option.toList_some, List.map_append, List.map_cons, List.map_nil, List.mem_append, List.mem_cons, List.not_mem_nil, or_false]
      constructor <;> rintro ((h | h) | h) <;> simp [h]
    · simp only [latM, Option.toList_some, List.map_append, List.map_cons, List.map_nil, List.mem_append, List.mem_cons, List.not_mem_nil, or_false]
      constructor
      · rintro ((h | h) | h) <;> simp [h]
      · rintro (h | h | h) <;> simp [h]
  · rcases List.mem_append.1 hr with hr | hr
    · rw [Option.toList_some, List.mem_singleton] at hr
      subst hr; rw [e2]; have := b2 z hz; omega
    · rcases List.mem_append.1 hr with hr | hr
      · exact Nat.lt_of_lt_of_le (h.bd r (List.mem_append_right _ hr) z hz) he
      · rw [List.mem_singleton.1 hr] at hz
        rw [e2]; have := b1 z hz; omega
end Go.Proofs.YthmhmkkcjlgbjaaGreatDoor
/- schismaref07: magnitude -/
namespace Go.Proofs.YthmhmkkcjlgbjaaGreatDoor
open Go.RowKit Go.Sort
set_option maxRecDepth 100000 in
set_option maxHeartbeats 1000000 in
theorem magnitude_w {w : World} {va vb : Value} {a b : Int} (hA : WhR w va a) (hB : WhR w vb b) (l1 : (pc a.natAbs).length ≤ 400000000) (l2 : (pc b.natAbs).length ≤ 400000000) :
    Calls Tryz.prog 104 #[va, vb] w fun e w' => e = .returned (.int .i64 ((a.natAbs : Int) - (b.natAbs : Int)).sign) ∧ Ext w w' := by
  obtain ⟨da, rfl, hda⟩ := hA
  obtain ⟨db, rfl, hdb⟩ := hB
  obtain ⟨ga, la, c1, rfl⟩ := row_shape hda.row
  obtain ⟨gb, lb, c2, rfl⟩ := row_shape hdb.row
  generalize decide (a < 0) = ba at *
  generalize decide (b < 0) = bb at *
  have hEw := (((Ext.refl w).alloc (.cells #[.bool false, .slice ga la c1] 66)).alloc (.cells #[.bool false, .slice gb lb c2] 66))
  have hs := Lib.hid (compareW_w (whr_dig (hda.ext hEw)) (whr_dig (hdb.ext hEw)) (by rw [Int.natAbs_natCast]; exact l1) (by rw [Int.natAbs_natCast]; exact l2))
  clear hda hdb
  go_enter Tryz.func104, Tryz.ntmps104
  go_wp2_with fail
  refine hs.out.mono ?_
  rintro e W5 ⟨rfl, hE5⟩
  go_wp2_with fail
  go_ret
  exact ⟨rfl, hEw.trans hE5⟩
end Go.Proofs.YthmhmkkcjlgbjaaGreatDoor
/- Boxes of integers: what is kept when one is written -/
namespace Go.Proofs.YthmhmkkcjlgbjaaGreatDoor
open Go.RowKit Go.Sort
/-- A block of the cells of one integer, that a call has made. -/
def IsWb (w : World) (g : Nat) : Prop := ∃ B k xs, OwnV 66 B w g k xs
theorem IsWb.new {w w' : World} {a b : Value} {g : Nat} (hg : g = w.heap.size) (h : Ext (w.alloc (.cells #[a, b] 66)) w') : IsWb w' g := by
  subst hg; exact ⟨_, _, _, (own_alloc w 66 a b).ext h⟩
theorem IsWb.alloc {w : World} {g : Nat} {o : Obj} (h : IsWb w g) : IsWb (w.alloc o) g := by
  obtain ⟨B, k, xs, h⟩ := h; exact ⟨B, k, xs, h.ext ((Ext.refl _).alloc o)⟩
theorem IsWb.set {w : World} {g g' o : Nat} {x : Value} (h : IsWb w g) (h' : IsWb w g') : IsWb (w.setCell ⟨g', o, none⟩ x) g := by
  obtain ⟨B, k, xs, h⟩ := h
  obtain ⟨B', k', xs', h'⟩ := h'
  by_cases e : g = g'
  · subst e; exact ⟨B, k, _, (h.set o x).1⟩
  · exact ⟨B, k, xs, h.other (h'.set o x).2 e⟩
theorem WhR.wset {w : World} {g o : Nat} {x v : Value} {z : Int} (h : WhR w v z) (h' : IsWb w g) : WhR (w.setCell ⟨g, o, none⟩ x) v z := by
  obtain ⟨d, rfl, hd⟩ := h
  obtain ⟨B', k', xs', h'⟩ := h'
  exact ⟨d, rfl, dig_kept h' (h'.set o x).2 hd⟩
theorem WhR.walloc {w : World} {o : Obj} {v : Value} {z : Int} (h : WhR w v z) : WhR (w.alloc o) v z := h.ext ((Ext.refl _).alloc o)
theorem keep4 {w w' : World} {p q r s : Addr} {a b c d : Value} (he : Ext w w') (h1 : w.cell? p = some a) (h2 : w.cell? q = some b) (h3 : w.cell? r = some c) (h4 : w.cell? s = some d) : w'.cell? p = some a ∧ w'.cell? q = some b ∧ w'.cell? r = some c ∧ w'.cell? s = some d := ⟨he.cell h1, he.cell h2, he.cell h3, he.cell h4⟩
theorem Ext.wset {w w' : World} {g o : Nat} {x : Value} (h : Ext w w') (hg : w.heap.size ≤ g) : Ext w (w'.setCell ⟨g, o, none⟩ x) := h.setCell hg x
theorem Ext.walloc {w w' : World} {o : Obj} (h : Ext w w') : Ext w (w'.alloc o) := h.alloc o
/-- What is known of a box that was made ahead of a call. -/
theorem wb1 {w W : World} {a b : Value} (h : Ext (w.drew.alloc (.cells #[a, b] 66)) W) :
    W.cell? ⟨w.heap.size, 0, none⟩ = some a ∧ W.cell? ⟨w.heap.size, 1, none⟩ = some b ∧ W.frozen? ⟨w.heap.size, 0, none⟩ = false ∧ W.frozen? ⟨w.heap.size, 1, none⟩ = false ∧ w.heap.size < W.heap.size ∧ Hid (IsWb W w.heap.size) := by
  have ho := (own_alloc w.drew 66 a b).ext h
  have hs := h.size
  have e : (w.drew.alloc (.cells #[a, b] 66)).heap.size = w.heap.size + 1 := by simp
  exact ⟨ho.cell (j := 0) (by simp), ho.cell (j := 1) (by simp), ho.frozen 0, ho.frozen 1, by omega, Lib.hid ⟨_, _, _, ho⟩⟩
theorem wb2 {w W : World} {a b c d : Value} (h : Ext ((w.drew.alloc (.cells #[a, b] 66)).alloc (.cells #[c, d] 66)) W) :
    (W.cell? ⟨w.heap.size, 0, none⟩ = some a ∧ W.cell? ⟨w.heap.size, 1, none⟩ = some b ∧ W.frozen? ⟨w.heap.size, 0, none⟩ = false ∧ W.frozen? ⟨w.heap.size, 1, none⟩ = false ∧ w.heap.size < W.heap.size ∧ Hid (IsWb W w.heap.size)) ∧
    (W.cell? ⟨w.heap.size + 1, 0, none⟩ = some c ∧ W.cell? ⟨w.heap.size + 1, 1, none⟩ = some d ∧ W.frozen? ⟨w.heap.size + 1, 0, none⟩ = false ∧ W.frozen? ⟨w.heap.size + 1, 1, none⟩ = false ∧ w.heap.size + 1 < W.heap.size ∧ Hid (IsWb W (w.heap.size + 1))) := by
  refine ⟨wb1 (((Ext.refl _).alloc _).trans h), ?_⟩
  have ho := (own_alloc (w.drew.alloc (.cells #[a, b] 66)) 66 c d).ext h
  have hs := h.size
  have e : (w.drew.alloc (.cells #[a, b] 66)).heap.size = w.heap.size + 1 := by simp
  have e2 : ((w.drew.alloc (.cells #[a, b] 66)).alloc (.cells #[c, d] 66)).heap.size = w.heap.size + 1 + 1 := by simp
  rw [e] at ho
  exact ⟨ho.cell (j := 0) (by simp), ho.cell (j := 1) (by simp), ho.frozen 0, ho.frozen 1, by omega, Lib.hid ⟨_, _, _, ho⟩⟩
end Go.Proofs.YthmhmkkcjlgbjaaGreatDoor
