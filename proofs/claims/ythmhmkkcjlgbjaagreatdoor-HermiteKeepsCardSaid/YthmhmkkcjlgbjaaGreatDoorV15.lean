/- Part 15 of the proof of the claim: contracts of the functions that it reaches, and plain laws; no condition. -/
import Derived.Test.YthmhmkkcjlgbjaaGreatDoorV14
/- Rows and matrices that a call makes by append. -/
namespace Go.Proofs.YthmhmkkcjlgbjaaGreatDoor
open Go.RowKit Go.Sort
theorem Tryz.infoRow : (Tryz.prog.info? 35).map (fun i => (i.zero, i.size, i.bytes)) = some (some (.slice none 0 0), 1, 24) := by kernel_rfl
/-- A row of ints, nil or the call's own. -/
def RowV (B : Nat) (w : World) (v : Value) (r : List Int) : Prop := w.ownsRow B 3 1 v r.length (is r)
theorem RowV.nil (B : Nat) (w : World) : RowV B w (.slice none 0 0) [] := ⟨rfl, .inl ⟨rfl, rfl⟩⟩
theorem RowV.ext {B : Nat} {w w' : World} {v : Value} {r : List Int} (h : RowV B w v r) (he : Ext w w') : RowV B w' v r := ownsRow_ext h he
theorem ownsRow_mono {w : World} {B B' : Nat} {e : TypeId} {size n : Nat} {v : Value} {xs : List Value} (h : w.ownsRow B e size v n xs) (hB : B' ≤ B) : w.ownsRow B' e size v n xs := by
  refine ⟨h.1, ?_⟩
  rcases h.2 with h' | ⟨g', cap', cur, h', hB', r⟩
  · exact .inl h'
  · exact .inr ⟨g', cap', cur, h', by omega, r⟩
theorem RowV.mono {B B' : Nat} {w : World} {v : Value} {r : List Int} (h : RowV B w v r) (hB : B' ≤ B) : RowV B' w v r := ownsRow_mono h hB
theorem RowO.v {B : Nat} {w : World} {v : Value} {r : List Int} (h : RowO B w v r) : RowV B w v r := by
  obtain ⟨g, cap, rfl, ho⟩ := h
  unfold RowV; have := ho; unfold OwnV at this; rw [is_length] at this; exact this
theorem RowV.row {B : Nat} {w : World} {v : Value} {r : List Int} (h : RowV B w v r) : RowR w v r := by
  rcases h.2 with ⟨rfl, h0⟩ | ⟨g, cap, cur, rfl, hb, hg, hn, hm, hs, ht⟩
  · have : r = [] := by cases r with
      | nil => rfl
      | cons => simp at h0
    subst this
    exact ⟨none, 0, 0, 0, rfl, Nat.le_refl _, Sl.nil _ _ _ _⟩
  · have ho : OwnV 3 B w g cap (is r) := by unfold OwnV; rw [is_length]; exact h
    exact ⟨_, g, 0, cap, rfl, hn, ho.sl⟩
/-- Blocks of two types are two blocks. -/
theorem own_ne {B B' : Nat} {w : World} {T T' : TypeId} {size size' n n' : Nat} {u v : Value} {xs ys : List Value} (h : w.ownsRow B T size u n xs) (h' : w.ownsRow B' T' size' v n' ys) (hT : T ≠ T') {g : Nat} (hg : u.ownBlock = some g) : v.ownBlock ≠ some g := by
  intro e
  rcases h.2 with ⟨rfl, _⟩ | ⟨g1, cap, cur, rfl, _, hg1, _⟩
  · cases hg
  · rcases h'.2 with ⟨rfl, _⟩ | ⟨g2, cap2, cur2, rfl, _, hg2, _⟩
    · cases e
    · injection hg with hg; injection e with e
      subst hg; subst e
      rw [hg1] at hg2
      injection hg2 with hg2
      injection hg2 with _ h3
      exact hT h3
theorem own_kept {B B' : Nat} {w w' : World} {T T' : TypeId} {size size' n n' : Nat} {u v : Value} {xs ys : List Value} (h : w.ownsRow B T size u n xs) (h' : w.ownsRow B' T' size' v n' ys) (hT : T ≠ T') (hg : w.grownBy w' v.ownBlock) : w'.ownsRow B T size u n xs := by
  refine World.ownsRow.kept h hg ?_
  cases hu : u.ownBlock with
  | none => exact .inl rfl
  | some g => exact .inr (fun e => own_ne h h' hT hu e.symm)
theorem is_snoc (r : List Int) (z : Int) : is (r ++ [z]) = is r ++ [.int .i64 z] := by simp only [is, List.map_append, List.map_cons, List.map_nil]
section
variable {w : World} {ops : Array Oper} {rest : List Oper} {o : Oper} {a : Act} {Q : Exit → Act → World → Prop}
theorem app_int (hgd : o.guard = none) (s x : Operand) (t : TypeId) (ht : Tryz.prog.underlying t = some (.slice 3)) (ho : o.op = .call { callee := .builtin .append, args := #[s, x], argTypes := #[t, t] })
    {B : Nat} {v : Value} {r : List Int} (hs : a.eval s = v) (hown : RowV B w v r) {b : Nat} {z : Int} (hx : a.eval x = .slice (some ⟨b, 0, none⟩) 1 1) (hc : w.cell? ⟨b, 0, none⟩ = some (.int .i64 z)) (hl : r.length ≤ 1000000000) (hB : B ≤ w.heap.size)
    (h : ∀ g cap w', RowV B w' (slv g (r.length + 1) cap) (r ++ [z]) → Below B w w' → w.grownBy w' v.ownBlock → wpList Tryz.prog ops Q rest (a.put o.dst (slv g (r.length + 1) cap)) w') : wpList Tryz.prog ops Q (o :: rest) a w := by
  obtain ⟨i0, hi, hz0, hz1, hz2⟩ := info_parts Tryz.infoInt
  refine wpList_append_lies w hgd s x t ho B 3 i0 _ 1 8 ht hi hz0 hz1 hz2 rfl (by omega) v r.length (is r) hs hown ⟨b, 0, none⟩ 1 1 [.int .i64 z] hx rfl ?_ (one_int _ _) (by omega) (by unfold maxLen; omega) (by omega) hB w.heap.size rfl ?_
  · intro j u hj
    have : j = 0 := by have := (List.getElem?_eq_some_iff.1 hj).1; simp at this; omega
    subst this
    simp only [List.getElem?_cons_zero, Option.some.injEq] at hj
    subst hj
    simpa [Addr.add_lit] using hc
  · intro g cap w' h1 h2 h3 h4
    refine h g cap w' ?_ (Below.grown (Below.refl _ _) h2 hB (fun q hq => (World.ownsRow.lt hown q hq).1)) h2
    unfold RowV
    rw [is_snoc, List.length_append]; exact h1
/-- A matrix that the call has made. -/
def MatO (B : Nat) (w : World) (v : Value) (F : Mx) : Prop := ∃ vs, vs.length = F.length ∧ w.ownsRow B 35 1 v F.length vs ∧ ∀ t (_ : t < F.length) (h' : t < vs.length), RowV B w vs[t] F[t]
theorem MatO.nil (B : Nat) (w : World) : MatO B w (.slice none 0 0) [] := ⟨[], rfl, ⟨rfl, .inl ⟨rfl, rfl⟩⟩, fun t h => by simp at h⟩
theorem MatO.ext {B : Nat} {w w' : World} {v : Value} {F : Mx} (h : MatO B w v F) (he : Ext w w') : MatO B w' v F := by
  obtain ⟨vs, h1, h2, h3⟩ := h
  exact ⟨vs, h1, ownsRow_ext h2 he, fun t a b => (h3 t a b).ext he⟩
theorem MatO.mono {B B' : Nat} {w : World} {v : Value} {F : Mx} (h : MatO B w v F) (hB : B' ≤ B) : MatO B' w v F := by
  obtain ⟨vs, h1, h2, h3⟩ := h
  exact ⟨vs, h1, ownsRow_mono h2 hB, fun t a b => (h3 t a b).mono hB⟩
theorem MatO.mat {B : Nat} {w : World} {v : Value} {F : Mx} (h : MatO B w v F) : MatR w v F := by
  obtain ⟨vs, h1, h2, h3⟩ := h
  have hr : ∀ i (h : i < F.length) (h' : i < vs.length), RowR w vs[i] F[i] := fun i a b => (h3 i a b).row
  rcases h2.2 with ⟨rfl, h0⟩ | ⟨g, cap, cur, rfl, hb, hg, hn, hm, hs, ht⟩
  · have : F = [] := List.eq_nil_of_length_eq_zero h0
    subst this
    have hv : vs = [] := List.eq_nil_of_length_eq_zero h1
    subst hv
    exact ⟨none, 0, 0, 0, [], rfl, Nat.le_refl _, rfl, Sl.nil _ _ _ _, hr⟩
  · have ho : OwnV 35 B w g cap vs := by unfold OwnV; rw [h1]; exact h2
    exact ⟨_, g, 0, cap, vs, rfl, hn, h1, ho.sl, hr⟩
theorem RowV.one {B : Nat} {w : World} {v : Value} {r : List Int} (h : RowV B w v r) : v.oneCell' = true := by
  rcases h.2 with ⟨rfl, _⟩ | ⟨g, cap, cur, rfl, _⟩ <;> rfl
theorem app_mat (hgd : o.guard = none) (s x : Operand) (ho : o.op = .call { callee := .builtin .append, args := #[s, x], argTypes := #[29, 29] })
    {B : Nat} {v rv : Value} {F : Mx} {r : List Int} (hs : a.eval s = v) (hown : MatO B w v F) {b : Nat} (hx : a.eval x = .slice (some ⟨b, 0, none⟩) 1 1) (hc : w.cell? ⟨b, 0, none⟩ = some rv) (hr : RowV B w rv r) (hl : F.length ≤ 1000000000) (hB : B ≤ w.heap.size)
    (h : ∀ g cap w', MatO B w' (slv g (F.length + 1) cap) (F ++ [r]) → Below B w w' → w.grownBy w' v.ownBlock → wpList Tryz.prog ops Q rest (a.put o.dst (slv g (F.length + 1) cap)) w') : wpList Tryz.prog ops Q (o :: rest) a w := by
  obtain ⟨i0, hi, hz0, hz1, hz2⟩ := info_parts Tryz.infoRow
  obtain ⟨vs, h1, h2, h3⟩ := hown
  refine wpList_append_lies w hgd s x 29 ho B 35 i0 _ 1 24 Tryz.underlying29 hi hz0 hz1 hz2 rfl (by omega) v F.length vs hs h2 ⟨b, 0, none⟩ 1 1 [rv] hx rfl ?_ ?_ (by omega) (by unfold maxLen; omega) (by omega) hB w.heap.size rfl ?_
  · intro j u hj
    have : j = 0 := by have := (List.getElem?_eq_some_iff.1 hj).1; simp at this; omega
    subst this
    simp only [List.getElem?_cons_zero, Option.some.injEq] at hj
    subst hj
    simpa [Addr.add_lit] using hc
  · intro u hu
    simp only [List.mem_cons, List.not_mem_nil, or_false] at hu
    subst hu; exact hr.one
  · intro g cap w' k1 k2 k3 k4
    have hkeep : ∀ {u : Value} {l : List Int}, RowV B w u l → RowV B w' u l := fun hu => own_kept hu h2 (by decide) k2
    refine h g cap w' ⟨vs ++ [rv], by simp [h1], ?_, fun t ht ht' => ?_⟩ (Below.grown (Below.refl _ _) k2 hB (fun q hq => (World.ownsRow.lt h2 q hq).1)) k2
    · rw [List.length_append]; exact k1
    · rcases Nat.lt_or_ge t F.length with hlt | hge
      · rw [List.getElem_append_left (by omega), List.getElem_append_left hlt]
        exact hkeep (h3 t hlt (by omega))
      · have hte : t = F.length := by simp at ht; omega
        subst hte
        rw [List.getElem_append_right (by omega), List.getElem_append_right (by omega)]
        simp only [h1, Nat.sub_self, List.getElem_cons_zero]
        exact hkeep hr
end
end Go.Proofs.YthmhmkkcjlgbjaaGreatDoor
/- hermite: Form -/
namespace Go.Proofs.YthmhmkkcjlgbjaaGreatDoor
open Go.RowKit Go.Sort
theorem echelon_zero {v : Value} {ga : Option Addr} {L cp : Nat} {w : World} (hv : v = .slice ga L cp) : Calls Tryz.prog 47 #[v, .int .i64 0] w fun e w' => e = .returned (.int .i64 0) ∧ w' = w := by
  subst hv
  go_enter Tryz.func47, Tryz.ntmps47
  go_wp2_with fail
  go_loop [5, 14] (fun dn idx => idx = .int .i64 0 ∧ dn = .int .i64 0) (fun _ _ => 0)
  case atStart => exact ⟨rfl, rfl⟩
  case round =>
    obtain ⟨rfl, rfl⟩ := hrel
    go_wp2_with fail
    go_ret
    exact ⟨rfl, rfl⟩
/-- All numbers of a matrix within the limit. -/
def smallM (F : Mx) : Bool := F.all smallB
/-- The result of Form, given the form. -/
def FrmPost (w : World) (F : Mx) (e : Ending) (w' : World) : Prop :=
  (if smallM F then ∃ v, e = .returned (.tuple #[v, .int .i64 0]) ∧ MatO w.heap.size w' v F else e = .returned (.tuple #[.slice none 0 0, .int .i64 4])) ∧ Ext w w'
theorem hnf_nil {M : Mx} (hM : Rect 0 M) : HnfOf 0 M [] := by
  refine ⟨⟨[], fun r hr => by (cases hr), rfl, fun i h => by simp at h, fun i k _ h => by simp at h, fun i h => by simp at h, fun i h => by simp at h, fun i k _ h => by simp at h⟩, fun v hv => by simp [latM] at hv, fun v hv => ?_⟩
  obtain ⟨r, hr, rfl⟩ := List.mem_map.1 hv
  have : r = [] := List.eq_nil_of_length_eq_zero (hM r hr)
  subst this
  have e : vr [] = fun _ => 0 := by funext j; simp [vr]
  rw [e]; exact .zero
theorem fRows_get {d : Nat} {ls : List Ln} {i : Nat} (hi : i < d) (hd : d ≤ ls.length) (h : i < (fRows d ls).length) : (fRows d ls)[i] = (ls.getD i default).1 := by
  simp only [fRows, List.getElem_map, List.getElem_take, getD_get (show i < ls.length by omega)]
theorem fRows_getD {d : Nat} {ls : List Ln} {i : Nat} (hi : i < d) (hd : d ≤ ls.length) : (fRows d ls).getD i [] = (ls.getD i default).1 := by
  rw [getD_get (show i < (fRows d ls).length by unfold fRows; simp; omega), fRows_get hi hd]
theorem fRows_length {d : Nat} {ls : List Ln} (hd : d ≤ ls.length) : (fRows d ls).length = d := by unfold fRows; simp; omega
theorem Sl.ext' {w w' : World} {ga : Option Addr} {gb go : Nat} {xs : List Value} (h : Sl w ga gb go xs) (he : Ext w w') : Sl w' ga gb go xs := h.ext he
theorem smallM_not {F : Mx} {i : Nat} (h : i < F.length) (hs : smallB F[i] = false) : smallM F = false := by
  cases hm : smallM F
  · rfl
  · have := List.all_eq_true.1 hm _ (List.getElem_mem h)
    rw [this] at hs; cases hs
theorem smallM_yes {F : Mx} (h : ∀ j (hj : j < F.length), smallB F[j] = true) : smallM F = true := by
  refine List.all_eq_true.2 fun r hr => ?_
  obtain ⟨j, hj, rfl⟩ := List.getElem_of_mem hr
  exact h j hj
theorem take_snocM {F : Mx} {i : Nat} (h : i < F.length) : F.take (i + 1) = F.take i ++ [F[i]] := List.take_succ_eq_append_getElem h
/-- Numbers of a right matrix have 30 digits in base 2. -/
theorem lines0_all {M : Mx} (h : ∀ r ∈ M, ∀ z ∈ r, -1000000000 ≤ z ∧ z ≤ 1000000000) : AllL 30 (lines0 M) := by
  intro i hi
  have hi' : i < M.length := by simpa using hi
  rw [getD_get hi, lines0_get hi']
  constructor
  · intro z hz
    have := h _ (List.getElem_mem hi') z hz
    show z.natAbs < 2 ^ 30
    have e : (2 : Nat) ^ 30 = 1073741824 := by decide
    rw [e]; omega
  · intro z hz
    show z.natAbs < 2 ^ 30
    have e : (2 : Nat) ^ 30 = 1073741824 := by decide
    rw [e]
    unfold unitR at hz
    rcases List.mem_or_eq_of_mem_set hz with hz | rfl
    · rw [List.mem_replicate] at hz; rw [hz.2]; decide
    · decide
def FrmP (w : World) (M : Mx) (e : Ending) (w' : World) : Prop := ∃ F, HnfOf (ncols M) M F ∧ FrmPost w F e w'
set_option maxRecDepth 100000 in
set_option maxHeartbeats 1000000 in
theorem form_any {w : World} {v : Value} {M : Mx} (hM : MatR w v M) (hc : checkM M = 0) (hk : bC M.length 30 (ncols M) + 2 < LIM) (hL : Laid w) :
    Calls Tryz.prog 12 #[v] w (FrmP w M) := by
  obtain ⟨hm12, hn12, hrect, hent⟩ := checkM_ok hc
  have HM := Lib.hid hM
  have HL := Lib.hid hL
  have h64 : ∀ r ∈ M, ∀ z ∈ r, I64 z := fun r hr z hz => by have := hent r hr z hz; unfold I64; omega
  have hck := Lib.hid (tableCheck_any hM)
  rw [hc] at hck
  have Hent := Lib.hid hent
  have Hrect := Lib.hid hrect
  have H64 := Lib.hid h64
  have Hk := Lib.hid hk
  have Hc := Lib.hid hc
  clear hM hL hent hrect h64 hk hc
  go_enter Tryz.func12, Tryz.ntmps12
  go_wp2_with fail
  refine hck.out.mono ?_
  rintro e w1 ⟨rfl, hE1⟩
  clear hck
  have hli := Lib.hid (lines_any (n := ncols M) (HM.out.ext hE1) Hrect.out (by omega) (by omega) H64.out (HL.out.ext hE1))
  go_wp2_with fail
  refine hli.out.mono ?_
  rintro e w2 ⟨v2, ad, rfl, hV, hE2⟩
  clear hli
  have hE12 := hE1.trans hE2
  have hcol := Lib.hid (fun W (hW : Ext w2 W) => columns_any (HM.out.ext (hE12.trans hW)))
  have hsh : ∃ ga cp, v2 = .slice ga M.length cp ∧ M.length ≤ cp ∧ (0 < M.length → ∃ g, ga = some ⟨g, 0, none⟩) := by
    have hr := hV.row
    rw [lines0_length] at hr
    rcases hr.2 with ⟨rfl, h0⟩ | ⟨g, cap, cur, rfl, hb, hg, hn, hm, hs, ht⟩
    · rw [h0]; exact ⟨none, 0, rfl, Nat.le_refl _, fun h => by omega⟩
    · exact ⟨_, cap, rfl, hn, fun _ => ⟨g, rfl⟩⟩
  obtain ⟨ga, cp, rfl, hcp, hgs⟩ := hsh
  have HV := Lib.hid hV
  clear hV
  by_cases hn0 : ncols M = 0
  · rw [hn0] at hcol
    have HF := Lib.hid (hnf_nil (M := M) (by rw [← hn0]; exact Hrect.out))
    rw [← hn0] at HF
    have hcpi : (0 : Int) ≤ (cp : Int) := by omega
    clear hn0
    go_wp2_with fail
    refine (hcol.out _ (Ext.refl _)).mono ?_
    rintro e w3 ⟨rfl, hE3⟩
    go_wp2_with fail
    refine (echelon_zero rfl).mono ?_
    rintro e w4 ⟨rfl, rfl⟩
    go_wp2_with fail
    go_loopw [6, 25] (fun out idx wr => idx = .int .i64 0 ∧ out = .slice none 0 0 ∧ wr = w4) (fun _ _ _ => 0)
    case atStart => exact ⟨rfl, rfl, rfl⟩
    case round =>
      obtain ⟨rfl, rfl, hwr⟩ := hrel
      subst hwr
      go_wp2_with fail
      go_ret2
      refine ⟨[], HF.out, ?_⟩
      exact ⟨by rw [if_pos (show smallM [] = true from rfl)]; exact ⟨_, rfl, MatO.nil _ _⟩, hE12.trans hE3⟩
  · have hnp : 0 < ncols M := by omega
    have hmp : 0 < M.length := by
      rcases Nat.eq_zero_or_pos M.length with h | h
      · have : M = [] := List.eq_nil_of_length_eq_zero h
        rw [this] at hn0; exact absurd rfl hn0
      · exact h
    obtain ⟨g, rfl⟩ := hgs hmp
    have hlns : Lns w1.heap.size w2 g ad (lines0 M) := by
      have := HV.out
      have h2 : LnsV w1.heap.size w2 (slv g (lines0 M).length cp) ad (lines0 M) (ncols M) M.length := by rw [lines0_length]; exact this
      exact h2.lns hnp
    have Hlns := Lib.hid hlns
    have hech := Lib.hid (fun W (hW : Ext w2 W) => echelon_walk (w0 := w1) (w := W) (g := g) (cp := cp) (n := ncols M) (m := M.length) (L := M.length) (k := 30) (by simp) (by omega) hcp (by omega) (by omega) (Hlns.out.ext hW) (lines0_dim Hrect.out) (lines0_all Hent.out) Hk.out (HL.out.ext hE1) (hE2.trans hW))
    clear hlns hgs hn0
    go_wp2_with fail
    refine (hcol.out _ (Ext.refl _)).mono ?_
    rintro e w3 ⟨rfl, hE3⟩
    go_wp2_with fail
    refine (hech.out _ hE3).mono ?_
    rintro e w4 ⟨d, ps, ad', ls', rfl, hL4, hF4, hO4, hA4, hE4⟩
    have HnF := Lib.hid (form_of Hrect.out hO4 hF4)
    have hdl := hF4.le
    have hll : ls'.length = M.length := by rw [hO4.length]; simp
    have Hfl := Lib.hid (fRows_length hdl)
    have Hfg := Lib.hid (fun i (h : i < d) => fRows_getD (ls := ls') h hdl)
    have Hdim := Lib.hid ((lines0_dim Hrect.out).ops hO4)
    have HA4 := Lib.hid hA4
    have Hll := Lib.hid hll
    have hdm : d ≤ M.length := by omega
    have hdc : (d : Int) ≤ (cp : Int) := by omega
    clear hech hcol hO4 hF4 hA4 Hlns HV hdl hll
    obtain ⟨F, hF⟩ : ∃ F, F = fRows d ls' := ⟨_, rfl⟩
    rw [← hF] at HnF Hfl
    rw [← hF] at Hfg
    clear hF
    go_wp2_with fail
    go_loopw [6, 25] (fun out idx wr => ∃ i : Nat, i ≤ d ∧ idx = .int .i64 i ∧ Hid (MatO w4.heap.size wr out (F.take i)) ∧ Hid (∀ j (h : j < F.length), j < i → smallB F[j] = true) ∧ Ext w4 wr) (fun _ idx _ => d - (intOf idx).toNat)
    case atStart => exact ⟨0, by omega, by go_num, Lib.hid (MatO.nil _ _), Lib.hid (fun j _ h => by omega), Ext.refl _⟩
    case round =>
      obtain ⟨i, hi, rfl, hO, Hs, hE5⟩ := hrel
      generalize wr = X at *
      by_cases hlt : i < d
      · have hii : (i : Int) < (d : Int) := by omega
        obtain ⟨gx, cx, gy, cy, ead, c1, c2, cz, o1, o2, _, _, _⟩ := (hL4.ext hE5).ln (d := 0) (c := 0) (i := i) (o := i * 2) Hdim.out (by rw [Hll.out]; omega) (by omega) hnp
        have hrow : (ls'.getD (0 + i) default).1 = F.getD i [] := by rw [Nat.zero_add]; exact (Hfg.out i hlt).symm
        rw [hrow] at o1
        have hlen : (F.getD i []).length = ncols M := by rw [← hrow]; exact (Hdim.out.getD (by rw [Hll.out]; omega)).1
        have hFi : F.getD i [] = F[i]'(by rw [Hfl.out]; exact hlt) := getD_get (by rw [Hfl.out]; exact hlt) []
        have hbig : ∀ z ∈ F.getD i [], nd z ≤ LIM := fun z hz => by
          rw [← hrow] at hz
          have := nd_lt2 ((HA4.out (0 + i) (by rw [Hll.out]; omega)).1 z hz)
          have := Hk.out
          omega
        have hEw4 : Ext w w4 := hE1.trans hE4
        have hsml := Lib.hid (fun W (hW : Ext X W) => hSmall_any (w := W) (cap := cx) (o1.sl.ext' hW) (by rw [hlen]; omega) hbig (HL.out.ext (hEw4.trans (hE5.trans hW))))
        rw [hlen] at hsml
        have hW0 := (Ext.refl X).alloc (.cells #[slv gx (ncols M) cx, slv gy M.length cy] 90)
        have hEwX := hEw4.trans hE5
        have HFi := Lib.hid hFi
        have hXw4 := hE5.size
        clear hrow hlen hFi hbig ead o1 o2 cz
        obtain ⟨r, hr⟩ : ∃ r, r = F.getD i [] := ⟨_, rfl⟩
        rw [← hr] at hsml HFi
        clear hr
        have hpost := hsml
        have HsI := Lib.hid (show i < F.length by rw [Hfl.out]; exact hlt)
        cases hs : smallB r
        · have Hno := Lib.hid (smallM_not HsI.out (by rw [← HFi.out]; exact hs))
          have Hsb := Lib.hid hs
          clear hs hpost
          go_wp2_with fail
          refine (hsml.out _ hW0).mono ?_
          rintro e W ⟨hp, hEW⟩
          rw [if_neg (by rw [Hsb.out]; decide)] at hp
          obtain rfl := hp
          go_wp2_with fail
          go_ret2
          refine ⟨F, HnF.out, ?_⟩
          refine ⟨?_, hEwX.trans (hW0.trans hEW)⟩
          rw [if_neg (by rw [Hno.out]; decide)]; rfl
        · have Hsb := Lib.hid hs
          clear hs hpost
          go_wp2_with fail
          refine (hsml.out _ hW0).mono ?_
          rintro e W ⟨hp, hEW⟩
          rw [if_pos Hsb.out] at hp
          obtain ⟨rv, rfl, hrv⟩ := hp
          have hEXW := hW0.trans hEW
          have hXW := hEXW.size
          have HO2 := Lib.hid (hO.out.ext hEXW)
          have HR2 := Lib.hid ((hrv.v).mono (B' := w4.heap.size) (by simp; omega))
          obtain ⟨gr, cr, rfl, _⟩ := hrv
          have hE5W := Lib.hid (hE5.trans hEXW)
          have hil : (F.take i).length = i := by rw [List.length_take, Hfl.out]; omega
          have Hil := Lib.hid hil
          clear hil hEW hsml hEXW
          go_wp2_with (at_builtin; refine app_mat rfl _ _ rfl rfl (HO2.out.ext ((Ext.refl _).alloc _)) rfl (b := W.heap.size) (by go_simp) (HR2.out.ext ((Ext.refl _).alloc _)) (by rw [Hil.out]; omega) (by simp; omega) ?_; intro gg cap2 w8 hO8 hB8 hG8; rw [Hil.out] at hO8 ⊢)
          rw [← show F.take (i + 1) = F.take i ++ [r] by rw [take_snocM HsI.out, HFi.out]] at hO8
          have hE8 : Ext w4 w8 := Below.trans ((hE5W.out.alloc (.cells #[slv gr r.length cr] 35))) hB8
          clear hG8 hB8
          go_wp2_with fail
          go_roundw
          case rel => exact ⟨i + 1, by omega, by go_num, Lib.hid hO8, Lib.hid (fun j h hj => by
            by_cases e : j = i
            · subst e; rw [← HFi.out]; exact Hsb.out
            · exact Hs.out j h (by omega)), hE8⟩
          case measure => simp [intOf] <;> omega
      · have hid : i = d := by omega
        subst hid
        go_wp2_with fail
        go_ret2
        refine ⟨F, HnF.out, ?_⟩
        have hsm : smallM F = true := smallM_yes (fun j hj => Hs.out j hj (by rw [← Hfl.out]; exact hj))
        refine ⟨?_, (hE1.trans hE4).trans hE5⟩
        rw [if_pos hsm]
        refine ⟨_, rfl, ?_⟩
        have := hO.out
        rw [List.take_of_length_le (by rw [Hfl.out]; exact Nat.le_refl _)] at this
        exact this.mono ((hE1.trans hE4).size)
end Go.Proofs.YthmhmkkcjlgbjaaGreatDoor
/- hermite: pivot, isForm, IsForm -/
namespace Go.Proofs.YthmhmkkcjlgbjaaGreatDoor
open Go.RowKit Go.Sort
/-- The column of the first element that is not 0. -/
def pv (r : List Int) : Nat := r.findIdx fun z => decide (z ≠ 0)
def pvI (r : List Int) : Int := if pv r < r.length then (pv r : Int) else -1
theorem pv_le (r : List Int) : pv r ≤ r.length := List.findIdx_le_length
theorem pv_zero {r : List Int} {j : Nat} (h : j < pv r) : r.getD j 0 = 0 := by
  have hl : j < r.length := Nat.lt_of_lt_of_le h (pv_le r)
  have := List.not_of_lt_findIdx (p := fun z : Int => decide (z ≠ 0)) (xs := r) h
  rw [getD_get hl]
  simpa using this
theorem pv_ne {r : List Int} (h : pv r < r.length) : r.getD (pv r) 0 ≠ 0 := by
  have := List.findIdx_getElem (xs := r) (p := fun z : Int => decide (z ≠ 0)) (w := h)
  rw [getD_get h]
  simpa [pv] using this
theorem pvI_ix (r : List Int) : IxR (fun i => decide (r.getD i 0 ≠ 0)) r.length (pvI r) := by
  unfold pvI
  by_cases h : pv r < r.length
  · rw [if_pos h]
    exact .inr ⟨pv r, h, rfl, decide_eq_true (pv_ne h), fun j hj => decide_eq_false (by simpa using pv_zero hj)⟩
  · rw [if_neg h]
    exact .inl ⟨rfl, fun i hi => decide_eq_false (by simpa using pv_zero (by omega))⟩
theorem pv_of {r : List Int} {p : Nat} (hp : r.getD p 0 ≠ 0) (hz : ∀ j, j < p → r.getD j 0 = 0) : pv r = p ∧ p < r.length := by
  have hl : p < r.length := by
    rcases Nat.lt_or_ge p r.length with h | h
    · exact h
    · rw [List.getD_eq_getElem?_getD, List.getElem?_eq_none h] at hp; exact absurd rfl hp
  refine ⟨?_, hl⟩
  rcases Nat.lt_trichotomy (pv r) p with h | h | h
  · exact absurd (hz _ h) (pv_ne (by omega))
  · exact h
  · exact absurd (pv_zero h) hp
theorem pivotC_any (z : Int) (w : World) : Calls Tryz.prog 89 #[.int .i64 z] w fun e w' => e = .returned (.bool (decide (z ≠ 0))) ∧ Ext w w' := by
  by_cases h : z = 0
  · subst h
    go_enter Tryz.func89, Tryz.ntmps89
    go_wp2
    go_ret
    exact ⟨rfl, Ext.refl _⟩
  · have hb : decide (z ≠ 0) = true := decide_eq_true h
    rw [hb]
    have h1 : (z == 0) = false := beq_eq_false_iff_ne.2 h
    have h2 : (z != 0) = true := by simp [bne, h1]
    clear hb
    go_enter Tryz.func89, Tryz.ntmps89
    go_wp2
    go_ret
    exact ⟨rfl, Ext.refl _⟩
theorem pivot_any {w : World} {v : Value} {r : List Int} (hR : RowR w v r) (hl : r.length ≤ 1000000) :
    Calls Tryz.prog 52 #[v] w fun e w' => e = .returned (.int .i64 (pvI r)) ∧ Ext w w' := by
  obtain ⟨sa, gb, go, cap, rfl, hc, hS⟩ := hR
  have hI := index_pivot (cap := cap) (p := fun i => decide (r.getD i 0 ≠ 0)) (k := pvI r) hS (by simpa using hl) (fun i h W hW => by
    have hi : i < r.length := by simpa using h
    have e : (is r)[i] = .int .i64 (r.getD i 0) := by rw [getD_get hi]; simp [is]
    rw [e]
    exact pivotC_any _ W) (by rw [is_length]; exact pvI_ix r)
  rw [is_length] at hI
  have HI := Lib.hid hI
  clear hI hS
  go_enter Tryz.func52, Tryz.ntmps52
  go_wp2_with fail
  refine HI.out.mono ?_
  rintro e W ⟨rfl, hE⟩
  go_wp2_with fail
  go_ret
  exact ⟨rfl, hE⟩
set_option maxRecDepth 100000 in
set_option maxHeartbeats 1000000 in
theorem isFormC_any {w : World} {sa sr : Option Addr} {gb go cap gr or cr bp br p n : Nat} {x r : List Int} (hS : Sl w sa gb go (is x)) (hR : Sl w sr gr or (is r)) (hx : x.length = n) (hr : r.length = n) (hn : n ≤ 1000000) (hp : p < n)
    (c1 : w.cell? ⟨bp, 0, none⟩ = some (.int .i64 p)) (c2 : w.cell? ⟨br, 0, none⟩ = some (.slice sr n cr)) :
    Calls Tryz.prog 98 #[.slice sa n cap, .pointer (some ⟨bp, 0, none⟩), .pointer (some ⟨br, 0, none⟩)] w fun e w' => e = .returned (.bool (decide (x.getD p 0 < 0) || decide (r.getD p 0 ≤ x.getD p 0))) ∧ Ext w w' := by
  have hpi : (p : Int) < (n : Int) := by omega
  have hp0 : (0 : Int) ≤ (p : Int) := by omega
  obtain rfl := hS.addr (by simp; omega)
  obtain rfl := hR.addr (by simp; omega)
  have cx := hS.cell p _ (is_get (by omega))
  have cr' := hR.cell p _ (is_get (by omega))
  rw [getD_get (by omega), getD_get (by omega)]
  generalize x[p] = a at *
  generalize r[p] = b at *
  clear hS hR hx hr
  by_cases h : a < 0
  · have e1 : decide (a < 0) = true := decide_eq_true h
    rw [e1, Bool.true_or]
    go_enter Tryz.func98, Tryz.ntmps98
    go_wp2_with fail
    go_quiet (fail)
    go_wp2_with fail
    go_ret
    exact ⟨rfl, (Ext.refl _).drewN _⟩
  · have e1 : decide (a < 0) = false := decide_eq_false h
    rw [e1, Bool.false_or]
    have h0 : 0 ≤ a := by omega
    clear h
    by_cases h2 : b ≤ a
    · have e2 : decide (b ≤ a) = true := decide_eq_true h2
      rw [e2]
      go_enter Tryz.func98, Tryz.ntmps98
      go_wp2_with fail
      go_quiet (fail)
      go_wp2_with fail
      go_ret
      exact ⟨rfl, (Ext.refl _).drewN _⟩
    · have e2 : decide (b ≤ a) = false := decide_eq_false h2
      rw [e2]
      have h3 : a < b := by omega
      go_enter Tryz.func98, Tryz.ntmps98
      go_wp2_with fail
      go_quiet (fail)
      go_wp2_with fail
      go_ret
      exact ⟨rfl, (Ext.refl _).drewN _⟩
end Go.Proofs.YthmhmkkcjlgbjaaGreatDoor
/- hermite: isForm, IsForm -/
namespace Go.Proofs.YthmhmkkcjlgbjaaGreatDoor
open Go.RowKit Go.Sort
def bad (M : Mx) (i k : Nat) : Bool := decide (eM M k (pv (M.getD i [])) < 0) || decide (eM M i (pv (M.getD i [])) ≤ eM M k (pv (M.getD i [])))
def bef (M : Mx) (i : Nat) : Int := if i = 0 then -1 else pvI (M.getD (i - 1) [])
def rowOk (M : Mx) (i : Nat) : Bool := decide (bef M i < pvI (M.getD i [])) && decide (0 ≤ eM M i (pv (M.getD i []))) && !(anyB (bad M i) i)
/-- In normal form. -/
def isF (M : Mx) : Bool := !(anyB (fun i => !rowOk M i) M.length)
theorem isF_yes {M : Mx} (h : ∀ i, i < M.length → rowOk M i = true) : isF M = true := by
  unfold isF
  rw [anyB_no (fun i hi => by rw [h i hi]; rfl)]; rfl
theorem isF_no {M : Mx} {i : Nat} (hi : i < M.length) (h : rowOk M i = false) : isF M = false := by
  unfold isF
  rw [anyB_iff.2 ⟨i, hi, by rw [h]; rfl⟩]; rfl
theorem isF_at {M : Mx} (h : isF M = true) {i : Nat} (hi : i < M.length) : rowOk M i = true := by
  unfold isF at h
  have := anyB_false (by simpa using h) i hi
  simpa using this
theorem bef_ge (M : Mx) (i : Nat) : -1 ≤ bef M i := by
  unfold bef pvI
  split
  · omega
  · split <;> omega
theorem rowOk_no1 {M : Mx} {i : Nat} (h : pvI (M.getD i []) ≤ bef M i) : rowOk M i = false := by
  unfold rowOk; rw [decide_eq_false (by omega)]; rfl
theorem rowOk_no2 {M : Mx} {i : Nat} (h : eM M i (pv (M.getD i [])) < 0) : rowOk M i = false := by
  unfold rowOk; rw [decide_eq_false (p := 0 ≤ _) (by omega), Bool.and_false]; rfl
theorem rowOk_no3 {M : Mx} {i : Nat} (h : anyB (bad M i) i = true) : rowOk M i = false := by
  unfold rowOk; rw [h]; simp
theorem rowOk_yes {M : Mx} {i : Nat} (h1 : bef M i < pvI (M.getD i [])) (h2 : 0 ≤ eM M i (pv (M.getD i []))) (h3 : anyB (bad M i) i = false) : rowOk M i = true := by
  unfold rowOk; rw [decide_eq_true h1, decide_eq_true h2, h3]; rfl
set_option maxRecDepth 100000 in
set_option maxHeartbeats 1000000 in
theorem isForm_any {w : World} {v : Value} {M : Mx} {n : Nat} (hM : MatR w v M) (hR : Rect n M) (hl : M.length ≤ 1000000) (hn : n ≤ 1000000) :
    Calls Tryz.prog 57 #[v] w fun e w' => e = .returned (.bool (isF M)) ∧ Ext w w' := by
  obtain ⟨sa, gb, go, cap, vs, rfl, hcap, hvl, hS, hr⟩ := hM
  have HS := Lib.hid hS
  have HV := Lib.hid hvl
  have HR := Lib.hid hr
  have HRt := Lib.hid hR
  clear hS hvl hr hR
  go_enter Tryz.func57, Tryz.ntmps57
  go_wp2_with fail
  go_loopw [3, 9] (fun be idx wr => ∃ i : Nat, i ≤ M.length ∧ idx = .int .i64 i ∧ be = .int .i64 (bef M i) ∧ Hid (∀ j, j < i → rowOk M j = true) ∧ Ext w wr) (fun _ idx _ => M.length - (intOf idx).toNat)
  case atStart => exact ⟨0, by omega, by go_num, by unfold bef; rw [if_pos rfl], Lib.hid (fun j h => by omega), Ext.refl _⟩
  case round =>
    obtain ⟨i, hi, rfl, rfl, Hp, hE⟩ := hrel
    generalize wr = X at *
    by_cases hlt : i < M.length
    · have hii : (i : Int) < (M.length : Int) := by omega
      have hic : (i : Int) ≤ (cap : Int) := by omega
      obtain rfl := HS.out.addr (by rw [HV.out]; omega)
      obtain ⟨sr, br, or, cr, hrow, hrc, hSr⟩ := MatR.row HS.out HV.out HR.out hlt
      have hrl : M[i].length = n := HRt.out _ (List.getElem_mem hlt)
      have hrd : M.getD i [] = M[i] := getD_get hlt []
      obtain ⟨r, hrr⟩ : ∃ r, r = M[i] := ⟨_, rfl⟩
      rw [← hrr] at hrow hrc hSr hrl hrd
      rw [hrl] at hrow hrc
      have hrow' := hE.cell hrow
      have Hrl := Lib.hid hrl
      have Hrd := Lib.hid hrd
      have hpc := Lib.hid (fun W (hW : Ext w W) => pivot_any (w := W) (v := .slice sr n cr) (r := r) ⟨sr, br, or, cr, by rw [Hrl.out], by rw [Hrl.out]; exact hrc, hSr.ext hW⟩ (by rw [Hrl.out]; exact hn))
      have hb1 := bef_ge M i
      have HSr := Lib.hid hSr
      clear hrow hrr hrl hrd hSr
      have hEW := (Ext.refl X).alloc (.cells #[.slice sr n cr] 35)
      have hfin : ∀ W, Ext w W → rowOk M i = false → (.returned (.bool false) : Ending) = .returned (.bool (isF M)) ∧ Ext w W := fun W hW h => ⟨by rw [isF_no hlt h], hW⟩
      have Hfin := Lib.hid hfin
      clear hfin
      obtain ⟨be, hbe⟩ : ∃ be, be = bef M i := ⟨_, rfl⟩
      rw [← hbe] at hb1 ⊢
      have Hbe := Lib.hid hbe
      clear hbe
      by_cases h1 : pvI r ≤ be
      · have Hno := Lib.hid (rowOk_no1 (M := M) (i := i) (by rw [Hrd.out, ← Hbe.out]; exact h1))
        obtain ⟨q, hq⟩ : ∃ q, q = pvI r := ⟨_, rfl⟩
        rw [← hq] at h1 hpc
        clear hq
        go_wp2_with fail
        refine (hpc.out _ (hE.trans hEW)).mono ?_
        rintro e W ⟨rfl, hW⟩
        have c5 := hW.cell (show (X.alloc (.cells #[.slice sr n cr] 35)).cell? ⟨X.heap.size, 0, none⟩ = some (.slice sr n cr) by go_simp)
        go_wp2_with fail
        go_ret
        exact Hfin.out _ (((hE.trans hEW).trans hW).alloc _) Hno.out
      · have hpn : pv r < r.length ∧ pvI r = (pv r : Int) := by
          unfold pvI at h1 ⊢
          by_cases h : pv r < r.length
          · exact ⟨h, by rw [if_pos h]⟩
          · rw [if_neg h] at h1; omega
        rw [hpn.2] at hpc h1
        have hpn2 : pv r < n := by have := hpn.1; rw [Hrl.out] at this; exact this
        have hH1 := Lib.hid (show bef M i < pvI (M.getD i []) by rw [Hrd.out, hpn.2, ← Hbe.out]; omega)
        have HpI := Lib.hid hpn.2
        have ha := (HSr.out.ext hE).cell (pv r) (.int .i64 (r.getD (pv r) 0)) (by rw [getD_get hpn.1]; exact is_get hpn.1)
        obtain rfl := HSr.out.addr (by rw [is_length]; omega)
        obtain ⟨p, hp⟩ : ∃ p, p = pv r := ⟨_, rfl⟩
        obtain ⟨a, hae⟩ : ∃ a, a = r.getD p 0 := ⟨_, rfl⟩
        have heM : eM M i (pv (M.getD i [])) = a := by rw [Hrd.out, hae, hp]; unfold eM; rw [Hrd.out]
        rw [← hp] at hpc h1 hpn2 ha HpI
        rw [← hae] at ha
        have Hp1 := Lib.hid hp
        have Hae := Lib.hid hae
        have HeM := Lib.hid heM
        have hpi : (p : Int) < (n : Int) := by omega
        have h1b : be < (p : Int) := by omega
        clear hp hae heM hpn h1
        by_cases h2 : a < 0
        · have Hno := Lib.hid (rowOk_no2 (M := M) (i := i) (by rw [HeM.out]; exact h2))
          go_wp2_with fail
          refine (hpc.out _ (hE.trans hEW)).mono ?_
          rintro e W ⟨rfl, hW⟩
          have c5 := hW.cell (show (X.alloc (.cells #[.slice (some ⟨br, or, none⟩) n cr] 35)).cell? ⟨X.heap.size, 0, none⟩ = some (.slice (some ⟨br, or, none⟩) n cr) by go_simp)
          have c6 := hW.cell (hEW.cell ha)
          have l6 := World.block_lt_of_cell? _ _ c6
          have l5 := World.block_lt_of_cell? _ _ c5
          go_wp2_with fail
          go_ret
          exact Hfin.out _ (((hE.trans hEW).trans hW).alloc _) Hno.out
        · have h20 : 0 ≤ a := by omega
          clear h2
          go_wp2_with fail
          refine (hpc.out _ (hE.trans hEW)).mono ?_
          rintro e W ⟨rfl, hW⟩
          have c5 := hW.cell (show (X.alloc (.cells #[.slice (some ⟨br, or, none⟩) n cr] 35)).cell? ⟨X.heap.size, 0, none⟩ = some (.slice (some ⟨br, or, none⟩) n cr) by go_simp)
          have c6 := hW.cell (hEW.cell ha)
          have l6 := World.block_lt_of_cell? _ _ c6
          have l5 := World.block_lt_of_cell? _ _ c5
          have hXW : X.heap.size < W.heap.size := by have := hW.size; simp at this; omega
          have hE3 := ((hE.trans hEW).trans hW).alloc (.cells #[.int .i64 (p : Int)] 3)
          have d5 := ((Ext.refl W).alloc (.cells #[.int .i64 (p : Int)] 3)).cell c5
          have d6 := show (W.alloc (.cells #[.int .i64 (p : Int)] 3)).cell? ⟨W.heap.size, 0, none⟩ = some (.int .i64 (p : Int)) by go_simp
          have hcon := contains_isForm (cap := cap) (c1 := .pointer (some ⟨W.heap.size, 0, none⟩)) (c2 := .pointer (some ⟨X.heap.size, 0, none⟩)) (p := bad M i) (vs := vs.take i) ((HS.out.ext hE3).take i) (by rw [List.length_take, HV.out]; omega) (fun k hk W2 hW2 => by
            have hki : k < i := by rw [List.length_take] at hk; omega
            have hkM : k < M.length := by omega
            obtain ⟨sk, bk, ok, ck, hrk, hck, hSk⟩ := MatR.row HS.out HV.out HR.out hkM
            have e1 : (vs.take i)[k] = .slice sk n ck := by
              rw [List.getElem_take]
              have := HS.out.cell k _ (List.getElem?_eq_getElem (by rw [HV.out]; exact hkM))
              rw [this] at hrk
              rw [Option.some.inj hrk, HRt.out _ (List.getElem_mem hkM)]
            rw [e1]
            have := isFormC_any (w := W2) (cap := ck) (p := p) (bp := W.heap.size) (br := X.heap.size) ((hSk.ext hE3).ext hW2) ((HSr.out.ext hE3).ext hW2) (HRt.out _ (List.getElem_mem hkM)) Hrl.out hn hpn2 (hW2.cell d6) (hW2.cell d5)
            have e2 : bad M i k = (decide (M[k].getD p 0 < 0) || decide (r.getD p 0 ≤ M[k].getD p 0)) := by
              unfold bad eM
              rw [Hrd.out, ← Hp1.out, getD_get hkM []]
            rw [e2]; exact this)
          rw [List.length_take, HV.out, Nat.min_eq_left (by omega)] at hcon
          have Hcon := Lib.hid hcon
          clear hcon
          cases hany : anyB (bad M i) i
          · rw [hany] at Hcon
            have Hok := Lib.hid (rowOk_yes hH1.out (by rw [HeM.out]; exact h20) hany)
            clear hany
            go_wp2_with fail
            refine Hcon.out.mono ?_
            rintro e W2 ⟨rfl, hW2⟩
            have d7 := hW2.cell d6
            go_wp2_with fail
            go_roundw
            case rel => exact ⟨i + 1, by omega, by go_num, by unfold bef; rw [if_neg (by omega), Nat.add_sub_cancel, Hrd.out, HpI.out], Lib.hid (fun j hj => by
              by_cases e : j = i
              · subst e; exact Hok.out
              · exact Hp.out j (by omega)), hE3.trans hW2⟩
            case measure => simp [intOf] <;> omega
          · rw [hany] at Hcon
            have Hno := Lib.hid (rowOk_no3 hany)
            clear hany
            go_wp2_with fail
            refine Hcon.out.mono ?_
            rintro e W2 ⟨rfl, hW2⟩
            go_wp2_with fail
            go_ret
            exact Hfin.out _ (hE3.trans hW2) Hno.out
    · have Hyes := Lib.hid (isF_yes (M := M) (fun j hj => Hp.out j (by omega)))
      go_wp2_with fail
      go_ret
      exact ⟨by rw [Hyes.out]; rfl, hE⟩
end Go.Proofs.YthmhmkkcjlgbjaaGreatDoor
/- hermite: IsForm; isF is the normal form. -/
namespace Go.Proofs.YthmhmkkcjlgbjaaGreatDoor
open Go.RowKit Go.Sort
theorem rowOk_parts {M : Mx} {i : Nat} (h : rowOk M i = true) : bef M i < pvI (M.getD i []) ∧ 0 ≤ eM M i (pv (M.getD i [])) ∧ ∀ k, k < i → bad M i k = false := by
  unfold rowOk at h
  simp only [Bool.and_eq_true, decide_eq_true_eq, Bool.not_eq_true'] at h
  exact ⟨h.1.1, h.1.2, anyB_false h.2⟩
theorem getD_map {α β : Type} (f : α → β) (l : List α) (i : Nat) (h : i < l.length) (d : β) (e : α) : (l.map f).getD i d = f (l.getD i e) := by
  rw [getD_get (by simpa using h), getD_get h]; simp
theorem isF_isH {n : Nat} {M : Mx} (hR : Rect n M) (h : isF M = true) : IsH n (M.map pv) M := by
  have hrow := fun i (hi : i < M.length) => rowOk_parts (isF_at h hi)
  have hp : ∀ i, i < M.length → (M.map pv).getD i 0 = pv (M.getD i []) := fun i hi => getD_map pv M i hi 0 []
  have hlen : ∀ i, i < M.length → (M.getD i []).length = n := fun i hi => by rw [getD_get hi]; exact hR _ (List.getElem_mem hi)
  have hlt : ∀ i, i < M.length → pv (M.getD i []) < n ∧ pvI (M.getD i []) = (pv (M.getD i []) : Int) := fun i hi => by
    have h1 := (hrow i hi).1
    have h2 := bef_ge M i
    unfold pvI at h1 ⊢
    by_cases h3 : pv (M.getD i []) < (M.getD i []).length
    · rw [if_pos h3]; rw [hlen i hi] at h3; exact ⟨h3, rfl⟩
    · rw [if_neg h3] at h1; omega
  have hstep : ∀ i, i + 1 < M.length → pv (M.getD i []) < pv (M.getD (i + 1) []) := fun i hi => by
    have h1 := (hrow (i + 1) hi).1
    unfold bef at h1
    rw [if_neg (by omega), Nat.add_sub_cancel, (hlt i (by omega)).2, (hlt (i + 1) hi).2] at h1
    omega
  have hinc : ∀ d i, i + d + 1 < M.length → pv (M.getD i []) < pv (M.getD (i + d + 1) []) := by
    intro d
    induction d with
    | zero => intro i hi; exact hstep i hi
    | succ d ih =>
      intro i hi
      have h1 := ih i (by omega)
      have h2 := hstep (i + d + 1) (by omega)
      rw [show i + (d + 1) + 1 = i + d + 1 + 1 by omega]; omega
  refine ⟨hR, by simp, fun i hi => ?_, fun i k hik hk => ?_, fun i hi j hj => ?_, fun i hi => ?_, fun i k hik hk => ?_⟩
  · rw [hp i hi]; exact (hlt i hi).1
  · rw [hp i (by omega), hp k hk]
    have := hinc (k - i - 1) i (by omega)
    rwa [show i + (k - i - 1) + 1 = k by omega] at this
  · rw [hp i hi] at hj
    exact pv_zero hj
  · rw [hp i hi]
    have h1 := (hrow i hi).2.1
    have h2 := pv_ne (r := M.getD i []) (by rw [hlen i hi]; exact (hlt i hi).1)
    have : eM M i (pv (M.getD i [])) ≠ 0 := h2
    omega
  · rw [hp k hk]
    have := (hrow k hk).2.2 i hik
    unfold bad at this
    simp only [Bool.or_eq_false_iff, decide_eq_false_iff_not] at this
    omega
theorem isH_pv {n : Nat} {ps : List Nat} {M : Mx} (h : IsH n ps M) : ps = M.map pv := by
  refine List.ext_getElem (by rw [h.len]; simp) fun i h1 h2 => ?_
  have hi : i < M.length := by simpa using h2
  have hp := h.pos i hi
  have hl := h.left i hi
  rw [getD_get h1] at hp hl
  have := (pv_of (r := M.getD i []) (p := ps[i]) (by show eM M i ps[i] ≠ 0; omega) (fun j hj => hl j hj)).1
  rw [List.getElem_map, ← this, getD_get hi]
theorem isH_isF {n : Nat} {ps : List Nat} {M : Mx} (h : IsH n ps M) : isF M = true := by
  have e := isH_pv h
  subst e
  have hp : ∀ i, i < M.length → (M.map pv).getD i 0 = pv (M.getD i []) := fun i hi => getD_map pv M i hi 0 []
  have hlen : ∀ i, i < M.length → (M.getD i []).length = n := fun i hi => by rw [getD_get hi]; exact h.rect _ (List.getElem_mem hi)
  have hI : ∀ i, i < M.length → pvI (M.getD i []) = (pv (M.getD i []) : Int) := fun i hi => by
    have := h.lt i hi
    rw [hp i hi] at this
    unfold pvI; rw [if_pos (by rw [hlen i hi]; exact this)]
  refine isF_yes fun i hi => rowOk_yes ?_ ?_ (anyB_no fun k hk => ?_)
  · unfold bef
    rw [hI i hi]
    split
    · omega
    · rw [hI (i - 1) (by omega)]
      have := h.inc (i - 1) i (by omega) hi
      rw [hp i hi, hp (i - 1) (by omega)] at this
      omega
  · have := h.pos i hi
    rw [hp i hi] at this; omega
  · have := h.red k i hk hi
    rw [hp i hi] at this
    unfold bad
    simp only [Bool.or_eq_false_iff, decide_eq_false_iff_not]
    omega
/-- What IsForm returns. -/
def isFE (M : Mx) : Bool := if checkM M = 0 then isF M else false
theorem IsForm_any {w : World} {v : Value} {M : Mx} (hM : MatR w v M) :
    Calls Tryz.prog 16 #[v] w fun e w' => e = .returned (.tuple #[.bool (isFE M), .int .i64 (checkM M)]) ∧ Ext w w' := by
  have hck := Lib.hid (tableCheck_any hM)
  obtain ⟨c, hc⟩ : ∃ c, c = checkM M := ⟨_, rfl⟩
  by_cases h0 : c = 0
  · have hc0 : checkM M = 0 := by omega
    obtain ⟨h1, h2, h3, _⟩ := checkM_ok hc0
    have hif := Lib.hid (fun W (hW : Ext w W) => isForm_any (hM.ext hW) h3 (by omega) (by omega))
    have hE : isFE M = isF M := by unfold isFE; rw [if_pos hc0]
    rw [hE, hc0]
    rw [hc0] at hck
    clear hM hc h0 h1 h2 h3 hE hc0 c
    go_enter Tryz.func16, Tryz.ntmps16
    go_wp2_with fail
    refine hck.out.mono ?_
    rintro e w1 ⟨rfl, hE1⟩
    go_wp2_with fail
    refine (hif.out _ hE1).mono ?_
    rintro e w2 ⟨rfl, hE2⟩
    go_wp2_with fail
    go_ret2
    exact ⟨rfl, hE1.trans hE2⟩
  · have hE : isFE M = false := by unfold isFE; rw [if_neg (by omega)]
    rw [hE]
    rw [← hc] at hck ⊢
    have hcb : (c == 0) = false := beq_eq_false_iff_ne.2 h0
    have hcb2 : (c != 0) = true := by simp [bne, hcb]
    clear hM hc hE
    go_enter Tryz.func16, Tryz.ntmps16
    go_wp2_with fail
    refine hck.out.mono ?_
    rintro e w1 ⟨rfl, hE1⟩
    go_wp2_with fail
    go_ret2
    exact ⟨rfl, hE1⟩
end Go.Proofs.YthmhmkkcjlgbjaaGreatDoor
