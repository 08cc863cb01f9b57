/- Part 15 of the proof of the claim: contracts of the functions that it reaches, and plain laws; no condition. -/
import Derived.Test.YthmhmkkcjlgbjaaGreatDoorV14
import Derived.Test.YthmhmkkcjlgbjaaGreatDoorV04
/- Rows and matrices that a call makes by append. -/
namespace Go.Proofs.YthmhmkkcjlgbjaaGreatDoor
open Go.RowKit Go.Sort
theorem Tryz.infoRow : (Tryz.prog.info? 35).map (fun i => (i.zero, i.size, i.bytes)) = some (some (.slice none 0 0), 1, 24) := by kernel_rfl
/-- A row of ints, nil or the call's own. -/
def RowV (B : Nat) (w : World) (v : Value) (r : List Int) : Prop := w.ownsRow B 3 1 v r.length (is r)
theorem RowV.nil (B : Nat) (w : World) : RowV B w (.slice none 0 0) [] := ⟨rfl, .inl ⟨rfl, rfl⟩⟩
theorem RowV.ext {B : Nat} {w w' : World} {v : Value} {r : List Int} (h : RowV B w v r) (he : Ext w w') : RowV B w' v r := ownsRow_ext h he
theorem ownsRow_mono {w : World} {B B' : Nat} {e : TypeId} {size n : Nat} {v : Value} {xs : List Value} (h : w.ownsRow B e size v n xs) (hB : B' ≤ B) : w.ownsRow B' e size v n xs := by
  refine ⟨h.1, ?_⟩
  rcases h.2 with h' | ⟨g', cap', cur, h', hB', r⟩
  · exact .inl h'
  · exact .inr ⟨g', cap', cur, h', by omega, r⟩
theorem RowV.mono {B B' : Nat} {w : World} {v : Value} {r : List Int} (h : RowV B w v r) (hB : B' ≤ B) : RowV B' w v r := ownsRow_mono h hB
theorem RowO.v {B : Nat} {w : World} {v : Value} {r : List Int} (h : RowO B w v r) : RowV B w v r := by
  obtain ⟨g, cap, rfl, ho⟩ := h
  unfold RowV; have := ho; unfold OwnV at this; rw [is_length] at this; exact this
theorem RowV.row {B : Nat} {w : World} {v : Value} {r : List Int} (h : RowV B w v r) : RowR w v r := by
  rcases h.2 with ⟨rfl, h0⟩ | ⟨g, cap, cur, rfl, hb, hg, hn, hm, hs, ht⟩
  · have : r = [] := by cases r with
      | nil => rfl
      | cons => simp at h0
    subst this
    exact ⟨none, 0, 0, 0, rfl, Nat.le_refl _, Sl.nil _ _ _ _⟩
  · have ho : OwnV 3 B w g cap (is r) := by unfold OwnV; rw [is_length]; exact h
    exact ⟨_, g, 0, cap, rfl, hn, ho.sl⟩
/-- Blocks of two types are two blocks. -/
theorem own_ne {B B' : Nat} {w : World} {T T' : TypeId} {size size' n n' : Nat} {u v : Value} {xs ys : List Value} (h : w.ownsRow B T size u n xs) (h' : w.ownsRow B' T' size' v n' ys) (hT : T ≠ T') {g : Nat} (hg : u.ownBlock = some g) : v.ownBlock ≠ some g := by
  intro e
  rcases h.2 with ⟨rfl, _⟩ | ⟨g1, cap, cur, rfl, _, hg1, _⟩
  · cases hg
  · rcases h'.2 with ⟨rfl, _⟩ | ⟨g2, cap2, cur2, rfl, _, hg2, _⟩
    · cases e
    · injection hg with hg; injection e with e
      subst hg; subst e
      rw [hg1] at hg2
      injection hg2 with hg2
      injection hg2 with _ h3
      exact hT h3
theorem own_kept {B B' : Nat} {w w' : World} {T T' : TypeId} {size size' n n' : Nat} {u v : Value} {xs ys : List Value} (h : w.ownsRow B T size u n xs) (h' : w.ownsRow B' T' size' v n' ys) (hT : T ≠ T') (hg : w.grownBy w' v.ownBlock) : w'.ownsRow B T size u n xs := by
  refine World.ownsRow.kept h hg ?_
  cases hu : u.ownBlock with
  | none => exact .inl rfl
  | some g => exact .inr (fun e => own_ne h h' hT hu e.symm)
theorem is_snoc (r : List Int) (z : Int) : is (r ++ [z]) = is r ++ [.int .i64 z] := by simp only [is, List.map_append, List.map_cons, List.map_nil]
section
variable {w : World} {ops : Array Oper} {rest : List Oper} {o : Oper} {a : Act} {Q : Exit → Act → World → Prop}
theorem app_int (hgd : o.guard = none) (s x : Operand) (t : TypeId) (ht : Tryz.prog.underlying t = some (.slice 3)) (ho : o.op = .call { callee := .builtin .append, args := #[s, x], argTypes := #[t, t] })
    {B : Nat} {v : Value} {r : List Int} (hs : a.eval s = v) (hown : RowV B w v r) {b : Nat} {z : Int} (hx : a.eval x = .slice (some ⟨b, 0, none⟩) 1 1) (hc : w.cell? ⟨b, 0, none⟩ = some (.int .i64 z)) (hl : r.length ≤ 1000000000) (hB : B ≤ w.heap.size)
    (h : ∀ g cap w', RowV B w' (slv g (r.length + 1) cap) (r ++ [z]) → Below B w w' → w.grownBy w' v.ownBlock → wpList Tryz.prog ops Q rest (a.put o.dst (slv g (r.length + 1) cap)) w') : wpList Tryz.prog ops Q (o :: rest) a w := by
  obtain ⟨i0, hi, hz0, hz1, hz2⟩ := info_parts Tryz.infoInt
  refine wpList_append_lies w hgd s x t ho B 3 i0 _ 1 8 ht hi hz0 hz1 hz2 rfl (by omega) v r.length (is r) hs hown ⟨b, 0, none⟩ 1 1 [.int .i64 z] hx rfl ?_ (one_int _ _) (by omega) (by unfold maxLen; omega) (by omega) hB w.heap.size rfl ?_
  · intro j u hj
    have : j = 0 := by have := (List.getElem?_eq_some_iff.1 hj).1; simp at this; omega
    subst this
    simp only [List.getElem?_cons_zero, Option.some.injEq] at hj
    subst hj
    simpa [Addr.add_lit] using hc
  · intro g cap w' h1 h2 h3 h4
    refine h g cap w' ?_ (Below.grown (Below.refl _ _) h2 hB (fun q hq => (World.ownsRow.lt hown q hq).1)) h2
    unfold RowV
    rw [is_snoc, List.length_append]; exact h1
/-- A matrix that the call has made. -/
def MatO (B : Nat) (w : World) (v : Value) (F : Mx) : Prop := ∃ vs, vs.length = F.length ∧ w.ownsRow B 35 1 v F.length vs ∧ ∀ t (_ : t < F.length) (h' : t < vs.length), RowV B w vs[t] F[t]
theorem MatO.nil (B : Nat) (w : World) : MatO B w (.slice none 0 0) [] := ⟨[], rfl, ⟨rfl, .inl ⟨rfl, rfl⟩⟩, fun t h => by simp at h⟩
theorem MatO.ext {B : Nat} {w w' : World} {v : Value} {F : Mx} (h : MatO B w v F) (he : Ext w w') : MatO B w' v F := by
  obtain ⟨vs, h1, h2, h3⟩ := h
  exact ⟨vs, h1, ownsRow_ext h2 he, fun t a b => (h3 t a b).ext he⟩
theorem MatO.mono {B B' : Nat} {w : World} {v : Value} {F : Mx} (h : MatO B w v F) (hB : B' ≤ B) : MatO B' w v F := by
  obtain ⟨vs, h1, h2, h3⟩ := h
  exact ⟨vs, h1, ownsRow_mono h2 hB, fun t a b => (h3 t a b).mono hB⟩
theorem MatO.mat {B : Nat} {w : World} {v : Value} {F : Mx} (h : MatO B w v F) : MatR w v F := by
  obtain ⟨vs, h1, h2, h3⟩ := h
  have hr : ∀ i (h : i < F.length) (h' : i < vs.length), RowR w vs[i] F[i] := fun i a b => (h3 i a b).row
  rcases h2.2 with ⟨rfl, h0⟩ | ⟨g, cap, cur, rfl, hb, hg, hn, hm, hs, ht⟩
  · have : F = [] := List.eq_nil_of_length_eq_zero h0
    subst this
    have hv : vs = [] := List.eq_nil_of_length_eq_zero h1
    subst hv
    exact ⟨none, 0, 0, 0, [], rfl, Nat.le_refl _, rfl, Sl.nil _ _ _ _, hr⟩
  · have ho : OwnV 35 B w g cap vs := by unfold OwnV; rw [h1]; exact h2
    exact ⟨_, g, 0, cap, vs, rfl, hn, h1, ho.sl, hr⟩
theorem RowV.one {B : Nat} {w : World} {v : Value} {r : List Int} (h : RowV B w v r) : v.oneCell' = true := by
  rcases h.2 with ⟨rfl, _⟩ | ⟨g, cap, cur, rfl, _⟩ <;> rfl
theorem app_mat (hgd : o.guard = none) (s x : Operand) (ho : o.op = .call { callee := .builtin .append, args := #[s, x], argTypes := #[29, 29] })
    {B : Nat} {v rv : Value} {F : Mx} {r : List Int} (hs : a.eval s = v) (hown : MatO B w v F) {b : Nat} (hx : a.eval x = .slice (some ⟨b, 0, none⟩) 1 1) (hc : w.cell? ⟨b, 0, none⟩ = some rv) (hr : RowV B w rv r) (hl : F.length ≤ 1000000000) (hB : B ≤ w.heap.size)
    (h : ∀ g cap w', MatO B w' (slv g (F.length + 1) cap) (F ++ [r]) → Below B w w' → w.grownBy w' v.ownBlock → wpList Tryz.prog ops Q rest (a.put o.dst (slv g (F.length + 1) cap)) w') : wpList Tryz.prog ops Q (o :: rest) a w := by
  obtain ⟨i0, hi, hz0, hz1, hz2⟩ := info_parts Tryz.infoRow
  obtain ⟨vs, h1, h2, h3⟩ := hown
  refine wpList_append_lies w hgd s x 29 ho B 35 i0 _ 1 24 Tryz.underlying29 hi hz0 hz1 hz2 rfl (by omega) v F.length vs hs h2 ⟨b, 0, none⟩ 1 1 [rv] hx rfl ?_ ?_ (by omega) (by unfold maxLen; omega) (by omega) hB w.heap.size rfl ?_
  · intro j u hj
    have : j = 0 := by have := (List.getElem?_eq_some_iff.1 hj).1; simp at this; omega
    subst this
    simp only [List.getElem?_cons_zero, Option.some.injEq] at hj
    subst hj
    simpa [Addr.add_lit] using hc
  · intro u hu
    simp only [List.mem_cons, List.not_mem_nil, or_false] at hu
    subst hu; exact hr.one
  · intro g cap w' k1 k2 k3 k4
    have hkeep : ∀ {u : Value} {l : List Int}, RowV B w u l → RowV B w' u l := fun hu => own_kept hu h2 (by decide) k2
    refine h g cap w' ⟨vs ++ [rv], by simp [h1], ?_, fun t ht ht' => ?_⟩ (Below.grown (Below.refl _ _) k2 hB (fun q hq => (World.ownsRow.lt h2 q hq).1)) k2
    · rw [List.length_append]; exact k1
    · rcases Nat.lt_or_ge t F.length with hlt | hge
      · rw [List.getElem_append_left (by omega), List.getElem_append_left hlt]
        exact hkeep (h3 t hlt (by omega))
      · have hte : t = F.length := by simp at ht; omega
        subst hte
        rw [List.getElem_append_right (by omega), List.getElem_append_right (by omega)]
        simp only [h1, Nat.sub_self, List.getElem_cons_zero]
        exact hkeep hr
end
end Go.Proofs.YthmhmkkcjlgbjaaGreatDoor
/- schismaref03: words; trim -/
namespace Go.Proofs.YthmhmkkcjlgbjaaGreatDoor
open Go.RowKit Go.Sort
/-- Digits as ints. -/
def nz (p : List Nat) : List Int := p.map fun (d : Nat) => (d : Int)
@[simp] theorem nz_length (p : List Nat) : (nz p).length = p.length := by simp [nz]
theorem nz_get {p : List Nat} {i : Nat} (h : i < p.length) : (is (nz p))[i]? = some (.int .i64 (p[i] : Nat)) := by
  rw [is_get (by simpa using h)]; simp [nz]
theorem nz_take (p : List Nat) (k : Nat) : nz (p.take k) = (nz p).take k := by simp [nz]
/-- The block of a slice is one of ints. -/
def TyI (w : World) (v : Value) : Prop := ∀ a n c, v = .slice (some a) n c → 0 < n → ∃ cur fr, w.heap[a.block]? = some (.cells cur 3 fr)
theorem TyI.ext {w w' : World} {v : Value} (h : TyI w v) (he : Ext w w') : TyI w' v := fun a n c e h0 => by
  obtain ⟨cur, fr, hh⟩ := h a n c e h0
  exact ⟨cur, fr, by rw [he.block _ (Array.getElem?_eq_some_iff.1 hh).1]; exact hh⟩
theorem TyI.cut {w : World} {sa : Option Addr} {n m c : Nat} (h : TyI w (.slice sa n c)) (hm : m ≤ n) : TyI w (.slice sa m c) := fun a k d e h0 => by
  injection e with e1 e2 e3
  subst e1 e2
  exact h a n c rfl (by omega)
/-- A slice of digits. -/
structure DgR (w : World) (v : Value) (p : List Nat) : Prop where
  row : RowR w v (nz p)
  ty : TyI w v
theorem DgR.ext {w w' : World} {v : Value} {p : List Nat} (h : DgR w v p) (he : Ext w w') : DgR w' v p := ⟨RowR.ext h.row he, h.ty.ext he⟩
theorem DgR.open {w : World} {v : Value} {p : List Nat} (h : DgR w v p) : ∃ sa gb go cap, v = .slice sa p.length cap ∧ p.length ≤ cap ∧ Sl w sa gb go (is (nz p)) := by
  obtain ⟨sa, gb, go, cap, e, hc, hS⟩ := h.row
  rw [nz_length] at e hc
  exact ⟨sa, gb, go, cap, e, hc, hS⟩
theorem DgR.mk' {w : World} {sa : Option Addr} {gb go cap n : Nat} {p : List Nat} (hn : p.length = n) (hc : n ≤ cap) (hS : Sl w sa gb go (is (nz p))) (hT : TyI w (.slice sa n cap)) : DgR w (.slice sa n cap) p := by
  subst hn
  exact ⟨⟨sa, gb, go, cap, by rw [nz_length], by rw [nz_length]; exact hc, hS⟩, hT⟩
theorem RowV.ty {B : Nat} {w : World} {v : Value} {r : List Int} (h : RowV B w v r) : TyI w v := fun a n c e h0 => by
  rcases h.2 with ⟨rfl, _⟩ | ⟨g, cap, cur, rfl, _, hg, _⟩
  · cases e
  · injection e with e1 e2 e3
    injection e1 with e1
    subst e1
    exact ⟨cur, (0, 0), hg⟩
theorem RowV.dg {B : Nat} {w : World} {v : Value} {p : List Nat} (h : RowV B w v (nz p)) : DgR w v p := ⟨h.row, h.ty⟩
/-- An integer by its sign and its magnitude. -/
def sgn (b : Bool) (u : Nat) : Int := if b then -(u : Int) else u
theorem sgn_abs (b : Bool) (u : Nat) : (sgn b u).natAbs = u := by unfold sgn; split <;> omega
theorem sgn_neg (b : Bool) (u : Nat) : decide (sgn b u < 0) = (b && decide (u ≠ 0)) := by
  unfold sgn
  cases b
  · simp
  · by_cases h : u = 0
    · subst h; simp
    · simp [h]; omega
theorem sgn_self (z : Int) : sgn (decide (z < 0)) z.natAbs = z := by
  unfold sgn
  by_cases h : z < 0
  · rw [decide_eq_true h, if_pos rfl]; omega
  · rw [decide_eq_false h, if_neg (by decide)]; omega
/-- An integer of the reference. -/
def WhR (w : World) (v : Value) (z : Int) : Prop := ∃ d, v = .agg #[.bool (decide (z < 0)), d] ∧ DgR w d (pc z.natAbs)
theorem WhR.ext {w w' : World} {v : Value} {z : Int} (h : WhR w v z) (he : Ext w w') : WhR w' v z := by
  obtain ⟨d, e, hd⟩ := h; exact ⟨d, e, hd.ext he⟩
/-- A call that returns an integer. -/
def WhPost (w : World) (z : Int) (e : Ending) (w' : World) : Prop := ∃ v, e = .returned v ∧ WhR w' v z ∧ Ext w w'
theorem alloc_at (w : World) (o : Obj) : (w.alloc o).heap[w.heap.size]? = some o := by
  show (w.heap.push o)[w.heap.size]? = some o
  simp
theorem own_alloc (w : World) (T : TypeId) (a b : Value) : OwnV T w.heap.size (w.alloc (.cells #[a, b] T)) w.heap.size 2 [a, b] :=
  OwnV.of (Nat.le_refl _) (alloc_at _ _) (by simp) (by unfold maxLen; omega) rfl rfl
/-- Two cells that are stored. -/
theorem res_set {T : TypeId} {B g : Nat} {w : World} {a b : Value} (h : OwnV T B w g 2 [a, b]) (c d : Value) :
    OwnV T B ((w.setCell ⟨g, 0, none⟩ c).setCell ⟨g, 1, none⟩ d) g 2 [c, d] ∧ w.grownBy ((w.setCell ⟨g, 0, none⟩ c).setCell ⟨g, 1, none⟩ d) (some g) := by
  obtain ⟨h1, g1⟩ := h.set 0 c
  obtain ⟨h2, g2⟩ := h1.set 1 d
  exact ⟨h2, grown_trans g1 g2⟩
theorem res_get {T : TypeId} {B g : Nat} {w : World} {a b : Value} (h : OwnV T B w g 2 [a, b]) : w.cell? ⟨g, 0, none⟩ = some a ∧ w.cell? ⟨g, 1, none⟩ = some b :=
  ⟨h.cell (j := 0) (by simp), h.cell (j := 1) (by simp)⟩
/-- Digits are not in the block of an integer. -/
theorem dig_kept {B r k : Nat} {xs : List Value} {w w' : World} (hO : OwnV 66 B w r k xs) (hG : w.grownBy w' (some r)) {v : Value} {p : List Nat} (h : DgR w v p) : DgR w' v p := by
  obtain ⟨cur, _, h2, _, _, h5, h6⟩ := hO.parts
  have hne : ∀ a n c, v = .slice (some a) n c → 0 < n → a.block ≠ r := fun a n c e h0 hr => by
    obtain ⟨cur', fr, hh⟩ := h.ty a n c e h0
    rw [hr, h2] at hh
    injection hh with hh
    injection hh with _ h3
    exact absurd h3 (by decide)
  obtain ⟨sa, gb, go, cap, e, hc, hS⟩ := h.open
  subst e
  have hblk : ∀ a n c, (Value.slice sa p.length cap) = .slice (some a) n c → 0 < n → w'.heap[a.block]? = w.heap[a.block]? := fun a n c e h0 => by
    obtain ⟨cur', fr, hh⟩ := h.ty a n c e h0
    exact hG.block _ (Array.getElem?_eq_some_iff.1 hh).1 (fun e2 => hne a n c e h0 (Option.some.inj e2))
  refine DgR.mk' rfl hc ⟨hS.addr, fun i x hx => ?_⟩ (fun a n c e h0 => ?_)
  · have hi := (List.getElem?_eq_some_iff.1 hx).1
    have ha := hS.addr (by omega)
    have hn0 : 0 < p.length := by rw [is_length, nz_length] at hi; omega
    refine grown_frozen_cell hG ?_ (hS.cell i x hx)
    exact hne ⟨gb, go, none⟩ _ _ (by rw [ha]) hn0
  · obtain ⟨cur', fr, hh⟩ := h.ty a n c e h0
    exact ⟨cur', fr, by rw [hblk a n c e h0]; exact hh⟩
/-- The integer of trimmed digits. -/
theorem whr_tl {w : World} {b : Bool} {sa : Option Addr} {gb go cap : Nat} {p : List Nat} (hS : Sl w sa gb go (is (nz p))) (hT : TyI w (.slice sa p.length cap)) (hc : p.length ≤ cap) (hs : small9 p) :
    WhR w (.agg #[.bool (b && decide ((tl p).length ≠ 0)), .slice sa (tl p).length cap]) (sgn b (vP p)) := by
  have h0 := tl_pc hs
  have h1 := tl_length p
  refine ⟨.slice sa (tl p).length cap, ?_, ?_⟩
  · rw [sgn_neg]
    have e : decide ((tl p).length ≠ 0) = decide (vP p ≠ 0) := by
      congr 1
      rw [h0]
      have : (pc (vP p)).length = 0 ↔ vP p = 0 := by rw [List.length_eq_zero_iff]; exact pc_nil
      exact propext (not_congr this)
    rw [e]
  · rw [sgn_abs, ← h0]
    refine DgR.mk' (gb := gb) (go := go) rfl (by omega) ?_ (hT.cut h1)
    have := hS.take (tl p).length
    rw [show is (nz (tl p)) = (is (nz p)).take (tl p).length by rw [tl_prefix p]; simp [is, nz]]
    exact this
set_option maxRecDepth 100000 in
set_option maxHeartbeats 1000000 in
theorem trim_x {w : World} {b : Bool} {sa : Option Addr} {gb go cap : Nat} {p : List Nat} (hS : Sl w sa gb go (is (nz p))) (hc : p.length ≤ cap) (hl : p.length ≤ 10000000000000) (hs : small9 p) :
    Calls Tryz.prog 67 #[.agg #[.bool b, .slice sa p.length cap]] w fun e w' => e = .returned (.agg #[.bool (b && decide ((tl p).length ≠ 0)), .slice sa (tl p).length cap]) ∧ Ext w w' := by
  have HS := Lib.hid hS
  have Hs := Lib.hid hs
  have hEw := (((Ext.refl w).alloc (.cells #[.bool b, .slice sa p.length cap] 66)).alloc (.cells #[.bool false, .slice none 0 0] 66))
  have hb1 := Lib.hid ((own_alloc w 66 (.bool b) (.slice sa p.length cap)).ext ((Ext.refl _).alloc (.cells #[.bool false, .slice none 0 0] 66)))
  have hb2 := Lib.hid (own_alloc (w.alloc (.cells #[.bool b, .slice sa p.length cap] 66)) 66 (.bool false) (.slice none 0 0))
  clear hS hs
  go_enter Tryz.func67, Tryz.ntmps67
  go_wp2_with fail
  generalize ((w.alloc (.cells #[.bool b, .slice sa p.length cap] 66)).alloc (.cells #[.bool false, .slice none 0 0] 66)) = V at *
  have hz1 : (w.alloc (.cells #[.bool b, .slice sa p.length cap] 66)).heap.size = w.heap.size + 1 := by simp
  rw [hz1] at hb2
  clear hz1
  obtain ⟨g, hg⟩ : ∃ g, g = w.heap.size := ⟨_, rfl⟩
  have Hg := Lib.hid hg
  rw [← hg] at hb1 hb2 ⊢
  clear hg
  go_loopg [] p.length (fun k wr => k ≤ p.length ∧ Hid (OwnV 66 g wr g 2 [.bool b, .slice sa k cap]) ∧ Hid (OwnV 66 g wr (g + 1) 2 [.bool false, .slice none 0 0]) ∧ Hid (tl p = tl (p.take k)) ∧ Ext w wr)
  case atStart => exact ⟨Nat.le_refl _, hb1, Lib.hid (hb2.out.mono (by omega)), Lib.hid (by rw [List.take_length]), hEw⟩
  case round =>
    obtain ⟨hk, hO1, hO2, Ht, hE⟩ := hrel
    generalize wr = X at *
    have d0 : X.cell? ⟨g, 0, none⟩ = some (.bool b) := hO1.out.cell (j := 0) (by simp)
    have d1 : X.cell? ⟨g, 1, none⟩ = some (.slice sa gk cap) := hO1.out.cell (j := 1) (by simp)
    have d2 : X.cell? ⟨g + 1, 0, none⟩ = some (.bool false) := hO2.out.cell (j := 0) (by simp)
    have d3 : X.cell? ⟨g + 1, 1, none⟩ = some (.slice none 0 0) := hO2.out.cell (j := 1) (by simp)
    have e0 := hO1.out.frozen 0
    have e1 := hO1.out.frozen 1
    have e2 := hO2.out.frozen 0
    have e3 := hO2.out.frozen 1
    rcases Nat.eq_zero_or_pos gk with h0 | h0
    · subst h0
      rw [List.take_zero] at Ht
      cases b
      · skip
        obtain ⟨hA1, hG1⟩ := hO1.out.set 0 (.bool false)
        have hB1 := hO2.out.other hG1 (by omega)
        obtain ⟨hA2, hG2⟩ := res_set hB1 (.bool false) (.slice sa 0 cap)
        obtain ⟨r0, r1⟩ := res_get hA2
        have hE2 : Ext w _ := ext_trans_grown (ext_trans_grown hE hG1 (by rw [Hg.out]; exact Nat.le_refl _)) hG2 (by have := Hg.out; omega)
        have HE2 := Lib.hid hE2
        clear hA1 hG1 hB1 hA2 hG2 hE2
        go_wp2_with fail
        refine bodyPost_ret (v := .agg #[.bool false, .slice sa 0 cap]) (by simp [results, Tryz.results67, go_sem, r0, r1]) rfl ⟨ret_val (by rw [Ht.out]; simp [tl]), HE2.out⟩
      · skip
        obtain ⟨hA1, hG1⟩ := hO1.out.set 0 (.bool false)
        have hB1 := hO2.out.other hG1 (by omega)
        obtain ⟨hA2, hG2⟩ := res_set hB1 (.bool false) (.slice sa 0 cap)
        obtain ⟨r0, r1⟩ := res_get hA2
        have hE2 : Ext w _ := ext_trans_grown (ext_trans_grown hE hG1 (by rw [Hg.out]; exact Nat.le_refl _)) hG2 (by have := Hg.out; omega)
        have HE2 := Lib.hid hE2
        clear hA1 hG1 hB1 hA2 hG2 hE2
        go_wp2_with fail
        refine bodyPost_ret (v := .agg #[.bool false, .slice sa 0 cap]) (by simp [results, Tryz.results67, go_sem, r0, r1]) rfl ⟨ret_val (by rw [Ht.out]; simp [tl]), HE2.out⟩
    · obtain ⟨m, rfl⟩ : ∃ m, gk = m + 1 := ⟨gk - 1, by omega⟩
      obtain rfl := HS.out.addr (by simp; omega)
      have hm : m < p.length := by omega
      obtain ⟨x, hx⟩ : ∃ x, x = p[m] := ⟨_, rfl⟩
      have cx : X.cell? ⟨gb, go + m, none⟩ = some (.int .i64 (x : Nat)) := by rw [hx]; exact hE.cell (HS.out.cell m _ (nz_get hm))
      by_cases hz : x = 0
      · subst hz
        have Ht2 := Lib.hid (tl_take_zero hm hx.symm Ht.out)
        obtain ⟨hA1, hG1⟩ := hO1.out.set 1 (.slice (some ⟨gb, go, none⟩) m cap)
        have hB1 := Lib.hid (hO2.out.other hG1 (by omega))
        have hE2 := Lib.hid (ext_trans_grown hE hG1 (by rw [Hg.out]; exact Nat.le_refl _))
        have HA1 := Lib.hid hA1
        have hm2 : m ≤ cap := by omega
        clear hx hA1 hG1
        go_wp2_with fail
        go_roundg m
        case measure => omega
        case rel => exact ⟨by omega, HA1, hB1, Ht2, hE2.out⟩
      · have hzb : ((x : Int) == 0) = false := beq_eq_false_iff_ne.2 (by omega)
        have Ht2 := Lib.hid (tl_take_pos hm (by rw [← hx]; exact hz) Ht.out)
        clear hz hx
        cases b
        · skip
          obtain ⟨hA1, hG1⟩ := hO1.out.set 0 (.bool false)
          have hB1 := hO2.out.other hG1 (by omega)
          obtain ⟨hA2, hG2⟩ := res_set hB1 (.bool false) (.slice (some ⟨gb, go, none⟩) (m + 1) cap)
          obtain ⟨r0, r1⟩ := res_get hA2
          have hE2 : Ext w _ := ext_trans_grown (ext_trans_grown hE hG1 (by rw [Hg.out]; exact Nat.le_refl _)) hG2 (by have := Hg.out; omega)
          have HE2 := Lib.hid hE2
          clear hA1 hG1 hB1 hA2 hG2 hE2
          go_wp2_with fail
          refine bodyPost_ret (v := .agg #[.bool false, .slice (some ⟨gb, go, none⟩) (m + 1) cap]) (by simp [results, Tryz.results67, go_sem, r0, r1]) rfl ⟨ret_val (by rw [Ht2.out]; simp), HE2.out⟩
        · skip
          obtain ⟨hA1, hG1⟩ := hO1.out.set 0 (.bool true)
          have hB1 := hO2.out.other hG1 (by omega)
          obtain ⟨hA2, hG2⟩ := res_set hB1 (.bool true) (.slice (some ⟨gb, go, none⟩) (m + 1) cap)
          obtain ⟨r0, r1⟩ := res_get hA2
          have hE2 : Ext w _ := ext_trans_grown (ext_trans_grown hE hG1 (by rw [Hg.out]; exact Nat.le_refl _)) hG2 (by have := Hg.out; omega)
          have HE2 := Lib.hid hE2
          clear hA1 hG1 hB1 hA2 hG2 hE2
          go_wp2_with fail
          refine bodyPost_ret (v := .agg #[.bool true, .slice (some ⟨gb, go, none⟩) (m + 1) cap]) (by simp [results, Tryz.results67, go_sem, r0, r1]) rfl ⟨ret_val (by rw [Ht2.out]; simp), HE2.out⟩
theorem trim_w {w : World} {b : Bool} {sa : Option Addr} {gb go cap : Nat} {p : List Nat} (hS : Sl w sa gb go (is (nz p))) (hT : TyI w (.slice sa p.length cap)) (hc : p.length ≤ cap) (hl : p.length ≤ 10000000000000) (hs : small9 p) :
    Calls Tryz.prog 67 #[.agg #[.bool b, .slice sa p.length cap]] w (WhPost w (sgn b (vP p))) :=
  (trim_x hS hc hl hs).mono fun _ _ ⟨he, hE⟩ => ⟨_, he, whr_tl (hS.ext hE) (hT.ext hE) hc hs, hE⟩
theorem RowV.cut {B : Nat} {w : World} {g n cap : Nat} {r : List Int} (h : RowV B w (slv g n cap) r) (k : Nat) (hn : r.length = n) (hk : k ≤ n) : RowV B w (slv g k cap) (r.take k) := by
  subst hn
  have h1 : OwnV 3 B w g cap (is r) := by unfold OwnV; rw [is_length]; exact h
  have h2 := h1.take k
  unfold RowV
  have e : (r.take k).length = k := by rw [List.length_take]; omega
  rw [show is (r.take k) = (is r).take k by simp [is], e]
  unfold OwnV at h2
  rw [show ((is r).take k).length = k by rw [List.length_take, is_length]; omega] at h2
  exact h2
/-- trim of own digits: they stay where they are. -/
theorem trim_o {B : Nat} {w : World} {b : Bool} {d : Value} {p : List Nat} (h : RowV B w d (nz p)) (hl : p.length ≤ 10000000000000) (hs : small9 p) :
    Calls Tryz.prog 67 #[.agg #[.bool b, d]] w fun e w' => ∃ b' d', e = .returned (.agg #[.bool b', d']) ∧ RowV B w' d' (nz (pc (vP p))) ∧ d'.ownBlock = d.ownBlock ∧ Ext w w' := by
  have h0 := tl_pc hs
  have h1 := tl_length p
  rcases h.2 with ⟨rfl, hn⟩ | ⟨g, cap, cur, rfl, hb, hg, hn, hm, hs2, ht⟩
  · have hp : p = [] := by rw [nz_length] at hn; exact List.eq_nil_of_length_eq_zero hn
    subst hp
    have := trim_x (b := b) (cap := 0) (sa := none) (gb := 0) (go := 0) (p := []) (Sl.nil w _ _ _) (Nat.le_refl _) (by simp) hs
    refine this.mono fun e w' ⟨he, hE⟩ => ⟨_, _, he, ?_, rfl, hE⟩
    rw [← h0]
    exact RowV.nil B w'
  · rw [nz_length] at hn h
    have hS : Sl w (some ⟨g, 0, none⟩) g 0 (is (nz p)) := by
      have h1 : OwnV 3 B w g cap (is (nz p)) := by
        have h3 := h
        unfold RowV at h3
        rw [nz_length] at h3
        unfold OwnV; rw [is_length, nz_length]; exact h3
      exact h1.sl
    have := trim_x (b := b) hS hn hl hs
    rw [nz_length]
    refine this.mono fun e w' ⟨he, hE⟩ => ⟨_, _, he, ?_, rfl, hE⟩
    have h2 := (h.cut (tl p).length (by simp) h1).ext hE
    rw [← nz_take, ← tl_prefix, h0] at h2
    rw [h0]; exact h2
end Go.Proofs.YthmhmkkcjlgbjaaGreatDoor
/- schismaref03: above, plus, minus -/
namespace Go.Proofs.YthmhmkkcjlgbjaaGreatDoor
open Go.RowKit Go.Sort
set_option maxRecDepth 100000 in
set_option maxHeartbeats 1000000 in
theorem above_w {w : World} {va vb : Value} {u v : Nat} (hA : DgR w va (pc u)) (hB : DgR w vb (pc v)) (l1 : (pc u).length ≤ LIM) (l2 : (pc v).length ≤ LIM) :
    Calls Tryz.prog 105 #[va, vb] w fun e w' => e = .returned (.int .i64 (cmpN u v)) ∧ Ext w w' := by
  obtain ⟨ga, b1, o1, c1, rfl, k1, h1⟩ := hA.open
  obtain ⟨gb, b2, o2, c2, rfl, k2, h2⟩ := hB.open
  have m1 : (pc u).length ≤ 1000000000000 := l1
  have m2 : (pc v).length ≤ 1000000000000 := l2
  clear hA hB k1 k2
  rcases Nat.lt_trichotomy (pc u).length (pc v).length with hl | hl | hl
  · have hlt := pc_len_lt hl
    have hr : cmpN u v = -1 := by unfold cmpN; rw [if_pos hlt]
    rw [hr]
    clear h1 h2 l1 l2 hr hlt
    generalize (pc u).length = a at *
    generalize (pc v).length = b at *
    have t1 : ((a : Int) != (b : Int)) = true := by rw [bne_iff_ne]; omega
    have t2 : ((a : Int) < (b : Int)) := by omega
    go_enter Tryz.func105, Tryz.ntmps105
    go_wp2
    go_ret
    exact ⟨rfl, Ext.refl _⟩
  · have H1 := Lib.hid h1
    have H2 := Lib.hid h2
    have HL := Lib.hid hl
    rw [← hl]
    clear h1 h2 l1 l2 hl m2
    generalize hLu : (pc u).length = L at *
    have HLu := Lib.hid hLu
    clear hLu
    go_enter Tryz.func105, Tryz.ntmps105
    go_wp2
    go_loopw [5] (fun i wr => ∃ k : Nat, k ≤ L ∧ i = .int .i64 ((k : Int) - 1) ∧ Hid (u / 1000000000 ^ k = v / 1000000000 ^ k) ∧ Ext w wr) (fun i _ => (intOf i + 1).toNat)
    case atStart =>
      refine ⟨L, Nat.le_refl _, by go_num, ?_, Ext.refl _⟩
      have e1 := vP_lt (pc_small u); rw [vP_pc, HLu.out] at e1
      have e2 := vP_lt (pc_small v); rw [vP_pc, ← HL.out] at e2
      unfold Hid
      rw [Nat.div_eq_of_lt e1, Nat.div_eq_of_lt e2]
    case round =>
      obtain ⟨k, hk, rfl, He, hE⟩ := hrel
      rcases Nat.eq_zero_or_pos k with rfl | hk0
      · go_wp2
        go_ret
        have := He.out
        simp at this
        subst this
        exact ⟨ret_val (by unfold cmpN; rw [if_neg (by omega), if_neg (by omega)]; rfl), hE⟩
      · obtain ⟨i, rfl⟩ : ∃ i, k = i + 1 := ⟨k - 1, by omega⟩
        have hkz : ((i + 1 : Nat) : Int) - 1 = (i : Int) := by omega
        rw [hkz]
        have hi1 : i < (pc u).length := by rw [HLu.out]; omega
        have hi2 : i < (pc v).length := by rw [← HL.out]; omega
        have hiL : i < L := by omega
        obtain rfl := H1.out.addr (by simp; omega)
        obtain rfl := H2.out.addr (by simp; omega)
        obtain ⟨P, hP⟩ : ∃ P, P = (pc u)[i] := ⟨_, rfl⟩
        obtain ⟨Q, hQ⟩ : ∃ Q, Q = (pc v)[i] := ⟨_, rfl⟩
        have d1 : wr.cell? ⟨b1, o1 + i, none⟩ = some (.int .i64 (P : Nat)) := by rw [hP]; exact hE.cell (H1.out.cell i _ (nz_get hi1))
        have d2 : wr.cell? ⟨b2, o2 + i, none⟩ = some (.int .i64 (Q : Nat)) := by rw [hQ]; exact hE.cell (H2.out.cell i _ (nz_get hi2))
        have s1 := div_step u i
        have s2 := div_step v i
        rw [← pc_get i u hi1, ← hP] at s1
        rw [← pc_get i v hi2, ← hQ] at s2
        have e0 := He.out
        have hfin : (P < Q → u < v) ∧ (Q < P → v < u) ∧ (P = Q → u / 1000000000 ^ i = v / 1000000000 ^ i) :=
          ⟨fun h => lt_of_div (P := 1000000000 ^ i) (by omega), fun h => lt_of_div (P := 1000000000 ^ i) (by omega), fun h => by omega⟩
        have Hfin := Lib.hid hfin
        clear hkz hk0 hP hQ s1 s2 e0 hfin hi1 hi2 He
        rcases Nat.lt_trichotomy P Q with hlt | heq | hgt
        · have t1 : (P : Int) < (Q : Int) := by omega
          go_wp2
          go_quiet (fail)
          go_wp2
          go_ret
          exact ⟨ret_val (by unfold cmpN; rw [if_pos (Hfin.out.1 hlt)]; rfl), hE.drewN _⟩
        · subst heq
          have H3 := Lib.hid (Hfin.out.2.2 rfl)
          clear Hfin
          go_wp2
          go_quiet (fail)
          go_wp2
          go_quiet (fail)
          go_wp2
          go_roundw
          case rel => exact ⟨i, by omega, by go_num, H3, hE.drewN _⟩
          case measure => simp [intOf] <;> omega
        · have t1 : (Q : Int) < (P : Int) := by omega
          have t2 : ¬ (P : Int) < (Q : Int) := by omega
          go_wp2
          go_quiet (fail)
          go_wp2
          go_quiet (fail)
          go_wp2
          go_ret
          exact ⟨ret_val (by unfold cmpN; rw [if_neg (by have := Hfin.out.2.1 hgt; omega), if_pos (Hfin.out.2.1 hgt)]; rfl), (hE.drewN _).drewN _⟩
  · have hlt := pc_len_lt hl
    have hr : cmpN u v = 1 := by unfold cmpN; rw [if_neg (by omega), if_pos hlt]
    rw [hr]
    clear h1 h2 l1 l2 hr hlt
    generalize (pc u).length = a at *
    generalize (pc v).length = b at *
    have t1 : ((a : Int) != (b : Int)) = true := by rw [bne_iff_ne]; omega
    have t2 : ¬ ((a : Int) < (b : Int)) := by omega
    go_enter Tryz.func105, Tryz.ntmps105
    go_wp2
    go_ret
    exact ⟨rfl, Ext.refl _⟩
/-- New digits of a number. -/
def DgO (B : Nat) (w : World) (v : Value) (u : Nat) : Prop := ∃ p, small9 p ∧ vP p = u ∧ p.length ≤ 1000000000 ∧ RowV B w v (nz p)
theorem vP_snoc (p : List Nat) (d : Nat) : vP (p ++ [d]) = vP p + 1000000000 ^ p.length * d := by
  rw [vP_append]; simp [vP]
theorem nz_snoc (p : List Nat) (d : Nat) : nz (p ++ [d]) = nz p ++ [(d : Int)] := by simp [nz]
theorem small9_snoc {p : List Nat} {d : Nat} (h : small9 p) (hd : d < 1000000000) : small9 (p ++ [d]) := by
  intro x hx
  rcases List.mem_append.1 hx with hx | hx
  · exact h x hx
  · rw [List.mem_singleton.1 hx]; exact hd
theorem vP_take_gt (q : List Nat) (k : Nat) (h : q.length ≤ k) : vP (q.take (k + 1)) = vP (q.take k) := by
  rw [List.take_of_length_le (by omega), List.take_of_length_le h]
theorem vP_take_d (q : List Nat) (k : Nat) : vP (q.take (k + 1)) = vP (q.take k) + 1000000000 ^ k * q.getD k 0 := by
  rcases Nat.lt_or_ge k q.length with h | h
  · rw [List.take_succ_eq_append_getElem h, vP_snoc, getD_get h, List.length_take, Nat.min_eq_left (by omega)]
  · rw [vP_take_gt q k h, List.getD_eq_getElem?_getD, List.getElem?_eq_none h]; simp
theorem getD_small {p : List Nat} (h : small9 p) (i : Nat) : p.getD i 0 < 1000000000 := by
  rcases Nat.lt_or_ge i p.length with h' | h'
  · rw [getD_get h']; exact small9_get h h'
  · rw [List.getD_eq_getElem?_getD, List.getElem?_eq_none h']; simp
theorem plus_step {o c P a b x y : Nat} (h : o + c * P = a + b) : o + P * ((c + x + y) % 1000000000) + (c + x + y) / 1000000000 * (P * 1000000000) = a + P * x + (b + P * y) := by
  have h1 := Nat.div_add_mod (c + x + y) 1000000000
  have h2 : P * ((c + x + y) % 1000000000) + (c + x + y) / 1000000000 * (P * 1000000000) = P * (c + x + y) := by
    conv => rhs; rw [← h1]
    rw [Nat.mul_add, Nat.mul_comm ((c + x + y) / 1000000000), Nat.mul_assoc, Nat.add_comm]
  rw [Nat.add_assoc, h2, Nat.mul_add, Nat.mul_add, Nat.mul_comm P c]
  omega
set_option maxRecDepth 100000 in
set_option maxHeartbeats 2000000 in
theorem plus_w {w : World} {va vb : Value} {p q : List Nat} (hA : DgR w va p) (hB : DgR w vb q) (s1 : small9 p) (s2 : small9 q) (l1 : p.length ≤ 900000000) (l2 : q.length ≤ 900000000) :
    Calls Tryz.prog 109 #[va, vb] w fun e w' => ∃ v, e = .returned v ∧ DgO w.heap.size w' v (vP p + vP q) ∧ Ext w w' := by
  obtain ⟨ga, b1, o1, c1, rfl, k1, h1⟩ := hA.open
  obtain ⟨gb, b2, o2, c2, rfl, k2, h2⟩ := hB.open
  have H1 := Lib.hid h1
  have H2 := Lib.hid h2
  have S1 := Lib.hid s1
  have S2 := Lib.hid s2
  clear hA hB k1 k2 h1 h2 s1 s2
  obtain ⟨la, hla⟩ : ∃ la, la = p.length := ⟨_, rfl⟩
  obtain ⟨lb, hlb⟩ : ∃ lb, lb = q.length := ⟨_, rfl⟩
  rw [← hla] at l1 ⊢
  rw [← hlb] at l2 ⊢
  have Ha := Lib.hid hla
  have Hb := Lib.hid hlb
  clear hla hlb
  go_enter Tryz.func109, Tryz.ntmps109
  go_wp2_with fail
  go_loopw [5, 6, 7] (fun out cy idx wr => ∃ (i c : Nat) (o : List Nat), i ≤ max la lb + 1 ∧ (max la lb < i → c = 0) ∧ idx = .int .i64 i ∧ cy = .int .i64 c ∧ c ≤ 1 ∧ Hid (o.length = i ∧ small9 o ∧ vP o + c * 1000000000 ^ i = vP (p.take i) + vP (q.take i)) ∧ Hid (RowV w.heap.size wr out (nz o)) ∧ Ext w wr) (fun _ _ idx _ => max la lb + 1 - (intOf idx).toNat)
  case atStart => exact ⟨0, 0, [], by omega, fun _ => rfl, by go_num, by go_num, by omega, ⟨rfl, (fun d hd => by cases hd), by simp [vP]⟩, Lib.hid (RowV.nil _ _), Ext.refl _⟩
  case round =>
    obtain ⟨i, c, o, hi, hc0, rfl, rfl, hc1, Ho, hO, hE⟩ := hrel
    generalize wr = X at *
    have hci : ((c : Nat) : Int) ≤ 1 := by omega
    have hXs := hE.size
    by_cases hgo : i < la ∨ i < lb ∨ 0 < c
    · have him : i ≤ max la lb := by omega
      obtain ⟨x, hx⟩ : ∃ x, x = p.getD i 0 := ⟨_, rfl⟩
      obtain ⟨y, hy⟩ : ∃ y, y = q.getD i 0 := ⟨_, rfl⟩
      have hx9 : x < 1000000000 := by rw [hx]; exact getD_small S1.out i
      have hy9 : y < 1000000000 := by rw [hy]; exact getD_small S2.out i
      have hcx : i < la → ∃ g, ga = some g ∧ g = ⟨b1, o1, none⟩ ∧ X.cell? ⟨b1, o1 + i, none⟩ = some (.int .i64 (x : Nat)) := fun h => by
        have hp : i < p.length := by rw [← Ha.out]; exact h
        refine ⟨_, H1.out.addr (by simp; omega), rfl, ?_⟩
        rw [hx, getD_get hp]; exact hE.cell (H1.out.cell i _ (nz_get hp))
      have hcy : i < lb → ∃ g, gb = some g ∧ g = ⟨b2, o2, none⟩ ∧ X.cell? ⟨b2, o2 + i, none⟩ = some (.int .i64 (y : Nat)) := fun h => by
        have hp : i < q.length := by rw [← Hb.out]; exact h
        refine ⟨_, H2.out.addr (by simp; omega), rfl, ?_⟩
        rw [hy, getD_get hp]; exact hE.cell (H2.out.cell i _ (nz_get hp))
      have hx0 : ¬ i < la → x = 0 := fun h => by rw [hx, List.getD_eq_getElem?_getD, List.getElem?_eq_none (by rw [← Ha.out]; omega)]; rfl
      have hy0 : ¬ i < lb → y = 0 := fun h => by rw [hy, List.getD_eq_getElem?_getD, List.getElem?_eq_none (by rw [← Hb.out]; omega)]; rfl
      obtain ⟨d, hd⟩ : ∃ d, d = (c + x + y) % 1000000000 := ⟨_, rfl⟩
      obtain ⟨c', hc'⟩ : ∃ c', c' = (c + x + y) / 1000000000 := ⟨_, rfl⟩
      have hd9 : d < 1000000000 := by omega
      have hstep : vP (o ++ [d]) + c' * 1000000000 ^ (i + 1) = vP (p.take (i + 1)) + vP (q.take (i + 1)) := by
        rw [vP_take_d, vP_take_d, vP_snoc, Ho.out.1, ← hx, ← hy, hd, hc', Nat.pow_succ]
        exact plus_step Ho.out.2.2
      have Hst : Hid ((o ++ [d]).length = i + 1 ∧ small9 (o ++ [d]) ∧ vP (o ++ [d]) + c' * 1000000000 ^ (i + 1) = vP (p.take (i + 1)) + vP (q.take (i + 1))) :=
        ⟨by rw [List.length_append, Ho.out.1]; rfl, small9_snoc Ho.out.2.1 hd9, hstep⟩
      have hc'1 : c' ≤ 1 := by omega
      have hc'0 : max la lb < i + 1 → c' = 0 := fun h => by have := hx0 (by omega); have := hy0 (by omega); omega
      have Hol := Lib.hid Ho.out.1
      have Hol2 := Lib.hid (show (nz o).length ≤ 1000000000 by rw [nz_length, Hol.out]; omega)
      have Hz := Lib.hid (nz_snoc o d)
      by_cases hA : i < la
      · by_cases hB : i < lb
        · skip
          obtain ⟨_, rfl, rfl, cx⟩ := hcx hA
          have a1 : (i : Int) < (la : Int) := by omega
          have a2 : decide (i < la) = true := decide_eq_true hA
          obtain ⟨_, rfl, rfl, cy⟩ := hcy hB
          have b3 : (i : Int) < (lb : Int) := by omega
          have b4 : decide (i < lb) = true := decide_eq_true hB
          have hdI : ((c : Int) + (x : Int) + (y : Int)) % 1000000000 = (d : Int) := by omega
          have hcI : ((c : Int) + (x : Int) + (y : Int)) / 1000000000 = (c' : Int) := by omega
          clear hcx hcy hx0 hy0 hgo hx hy hd hc' hstep hc0
          go_wp2_with (at_builtin; refine app_int rfl _ _ 34 Tryz.underlying34 rfl rfl (hO.out.ext ((Ext.refl _).alloc _)) rfl (b := X.heap.size) (z := (d : Int)) (by go_simp) Hol2.out (by simp; omega) ?_; intro gg cap2 w8 hO8 hB8 hG8; rw [← Hz.out, nz_length, Hol.out] at hO8; rw [nz_length, Hol.out])
          have hE8 : Ext w w8 := Below.trans (hE.alloc (.cells #[.int .i64 (d : Int)] 3)) hB8
          have hO9 := Lib.hid hO8
          clear hG8 hB8 hO8
          go_wp2_with fail
          go_roundw
          case rel => exact ⟨i + 1, c', o ++ [d], by omega, hc'0, by go_num, by go_num, hc'1, Hst, hO9, hE8⟩
          case measure => simp [intOf] <;> omega
        · skip
          obtain ⟨_, rfl, rfl, cx⟩ := hcx hA
          have a1 : (i : Int) < (la : Int) := by omega
          have a2 : decide (i < la) = true := decide_eq_true hA
          have hy1 := hy0 hB
          have b3 : ¬ (i : Int) < (lb : Int) := by omega
          have b4 : decide (i < lb) = false := decide_eq_false hB
          have hdI : ((c : Int) + (x : Int)) % 1000000000 = (d : Int) := by omega
          have hcI : ((c : Int) + (x : Int)) / 1000000000 = (c' : Int) := by omega
          clear hcx hcy hx0 hy0 hgo hx hy hd hc' hstep hc0
          go_wp2_with (at_builtin; refine app_int rfl _ _ 34 Tryz.underlying34 rfl rfl (hO.out.ext ((Ext.refl _).alloc _)) rfl (b := X.heap.size) (z := (d : Int)) (by go_simp) Hol2.out (by simp; omega) ?_; intro gg cap2 w8 hO8 hB8 hG8; rw [← Hz.out, nz_length, Hol.out] at hO8; rw [nz_length, Hol.out])
          have hE8 : Ext w w8 := Below.trans (hE.alloc (.cells #[.int .i64 (d : Int)] 3)) hB8
          have hO9 := Lib.hid hO8
          clear hG8 hB8 hO8
          go_wp2_with fail
          go_roundw
          case rel => exact ⟨i + 1, c', o ++ [d], by omega, hc'0, by go_num, by go_num, hc'1, Hst, hO9, hE8⟩
          case measure => simp [intOf] <;> omega
      · by_cases hB : i < lb
        · skip
          have hx1 := hx0 hA
          have a1 : ¬ (i : Int) < (la : Int) := by omega
          have a2 : decide (i < la) = false := decide_eq_false hA
          obtain ⟨_, rfl, rfl, cy⟩ := hcy hB
          have b3 : (i : Int) < (lb : Int) := by omega
          have b4 : decide (i < lb) = true := decide_eq_true hB
          have hdI : ((c : Int) + (y : Int)) % 1000000000 = (d : Int) := by omega
          have hcI : ((c : Int) + (y : Int)) / 1000000000 = (c' : Int) := by omega
          clear hcx hcy hx0 hy0 hgo hx hy hd hc' hstep hc0
          go_wp2_with (at_builtin; refine app_int rfl _ _ 34 Tryz.underlying34 rfl rfl (hO.out.ext ((Ext.refl _).alloc _)) rfl (b := X.heap.size) (z := (d : Int)) (by go_simp) Hol2.out (by simp; omega) ?_; intro gg cap2 w8 hO8 hB8 hG8; rw [← Hz.out, nz_length, Hol.out] at hO8; rw [nz_length, Hol.out])
          have hE8 : Ext w w8 := Below.trans (hE.alloc (.cells #[.int .i64 (d : Int)] 3)) hB8
          have hO9 := Lib.hid hO8
          clear hG8 hB8 hO8
          go_wp2_with fail
          go_roundw
          case rel => exact ⟨i + 1, c', o ++ [d], by omega, hc'0, by go_num, by go_num, hc'1, Hst, hO9, hE8⟩
          case measure => simp [intOf] <;> omega
        · skip
          have hx1 := hx0 hA
          have a1 : ¬ (i : Int) < (la : Int) := by omega
          have a2 : decide (i < la) = false := decide_eq_false hA
          have hy1 := hy0 hB
          have b3 : ¬ (i : Int) < (lb : Int) := by omega
          have b4 : decide (i < lb) = false := decide_eq_false hB
          have hc2 : c = 1 := by omega
          subst hc2
          have hd1 : d = 1 := by omega
          have hc3 : c' = 0 := by omega
          subst hd1 hc3
          clear hcx hcy hx0 hy0 hgo hx hy hd hc' hstep hc0
          go_wp2_with (at_builtin; refine app_int rfl _ _ 34 Tryz.underlying34 rfl rfl (hO.out.ext ((Ext.refl _).alloc _)) rfl (b := X.heap.size) (z := ((1 : Nat) : Int)) (by go_simp) Hol2.out (by simp; omega) ?_; intro gg cap2 w8 hO8 hB8 hG8; rw [← Hz.out, nz_length, Hol.out] at hO8; rw [nz_length, Hol.out])
          have hE8 : Ext w w8 := Below.trans (hE.alloc (.cells #[.int .i64 ((1 : Nat) : Int)] 3)) hB8
          have hO9 := Lib.hid hO8
          clear hG8 hB8 hO8
          go_wp2_with fail
          go_roundw
          case rel => exact ⟨i + 1, 0, o ++ [1], by omega, hc'0, by go_num, by go_num, hc'1, Hst, hO9, hE8⟩
          case measure => simp [intOf] <;> omega
    · have hia : ¬ i < la := fun h => hgo (.inl h)
      have hib : ¬ i < lb := fun h => hgo (.inr (.inl h))
      have hic : c = 0 := by omega
      subst hic
      have a1 : ¬ (i : Int) < (la : Int) := by omega
      have a2 : decide (i < la) = false := decide_eq_false hia
      have b3 : ¬ (i : Int) < (lb : Int) := by omega
      have b4 : decide (i < lb) = false := decide_eq_false hib
      have hv : vP o = vP p + vP q := by
        have := Ho.out.2.2
        rw [List.take_of_length_le (by rw [← Ha.out]; omega), List.take_of_length_le (by rw [← Hb.out]; omega)] at this
        omega
      have Hv := Lib.hid hv
      clear hv hgo hc0
      go_wp2_with fail
      go_ret
      exact ⟨_, rfl, ⟨o, Ho.out.2.1, Hv.out, by rw [Ho.out.1]; omega, hO.out⟩, hE⟩
end Go.Proofs.YthmhmkkcjlgbjaaGreatDoor
