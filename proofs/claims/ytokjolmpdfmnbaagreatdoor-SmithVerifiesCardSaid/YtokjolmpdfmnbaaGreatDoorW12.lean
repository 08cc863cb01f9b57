/- Part 12 of the proof of the claim: contracts of the functions that it reaches, and plain laws; no condition. -/
import Derived.Test.YtokjolmpdfmnbaaGreatDoorW11
import Derived.Test.YtokjolmpdfmnbaaGreatDoorW03
namespace Go.Proofs.YtokjolmpdfmnbaaGreatDoor
open Go.RowKit Go.Sort
def grt (z : Int) : Bool := decide (1000000000 < z ∨ z < -1000000000)
theorem great_any (z : Int) (w : World) : Calls Tryz.prog 114 #[.int .i64 z] w fun e w' => e = .returned (.bool (grt z)) ∧ Ext w w' := by
  by_cases h1 : 1000000000 < z
  · have hg : grt z = true := decide_eq_true (.inl h1)
    rw [hg]; clear hg
    go_enter Tryz.func114, Tryz.ntmps114
    go_wp2
    go_ret
    exact ⟨rfl, Ext.refl _⟩
  · have h2 : z ≤ 1000000000 := by omega
    by_cases h3 : z < -1000000000
    · have hg : grt z = true := decide_eq_true (.inr h3)
      rw [hg]; clear hg
      go_enter Tryz.func114, Tryz.ntmps114
      go_wp2
      go_ret
      exact ⟨rfl, Ext.refl _⟩
    · have h4 : -1000000000 ≤ z := by omega
      have hg : grt z = false := decide_eq_false (by omega)
      rw [hg]; clear hg
      go_enter Tryz.func114, Tryz.ntmps114
      go_wp2
      go_ret
      exact ⟨rfl, Ext.refl _⟩
def chkR (c : Nat) (r : List Int) : Int := if 12 < r.length then 4 else if r.length ≠ c then 5 else if r.any grt then 4 else 0
def chk (c : Nat) : Mx → Int
  | [] => 0
  | r :: M => if chkR c r = 0 then chk c M else chkR c r
def checkM (M : Mx) : Int := if 12 < M.length then 4 else chk (M.getD 0 []).length M
theorem chk_at (c : Nat) : ∀ (M : Mx) (i : Nat) (h : i < M.length), (∀ j (hj : j < i), chkR c (M[j]'(by omega)) = 0) → chkR c M[i] ≠ 0 → chk c M = chkR c M[i]
  | [], _, h, _, _ => by simp at h
  | r :: M, 0, _, _, hne => by simp only [List.getElem_cons_zero] at hne ⊢; rw [chk, if_neg hne]
  | r :: M, i + 1, h, hz, hne => by
    rw [chk, if_pos (show chkR c r = 0 from hz 0 (by omega))]
    exact chk_at c M i (by simpa using h) (fun j hj => hz (j + 1) (by omega)) hne
theorem chk_all (c : Nat) : ∀ (M : Mx), (∀ j (hj : j < M.length), chkR c M[j] = 0) → chk c M = 0
  | [], _ => rfl
  | r :: M, hz => by
    rw [chk, if_pos (show chkR c r = 0 from hz 0 (by simp))]
    exact chk_all c M (fun j hj => hz (j + 1) (by simpa using hj))
theorem chk_ok {c : Nat} : ∀ {M : Mx}, chk c M = 0 → ∀ r ∈ M, chkR c r = 0
  | [], _, r, hr => by cases hr
  | r :: M, h, x, hx => by
    rw [chk] at h
    split at h
    · rcases List.mem_cons.1 hx with rfl | hx
      · assumption
      · exact chk_ok h x hx
    · exact absurd h ‹_›
theorem chkR_ok {c : Nat} {r : List Int} (h : chkR c r = 0) : r.length ≤ 12 ∧ r.length = c ∧ ∀ z ∈ r, -1000000000 ≤ z ∧ z ≤ 1000000000 := by
  unfold chkR at h
  split at h
  · cases h
  · split at h
    · cases h
    · split at h
      · cases h
      · rename_i h1 h2 h3
        refine ⟨by omega, by omega, fun z hz => ?_⟩
        have : grt z = false := by
          cases hg : grt z
          · rfl
          · exact absurd (List.any_eq_true.2 ⟨z, hz, hg⟩) h3
        unfold grt at this
        have := of_decide_eq_false this
        omega
def ncols (M : Mx) : Nat := (M.getD 0 []).length
theorem checkM_ok {M : Mx} (h : checkM M = 0) : M.length ≤ 12 ∧ ncols M ≤ 12 ∧ Rect (ncols M) M ∧ ∀ r ∈ M, ∀ z ∈ r, -1000000000 ≤ z ∧ z ≤ 1000000000 := by
  unfold checkM at h
  split at h
  · cases h
  · have hr := fun r hr => chkR_ok (chk_ok h r hr)
    refine ⟨by omega, ?_, fun r h' => (hr r h').2.1, fun r h' => (hr r h').2.2⟩
    cases M with
    | nil => simp [ncols]
    | cons r M => exact (hr r (by simp)).1
theorem any_grt (r : List Int) : anyB (fun i => grt (r.getD i 0)) r.length = r.any grt := by
  cases h : r.any grt
  · refine anyB_no fun i hi => ?_
    rw [getD_get hi]
    cases hg : grt r[i]
    · rfl
    · rw [List.any_eq_true.2 ⟨_, List.getElem_mem hi, hg⟩] at h; cases h
  · obtain ⟨z, hz, hg⟩ := List.any_eq_true.1 h
    obtain ⟨i, hi, rfl⟩ := List.getElem_of_mem hz
    exact anyB_iff.2 ⟨i, hi, by rw [getD_get hi]; exact hg⟩
set_option maxRecDepth 100000 in
set_option maxHeartbeats 1000000 in
theorem tableCheck_any {w : World} {v : Value} {M : Mx} (hM : MatR w v M) :
    Calls Tryz.prog 59 #[v] w fun e w' => e = .returned (.int .i64 (checkM M)) ∧ Ext w w' := by
  obtain ⟨sa, gb, go, cap, vs, rfl, hcap, hvl, hS, hr⟩ := hM
  by_cases hbig : 12 < M.length
  · have hbi : (12 : Int) < (M.length : Int) := by omega
    have he : checkM M = 4 := by unfold checkM; rw [if_pos hbig]
    rw [he]
    clear he hS hr hvl
    go_enter Tryz.func59, Tryz.ntmps59
    go_wp2_with fail
    go_ret
    exact ⟨rfl, Ext.refl _⟩
  have he : checkM M = chk (M.getD 0 []).length M := by unfold checkM; rw [if_neg hbig]
  rw [he]
  have hml : M.length ≤ 12 := by omega
  have hmi : (M.length : Int) ≤ 12 := by omega
  have HS := Lib.hid hS
  have HV := Lib.hid hvl
  have HR := Lib.hid hr
  clear hS hvl hr he hbig
  go_enter Tryz.func59, Tryz.ntmps59
  go_wp2_with fail
  go_loopw [10] (fun idx wr => ∃ i : Nat, i ≤ M.length ∧ idx = .int .i64 i ∧ Hid (∀ j (h : j < M.length), j < i → chkR (M.getD 0 []).length M[j] = 0) ∧ Ext w wr) (fun idx _ => M.length - (intOf idx).toNat)
  case atStart => exact ⟨0, by omega, by go_num, Lib.hid (fun j _ h => by omega), Ext.refl _⟩
  case round =>
    obtain ⟨i, hi, rfl, Hz, hE⟩ := hrel
    generalize wr = X at *
    by_cases hlt : i < M.length
    · have hii : (i : Int) < (M.length : Int) := by omega
      have hi0 : 0 < M.length := by omega
      obtain rfl := HS.out.addr (by rw [HV.out]; omega)
      obtain ⟨sr, br, or, cr, hrow, hrc, hSr⟩ := MatR.row HS.out HV.out HR.out hlt
      obtain ⟨s0, b0, o0, c0, hrow0, hrc0, hS0⟩ := MatR.row HS.out HV.out HR.out hi0
      have hrow' := hE.cell hrow
      have hrow0' := hE.cell hrow0
      rw [Nat.add_zero] at hrow0'
      obtain ⟨c, hc⟩ : ∃ c, c = (M.getD 0 []).length := ⟨_, rfl⟩
      have hc0 : M[0].length = c := by rw [hc, getD_get hi0]
      rw [hc0] at hrow0'
      obtain ⟨n, hn⟩ : ∃ n, n = M[i].length := ⟨_, rfl⟩
      rw [← hn] at hrow'
      have HC := Lib.hid hc
      have Hn := Lib.hid hn
      have hat : chkR c M[i] ≠ 0 → chk (M.getD 0 []).length M = chkR c M[i] := fun h => by
        rw [hc]
        exact chk_at _ M i hlt (fun j hj => Hz.out j (by omega) hj) (by rw [← hc]; exact h)
      have Hat := Lib.hid hat
      clear hrow hrow0 hrc0 hS0 hc hc0 hn hat
      by_cases h12 : 12 < n
      · have h12i : (12 : Int) < (n : Int) := by omega
        have hch : chkR c M[i] = 4 := by unfold chkR; rw [← Hn.out, if_pos h12]
        have Hch := Lib.hid hch
        clear hch
        go_wp2_with fail
        go_ret
        exact ⟨by rw [Hat.out (by rw [Hch.out]; decide), Hch.out]; rfl, hE⟩
      · have h12i : (n : Int) ≤ 12 := by omega
        have h12d : decide ((12 : Int) < (n : Int)) = false := decide_eq_false (by omega)
        by_cases hnc : n = c
        · subst hnc
          have hgr := Lib.hid (contains_great (cap := cr) (p := fun k => grt (M[i].getD k 0)) (vs := is M[i]) (w := X) ((hSr.ext hE)) (by rw [is_length, ← Hn.out]; omega) (fun k hk W hW => by
            have hk' : k < M[i].length := by simpa using hk
            have e : (is M[i])[k] = .int .i64 M[i][k] := by simp [is]
            rw [e, getD_get hk']
            exact great_any M[i][k] W))
          rw [is_length, any_grt, ← Hn.out] at hgr
          cases hg : M[i].any grt
          · rw [hg] at hgr
            have Hg := Lib.hid hg
            clear hg h12
            go_wp2_with fail
            refine hgr.out.mono ?_
            rintro e W ⟨rfl, hW⟩
            go_wp2_with fail
            go_roundw
            case rel => exact ⟨i + 1, by omega, by go_num, Lib.hid (fun j h hj => by
              by_cases e : j = i
              · subst e; rw [← HC.out]; unfold chkR; rw [← Hn.out, if_neg (by omega), if_neg (by omega), Hg.out]; rfl
              · exact Hz.out j h (by omega)), hE.trans hW⟩
            case measure => simp [intOf] <;> omega
          · rw [hg] at hgr
            have hch : chkR n M[i] = 4 := by unfold chkR; rw [← Hn.out, if_neg (by omega), if_neg (by omega), hg]; rfl
            have Hch := Lib.hid hch
            clear hg h12 hch
            go_wp2_with fail
            refine hgr.out.mono ?_
            rintro e W ⟨rfl, hW⟩
            go_wp2_with fail
            go_ret
            exact ⟨by rw [Hat.out (by rw [Hch.out]; decide), Hch.out]; rfl, hE.trans hW⟩
        · have hch : chkR c M[i] = 5 := by unfold chkR; rw [← Hn.out, if_neg h12, if_pos hnc]
          have Hch := Lib.hid hch
          have hnb : ((n : Int) == (c : Int)) = false := beq_eq_false_iff_ne.2 (by omega)
          have hnb2 : ((n : Int) != (c : Int)) = true := by simp [bne, hnb]
          have hnc' : ¬ (n : Int) = (c : Int) := by omega
          clear hch hnc h12
          go_wp2_with fail
          go_ret
          exact ⟨by rw [Hat.out (by rw [Hch.out]; decide), Hch.out]; rfl, hE⟩
    · have Hch := Lib.hid (chk_all (M.getD 0 []).length M (fun j h => Hz.out j h (by omega)))
      go_wp2_with fail
      go_ret
      exact ⟨by rw [Hch.out]; rfl, hE⟩
end Go.Proofs.YtokjolmpdfmnbaaGreatDoor
namespace Go.Proofs.YtokjolmpdfmnbaaGreatDoor
open Go.RowKit Go.Sort
theorem Tryz.infoInt : (Tryz.prog.info? 3).map (fun i => (i.zero, i.size, i.bytes)) = some (some (.int .i64 0), 1, 8) := by kernel_rfl
def smallB (l : List Int) : Bool := l.all fun z => !grt z
theorem smallB_iff {l : List Int} : smallB l = true ↔ ∀ z ∈ l, -1000000000 ≤ z ∧ z ≤ 1000000000 := by
  unfold smallB
  rw [List.all_eq_true]
  constructor
  · intro h z hz
    have := h z hz
    unfold grt at this
    simp only [Bool.not_eq_true', decide_eq_false_iff_not] at this
    omega
  · intro h z hz
    have := h z hz
    unfold grt
    simp only [Bool.not_eq_true', decide_eq_false_iff_not]
    omega
def RowO (B : Nat) (w : World) (v : Value) (r : List Int) : Prop := ∃ g cap, v = slv g r.length cap ∧ OwnV 3 B w g cap (is r)
theorem RowO.row {B : Nat} {w : World} {v : Value} {r : List Int} (h : RowO B w v r) : RowR w v r := by
  obtain ⟨g, cap, e, ho⟩ := h
  have := ho.cap
  rw [is_length] at this
  exact ⟨_, g, 0, cap, e, this, ho.sl⟩
theorem RowO.ext {B : Nat} {w w' : World} {v : Value} {r : List Int} (h : RowO B w v r) (he : Ext w w') : RowO B w' v r := by
  obtain ⟨g, cap, e, ho⟩ := h; exact ⟨g, cap, e, ho.ext he⟩
theorem small_not {l : List Int} {i : Nat} (h : i < l.length) (hg : grt l[i] = true) : smallB l = false := by
  cases hs : smallB l
  · rfl
  · have := smallB_iff.1 hs _ (List.getElem_mem h)
    unfold grt at hg
    have := of_decide_eq_true hg
    omega
theorem small_yes {l : List Int} (h : ∀ j (hj : j < l.length), grt l[j] = false) : smallB l = true := by
  refine smallB_iff.2 fun z hz => ?_
  obtain ⟨j, hj, rfl⟩ := List.getElem_of_mem hz
  have := h j hj
  unfold grt at this
  have := of_decide_eq_false this
  omega
end Go.Proofs.YtokjolmpdfmnbaaGreatDoor
namespace Go.Proofs.YtokjolmpdfmnbaaGreatDoor
open Go.RowKit Go.Sort
theorem Tryz.infoRow : (Tryz.prog.info? 32).map (fun i => (i.zero, i.size, i.bytes)) = some (some (.slice none 0 0), 1, 24) := by kernel_rfl
def RowV (B : Nat) (w : World) (v : Value) (r : List Int) : Prop := w.ownsRow B 3 1 v r.length (is r)
theorem RowV.nil (B : Nat) (w : World) : RowV B w (.slice none 0 0) [] := ⟨rfl, .inl ⟨rfl, rfl⟩⟩
theorem RowV.ext {B : Nat} {w w' : World} {v : Value} {r : List Int} (h : RowV B w v r) (he : Ext w w') : RowV B w' v r := ownsRow_ext h he
theorem ownsRow_mono {w : World} {B B' : Nat} {e : TypeId} {size n : Nat} {v : Value} {xs : List Value} (h : w.ownsRow B e size v n xs) (hB : B' ≤ B) : w.ownsRow B' e size v n xs := by
  refine ⟨h.1, ?_⟩
  rcases h.2 with h' | ⟨g', cap', cur, h', hB', r⟩
  · exact .inl h'
  · exact .inr ⟨g', cap', cur, h', by omega, r⟩
theorem RowV.mono {B B' : Nat} {w : World} {v : Value} {r : List Int} (h : RowV B w v r) (hB : B' ≤ B) : RowV B' w v r := ownsRow_mono h hB
theorem RowO.v {B : Nat} {w : World} {v : Value} {r : List Int} (h : RowO B w v r) : RowV B w v r := by
  obtain ⟨g, cap, rfl, ho⟩ := h
  unfold RowV; have := ho; unfold OwnV at this; rw [is_length] at this; exact this
theorem RowV.row {B : Nat} {w : World} {v : Value} {r : List Int} (h : RowV B w v r) : RowR w v r := by
  rcases h.2 with ⟨rfl, h0⟩ | ⟨g, cap, cur, rfl, hb, hg, hn, hm, hs, ht⟩
  · have : r = [] := by cases r with
      | nil => rfl
      | cons => simp at h0
    subst this
    exact ⟨none, 0, 0, 0, rfl, Nat.le_refl _, Sl.nil _ _ _ _⟩
  · have ho : OwnV 3 B w g cap (is r) := by unfold OwnV; rw [is_length]; exact h
    exact ⟨_, g, 0, cap, rfl, hn, ho.sl⟩
theorem own_ne {B B' : Nat} {w : World} {T T' : TypeId} {size size' n n' : Nat} {u v : Value} {xs ys : List Value} (h : w.ownsRow B T size u n xs) (h' : w.ownsRow B' T' size' v n' ys) (hT : T ≠ T') {g : Nat} (hg : u.ownBlock = some g) : v.ownBlock ≠ some g := by
  intro e
  rcases h.2 with ⟨rfl, _⟩ | ⟨g1, cap, cur, rfl, _, hg1, _⟩
  · cases hg
  · rcases h'.2 with ⟨rfl, _⟩ | ⟨g2, cap2, cur2, rfl, _, hg2, _⟩
    · cases e
    · injection hg with hg; injection e with e
      subst hg; subst e
      rw [hg1] at hg2
      injection hg2 with hg2
      injection hg2 with _ h3
      exact hT h3
theorem own_kept {B B' : Nat} {w w' : World} {T T' : TypeId} {size size' n n' : Nat} {u v : Value} {xs ys : List Value} (h : w.ownsRow B T size u n xs) (h' : w.ownsRow B' T' size' v n' ys) (hT : T ≠ T') (hg : w.grownBy w' v.ownBlock) : w'.ownsRow B T size u n xs := by
  refine World.ownsRow.kept h hg ?_
  cases hu : u.ownBlock with
  | none => exact .inl rfl
  | some g => exact .inr (fun e => own_ne h h' hT hu e.symm)
theorem is_snoc (r : List Int) (z : Int) : is (r ++ [z]) = is r ++ [.int .i64 z] := by simp only [is, List.map_append, List.map_cons, List.map_nil]
section
variable {w : World} {ops : Array Oper} {rest : List Oper} {o : Oper} {a : Act} {Q : Exit → Act → World → Prop}
theorem app_int (hgd : o.guard = none) (s x : Operand) (t : TypeId) (ht : Tryz.prog.underlying t = some (.slice 3)) (ho : o.op = .call { callee := .builtin .append, args := #[s, x], argTypes := #[t, t] })
    {B : Nat} {v : Value} {r : List Int} (hs : a.eval s = v) (hown : RowV B w v r) {b : Nat} {z : Int} (hx : a.eval x = .slice (some ⟨b, 0, none⟩) 1 1) (hc : w.cell? ⟨b, 0, none⟩ = some (.int .i64 z)) (hl : r.length ≤ 1000000000) (hB : B ≤ w.heap.size)
    (h : ∀ g cap w', RowV B w' (slv g (r.length + 1) cap) (r ++ [z]) → Below B w w' → w.grownBy w' v.ownBlock → wpList Tryz.prog ops Q rest (a.put o.dst (slv g (r.length + 1) cap)) w') : wpList Tryz.prog ops Q (o :: rest) a w := by
  obtain ⟨i0, hi, hz0, hz1, hz2⟩ := info_parts Tryz.infoInt
  refine wpList_append_lies w hgd s x t ho B 3 i0 _ 1 8 ht hi hz0 hz1 hz2 rfl (by omega) v r.length (is r) hs hown ⟨b, 0, none⟩ 1 1 [.int .i64 z] hx rfl ?_ (one_int _ _) (by omega) (by unfold maxLen; omega) (by omega) hB w.heap.size rfl ?_
  · intro j u hj
    have : j = 0 := by have := (List.getElem?_eq_some_iff.1 hj).1; simp at this; omega
    subst this
    simp only [List.getElem?_cons_zero, Option.some.injEq] at hj
    subst hj
    simpa [Addr.add_lit] using hc
  · intro g cap w' h1 h2 h3 h4
    refine h g cap w' ?_ (Below.grown (Below.refl _ _) h2 hB (fun q hq => (World.ownsRow.lt hown q hq).1)) h2
    unfold RowV
    rw [is_snoc, List.length_append]; exact h1
def MatO (B : Nat) (w : World) (v : Value) (F : Mx) : Prop := ∃ vs, vs.length = F.length ∧ w.ownsRow B 32 1 v F.length vs ∧ ∀ t (_ : t < F.length) (h' : t < vs.length), RowV B w vs[t] F[t]
theorem MatO.nil (B : Nat) (w : World) : MatO B w (.slice none 0 0) [] := ⟨[], rfl, ⟨rfl, .inl ⟨rfl, rfl⟩⟩, fun t h => by simp at h⟩
theorem MatO.ext {B : Nat} {w w' : World} {v : Value} {F : Mx} (h : MatO B w v F) (he : Ext w w') : MatO B w' v F := by
  obtain ⟨vs, h1, h2, h3⟩ := h
  exact ⟨vs, h1, ownsRow_ext h2 he, fun t a b => (h3 t a b).ext he⟩
theorem MatO.mono {B B' : Nat} {w : World} {v : Value} {F : Mx} (h : MatO B w v F) (hB : B' ≤ B) : MatO B' w v F := by
  obtain ⟨vs, h1, h2, h3⟩ := h
  exact ⟨vs, h1, ownsRow_mono h2 hB, fun t a b => (h3 t a b).mono hB⟩
theorem MatO.mat {B : Nat} {w : World} {v : Value} {F : Mx} (h : MatO B w v F) : MatR w v F := by
  obtain ⟨vs, h1, h2, h3⟩ := h
  have hr : ∀ i (h : i < F.length) (h' : i < vs.length), RowR w vs[i] F[i] := fun i a b => (h3 i a b).row
  rcases h2.2 with ⟨rfl, h0⟩ | ⟨g, cap, cur, rfl, hb, hg, hn, hm, hs, ht⟩
  · have : F = [] := List.eq_nil_of_length_eq_zero h0
    subst this
    have hv : vs = [] := List.eq_nil_of_length_eq_zero h1
    subst hv
    exact ⟨none, 0, 0, 0, [], rfl, Nat.le_refl _, rfl, Sl.nil _ _ _ _, hr⟩
  · have ho : OwnV 32 B w g cap vs := by unfold OwnV; rw [h1]; exact h2
    exact ⟨_, g, 0, cap, vs, rfl, hn, h1, ho.sl, hr⟩
theorem RowV.one {B : Nat} {w : World} {v : Value} {r : List Int} (h : RowV B w v r) : v.oneCell' = true := by
  rcases h.2 with ⟨rfl, _⟩ | ⟨g, cap, cur, rfl, _⟩ <;> rfl
theorem app_mat (hgd : o.guard = none) (s x : Operand) (ho : o.op = .call { callee := .builtin .append, args := #[s, x], argTypes := #[29, 29] })
    {B : Nat} {v rv : Value} {F : Mx} {r : List Int} (hs : a.eval s = v) (hown : MatO B w v F) {b : Nat} (hx : a.eval x = .slice (some ⟨b, 0, none⟩) 1 1) (hc : w.cell? ⟨b, 0, none⟩ = some rv) (hr : RowV B w rv r) (hl : F.length ≤ 1000000000) (hB : B ≤ w.heap.size)
    (h : ∀ g cap w', MatO B w' (slv g (F.length + 1) cap) (F ++ [r]) → Below B w w' → w.grownBy w' v.ownBlock → wpList Tryz.prog ops Q rest (a.put o.dst (slv g (F.length + 1) cap)) w') : wpList Tryz.prog ops Q (o :: rest) a w := by
  obtain ⟨i0, hi, hz0, hz1, hz2⟩ := info_parts Tryz.infoRow
  obtain ⟨vs, h1, h2, h3⟩ := hown
  refine wpList_append_lies w hgd s x 29 ho B 32 i0 _ 1 24 Tryz.underlying29 hi hz0 hz1 hz2 rfl (by omega) v F.length vs hs h2 ⟨b, 0, none⟩ 1 1 [rv] hx rfl ?_ ?_ (by omega) (by unfold maxLen; omega) (by omega) hB w.heap.size rfl ?_
  · intro j u hj
    have : j = 0 := by have := (List.getElem?_eq_some_iff.1 hj).1; simp at this; omega
    subst this
    simp only [List.getElem?_cons_zero, Option.some.injEq] at hj
    subst hj
    simpa [Addr.add_lit] using hc
  · intro u hu
    simp only [List.mem_cons, List.not_mem_nil, or_false] at hu
    subst hu; exact hr.one
  · intro g cap w' k1 k2 k3 k4
    have hkeep : ∀ {u : Value} {l : List Int}, RowV B w u l → RowV B w' u l := fun hu => own_kept hu h2 (by decide) k2
    refine h g cap w' ⟨vs ++ [rv], by simp [h1], ?_, fun t ht ht' => ?_⟩ (Below.grown (Below.refl _ _) k2 hB (fun q hq => (World.ownsRow.lt h2 q hq).1)) k2
    · rw [List.length_append]; exact k1
    · rcases Nat.lt_or_ge t F.length with hlt | hge
      · rw [List.getElem_append_left (by omega), List.getElem_append_left hlt]
        exact hkeep (h3 t hlt (by omega))
      · have hte : t = F.length := by simp at ht; omega
        subst hte
        rw [List.getElem_append_right (by omega), List.getElem_append_right (by omega)]
        simp only [h1, Nat.sub_self, List.getElem_cons_zero]
        exact hkeep hr
end
end Go.Proofs.YtokjolmpdfmnbaaGreatDoor
namespace Go.Proofs.YtokjolmpdfmnbaaGreatDoor
open Go.RowKit Go.Sort
def hdX (n : Nat) (ad : List (Nat × Nat)) : List Value := ad.map fun a => slv a.1 n a.2
@[simp] theorem hdX_length (n : Nat) (ad : List (Nat × Nat)) : (hdX n ad).length = ad.length := by simp [hdX]
theorem hdX_get (n : Nat) {ad : List (Nat × Nat)} {i : Nat} (h : i < ad.length) (h' : i < (hdX n ad).length) : (hdX n ad)[i] = slv ad[i].1 n ad[i].2 := by simp [hdX]
structure MatX (B : Nat) (w : World) (v : Value) (n : Nat) (F : Mx) (ad : List (Nat × Nat)) : Prop where
  len : ad.length = F.length
  rect : Rect n F
  own : w.ownsRow B 32 1 v F.length (hdX n ad)
  row : ∀ i (h : i < F.length) (h' : i < ad.length), OwnV 3 B w ad[i].1 ad[i].2 (is F[i])
  dis : ∀ i j (hi : i < ad.length) (hj : j < ad.length), i < j → ad[i].1 ≠ ad[j].1
theorem MatX.nil (B : Nat) (w : World) (n : Nat) : MatX B w (.slice none 0 0) n [] [] :=
  ⟨rfl, (fun r h => by cases h), ⟨rfl, .inl ⟨rfl, rfl⟩⟩, (fun i h => by simp at h), (fun i j h => by simp at h)⟩
theorem MatX.ext {B : Nat} {w w' : World} {v : Value} {n : Nat} {F : Mx} {ad : List (Nat × Nat)} (h : MatX B w v n F ad) (he : Ext w w') : MatX B w' v n F ad :=
  ⟨h.len, h.rect, ownsRow_ext h.own he, fun i a b => (h.row i a b).ext he, h.dis⟩
theorem ownV_row {B : Nat} {w : World} {g cap n : Nat} {r : List Int} (h : OwnV 3 B w g cap (is r)) (hn : r.length = n) : RowV B w (slv g n cap) r := by
  subst hn
  unfold RowV
  unfold OwnV at h
  rw [is_length] at h
  exact h
theorem row_ownV {B : Nat} {w : World} {g cap n : Nat} {r : List Int} (h : RowV B w (slv g n cap) r) (hn : r.length = n) : OwnV 3 B w g cap (is r) := by
  subst hn
  unfold RowV at h
  unfold OwnV
  rw [is_length]
  exact h
theorem MatX.mato {B : Nat} {w : World} {v : Value} {n : Nat} {F : Mx} {ad : List (Nat × Nat)} (h : MatX B w v n F ad) : MatO B w v F := by
  refine ⟨hdX n ad, by rw [hdX_length]; exact h.len, h.own, fun t ht ht' => ?_⟩
  have ha : t < ad.length := by rw [h.len]; exact ht
  rw [hdX_get n ha]
  exact ownV_row (h.row t ht ha) (h.rect _ (List.getElem_mem ht))
theorem MatX.lt {B : Nat} {w : World} {v : Value} {n : Nat} {F : Mx} {ad : List (Nat × Nat)} (h : MatX B w v n F ad) : ∀ a ∈ ad, a.1 < w.heap.size := by
  intro a ha
  obtain ⟨i, hi, rfl⟩ := List.getElem_of_mem ha
  exact (h.row i (by rw [← h.len]; exact hi) hi).lt.2
theorem heap_new (w : World) (o : Obj) : (w.alloc o).heap[w.heap.size]? = some o := by
  show (w.heap.push o)[w.heap.size]? = some o
  simp
theorem row_empty {w : World} {g : Nat} (h : w.heap[g]? = some (.cells #[] 3 (0, 0))) {B : Nat} (hB : B ≤ g) : RowV B w (.slice (some ⟨g, 0, none⟩) 0 0) [] :=
  ⟨rfl, .inr ⟨g, 0, #[], rfl, hB, h, Nat.le_refl _, Nat.zero_le _, rfl, rfl⟩⟩
theorem zero_row {B n g : Nat} {w : World} (h : w.ownsRow B 3 1 (.slice (some ⟨g, 0, none⟩) n n) n (madeCells (Value.int .i64 0).cells (n * 1)).toList) : RowV B w (.slice (some ⟨g, 0, none⟩) n n) (List.replicate n 0) := by
  unfold RowV
  have e : (madeCells (Value.int .i64 0).cells (n * 1)).toList = is (List.replicate n 0) := by
    rw [show (Value.int .i64 0).cells = #[.int .i64 0] from rfl, toList_madeCells_one, Nat.mul_one]; simp [is]
  rw [List.length_replicate, ← e]
  exact h
section
variable {w : World} {ops : Array Oper} {rest : List Oper} {o : Oper} {a : Act} {Q : Exit → Act → World → Prop}
theorem app_matX (hgd : o.guard = none) (s x : Operand) (ho : o.op = .call { callee := .builtin .append, args := #[s, x], argTypes := #[29, 29] })
    {B n : Nat} {v : Value} {F : Mx} {r : List Int} {ad : List (Nat × Nat)} {g0 c0 : Nat} (hs : a.eval s = v) (hown : MatX B w v n F ad) {b : Nat} (hx : a.eval x = .slice (some ⟨b, 0, none⟩) 1 1) (hc : w.cell? ⟨b, 0, none⟩ = some (slv g0 n c0)) (hr : OwnV 3 B w g0 c0 (is r)) (hrl : r.length = n) (hnew : ∀ a ∈ ad, a.1 ≠ g0) (hl : F.length ≤ 1000000000) (hB : B ≤ w.heap.size)
    (h : ∀ g cap w', MatX B w' (slv g (F.length + 1) cap) n (F ++ [r]) (ad ++ [(g0, c0)]) → Below B w w' → w.grownBy w' v.ownBlock → wpList Tryz.prog ops Q rest (a.put o.dst (slv g (F.length + 1) cap)) w') : wpList Tryz.prog ops Q (o :: rest) a w := by
  obtain ⟨i0, hi, hz0, hz1, hz2⟩ := info_parts Tryz.infoRow
  obtain ⟨hlen, hrect, h2, h3, hdis⟩ := hown
  refine wpList_append_lies w hgd s x 29 ho B 32 i0 _ 1 24 Tryz.underlying29 hi hz0 hz1 hz2 rfl (by omega) v F.length (hdX n ad) hs h2 ⟨b, 0, none⟩ 1 1 [slv g0 n c0] hx rfl ?_ ?_ (by omega) (by unfold maxLen; omega) (by omega) hB w.heap.size rfl ?_
  · intro j u hj
    have : j = 0 := by have := (List.getElem?_eq_some_iff.1 hj).1; simp at this; omega
    subst this
    simp only [List.getElem?_cons_zero, Option.some.injEq] at hj
    subst hj
    simpa [Addr.add_lit] using hc
  · intro u hu
    simp only [List.mem_cons, List.not_mem_nil, or_false] at hu
    subst hu; rfl
  · intro g cap w' k1 k2 k3 k4
    have hkeep : ∀ {u cu : Nat} {l : List Int}, OwnV 3 B w u cu (is l) → OwnV 3 B w' u cu (is l) := fun {u cu l} hu => by
      have h5 : RowV B w (slv u l.length cu) l := ownV_row hu rfl
      have h6 : RowV B w' (slv u l.length cu) l := own_kept h5 h2 (by decide) k2
      unfold RowV at h6
      unfold OwnV
      rw [is_length]; exact h6
    refine h g cap w' ⟨by simp [hlen], fun y hy => ?_, ?_, fun i hi1 hi2 => ?_, fun i j hi1 hj1 hij => ?_⟩ (Below.grown (Below.refl _ _) k2 hB (fun q hq => (World.ownsRow.lt h2 q hq).1)) k2
    · rcases List.mem_append.1 hy with hy | hy
      · exact hrect y hy
      · rw [List.mem_singleton.1 hy]; exact hrl
    · rw [List.length_append, show hdX n (ad ++ [(g0, c0)]) = hdX n ad ++ [slv g0 n c0] by simp [hdX]]; exact k1
    · rcases Nat.lt_or_ge i F.length with hlt | hge
      · simp only [List.getElem_append_left hlt, List.getElem_append_left (show i < ad.length by omega)]
        exact hkeep (h3 i hlt (by omega))
      · have hie : i = F.length := by simp at hi1; omega
        subst hie
        simp only [List.getElem_append_right (Nat.le_refl F.length), List.getElem_append_right (show ad.length ≤ F.length by omega), hlen, Nat.sub_self, List.getElem_cons_zero]
        exact hkeep hr
    · rw [List.length_append, List.length_singleton] at hi1 hj1
      rw [List.getElem_append_left (show i < ad.length by omega)]
      rcases Nat.lt_or_ge j ad.length with hlt | hge
      · rw [List.getElem_append_left hlt]
        exact hdis i j (by omega) hlt hij
      · have hje : j = ad.length := by omega
        subst hje
        rw [List.getElem_append_right (Nat.le_refl _)]
        simp only [Nat.sub_self, List.getElem_cons_zero]
        exact hnew _ (List.getElem_mem _)
end
theorem MatX.two {B : Nat} {w w' : World} {g cap n : Nat} {a b a' b' : List Int} {rest : Mx} {ad : List (Nat × Nat)} {a0 a1 : Nat × Nat} (h : MatX B w (slv g (rest.length + 2) cap) n (a :: b :: rest) (a0 :: a1 :: ad))
    (hC : Chg (fun k => k = a0.1 ∨ k = a1.1) w w') (h0 : OwnV 3 B w' a0.1 a0.2 (is a')) (h1 : OwnV 3 B w' a1.1 a1.2 (is b')) (l0 : a'.length = n) (l1 : b'.length = n) : MatX B w' (slv g (rest.length + 2) cap) n (a' :: b' :: rest) (a0 :: a1 :: ad) := by
  have hg0 : g ≠ a0.1 := fun e => by
    have := own_ne (ownV_row (n := n) (h.row 0 (by simp) (by simp)) (h.rect a (by simp))) h.own (by decide) (g := a0.1) rfl
    exact this (by rw [e]; rfl)
  have hg1 : g ≠ a1.1 := fun e => by
    have := own_ne (ownV_row (n := n) (h.row 1 (by simp) (by simp)) (h.rect b (by simp))) h.own (by decide) (g := a1.1) rfl
    exact this (by rw [e]; rfl)
  have hOw : OwnV 32 B w g cap (hdX n (a0 :: a1 :: ad)) := by
    unfold OwnV
    have hl := h.len
    rw [hdX_length, hl]; exact h.own
  have hOw' := hC.own (fun hk => by rcases hk with hk | hk; exact hg0 hk; exact hg1 hk) hOw
  refine ⟨h.len, fun r hr => ?_, ?_, fun i hi hi' => ?_, h.dis⟩
  · simp only [List.mem_cons] at hr
    rcases hr with rfl | rfl | hr
    · exact l0
    · exact l1
    · exact h.rect r (by simp [hr])
  · unfold OwnV at hOw'
    have hl := h.len
    simp only [List.length_cons] at hl ⊢
    rw [hdX_length] at hOw'
    simp only [List.length_cons, hl] at hOw'
    exact hOw'
  · match i, hi, hi' with
    | 0, _, _ => exact h0
    | 1, _, _ => exact h1
    | i + 2, hi, hi' =>
      have d0 := h.dis 0 (i + 2) (by simp) hi' (by omega)
      have d1 := h.dis 1 (i + 2) (by simp) hi' (by omega)
      simp only [List.length_cons] at hi
      have := h.row (i + 2) (by simp; omega) hi'
      exact hC.own (fun hk => by rcases hk with hk | hk; exact d0 hk.symm; exact d1 hk.symm) this
end Go.Proofs.YtokjolmpdfmnbaaGreatDoor
namespace Go.Proofs.YtokjolmpdfmnbaaGreatDoor
open Go.RowKit Go.Sort
def IntsV (B : Nat) (w : World) (v : Value) (l : List Int) : Prop := w.ownsRow B 94 1 v l.length (ss l)
theorem IntsV.nil (B : Nat) (w : World) : IntsV B w (.slice none 0 0) [] := ⟨rfl, .inl ⟨rfl, rfl⟩⟩
theorem IntsV.ext {B : Nat} {w w' : World} {v : Value} {l : List Int} (h : IntsV B w v l) (he : Ext w w') : IntsV B w' v l := ownsRow_ext h he
theorem IntsV.mono {B B' : Nat} {w : World} {v : Value} {l : List Int} (h : IntsV B w v l) (hB : B' ≤ B) : IntsV B' w v l := ownsRow_mono h hB
theorem IntsV.sl {B : Nat} {w : World} {v : Value} {l : List Int} (h : IntsV B w v l) : ∃ ga gb cap, v = .slice ga l.length cap ∧ l.length ≤ cap ∧ Sl w ga gb 0 (ss l) := by
  rcases h.2 with ⟨rfl, h0⟩ | ⟨g, cap, cur, rfl, hb, hg, hn, hm, hs, ht⟩
  · have : l = [] := List.eq_nil_of_length_eq_zero h0
    subst this
    exact ⟨none, 0, 0, rfl, Nat.le_refl _, Sl.nil _ _ _ _⟩
  · have ho : OwnV 94 B w g cap (ss l) := by unfold OwnV; rw [ss_length]; exact h
    exact ⟨_, g, cap, rfl, hn, ho.sl⟩
theorem ss_snoc (l : List Int) (z : Int) : ss (l ++ [z]) = ss l ++ [I z] := by simp only [ss, List.map_append, List.map_cons, List.map_nil]
theorem OwnV.ints {B : Nat} {w : World} {g cap : Nat} {l : List Int} (h : OwnV 94 B w g cap (ss l)) : IntsV B w (slv g l.length cap) l := by
  unfold IntsV; unfold OwnV at h; rw [ss_length] at h; exact h
section
variable {w : World} {ops : Array Oper} {rest : List Oper} {o : Oper} {a : Act} {Q : Exit → Act → World → Prop}
theorem app_ints (hgd : o.guard = none) (s x : Operand) (ho : o.op = .call { callee := .builtin .append, args := #[s, x], argTypes := #[99, 99] })
    {B : Nat} {v : Value} {r : List Int} (hs : a.eval s = v) (hown : IntsV B w v r) {b : Nat} {z : Int} (hx : a.eval x = .slice (some ⟨b, 0, none⟩) 1 1) (hc : w.cell? ⟨b, 0, none⟩ = some (I z)) (hl : r.length ≤ 1000000000) (hB : B ≤ w.heap.size)
    (h : ∀ g cap w', IntsV B w' (slv g (r.length + 1) cap) (r ++ [z]) → Below B w w' → w.grownBy w' v.ownBlock → wpList Tryz.prog ops Q rest (a.put o.dst (slv g (r.length + 1) cap)) w') : wpList Tryz.prog ops Q (o :: rest) a w := by
  obtain ⟨i0, hi, hz0, hz1, hz2⟩ := info_parts Tryz.infoStr
  refine wpList_append_lies w hgd s x 99 ho B 94 i0 _ 1 16 Tryz.underlying99 hi hz0 hz1 hz2 rfl (by omega) v r.length (ss r) hs hown ⟨b, 0, none⟩ 1 1 [I z] hx rfl ?_ (one_str _) (by omega) (by unfold maxLen; omega) (by omega) hB w.heap.size rfl ?_
  · intro j u hj
    have : j = 0 := by have := (List.getElem?_eq_some_iff.1 hj).1; simp at this; omega
    subst this
    simp only [List.getElem?_cons_zero, Option.some.injEq] at hj
    subst hj
    simpa [Addr.add_lit] using hc
  · intro g cap w' h1 h2 h3 h4
    refine h g cap w' ?_ (Below.grown (Below.refl _ _) h2 hB (fun q hq => (World.ownsRow.lt hown q hq).1)) h2
    unfold IntsV
    rw [ss_snoc, List.length_append]; exact h1
end
theorem xv_slice (n g c : Nat) : ∃ a l k, xv n g c = .slice a l k := by
  unfold xv; split <;> exact ⟨_, _, _, rfl⟩
end Go.Proofs.YtokjolmpdfmnbaaGreatDoor
namespace Go.Proofs.YtokjolmpdfmnbaaGreatDoor
open Go.RowKit Go.Sort
open Hnf (V Span Ech Red)
def smallM (F : Mx) : Bool := F.all smallB
theorem hnf_nil {M : Mx} (hM : Rect 0 M) : HnfOf 0 M [] := by
  refine ⟨⟨[], fun r hr => by (cases hr), rfl, fun i h => by simp at h, fun i k _ h => by simp at h, fun i h => by simp at h, fun i h => by simp at h, fun i k _ h => by simp at h⟩, fun v hv => by simp [latM] at hv, fun v hv => ?_⟩
  obtain ⟨r, hr, rfl⟩ := List.mem_map.1 hv
  have : r = [] := List.eq_nil_of_length_eq_zero (hM r hr)
  subst this
  have e : vr [] = fun _ => 0 := by funext j; simp [vr]
  rw [e]; exact .zero
theorem fRows_get {d : Nat} {ls : List Ln} {i : Nat} (hi : i < d) (hd : d ≤ ls.length) (h : i < (fRows d ls).length) : (fRows d ls)[i] = (ls.getD i default).1 := by
  simp only [fRows, List.getElem_map, List.getElem_take, getD_get (show i < ls.length by omega)]
theorem fRows_length {d : Nat} {ls : List Ln} (hd : d ≤ ls.length) : (fRows d ls).length = d := by unfold fRows; simp; omega
theorem Sl.ext' {w w' : World} {ga : Option Addr} {gb go : Nat} {xs : List Value} (h : Sl w ga gb go xs) (he : Ext w w') : Sl w' ga gb go xs := h.ext he
theorem smallM_not {F : Mx} {i : Nat} (h : i < F.length) (hs : smallB F[i] = false) : smallM F = false := by
  cases hm : smallM F
  · rfl
  · have := List.all_eq_true.1 hm _ (List.getElem_mem h)
    rw [this] at hs; cases hs
theorem smallM_yes {F : Mx} (h : ∀ j (hj : j < F.length), smallB F[j] = true) : smallM F = true := by
  refine List.all_eq_true.2 fun r hr => ?_
  obtain ⟨j, hj, rfl⟩ := List.getElem_of_mem hr
  exact h j hj
end Go.Proofs.YtokjolmpdfmnbaaGreatDoor
