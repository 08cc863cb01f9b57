/- Part 20 of the proof of the claim: contracts of the functions that it reaches, and plain laws; no condition. -/
import Derived.Test.YtokjolmpdfmnbaaGreatDoorV18
import Derived.Test.YtokjolmpdfmnbaaGreatDoorV19
import Derived.Test.YtokjolmpdfmnbaaGreatDoorV14
namespace Go.Proofs.YtokjolmpdfmnbaaGreatDoor
open Hnf
theorem wps_at {ps : List Nat} {F : Mx} (hl : ps.length = F.length) {g : Nat × V} (h : g ∈ wps ps F) : ∃ i, i < F.length ∧ g.1 = ps.getD i 0 ∧ g.2 = vr (F.getD i []) := by
  unfold wps at h
  obtain ⟨x, hx, rfl⟩ := List.mem_map.1 h
  obtain ⟨i, hi, rfl⟩ := List.getElem_of_mem hx
  simp only [List.length_zip] at hi
  refine ⟨i, by omega, ?_, ?_⟩
  · rw [getD_get (by omega)]; simp
  · rw [getD_get (by omega)]; simp
theorem IsH.lead {m p : Nat} {qs : List Nat} {K : Mx} (hI : IsH m qs K) {v : V} (hs : Span (latM K) v) (hv : v p ≠ 0) (h0 : ∀ i, i < p → v i = 0) : ∃ i, i < K.length ∧ qs.getD i 0 = p ∧ eM K i p ∣ v p := by
  rw [← wps_rows hI.len] at hs
  obtain ⟨g, hg, hp, hd⟩ := hI.ech.lead hs hv h0
  obtain ⟨i, hi, h1, h2⟩ := wps_at hI.len hg
  exact ⟨i, hi, by rw [← h1, hp], by rw [h2] at hd; exact hd⟩
theorem IsH.inj {m i k : Nat} {qs : List Nat} {K : Mx} (hI : IsH m qs K) (hi : i < K.length) (hk : k < K.length) (h : qs.getD i 0 = qs.getD k 0) : i = k := by
  rcases Nat.lt_trichotomy i k with h1 | h1 | h1
  · have := hI.inc i k h1 hk; omega
  · exact h1
  · have := hI.inc k i h1 hi; omega
def two (a b : Int) : V := fun k => if k = 0 then a else if k = 1 then b else 0
end Go.Proofs.YtokjolmpdfmnbaaGreatDoor
namespace Go.Proofs.YtokjolmpdfmnbaaGreatDoor
open Hnf
def T3 (m : Nat → Nat → Int) (y : Nat → Int) (j : Nat) : Int := y 0 * m 0 j + y 1 * m 1 j + y 2 * m 2 j
def v3 (a b c : Int) : Nat → Int := fun i => if i = 0 then a else if i = 1 then b else if i = 2 then c else 0
end Go.Proofs.YtokjolmpdfmnbaaGreatDoor
namespace Go.Proofs.YtokjolmpdfmnbaaGreatDoor
open Go.RowKit Go.Sort
def RdO (B : Nat) (w0 w : World) (v : Value) (F : Mx) : Prop := ∃ vs, vs.length = F.length ∧ w.ownsRow B 99 1 v F.length vs ∧ ∀ t (_ : t < F.length) (h' : t < vs.length), IntsR w0 vs[t] F[t]
theorem RdO.nil (B : Nat) (w0 w : World) : RdO B w0 w (.slice none 0 0) [] := ⟨[], rfl, ⟨rfl, .inl ⟨rfl, rfl⟩⟩, fun t h => by simp at h⟩
theorem RdO.ext {B : Nat} {w0 w w' : World} {v : Value} {F : Mx} (h : RdO B w0 w v F) (he : Ext w w') : RdO B w0 w' v F := by
  obtain ⟨vs, h1, h2, h3⟩ := h
  exact ⟨vs, h1, ownsRow_ext h2 he, h3⟩
theorem RdO.grid {B : Nat} {w0 w : World} {v : Value} {F : Mx} (h : RdO B w0 w v F) (he : Ext w0 w) : GridR w v F := by
  obtain ⟨vs, h1, h2, h3⟩ := h
  rcases h2.2 with ⟨rfl, h0⟩ | ⟨g, cap, cur, rfl, hb, hg, hn, hm, hs, ht⟩
  · have hF : F = [] := List.eq_nil_of_length_eq_zero h0
    subst hF
    exact ⟨none, 0, 0, 0, [], rfl, Nat.le_refl _, rfl, Sl.nil _ _ _ _, fun i h => by simp at h⟩
  · have hO : OwnV 99 B w g cap vs := by unfold OwnV; rw [h1]; exact h2
    exact ⟨_, g, 0, cap, vs, rfl, hn, h1, hO.sl, fun i a b => (h3 i a b).ext he⟩
section
variable {w : World} {ops : Array Oper} {rest : List Oper} {o : Oper} {a : Act} {Q : Exit → Act → World → Prop}
theorem app_rd (hgd : o.guard = none) (s x : Operand) (ho : o.op = .call { callee := .builtin .append, args := #[s, x], argTypes := #[90, 90] })
    {B : Nat} {w0 : World} {v rv : Value} {F : Mx} {r : List Int} (hs : a.eval s = v) (hown : RdO B w0 w v F) {b : Nat} (hx : a.eval x = .slice (some ⟨b, 0, none⟩) 1 1) (hc : w.cell? ⟨b, 0, none⟩ = some rv) (hr : IntsR w0 rv r) (hl : F.length ≤ 1000000000) (hB : B ≤ w.heap.size)
    (h : ∀ g cap w', RdO B w0 w' (slv g (F.length + 1) cap) (F ++ [r]) → Below B w w' → w.grownBy w' v.ownBlock → wpList Tryz.prog ops Q rest (a.put o.dst (slv g (F.length + 1) cap)) w') : wpList Tryz.prog ops Q (o :: rest) a w := by
  obtain ⟨i0, hi, hz0, hz1, hz2⟩ := info_parts Tryz.infoInts
  obtain ⟨vs, h1, h2, h3⟩ := hown
  refine wpList_append_lies w hgd s x 90 ho B 99 i0 _ 1 24 Tryz.underlying90 hi hz0 hz1 hz2 rfl (by omega) v F.length vs hs h2 ⟨b, 0, none⟩ 1 1 [rv] hx rfl ?_ ?_ (by omega) (by unfold maxLen; omega) (by omega) hB w.heap.size rfl ?_
  · intro j u hj
    have : j = 0 := by have := (List.getElem?_eq_some_iff.1 hj).1; simp at this; omega
    subst this
    simp only [List.getElem?_cons_zero, Option.some.injEq] at hj
    subst hj
    simpa [Addr.add_lit] using hc
  · intro u hu
    simp only [List.mem_cons, List.not_mem_nil, or_false] at hu
    subst hu
    obtain ⟨sa, gb, go, cap, rfl, _⟩ := hr
    rfl
  · intro g cap w' k1 k2 k3 k4
    refine h g cap w' ⟨vs ++ [rv], by simp [h1], ?_, fun t ht ht' => ?_⟩ (Below.grown (Below.refl _ _) k2 hB (fun q hq => (World.ownsRow.lt h2 q hq).1)) k2
    · rw [List.length_append]; exact k1
    · rcases Nat.lt_or_ge t F.length with hlt | hge
      · simp only [List.getElem_append_left hlt, List.getElem_append_left (show t < vs.length by omega)]
        exact h3 t hlt (by omega)
      · have hte : t = F.length := by simp at ht; omega
        subst hte
        simp only [List.getElem_append_right (Nat.le_refl F.length), List.getElem_append_right (show vs.length ≤ F.length by omega), h1, Nat.sub_self, List.getElem_cons_zero]
        exact hr
end
theorem Sl.drop {w : World} {gb go c : Nat} {ga ga' : Option Addr} {xs : List Value} (h : Sl w ga gb go xs) (ha : ga' = some ⟨gb, go + c, none⟩) : Sl w ga' gb (go + c) (xs.drop c) :=
  ⟨fun _ => ha, fun i x hx => by
    rw [List.getElem?_drop] at hx
    have := h.cell (c + i) x hx
    rwa [← Nat.add_assoc] at this⟩
theorem ss_drop (l : List Int) (c : Nat) : (ss l).drop c = ss (l.drop c) := by simp [ss, List.map_drop]
theorem krn_step {c i : Nat} {H : Mx} (h : i < H.length) : krn c (H.take (i + 1)) = if pv H[i] < c then krn c (H.take i) else krn c (H.take i) ++ [H[i].drop c] := by
  unfold krn low
  rw [take_snocM h, List.filter_append]
  by_cases hp : pv H[i] < c
  · rw [if_pos hp, List.filter_cons_of_neg (by simp [hp])]; simp
  · rw [if_neg hp, List.filter_cons_of_pos (by simp [hp])]; simp
theorem krn_len (c i : Nat) (H : Mx) : (krn c (H.take i)).length ≤ i := by
  unfold krn low
  rw [List.length_map]
  exact Nat.le_trans (List.length_filter_le _ _) (by simp; omega)
set_option maxRecDepth 100000 in
set_option maxHeartbeats 1000000 in
theorem kernel_any {w : World} {v : Value} {H : Mx} {c m : Nat} (hH : GridR w v H) (hR : Rect (c + m) H) (hm : 0 < m) (hl : H.length ≤ 1000000) (hn : c + m ≤ 1000000) :
    Calls Tryz.prog 89 #[v, .int .i64 c] w fun e w' => ∃ v', e = .returned v' ∧ GridR w' v' (krn c H) ∧ Ext w w' := by
  obtain ⟨sa, gb, go, cap, vs, rfl, hcap, hvl, hS, hr⟩ := hH
  have HS := Lib.hid hS
  have HV := Lib.hid hvl
  have HR := Lib.hid hr
  have HRt := Lib.hid hR
  clear hS hvl hr hR
  go_enter Tryz.func89, Tryz.ntmps89
  go_wp2_with fail
  go_loopw [5, 10] (fun out idx wr => ∃ i : Nat, i ≤ H.length ∧ idx = .int .i64 i ∧ Hid (RdO w.heap.size w wr out (krn c (H.take i))) ∧ Ext w wr) (fun _ idx _ => H.length - (intOf idx).toNat)
  case atStart => exact ⟨0, by omega, by go_num, Lib.hid (RdO.nil _ _ _), Ext.refl _⟩
  case round =>
    obtain ⟨i, hi', rfl, hV, hE⟩ := hrel
    generalize wr = X at *
    by_cases hlt : i < H.length
    · have hii : (i : Int) < (H.length : Int) := by omega
      obtain rfl := HS.out.addr (by rw [HV.out]; omega)
      obtain ⟨sr, br, or, cr, hrow, hrc, hSr⟩ := GridR.row HS.out HV.out HR.out hlt
      have hrl : H[i].length = c + m := HRt.out _ (List.getElem_mem hlt)
      have hstep := krn_step (c := c) hlt
      obtain ⟨r, hr⟩ : ∃ r, r = H[i] := ⟨_, rfl⟩
      rw [← hr] at hrow hrc hSr hrl hstep
      rw [hrl] at hrow hrc
      have hrow' := hE.cell hrow
      obtain rfl := hSr.addr (by simp; omega)
      have HSr := Lib.hid hSr
      have hld := Lib.hid (slead_any (w := X) (cap := cr) (hSr.ext hE) (by omega))
      rw [hrl] at hld
      have hcr : (c : Int) ≤ ((c + m : Nat) : Int) := by omega
      have hcr2 : (c : Int) ≤ (cr : Int) := by omega
      have Hrl := Lib.hid hrl
      have Hkl := Lib.hid (krn_len c i H)
      have hcast : ((c + m : Nat) : Int) = (c : Int) + (m : Int) := by omega
      have Hrc := Lib.hid hrc
      have hcrne : ¬ cr = c := by omega
      have hcr3 : ¬ (cr - c = 0) := by omega
      clear hr hrow hrc hSr hrl
      obtain ⟨p, hp⟩ : ∃ p, p = pv r := ⟨_, rfl⟩
      rw [← hp] at hstep hld
      by_cases hpc : p < c
      · have hpi : ¬ (c : Int) ≤ (p : Int) := by omega
        rw [if_pos hpc] at hstep
        have Hstep := Lib.hid hstep
        clear hstep hp hpc
        go_wp2_with fail
        refine hld.out.mono ?_
        rintro e W ⟨rfl, hW⟩
        go_wp2_with fail
        go_roundw
        case rel => exact ⟨i + 1, by omega, by go_num, Lib.hid (by rw [Hstep.out]; exact hV.out.ext hW), hE.trans hW⟩
        case measure => simp [intOf] <;> omega
      · have hpi : (c : Int) ≤ (p : Int) := by omega
        rw [if_neg hpc] at hstep
        have Hstep := Lib.hid hstep
        have Hrd := Lib.hid (show IntsR w (.slice (some ⟨br, or + c, none⟩) m (cr - c)) (r.drop c) by
          have hdl : (r.drop c).length = m := by rw [List.length_drop, Hrl.out]; omega
          refine ⟨_, br, or + c, cr - c, by rw [hdl], by rw [hdl]; have := Hrc.out; omega, ?_⟩
          rw [← ss_drop]; exact HSr.out.drop rfl)
        clear hstep hp hpc
        have hXw := hE.size
        go_wp2_with fail
        refine hld.out.mono ?_
        rintro e W ⟨rfl, hW⟩
        have hWX := hW.size
        go_wp2_with (at_builtin; refine app_rd rfl _ _ rfl (B := w.heap.size) (w0 := w) rfl ((hV.out.ext hW).ext ((Ext.refl _).alloc _)) rfl (b := W.heap.size) (rv := .slice (some ⟨br, or + c, none⟩) m (cr - c)) (r := r.drop c) (by go_simp <;> omega) Hrd.out (by have := Hkl.out; omega) (by simp; omega) ?_; intro gg cap2 w8 hO8 hB8 hG8; rw [← Hstep.out] at hO8)
        have hE8 : Ext w w8 := Below.trans ((hE.trans hW).alloc _) hB8
        have HO8 := Lib.hid hO8
        clear hG8 hB8 hO8
        go_wp2_with fail
        go_roundw
        case rel => exact ⟨i + 1, by omega, by go_num, Lib.hid (by
          have h1 := HO8.out
          rw [Hstep.out] at h1 ⊢
          simpa using h1), hE8⟩
        case measure => simp [intOf] <;> omega
    · have hie : i = H.length := by omega
      subst hie
      go_wp2_with fail
      go_ret
      have h1 := hV.out
      rw [List.take_length] at h1
      exact ⟨_, rfl, h1.grid hE, hE⟩
end Go.Proofs.YtokjolmpdfmnbaaGreatDoor
namespace Go.Proofs.YtokjolmpdfmnbaaGreatDoor
open Go.RowKit Go.Sort
theorem redX_bits {F : Mx} {x : List Int} {E : Nat} (hP : ∀ r ∈ F, pv r < r.length) (hF : ∀ r ∈ F, ∀ z ∈ r, z.natAbs < 2 ^ E) (hx : ∀ z ∈ x, z.natAbs < 2 ^ E) : ∀ i, i ≤ F.length → ∀ z ∈ redX (F.take i) x, z.natAbs < 2 ^ (E + (E + 1) * i)
  | 0, _ => by simpa [redX] using hx
  | i + 1, h => by
    have ih := redX_bits hP hF hx i (by omega)
    have hpi := hP _ (List.getElem_mem (show i < F.length by omega))
    rw [redX_take (by omega), getD_get (show i < F.length by omega)]
    have p0 : 0 < 2 ^ (E + (E + 1) * i) := Nat.pow_pos (by omega)
    have hq := stepQ_abs (pv_ne hpi) p0 ih
    generalize stepQ F[i] (redX (F.take i) x) = q at *
    refine subK_all q (Q := fun z => z.natAbs < 2 ^ (E + (E + 1) * i)) (R := fun z => z.natAbs < 2 ^ E) ?_ ?_ _ _ ih (fun z hz => hF _ (List.getElem_mem (by omega)) z hz)
    · intro z hz; exact Nat.lt_of_lt_of_le hz (Nat.pow_le_pow_right (by omega) (by have : (E + 1) * (i + 1) = (E + 1) * i + (E + 1) := Nat.mul_succ _ _; omega))
    · intro y z hy hz
      have h1 : (q * z).natAbs ≤ 2 ^ (E + (E + 1) * i) * 2 ^ E := by
        rw [Int.natAbs_mul]; exact Nat.mul_le_mul (Nat.le_of_lt hq) (Nat.le_of_lt hz)
      have e : 2 ^ (E + (E + 1) * (i + 1)) = 2 ^ (E + (E + 1) * i) * 2 ^ E * 2 := by
        rw [show E + (E + 1) * (i + 1) = (E + (E + 1) * i) + E + 1 by have : (E + 1) * (i + 1) = (E + 1) * i + (E + 1) := Nat.mul_succ _ _; omega, Nat.pow_succ, Nat.pow_add]
      have h2 : 2 ^ (E + (E + 1) * i) ≤ 2 ^ (E + (E + 1) * i) * 2 ^ E := Nat.le_mul_of_pos_right _ (Nat.pow_pos (by omega))
      rw [e]
      have hy' : y.natAbs < 2 ^ (E + (E + 1) * i) := hy
      omega
set_option maxRecDepth 100000 in
theorem sclone_any {w : World} {vx : Value} {x : List Int} (hx : IntsR w vx x) (hn : 0 < x.length) (hl : x.length ≤ 1000000) :
    Calls Tryz.prog 137 #[vx] w fun e w' => ∃ g cap, e = .returned (slv g x.length cap) ∧ OwnV 94 w.heap.size w' g cap (ss x) ∧ Ext w w' := by
  obtain ⟨sa, gb, go, cp, rfl, hcp, hS⟩ := hx
  obtain rfl := hS.addr (by rw [ss_length]; exact hn)
  obtain ⟨s0, hs, hy0, hy1, hy2⟩ := info_parts Tryz.infoStr
  have HNews := Lib.hid (show ∀ (j : Nat) (u : Value), (ss x)[j]? = some u → (w.alloc (.cells #[] 94)).cell? ((⟨gb, go, none⟩ : Addr).add j) = some u from fun j u hj => by
    have h2 := ((Ext.refl w).alloc (.cells #[] 94)).cell (hS.cell j u hj)
    simpa [Addr.add_lit] using h2)
  have HOne := Lib.hid (show ∀ u ∈ ss x, u.oneCell' = true from fun u hu => by
    obtain ⟨y, _, rfl⟩ := List.mem_map.1 hu
    rfl)
  have hO : OwnV 94 w.heap.size (w.alloc (.cells #[] 94)) w.heap.size 0 [] := OwnV.of (Nat.le_refl _) (heap_new _ _) (Nat.le_refl _) (Nat.zero_le _) rfl rfl
  have HO := Lib.hid hO
  have hE := (Ext.refl w).alloc (.cells #[] 94)
  have knil := fun (w : World) (a : Option Addr) (n c : Nat) => Lib.run_eql_slice_nil (P := Tryz.prog) w 99 94 a n c 0 0 Tryz.underlying99
  clear hO hS
  go_enter Tryz.func137, Tryz.ntmps137
  go_wp2_with (at_builtin; refine wpList_append_lies _ rfl _ _ 99 rfl w.heap.size 94 s0 _ 1 16 Tryz.underlying99 hs hy0 hy1 hy2 rfl (by omega) (slv w.heap.size 0 0) 0 [] rfl HO.out ⟨gb, go, none⟩ x.length cp (ss x) rfl (by rw [ss_length]; omega) HNews.out HOne.out hn (by unfold maxLen; omega) (by omega) (by simp) (w.heap.size + 1) (by simp) ?_; intro gg cap6 w6 hown6 hgrow6 hat6 hlt6)
  have hE6 : Ext w w6 := Ext.mk' (Below.grown hE hgrow6 hE.size (fun q hq => (World.ownsRow.lt HO.out q hq).1))
  have HR := Lib.hid (show OwnV 94 w.heap.size w6 gg cap6 (ss x) by
    unfold OwnV; rw [ss_length]; simpa using hown6)
  clear hown6 hgrow6 hat6 hlt6
  go_wp2_with fail
  go_ret
  exact ⟨gg, cap6, by simp, HR.out, hE6⟩
set_option maxRecDepth 100000 in
set_option maxHeartbeats 1000000 in
theorem reduced_any {w : World} {vF vx : Value} {F : Mx} {x : List Int} {E m : Nat} (hF : GridR w vF F) (hRt : Rect m F) (hx : IntsR w vx x) (hxl : x.length = m) (hm : 0 < m) (hm2 : m ≤ 1000000) (hl : F.length ≤ 1000000) (hP : ∀ r ∈ F, pv r < m)
    (hbF : ∀ r ∈ F, ∀ z ∈ r, z.natAbs < 2 ^ E) (hbx : ∀ z ∈ x, z.natAbs < 2 ^ E) (hE : 2 * (E + (E + 1) * F.length) + 2 < LIM) (hL : Laid w) :
    Calls Tryz.prog 87 #[vF, vx] w fun e w' => ∃ g cap, e = .returned (slv g m cap) ∧ OwnV 94 w.heap.size w' g cap (ss (redX F x)) ∧ Ext w w' := by
  have hcl := Lib.hid (sclone_any hx (by omega) (by omega))
  rw [hxl] at hcl
  obtain ⟨sa, gb, go, cap, vs, rfl, hcap, hvl, hS, hr⟩ := hF
  have HS := Lib.hid hS
  have HV := Lib.hid hvl
  have HR := Lib.hid hr
  have HRt := Lib.hid hRt
  have HP := Lib.hid hP
  have HbF := Lib.hid hbF
  have Hbits := Lib.hid (redX_bits (fun r hr => by rw [hRt r hr]; exact hP r hr) hbF hbx)
  have HE := Lib.hid hE
  have HL := Lib.hid hL
  have Hxl := Lib.hid hxl
  clear hS hvl hr hRt hP hbF hbx hE hL hx hxl
  obtain ⟨E2, hE2⟩ : ∃ E2, E2 = E + (E + 1) * F.length := ⟨_, rfl⟩
  have HE2 := Lib.hid hE2
  clear hE2
  go_enter Tryz.func87, Tryz.ntmps87
  go_wp2_with fail
  refine hcl.out.mono ?_
  rintro e w1 ⟨gx, cx, rfl, hX1, hE1⟩
  have hgl := hX1.lt
  go_wp2_with fail
  go_loopw [15] (fun idx wr => ∃ i : Nat, i ≤ F.length ∧ idx = .int .i64 i ∧ Hid (OwnV 94 w.heap.size wr gx cx (ss (redX (F.take i) x))) ∧ Ext w wr) (fun idx _ => F.length - (intOf idx).toNat)
  case atStart => exact ⟨0, by omega, by go_num, Lib.hid hX1, hE1⟩
  case round =>
    obtain ⟨i, hi', rfl, hX, hEX⟩ := hrel
    generalize wr = X at *
    by_cases hlt : i < F.length
    · have hii : (i : Int) < (F.length : Int) := by omega
      obtain rfl := HS.out.addr (by rw [HV.out]; omega)
      obtain ⟨sr, br, or, cr, hrow, hrc, hSr⟩ := GridR.row HS.out HV.out HR.out hlt
      have hrl : F[i].length = m := HRt.out _ (List.getElem_mem hlt)
      have hpm := HP.out _ (List.getElem_mem hlt)
      have hbr := HbF.out _ (List.getElem_mem hlt)
      have hstep := redX_take hlt x
      rw [getD_get hlt] at hstep
      obtain ⟨r, hr⟩ : ∃ r, r = F[i] := ⟨_, rfl⟩
      rw [← hr] at hrow hrc hSr hrl hpm hbr hstep
      rw [hrl] at hrow hrc
      have hrow' := hEX.cell hrow
      obtain rfl := hSr.addr (by simp; omega)
      have hld := Lib.hid (slead_any (w := X) (cap := cr) (hSr.ext hEX) (by omega))
      rw [hrl] at hld
      have hyb := Hbits.out i hi'
      have hyl : (redX (F.take i) x).length = m := by rw [redX_length, Hxl.out]
      obtain ⟨y, hy⟩ : ∃ y, y = redX (F.take i) x := ⟨_, rfl⟩
      rw [← hy] at hX hyb hyl hstep
      have hle : E + (E + 1) * i ≤ E2 := by rw [HE2.out]; have := Nat.mul_le_mul_left (E + 1) hi'; omega
      have hyb2 : ∀ z ∈ y, z.natAbs < 2 ^ E2 := fun z hz => Nat.lt_of_lt_of_le (hyb z hz) (Nat.pow_le_pow_right (by omega) hle)
      have hrb2 : ∀ z ∈ r, z.natAbs < 2 ^ E2 := fun z hz => Nat.lt_of_lt_of_le (hbr z hz) (Nat.pow_le_pow_right (by omega) (by rw [HE2.out]; omega))
      have hrp : r.getD (pv r) 0 ≠ 0 := pv_ne (by omega)
      have hq2 : (stepQ r y).natAbs < 2 ^ E2 := stepQ_abs hrp (Nat.pow_pos (by omega)) hyb2
      have hEL : 2 * E2 + 2 < LIM := by rw [HE2.out]; exact HE.out
      have cq := hX.out.cell (j := pv r) (by rw [ss_length, hyl]; exact hpm)
      have hSrX := hSr.ext hEX
      have cr0 := hSrX.cell (pv r) (I (r.getD (pv r) 0)) (by
        have h6 : pv r < (ss r).length := by rw [ss_length, hrl]; exact hpm
        rw [List.getElem?_eq_getElem h6, ss_at (by omega) h6])
      rw [ss_at (by omega)] at cq
      have hdy : nd (y.getD (pv r) 0) < LIM := by
        rw [getD_get (by omega)]
        have := nd_lt2 (hyb2 _ (List.getElem_mem (by omega : pv r < y.length))); omega
      have hdr : nd (r.getD (pv r) 0) < LIM := by
        rw [getD_get (by omega)]
        have := nd_lt2 (hrb2 _ (List.getElem_mem (by omega : pv r < r.length))); omega
      have Hdm := Lib.hid (fun W (hW : Ext w W) => DivMod_any (a := y.getD (pv r) 0) (b := r.getD (pv r) 0) (w := W) hdy hdr hrp (HL.out.ext hW))
      have hne : br ≠ gx := by
        have h7 := hSr.lt (by rw [ss_length]; omega)
        omega
      have Htk := Lib.hid (fun W (hW : Ext X W) => by
        have h8 := stake_any (w0 := w) (w := W) (ga := gx) (ca := cx) (k := stepQ r y) (cb := cr) (hX.out.ext hW) (hSrX.ext hW) hne (by rw [hrl, hyl]) (by omega) (less_big hyb2 hrb2 hq2 hEL) HL.out (hEX.trans hW)
        rw [hyl] at h8
        exact h8)
      obtain ⟨p, hp⟩ : ∃ p, p = pv r := ⟨_, rfl⟩
      obtain ⟨a, ha⟩ : ∃ a, a = y.getD p 0 := ⟨_, rfl⟩
      obtain ⟨b, hb⟩ : ∃ b, b = r.getD p 0 := ⟨_, rfl⟩
      have hqe : stepQ r y = a.fdiv b := by rw [ha, hb, hp]; rfl
      rw [← hp] at cq cr0 hpm hld Hdm
      rw [← ha] at cq Hdm
      rw [← hb] at cr0 Hdm
      rw [hqe] at Htk hstep
      have Hstep := Lib.hid hstep
      have hpmI : (p : Int) < (m : Int) := by omega
      have HX := hX
      clear hr hrow hrc hSr hrl hbr hyb hyl hy hle hyb2 hrb2 hrp hq2 hEL hSrX hdy hdr hne hp ha hb hqe hstep hX
      go_wp2_with fail
      refine hld.out.mono ?_
      rintro e W1 ⟨rfl, hW1⟩
      have k1 := cell_regrown (hW1.cell cq)
      have k2 := cell_regrown (hW1.cell cr0)
      have bD := Lib.hid (quietC (w := W1) (fun W h => Hdm.out W (hEX.trans (hW1.trans h))))
      clear hld
      go_wp2_with fail
      refine wp_region_quiet_below (by kernel_rfl) (by kernel_rfl) ?_
      repeat (quiet_step (exact bD.out _ _))
      refine wpQuiet_nil ?_
      intro _ hw'
      obtain ⟨⟨dq, osq⟩, hw''⟩ := hw'
      subst hw''
      have hE6 := hW1.trans (ext_regrown W1 dq osq)
      clear bD k1 k2 Hdm
      generalize hW6 : grow (redrawn _ _) _ = W6 at *
      clear hW6
      go_wp2_with fail
      refine (Htk.out _ hE6).mono ?_
      rintro e W7 ⟨rfl, hX7, hG7⟩
      rw [← Hstep.out] at hX7
      have hE7 := ext_trans_grown (hEX.trans hE6) hG7 hgl.1
      have HX7 := Lib.hid hX7
      clear hX7 hG7 Htk
      go_wp2_with fail
      go_roundw
      case rel => exact ⟨i + 1, by omega, by go_num, HX7, hE7⟩
      case measure => simp [intOf] <;> omega
    · have hie : i = F.length := by omega
      subst hie
      go_wp2_with fail
      go_ret
      have h1 := hX.out
      rw [List.take_length] at h1
      exact ⟨gx, cx, rfl, h1, hEX⟩
end Go.Proofs.YtokjolmpdfmnbaaGreatDoor
namespace Go.Proofs.YtokjolmpdfmnbaaGreatDoor
open Go.RowKit Go.Sort
theorem fits_any (z : Int) (w : World) : Calls Tryz.prog 83 #[.int .i64 z] w fun e w' => e = .returned (.bool (!grt z)) ∧ w' = w := by
  by_cases h1 : z < -1000000000
  · have hg : grt z = true := decide_eq_true (.inr h1)
    rw [hg]; clear hg
    go_enter Tryz.func83, Tryz.ntmps83
    go_wp2
    go_ret
    exact ⟨rfl, rfl⟩
  · have h2 : -1000000000 ≤ z := by omega
    by_cases h3 : z ≤ 1000000000
    · have hg : grt z = false := decide_eq_false (by omega)
      rw [hg]; clear hg
      go_enter Tryz.func83, Tryz.ntmps83
      go_wp2
      go_ret
      exact ⟨rfl, rfl⟩
    · have h4 : 1000000000 < z := by omega
      have hg : grt z = true := decide_eq_true (.inl h4)
      have hd : decide (z ≤ 1000000000) = false := decide_eq_false h3
      rw [hg]; clear hg h3
      go_enter Tryz.func83, Tryz.ntmps83
      go_wp2
      go_ret
      exact ⟨rfl, rfl⟩
theorem rowCheckC_any (z : Int) (w : World) : Calls Tryz.prog 82 #[.int .i64 z] w fun e w' => e = .returned (.bool (grt z)) ∧ Ext w w' := by
  have hf := Lib.hid (fits_any z)
  obtain ⟨b, hb⟩ : ∃ b, b = grt z := ⟨_, rfl⟩
  rw [← hb] at hf ⊢
  clear hb
  go_enter Tryz.func82, Tryz.ntmps82
  go_wp2_with fail
  refine (hf.out _).mono ?_
  rintro e W ⟨rfl, hw⟩
  have hE : Ext w W := by rw [hw]; exact Ext.refl _
  clear hw
  go_wp2_with fail
  go_ret
  exact ⟨by simp, hE⟩
def chkRow (x : List Int) : Int := if 64 < x.length then 4 else if x.any grt then 4 else 0
theorem chkRow_ok {x : List Int} (h : chkRow x = 0) : x.length ≤ 64 ∧ ∀ z ∈ x, -1000000000 ≤ z ∧ z ≤ 1000000000 := by
  unfold chkRow at h
  split at h
  · cases h
  · split at h
    · cases h
    · rename_i h1 h2
      refine ⟨by omega, fun z hz => ?_⟩
      have : grt z = false := by
        cases hg : grt z
        · rfl
        · exact absurd (List.any_eq_true.2 ⟨z, hz, hg⟩) h2
      unfold grt at this
      have := of_decide_eq_false this
      omega
theorem rowCheck_any {w : World} {v : Value} {x : List Int} (hR : RowR w v x) :
    Calls Tryz.prog 36 #[v] w fun e w' => e = .returned (.int .i64 (chkRow x)) ∧ Ext w w' := by
  obtain ⟨sa, gb, go, cap, rfl, hc, hS⟩ := hR
  by_cases h : 64 < x.length
  · have hi : (64 : Int) < (x.length : Int) := by omega
    have he : chkRow x = 4 := by unfold chkRow; rw [if_pos h]
    rw [he]
    clear he hS
    go_enter Tryz.func36, Tryz.ntmps36
    go_wp2_with fail
    go_ret
    exact ⟨rfl, Ext.refl _⟩
  · have hi : (x.length : Int) ≤ 64 := by omega
    have hcn := contains_rowCheck (cap := cap) (p := fun i => grt (x.getD i 0)) hS (by simp; omega) (fun k hk W hW => by
      have hk' : k < x.length := by simpa using hk
      have e : (is x)[k] = .int .i64 (x.getD k 0) := by rw [getD_get hk']; simp [is]
      rw [e]; exact rowCheckC_any _ W)
    rw [is_length, any_grt] at hcn
    have he : chkRow x = if x.any grt then 4 else 0 := by unfold chkRow; rw [if_neg h]
    rw [he]
    have Hcn := Lib.hid hcn
    clear he hcn hS h
    cases hg : x.any grt
    · rw [hg] at Hcn
      clear hg
      go_enter Tryz.func36, Tryz.ntmps36
      go_wp2_with fail
      refine Hcn.out.mono ?_
      rintro e W ⟨rfl, hW⟩
      go_wp2_with fail
      go_ret
      exact ⟨rfl, hW⟩
    · rw [hg] at Hcn
      clear hg
      go_enter Tryz.func36, Tryz.ntmps36
      go_wp2_with fail
      refine Hcn.out.mono ?_
      rintro e W ⟨rfl, hW⟩
      go_wp2_with fail
      go_ret
      exact ⟨rfl, hW⟩
theorem ncols_row {w : World} {sa : Option Addr} {gb go : Nat} {vs : List Value} {M : Mx} (hS : Sl w sa gb go vs) (hl : vs.length = M.length) (hr : ∀ i (h : i < M.length) (h' : i < vs.length), RowR w vs[i] M[i]) (h0 : 0 < M.length) :
    ∃ s0 c0, sa = some ⟨gb, go, none⟩ ∧ w.cell? ⟨gb, go, none⟩ = some (.slice s0 (ncols M) c0) := by
  obtain ⟨s0, b0, o0, c0, hrow0, _, _⟩ := MatR.row hS hl hr h0
  have hn : M[0].length = ncols M := by unfold ncols; rw [getD_get h0]
  rw [hn, Nat.add_zero] at hrow0
  exact ⟨s0, c0, hS.addr (by omega), hrow0⟩
end Go.Proofs.YtokjolmpdfmnbaaGreatDoor
namespace Go.Proofs.YtokjolmpdfmnbaaGreatDoor
open Go.RowKit Go.Sort
def sizeE (M : Mx) (b : List Int) : Int := if checkM M = 0 then if chkRow b = 0 then if 0 < M.length ∧ b.length ≠ ncols M then 5 else 0 else chkRow b else checkM M
theorem sizeE_ok {M : Mx} {b : List Int} (h : sizeE M b = 0) : checkM M = 0 ∧ chkRow b = 0 ∧ (0 < M.length → b.length = ncols M) := by
  unfold sizeE at h
  split at h
  · split at h
    · split at h
      · cases h
      · rename_i h1 h2 h3
        exact ⟨h1, h2, fun h5 => Classical.byContradiction fun h6 => h3 ⟨h5, h6⟩⟩
    · exact absurd h ‹_›
  · exact absurd h ‹_›
set_option maxRecDepth 100000 in
theorem sized_any {w : World} {vm vb : Value} {M : Mx} {b : List Int} (hM : MatR w vm M) (hb : RowR w vb b) :
    Calls Tryz.prog 42 #[vm, vb] w fun e w' => e = .returned (.int .i64 (sizeE M b)) ∧ Ext w w' := by
  have hck := Lib.hid (tableCheck_any hM)
  have hrk := Lib.hid (fun W (hW : Ext w W) => rowCheck_any (hb.ext hW))
  obtain ⟨sr, br, or, cr, hbv, hbc, hSb⟩ := hb
  obtain ⟨sa, gb, go, cap, vs, hmv, hcap, hvl, hS, hr⟩ := hM
  by_cases h0 : checkM M = 0
  · rw [h0] at hck
    by_cases h1 : chkRow b = 0
    · rw [h1] at hrk
      by_cases hM0 : M.length = 0
      · have he : sizeE M b = 0 := by unfold sizeE; rw [if_pos h0, if_pos h1, if_neg (by omega)]
        rw [he]
        subst hmv hbv
        rw [hM0] at hck ⊢
        clear hS hvl hr hSb h0 h1 he hM0
        go_enter Tryz.func42, Tryz.ntmps42
        go_wp2_with fail
        refine hck.out.mono ?_
        rintro e w1 ⟨rfl, hE1⟩
        go_wp2_with fail
        refine (hrk.out _ hE1).mono ?_
        rintro e w2 ⟨rfl, hE2⟩
        go_wp2_with fail
        go_ret
        exact ⟨rfl, hE1.trans hE2⟩
      · have hMp : (0 : Int) < (M.length : Int) := by omega
        obtain ⟨s0, c0, rfl, hrow⟩ := ncols_row hS hvl hr (by omega)
        subst hmv hbv
        by_cases hl : b.length = ncols M
        · have he : sizeE M b = 0 := by unfold sizeE; rw [if_pos h0, if_pos h1, if_neg (by omega)]
          rw [he]
          rw [← hl] at hrow
          clear hS hvl hr hSb h0 h1 he hM0 hl
          go_enter Tryz.func42, Tryz.ntmps42
          go_wp2_with fail
          refine hck.out.mono ?_
          rintro e w1 ⟨rfl, hE1⟩
          go_wp2_with fail
          refine (hrk.out _ hE1).mono ?_
          rintro e w2 ⟨rfl, hE2⟩
          have hrow2 := (hE1.trans hE2).cell hrow
          go_wp2_with fail
          go_ret
          exact ⟨rfl, hE1.trans hE2⟩
        · have he : sizeE M b = 5 := by unfold sizeE; rw [if_pos h0, if_pos h1, if_pos ⟨by omega, hl⟩]
          have hlb : ((b.length : Int) == (ncols M : Int)) = false := beq_eq_false_iff_ne.2 (by omega)
          have hlb2 : ((b.length : Int) != (ncols M : Int)) = true := by simp [bne, hlb]
          have hlI : ¬ (b.length : Int) = (ncols M : Int) := by omega
          rw [he]
          clear hS hvl hr hSb h0 h1 he hM0
          go_enter Tryz.func42, Tryz.ntmps42
          go_wp2_with fail
          refine hck.out.mono ?_
          rintro e w1 ⟨rfl, hE1⟩
          go_wp2_with fail
          refine (hrk.out _ hE1).mono ?_
          rintro e w2 ⟨rfl, hE2⟩
          have hrow2 := (hE1.trans hE2).cell hrow
          go_wp2_with fail
          go_ret
          exact ⟨rfl, hE1.trans hE2⟩
    · obtain ⟨q, hq⟩ : ∃ q, q = chkRow b := ⟨_, rfl⟩
      have he : sizeE M b = q := by unfold sizeE; rw [if_pos h0, if_neg h1, hq]
      have hqb : (q == 0) = false := beq_eq_false_iff_ne.2 (by rw [hq]; exact h1)
      have hqb2 : (q != 0) = true := by simp [bne, hqb]
      rw [he]
      rw [← hq] at hrk
      subst hmv hbv
      clear hS hvl hr hSb h0 h1 he hq
      go_enter Tryz.func42, Tryz.ntmps42
      go_wp2_with fail
      refine hck.out.mono ?_
      rintro e w1 ⟨rfl, hE1⟩
      go_wp2_with fail
      refine (hrk.out _ hE1).mono ?_
      rintro e w2 ⟨rfl, hE2⟩
      go_wp2_with fail
      go_ret
      exact ⟨rfl, hE1.trans hE2⟩
  · obtain ⟨q, hq⟩ : ∃ q, q = checkM M := ⟨_, rfl⟩
    have he : sizeE M b = q := by unfold sizeE; rw [if_neg h0, hq]
    have hqb : (q == 0) = false := beq_eq_false_iff_ne.2 (by rw [hq]; exact h0)
    have hqb2 : (q != 0) = true := by simp [bne, hqb]
    rw [he]
    rw [← hq] at hck
    subst hmv hbv
    clear hS hvl hr hSb h0 he hq
    go_enter Tryz.func42, Tryz.ntmps42
    go_wp2_with fail
    refine hck.out.mono ?_
    rintro e w1 ⟨rfl, hE1⟩
    go_wp2_with fail
    go_ret
    exact ⟨rfl, hE1⟩
end Go.Proofs.YtokjolmpdfmnbaaGreatDoor
