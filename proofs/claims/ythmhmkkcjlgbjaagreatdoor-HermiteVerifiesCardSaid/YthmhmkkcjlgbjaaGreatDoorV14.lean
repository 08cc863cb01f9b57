/- Part 14 of the proof of the claim: contracts of the functions that it reaches, and plain laws; no condition. -/
import Derived.Test.YthmhmkkcjlgbjaaGreatDoorV13
/- slices.IndexFunc, slices.ContainsFunc. Printed by gen_fnd.py. -/
namespace Go.Proofs.YthmhmkkcjlgbjaaGreatDoor
open Go.RowKit Go.Sort
/-- k is the first index below n at which p is true, or -1. -/
def IxR (p : Nat → Bool) (n : Nat) (k : Int) : Prop := (k = -1 ∧ ∀ i, i < n → p i = false) ∨ ∃ i : Nat, i < n ∧ k = (i : Int) ∧ p i = true ∧ ∀ j, j < i → p j = false
theorem IxR_ex (p : Nat → Bool) : ∀ n, ∃ k, IxR p n k
  | 0 => ⟨-1, .inl ⟨rfl, fun i h => by omega⟩⟩
  | n + 1 => by
    obtain ⟨k, h | ⟨i, hi, e, hp, hj⟩⟩ := IxR_ex p n
    · cases hn : p n
      · exact ⟨-1, .inl ⟨rfl, fun i hi => by
          by_cases e : i = n
          · subst e; exact hn
          · exact h.2 i (by omega)⟩⟩
      · exact ⟨n, .inr ⟨n, by omega, rfl, hn, h.2⟩⟩
    · exact ⟨k, .inr ⟨i, by omega, e, hp, hj⟩⟩
theorem IxR_no {p : Nat → Bool} {n : Nat} {k : Int} (h : IxR p n k) (hp : ∀ i, i < n → p i = false) : k = -1 := by
  rcases h with h | ⟨i, hi, _, hpi, _⟩
  · exact h.1
  · rw [hp i hi] at hpi; cases hpi
theorem IxR_at {p : Nat → Bool} {n i : Nat} {k : Int} (h : IxR p n k) (hi : i < n) (hp : p i = true) (hj : ∀ j, j < i → p j = false) : k = i := by
  rcases h with h | ⟨t, ht, e, hpt, hjt⟩
  · rw [h.2 i hi] at hp; cases hp
  · rcases Nat.lt_trichotomy i t with h | h | h
    · rw [hjt i h] at hp; cases hp
    · rw [e, h]
    · rw [hj t h] at hpt; cases hpt
def anyB (p : Nat → Bool) (n : Nat) : Bool := (List.range n).any p
theorem anyB_iff {p : Nat → Bool} {n : Nat} : anyB p n = true ↔ ∃ i, i < n ∧ p i = true := by simp [anyB]
theorem anyB_no {p : Nat → Bool} {n : Nat} (h : ∀ i, i < n → p i = false) : anyB p n = false := by
  cases hb : anyB p n
  · rfl
  · obtain ⟨i, hi, hp⟩ := anyB_iff.1 hb; rw [h i hi] at hp; cases hp
theorem anyB_false {p : Nat → Bool} {n : Nat} (h : anyB p n = false) : ∀ i, i < n → p i = false := fun i hi => by
  cases hp : p i
  · rfl
  · rw [anyB_iff.2 ⟨i, hi, hp⟩] at h; cases h
theorem IxR_ge {p : Nat → Bool} {n : Nat} {k : Int} (h : IxR p n k) : decide (0 ≤ k) = anyB p n := by
  rcases h with ⟨rfl, h⟩ | ⟨i, hi, rfl, hp, _⟩
  · rw [anyB_no h]; rfl
  · rw [anyB_iff.2 ⟨i, hi, hp⟩]; exact decide_eq_true (by omega)
set_option maxRecDepth 100000 in
set_option maxHeartbeats 1000000 in
theorem index_pivot {w : World} {sa : Option Addr} {gb go cap : Nat} {vs : List Value} {p : Nat → Bool} {k : Int} (hS : Sl w sa gb go vs) (hl : vs.length ≤ 1000000)
    (hF : ∀ i (h : i < vs.length) W, Ext w W → Calls Tryz.prog 89 #[vs[i]] W fun e w' => e = .returned (.bool (p i)) ∧ Ext W w') (hk : IxR p vs.length k) :
    Calls Tryz.prog 88 #[.slice sa vs.length cap, .func (.func 89) #[] #[]] w fun e w' => e = .returned (.int .i64 k) ∧ Ext w w' := by
  have HF := Lib.hid hF
  have HK := Lib.hid hk
  have HS := Lib.hid hS
  clear hF hk hS
  go_enter Tryz.func88, Tryz.ntmps88
  go_wp2_with fail
  go_loopw [8] (fun idx wr => ∃ i : Nat, i ≤ vs.length ∧ idx = .int .i64 i ∧ Hid (∀ j, j < i → p j = false) ∧ Ext w wr) (fun idx _ => vs.length - (intOf idx).toNat)
  case atStart => exact ⟨0, by omega, by go_num, Lib.hid (fun j h => by omega), Ext.refl _⟩
  case round =>
    obtain ⟨i, hi, rfl, Hp, hE⟩ := hrel
    generalize wr = X at *
    by_cases hlt : i < vs.length
    · have hii : (i : Int) < (vs.length : Int) := by omega
      obtain ⟨u, hu⟩ : ∃ u, u = vs[i] := ⟨_, rfl⟩
      have hc := hE.cell (HS.out.cell i u (by rw [hu]; exact List.getElem?_eq_getElem hlt))
      obtain rfl := HS.out.addr (by omega)
      have hf := HF.out i hlt X hE
      rw [← hu] at hf
      have Hf := Lib.hid hf
      clear hf hu
      cases hpi : p i
      · rw [hpi] at Hf
        have Hpi := Lib.hid hpi
        clear hpi
        go_wp2_with fail
        refine Hf.out.mono ?_
        rintro e W ⟨rfl, hE2⟩
        go_wp2_with fail
        go_roundw
        case rel => exact ⟨i + 1, by omega, by go_num, Lib.hid (fun j hj => by
          by_cases e : j = i
          · subst e; exact Hpi.out
          · exact Hp.out j (by omega)), hE.trans hE2⟩
        case measure => simp [intOf] <;> omega
      · rw [hpi] at Hf
        have Hki := Lib.hid (IxR_at HK.out hlt hpi Hp.out)
        clear hpi
        go_wp2_with fail
        refine Hf.out.mono ?_
        rintro e W ⟨rfl, hE2⟩
        go_wp2_with fail
        go_ret
        exact ⟨by rw [Hki.out]; rfl, hE.trans hE2⟩
    · have Hki := Lib.hid (IxR_no HK.out (fun j hj => Hp.out j (by omega)))
      go_wp2_with fail
      go_ret
      exact ⟨by rw [Hki.out]; rfl, hE⟩
set_option maxRecDepth 100000 in
set_option maxHeartbeats 1000000 in
theorem index_great {w : World} {sa : Option Addr} {gb go cap : Nat} {vs : List Value} {p : Nat → Bool} {k : Int} (hS : Sl w sa gb go vs) (hl : vs.length ≤ 1000000)
    (hF : ∀ i (h : i < vs.length) W, Ext w W → Calls Tryz.prog 79 #[vs[i]] W fun e w' => e = .returned (.bool (p i)) ∧ Ext W w') (hk : IxR p vs.length k) :
    Calls Tryz.prog 88 #[.slice sa vs.length cap, .func (.func 79) #[] #[]] w fun e w' => e = .returned (.int .i64 k) ∧ Ext w w' := by
  have HF := Lib.hid hF
  have HK := Lib.hid hk
  have HS := Lib.hid hS
  clear hF hk hS
  go_enter Tryz.func88, Tryz.ntmps88
  go_wp2_with fail
  go_loopw [8] (fun idx wr => ∃ i : Nat, i ≤ vs.length ∧ idx = .int .i64 i ∧ Hid (∀ j, j < i → p j = false) ∧ Ext w wr) (fun idx _ => vs.length - (intOf idx).toNat)
  case atStart => exact ⟨0, by omega, by go_num, Lib.hid (fun j h => by omega), Ext.refl _⟩
  case round =>
    obtain ⟨i, hi, rfl, Hp, hE⟩ := hrel
    generalize wr = X at *
    by_cases hlt : i < vs.length
    · have hii : (i : Int) < (vs.length : Int) := by omega
      obtain ⟨u, hu⟩ : ∃ u, u = vs[i] := ⟨_, rfl⟩
      have hc := hE.cell (HS.out.cell i u (by rw [hu]; exact List.getElem?_eq_getElem hlt))
      obtain rfl := HS.out.addr (by omega)
      have hf := HF.out i hlt X hE
      rw [← hu] at hf
      have Hf := Lib.hid hf
      clear hf hu
      cases hpi : p i
      · rw [hpi] at Hf
        have Hpi := Lib.hid hpi
        clear hpi
        go_wp2_with fail
        refine Hf.out.mono ?_
        rintro e W ⟨rfl, hE2⟩
        go_wp2_with fail
        go_roundw
        case rel => exact ⟨i + 1, by omega, by go_num, Lib.hid (fun j hj => by
          by_cases e : j = i
          · subst e; exact Hpi.out
          · exact Hp.out j (by omega)), hE.trans hE2⟩
        case measure => simp [intOf] <;> omega
      · rw [hpi] at Hf
        have Hki := Lib.hid (IxR_at HK.out hlt hpi Hp.out)
        clear hpi
        go_wp2_with fail
        refine Hf.out.mono ?_
        rintro e W ⟨rfl, hE2⟩
        go_wp2_with fail
        go_ret
        exact ⟨by rw [Hki.out]; rfl, hE.trans hE2⟩
    · have Hki := Lib.hid (IxR_no HK.out (fun j hj => Hp.out j (by omega)))
      go_wp2_with fail
      go_ret
      exact ⟨by rw [Hki.out]; rfl, hE⟩
set_option maxRecDepth 100000 in
theorem contains_great {w : World} {sa : Option Addr} {gb go cap : Nat} {vs : List Value} {p : Nat → Bool} (hS : Sl w sa gb go vs) (hl : vs.length ≤ 1000000)
    (hF : ∀ i (h : i < vs.length) W, Ext w W → Calls Tryz.prog 79 #[vs[i]] W fun e w' => e = .returned (.bool (p i)) ∧ Ext W w') :
    Calls Tryz.prog 78 #[.slice sa vs.length cap, .func (.func 79) #[] #[]] w fun e w' => e = .returned (.bool (anyB p vs.length)) ∧ Ext w w' := by
  obtain ⟨k, hk⟩ := IxR_ex p vs.length
  have Hge := Lib.hid (IxR_ge hk)
  have HI := Lib.hid (index_great (cap := cap) hS hl hF hk)
  clear hS hF hk
  go_enter Tryz.func78, Tryz.ntmps78
  go_wp2_with fail
  refine HI.out.mono ?_
  rintro e W ⟨rfl, hE⟩
  go_wp2_with fail
  go_ret
  exact ⟨by rw [← Hge.out]; rfl, hE⟩
set_option maxRecDepth 100000 in
set_option maxHeartbeats 1000000 in
theorem index_rowCheck {w : World} {sa : Option Addr} {gb go cap : Nat} {vs : List Value} {p : Nat → Bool} {k : Int} (hS : Sl w sa gb go vs) (hl : vs.length ≤ 1000000)
    (hF : ∀ i (h : i < vs.length) W, Ext w W → Calls Tryz.prog 143 #[vs[i]] W fun e w' => e = .returned (.bool (p i)) ∧ Ext W w') (hk : IxR p vs.length k) :
    Calls Tryz.prog 88 #[.slice sa vs.length cap, .func (.func 143) #[] #[]] w fun e w' => e = .returned (.int .i64 k) ∧ Ext w w' := by
  have HF := Lib.hid hF
  have HK := Lib.hid hk
  have HS := Lib.hid hS
  clear hF hk hS
  go_enter Tryz.func88, Tryz.ntmps88
  go_wp2_with fail
  go_loopw [8] (fun idx wr => ∃ i : Nat, i ≤ vs.length ∧ idx = .int .i64 i ∧ Hid (∀ j, j < i → p j = false) ∧ Ext w wr) (fun idx _ => vs.length - (intOf idx).toNat)
  case atStart => exact ⟨0, by omega, by go_num, Lib.hid (fun j h => by omega), Ext.refl _⟩
  case round =>
    obtain ⟨i, hi, rfl, Hp, hE⟩ := hrel
    generalize wr = X at *
    by_cases hlt : i < vs.length
    · have hii : (i : Int) < (vs.length : Int) := by omega
      obtain ⟨u, hu⟩ : ∃ u, u = vs[i] := ⟨_, rfl⟩
      have hc := hE.cell (HS.out.cell i u (by rw [hu]; exact List.getElem?_eq_getElem hlt))
      obtain rfl := HS.out.addr (by omega)
      have hf := HF.out i hlt X hE
      rw [← hu] at hf
      have Hf := Lib.hid hf
      clear hf hu
      cases hpi : p i
      · rw [hpi] at Hf
        have Hpi := Lib.hid hpi
        clear hpi
        go_wp2_with fail
        refine Hf.out.mono ?_
        rintro e W ⟨rfl, hE2⟩
        go_wp2_with fail
        go_roundw
        case rel => exact ⟨i + 1, by omega, by go_num, Lib.hid (fun j hj => by
          by_cases e : j = i
          · subst e; exact Hpi.out
          · exact Hp.out j (by omega)), hE.trans hE2⟩
        case measure => simp [intOf] <;> omega
      · rw [hpi] at Hf
        have Hki := Lib.hid (IxR_at HK.out hlt hpi Hp.out)
        clear hpi
        go_wp2_with fail
        refine Hf.out.mono ?_
        rintro e W ⟨rfl, hE2⟩
        go_wp2_with fail
        go_ret
        exact ⟨by rw [Hki.out]; rfl, hE.trans hE2⟩
    · have Hki := Lib.hid (IxR_no HK.out (fun j hj => Hp.out j (by omega)))
      go_wp2_with fail
      go_ret
      exact ⟨by rw [Hki.out]; rfl, hE⟩
set_option maxRecDepth 100000 in
theorem contains_rowCheck {w : World} {sa : Option Addr} {gb go cap : Nat} {vs : List Value} {p : Nat → Bool} (hS : Sl w sa gb go vs) (hl : vs.length ≤ 1000000)
    (hF : ∀ i (h : i < vs.length) W, Ext w W → Calls Tryz.prog 143 #[vs[i]] W fun e w' => e = .returned (.bool (p i)) ∧ Ext W w') :
    Calls Tryz.prog 78 #[.slice sa vs.length cap, .func (.func 143) #[] #[]] w fun e w' => e = .returned (.bool (anyB p vs.length)) ∧ Ext w w' := by
  obtain ⟨k, hk⟩ := IxR_ex p vs.length
  have Hge := Lib.hid (IxR_ge hk)
  have HI := Lib.hid (index_rowCheck (cap := cap) hS hl hF hk)
  clear hS hF hk
  go_enter Tryz.func78, Tryz.ntmps78
  go_wp2_with fail
  refine HI.out.mono ?_
  rintro e W ⟨rfl, hE⟩
  go_wp2_with fail
  go_ret
  exact ⟨by rw [← Hge.out]; rfl, hE⟩
set_option maxRecDepth 100000 in
set_option maxHeartbeats 1000000 in
theorem index_reduce {w : World} {sa : Option Addr} {gb go cap : Nat} {vs : List Value} {p : Nat → Bool} {k : Int} (hS : Sl w sa gb go vs) (hl : vs.length ≤ 1000000)
    (hF : ∀ i (h : i < vs.length) W, Ext w W → Calls Tryz.prog 117 #[vs[i]] W fun e w' => e = .returned (.bool (p i)) ∧ Ext W w') (hk : IxR p vs.length k) :
    Calls Tryz.prog 116 #[.slice sa vs.length cap, .func (.func 117) #[] #[]] w fun e w' => e = .returned (.int .i64 k) ∧ Ext w w' := by
  have HF := Lib.hid hF
  have HK := Lib.hid hk
  have HS := Lib.hid hS
  clear hF hk hS
  go_enter Tryz.func116, Tryz.ntmps116
  go_wp2_with fail
  go_loopw [8] (fun idx wr => ∃ i : Nat, i ≤ vs.length ∧ idx = .int .i64 i ∧ Hid (∀ j, j < i → p j = false) ∧ Ext w wr) (fun idx _ => vs.length - (intOf idx).toNat)
  case atStart => exact ⟨0, by omega, by go_num, Lib.hid (fun j h => by omega), Ext.refl _⟩
  case round =>
    obtain ⟨i, hi, rfl, Hp, hE⟩ := hrel
    generalize wr = X at *
    by_cases hlt : i < vs.length
    · have hii : (i : Int) < (vs.length : Int) := by omega
      obtain ⟨u, hu⟩ : ∃ u, u = vs[i] := ⟨_, rfl⟩
      have hc := hE.cell (HS.out.cell i u (by rw [hu]; exact List.getElem?_eq_getElem hlt))
      obtain rfl := HS.out.addr (by omega)
      have hf := HF.out i hlt X hE
      rw [← hu] at hf
      have Hf := Lib.hid hf
      clear hf hu
      cases hpi : p i
      · rw [hpi] at Hf
        have Hpi := Lib.hid hpi
        clear hpi
        go_wp2_with fail
        refine Hf.out.mono ?_
        rintro e W ⟨rfl, hE2⟩
        go_wp2_with fail
        go_roundw
        case rel => exact ⟨i + 1, by omega, by go_num, Lib.hid (fun j hj => by
          by_cases e : j = i
          · subst e; exact Hpi.out
          · exact Hp.out j (by omega)), hE.trans hE2⟩
        case measure => simp [intOf] <;> omega
      · rw [hpi] at Hf
        have Hki := Lib.hid (IxR_at HK.out hlt hpi Hp.out)
        clear hpi
        go_wp2_with fail
        refine Hf.out.mono ?_
        rintro e W ⟨rfl, hE2⟩
        go_wp2_with fail
        go_ret
        exact ⟨by rw [Hki.out]; rfl, hE.trans hE2⟩
    · have Hki := Lib.hid (IxR_no HK.out (fun j hj => Hp.out j (by omega)))
      go_wp2_with fail
      go_ret
      exact ⟨by rw [Hki.out]; rfl, hE⟩
set_option maxRecDepth 100000 in
set_option maxHeartbeats 1000000 in
theorem index_notin {w : World} {sa : Option Addr} {gb go cap : Nat} {vs : List Value} {p : Nat → Bool} {k : Int} (hS : Sl w sa gb go vs) (hl : vs.length ≤ 1000000)
    (hF : ∀ i (h : i < vs.length) W, Ext w W → Calls Tryz.prog 101 #[vs[i]] W fun e w' => e = .returned (.bool (p i)) ∧ Ext W w') (hk : IxR p vs.length k) :
    Calls Tryz.prog 116 #[.slice sa vs.length cap, .func (.func 101) #[] #[]] w fun e w' => e = .returned (.int .i64 k) ∧ Ext w w' := by
  have HF := Lib.hid hF
  have HK := Lib.hid hk
  have HS := Lib.hid hS
  clear hF hk hS
  go_enter Tryz.func116, Tryz.ntmps116
  go_wp2_with fail
  go_loopw [8] (fun idx wr => ∃ i : Nat, i ≤ vs.length ∧ idx = .int .i64 i ∧ Hid (∀ j, j < i → p j = false) ∧ Ext w wr) (fun idx _ => vs.length - (intOf idx).toNat)
  case atStart => exact ⟨0, by omega, by go_num, Lib.hid (fun j h => by omega), Ext.refl _⟩
  case round =>
    obtain ⟨i, hi, rfl, Hp, hE⟩ := hrel
    generalize wr = X at *
    by_cases hlt : i < vs.length
    · have hii : (i : Int) < (vs.length : Int) := by omega
      obtain ⟨u, hu⟩ : ∃ u, u = vs[i] := ⟨_, rfl⟩
      have hc := hE.cell (HS.out.cell i u (by rw [hu]; exact List.getElem?_eq_getElem hlt))
      obtain rfl := HS.out.addr (by omega)
      have hf := HF.out i hlt X hE
      rw [← hu] at hf
      have Hf := Lib.hid hf
      clear hf hu
      cases hpi : p i
      · rw [hpi] at Hf
        have Hpi := Lib.hid hpi
        clear hpi
        go_wp2_with fail
        refine Hf.out.mono ?_
        rintro e W ⟨rfl, hE2⟩
        go_wp2_with fail
        go_roundw
        case rel => exact ⟨i + 1, by omega, by go_num, Lib.hid (fun j hj => by
          by_cases e : j = i
          · subst e; exact Hpi.out
          · exact Hp.out j (by omega)), hE.trans hE2⟩
        case measure => simp [intOf] <;> omega
      · rw [hpi] at Hf
        have Hki := Lib.hid (IxR_at HK.out hlt hpi Hp.out)
        clear hpi
        go_wp2_with fail
        refine Hf.out.mono ?_
        rintro e W ⟨rfl, hE2⟩
        go_wp2_with fail
        go_ret
        exact ⟨by rw [Hki.out]; rfl, hE.trans hE2⟩
    · have Hki := Lib.hid (IxR_no HK.out (fun j hj => Hp.out j (by omega)))
      go_wp2_with fail
      go_ret
      exact ⟨by rw [Hki.out]; rfl, hE⟩
set_option maxRecDepth 100000 in
theorem contains_notin {w : World} {sa : Option Addr} {gb go cap : Nat} {vs : List Value} {p : Nat → Bool} (hS : Sl w sa gb go vs) (hl : vs.length ≤ 1000000)
    (hF : ∀ i (h : i < vs.length) W, Ext w W → Calls Tryz.prog 101 #[vs[i]] W fun e w' => e = .returned (.bool (p i)) ∧ Ext W w') :
    Calls Tryz.prog 100 #[.slice sa vs.length cap, .func (.func 101) #[] #[]] w fun e w' => e = .returned (.bool (anyB p vs.length)) ∧ Ext w w' := by
  obtain ⟨k, hk⟩ := IxR_ex p vs.length
  have Hge := Lib.hid (IxR_ge hk)
  have HI := Lib.hid (index_notin (cap := cap) hS hl hF hk)
  clear hS hF hk
  go_enter Tryz.func100, Tryz.ntmps100
  go_wp2_with fail
  refine HI.out.mono ?_
  rintro e W ⟨rfl, hE⟩
  go_wp2_with fail
  go_ret
  exact ⟨by rw [← Hge.out]; rfl, hE⟩
set_option maxRecDepth 100000 in
set_option maxHeartbeats 1000000 in
theorem index_isForm {w : World} {sa : Option Addr} {gb go cap : Nat} {c1 c2 : Value} {vs : List Value} {p : Nat → Bool} {k : Int} (hS : Sl w sa gb go vs) (hl : vs.length ≤ 1000000)
    (hF : ∀ i (h : i < vs.length) W, Ext w W → Calls Tryz.prog 98 #[vs[i], c1, c2] W fun e w' => e = .returned (.bool (p i)) ∧ Ext W w') (hk : IxR p vs.length k) :
    Calls Tryz.prog 128 #[.slice sa vs.length cap, .func (.func 98) #[] #[c1, c2]] w fun e w' => e = .returned (.int .i64 k) ∧ Ext w w' := by
  have HF := Lib.hid hF
  have HK := Lib.hid hk
  have HS := Lib.hid hS
  clear hF hk hS
  go_enter Tryz.func128, Tryz.ntmps128
  go_wp2_with fail
  go_loopw [8] (fun idx wr => ∃ i : Nat, i ≤ vs.length ∧ idx = .int .i64 i ∧ Hid (∀ j, j < i → p j = false) ∧ Ext w wr) (fun idx _ => vs.length - (intOf idx).toNat)
  case atStart => exact ⟨0, by omega, by go_num, Lib.hid (fun j h => by omega), Ext.refl _⟩
  case round =>
    obtain ⟨i, hi, rfl, Hp, hE⟩ := hrel
    generalize wr = X at *
    by_cases hlt : i < vs.length
    · have hii : (i : Int) < (vs.length : Int) := by omega
      obtain ⟨u, hu⟩ : ∃ u, u = vs[i] := ⟨_, rfl⟩
      have hc := hE.cell (HS.out.cell i u (by rw [hu]; exact List.getElem?_eq_getElem hlt))
      obtain rfl := HS.out.addr (by omega)
      have hf := HF.out i hlt X hE
      rw [← hu] at hf
      have Hf := Lib.hid hf
      clear hf hu
      cases hpi : p i
      · rw [hpi] at Hf
        have Hpi := Lib.hid hpi
        clear hpi
        go_wp2_with fail
        refine Hf.out.mono ?_
        rintro e W ⟨rfl, hE2⟩
        go_wp2_with fail
        go_roundw
        case rel => exact ⟨i + 1, by omega, by go_num, Lib.hid (fun j hj => by
          by_cases e : j = i
          · subst e; exact Hpi.out
          · exact Hp.out j (by omega)), hE.trans hE2⟩
        case measure => simp [intOf] <;> omega
      · rw [hpi] at Hf
        have Hki := Lib.hid (IxR_at HK.out hlt hpi Hp.out)
        clear hpi
        go_wp2_with fail
        refine Hf.out.mono ?_
        rintro e W ⟨rfl, hE2⟩
        go_wp2_with fail
        go_ret
        exact ⟨by rw [Hki.out]; rfl, hE.trans hE2⟩
    · have Hki := Lib.hid (IxR_no HK.out (fun j hj => Hp.out j (by omega)))
      go_wp2_with fail
      go_ret
      exact ⟨by rw [Hki.out]; rfl, hE⟩
set_option maxRecDepth 100000 in
theorem contains_isForm {w : World} {sa : Option Addr} {gb go cap : Nat} {c1 c2 : Value} {vs : List Value} {p : Nat → Bool} (hS : Sl w sa gb go vs) (hl : vs.length ≤ 1000000)
    (hF : ∀ i (h : i < vs.length) W, Ext w W → Calls Tryz.prog 98 #[vs[i], c1, c2] W fun e w' => e = .returned (.bool (p i)) ∧ Ext W w') :
    Calls Tryz.prog 86 #[.slice sa vs.length cap, .func (.func 98) #[] #[c1, c2]] w fun e w' => e = .returned (.bool (anyB p vs.length)) ∧ Ext w w' := by
  obtain ⟨k, hk⟩ := IxR_ex p vs.length
  have Hge := Lib.hid (IxR_ge hk)
  have HI := Lib.hid (index_isForm (cap := cap) hS hl hF hk)
  clear hS hF hk
  go_enter Tryz.func86, Tryz.ntmps86
  go_wp2_with fail
  refine HI.out.mono ?_
  rintro e W ⟨rfl, hE⟩
  go_wp2_with fail
  go_ret
  exact ⟨by rw [← Hge.out]; rfl, hE⟩
set_option maxRecDepth 100000 in
set_option maxHeartbeats 1000000 in
theorem index_incl {w : World} {sa : Option Addr} {gb go cap : Nat} {c1 : Value} {vs : List Value} {p : Nat → Bool} {k : Int} (hS : Sl w sa gb go vs) (hl : vs.length ≤ 1000000)
    (hF : ∀ i (h : i < vs.length) W, Ext w W → Calls Tryz.prog 87 #[vs[i], c1] W fun e w' => e = .returned (.bool (p i)) ∧ Ext W w') (hk : IxR p vs.length k) :
    Calls Tryz.prog 128 #[.slice sa vs.length cap, .func (.func 87) #[] #[c1]] w fun e w' => e = .returned (.int .i64 k) ∧ Ext w w' := by
  have HF := Lib.hid hF
  have HK := Lib.hid hk
  have HS := Lib.hid hS
  clear hF hk hS
  go_enter Tryz.func128, Tryz.ntmps128
  go_wp2_with fail
  go_loopw [8] (fun idx wr => ∃ i : Nat, i ≤ vs.length ∧ idx = .int .i64 i ∧ Hid (∀ j, j < i → p j = false) ∧ Ext w wr) (fun idx _ => vs.length - (intOf idx).toNat)
  case atStart => exact ⟨0, by omega, by go_num, Lib.hid (fun j h => by omega), Ext.refl _⟩
  case round =>
    obtain ⟨i, hi, rfl, Hp, hE⟩ := hrel
    generalize wr = X at *
    by_cases hlt : i < vs.length
    · have hii : (i : Int) < (vs.length : Int) := by omega
      obtain ⟨u, hu⟩ : ∃ u, u = vs[i] := ⟨_, rfl⟩
      have hc := hE.cell (HS.out.cell i u (by rw [hu]; exact List.getElem?_eq_getElem hlt))
      obtain rfl := HS.out.addr (by omega)
      have hf := HF.out i hlt X hE
      rw [← hu] at hf
      have Hf := Lib.hid hf
      clear hf hu
      cases hpi : p i
      · rw [hpi] at Hf
        have Hpi := Lib.hid hpi
        clear hpi
        go_wp2_with fail
        refine Hf.out.mono ?_
        rintro e W ⟨rfl, hE2⟩
        go_wp2_with fail
        go_roundw
        case rel => exact ⟨i + 1, by omega, by go_num, Lib.hid (fun j hj => by
          by_cases e : j = i
          · subst e; exact Hpi.out
          · exact Hp.out j (by omega)), hE.trans hE2⟩
        case measure => simp [intOf] <;> omega
      · rw [hpi] at Hf
        have Hki := Lib.hid (IxR_at HK.out hlt hpi Hp.out)
        clear hpi
        go_wp2_with fail
        refine Hf.out.mono ?_
        rintro e W ⟨rfl, hE2⟩
        go_wp2_with fail
        go_ret
        exact ⟨by rw [Hki.out]; rfl, hE.trans hE2⟩
    · have Hki := Lib.hid (IxR_no HK.out (fun j hj => Hp.out j (by omega)))
      go_wp2_with fail
      go_ret
      exact ⟨by rw [Hki.out]; rfl, hE⟩
set_option maxRecDepth 100000 in
theorem contains_incl {w : World} {sa : Option Addr} {gb go cap : Nat} {c1 : Value} {vs : List Value} {p : Nat → Bool} (hS : Sl w sa gb go vs) (hl : vs.length ≤ 1000000)
    (hF : ∀ i (h : i < vs.length) W, Ext w W → Calls Tryz.prog 87 #[vs[i], c1] W fun e w' => e = .returned (.bool (p i)) ∧ Ext W w') :
    Calls Tryz.prog 86 #[.slice sa vs.length cap, .func (.func 87) #[] #[c1]] w fun e w' => e = .returned (.bool (anyB p vs.length)) ∧ Ext w w' := by
  obtain ⟨k, hk⟩ := IxR_ex p vs.length
  have Hge := Lib.hid (IxR_ge hk)
  have HI := Lib.hid (index_incl (cap := cap) hS hl hF hk)
  clear hS hF hk
  go_enter Tryz.func86, Tryz.ntmps86
  go_wp2_with fail
  refine HI.out.mono ?_
  rintro e W ⟨rfl, hE⟩
  go_wp2_with fail
  go_ret
  exact ⟨by rw [← Hge.out]; rfl, hE⟩
end Go.Proofs.YthmhmkkcjlgbjaaGreatDoor
/- table: great, Check, Columns -/
namespace Go.Proofs.YthmhmkkcjlgbjaaGreatDoor
open Go.RowKit Go.Sort
/-- Beyond the limit. -/
def grt (z : Int) : Bool := decide (1000000000 < z ∨ z < -1000000000)
theorem great_any (z : Int) (w : World) : Calls Tryz.prog 79 #[.int .i64 z] w fun e w' => e = .returned (.bool (grt z)) ∧ Ext w w' := by
  by_cases h1 : 1000000000 < z
  · have hg : grt z = true := decide_eq_true (.inl h1)
    rw [hg]; clear hg
    go_enter Tryz.func79, Tryz.ntmps79
    go_wp2
    go_ret
    exact ⟨rfl, Ext.refl _⟩
  · have h2 : z ≤ 1000000000 := by omega
    by_cases h3 : z < -1000000000
    · have hg : grt z = true := decide_eq_true (.inr h3)
      rw [hg]; clear hg
      go_enter Tryz.func79, Tryz.ntmps79
      go_wp2
      go_ret
      exact ⟨rfl, Ext.refl _⟩
    · have h4 : -1000000000 ≤ z := by omega
      have hg : grt z = false := decide_eq_false (by omega)
      rw [hg]; clear hg
      go_enter Tryz.func79, Tryz.ntmps79
      go_wp2
      go_ret
      exact ⟨rfl, Ext.refl _⟩
/-- The error of a row of a matrix of c columns. -/
def chkR (c : Nat) (r : List Int) : Int := if 12 < r.length then 4 else if r.length ≠ c then 5 else if r.any grt then 4 else 0
def chk (c : Nat) : Mx → Int
  | [] => 0
  | r :: M => if chkR c r = 0 then chk c M else chkR c r
/-- The error of a matrix. -/
def checkM (M : Mx) : Int := if 12 < M.length then 4 else chk (M.getD 0 []).length M
theorem chk_at (c : Nat) : ∀ (M : Mx) (i : Nat) (h : i < M.length), (∀ j (hj : j < i), chkR c (M[j]'(by omega)) = 0) → chkR c M[i] ≠ 0 → chk c M = chkR c M[i]
  | [], _, h, _, _ => by simp at h
  | r :: M, 0, _, _, hne => by simp only [List.getElem_cons_zero] at hne ⊢; rw [chk, if_neg hne]
  | r :: M, i + 1, h, hz, hne => by
    rw [chk, if_pos (show chkR c r = 0 from hz 0 (by omega))]
    exact chk_at c M i (by simpa using h) (fun j hj => hz (j + 1) (by omega)) hne
theorem chk_all (c : Nat) : ∀ (M : Mx), (∀ j (hj : j < M.length), chkR c M[j] = 0) → chk c M = 0
  | [], _ => rfl
  | r :: M, hz => by
    rw [chk, if_pos (show chkR c r = 0 from hz 0 (by simp))]
    exact chk_all c M (fun j hj => hz (j + 1) (by simpa using hj))
theorem chk_ok {c : Nat} : ∀ {M : Mx}, chk c M = 0 → ∀ r ∈ M, chkR c r = 0
  | [], _, r, hr => by cases hr
  | r :: M, h, x, hx => by
    rw [chk] at h
    split at h
    · rcases List.mem_cons.1 hx with rfl | hx
      · assumption
      · exact chk_ok h x hx
    · exact absurd h ‹_›
theorem chkR_ok {c : Nat} {r : List Int} (h : chkR c r = 0) : r.length ≤ 12 ∧ r.length = c ∧ ∀ z ∈ r, -1000000000 ≤ z ∧ z ≤ 1000000000 := by
  unfold chkR at h
  split at h
  · cases h
  · split at h
    · cases h
    · split at h
      · cases h
      · rename_i h1 h2 h3
        refine ⟨by omega, by omega, fun z hz => ?_⟩
        have : grt z = false := by
          cases hg : grt z
          · rfl
          · exact absurd (List.any_eq_true.2 ⟨z, hz, hg⟩) h3
        unfold grt at this
        have := of_decide_eq_false this
        omega
/-- The columns of a matrix. -/
def ncols (M : Mx) : Nat := (M.getD 0 []).length
/-- A right matrix. -/
theorem checkM_ok {M : Mx} (h : checkM M = 0) : M.length ≤ 12 ∧ ncols M ≤ 12 ∧ Rect (ncols M) M ∧ ∀ r ∈ M, ∀ z ∈ r, -1000000000 ≤ z ∧ z ≤ 1000000000 := by
  unfold checkM at h
  split at h
  · cases h
  · have hr := fun r hr => chkR_ok (chk_ok h r hr)
    refine ⟨by omega, ?_, fun r h' => (hr r h').2.1, fun r h' => (hr r h').2.2⟩
    cases M with
    | nil => simp [ncols]
    | cons r M => exact (hr r (by simp)).1
theorem any_grt (r : List Int) : anyB (fun i => grt (r.getD i 0)) r.length = r.any grt := by
  cases h : r.any grt
  · refine anyB_no fun i hi => ?_
    rw [getD_get hi]
    cases hg : grt r[i]
    · rfl
    · rw [List.any_eq_true.2 ⟨_, List.getElem_mem hi, hg⟩] at h; cases h
  · obtain ⟨z, hz, hg⟩ := List.any_eq_true.1 h
    obtain ⟨i, hi, rfl⟩ := List.getElem_of_mem hz
    exact anyB_iff.2 ⟨i, hi, by rw [getD_get hi]; exact hg⟩
set_option maxRecDepth 100000 in
set_option maxHeartbeats 1000000 in
theorem tableCheck_any {w : World} {v : Value} {M : Mx} (hM : MatR w v M) :
    Calls Tryz.prog 45 #[v] w fun e w' => e = .returned (.int .i64 (checkM M)) ∧ Ext w w' := by
  obtain ⟨sa, gb, go, cap, vs, rfl, hcap, hvl, hS, hr⟩ := hM
  by_cases hbig : 12 < M.length
  · have hbi : (12 : Int) < (M.length : Int) := by omega
    have he : checkM M = 4 := by unfold checkM; rw [if_pos hbig]
    rw [he]
    clear he hS hr hvl
    go_enter Tryz.func45, Tryz.ntmps45
    go_wp2_with fail
    go_ret
    exact ⟨rfl, Ext.refl _⟩
  have he : checkM M = chk (M.getD 0 []).length M := by unfold checkM; rw [if_neg hbig]
  rw [he]
  have hml : M.length ≤ 12 := by omega
  have hmi : (M.length : Int) ≤ 12 := by omega
  have HS := Lib.hid hS
  have HV := Lib.hid hvl
  have HR := Lib.hid hr
  clear hS hvl hr he hbig
  go_enter Tryz.func45, Tryz.ntmps45
  go_wp2_with fail
  go_loopw [10] (fun idx wr => ∃ i : Nat, i ≤ M.length ∧ idx = .int .i64 i ∧ Hid (∀ j (h : j < M.length), j < i → chkR (M.getD 0 []).length M[j] = 0) ∧ Ext w wr) (fun idx _ => M.length - (intOf idx).toNat)
  case atStart => exact ⟨0, by omega, by go_num, Lib.hid (fun j _ h => by omega), Ext.refl _⟩
  case round =>
    obtain ⟨i, hi, rfl, Hz, hE⟩ := hrel
    generalize wr = X at *
    by_cases hlt : i < M.length
    · have hii : (i : Int) < (M.length : Int) := by omega
      have hi0 : 0 < M.length := by omega
      obtain rfl := HS.out.addr (by rw [HV.out]; omega)
      obtain ⟨sr, br, or, cr, hrow, hrc, hSr⟩ := MatR.row HS.out HV.out HR.out hlt
      obtain ⟨s0, b0, o0, c0, hrow0, hrc0, hS0⟩ := MatR.row HS.out HV.out HR.out hi0
      have hrow' := hE.cell hrow
      have hrow0' := hE.cell hrow0
      rw [Nat.add_zero] at hrow0'
      obtain ⟨c, hc⟩ : ∃ c, c = (M.getD 0 []).length := ⟨_, rfl⟩
      have hc0 : M[0].length = c := by rw [hc, getD_get hi0]
      rw [hc0] at hrow0'
      obtain ⟨n, hn⟩ : ∃ n, n = M[i].length := ⟨_, rfl⟩
      rw [← hn] at hrow'
      have HC := Lib.hid hc
      have Hn := Lib.hid hn
      have hat : chkR c M[i] ≠ 0 → chk (M.getD 0 []).length M = chkR c M[i] := fun h => by
        rw [hc]
        exact chk_at _ M i hlt (fun j hj => Hz.out j (by omega) hj) (by rw [← hc]; exact h)
      have Hat := Lib.hid hat
      clear hrow hrow0 hrc0 hS0 hc hc0 hn hat
      by_cases h12 : 12 < n
      · have h12i : (12 : Int) < (n : Int) := by omega
        have hch : chkR c M[i] = 4 := by unfold chkR; rw [← Hn.out, if_pos h12]
        have Hch := Lib.hid hch
        clear hch
        go_wp2_with fail
        go_ret
        exact ⟨by rw [Hat.out (by rw [Hch.out]; decide), Hch.out]; rfl, hE⟩
      · have h12i : (n : Int) ≤ 12 := by omega
        have h12d : decide ((12 : Int) < (n : Int)) = false := decide_eq_false (by omega)
        by_cases hnc : n = c
        · subst hnc
          have hgr := Lib.hid (contains_great (cap := cr) (p := fun k => grt (M[i].getD k 0)) (vs := is M[i]) (w := X) ((hSr.ext hE)) (by rw [is_length, ← Hn.out]; omega) (fun k hk W hW => by
            have hk' : k < M[i].length := by simpa using hk
            have e : (is M[i])[k] = .int .i64 M[i][k] := by simp [is]
            rw [e, getD_get hk']
            exact great_any M[i][k] W))
          rw [is_length, any_grt, ← Hn.out] at hgr
          cases hg : M[i].any grt
          · rw [hg] at hgr
            have Hg := Lib.hid hg
            clear hg h12
            go_wp2_with fail
            refine hgr.out.mono ?_
            rintro e W ⟨rfl, hW⟩
            go_wp2_with fail
            go_roundw
            case rel => exact ⟨i + 1, by omega, by go_num, Lib.hid (fun j h hj => by
              by_cases e : j = i
              · subst e; rw [← HC.out]; unfold chkR; rw [← Hn.out, if_neg (by omega), if_neg (by omega), Hg.out]; rfl
              · exact Hz.out j h (by omega)), hE.trans hW⟩
            case measure => simp [intOf] <;> omega
          · rw [hg] at hgr
            have hch : chkR n M[i] = 4 := by unfold chkR; rw [← Hn.out, if_neg (by omega), if_neg (by omega), hg]; rfl
            have Hch := Lib.hid hch
            clear hg h12 hch
            go_wp2_with fail
            refine hgr.out.mono ?_
            rintro e W ⟨rfl, hW⟩
            go_wp2_with fail
            go_ret
            exact ⟨by rw [Hat.out (by rw [Hch.out]; decide), Hch.out]; rfl, hE.trans hW⟩
        · have hch : chkR c M[i] = 5 := by unfold chkR; rw [← Hn.out, if_neg h12, if_pos hnc]
          have Hch := Lib.hid hch
          have hnb : ((n : Int) == (c : Int)) = false := beq_eq_false_iff_ne.2 (by omega)
          have hnb2 : ((n : Int) != (c : Int)) = true := by simp [bne, hnb]
          have hnc' : ¬ (n : Int) = (c : Int) := by omega
          clear hch hnc h12
          go_wp2_with fail
          go_ret
          exact ⟨by rw [Hat.out (by rw [Hch.out]; decide), Hch.out]; rfl, hE⟩
    · have Hch := Lib.hid (chk_all (M.getD 0 []).length M (fun j h => Hz.out j h (by omega)))
      go_wp2_with fail
      go_ret
      exact ⟨by rw [Hch.out]; rfl, hE⟩
theorem columns_any {w : World} {v : Value} {M : Mx} (hM : MatR w v M) :
    Calls Tryz.prog 48 #[v] w fun e w' => e = .returned (.int .i64 (ncols M)) ∧ Ext w w' := by
  obtain ⟨sa, gb, go, cap, vs, rfl, hcap, hvl, hS, hr⟩ := hM
  by_cases h0 : M.length = 0
  · have hn : ncols M = 0 := by
      have : M = [] := List.eq_nil_of_length_eq_zero h0
      rw [this]; rfl
    rw [h0, hn]
    clear hS hr hvl h0 hcap hn
    go_enter Tryz.func48, Tryz.ntmps48
    go_wp2_with fail
    go_ret
    exact ⟨rfl, Ext.refl _⟩
  · have hi0 : 0 < M.length := by omega
    obtain rfl := hS.addr (by rw [hvl]; omega)
    obtain ⟨s0, b0, o0, c0, hrow0, hrc0, hS0⟩ := MatR.row hS hvl hr hi0
    have hn : M[0].length = ncols M := by unfold ncols; rw [getD_get hi0]
    rw [hn, Nat.add_zero] at hrow0
    have hb : ((M.length : Int) == 0) = false := beq_eq_false_iff_ne.2 (by omega)
    have hb2 : ¬ (M.length : Int) = 0 := by omega
    clear hS hr hvl hn hS0 hrc0
    go_enter Tryz.func48, Tryz.ntmps48
    go_wp2_with fail
    go_ret
    exact ⟨rfl, Ext.refl _⟩
end Go.Proofs.YthmhmkkcjlgbjaaGreatDoor
/- hermite: small -/
namespace Go.Proofs.YthmhmkkcjlgbjaaGreatDoor
open Go.RowKit Go.Sort
theorem Tryz.infoInt : (Tryz.prog.info? 3).map (fun i => (i.zero, i.size, i.bytes)) = some (some (.int .i64 0), 1, 8) := by kernel_rfl
/-- All within the limit. -/
def smallB (l : List Int) : Bool := l.all fun z => !grt z
theorem smallB_iff {l : List Int} : smallB l = true ↔ ∀ z ∈ l, -1000000000 ≤ z ∧ z ≤ 1000000000 := by
  unfold smallB
  rw [List.all_eq_true]
  constructor
  · intro h z hz
    have := h z hz
    unfold grt at this
    simp only [Bool.not_eq_true', decide_eq_false_iff_not] at this
    omega
  · intro h z hz
    have := h z hz
    unfold grt
    simp only [Bool.not_eq_true', decide_eq_false_iff_not]
    omega
/-- An own row of ints. -/
def RowO (B : Nat) (w : World) (v : Value) (r : List Int) : Prop := ∃ g cap, v = slv g r.length cap ∧ OwnV 3 B w g cap (is r)
theorem RowO.row {B : Nat} {w : World} {v : Value} {r : List Int} (h : RowO B w v r) : RowR w v r := by
  obtain ⟨g, cap, e, ho⟩ := h
  have := ho.cap
  rw [is_length] at this
  exact ⟨_, g, 0, cap, e, this, ho.sl⟩
theorem RowO.ext {B : Nat} {w w' : World} {v : Value} {r : List Int} (h : RowO B w v r) (he : Ext w w') : RowO B w' v r := by
  obtain ⟨g, cap, e, ho⟩ := h; exact ⟨g, cap, e, ho.ext he⟩
def SmlPost (w : World) (l : List Int) (e : Ending) (w' : World) : Prop :=
  (if smallB l then ∃ v, e = .returned (.tuple #[v, .int .i64 0]) ∧ RowO w.heap.size w' v l else e = .returned (.tuple #[.slice none 0 0, .int .i64 4])) ∧ Ext w w'
theorem small_not {l : List Int} {i : Nat} (h : i < l.length) (hg : grt l[i] = true) : smallB l = false := by
  cases hs : smallB l
  · rfl
  · have := smallB_iff.1 hs _ (List.getElem_mem h)
    unfold grt at hg
    have := of_decide_eq_true hg
    omega
theorem small_yes {l : List Int} (h : ∀ j (hj : j < l.length), grt l[j] = false) : smallB l = true := by
  refine smallB_iff.2 fun z hz => ?_
  obtain ⟨j, hj, rfl⟩ := List.getElem_of_mem hz
  have := h j hj
  unfold grt at this
  have := of_decide_eq_false this
  omega
theorem is_take_snoc {l : List Int} {i : Nat} (h : i < l.length) : is (l.take (i + 1)) = is (l.take i) ++ [.int .i64 l[i]] := by
  rw [List.take_succ_eq_append_getElem h]; simp only [is, List.map_append, List.map_cons, List.map_nil]
set_option maxRecDepth 100000 in
set_option maxHeartbeats 1000000 in
theorem hSmall_any {w : World} {ga : Option Addr} {gb go cap : Nat} {l : List Int} (hS : Sl w ga gb go (ss l)) (hl : l.length ≤ 1000000) (hb : ∀ z ∈ l, nd z ≤ LIM) (hL : Laid w) :
    Calls Tryz.prog 49 #[.slice ga l.length cap] w (SmlPost w l) := by
  obtain ⟨i0, hi, hz0, hz1, hz2⟩ := info_parts Tryz.infoInt
  have HS := Lib.hid hS
  have HB := Lib.hid hb
  have HL := Lib.hid hL
  clear hS hb hL
  go_enter Tryz.func49, Tryz.ntmps49
  go_wp2_with (at_make; refine wpList_make_own _ rfl _ _ 35 rfl w.heap.size 3 i0 (.int .i64 0) 1 Tryz.underlying35 hi hz0 hz1 .i64 .i64 _ l.length rfl rfl (by omega) (by rw [hz2]; omega) (by unfold maxLen; omega) (Nat.le_refl _) ?_; intro w1 hown1 hgrow1)
  have he1 := ext_grown hgrow1
  obtain ⟨g, hg⟩ : ∃ g, g = w.heap.size := ⟨_, rfl⟩
  have Hg := Lib.hid hg
  have Hown := Lib.hid hown1
  rw [← hg] at Hown ⊢
  clear hg hown1 hgrow1
  go_loopw [4, 14] (fun out idx wr => ∃ i : Nat, i ≤ l.length ∧ idx = .int .i64 i ∧ out = slv g i l.length ∧ Hid (wr.ownsRow g 3 1 (slv g i l.length) i (is (l.take i))) ∧ Hid (∀ j (h : j < l.length), j < i → grt l[j] = false) ∧ Ext w wr) (fun _ idx _ => l.length - (intOf idx).toNat)
  case atStart => exact ⟨0, by omega, by go_num, rfl, Hown, Lib.hid (fun j _ h => by omega), he1⟩
  case round =>
    obtain ⟨i, hi', rfl, rfl, HO, Hz, hE⟩ := hrel
    generalize wr = X at *
    by_cases hlt : i < l.length
    · have hii : (i : Int) < (l.length : Int) := by omega
      obtain ⟨z, hz⟩ : ∃ z, z = l[i] := ⟨_, rfl⟩
      have hc := hE.cell (HS.out.cell i (I z) (by rw [hz]; simp [ss, hlt]))
      obtain rfl := HS.out.addr (by simp; omega)
      have hsm := Lib.hid (wholeSmall_any (z := z) (w := X) (HB.out z (by rw [hz]; exact List.getElem_mem hlt)) (HL.out.ext hE))
      have Hzz := Lib.hid hz
      cases hgz : grt z
      · have hzb : -1000000000 ≤ z ∧ z ≤ 1000000000 := by
          unfold grt at hgz; have := of_decide_eq_false hgz; omega
        have hin : inI64 z = true := decide_eq_true (by omega)
        rw [hin, if_pos rfl] at hsm
        obtain ⟨hy1, hy2⟩ := hzb
        have Hgz := Lib.hid hgz
        have hgX := Nat.lt_of_lt_of_le (show g < X.heap.size from (World.ownsRow.lt HO.out g rfl).2) (Nat.le_refl _)
        clear hin hgz hz
        go_wp2_with (first
          | (go_at_call 85; refine hsm.out.mono ?_; rintro e W ⟨rfl, hW⟩; have hWg : g < W.heap.size := Nat.lt_of_lt_of_le hgX hW.size)
          | (at_builtin; refine wpList_append_fits _ rfl _ _ 35 rfl g 3 i0 1 Tryz.underlying35 hi hz1 g i l.length _ rfl (World.ownsRow.alloc (ownsRow_ext HO.out hW) _) ⟨W.heap.size, 0, none⟩ 1 1 [.int .i64 z] rfl rfl (cell_one_new _ _ _) (one_int _ _) (by omega) ?_; intro w2 hown2 hgrow2))
        have hE2 : Ext w w2 := Ext.mk' (Below.grown ((hE.trans hW).alloc _) hgrow2 (by have := hE.size; have := hW.size; simp; omega) (by intro q hq; injection hq with hq; have := Hg.out; omega))
        rw [Hzz.out, ← is_take_snoc hlt] at hown2
        clear hgrow2 hW
        go_roundw
        case rel => exact ⟨i + 1, by omega, by go_num, rfl, Lib.hid hown2, Lib.hid (fun j h hj => by
          by_cases e : j = i
          · subst e; rw [← Hzz.out]; exact Hgz.out
          · exact Hz.out j h (by omega)), hE2⟩
        case measure => simp [intOf] <;> omega
      · have Hno := Lib.hid (small_not hlt (by rw [← hz]; exact hgz))
        have hzb : 1000000000 < z ∨ z < -1000000000 := by
          unfold grt at hgz; exact of_decide_eq_true hgz
        clear hgz hz
        have hfin : ∀ W, Ext w W → SmlPost w l (.returned (.tuple #[.slice none 0 0, .int .i64 4])) W := fun W hW => by
          unfold SmlPost; rw [if_neg (by rw [Hno.out]; decide)]; exact ⟨rfl, hW⟩
        have Hfin := Lib.hid hfin
        clear hfin
        cases hin : inI64 z
        · rw [hin, if_neg (by decide)] at hsm
          clear hin hzb
          go_wp2_with (first
            | (go_at_call 85; refine hsm.out.mono ?_; rintro e W ⟨rfl, hW⟩))
          go_ret2
          exact Hfin.out _ (hE.trans hW)
        · rw [hin, if_pos rfl] at hsm
          clear hin
          rcases hzb with hzb | hzb
          · go_wp2_with (first
              | (go_at_call 85; refine hsm.out.mono ?_; rintro e W ⟨rfl, hW⟩))
            go_ret2
            exact Hfin.out _ (hE.trans hW)
          · have hzc : z ≤ 1000000000 := by omega
            go_wp2_with (first
              | (go_at_call 85; refine hsm.out.mono ?_; rintro e W ⟨rfl, hW⟩))
            go_ret2
            exact Hfin.out _ (hE.trans hW)
    · have hie : i = l.length := by omega
      subst hie
      go_wp2_with fail
      go_ret2
      have hs : smallB l = true := small_yes (fun j hj => Hz.out j hj hj)
      refine ⟨?_, hE⟩
      rw [if_pos hs]
      refine ⟨_, rfl, g, l.length, rfl, ?_⟩
      have := HO.out
      rw [List.take_length] at this
      have h2 : OwnV 3 g X g l.length (is l) := by unfold OwnV; rw [is_length]; exact this
      rw [← Hg.out]; exact h2
end Go.Proofs.YthmhmkkcjlgbjaaGreatDoor
