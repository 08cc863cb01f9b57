/- Part 16 of the proof of the claim: contracts of the functions that it reaches, and plain laws; no condition. -/
import Derived.Test.YtnmmglnadnfoiaaGreatDoorV04
import Derived.Test.YtnmmglnadnfoiaaGreatDoorV15
import Derived.Test.YtnmmglnadnfoiaaGreatDoorV13
/- Plain: what smith.diagonal does, as a function on lists of rows. -/
namespace Go.Proofs.YtnmmglnadnfoiaaGreatDoor
def rowSub (i t : Nat) (q : Int) (A : Mx) : Mx := A.set i (subK q (A.getD i []) (A.getD t []))
def colSub (i o : Nat) (q : Int) (A : Mx) : Mx := A.map fun l => l.set i (l.getD i 0 - q * l.getD o 0)
def rowSwap (i j : Nat) (A : Mx) : Mx := (A.set i (A.getD j [])).set j (A.getD i [])
def swapL (i j : Nat) (l : List Int) : List Int := (l.set i (l.getD j 0)).set j (l.getD i 0)
def colSwap (i j : Nat) (A : Mx) : Mx := A.map (swapL i j)
def rowNeg (i : Nat) (A : Mx) : Mx := A.set i ((A.getD i []).map fun z => -z)
/-- The better one of a place and a further one. -/
def betB (A : Mx) (b : Option (Nat × Nat)) (i k : Nat) : Option (Nat × Nat) :=
  if eM A i k = 0 then b else match b with
    | none => some (i, k)
    | some p => if (eM A i k).natAbs < (eM A p.1 p.2).natAbs then some (i, k) else b
def bestRow (A : Mx) (i t : Nat) (b : Option (Nat × Nat)) : Nat → Option (Nat × Nat)
  | 0 => b
  | k + 1 => betB A (bestRow A i t b k) i (t + k)
def bestAll (A : Mx) (t w : Nat) : Nat → Option (Nat × Nat)
  | 0 => none
  | i + 1 => bestRow A (t + i) t (bestAll A t w i) w
/-- The matrix, and the two that were combined. -/
structure Dg where
  a : Mx
  l : Mx
  r : Mx
  deriving Inhabited
def swapD (t i k : Nat) (s : Dg) : Dg := ⟨colSwap t k (rowSwap t i s.a), rowSwap t i s.l, colSwap t k s.r⟩
def rowStep (t i : Nat) (s : Dg) : Dg := ⟨rowSub i t ((eM s.a i t).fdiv (eM s.a t t)) s.a, rowSub i t ((eM s.a i t).fdiv (eM s.a t t)) s.l, s.r⟩
def rowsTo (t : Nat) : Nat → Dg → Dg
  | 0, s => s
  | j + 1, s => rowStep t (t + 1 + j) (rowsTo t j s)
def rowsOk (t : Nat) : Nat → Dg → Bool
  | 0, _ => true
  | j + 1, s => rowsOk t j s && decide ((eM (rowsTo t j s).a (t + 1 + j) t).fmod (eM (rowsTo t j s).a t t) = 0)
def colStep (t k : Nat) (s : Dg) : Dg := ⟨colSub k t ((eM s.a t k).fdiv (eM s.a t t)) s.a, s.l, colSub k t ((eM s.a t k).fdiv (eM s.a t t)) s.r⟩
def colsTo (t : Nat) : Nat → Dg → Dg
  | 0, s => s
  | j + 1, s => colStep t (t + 1 + j) (colsTo t j s)
def colsOk (t : Nat) : Nat → Dg → Bool
  | 0, _ => true
  | j + 1, s => colsOk t j s && decide ((eM (colsTo t j s).a t (t + 1 + j)).fmod (eM (colsTo t j s).a t t) = 0)
def clearD (n c t : Nat) (s : Dg) : Dg := colsTo t (c - (t + 1)) (rowsTo t (n - (t + 1)) s)
def clearOk (n c t : Nat) (s : Dg) : Bool := rowsOk t (n - (t + 1)) s && colsOk t (c - (t + 1)) (rowsTo t (n - (t + 1)) s)
/-- A row with an element that the one of the diagonal does not divide. -/
def badRow (A : Mx) (t i : Nat) : Nat → Bool
  | 0 => false
  | k + 1 => badRow A t i k || decide ((eM A i (t + 1 + k)).fmod (eM A t t) ≠ 0)
def spoil (A : Mx) (t w : Nat) : Nat → Option Nat
  | 0 => none
  | j + 1 => match spoil A t w j with
    | some x => some x
    | none => if badRow A t (t + 1 + j) w then some (t + 1 + j) else none
def addD (t i : Nat) (s : Dg) : Dg := ⟨rowSub t i (-1) s.a, rowSub t i (-1) s.l, s.r⟩
def posD (t : Nat) (s : Dg) : Dg := if eM s.a t t < 0 then ⟨rowNeg t s.a, rowNeg t s.l, s.r⟩ else s
/-- A round; none: nothing is left. -/
def stepD (n c t : Nat) (s : Dg) : Option (Nat × Dg) :=
  match bestAll s.a t (c - t) (n - t) with
  | none => none
  | some (i, k) =>
    if clearOk n c t (swapD t i k s) then
      match spoil (clearD n c t (swapD t i k s)).a t (c - (t + 1)) (n - (t + 1)) with
      | some j => some (t, addD t j (clearD n c t (swapD t i k s)))
      | none => some (t + 1, posD t (clearD n c t (swapD t i k s)))
    else some (t, clearD n c t (swapD t i k s))
def bddM (E : Nat) (A : Mx) : Bool := A.all fun l => l.all fun z => decide (z.natAbs < 2 ^ E)
def bddD (E : Nat) (s : Dg) : Bool := bddM E s.a && bddM E s.l && bddM E s.r
/-- So many rounds lead to the end, all with numbers of less than E binary digits at their heads. -/
def runD (E n c : Nat) : Nat → Nat → Dg → Option (Nat × Dg)
  | 0, _, _ => none
  | f + 1, t, s => if bddD E s then match stepD n c t s with
      | none => some (t, s)
      | some p => runD E n c f p.1 p.2
    else none
def unitM (n : Nat) : Mx := (List.range n).map fun i => unitR n i
def startD (M : Mx) (c : Nat) : Dg := ⟨M, unitM M.length, unitM c⟩
example : (runD 64 2 2 10 0 (startD [[-3, 2], [-1, 1]] 2)).map (fun p => (p.1, p.2.a)) = some (2, [[1, 0], [0, 1]]) := by decide
end Go.Proofs.YtnmmglnadnfoiaaGreatDoor
/- smith: unit, small. -/
namespace Go.Proofs.YtnmmglnadnfoiaaGreatDoor
open Go.RowKit Go.Sort
@[simp] theorem unitM_length (n : Nat) : (unitM n).length = n := by simp [unitM]
theorem unitM_get {n i : Nat} (h : i < (unitM n).length) : (unitM n)[i] = unitR n i := by simp [unitM]
theorem unitM_rect (n : Nat) : Rect n (unitM n) := fun r hr => by
  obtain ⟨i, hi, rfl⟩ := List.getElem_of_mem hr
  rw [unitM_get]; simp [unitR]
set_option maxRecDepth 100000 in
set_option maxHeartbeats 1000000 in
theorem sunit_any {w : World} {n : Nat} (hn : n ≤ 1000000) :
    Calls Tryz.prog 95 #[.int .i64 n] w fun e w' => ∃ v' ad, e = .returned v' ∧ GrX w.heap.size w' v' (unitM n) ad ∧ Ext w w' := by
  go_enter Tryz.func95, Tryz.ntmps95
  go_wp2_with fail
  go_loopw [3, 7] (fun out idx wr => ∃ (i : Nat) (ad : List (Nat × Nat)), i ≤ n ∧ idx = .int .i64 i ∧ Hid (GrX w.heap.size wr out ((unitM n).take i) ad) ∧ Ext w wr) (fun _ idx _ => n - (intOf idx).toNat)
  case atStart => exact ⟨0, [], by omega, by go_num, Lib.hid (GrX.nil _ _), Ext.refl _⟩
  case round =>
    obtain ⟨i, ad, hi', rfl, hV, hE⟩ := hrel
    generalize wr = X at *
    by_cases hlt : i < n
    · have hii : (i : Int) < (n : Int) := by omega
      have Hsn := Lib.hid (show (unitM n).take (i + 1) = (unitM n).take i ++ [unitR n i] by rw [take_snocM (by simpa using hlt), unitM_get])
      have Hil := Lib.hid (show ((unitM n).take i).length = i by rw [List.length_take, unitM_length]; omega)
      have Hlt := Lib.hid hV.out.lt
      have hXw := hE.size
      have hrep := Lib.hid (fun W (hW : W.cell? ⟨X.heap.size, 0, none⟩ = some (I 0)) => repeat_any (m := n) hn (b := X.heap.size) (o := 0) (c := 1) (z := 0) (w := W) hW)
      go_wp2_with fail
      have hz1 : I 0 = .string ⟨#[48]⟩ := by unfold I S; rw [itoa_zero]
      have hz49 : I 1 = .string ⟨#[49]⟩ := by unfold I S; rw [show (1 : Int) = ((1 : Nat) : Int) from rfl, itoa_nat, Lib.decDigits]; rfl
      have Hz49 := Lib.hid hz49
      refine (hrep.out _ (by rw [hz1]; go_simp)).mono ?_
      rintro e W1 ⟨gy, cy, rfl, hY, hE1⟩
      clear hrep hz1 hz49
      have hE2 := ((Ext.refl X).alloc (.cells #[.string ⟨#[48]⟩] 106)).trans hE1
      have hYb : X.heap.size < gy := by have := hY.lt.1; simp at this; omega
      have y1 := hY.cell (j := i) (by simpa using hlt)
      have y2 := hY.frozen i
      obtain ⟨hY3, hG3⟩ := hY.set i (I 1)
      rw [← ss_set, Hz49.out] at hY3
      rw [Hz49.out] at hG3
      have hE3 := ext_trans_grown hE2 hG3 (by omega)
      have HY := Lib.hid (show OwnV 106 X.heap.size (W1.setCell ⟨gy, i, none⟩ (.string ⟨#[49]⟩)) gy cy (ss (unitR n i)) from hY3.mono (by simp))
      have hYW := HY.out.lt
      clear hY hY3 hG3 hE1 hE2 Hz49
      have hnl : (unitR n i).length = n := by simp [unitR]
      have Hnl := Lib.hid hnl
      have Hne := Lib.hid (show 0 < (unitR n i).length → ∀ k (h : k < ad.length) (h' : k < ((unitM n).take i).length), 0 < ((unitM n).take i)[k].length → ad[k].1 ≠ gy from fun h k a b c => by
        have h2 := (Hlt.out k a b c).2
        omega)
      clear hnl
      have hsz := hE3.size
      go_wp2_with (at_builtin; refine app_grid rfl _ _ rfl (B := w.heap.size) rfl ((hV.out.ext hE3).ext ((Ext.refl _).alloc _)) rfl (b := W1.heap.size) (r := unitR n i) (g0 := gy) (c0 := cy) (by rw [Hnl.out, xv_pos (by omega)]; go_simp) (fun h => (HY.out.mono hXw).ext ((Ext.refl _).alloc _)) Hne.out (by rw [Hil.out]; omega) (by simp; have := hE3.size; simp at this; omega) ?_; intro gg cap2 w8 hO8 hB8 hG8; rw [Hil.out, ← Hsn.out] at hO8; rw [Hil.out])
      have hE8 : Ext w w8 := Below.trans ((hE.trans hE3).alloc (.cells #[slv gy n cy] 103)) hB8
      have HO8 := Lib.hid hO8
      clear hG8 hB8 hO8
      go_wp2_with fail
      go_roundw
      case rel => exact ⟨i + 1, _, by omega, by go_num, HO8, hE8⟩
      case measure => simp [intOf] <;> omega
    · have hie : i = n := by omega
      subst hie
      go_wp2_with fail
      go_ret
      have := hV.out
      rw [List.take_of_length_le (by simp)] at this
      exact ⟨_, ad, rfl, this, hE⟩
/-- The result of small. -/
def SmaPost (w : World) (M : Mx) (e : Ending) (w' : World) : Prop :=
  (if smallM M then ∃ v, e = .returned (.tuple #[v, .int .i64 0]) ∧ MatO w.heap.size w' v M else e = .returned (.tuple #[.slice none 0 0, .int .i64 4])) ∧ Ext w w'
set_option maxRecDepth 100000 in
set_option maxHeartbeats 1000000 in
theorem ssmall_any {w : World} {v : Value} {M : Mx} (hM : GridR w v M) (hl : M.length ≤ 1000000) (hn : ∀ r ∈ M, r.length ≤ 1000000) (hb : ∀ r ∈ M, ∀ z ∈ r, nd z ≤ LIM) (hL : Laid w) :
    Calls Tryz.prog 65 #[v] w (SmaPost w M) := by
  obtain ⟨sa, gb, go, cap, vs, rfl, hcap, hvl, hS, hr⟩ := hM
  have HS := Lib.hid hS
  have HV := Lib.hid hvl
  have HR := Lib.hid hr
  have HN := Lib.hid hn
  have HB := Lib.hid hb
  have HL := Lib.hid hL
  clear hS hvl hr hn hb hL
  go_enter Tryz.func65, Tryz.ntmps65
  go_wp2_with fail
  go_loopw [4, 14] (fun out idx wr => ∃ i : Nat, i ≤ M.length ∧ idx = .int .i64 i ∧ Hid (MatO w.heap.size wr out (M.take i)) ∧ Hid (∀ j (h : j < M.length), j < i → smallB M[j] = true) ∧ Ext w wr) (fun _ idx _ => M.length - (intOf idx).toNat)
  case atStart => exact ⟨0, by omega, by go_num, Lib.hid (MatO.nil _ _), Lib.hid (fun j _ h => by omega), Ext.refl _⟩
  case round =>
    obtain ⟨i, hi', rfl, hV, Hs, hE⟩ := hrel
    generalize wr = X at *
    by_cases hlt : i < M.length
    · have hii : (i : Int) < (M.length : Int) := by omega
      obtain rfl := HS.out.addr (by rw [HV.out]; omega)
      obtain ⟨sr, br, or, cr, hrow, hrc, hSr⟩ := GridR.row HS.out HV.out HR.out hlt
      obtain ⟨r, hr⟩ : ∃ r, r = M[i] := ⟨_, rfl⟩
      have Hrb := Lib.hid (HB.out _ (List.getElem_mem hlt))
      have hrn := HN.out _ (List.getElem_mem hlt)
      have Hsn := Lib.hid (take_snocM hlt)
      have Hri := Lib.hid hr
      rw [← hr] at hrow hrc hSr Hrb hrn Hsn
      have hrow' := hE.cell hrow
      have HSr := Lib.hid (hSr.ext hE)
      have Hil := Lib.hid (show (M.take i).length = i by rw [List.length_take]; omega)
      have hXw := hE.size
      have hE0 := (Ext.refl X).alloc (.cells #[] 3)
      have HO0 := Lib.hid (row_empty (heap_new X (.cells #[] 3)) (Nat.le_refl X.heap.size))
      clear hrow hSr hr
      go_wp2_with fail
      go_loopw [7, 21] (fun lv jdx wr => ∃ j : Nat, j ≤ r.length ∧ jdx = .int .i64 j ∧ Hid (RowV X.heap.size wr lv (r.take j)) ∧ Hid (∀ t (h : t < r.length), t < j → grt r[t] = false) ∧ Ext X wr) (fun _ jdx _ => r.length - (intOf jdx).toNat)
      case atStart => exact ⟨0, by omega, by go_num, HO0, Lib.hid (fun j _ h => by omega), hE0⟩
      case round =>
        clear HO0 hE0
        obtain ⟨j, hj, rfl, hO, Hz, hE2⟩ := hrel
        generalize wr = Y at *
        by_cases hjl : j < r.length
        · have hji : (j : Int) < (r.length : Int) := by omega
          obtain ⟨z, hz⟩ : ∃ z, z = r[j] := ⟨_, rfl⟩
          have hcz := hE2.cell (HSr.out.cell j (I z) (by rw [hz]; simp [ss, hjl]))
          obtain rfl := HSr.out.addr (by simp; omega)
          have hsm := Lib.hid (wholeSmall_any (z := z) (w := Y) (Hrb.out z (by rw [hz]; exact List.getElem_mem hjl)) (HL.out.ext (hE.trans hE2)))
          have Hjl := Lib.hid (show (r.take j).length = j by rw [List.length_take]; omega)
          have Hsj := Lib.hid (show r.take (j + 1) = r.take j ++ [z] by rw [List.take_succ_eq_append_getElem hjl, hz])
          have Hzz := Lib.hid hz
          have hXY := hE2.size
          cases hgz : grt z
          · have hzb : -1000000000 ≤ z ∧ z ≤ 1000000000 := by
              unfold grt at hgz; have := of_decide_eq_false hgz; omega
            have hin : inI64 z = true := decide_eq_true (by omega)
            rw [hin, if_pos rfl] at hsm
            obtain ⟨hy1, hy2⟩ := hzb
            have Hgz := Lib.hid hgz
            clear hin hgz hz
            go_wp2_with (first
              | (go_at_call 104; refine hsm.out.mono ?_; rintro e W ⟨rfl, hW⟩; have hYW := hW.size)
              | (at_builtin; refine app_int rfl _ _ 30 Tryz.underlying30 rfl rfl ((hO.out.ext hW).ext ((Ext.refl _).alloc _)) rfl (b := W.heap.size) (z := z) (by go_simp) (by rw [Hjl.out]; omega) (by simp; omega) ?_; intro gg cap2 w8 hO8 hB8 hG8; rw [Hjl.out] at hO8 ⊢; rw [← Hsj.out] at hO8))
            have hE8 : Ext X w8 := Below.trans ((hE2.trans hW).alloc (.cells #[.int .i64 z] 3)) hB8
            have HO8 := Lib.hid hO8
            clear hG8 hB8 hO8
            go_wp2_with fail
            go_roundw
            case rel => exact ⟨j + 1, by omega, by go_num, HO8, Lib.hid (fun t h ht => by
              by_cases e : t = j
              · subst e; rw [← Hzz.out]; exact Hgz.out
              · exact Hz.out t h (by omega)), hE8⟩
            case measure => simp [intOf] <;> omega
          · have Hno := Lib.hid (smallM_not hlt (by rw [← Hri.out]; exact small_not hjl (by rw [← hz]; exact hgz)))
            have hzb : 1000000000 < z ∨ z < -1000000000 := by
              unfold grt at hgz; exact of_decide_eq_true hgz
            clear hgz hz
            have hfin : ∀ W, Ext w W → SmaPost w M (.returned (.tuple #[.slice none 0 0, .int .i64 4])) W := fun W hW => by
              unfold SmaPost; rw [if_neg (by rw [Hno.out]; decide)]; exact ⟨rfl, hW⟩
            have Hfin := Lib.hid hfin
            clear hfin
            cases hin : inI64 z
            · rw [hin, if_neg (by decide)] at hsm
              clear hin hzb
              go_wp2_with (first
                | (go_at_call 104; refine hsm.out.mono ?_; rintro e W ⟨rfl, hW⟩))
              go_ret2
              exact Hfin.out _ ((hE.trans hE2).trans hW)
            · rw [hin, if_pos rfl] at hsm
              clear hin
              rcases hzb with hzb | hzb
              · go_wp2_with (first
                  | (go_at_call 104; refine hsm.out.mono ?_; rintro e W ⟨rfl, hW⟩))
                go_ret2
                exact Hfin.out _ ((hE.trans hE2).trans hW)
              · have hzc : z ≤ 1000000000 := by omega
                go_wp2_with (first
                  | (go_at_call 104; refine hsm.out.mono ?_; rintro e W ⟨rfl, hW⟩))
                go_ret2
                exact Hfin.out _ ((hE.trans hE2).trans hW)
        · have hje : j = r.length := by omega
          have htk : r.take j = r := List.take_of_length_le (by omega)
          rw [htk] at hO
          have Hsb := Lib.hid (small_yes (l := r) (fun t ht => Hz.out t ht (by omega)))
          obtain ⟨xa, xl, xk, hxv⟩ : ∃ xa xl xk, u7 = .slice xa xl xk := by
            rcases hO.out.2 with ⟨rfl, h1⟩ | ⟨g, cap, cur, rfl, hb, hg, hn, hm, hs, ht⟩
            · exact ⟨_, _, _, rfl⟩
            · exact ⟨_, _, _, rfl⟩
          subst hxv
          have hXY := hE2.size
          clear htk Hz
          go_wp2_with (at_builtin; refine app_mat rfl _ _ rfl (B := w.heap.size) rfl ((hV.out.ext hE2).ext ((Ext.refl _).alloc _)) rfl (b := Y.heap.size) (rv := .slice xa xl xk) (r := r) (by go_simp) ((hO.out.mono hXw).ext ((Ext.refl _).alloc _)) (by rw [Hil.out]; omega) (by simp; omega) ?_; intro gg cap2 w8 hO8 hB8 hG8; rw [Hil.out, ← Hsn.out] at hO8; rw [Hil.out])
          have hE8 : Ext w w8 := Below.trans ((hE.trans hE2).alloc (.cells #[.slice xa xl xk] 30)) hB8
          have HO8 := Lib.hid hO8
          clear hG8 hB8 hO8
          go_wp2_with fail
          go_roundw
          case rel => exact ⟨i + 1, by omega, by go_num, HO8, Lib.hid (fun t h ht => by
            by_cases e : t = i
            · subst e; rw [← Hri.out]; exact Hsb.out
            · exact Hs.out t h (by omega)), hE8⟩
          case measure => simp [intOf] <;> omega
    · have hie : i = M.length := by omega
      subst hie
      go_wp2_with fail
      go_ret2
      have hsm : smallM M = true := smallM_yes (fun j hj => Hs.out j hj hj)
      refine ⟨?_, hE⟩
      rw [if_pos hsm]
      have := hV.out
      rw [List.take_length] at this
      exact ⟨_, rfl, this⟩
end Go.Proofs.YtnmmglnadnfoiaaGreatDoor
/- smith: grids as lines: rows taken from one another, turned, exchanged. -/
namespace Go.Proofs.YtnmmglnadnfoiaaGreatDoor
open Go.RowKit Go.Sort
def rowsL (ls : List Ln) : Mx := ls.map (·.1)
@[simp] theorem rowsL_length (ls : List Ln) : (rowsL ls).length = ls.length := by simp [rowsL]
theorem rowsL_getD (ls : List Ln) (i : Nat) : (rowsL ls).getD i [] = (ls.getD i default).1 := by
  unfold rowsL
  simp only [List.getD_eq_getElem?_getD, List.getElem?_map]
  cases ls[i]? <;> rfl
theorem rowsL_set (ls : List Ln) (i : Nat) (l : Ln) : rowsL (ls.set i l) = (rowsL ls).set i l.1 := by simp [rowsL, List.map_set]
theorem rowsL_swp (ls : List Ln) (i j : Nat) : rowsL (swp ls i j) = sw2 (rowsL ls) [] i j := by
  unfold swp sw2
  rw [rowsL_set, rowsL_set, rowsL_getD, rowsL_getD]
theorem rowsL_ln1 (M : Mx) : rowsL (ln1 M) = M := by simp [rowsL, ln1, Function.comp_def]
/-- A grid of N rows of n elements, n > 0. -/
structure Gr (B : Nat) (w : World) (g cap N n : Nat) (ad : List (Nat × Nat)) (ls : List Ln) : Prop where
  gr : GrX B w (slv g N cap) (rowsL ls) ad
  len : ls.length = N
  dim : Dim n 0 ls
theorem Gr.ext {B : Nat} {w w' : World} {g cap N n : Nat} {ad : List (Nat × Nat)} {ls : List Ln} (h : Gr B w g cap N n ad ls) (he : Ext w w') : Gr B w' g cap N n ad ls := ⟨h.gr.ext he, h.len, h.dim⟩
theorem Gr.rect {B : Nat} {w : World} {g cap N n : Nat} {ad : List (Nat × Nat)} {ls : List Ln} (h : Gr B w g cap N n ad ls) : Rect n (rowsL ls) := fun r hr => by
  obtain ⟨l, hl, rfl⟩ := List.mem_map.1 hr; exact (h.dim l hl).1
theorem Gr.grl {B : Nat} {w : World} {g cap N n : Nat} {ad : List (Nat × Nat)} {ls : List Ln} (h : Gr B w g cap N n ad ls) : GrX B w (slv g (rowsL ls).length cap) (rowsL ls) ad := by
  have := h.gr; rwa [← h.len, ← rowsL_length] at this
theorem Gr.base {B : Nat} {w : World} {g cap N n : Nat} {ad : List (Nat × Nat)} {ls : List Ln} (h : Gr B w g cap N n ad ls) : B ≤ g ∧ g < w.heap.size := h.grl.outer.lt
theorem Gr.fz {B : Nat} {w : World} {g cap N n : Nat} {ad : List (Nat × Nat)} {ls : List Ln} (h : Gr B w g cap N n ad ls) (o : Nat) : w.frozen? ⟨g, o, none⟩ = false := h.grl.outer.frozen o
theorem ss_at {r : List Int} {c : Nat} (h : c < r.length) (h' : c < (ss r).length) : (ss r)[c] = I (r.getD c 0) := by rw [getD_get h]; simp [ss]
theorem Gr.ln {B : Nat} {w : World} {g cap N n d i c : Nat} {ad : List (Nat × Nat)} {ls : List Ln} (h : Gr B w g cap N n ad ls) (hi : d + i < N) (hc : c < n) :
    ∃ gx cx, ad[d + i]? = some (gx, cx) ∧ w.cell? ⟨g, d + i, none⟩ = some (slv gx n cx) ∧ w.cell? ⟨gx, c, none⟩ = some (I (cols c d ls i)) ∧ OwnV 106 B w gx cx (ss (ls.getD (d + i) default).1) ∧ gx ≠ g := by
  obtain ⟨gx, cx, h1, h2, h3, h4, h5⟩ := h.grl.at h.rect (by omega) (i := d + i) (by rw [rowsL_length, h.len]; exact hi)
  rw [rowsL_getD] at h3 h5
  refine ⟨gx, cx, h1, h2, ?_, h3, h4⟩
  rw [h3.cell (j := c) (by rw [ss_length, h5]; exact hc)]
  exact congrArg some (ss_at (by rw [h5]; exact hc) _)
theorem Gr.ne {B : Nat} {w : World} {g cap N n i t gx cx gt ct : Nat} {ad : List (Nat × Nat)} {ls : List Ln} (h : Gr B w g cap N n ad ls) (hn : 0 < n) (hi : i < N) (ht : t < N) (hne : i ≠ t) (hai : ad[i]? = some (gx, cx)) (hat : ad[t]? = some (gt, ct)) : gx ≠ gt := by
  obtain ⟨h1, e1⟩ := List.getElem?_eq_some_iff.1 hai
  obtain ⟨h2, e2⟩ := List.getElem?_eq_some_iff.1 hat
  have hl : ∀ j (hj : j < (rowsL ls).length), 0 < (rowsL ls)[j].length := fun j hj => by rw [h.rect _ (List.getElem_mem hj)]; exact hn
  have hi' : i < (rowsL ls).length := by rw [rowsL_length, h.len]; exact hi
  have ht' : t < (rowsL ls).length := by rw [rowsL_length, h.len]; exact ht
  have := h.gr.dis i t h1 h2 hi' ht' (hl i hi') (hl t ht') hne
  rw [e1, e2] at this
  exact this
theorem Gr.wrote {B : Nat} {w w' : World} {g cap N n i gx cx : Nat} {ad : List (Nat × Nat)} {ls : List Ln} (h : Gr B w g cap N n ad ls) (hn : 0 < n) (hi : i < N) (hai : ad[i]? = some (gx, cx)) {l : Ln} (hl : l.1.length = n ∧ l.2.length = 0)
    (hO : OwnV 106 B w' gx cx (ss l.1)) (hG : w.grownBy w' (some gx)) : Gr B w' g cap N n ad (ls.set i l) := by
  have hi' : i < (rowsL ls).length := by rw [rowsL_length, h.len]; exact hi
  have h1 := h.grl.wrote hi' hai (r := l.1) (by rw [rowsL_getD, hl.1, (h.dim.getD (by rw [h.len]; exact hi)).1]) (by omega) hO (Chg.of_grown hG rfl)
  rw [← rowsL_set, rowsL_length, h.len] at h1
  exact ⟨h1, by rw [List.length_set]; exact h.len, h.dim.set i hl⟩
theorem Gr.swap {B : Nat} {w : World} {g cap N n i j gi ci gj cj : Nat} {ad : List (Nat × Nat)} {ls : List Ln} (h : Gr B w g cap N n ad ls) (hn : 0 < n) (hi : i < N) (hj : j < N) (hai : ad[i]? = some (gi, ci)) (haj : ad[j]? = some (gj, cj)) :
    Gr B ((w.setCell ⟨g, i, none⟩ (slv gj n cj)).setCell ⟨g, j, none⟩ (slv gi n ci)) g cap N n (sw2 ad (0, 0) i j) (swp ls i j)
      ∧ w.grownBy ((w.setCell ⟨g, i, none⟩ (slv gj n cj)).setCell ⟨g, j, none⟩ (slv gi n ci)) (some g) := by
  have hi' : i < (rowsL ls).length := by rw [rowsL_length, h.len]; exact hi
  have hj' : j < (rowsL ls).length := by rw [rowsL_length, h.len]; exact hj
  obtain ⟨h1, h2, h3⟩ := h.grl.swapped h.rect hn hi' hj' hai haj
  rw [← rowsL_swp, rowsL_length, h.len] at h1
  refine ⟨⟨h1, by rw [swp_length]; exact h.len, ?_⟩, h2⟩
  unfold swp
  exact (h.dim.set i (h.dim.getD (by rw [h.len]; exact hj))).set j (h.dim.getD (by rw [h.len]; exact hi))
set_option maxRecDepth 100000 in
theorem take_lines {w0 w : World} {g cap N n i t E gx cx gt ct : Nat} {q : Int} {ad : List (Nat × Nat)} {ls : List Ln} (h : Gr w0.heap.size w g cap N n ad ls) (hn : 0 < n) (hn2 : n ≤ 1000000) (hi : i < N) (ht : t < N) (hne : i ≠ t)
    (hai : ad[i]? = some (gx, cx)) (hat : ad[t]? = some (gt, ct)) (hA : All (fun z => z.natAbs < 2 ^ E) (ls.getD i default)) (hB : All (fun z => z.natAbs < 2 ^ E) (ls.getD t default)) (hq : q.natAbs < 2 ^ E) (hE : 2 * E + 2 < LIM) (hL : Laid w0) (hE0 : Ext w0 w) :
    Calls Tryz.prog 102 #[slv gx n cx, slv gt n ct, I q] w fun e w' =>
      e = .returned (.tuple #[]) ∧ Gr w0.heap.size w' g cap N n ad (ls.set i (lsub q (ls.getD i default) (ls.getD t default))) ∧ Ext w0 w' ∧ w.grownBy w' (some gx) := by
  have li := h.dim.getD (i := i) (by rw [h.len]; exact hi)
  have lt := h.dim.getD (i := t) (by rw [h.len]; exact ht)
  obtain ⟨gx', cx', a1, a2, a3, a4, a5⟩ := h.grl.at h.rect hn (i := i) (by rw [rowsL_length, h.len]; exact hi)
  obtain ⟨gt', ct', b1, b2, b3, b4, b5⟩ := h.grl.at h.rect hn (i := t) (by rw [rowsL_length, h.len]; exact ht)
  rw [hai] at a1
  rw [hat] at b1
  injection a1 with a1
  injection b1 with b1
  injection a1 with e1 e2
  injection b1 with e3 e4
  subst e1 e2 e3 e4
  rw [rowsL_getD] at a3 b3
  have hk := stake_any (w0 := w0) (w := w) (ga := gx) (ca := cx) (k := q) (cb := ct) a3 b3.sl (Ne.symm (h.ne hn hi ht hne hai hat)) (by rw [lt.1, li.1]) (by rw [li.1]; exact hn2) (less_big hA.1 hB.1 hq hE) hL hE0
  rw [li.1] at hk
  refine hk.mono ?_
  rintro e w' ⟨rfl, hO, hG⟩
  exact ⟨rfl, h.wrote hn hi hai (l := lsub q (ls.getD i default) (ls.getD t default)) ⟨by show (subK q _ _).length = n; rw [subK_length]; exact li.1, by show (subK q _ _).length = 0; rw [subK_length]; exact li.2⟩ hO hG, ext_trans_grown hE0 hG a3.lt.1, hG⟩
set_option maxRecDepth 100000 in
theorem turn_lines {w0 w : World} {g cap N n i E gx cx : Nat} {ad : List (Nat × Nat)} {ls : List Ln} (h : Gr w0.heap.size w g cap N n ad ls) (hn : 0 < n) (hn2 : n ≤ 1000000) (hi : i < N)
    (hai : ad[i]? = some (gx, cx)) (hA : All (fun z => z.natAbs < 2 ^ E) (ls.getD i default)) (hE : 2 * E + 2 < LIM) (hE0 : Ext w0 w) :
    Calls Tryz.prog 64 #[slv gx n cx] w fun e w' =>
      e = .returned (.tuple #[]) ∧ Gr w0.heap.size w' g cap N n ad (ls.set i (lneg (ls.getD i default))) ∧ Ext w0 w' ∧ w.grownBy w' (some gx) := by
  have li := h.dim.getD (i := i) (by rw [h.len]; exact hi)
  obtain ⟨gx', cx', a1, a2, a3, a4, a5⟩ := h.grl.at h.rect hn (i := i) (by rw [rowsL_length, h.len]; exact hi)
  rw [hai] at a1
  injection a1 with a1
  injection a1 with e1 e2
  subst e1 e2
  rw [rowsL_getD] at a3
  refine (sturn_row (B := w0.heap.size) (w := w) a3 li.1 hn2 (fun z hz => by have := nd_lt2 (hA.1 z hz); omega)).mono ?_
  rintro e w' ⟨rfl, hO, hG⟩
  exact ⟨rfl, h.wrote hn hi hai (l := lneg (ls.getD i default)) ⟨by show (List.map _ _).length = n; rw [List.length_map]; exact li.1, by show (List.map _ _).length = 0; rw [List.length_map]; exact li.2⟩ hO hG, ext_trans_grown hE0 hG a3.lt.1, hG⟩
end Go.Proofs.YtnmmglnadnfoiaaGreatDoor
/- smith: the work of diagonal in memory. -/
namespace Go.Proofs.YtnmmglnadnfoiaaGreatDoor
open Go.RowKit Go.Sort
/-- Where the parts of a work lie. -/
structure Wa where
  p : Nat
  ga : Nat
  ca : Nat
  gl : Nat
  cl : Nat
  gr : Nat
  cr : Nat
structure WkR (B : Nat) (w : World) (n c : Nat) (x : Wa) (aa al ar : List (Nat × Nat)) (s : Dg) : Prop where
  c0 : w.cell? ⟨x.p, 0, none⟩ = some (slv x.ga n x.ca)
  c1 : w.cell? ⟨x.p, 1, none⟩ = some (slv x.gl n x.cl)
  c2 : w.cell? ⟨x.p, 2, none⟩ = some (slv x.gr c x.cr)
  c3 : w.cell? ⟨x.p, 3, none⟩ = some (.int .i64 c)
  a : GrX B w (slv x.ga s.a.length x.ca) s.a aa
  l : GrX B w (slv x.gl s.l.length x.cl) s.l al
  r : GrX B w (slv x.gr s.r.length x.cr) s.r ar
  la : s.a.length = n
  ll : s.l.length = n
  lr : s.r.length = c
  ra : Rect c s.a
  rl : Rect n s.l
  rr : Rect c s.r
  pB : B ≤ x.p
  po : x.p ≠ x.ga ∧ x.p ≠ x.gl ∧ x.p ≠ x.gr
  pi : (∀ y ∈ aa, y.1 ≠ x.p) ∧ (∀ y ∈ al, y.1 ≠ x.p) ∧ ∀ y ∈ ar, y.1 ≠ x.p
  oo : x.ga ≠ x.gl ∧ x.ga ≠ x.gr ∧ x.gl ≠ x.gr
  ii : (∀ y ∈ aa, ∀ z ∈ al, y.1 ≠ z.1) ∧ (∀ y ∈ aa, ∀ z ∈ ar, y.1 ≠ z.1) ∧ ∀ y ∈ al, ∀ z ∈ ar, y.1 ≠ z.1
section
variable {B : Nat} {w w' : World} {n c : Nat} {x : Wa} {aa al ar : List (Nat × Nat)} {s : Dg}
theorem WkR.ext (h : WkR B w n c x aa al ar s) (he : Ext w w') : WkR B w' n c x aa al ar s :=
  ⟨he.cell h.c0, he.cell h.c1, he.cell h.c2, he.cell h.c3, h.a.ext he, h.l.ext he, h.r.ext he, h.la, h.ll, h.lr, h.ra, h.rl, h.rr, h.pB, h.po, h.pi, h.oo, h.ii⟩
theorem GrX.atM {g cap m i : Nat} {F : Mx} {ad : List (Nat × Nat)} (h : GrX B w (slv g F.length cap) F ad) (hR : Rect m F) (hm : 0 < m) (hi : i < F.length) :
    ∃ gx cx, ad[i]? = some (gx, cx) ∧ (gx, cx) ∈ ad ∧ w.cell? ⟨g, i, none⟩ = some (slv gx m cx) ∧ OwnV 106 B w gx cx (ss (F.getD i [])) ∧ (F.getD i []).length = m ∧ ∀ k, k < m → w.cell? ⟨gx, k, none⟩ = some (I (eM F i k)) := by
  obtain ⟨gx, cx, h1, h2, h3, h4, h5⟩ := h.at hR hm hi
  refine ⟨gx, cx, h1, List.mem_of_getElem? h1, h2, h3, h5, fun k hk => ?_⟩
  rw [h3.cell (j := k) (by rw [ss_length, h5]; exact hk)]
  exact congrArg some (ss_at (by rw [h5]; exact hk) _)
theorem GrX.neM {g cap m i t gi ci gt ct : Nat} {F : Mx} {ad : List (Nat × Nat)} (h : GrX B w (slv g F.length cap) F ad) (hR : Rect m F) (hm : 0 < m) (hi : i < F.length) (ht : t < F.length) (hne : i ≠ t) (hai : ad[i]? = some (gi, ci)) (hat : ad[t]? = some (gt, ct)) : gi ≠ gt := by
  obtain ⟨h1, e1⟩ := List.getElem?_eq_some_iff.1 hai
  obtain ⟨h2, e2⟩ := List.getElem?_eq_some_iff.1 hat
  have := h.dis i t h1 h2 hi ht (by rw [hR _ (List.getElem_mem hi)]; exact hm) (by rw [hR _ (List.getElem_mem ht)]; exact hm) hne
  rw [e1, e2] at this
  exact this
theorem rect_set {m i : Nat} {F : Mx} {r : List Int} (hR : Rect m F) (hr : r.length = m) : Rect m (F.set i r) := fun s hs => by
  rcases List.mem_or_eq_of_mem_set hs with hs | rfl
  · exact hR s hs
  · exact hr
theorem sw2_mem {α : Type} {l : List α} {d : α} {i j : Nat} (hi : i < l.length) (hj : j < l.length) {y : α} (h : y ∈ sw2 l d i j) : y ∈ l := by
  obtain ⟨t, ht, rfl⟩ := List.getElem_of_mem h
  rw [sw2_get l d hi hj ht]; exact List.getElem_mem _
theorem rect_sw2 {m i j : Nat} {F : Mx} (hR : Rect m F) (hi : i < F.length) (hj : j < F.length) : Rect m (sw2 F [] i j) := fun s hs => hR s (sw2_mem hi hj hs)
theorem GrX.keepG {g cap : Nat} {F : Mx} {ad : List (Nat × Nat)} {q : Nat} (h : GrX B w (slv g F.length cap) F ad) (hG : w.grownBy w' (some q)) (hg : g ≠ q) (ha : ∀ y ∈ ad, y.1 ≠ q) : GrX B w' (slv g F.length cap) F ad :=
  h.keep (Chg.of_grown (R := fun k => k = q) hG rfl) hg (fun _ hi _ _ => ha _ (List.getElem_mem hi))
/-- A row of the matrix has been written. -/
theorem WkR.setA {i gx cx : Nat} {u : List Int} (h : WkR B w n c x aa al ar s) (hc : 0 < c) (hi : i < n) (hai : aa[i]? = some (gx, cx)) (hu : u.length = c) (hO : OwnV 106 B w' gx cx (ss u)) (hG : w.grownBy w' (some gx)) : WkR B w' n c x aa al ar { s with a := s.a.set i u } := by
  have hm := List.mem_of_getElem? hai
  have hin : i < s.a.length := by rw [h.la]; exact hi
  obtain ⟨gx', cx', e1, _, _, o1, l1, _⟩ := h.a.atM h.ra hc hin
  rw [hai] at e1; injection e1 with e1; injection e1 with e1 e2; subst e1 e2
  have hC : Chg (fun k => k = gx) w w' := Chg.of_grown hG rfl
  have hp : x.p ≠ gx := Ne.symm (h.pi.1 _ hm)
  have h1 := h.a.wrote (r := u) hin hai (by rw [hu, l1]) (by omega) hO hC
  refine ⟨hC.cell hp h.c0, hC.cell hp h.c1, hC.cell hp h.c2, hC.cell hp h.c3, ?_, h.l.keepG hG (Ne.symm (ne_outer h.l.outer o1)) (fun y hy => Ne.symm (h.ii.1 _ hm y hy)), h.r.keepG hG (Ne.symm (ne_outer h.r.outer o1)) (fun y hy => Ne.symm (h.ii.2.1 _ hm y hy)), ?_, h.ll, h.lr, rect_set h.ra hu, h.rl, h.rr, h.pB, h.po, h.pi, h.oo, h.ii⟩
  · show GrX B w' (slv x.ga (s.a.set i u).length x.ca) _ _
    rw [List.length_set]; exact h1
  · show (s.a.set i u).length = n
    rw [List.length_set]; exact h.la
theorem WkR.setL {i gx cx : Nat} {u : List Int} (h : WkR B w n c x aa al ar s) (hi : i < n) (hai : al[i]? = some (gx, cx)) (hu : u.length = n) (hO : OwnV 106 B w' gx cx (ss u)) (hG : w.grownBy w' (some gx)) : WkR B w' n c x aa al ar { s with l := s.l.set i u } := by
  have hm := List.mem_of_getElem? hai
  have hin : i < s.l.length := by rw [h.ll]; exact hi
  obtain ⟨gx', cx', e1, _, _, o1, l1, _⟩ := h.l.atM h.rl (by omega) hin
  rw [hai] at e1; injection e1 with e1; injection e1 with e1 e2; subst e1 e2
  have hC : Chg (fun k => k = gx) w w' := Chg.of_grown hG rfl
  have hp : x.p ≠ gx := Ne.symm (h.pi.2.1 _ hm)
  have h1 := h.l.wrote (r := u) hin hai (by rw [hu, l1]) (by omega) hO hC
  refine ⟨hC.cell hp h.c0, hC.cell hp h.c1, hC.cell hp h.c2, hC.cell hp h.c3, h.a.keepG hG (Ne.symm (ne_outer h.a.outer o1)) (fun y hy => h.ii.1 y hy _ hm), ?_, h.r.keepG hG (Ne.symm (ne_outer h.r.outer o1)) (fun y hy => Ne.symm (h.ii.2.2 _ hm y hy)), h.la, ?_, h.lr, h.ra, rect_set h.rl hu, h.rr, h.pB, h.po, h.pi, h.oo, h.ii⟩
  · show GrX B w' (slv x.gl (s.l.set i u).length x.cl) _ _
    rw [List.length_set]; exact h1
  · show (s.l.set i u).length = n
    rw [List.length_set]; exact h.ll
theorem WkR.setR {i gx cx : Nat} {u : List Int} (h : WkR B w n c x aa al ar s) (hi : i < c) (hai : ar[i]? = some (gx, cx)) (hu : u.length = c) (hO : OwnV 106 B w' gx cx (ss u)) (hG : w.grownBy w' (some gx)) : WkR B w' n c x aa al ar { s with r := s.r.set i u } := by
  have hm := List.mem_of_getElem? hai
  have hin : i < s.r.length := by rw [h.lr]; exact hi
  obtain ⟨gx', cx', e1, _, _, o1, l1, _⟩ := h.r.atM h.rr (by omega) hin
  rw [hai] at e1; injection e1 with e1; injection e1 with e1 e2; subst e1 e2
  have hC : Chg (fun k => k = gx) w w' := Chg.of_grown hG rfl
  have hp : x.p ≠ gx := Ne.symm (h.pi.2.2 _ hm)
  have h1 := h.r.wrote (r := u) hin hai (by rw [hu, l1]) (by omega) hO hC
  refine ⟨hC.cell hp h.c0, hC.cell hp h.c1, hC.cell hp h.c2, hC.cell hp h.c3, h.a.keepG hG (Ne.symm (ne_outer h.a.outer o1)) (fun y hy => h.ii.2.1 y hy _ hm), h.l.keepG hG (Ne.symm (ne_outer h.l.outer o1)) (fun y hy => h.ii.2.2 y hy _ hm), ?_, h.la, h.ll, ?_, h.ra, h.rl, rect_set h.rr hu, h.pB, h.po, h.pi, h.oo, h.ii⟩
  · show GrX B w' (slv x.gr (s.r.set i u).length x.cr) _ _
    rw [List.length_set]; exact h1
  · show (s.r.set i u).length = c
    rw [List.length_set]; exact h.lr
/-- Two headers of the matrix have been exchanged. -/
theorem WkR.swapA {i j gi ci gj cj : Nat} (h : WkR B w n c x aa al ar s) (hc : 0 < c) (hi : i < n) (hj : j < n) (hai : aa[i]? = some (gi, ci)) (haj : aa[j]? = some (gj, cj)) :
    WkR B ((w.setCell ⟨x.ga, i, none⟩ (slv gj c cj)).setCell ⟨x.ga, j, none⟩ (slv gi c ci)) n c x (sw2 aa (0, 0) i j) al ar { s with a := sw2 s.a [] i j }
      ∧ w.grownBy ((w.setCell ⟨x.ga, i, none⟩ (slv gj c cj)).setCell ⟨x.ga, j, none⟩ (slv gi c ci)) (some x.ga) := by
  have hi' : i < s.a.length := by rw [h.la]; exact hi
  have hj' : j < s.a.length := by rw [h.la]; exact hj
  have hia : i < aa.length := by rw [h.a.len]; exact hi'
  have hja : j < aa.length := by rw [h.a.len]; exact hj'
  obtain ⟨h1, hG, h3⟩ := h.a.swapped h.ra hc hi' hj' hai haj
  have hC : Chg (fun k => k = x.ga) w _ := Chg.of_grown hG rfl
  have hp := h.po.1
  have ha : ∀ y ∈ sw2 aa (0, 0) i j, y ∈ aa := fun y hy => sw2_mem hia hja hy
  refine ⟨⟨hC.cell hp h.c0, hC.cell hp h.c1, hC.cell hp h.c2, hC.cell hp h.c3, ?_, h.l.keepG hG (Ne.symm h.oo.1) (fun y hy e => ?_), h.r.keepG hG (Ne.symm h.oo.2.1) (fun y hy e => ?_), ?_, h.ll, h.lr, h3, h.rl, h.rr, h.pB, h.po, ⟨fun y hy => h.pi.1 y (ha y hy), h.pi.2⟩, h.oo, ⟨fun y hy => h.ii.1 y (ha y hy), fun y hy => h.ii.2.1 y (ha y hy), h.ii.2.2⟩⟩, hG⟩
  · show GrX B _ (slv x.ga (sw2 s.a [] i j).length x.ca) _ _
    rw [sw2_length]; exact h1
  · obtain ⟨t, ht, rfl⟩ := List.getElem_of_mem hy
    have hts : t < s.l.length := by rw [← h.l.len]; exact ht
    have hO := h.l.row t hts ht (by rw [h.rl _ (List.getElem_mem hts)]; omega)
    exact ne_outer h.a.outer hO e
  · obtain ⟨t, ht, rfl⟩ := List.getElem_of_mem hy
    have hts : t < s.r.length := by rw [← h.r.len]; exact ht
    have hO := h.r.row t hts ht (by rw [h.rr _ (List.getElem_mem hts)]; omega)
    exact ne_outer h.a.outer hO e
  · show (sw2 s.a [] i j).length = n
    rw [sw2_length]; exact h.la
theorem WkR.swapL {i j gi ci gj cj : Nat} (h : WkR B w n c x aa al ar s) (hc : 0 < c) (hi : i < n) (hj : j < n) (hai : al[i]? = some (gi, ci)) (haj : al[j]? = some (gj, cj)) :
    WkR B ((w.setCell ⟨x.gl, i, none⟩ (slv gj n cj)).setCell ⟨x.gl, j, none⟩ (slv gi n ci)) n c x aa (sw2 al (0, 0) i j) ar { s with l := sw2 s.l [] i j }
      ∧ w.grownBy ((w.setCell ⟨x.gl, i, none⟩ (slv gj n cj)).setCell ⟨x.gl, j, none⟩ (slv gi n ci)) (some x.gl) := by
  have hi' : i < s.l.length := by rw [h.ll]; exact hi
  have hj' : j < s.l.length := by rw [h.ll]; exact hj
  have hia : i < al.length := by rw [h.l.len]; exact hi'
  have hja : j < al.length := by rw [h.l.len]; exact hj'
  obtain ⟨h1, hG, h3⟩ := h.l.swapped h.rl (by omega) hi' hj' hai haj
  have hC : Chg (fun k => k = x.gl) w _ := Chg.of_grown hG rfl
  have hp := h.po.2.1
  have ha : ∀ y ∈ sw2 al (0, 0) i j, y ∈ al := fun y hy => sw2_mem hia hja hy
  refine ⟨⟨hC.cell hp h.c0, hC.cell hp h.c1, hC.cell hp h.c2, hC.cell hp h.c3, h.a.keepG hG h.oo.1 (fun y hy e => ?_), ?_, h.r.keepG hG (Ne.symm h.oo.2.2) (fun y hy e => ?_), h.la, ?_, h.lr, h.ra, h3, h.rr, h.pB, h.po, ⟨h.pi.1, fun y hy => h.pi.2.1 y (ha y hy), h.pi.2.2⟩, h.oo, ⟨fun y hy z hz => h.ii.1 y hy z (ha z hz), h.ii.2.1, fun y hy => h.ii.2.2 y (ha y hy)⟩⟩, hG⟩
  · obtain ⟨t, ht, rfl⟩ := List.getElem_of_mem hy
    have hts : t < s.a.length := by rw [← h.a.len]; exact ht
    have hO := h.a.row t hts ht (by rw [h.ra _ (List.getElem_mem hts)]; omega)
    exact ne_outer h.l.outer hO e
  · show GrX B _ (slv x.gl (sw2 s.l [] i j).length x.cl) _ _
    rw [sw2_length]; exact h1
  · obtain ⟨t, ht, rfl⟩ := List.getElem_of_mem hy
    have hts : t < s.r.length := by rw [← h.r.len]; exact ht
    have hO := h.r.row t hts ht (by rw [h.rr _ (List.getElem_mem hts)]; omega)
    exact ne_outer h.l.outer hO e
  · show (sw2 s.l [] i j).length = n
    rw [sw2_length]; exact h.ll
end
/-- An array of two grids, by value. -/
theorem ix_a (w : World) (g n a h m b : Nat) : (Instr.index 204 (.agg #[slv g n a, slv h m b]) (.int .i64 0)).run Tryz.prog w = .ok (slv g n a) w := by
  simp [Instr.index, run_underlying Tryz.underlying204, asIntOf, go_sem]
theorem ix_b (w : World) (g n a h m b : Nat) : (Instr.index 204 (.agg #[slv g n a, slv h m b]) (.int .i64 1)).run Tryz.prog w = .ok (slv h m b) w := by
  simp [Instr.index, run_underlying Tryz.underlying204, asIntOf, go_sem]
/-- The first j rows of a matrix changed. -/
def mapTo (f : List Int → List Int) (j : Nat) (A : Mx) : Mx := A.mapIdx fun t l => if t < j then f l else l
@[simp] theorem mapTo_length (f : List Int → List Int) (j : Nat) (A : Mx) : (mapTo f j A).length = A.length := by simp [mapTo]
theorem mapTo_get (f : List Int → List Int) (j : Nat) (A : Mx) {t : Nat} (h : t < A.length) : (mapTo f j A)[t]'(by simpa using h) = if t < j then f A[t] else A[t] := by simp [mapTo]
theorem mapTo_zero (f : List Int → List Int) (A : Mx) : mapTo f 0 A = A := List.ext_getElem (by simp) fun t h1 h2 => by rw [mapTo_get f 0 A h2, if_neg (by omega)]
theorem mapTo_all (f : List Int → List Int) (A : Mx) : mapTo f A.length A = A.map f := List.ext_getElem (by simp) fun t h1 h2 => by
  have ht : t < A.length := by simpa using h1
  rw [mapTo_get f _ A ht, if_pos ht, List.getElem_map]
theorem mapTo_at (f : List Int → List Int) {j : Nat} {A : Mx} (h : j < A.length) : (mapTo f j A).getD j [] = A.getD j [] := by
  rw [getD_get (by simpa using h), mapTo_get f j A h, if_neg (by omega), getD_get h]
theorem mapTo_step (f : List Int → List Int) {j : Nat} {A : Mx} (h : j < A.length) : mapTo f (j + 1) A = (mapTo f j A).set j (f (A.getD j [])) := by
  refine List.ext_getElem (by simp) fun t h1 h2 => ?_
  have ht : t < A.length := by simpa using h1
  rw [mapTo_get f _ A ht]
  by_cases e : j = t
  · subst e; rw [List.getElem_set_self, if_pos (by omega), getD_get h]
  · rw [List.getElem_set_ne e, mapTo_get f _ A ht]
    by_cases h3 : t < j
    · rw [if_pos h3, if_pos (by omega)]
    · rw [if_neg h3, if_neg (by omega)]
end Go.Proofs.YtnmmglnadnfoiaaGreatDoor
