/- Part 13 of the proof of the claim: contracts of the functions that it reaches, and plain laws; no condition. -/
import Derived.Test.YtokjolmpdfmnbaaGreatDoorU11
import Derived.Test.YtokjolmpdfmnbaaGreatDoorU12
namespace Go.Proofs.YtokjolmpdfmnbaaGreatDoor
open Hnf (V Span Ech Red)
def stepQ (r x : List Int) : Int := (x.getD (pv r) 0).fdiv (r.getD (pv r) 0)
def redX : Mx → List Int → List Int
  | [], x => x
  | r :: F, x => redX F (subK (stepQ r x) x r)
def redQ : Mx → List Int → List Int
  | [], _ => []
  | r :: F, x => stepQ r x :: redQ F (subK (stepQ r x) x r)
theorem redX_snoc (r : List Int) : ∀ (F : Mx) (x : List Int), redX (F ++ [r]) x = subK (stepQ r (redX F x)) (redX F x) r
  | [], x => rfl
  | f :: F, x => by rw [List.cons_append, redX, redX, redX_snoc r F]
@[simp] theorem redX_length : ∀ (F : Mx) (x : List Int), (redX F x).length = x.length
  | [], x => rfl
  | f :: F, x => by rw [redX, redX_length F]; simp
@[simp] theorem redQ_length : ∀ (F : Mx) (x : List Int), (redQ F x).length = F.length
  | [], x => rfl
  | f :: F, x => by rw [redQ, List.length_cons, redQ_length F]; rfl
theorem redX_take {F : Mx} {i : Nat} (h : i < F.length) (x : List Int) : redX (F.take (i + 1)) x = subK (stepQ (F.getD i []) (redX (F.take i) x)) (redX (F.take i) x) (F.getD i []) := by
  rw [take_snocM h, redX_snoc, getD_get h]
theorem stepQ_abs {r x : List Int} (h : r.getD (pv r) 0 ≠ 0) {B : Nat} (hB : 0 < B) (hx : ∀ z ∈ x, z.natAbs < B) : (stepQ r x).natAbs < B := by
  refine Nat.lt_of_le_of_lt (fdiv_abs _ h) ?_
  rw [List.getD_eq_getElem?_getD]
  rcases Nat.lt_or_ge (pv r) x.length with hl | hl
  · rw [List.getElem?_eq_getElem hl]; exact hx _ (List.getElem_mem hl)
  · rw [List.getElem?_eq_none hl]; simpa using hB
theorem redX_span {n : Nat} : ∀ (F : Mx) (x : List Int), Rect n F → x.length = n → Span (latM F) (Hnf.sub (vr x) 1 (vr (redX F x)))
  | [], x, _, _ => by
    have e : Hnf.sub (vr x) 1 (vr (redX [] x)) = fun _ => 0 := by funext j; simp [Hnf.sub, redX]
    rw [e]; exact .zero
  | r :: F, x, hF, hx => by
    have hr : r.length = n := hF r (by simp)
    have ih := redX_span F (subK (stepQ r x) x r) (fun s hs => hF s (by simp [hs])) (by simp [hx])
    have h2 : Span (latM (r :: F)) (Hnf.sub (vr (subK (stepQ r x) x r)) 1 (vr (redX F (subK (stepQ r x) x r)))) := ih.mono fun v hv => by
      simp only [latM, List.map_cons]; exact List.mem_cons_of_mem _ hv
    have h3 := h2.step (-(stepQ r x)) (r := vr r) (by simp [latM])
    refine span_of_eq h3 fun j => ?_
    rw [redX, vr_sub _ (by omega)]
    simp only [Hnf.sub]; grind
theorem redX_keep {n : Nat} : ∀ (F : Mx) (x : List Int) (j : Nat), Rect n F → x.length = n → (∀ r ∈ F, r.getD j 0 = 0) → (redX F x).getD j 0 = x.getD j 0
  | [], x, j, _, _, _ => rfl
  | r :: F, x, j, hF, hx, hz => by
    have hr : r.length = n := hF r (by simp)
    rw [redX, redX_keep F _ j (fun s hs => hF s (by simp [hs])) (by simp [hx]) (fun s hs => hz s (by simp [hs])), subK_getD _ _ _ _ (by omega), hz r (by simp)]
    simp
theorem redX_range {n : Nat} {ps : List Nat} {F : Mx} (h : IsH n ps F) {x : List Int} (hx : x.length = n) (i : Nat) (hi : i < F.length) : 0 ≤ (redX F x).getD (ps.getD i 0) 0 ∧ (redX F x).getD (ps.getD i 0) 0 < eM F i (ps.getD i 0) := by
  have e : redX F x = redX (F.drop (i + 1)) (redX (F.take (i + 1)) x) := by
    have : ∀ (A B : Mx) (y : List Int), redX (A ++ B) y = redX B (redX A y) := by
      intro A
      induction A with
      | nil => intro B y; rfl
      | cons a A ih => intro B y; rw [List.cons_append, redX, redX, ih]
    rw [← this, List.take_append_drop]
  have hl1 : (redX (F.take (i + 1)) x).length = n := by simp [hx]
  have hFi : (F.getD i []).length = n := by rw [getD_get hi]; exact h.rect _ (List.getElem_mem hi)
  rw [e, redX_keep (n := n) _ _ _ (fun s hs => h.rect s (List.mem_of_mem_drop hs)) hl1 (fun r hr => ?_), redX_take hi, subK_getD _ _ _ _ (by rw [hFi, redX_length, hx]; exact Nat.le_refl _)]
  · have hpi : ps.getD i 0 = pv (F.getD i []) := by rw [isH_pv h, getD_map pv F i hi 0 []]
    rw [hpi]
    have hpos := h.pos i hi
    rw [hpi] at hpos
    exact fdr_pos hpos
  · obtain ⟨t, ht, rfl⟩ := List.getElem_of_mem hr
    rw [List.getElem_drop]
    have ht' : i + 1 + t < F.length := by simp at ht; omega
    have := h.left (i + 1 + t) ht' (ps.getD i 0) (h.inc i (i + 1 + t) (by omega) ht')
    unfold eM at this
    rw [getD_get ht'] at this
    exact this
def zeroL (l : List Int) : Prop := ∀ z ∈ l, z = 0
theorem zero_vr {l : List Int} : zeroL l ↔ ∀ j, vr l j = 0 := by
  constructor
  · intro h j
    show l.getD j 0 = 0
    rw [List.getD_eq_getElem?_getD]
    rcases Nat.lt_or_ge j l.length with hj | hj
    · rw [List.getElem?_eq_getElem hj]; exact h _ (List.getElem_mem hj)
    · rw [List.getElem?_eq_none hj]; rfl
  · intro h z hz
    obtain ⟨j, hj, rfl⟩ := List.getElem_of_mem hz
    have := h j
    show l[j] = 0
    rw [← getD_get hj 0]; exact this
theorem redX_zero {n : Nat} {ps : List Nat} {F : Mx} (h : IsH n ps F) {x : List Int} (hx : x.length = n) : zeroL (redX F x) ↔ Span (latM F) (vr x) := by
  have hs := redX_span F x h.rect hx
  rw [zero_vr]
  constructor
  · intro hz
    refine span_of_eq hs fun j => ?_
    simp [Hnf.sub, hz j]
  · intro hv
    have hr : Span (latM F) (vr (redX F x)) := by
      refine span_of_eq (hv.sub 1 hs) fun j => ?_
      simp only [Hnf.sub]; omega
    rcases Hnf.first (vr (redX F x)) with h0 | ⟨j, hj, hz⟩
    · exact h0
    · exfalso
      rw [← wps_rows h.len] at hr
      obtain ⟨g, hg, e, hd⟩ := h.ech.lead hr hj hz
      obtain ⟨i, hi, rfl⟩ := wps_mem h.len hg
      simp only at e hd
      subst e
      have hrg := redX_range h hx i hi
      obtain ⟨c, hc⟩ := hd
      have hpos := h.pos i hi
      have hc' : (redX F x).getD (ps.getD i 0) 0 = eM F i (ps.getD i 0) * c := hc
      have hj' : (redX F x).getD (ps.getD i 0) 0 ≠ 0 := hj
      have hlt : (eM F i (ps.getD i 0) * c).natAbs < (eM F i (ps.getD i 0)).natAbs := by rw [← hc']; omega
      rw [Int.natAbs_mul] at hlt
      have hc0 : c.natAbs = 0 := by
        rcases Nat.eq_zero_or_pos c.natAbs with h | h
        · exact h
        · have := Nat.mul_le_mul_left (eM F i (ps.getD i 0)).natAbs h; omega
      have hcz : c = 0 := by omega
      rw [hcz, Int.mul_zero] at hc'
      exact hj' hc'
end Go.Proofs.YtokjolmpdfmnbaaGreatDoor
namespace Go.Proofs.YtokjolmpdfmnbaaGreatDoor
def rowSub (i t : Nat) (q : Int) (A : Mx) : Mx := A.set i (subK q (A.getD i []) (A.getD t []))
def colSub (i o : Nat) (q : Int) (A : Mx) : Mx := A.map fun l => l.set i (l.getD i 0 - q * l.getD o 0)
def rowSwap (i j : Nat) (A : Mx) : Mx := (A.set i (A.getD j [])).set j (A.getD i [])
def swapL (i j : Nat) (l : List Int) : List Int := (l.set i (l.getD j 0)).set j (l.getD i 0)
def colSwap (i j : Nat) (A : Mx) : Mx := A.map (swapL i j)
def rowNeg (i : Nat) (A : Mx) : Mx := A.set i ((A.getD i []).map fun z => -z)
def betB (A : Mx) (b : Option (Nat × Nat)) (i k : Nat) : Option (Nat × Nat) :=
  if eM A i k = 0 then b else match b with
    | none => some (i, k)
    | some p => if (eM A i k).natAbs < (eM A p.1 p.2).natAbs then some (i, k) else b
def bestRow (A : Mx) (i t : Nat) (b : Option (Nat × Nat)) : Nat → Option (Nat × Nat)
  | 0 => b
  | k + 1 => betB A (bestRow A i t b k) i (t + k)
def bestAll (A : Mx) (t w : Nat) : Nat → Option (Nat × Nat)
  | 0 => none
  | i + 1 => bestRow A (t + i) t (bestAll A t w i) w
structure Dg where
  a : Mx
  l : Mx
  r : Mx
  deriving Inhabited
def swapD (t i k : Nat) (s : Dg) : Dg := ⟨colSwap t k (rowSwap t i s.a), rowSwap t i s.l, colSwap t k s.r⟩
def rowStep (t i : Nat) (s : Dg) : Dg := ⟨rowSub i t ((eM s.a i t).fdiv (eM s.a t t)) s.a, rowSub i t ((eM s.a i t).fdiv (eM s.a t t)) s.l, s.r⟩
def rowsTo (t : Nat) : Nat → Dg → Dg
  | 0, s => s
  | j + 1, s => rowStep t (t + 1 + j) (rowsTo t j s)
def rowsOk (t : Nat) : Nat → Dg → Bool
  | 0, _ => true
  | j + 1, s => rowsOk t j s && decide ((eM (rowsTo t j s).a (t + 1 + j) t).fmod (eM (rowsTo t j s).a t t) = 0)
def colStep (t k : Nat) (s : Dg) : Dg := ⟨colSub k t ((eM s.a t k).fdiv (eM s.a t t)) s.a, s.l, colSub k t ((eM s.a t k).fdiv (eM s.a t t)) s.r⟩
def colsTo (t : Nat) : Nat → Dg → Dg
  | 0, s => s
  | j + 1, s => colStep t (t + 1 + j) (colsTo t j s)
def colsOk (t : Nat) : Nat → Dg → Bool
  | 0, _ => true
  | j + 1, s => colsOk t j s && decide ((eM (colsTo t j s).a t (t + 1 + j)).fmod (eM (colsTo t j s).a t t) = 0)
def clearD (n c t : Nat) (s : Dg) : Dg := colsTo t (c - (t + 1)) (rowsTo t (n - (t + 1)) s)
def clearOk (n c t : Nat) (s : Dg) : Bool := rowsOk t (n - (t + 1)) s && colsOk t (c - (t + 1)) (rowsTo t (n - (t + 1)) s)
def badRow (A : Mx) (t i : Nat) : Nat → Bool
  | 0 => false
  | k + 1 => badRow A t i k || decide ((eM A i (t + 1 + k)).fmod (eM A t t) ≠ 0)
def spoil (A : Mx) (t w : Nat) : Nat → Option Nat
  | 0 => none
  | j + 1 => match spoil A t w j with
    | some x => some x
    | none => if badRow A t (t + 1 + j) w then some (t + 1 + j) else none
def addD (t i : Nat) (s : Dg) : Dg := ⟨rowSub t i (-1) s.a, rowSub t i (-1) s.l, s.r⟩
def posD (t : Nat) (s : Dg) : Dg := if eM s.a t t < 0 then ⟨rowNeg t s.a, rowNeg t s.l, s.r⟩ else s
def stepD (n c t : Nat) (s : Dg) : Option (Nat × Dg) :=
  match bestAll s.a t (c - t) (n - t) with
  | none => none
  | some (i, k) =>
    if clearOk n c t (swapD t i k s) then
      match spoil (clearD n c t (swapD t i k s)).a t (c - (t + 1)) (n - (t + 1)) with
      | some j => some (t, addD t j (clearD n c t (swapD t i k s)))
      | none => some (t + 1, posD t (clearD n c t (swapD t i k s)))
    else some (t, clearD n c t (swapD t i k s))
def bddM (E : Nat) (A : Mx) : Bool := A.all fun l => l.all fun z => decide (z.natAbs < 2 ^ E)
def bddD (E : Nat) (s : Dg) : Bool := bddM E s.a && bddM E s.l && bddM E s.r
def runD (E n c : Nat) : Nat → Nat → Dg → Option (Nat × Dg)
  | 0, _, _ => none
  | f + 1, t, s => if bddD E s then match stepD n c t s with
      | none => some (t, s)
      | some p => runD E n c f p.1 p.2
    else none
def unitM (n : Nat) : Mx := (List.range n).map fun i => unitR n i
def startD (M : Mx) (c : Nat) : Dg := ⟨M, unitM M.length, unitM c⟩
example : (runD 64 2 2 10 0 (startD [[-3, 2], [-1, 1]] 2)).map (fun p => (p.1, p.2.a)) = some (2, [[1, 0], [0, 1]]) := by decide
end Go.Proofs.YtokjolmpdfmnbaaGreatDoor
namespace Go.Proofs.YtokjolmpdfmnbaaGreatDoor
open Go.RowKit Go.Sort
@[simp] theorem unitM_length (n : Nat) : (unitM n).length = n := by simp [unitM]
theorem unitM_get {n i : Nat} (h : i < (unitM n).length) : (unitM n)[i] = unitR n i := by simp [unitM]
theorem unitM_rect (n : Nat) : Rect n (unitM n) := fun r hr => by
  obtain ⟨i, hi, rfl⟩ := List.getElem_of_mem hr
  rw [unitM_get]; simp [unitR]
set_option maxRecDepth 100000 in
set_option maxHeartbeats 1000000 in
theorem sunit_any {w : World} {n : Nat} (hn : n ≤ 1000000) :
    Calls Tryz.prog 109 #[.int .i64 n] w fun e w' => ∃ v' ad, e = .returned v' ∧ GrX w.heap.size w' v' (unitM n) ad ∧ Ext w w' := by
  go_enter Tryz.func109, Tryz.ntmps109
  go_wp2_with fail
  go_loopw [3, 7] (fun out idx wr => ∃ (i : Nat) (ad : List (Nat × Nat)), i ≤ n ∧ idx = .int .i64 i ∧ Hid (GrX w.heap.size wr out ((unitM n).take i) ad) ∧ Ext w wr) (fun _ idx _ => n - (intOf idx).toNat)
  case atStart => exact ⟨0, [], by omega, by go_num, Lib.hid (GrX.nil _ _), Ext.refl _⟩
  case round =>
    obtain ⟨i, ad, hi', rfl, hV, hE⟩ := hrel
    generalize wr = X at *
    by_cases hlt : i < n
    · have hii : (i : Int) < (n : Int) := by omega
      have Hsn := Lib.hid (show (unitM n).take (i + 1) = (unitM n).take i ++ [unitR n i] by rw [take_snocM (by simpa using hlt), unitM_get])
      have Hil := Lib.hid (show ((unitM n).take i).length = i by rw [List.length_take, unitM_length]; omega)
      have Hlt := Lib.hid hV.out.lt
      have hXw := hE.size
      have hrep := Lib.hid (fun W (hW : W.cell? ⟨X.heap.size, 0, none⟩ = some (I 0)) => repeat_any (m := n) hn (b := X.heap.size) (o := 0) (c := 1) (z := 0) (w := W) hW)
      go_wp2_with fail
      have hz1 : I 0 = .string ⟨#[48]⟩ := by unfold I S; rw [itoa_zero]
      have hz49 : I 1 = .string ⟨#[49]⟩ := by unfold I S; rw [show (1 : Int) = ((1 : Nat) : Int) from rfl, itoa_nat, Lib.decDigits]; rfl
      have Hz49 := Lib.hid hz49
      refine (hrep.out _ (by rw [hz1]; go_simp)).mono ?_
      rintro e W1 ⟨gy, cy, rfl, hY, hE1⟩
      clear hrep hz1 hz49
      have hE2 := ((Ext.refl X).alloc (.cells #[.string ⟨#[48]⟩] 94)).trans hE1
      have hYb : X.heap.size < gy := by have := hY.lt.1; simp at this; omega
      have y1 := hY.cell (j := i) (by simpa using hlt)
      have y2 := hY.frozen i
      obtain ⟨hY3, hG3⟩ := hY.set i (I 1)
      rw [← ss_set, Hz49.out] at hY3
      rw [Hz49.out] at hG3
      have hE3 := ext_trans_grown hE2 hG3 (by omega)
      have HY := Lib.hid (show OwnV 94 X.heap.size (W1.setCell ⟨gy, i, none⟩ (.string ⟨#[49]⟩)) gy cy (ss (unitR n i)) from hY3.mono (by simp))
      have hYW := HY.out.lt
      clear hY hY3 hG3 hE1 hE2 Hz49
      have hnl : (unitR n i).length = n := by simp [unitR]
      have Hnl := Lib.hid hnl
      have Hne := Lib.hid (show 0 < (unitR n i).length → ∀ k (h : k < ad.length) (h' : k < ((unitM n).take i).length), 0 < ((unitM n).take i)[k].length → ad[k].1 ≠ gy from fun h k a b c => by
        have h2 := (Hlt.out k a b c).2
        omega)
      clear hnl
      have hsz := hE3.size
      go_wp2_with (at_builtin; refine app_grid rfl _ _ rfl (B := w.heap.size) rfl ((hV.out.ext hE3).ext ((Ext.refl _).alloc _)) rfl (b := W1.heap.size) (r := unitR n i) (g0 := gy) (c0 := cy) (by rw [Hnl.out, xv_pos (by omega)]; go_simp) (fun h => (HY.out.mono hXw).ext ((Ext.refl _).alloc _)) Hne.out (by rw [Hil.out]; omega) (by simp; have := hE3.size; simp at this; omega) ?_; intro gg cap2 w8 hO8 hB8 hG8; rw [Hil.out, ← Hsn.out] at hO8; rw [Hil.out])
      have hE8 : Ext w w8 := Below.trans ((hE.trans hE3).alloc (.cells #[slv gy n cy] 99)) hB8
      have HO8 := Lib.hid hO8
      clear hG8 hB8 hO8
      go_wp2_with fail
      go_roundw
      case rel => exact ⟨i + 1, _, by omega, by go_num, HO8, hE8⟩
      case measure => simp [intOf] <;> omega
    · have hie : i = n := by omega
      subst hie
      go_wp2_with fail
      go_ret
      have := hV.out
      rw [List.take_of_length_le (by simp)] at this
      exact ⟨_, ad, rfl, this, hE⟩
def SmaPost (w : World) (M : Mx) (e : Ending) (w' : World) : Prop :=
  (if smallM M then ∃ v, e = .returned (.tuple #[v, .int .i64 0]) ∧ MatO w.heap.size w' v M else e = .returned (.tuple #[.slice none 0 0, .int .i64 4])) ∧ Ext w w'
set_option maxRecDepth 100000 in
set_option maxHeartbeats 1000000 in
theorem ssmall_any {w : World} {v : Value} {M : Mx} (hM : GridR w v M) (hl : M.length ≤ 1000000) (hn : ∀ r ∈ M, r.length ≤ 1000000) (hb : ∀ r ∈ M, ∀ z ∈ r, nd z ≤ LIM) (hL : Laid w) :
    Calls Tryz.prog 55 #[v] w (SmaPost w M) := by
  obtain ⟨sa, gb, go, cap, vs, rfl, hcap, hvl, hS, hr⟩ := hM
  have HS := Lib.hid hS
  have HV := Lib.hid hvl
  have HR := Lib.hid hr
  have HN := Lib.hid hn
  have HB := Lib.hid hb
  have HL := Lib.hid hL
  clear hS hvl hr hn hb hL
  go_enter Tryz.func55, Tryz.ntmps55
  go_wp2_with fail
  go_loopw [4, 14] (fun out idx wr => ∃ i : Nat, i ≤ M.length ∧ idx = .int .i64 i ∧ Hid (MatO w.heap.size wr out (M.take i)) ∧ Hid (∀ j (h : j < M.length), j < i → smallB M[j] = true) ∧ Ext w wr) (fun _ idx _ => M.length - (intOf idx).toNat)
  case atStart => exact ⟨0, by omega, by go_num, Lib.hid (MatO.nil _ _), Lib.hid (fun j _ h => by omega), Ext.refl _⟩
  case round =>
    obtain ⟨i, hi', rfl, hV, Hs, hE⟩ := hrel
    generalize wr = X at *
    by_cases hlt : i < M.length
    · have hii : (i : Int) < (M.length : Int) := by omega
      obtain rfl := HS.out.addr (by rw [HV.out]; omega)
      obtain ⟨sr, br, or, cr, hrow, hrc, hSr⟩ := GridR.row HS.out HV.out HR.out hlt
      obtain ⟨r, hr⟩ : ∃ r, r = M[i] := ⟨_, rfl⟩
      have Hrb := Lib.hid (HB.out _ (List.getElem_mem hlt))
      have hrn := HN.out _ (List.getElem_mem hlt)
      have Hsn := Lib.hid (take_snocM hlt)
      have Hri := Lib.hid hr
      rw [← hr] at hrow hrc hSr Hrb hrn Hsn
      have hrow' := hE.cell hrow
      have HSr := Lib.hid (hSr.ext hE)
      have Hil := Lib.hid (show (M.take i).length = i by rw [List.length_take]; omega)
      have hXw := hE.size
      have hE0 := (Ext.refl X).alloc (.cells #[] 3)
      have HO0 := Lib.hid (row_empty (heap_new X (.cells #[] 3)) (Nat.le_refl X.heap.size))
      clear hrow hSr hr
      go_wp2_with fail
      go_loopw [7, 21] (fun lv jdx wr => ∃ j : Nat, j ≤ r.length ∧ jdx = .int .i64 j ∧ Hid (RowV X.heap.size wr lv (r.take j)) ∧ Hid (∀ t (h : t < r.length), t < j → grt r[t] = false) ∧ Ext X wr) (fun _ jdx _ => r.length - (intOf jdx).toNat)
      case atStart => exact ⟨0, by omega, by go_num, HO0, Lib.hid (fun j _ h => by omega), hE0⟩
      case round =>
        clear HO0 hE0
        obtain ⟨j, hj, rfl, hO, Hz, hE2⟩ := hrel
        generalize wr = Y at *
        by_cases hjl : j < r.length
        · have hji : (j : Int) < (r.length : Int) := by omega
          obtain ⟨z, hz⟩ : ∃ z, z = r[j] := ⟨_, rfl⟩
          have hcz := hE2.cell (HSr.out.cell j (I z) (by rw [hz]; simp [ss, hjl]))
          obtain rfl := HSr.out.addr (by simp; omega)
          have hsm := Lib.hid (wholeSmall_any (z := z) (w := Y) (Hrb.out z (by rw [hz]; exact List.getElem_mem hjl)) (HL.out.ext (hE.trans hE2)))
          have Hjl := Lib.hid (show (r.take j).length = j by rw [List.length_take]; omega)
          have Hsj := Lib.hid (show r.take (j + 1) = r.take j ++ [z] by rw [List.take_succ_eq_append_getElem hjl, hz])
          have Hzz := Lib.hid hz
          have hXY := hE2.size
          cases hgz : grt z
          · have hzb : -1000000000 ≤ z ∧ z ≤ 1000000000 := by
              unfold grt at hgz; have := of_decide_eq_false hgz; omega
            have hin : inI64 z = true := decide_eq_true (by omega)
            rw [hin, if_pos rfl] at hsm
            obtain ⟨hy1, hy2⟩ := hzb
            have Hgz := Lib.hid hgz
            clear hin hgz hz
            go_wp2_with (first
              | (go_at_call 107; refine hsm.out.mono ?_; rintro e W ⟨rfl, hW⟩; have hYW := hW.size)
              | (at_builtin; refine app_int rfl _ _ 32 Tryz.underlying32 rfl rfl ((hO.out.ext hW).ext ((Ext.refl _).alloc _)) rfl (b := W.heap.size) (z := z) (by go_simp) (by rw [Hjl.out]; omega) (by simp; omega) ?_; intro gg cap2 w8 hO8 hB8 hG8; rw [Hjl.out] at hO8 ⊢; rw [← Hsj.out] at hO8))
            have hE8 : Ext X w8 := Below.trans ((hE2.trans hW).alloc (.cells #[.int .i64 z] 3)) hB8
            have HO8 := Lib.hid hO8
            clear hG8 hB8 hO8
            go_wp2_with fail
            go_roundw
            case rel => exact ⟨j + 1, by omega, by go_num, HO8, Lib.hid (fun t h ht => by
              by_cases e : t = j
              · subst e; rw [← Hzz.out]; exact Hgz.out
              · exact Hz.out t h (by omega)), hE8⟩
            case measure => simp [intOf] <;> omega
          · have Hno := Lib.hid (smallM_not hlt (by rw [← Hri.out]; exact small_not hjl (by rw [← hz]; exact hgz)))
            have hzb : 1000000000 < z ∨ z < -1000000000 := by
              unfold grt at hgz; exact of_decide_eq_true hgz
            clear hgz hz
            have hfin : ∀ W, Ext w W → SmaPost w M (.returned (.tuple #[.slice none 0 0, .int .i64 4])) W := fun W hW => by
              unfold SmaPost; rw [if_neg (by rw [Hno.out]; decide)]; exact ⟨rfl, hW⟩
            have Hfin := Lib.hid hfin
            clear hfin
            cases hin : inI64 z
            · rw [hin, if_neg (by decide)] at hsm
              clear hin hzb
              go_wp2_with (first
                | (go_at_call 107; refine hsm.out.mono ?_; rintro e W ⟨rfl, hW⟩))
              go_ret2
              exact Hfin.out _ ((hE.trans hE2).trans hW)
            · rw [hin, if_pos rfl] at hsm
              clear hin
              rcases hzb with hzb | hzb
              · go_wp2_with (first
                  | (go_at_call 107; refine hsm.out.mono ?_; rintro e W ⟨rfl, hW⟩))
                go_ret2
                exact Hfin.out _ ((hE.trans hE2).trans hW)
              · have hzc : z ≤ 1000000000 := by omega
                go_wp2_with (first
                  | (go_at_call 107; refine hsm.out.mono ?_; rintro e W ⟨rfl, hW⟩))
                go_ret2
                exact Hfin.out _ ((hE.trans hE2).trans hW)
        · have hje : j = r.length := by omega
          have htk : r.take j = r := List.take_of_length_le (by omega)
          rw [htk] at hO
          have Hsb := Lib.hid (small_yes (l := r) (fun t ht => Hz.out t ht (by omega)))
          obtain ⟨xa, xl, xk, hxv⟩ : ∃ xa xl xk, u7 = .slice xa xl xk := by
            rcases hO.out.2 with ⟨rfl, h1⟩ | ⟨g, cap, cur, rfl, hb, hg, hn, hm, hs, ht⟩
            · exact ⟨_, _, _, rfl⟩
            · exact ⟨_, _, _, rfl⟩
          subst hxv
          have hXY := hE2.size
          clear htk Hz
          go_wp2_with (at_builtin; refine app_mat rfl _ _ rfl (B := w.heap.size) rfl ((hV.out.ext hE2).ext ((Ext.refl _).alloc _)) rfl (b := Y.heap.size) (rv := .slice xa xl xk) (r := r) (by go_simp) ((hO.out.mono hXw).ext ((Ext.refl _).alloc _)) (by rw [Hil.out]; omega) (by simp; omega) ?_; intro gg cap2 w8 hO8 hB8 hG8; rw [Hil.out, ← Hsn.out] at hO8; rw [Hil.out])
          have hE8 : Ext w w8 := Below.trans ((hE.trans hE2).alloc (.cells #[.slice xa xl xk] 32)) hB8
          have HO8 := Lib.hid hO8
          clear hG8 hB8 hO8
          go_wp2_with fail
          go_roundw
          case rel => exact ⟨i + 1, by omega, by go_num, HO8, Lib.hid (fun t h ht => by
            by_cases e : t = i
            · subst e; rw [← Hri.out]; exact Hsb.out
            · exact Hs.out t h (by omega)), hE8⟩
          case measure => simp [intOf] <;> omega
    · have hie : i = M.length := by omega
      subst hie
      go_wp2_with fail
      go_ret2
      have hsm : smallM M = true := smallM_yes (fun j hj => Hs.out j hj hj)
      refine ⟨?_, hE⟩
      rw [if_pos hsm]
      have := hV.out
      rw [List.take_length] at this
      exact ⟨_, rfl, this⟩
end Go.Proofs.YtokjolmpdfmnbaaGreatDoor
namespace Go.Proofs.YtokjolmpdfmnbaaGreatDoor
open Hnf (V Span Ech Red)
def ln1 (M : Mx) : List Ln := M.map fun r => (r, [])
@[simp] theorem ln1_length (M : Mx) : (ln1 M).length = M.length := by simp [ln1]
theorem ln1_dim {n : Nat} {M : Mx} (h : Rect n M) : Dim n 0 (ln1 M) := by
  intro l hl
  obtain ⟨r, hr, rfl⟩ := List.mem_map.1 hl
  exact ⟨h r hr, rfl⟩
theorem ln1_lat (M : Mx) : latL (ln1 M) = latM M := by simp [latL, latM, ln1, Function.comp_def]
theorem form_of1 {n d : Nat} {ps : List Nat} {M : Mx} {ls : List Ln} (hM : Rect n M) (ho : Ops 0 (ln1 M) ls) (h : FormTo n d ps ls) : HnfOf n M (fRows d ls) := by
  have hd0 := ln1_dim hM
  have hd := hd0.ops ho
  have hl := ho.lat hd0
  rw [ln1_lat] at hl
  have hf := h.lat hd
  exact ⟨⟨ps, h.isH hd⟩, fun v hv => hl.1 v (hf.1 v hv), fun v hv => (hl.2 v hv).trans hf.2⟩
theorem FormTo.full {c c' d : Nat} {ps : List Nat} {ls : List Ln} (h : FormTo c d ps ls) (hd : d = ls.length) (hc : c ≤ c') : FormTo c' d ps ls :=
  ⟨h.len, h.le, fun i hi => by have := h.lt i hi; omega, h.inc, h.left, h.pos, h.red, fun i h1 h2 => by omega⟩
def sumZ (f : Nat → Int) : Nat → Int
  | 0 => 0
  | n + 1 => sumZ f n + f n
theorem sumZ_congr {f g : Nat → Int} : ∀ {n}, (∀ i, i < n → f i = g i) → sumZ f n = sumZ g n
  | 0, _ => rfl
  | n + 1, h => by rw [sumZ, sumZ, sumZ_congr (fun i hi => h i (by omega)), h n (by omega)]
theorem sumZ_zero {f : Nat → Int} : ∀ {n}, (∀ i, i < n → f i = 0) → sumZ f n = 0
  | 0, _ => rfl
  | n + 1, h => by rw [sumZ, sumZ_zero (fun i hi => h i (by omega)), h n (by omega)]; rfl
theorem sumZ_sub (f g : Nat → Int) : ∀ n, sumZ (fun i => f i - g i) n = sumZ f n - sumZ g n
  | 0 => rfl
  | n + 1 => by rw [sumZ, sumZ, sumZ, sumZ_sub f g n]; omega
theorem sumZ_mul (q : Int) (f : Nat → Int) : ∀ n, sumZ (fun i => q * f i) n = q * sumZ f n
  | 0 => by simp [sumZ]
  | n + 1 => by rw [sumZ, sumZ, sumZ_mul q f n, Int.mul_add]
theorem sumZ_one {f : Nat → Int} {k : Nat} : ∀ {n}, k < n → (∀ i, i < n → i ≠ k → f i = 0) → sumZ f n = f k
  | 0, h, _ => by omega
  | n + 1, h, hz => by
    rw [sumZ]
    by_cases e : k = n
    · subst e; rw [sumZ_zero (fun i hi => hz i (by omega) (by omega))]; omega
    · rw [sumZ_one (n := n) (by omega) (fun i hi => hz i (by omega)), hz n (by omega) (Ne.symm e)]; omega
def cmb (M : Mx) (y : V) : V := fun j => sumZ (fun i => y i * eM M i j) M.length
theorem cmb_sub (M : Mx) (y z : V) (q : Int) (j : Nat) : cmb M (Hnf.sub y q z) j = cmb M y j - q * cmb M z j := by
  unfold cmb
  rw [← sumZ_mul, ← sumZ_sub]
  exact sumZ_congr fun i _ => by simp only [Hnf.sub]; grind
theorem cmb_zero (M : Mx) (j : Nat) : cmb M (fun _ => 0) j = 0 := sumZ_zero fun i _ => by simp
def wideM (M : Mx) : Mx := M.mapIdx fun i r => r ++ unitR M.length i
@[simp] theorem wideM_length (M : Mx) : (wideM M).length = M.length := by simp [wideM]
theorem wideM_get {M : Mx} {i : Nat} (h : i < M.length) : (wideM M)[i]'(by simpa using h) = M[i] ++ unitR M.length i := by simp [wideM]
theorem wideM_rect {c : Nat} {M : Mx} (h : Rect c M) : Rect (c + M.length) (wideM M) := by
  intro r hr
  obtain ⟨i, hi, rfl⟩ := List.getElem_of_mem hr
  rw [wideM_get (by simpa using hi), List.length_append, h _ (List.getElem_mem _)]
  simp [unitR]
theorem unitR_getD (m i j : Nat) : (unitR m i).getD j 0 = if j = i ∧ i < m then 1 else 0 := by
  unfold unitR
  rw [List.getD_eq_getElem?_getD, List.getElem?_set]
  by_cases e : i = j
  · subst e
    by_cases h : i < m
    · simp [h]
    · simp [h]
  · rw [if_neg e, if_neg (by omega), List.getElem?_replicate]
    split <;> rfl
theorem wide_vr {c : Nat} {M : Mx} (hR : Rect c M) {i : Nat} (h : i < M.length) (j : Nat) : vr ((wideM M)[i]'(by simpa using h)) j = if j < c then eM M i j else if j = c + i then 1 else 0 := by
  have hl : M[i].length = c := hR _ (List.getElem_mem h)
  rw [wideM_get h]
  unfold vr eM
  rw [getD_get h]
  simp only [List.getD_eq_getElem?_getD]
  by_cases hj : j < c
  · rw [if_pos hj, List.getElem?_append_left (by omega)]
  · rw [if_neg hj, List.getElem?_append_right (by omega), ← List.getD_eq_getElem?_getD, unitR_getD, hl]
    by_cases e : j = c + i
    · rw [if_pos e, if_pos (by omega)]
    · rw [if_neg e, if_neg (by omega)]
theorem eM_far {c : Nat} {M : Mx} (hR : Rect c M) {i j : Nat} (hj : c ≤ j) : eM M i j = 0 := by
  unfold eM
  rcases Nat.lt_or_ge i M.length with hi | hi
  · rw [getD_get hi, List.getD_eq_getElem?_getD, List.getElem?_eq_none (by rw [hR _ (List.getElem_mem hi)]; exact hj)]; rfl
  · simp only [List.getD_eq_getElem?_getD]; rw [List.getElem?_eq_none hi]; rfl
theorem eM_vr {M : Mx} {i : Nat} (h : i < M.length) (j : Nat) : eM M i j = vr M[i] j := by unfold eM vr; rw [getD_get h]
theorem wide_span {c : Nat} {M : Mx} (hR : Rect c M) {v : V} (h : Span (latM (wideM M)) v) : (∀ j, j < c → v j = cmb M (fun i => v (c + i)) j) ∧ ∀ j, c + M.length ≤ j → v j = 0 := by
  induction h with
  | zero => exact ⟨fun j _ => (cmb_zero M j).symm, fun _ _ => rfl⟩
  | @step v r q _ hr ih =>
    obtain ⟨x, hx, rfl⟩ := List.mem_map.1 hr
    obtain ⟨i, hi, rfl⟩ := List.getElem_of_mem hx
    have hi' : i < M.length := by simpa using hi
    refine ⟨fun j hj => ?_, fun j hj => ?_⟩
    · have e : (fun k => Hnf.sub v q (vr (wideM M)[i]) (c + k)) = Hnf.sub (fun k => v (c + k)) q (fun k => if k = i then 1 else 0) := by
        funext k
        simp only [Hnf.sub, wide_vr hR hi']
        rw [if_neg (by omega)]
        by_cases e : k = i
        · rw [if_pos (by omega), if_pos e]
        · rw [if_neg (by omega), if_neg e]
      rw [e, cmb_sub]
      have e2 : cmb M (fun k => if k = i then 1 else 0) j = eM M i j := by
        unfold cmb
        rw [sumZ_one (k := i) hi' (fun t _ ht => by simp only [if_neg ht]; simp)]
        simp
      rw [e2]
      simp only [Hnf.sub, wide_vr hR hi', if_pos hj, ← ih.1 j hj]
    · simp only [Hnf.sub, wide_vr hR hi', ih.2 j hj]
      rw [if_neg (by omega), if_neg (by omega)]; simp
theorem span_sum {M : List V} {f : Nat → V} (y : V) : ∀ {n : Nat}, (∀ i, i < n → Span M (f i)) → Span M (fun j => sumZ (fun i => y i * f i j) n)
  | 0, _ => .zero
  | n + 1, h => by
    have h1 := span_sum y (n := n) (fun i hi => h i (by omega))
    refine span_of_eq (h1.sub (-(y n)) (h n (by omega))) fun j => ?_
    simp only [Hnf.sub, sumZ]; grind
theorem span_wide {c : Nat} {M : Mx} (hR : Rect c M) {v : V} (h1 : ∀ j, j < c → v j = cmb M (fun i => v (c + i)) j) (h2 : ∀ j, c + M.length ≤ j → v j = 0) : Span (latM (wideM M)) v := by
  have hs := span_sum (M := latM (wideM M)) (f := fun i => vr ((wideM M).getD i [])) (fun i => v (c + i)) (n := M.length) (fun i hi => by
    rw [getD_get (by simpa using hi)]; exact .mem (List.mem_map.2 ⟨_, List.getElem_mem _, rfl⟩))
  refine span_of_eq hs fun j => ?_
  have e : ∀ i, i < M.length → v (c + i) * vr ((wideM M).getD i []) j = v (c + i) * (if j < c then eM M i j else if j = c + i then 1 else 0) := fun i hi => by
    rw [getD_get (by simpa using hi), wide_vr hR hi]
  rw [sumZ_congr e]
  by_cases hj : j < c
  · rw [h1 j hj]; unfold cmb; exact sumZ_congr fun i _ => by rw [if_pos hj]
  · by_cases hj2 : j < c + M.length
    · rw [sumZ_one (k := j - c) (by omega) (fun i hi hne => by rw [if_neg hj, if_neg (by omega)]; simp), if_neg hj, if_pos (by omega), show c + (j - c) = j by omega]; simp
    · rw [h2 j (by omega), sumZ_zero fun i hi => by rw [if_neg hj, if_neg (by omega)]; simp]
theorem span_cmb {M : Mx} {v : V} : Span (latM M) v ↔ ∃ y, v = cmb M y := by
  constructor
  · intro h
    induction h with
    | zero => exact ⟨fun _ => 0, by funext j; exact (cmb_zero M j).symm⟩
    | @step v r q _ hr ih =>
      obtain ⟨y, rfl⟩ := ih
      obtain ⟨x, hx, rfl⟩ := List.mem_map.1 hr
      obtain ⟨i, hi, rfl⟩ := List.getElem_of_mem hx
      refine ⟨Hnf.sub y q (fun k => if k = i then 1 else 0), ?_⟩
      funext j
      rw [cmb_sub]
      have e2 : cmb M (fun k => if k = i then 1 else 0) j = eM M i j := by
        unfold cmb
        rw [sumZ_one (k := i) hi (fun t _ ht => by simp only [if_neg ht]; simp)]
        simp
      rw [e2, eM_vr hi]; rfl
  · rintro ⟨y, rfl⟩
    have hs := span_sum (M := latM M) (f := fun i => vr (M.getD i [])) y (n := M.length) (fun i hi => by
      rw [getD_get hi]; exact .mem (List.mem_map.2 ⟨_, List.getElem_mem _, rfl⟩))
    exact hs
def upr (c : Nat) (H : Mx) : Mx := H.filter fun r => decide (pv r < c)
def low (c : Nat) (H : Mx) : Mx := H.filter fun r => !decide (pv r < c)
def krn (c : Nat) (H : Mx) : Mx := (low c H).map (List.drop c)
theorem split_at (P : Nat → Prop) (hm : ∀ i j, i < j → ¬ P i → ¬ P j) : ∀ k, ∃ u, u ≤ k ∧ (∀ i, i < u → P i) ∧ ∀ i, u ≤ i → i < k → ¬ P i
  | 0 => ⟨0, by omega, fun i h => by omega, fun i _ h => by omega⟩
  | k + 1 => by
    obtain ⟨u, hu, h1, h2⟩ := split_at P hm k
    by_cases hk : P k
    · have : u = k := Classical.byContradiction fun hne => hm u k (by omega) (h2 u (Nat.le_refl _) (by omega)) hk
      subst this
      exact ⟨u + 1, by omega, fun i hi => by
        rcases Nat.lt_or_ge i u with h | h
        · exact h1 i h
        · have : i = u := by omega
          subst this; exact hk, fun i h h' => by omega⟩
    · exact ⟨u, by omega, h1, fun i hi hik => by
        by_cases e : i = k
        · subst e; exact hk
        · exact h2 i hi (by omega)⟩
theorem filter_take {α : Type} {p : α → Bool} : ∀ {l : List α} {u : Nat}, (∀ i (h : i < l.length), i < u → p l[i] = true) → (∀ i (h : i < l.length), u ≤ i → p l[i] = false) → l.filter p = l.take u ∧ l.filter (fun a => !p a) = l.drop u
  | [], u, _, _ => by simp
  | a :: l, 0, _, h2 => by
    have ih := filter_take (l := l) (u := 0) (p := p) (fun i h hi => by omega) (fun i h _ => by have := h2 (i + 1) (by simpa using h) (by omega); simpa using this)
    have ha := h2 0 (by simp) (by omega)
    simp only [List.getElem_cons_zero] at ha
    rw [List.filter_cons_of_neg (by simp [ha]), List.filter_cons_of_pos (by simp [ha]), ih.1, ih.2]
    simp
  | a :: l, u + 1, h1, h2 => by
    have ih := filter_take (l := l) (u := u) (p := p) (fun i h hi => by have := h1 (i + 1) (by simpa using h) (by omega); simpa using this) (fun i h hi => by have := h2 (i + 1) (by simpa using h) (by omega); simpa using this)
    have ha := h1 0 (by simp) (by omega)
    simp only [List.getElem_cons_zero] at ha
    rw [List.filter_cons_of_pos ha, List.filter_cons_of_neg (by simp [ha]), ih.1, ih.2]
    simp
theorem IsH.pvs {n : Nat} {ps : List Nat} {H : Mx} (h : IsH n ps H) {i : Nat} (hi : i < H.length) : ps.getD i 0 = pv (H.getD i []) := by
  rw [isH_pv h, getD_map pv H i hi 0 []]
theorem IsH.split {n : Nat} {ps : List Nat} {H : Mx} (h : IsH n ps H) (c : Nat) : ∃ u, u ≤ H.length ∧ upr c H = H.take u ∧ low c H = H.drop u ∧ (∀ i, i < u → ps.getD i 0 < c) ∧ ∀ i, u ≤ i → i < H.length → c ≤ ps.getD i 0 := by
  obtain ⟨u, hu, h1, h2⟩ := split_at (fun i => i < H.length ∧ ps.getD i 0 < c) (fun i j hij hn hp => hn ⟨by omega, by have := h.inc i j hij hp.1; omega⟩) H.length
  have hf := filter_take (p := fun r => decide (pv r < c)) (l := H) (u := u) (fun i hi hiu => by
    have := (h1 i hiu).2
    rw [h.pvs hi, getD_get hi] at this
    exact decide_eq_true this) (fun i hi hiu => by
    have := h2 i hiu hi
    refine decide_eq_false fun hc => this ⟨hi, ?_⟩
    rw [h.pvs hi, getD_get hi]; exact hc)
  exact ⟨u, hu, hf.1, hf.2, fun i hi => (h1 i hi).2, fun i hi hl => Classical.byContradiction fun hc => h2 i hi hl ⟨hl, by omega⟩⟩
theorem subK_take (k : Int) (c : Nat) : ∀ (a b : List Int), b.length ≤ a.length → (subK k a b).take c = subK k (a.take c) (b.take c) := by
  induction c with
  | zero => intro a b _; simp [subK]
  | succ c ih =>
    intro a b h
    cases b with
    | nil => simp [subK_nil]
    | cons y b =>
      cases a with
      | nil => simp at h
      | cons x a => simp only [subK, List.take_succ_cons]; rw [ih a b (by simpa using h)]
theorem getD_take {l : List Int} {c j : Nat} (h : j < c) : (l.take c).getD j 0 = l.getD j 0 := by
  simp only [List.getD_eq_getElem?_getD, List.getElem?_take, if_pos h]
theorem getD_drop (l : List Int) (c j : Nat) : (l.drop c).getD j 0 = l.getD (c + j) 0 := by
  simp only [List.getD_eq_getElem?_getD, List.getElem?_drop]
theorem pv_take {r : List Int} {c : Nat} (h : pv r < c) (hr : pv r < r.length) : pv (r.take c) = pv r := by
  refine (pv_of (p := pv r) ?_ fun j hj => ?_).1
  · rw [getD_take h]; exact pv_ne hr
  · rw [getD_take (by omega)]; exact pv_zero hj
theorem redX_left {m c : Nat} : ∀ (U : Mx) (l : List Int), Rect m U → l.length = m → (∀ r ∈ U, pv r < c ∧ pv r < m) → (redX U l).take c = redX (U.map (List.take c)) (l.take c)
  | [], l, _, _, _ => rfl
  | r :: U, l, hR, hl, hp => by
    have hr : r.length = m := hR r (by simp)
    obtain ⟨p1, p2⟩ := hp r (by simp)
    rw [redX, List.map_cons, redX, redX_left U _ (fun s hs => hR s (by simp [hs])) (by simp [hl]) (fun s hs => hp s (by simp [hs])), subK_take _ _ _ _ (by omega)]
    have e : stepQ (r.take c) (l.take c) = stepQ r l := by
      unfold stepQ
      rw [pv_take p1 (by omega), getD_take p1, getD_take p1]
    rw [e]
theorem eM_map_take {c : Nat} {H : Mx} {i j : Nat} (hj : j < c) : eM (H.map (List.take c)) i j = eM H i j := by
  unfold eM
  rcases Nat.lt_or_ge i H.length with hi | hi
  · rw [getD_map (List.take c) H i hi [] [], getD_take hj]
  · rw [show (H.map (List.take c)).getD i [] = [] by rw [List.getD_eq_getElem?_getD, List.getElem?_eq_none (by simpa using hi)]; rfl, show H.getD i [] = [] by rw [List.getD_eq_getElem?_getD, List.getElem?_eq_none hi]; rfl]
theorem eM_map_drop {c : Nat} {H : Mx} {i j : Nat} : eM (H.map (List.drop c)) i j = eM H i (c + j) := by
  unfold eM
  rcases Nat.lt_or_ge i H.length with hi | hi
  · rw [getD_map (List.drop c) H i hi [] [], getD_drop]
  · rw [show (H.map (List.drop c)).getD i [] = [] by rw [List.getD_eq_getElem?_getD, List.getElem?_eq_none (by simpa using hi)]; rfl, show H.getD i [] = [] by rw [List.getD_eq_getElem?_getD, List.getElem?_eq_none hi]; rfl]; rfl
theorem eM_take {H : Mx} {u i j : Nat} (h : i < u) : eM (H.take u) i j = eM H i j := by
  unfold eM; simp only [List.getD_eq_getElem?_getD, List.getElem?_take, if_pos h]
theorem eM_drop {H : Mx} {u i j : Nat} : eM (H.drop u) i j = eM H (u + i) j := by
  unfold eM; simp only [List.getD_eq_getElem?_getD, List.getElem?_drop]
theorem getD_takeN {l : List Nat} {u i : Nat} (h : i < u) : (l.take u).getD i 0 = l.getD i 0 := by
  simp only [List.getD_eq_getElem?_getD, List.getElem?_take, if_pos h]
theorem IsH.leftU {n c u : Nat} {ps : List Nat} {H : Mx} (h : IsH n ps H) (hc : c ≤ n) (hu : u ≤ H.length) (hp : ∀ i, i < u → ps.getD i 0 < c) : IsH c (ps.take u) ((H.take u).map (List.take c)) := by
  have hl : ((H.take u).map (List.take c)).length = u := by simp; omega
  have hpl := h.len
  refine ⟨fun r hr => ?_, by simp; omega, fun i hi => ?_, fun i k hik hk => ?_, fun i hi j hj => ?_, fun i hi => ?_, fun i k hik hk => ?_⟩
  · obtain ⟨s, hs, rfl⟩ := List.mem_map.1 hr
    rw [List.length_take, h.rect s (List.mem_of_mem_take hs)]; omega
  · rw [getD_takeN (by omega)]; exact hp i (by omega)
  · rw [getD_takeN (by omega), getD_takeN (by omega)]; exact h.inc i k hik (by omega)
  · rw [getD_takeN (by omega)] at hj
    have := hp i (by omega)
    rw [eM_map_take (by omega), eM_take (by omega)]; exact h.left i (by omega) j hj
  · rw [getD_takeN (by omega), eM_map_take (hp i (by omega)), eM_take (by omega)]; exact h.pos i (by omega)
  · rw [getD_takeN (by omega), eM_map_take (hp k (by omega)), eM_map_take (hp k (by omega)), eM_take (by omega), eM_take (by omega)]; exact h.red i k hik (by omega)
theorem IsH.rightD {n c m u : Nat} {ps : List Nat} {H : Mx} (h : IsH n ps H) (hn : n = c + m) (hu : u ≤ H.length) (hp : ∀ i, u ≤ i → i < H.length → c ≤ ps.getD i 0) : IsH m ((ps.drop u).map (fun p => p - c)) ((H.drop u).map (List.drop c)) := by
  have hl : ((H.drop u).map (List.drop c)).length = H.length - u := by simp
  have hpl := h.len
  have hps : ∀ i, i < H.length - u → ((ps.drop u).map (fun p => p - c)).getD i 0 = ps.getD (u + i) 0 - c := fun i hi => by
    rw [List.getD_eq_getElem?_getD, List.getElem?_map, List.getElem?_drop, List.getElem?_eq_getElem (by omega), getD_get (by omega)]; rfl
  refine ⟨fun r hr => ?_, by simp; omega, fun i hi => ?_, fun i k hik hk => ?_, fun i hi j hj => ?_, fun i hi => ?_, fun i k hik hk => ?_⟩
  · obtain ⟨s, hs, rfl⟩ := List.mem_map.1 hr
    rw [List.length_drop, h.rect s (List.mem_of_mem_drop hs)]; omega
  · rw [hps i (by omega)]; have := h.lt (u + i) (by omega); have := hp (u + i) (by omega) (by omega); omega
  · rw [hps i (by omega), hps k (by omega)]
    have := h.inc (u + i) (u + k) (by omega) (by omega)
    have := hp (u + i) (by omega) (by omega); omega
  · rw [hps i (by omega)] at hj
    rw [eM_map_drop, eM_drop]; exact h.left (u + i) (by omega) _ (by omega)
  · rw [hps i (by omega), eM_map_drop, eM_drop]
    have := hp (u + i) (by omega) (by omega)
    rw [show c + (ps.getD (u + i) 0 - c) = ps.getD (u + i) 0 by omega]; exact h.pos (u + i) (by omega)
  · have := hp (u + k) (by omega) (by omega)
    rw [hps k (by omega), eM_map_drop, eM_map_drop, eM_drop, eM_drop, show c + (ps.getD (u + k) 0 - c) = ps.getD (u + k) 0 by omega]; exact h.red (u + i) (u + k) (by omega) (by omega)
end Go.Proofs.YtokjolmpdfmnbaaGreatDoor
