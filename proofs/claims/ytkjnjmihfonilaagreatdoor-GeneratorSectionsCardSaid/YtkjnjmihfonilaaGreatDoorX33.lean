/- Part 33 of the proof of the claim: contracts of the functions that it reaches, and plain laws; no condition. -/
import Derived.Test.YtkjnjmihfonilaaGreatDoorX01
import Derived.RangeFuncWrites
import Derived.ControlIn
import Derived.Lib.QuietBelow
import Derived.Test.YtkjnjmihfonilaaGreatDoorX19
import Derived.Test.YtkjnjmihfonilaaGreatDoorX18
import Derived.RangeFuncBox
import Derived.RangeFuncNested
import Derived.RangeFuncLeaves
import Derived.Shelf.Abstract
import Derived.OwnWalkIn
import Derived.TacticsInMore
import Derived.LoopNIn
import Derived.LoopIn
import Derived.Test.YtkjnjmihfonilaaGreatDoorX13
import Derived.Test.YtkjnjmihfonilaaGreatDoorX31
import Derived.Test.YtkjnjmihfonilaaGreatDoorX23
import Derived.Maps.AppendAt
import Derived.Test.YtkjnjmihfonilaaGreatDoorX22
import Derived.Test.YtkjnjmihfonilaaGreatDoorX25
namespace Go.Proofs.YtkjnjmihfonilaaGreatDoor
open Go Go.RowKit
def SeqPr {α : Type} (F : Fence) (n : Nat) (P : Program) (gf : Nat) (lb : Array Value) (encs : α → Array Value) (Kp : World → World → Prop) (Pr : Nat → α → World → Prop) (N : Nat) (w : World) : Prop :=
  ∀ (l : Nat) (J : List α → World → Prop) (W : World), Ext w W → (∀ s A B, J s A → Ext A B → J s B) →
    (∀ pre x A, J pre A → pre.length < N → Pr pre.length x A → YieldAt F (n - 1) P l (encs x) A fun e B => e = .returned (.bool true) ∧ J (pre ++ [x]) B ∧ Kp A B) →
    J [] W → CallsIn F n P gf (#[.func (.yield l) #[] #[]] ++ lb) W fun e B => (∃ v, e = .returned v) ∧ ∃ xs, xs.length = N ∧ J xs B
theorem range_pr {F : Fence} {n : Nat} {P : Program} {α : Type} {g : Operand} {ps : Array Tmp} {assign body : Code} {Q : Exit → Act → World → Prop} {a : Act} {w : World}
    (hro : F.round = none) (h1 : 1 ≤ n) {gf : Nat} {lb : Array Value} (hg : a.eval g = .func (.func gf) #[] lb) (hFg : F.fn gf) (eg : ∀ args w, (callFunc gf args).run P w = .ok (.enter gf args) w)
    {encs : α → Array Value} {Kp : World → World → Prop} {Pr : Nat → α → World → Prop} {N : Nat} {w0 : World} (hw0 : Ext w0 w) (hseq : SeqPr F (n - 1) P gf lb encs Kp Pr N w0)
    (hKt : ∀ {A B C : World}, Kp A B → Kp B C → Kp A C) (hKb : ∀ (W : World) (l : Nat) (r r' : Loop), w.heap.size ≤ l → W.heap[l]? = some (.loop r) → Kp W (W.putObj l (.loop r')))
    (hPr : ∀ k x (W : World) (l : Nat) (r r' : Loop), W.heap[l]? = some (.loop r) → Pr k x W → Pr k x (W.putObj l (.loop r'))) (hps : ∀ x, (encs x).size = ps.size)
    (I : List α → World → Prop) (hI : OwnFrom w.heap.size I) (hIe : ∀ s A B, I s A → Ext A B → I s B) (h0 : I [] w) (a₁ : α → Act)
    (hassign : ∀ (l : Nat) (x : α) (W : World) (K : Act → World → Prop), K (a₁ x) W →
      assign.wpIn (F.inRound l) (n - 1 - 1) P (Exit.then K (fun _ _ _ => False)) { tmps := (ps.zip (encs x)).foldl (fun t (p, v) => t.setIfInBounds p v) a.tmps, defers := [] } W)
    (hbody : ∀ (l : Nat) (pre : List α) (x : α) (W : World), I pre W → pre.length < N → Pr pre.length x W → body.wpIn (F.inRound l) (n - 1 - 1) P (ownPostG w.heap.size Kp I (fun _ _ _ => False) (pre ++ [x]) W) (a₁ x) W)
    (hdone : ∀ (D : Nat) (xs : List α) (W : World), w.heap.size ≤ D → xs.length = N → I xs W → W.heap[D]? = some (.deferred (some [])) → Q .normal { a with defers := { target := .collected D, args := #[] } :: a.defers } W) :
    (Code.rangeFunc g ps assign body).wpIn F n P Q a w := by
  refine wpIn_rangeFunc fun fn hfn => ?_
  rw [hro]
  obtain ⟨lp, hlp⟩ : ∃ lp : LoopState → Option Code → Loop, lp = fun st pe => { state := st, pending := pe, fn, tmps := a.tmps, params := ps, assign, body, defers := w.heap.size } := ⟨_, rfl⟩
  obtain ⟨d, hd⟩ : ∃ d, d = w.heap.size := ⟨_, rfl⟩
  have hE1 : Ext w ((w.alloc (.deferred (some []))).alloc (.loop (lp .ready none))) := ((Ext.refl w).alloc _).alloc _
  have hL1 : ((w.alloc (.deferred (some []))).alloc (.loop (lp .ready none))).heap[d + 1]? = some (.loop (lp .ready none)) := by
    have := World.alloc_heap_new (w.alloc (.deferred (some []))) (.loop (lp .ready none))
    rw [World.size_alloc] at this; rw [hd]; exact this
  have hD1 : ((w.alloc (.deferred (some []))).alloc (.loop (lp .ready none))).heap[d]? = some (.deferred (some [])) := by
    rw [hd]; exact (Below.heap_alloc _ _ _ (by simp)).trans (World.alloc_heap_new w _)
  obtain ⟨W1, hW1⟩ : ∃ W1, W1 = (w.alloc (.deferred (some []))).alloc (.loop (lp .ready none)) := ⟨_, rfl⟩
  rw [← hW1] at hE1 hL1 hD1
  refine ⟨d + 1, [{ target := .collected d, args := #[] }], W1, { target := .fn (.func gf) lb, args := #[.func (.yield (d + 1)) #[] #[]] }, W1, gf, #[.func (.yield (d + 1)) #[] #[]] ++ lb, W1, ?_, ?_, ?_, ?_, fun _ => h1, ?_⟩
  · rw [hW1, hlp, hd]; exact run_enterLoop_outer _ _ _ _ _
  · simp only [resolve, hg]
    simp [go_sem]
  · intro f' hf'
    simp [Target.leads] at hf'
    subst hf'; exact hFg
  · simp [invoke, go_sem, eg]
  refine (hseq (d + 1) (fun pre W => I pre W ∧ W.heap[d + 1]? = some (.loop (lp .ready none)) ∧ W.heap[d]? = some (.deferred (some []))) _ (hw0.trans hE1) (fun s A B hs hAB => ⟨hIe _ _ _ hs.1 hAB, (hAB.block _ (Array.getElem?_eq_some_iff.1 hs.2.1).1).trans hs.2.1, (hAB.block _ (Array.getElem?_eq_some_iff.1 hs.2.2).1).trans hs.2.2⟩) ?_ ⟨hIe _ _ _ h0 hE1, hL1, hD1⟩).mono ?_
  · rintro pre x W ⟨hi, hl, hk⟩ hlen hpr
    have hlt : d + 1 < W.heap.size := (Array.getElem?_eq_some_iff.1 hl).1
    have hy := run_yield (P := P) (args := encs x) hl (by rw [hlp]; exact hps x)
    rw [hlp] at hy
    refine ⟨fn, _, assign, body, hy, roundIn_of_wpIn hfn (hassign _ x W _ ⟨_, run_beginRound hl (by rw [hlp]), ?_⟩)⟩
    have hl2 : (W.putObj (d + 1) (.loop { lp .ready none with state := .busy })).heap[d + 1]? = some (.loop { lp .ready none with state := .busy }) := World.putObj_heap_same hlt
    have hk2 : (W.putObj (d + 1) (.loop { lp .ready none with state := .busy })).heap[d]? = some (.deferred (some [])) := (World.putObj_heap_other (by omega)).trans hk
    refine wpIn_mono (hbody _ pre x _ (hI.putObj _ hi (by omega) hl rfl) hlen (hPr _ _ _ _ _ _ hl hpr)) ?_
    rintro e a3 W3 hp
    cases e with
    | normal =>
      obtain ⟨hk3, hkp3, hi3⟩ := hp
      have hl3 := hk3.same _ _ (by omega) hl2 rfl
      have hd3 := hk3.same _ _ (by omega) hk2 rfl
      have hr := run_endRound (P := P) none hl3
      refine ⟨_, _, hr, rfl, ⟨hI.putObj _ hi3 (by omega) hl3 rfl, ?_, (World.putObj_heap_other (by omega)).trans hd3⟩, hKt (hKt (hKb _ _ _ _ (by omega) hl) hkp3) (hKb _ _ _ _ (by omega) hl3)⟩
      rw [World.putObj_heap_same (Array.getElem?_eq_some_iff.1 hl3).1, hlp]
      rfl
    | ret => exact hp.2.elim
    | exit id => exact hp.2.elim
    | goto t => exact hp.2.elim
    | panic ch => exact hp.elim
    | outgrown => exact hp.elim
  · rintro e W2 ⟨⟨v, rfl⟩, xs, hxs, hi, hl, hk⟩
    have hr := run_endLoop (P := P) hl (by rw [hlp]; simp)
    rw [show (lp .ready none).pending = none by rw [hlp]] at hr
    refine ⟨none, _, hr, ?_⟩
    exact hdone d xs _ (by omega) hxs (hI.putObj _ hi (by omega) hl rfl) ((World.putObj_heap_other (by omega)).trans hk)
section
variable {l n : Nat} {P : Program} {ops : Array Oper} {Q : Exit → Act → World → Prop}
theorem upon_round {o : Oper} {a : Act} {next next' : Act → World → Prop} {r : Result Next} (hn : ∀ a w, next a w → next' a w) (h : o.upon P a next Q r) : o.uponIn (Fence.wide.inRound l) n P a next' Q r := by
  cases r with
  | ok x w' =>
    cases x with
    | value v => exact hn _ _ h
    | skip => exact hn _ _ h
    | defer d => exact hn _ _ h
    | enter f args =>
      refine ⟨fun hd => (by simp [Fence.wide] at hd), ?_⟩
      refine CallsIn.mono (callsIn_wide.2 h) fun e w'' he => ?_
      cases e with
      | returned v => exact hn _ _ he
      | panicked c => exact he
      | outgrown => exact he
    | row rw args =>
      refine ⟨fun hd => (by simp [Fence.wide] at hd), fun c cs _ => ?_⟩
      obtain ⟨v, w'', r, s⟩ := h c cs
      exact ⟨v, w'', hn _ _ r, stepsIn_wide.2 s⟩
    | _ => exact h.elim
  | halt x w' => cases x <;> first | exact h | exact h.elim
theorem wpOps_round (hd : ∀ (i : Nat) (o : Oper), ops[i]? = some o → ∀ c, o.op ≠ Op.defer c) (hQ : ∀ a w, ¬ Q .outgrown a w) : ∀ (s : List Nat) (a : Act) (w : World), wpOps P ops Q s a w → wpOpsIn (Fence.wide.inRound l) n P ops Q s a w
  | [], _, _, h => h
  | i :: s, a, w, h => by
    unfold wpOps at h
    unfold wpOpsIn
    split
    · rename_i e; simp only [e] at h; exact wpOps_round hd hQ s a w h
    · rename_i o e
      simp only [e] at h
      split
      · rename_i hw
        rw [if_pos hw] at h
        rcases h with h | ⟨_, a0, w0, h0⟩
        · refine ⟨fun _ _ => trivial, ?_⟩
          rw [show (Fence.wide.inRound l).round = some l from rfl, Oper.semAt_some l _ _ (hd i o e)]
          exact upon_round (wpOps_round hd hQ s) h
        · exact absurd h0 (hQ a0 w0)
      · rename_i hw
        rw [if_neg hw] at h
        exact ⟨fun _ _ => trivial, wpOps_round hd hQ s _ _ h⟩
theorem round_any {id : Nat} {a : Act} {w : World} (hm : P.follows .mixedOrders = true) (hd : ∀ (i : Nat) (o : Oper), ops[i]? = some o → ∀ c, o.op ≠ Op.defer c) (hQ : ∀ a w, ¬ Q .outgrown a w)
    (h : wpAny P .any ops Q ops.size (Array.replicate ops.size false) a w.drew) : (Code.region id ops true).wpIn (Fence.wide.inRound l) n P Q a w :=
  wpIn_region_draw fun t => by
    simp only [Region.schedule, hm, Bool.true_or, if_true]
    exact wpOps_round hd hQ _ _ _ (wpAny_sound ops.size t _ a _ h)
def noDefer (l : List Oper) : Bool := l.all fun o => match o.op with | .defer _ => false | _ => true
theorem noDefer_ops {l : List Oper} (h : noDefer l = true) : ∀ (i : Nat) (o : Oper), l.toArray[i]? = some o → ∀ c, o.op ≠ Op.defer c := fun i o ho c e => by
  have hm : o ∈ l := by
    rw [List.getElem?_toArray] at ho
    exact List.mem_of_getElem? ho
  have := List.all_eq_true.1 h o hm
  rw [e] at this
  cases this
theorem round_quiet {id : Nat} {a : Act} {w : World} {s : List Oper} (hm : P.follows .mixedOrders = true) (hB : Region.lexB .any s.toArray = true) (hd : noDefer s = true) (hQ : ∀ a w, ¬ Q .outgrown a w)
    (h : wpQuiet P s.toArray (fun w' => ∃ p : Regrown, w' = Sort.grow (redrawn w p.d) p.os) (fun a' => ∀ w', (∃ p : Regrown, w' = Sort.grow (redrawn w p.d) p.os) → Q .normal a' w') s a) : (Code.region id s.toArray true).wpIn (Fence.wide.inRound l) n P Q a w := by
  refine round_any hm (noDefer_ops hd) hQ ?_
  simp only [Region.lexB, Bool.and_eq_true] at hB
  refine wpAny_of_quiet (C := fun w' => ∃ p : Regrown, w' = Sort.grow (redrawn w p.d) p.os) (Q := fun a' => ∀ w', (∃ p : Regrown, w' = Sort.grow (redrawn w p.d) p.os) → Q .normal a' w') (fun _ w' hw' h => h w' hw') _ _ _ _ ⟨⟨w.drawn + 1, #[]⟩, by rw [Sort.grow_empty]; rfl⟩ ?_
  have := wpAnyQ_lex (C := fun w' => ∃ p : Regrown, w' = Sort.grow (redrawn w p.d) p.os) (md := .any) hB.1 s 0 (Array.replicate s.toArray.size false) a (by simp) (by simpa using hB.2) h
  simpa using this
end
end Go.Proofs.YtkjnjmihfonilaaGreatDoor
namespace Go.Proofs.YtkjnjmihfonilaaGreatDoor
open Go.RowKit Go.Sort Go.Shelf
attribute [local go_sem] Oper.semAt_some
set_option maxRecDepth 100000 in
theorem pivots_any {w : World} {m n : Nat} {vb : Value} (_ : vb.oneCell' = true) :
    CallsIn Fence.wide m Tryz.prog 137 #[.agg #[.int .i64 n, vb]] w fun e w' => e = .returned (.func (.func 172) #[] #[.pointer (some ⟨w.heap.size, 0, none⟩)]) ∧ w' = w.alloc (.cells #[.int .i64 n, vb] 94) := by
  refine callsIn_wide.2 ?_
  go_enter Tryz.func137, Tryz.ntmps137
  go_wp2_with fail
  go_ret
  exact ⟨rfl, rfl⟩
abbrev encR (n : Nat) (x : Int × Nat × Nat) : Array Value := #[.int .i64 x.1, slv x.2.1 n x.2.2]
def PrR (B : Nat) (M : Mx) (k : Nat) (x : Int × Nat × Nat) (W : World) : Prop := x.1 = pvI (M.getD k []) ∧ OwnV 80 B W x.2.1 x.2.2 (ss (M.getD k []))
theorem PrR.put {B k : Nat} {M : Mx} {x : Int × Nat × Nat} {W : World} {l : Nat} {o : Obj} (o' : Obj) (hl : W.heap[l]? = some o) (ho : o.isCells = false) (h : PrR B M k x W) : PrR B M k x (W.putObj l o') :=
  ⟨h.1, ownsRow_putObj h.2 o' hl ho⟩
set_option maxRecDepth 100000 in
set_option maxHeartbeats 2000000 in
theorem pivots1_seq {m Bl n : Nat} {sb : Option Addr} {lb cb : Nat} {M : Mx} {w w0 : World} (hm : 1 ≤ m) (hM : MatR w (.slice sb lb cb) M) (hR : Rect n M) (hn : n ≤ 1000) (hml : M.length ≤ 1000) (h64 : ∀ r ∈ M, ∀ z ∈ r, I64 z) (hE : Ext w w0) (hb : w0.cell? ⟨Bl, 1, none⟩ = some (.slice sb lb cb)) (hL : Laid w) :
    SeqPr Fence.wide m Tryz.prog 172 #[.pointer (some ⟨Bl, 0, none⟩)] (encR n) (Below w.heap.size) (PrR w0.heap.size M) M.length w0 := by
  intro l J W hW hJ hY h0
  have HL := Lib.hid hL
  have HRt := Lib.hid hR
  have H64 := Lib.hid h64
  have hW1 := hW.cell hb
  obtain ⟨sa, gb, go, cap, vs, hv, hcap, hvl, hS, hr⟩ := hM
  injection hv with q1 q2 q3
  subst q1 q2 q3
  have HS := Lib.hid hS
  have HV := Lib.hid hvl
  have HR := Lib.hid hr
  have HY := Lib.hid hY
  have HJ := Lib.hid hJ
  have hwW := hE.trans hW
  have hsz := hW.size
  clear hS hvl hr hR h64 hL hY hJ hb
  show CallsIn Fence.wide m Tryz.prog 172 #[.func (.yield l) #[] #[], .pointer (some ⟨Bl, 0, none⟩)] W _
  refine callsIn_of_wp Tryz.func172 rfl trivial ?_ rfl
  simp only [Tryz.ntmps172, List.size_toArray, List.length_cons, List.length_nil, Nat.reduceAdd, Nat.reduceSub, Array.replicate_succ, Array.replicate_zero, List.push_toArray, List.append_toArray, List.nil_append, List.cons_append]
  gi_wp2
  gi_loopw [9] (fun i wr => ∃ k : Nat, k ≤ M.length ∧ i = .int .i64 k ∧ Ext w wr ∧ w0.heap.size ≤ wr.heap.size ∧ Hid (∃ pre, pre.length = k ∧ J pre wr))
    (fun i _ => M.length - (intOf i).toNat)
  case atStart => exact ⟨0, Nat.zero_le _, rfl, hwW, hsz, Lib.hid ⟨[], rfl, h0⟩⟩
  case round =>
    clear h0
    obtain ⟨k, hk, rfl, hX, hXs, hJs⟩ := hrel
    generalize wr = X at *
    by_cases hlt : k < M.length
    · have hki : (k : Int) < (M.length : Int) := by omega
      obtain rfl := HS.out.addr (by rw [HV.out]; omega)
      obtain ⟨sr, br, or, cr, hrow, hrc, hSr⟩ := MatR.row HS.out HV.out HR.out hlt
      have hrl : M[k].length = n := HRt.out _ (List.getElem_mem hlt)
      have hr64 := H64.out _ (List.getElem_mem hlt)
      have hrow' := hX.cell hrow
      obtain ⟨r, hrd⟩ : ∃ r, r = M[k] := ⟨_, rfl⟩
      have Hrd := Lib.hid (show M.getD k [] = r by rw [getD_get hlt, hrd])
      rw [← hrd] at hrow' hrc hSr hrl hr64
      have hlo := longOf_any (w := X) (v := .slice sr r.length cr) (r := r) ⟨sr, br, or, cr, rfl, hrc, hSr.ext hX⟩ (by omega) hr64 (HL.out.ext hX)
      rw [hrl] at hlo hrow'
      have Hlo := Lib.hid hlo
      have Hrl := Lib.hid hrl
      clear hlo hrl hr64 hrd hrow hSr hrc
      gi_wp2
      refine ⟨trivial, (callsIn_wide.2 Hlo.out).mono ?_⟩
      rintro e W2 ⟨g, c, rfl, hO, hE2⟩
      rw [Hrl.out]
      have hld := llead_any (w := W2) (cap := c) hO.sl (by rw [Hrl.out]; omega)
      rw [Hrl.out] at hld
      have Hld := Lib.hid hld
      have HO := Lib.hid hO
      obtain ⟨z, hz⟩ : ∃ z, z = pvI r := ⟨_, rfl⟩
      rw [← hz] at Hld
      have Hz := Lib.hid hz
      clear hld hO hz Hlo
      gi_wp2
      refine ⟨trivial, (callsIn_wide.2 Hld.out).mono ?_⟩
      rintro e W3 ⟨rfl, hE3⟩
      obtain ⟨pre, hpl, hpj⟩ := hJs.out
      have hX3 := hE2.trans hE3
      obtain ⟨fn, tmps, assign, body, hy, hR⟩ := HY.out pre (z, g, c) W3 (HJ.out _ _ _ hpj hX3) (by omega) (by
        rw [hpl]
        refine ⟨by rw [Hrd.out]; exact Hz.out, ?_⟩
        rw [Hrd.out]
        exact (HO.out.ext hE3).mono (by omega))
      dsimp only [encR] at hy
      clear Hld
      gi_wp2
      refine hR.mono ?_
      rintro e W4 ⟨rfl, hJ4, hk4⟩
      have hX4 : Ext w W4 := Ext.mk' (Below.trans (hX.trans hX3) hk4)
      have hs4 : w0.heap.size ≤ W4.heap.size := by have := hX3.size; have := hk4.size; omega
      gi_wp2
      go_roundw
      case rel => exact ⟨k + 1, by omega, by go_num, hX4, hs4, Lib.hid ⟨pre ++ [(z, g, c)], by simp [hpl], hJ4⟩⟩
      case measure => simp [intOf]; omega
    · obtain rfl : k = M.length := by omega
      obtain ⟨pre, hpl, hpj⟩ := hJs.out
      gi_wp2
      go_end0
      exact ⟨⟨_, rfl⟩, pre, hpl, hpj⟩
end Go.Proofs.YtkjnjmihfonilaaGreatDoor
namespace Go.Proofs.YtkjnjmihfonilaaGreatDoor
open Go.RowKit Go.Sort Go.Shelf
attribute [local go_sem] Oper.semAt_some
theorem ext_keeps {A B : World} (h : Ext A B) : KeepsOthers A B := ⟨h.size, fun k _ hk _ => (h.block k (Array.getElem?_eq_some_iff.1 hk).1).trans hk⟩
theorem boxed_ext {W W' : World} {B : Nat} {t : TypeId} {v : Value} (h : Boxed W B t v) (he : Ext W W') : Boxed W' B t v := (he.block B h.lt).trans h
theorem setCell_same {W : World} {B : Nat} {t : TypeId} {v : Value} (h : Boxed W B t v) : W.setCell ⟨B, 0, none⟩ v = W := by
  have e : (W.setCell ⟨B, 0, none⟩ v).heap = W.heap := by
    apply Array.ext_getElem?
    intro k
    by_cases hk : k = B
    · subst hk; exact (h.set v).trans h.symm
    · exact Below.heap_setCell W ⟨B, 0, none⟩ v k hk
  show { W with heap := (W.setCell ⟨B, 0, none⟩ v).heap } = W
  rw [e]
def RdI (w : World) (B4 br bm gr cr n : Nat) (M : Mx) (x : List Int) (pre : List (Int × Nat × Nat)) (W : World) : Prop :=
  (∃ v, Boxed W br 138 v ∧ W.ownsRow w.heap.size 80 1 v n (ss (redX (M.take pre.length) x)) ∧ v = slv gr n cr) ∧
  (∃ v, Boxed W bm 138 v ∧ W.ownsRow B4 80 1 v pre.length (ss (redQ (M.take pre.length) x)) ∧ True) ∧ Below w.heap.size w W ∧ B4 ≤ W.heap.size
theorem RdI.own {w : World} {B4 br bm gr cr n D : Nat} {M : Mx} {x : List Int} (hD : w.heap.size ≤ D) : OwnFrom D (RdI w B4 br bm gr cr n M x) :=
  OwnFrom.and (Own.from (holdsRow_own w.heap.size br 138 80 1 (fun (_ : List (Int × Nat × Nat)) => n) (fun (pre : List (Int × Nat × Nat)) => ss (redX (M.take pre.length) x)) (fun _ v => v = slv gr n cr)) _)
    (OwnFrom.and (Own.from (holdsRow_own B4 bm 138 80 1 (fun (pre : List (Int × Nat × Nat)) => pre.length) (fun (pre : List (Int × Nat × Nat)) => ss (redQ (M.take pre.length) x)) (fun _ _ => True)) _) (OwnFrom.and (ownFrom_below (Nat.le_refl _) hD) (fun _ _ _ _ hs hg _ => Nat.le_trans hs hg.size)))
theorem RdI.ext {w A B : World} {B4 br bm gr cr n : Nat} {M : Mx} {x : List Int} {pre : List (Int × Nat × Nat)} (h : RdI w B4 br bm gr cr n M x pre A) (he : Ext A B) : RdI w B4 br bm gr cr n M x pre B := by
  obtain ⟨⟨v, h1, h2, h3⟩, ⟨u, k1, k2, _⟩, hb, hz⟩ := h
  exact ⟨⟨v, boxed_ext h1 he, ownsRow_ext h2 he, h3⟩, ⟨u, boxed_ext k1 he, ownsRow_ext k2 he, trivial⟩, Below.trans hb (Below.mono he hb.size), Nat.le_trans hz he.size⟩
def RdlPost (w : World) (M : Mx) (x : List Int) (e : Ending) (w' : World) : Prop := ∃ g c v, e = .returned (.tuple #[slv g x.length c, v]) ∧ OwnV 80 w.heap.size w' g c (ss (redX M x)) ∧ IntsV w.heap.size w' v (redQ M x) ∧ Ext w w'
set_option maxRecDepth 100000 in
set_option maxHeartbeats 4000000 in
theorem lreduce_any {w : World} {sb : Option Addr} {lb cb n : Nat} {sx : Option Addr} {nx cx : Nat} {M : Mx} {ps : List Nat} {x : List Int} (hM : MatR w (.slice sb lb cb) M) (hI : IsH n ps M) (hx : RowR w (.slice sx nx cx) x) (hxl : x.length = n) (hn0 : 0 < n) (hn4 : n ≤ 4) (hs : SmK M) (hxs : ∀ z ∈ x, -1000000000 ≤ z ∧ z ≤ 1000000000) (hL : Laid w) :
    Calls Tryz.prog 91 #[latv n (.slice sb lb cb), .slice sx nx cx] w (RdlPost w M x) := by
  have hml := isH_len hI
  have h30 : ∀ z : Int, -1000000000 ≤ z ∧ z ≤ 1000000000 → z.natAbs < 2 ^ 30 := fun z hz => by
    have e : (2 : Nat) ^ 30 = 1073741824 := by decide
    rw [e]; omega
  have hP := hI.piv
  have hpl : ∀ r ∈ M, pv r < r.length := fun r hr => by
    obtain ⟨i, hi, rfl⟩ := List.getElem_of_mem hr
    have h1 := hI.lt i hi
    rw [isH_pv hI, getD_map pv M i hi 0 [], getD_get hi] at h1
    rw [hI.rect _ hr]; exact h1
  have Hbits := Lib.hid (redX_bits hpl (fun r hr z hz => h30 z (hs r hr z hz)) (fun z hz => h30 z (hxs z hz)))
  have HP := Lib.hid hP
  have Hpl := Lib.hid hpl
  have HI := Lib.hid hI
  have H30 := Lib.hid (fun r (hr : r ∈ M) z (hz : z ∈ r) => h30 z (hs r hr z hz))
  have hpv := fun W m l sb' lb' cb' (hl : MatR w (.slice sb' lb' cb') M) (hW : Ext w W) (hm : 1 ≤ m) (hc : W.cell? ⟨l, 1, none⟩ = some (.slice sb' lb' cb')) => pivots1_seq (m := m) (Bl := l) (n := n) hm hl hI.rect (by omega) (by omega) (fun r hr z hz => by have := hs r hr z hz; unfold I64; omega) hW hc hL
  have Hpv := Lib.hid (fun W m l (hW : Ext w W) (hm : 1 ≤ m) (hc : W.cell? ⟨l, 1, none⟩ = some (.slice sb lb cb)) => hpv W m l sb lb cb hM hW hm hc)
  have hlo := Lib.hid (fun W (hW : Ext w W) => longOf_any (hx.ext hW) (by omega) (fun z hz => by have := hxs z hz; unfold I64; omega) (hL.ext hW))
  have HL := Lib.hid hL
  have Hxl := Lib.hid hxl
  obtain ⟨i0, hi, hz0, hz1, hz2⟩ := info_parts Tryz.infoStr
  have Hinfo := Lib.hid (⟨hi, hz0, hz1, hz2⟩ : _ ∧ _ ∧ _ ∧ _)
  have hmx : Tryz.prog.follows .mixedOrders = true := by kernel_rfl
  clear hpv hs hxs hI hP hpl hx hL hxl hM h30 hi hz0 hz1 hz2
  have hX := (((Ext.refl w).alloc (.cells #[.int .i64 n, .slice sb lb cb] 94)).alloc (.cells #[.slice none 0 0] 138)).alloc (.cells #[.slice none 0 0] 138)
  have bR := (Boxed.new (w.alloc (.cells #[.int .i64 n, .slice sb lb cb] 94)) 138 (.slice none 0 0)).alloc (.cells #[.slice none 0 0] 138)
  have bM := Boxed.new ((w.alloc (.cells #[.int .i64 n, .slice sb lb cb] 94)).alloc (.cells #[.slice none 0 0] 138)) 138 (.slice none 0 0)
  have y0 : ((((w.alloc (.cells #[.int .i64 n, .slice sb lb cb] 94)).alloc (.cells #[.slice none 0 0] 138)).alloc (.cells #[.slice none 0 0] 138))).cell? ⟨w.heap.size, 0, none⟩ = some (.int .i64 n) := by go_simp
  have y1 : ((((w.alloc (.cells #[.int .i64 n, .slice sb lb cb] 94)).alloc (.cells #[.slice none 0 0] 138)).alloc (.cells #[.slice none 0 0] 138))).cell? ⟨w.heap.size, 1, none⟩ = some (.slice sb lb cb) := by go_simp
  have hsz : ((((w.alloc (.cells #[.int .i64 n, .slice sb lb cb] 94)).alloc (.cells #[.slice none 0 0] 138)).alloc (.cells #[.slice none 0 0] 138))).heap.size = w.heap.size + 3 := by simp
  simp only [World.size_alloc] at bR bM
  refine (callsIn_wide (n := 6)).1 ?_
  refine callsIn_of_wp_marks Tryz.func91 rfl trivial ?_ rfl
  simp only [Tryz.ntmps91, List.size_toArray, List.length_cons, List.length_nil, Nat.reduceAdd, Nat.reduceSub, Array.replicate_succ, Array.replicate_zero, List.push_toArray, List.append_toArray, List.nil_append, List.cons_append]
  gi_wp2
  refine ⟨trivial, (callsIn_wide.2 (hlo.out _ hX)).mono ?_⟩
  rintro e W2 ⟨g, c, rfl, hO, hE2⟩
  have hX2 := hX.trans hE2
  replace bR := boxed_ext bR hE2
  replace bM := boxed_ext bM hE2
  replace y0 := hE2.cell y0
  replace y1 := hE2.cell y1
  rw [Hxl.out]
  have c1 := bR.cell
  have f1 := bR.frozen
  have hs2 := hE2.size
  rw [hsz] at hs2
  have hO2 : W2.ownsRow (w.heap.size + 3) 80 1 (slv g n c) n (ss x) := by
    have := hO; unfold OwnV at this; rw [ss_length, Hxl.out, hsz] at this; exact this
  have HO := Lib.hid hO2
  clear hX hlo hO hE2 hsz hO2
  gi_wp2
  refine ⟨trivial, (pivots_any rfl).mono ?_⟩
  rintro e W4 ⟨rfl, rfl⟩
  gi_wp2
  have hE4 : Ext w ((W2.setCell ⟨w.heap.size + 1, 0, none⟩ (slv g n c)).alloc (.cells #[.int .i64 n, .slice sb lb cb] 94)) := (Ext.setCell hX2 (p := ⟨w.heap.size + 1, 0, none⟩) (by simp) (slv g n c)).alloc _
  have hc4 : ((W2.setCell ⟨w.heap.size + 1, 0, none⟩ (slv g n c)).alloc (.cells #[.int .i64 n, .slice sb lb cb] 94)).cell? ⟨W2.heap.size, 1, none⟩ = some (.slice sb lb cb) := by go_simp
  have hs4 : ((W2.setCell ⟨w.heap.size + 1, 0, none⟩ (slv g n c)).alloc (.cells #[.int .i64 n, .slice sb lb cb] 94)).heap.size = W2.heap.size + 1 := by simp
  have bR4 := (bR.set (slv g n c)).alloc (.cells #[.int .i64 n, .slice sb lb cb] 94)
  have bM4 := (bM.other (B' := w.heap.size + 1) (by omega) (slv g n c)).alloc (.cells #[.int .i64 n, .slice sb lb cb] 94)
  have hrow4 := (World.ownsRow.kept HO.out (grownBy_setCell' W2 (w.heap.size + 1) (slv g n c)) (.inr (bR.not_row (by decide) HO.out).symm)).alloc (.cells #[.int .i64 n, .slice sb lb cb] 94)
  have hg4 : g < W2.heap.size := (World.ownsRow.lt HO.out g rfl).2
  obtain ⟨W4, hW4⟩ : ∃ W4, W4 = (W2.setCell ⟨w.heap.size + 1, 0, none⟩ (slv g n c)).alloc (.cells #[.int .i64 n, .slice sb lb cb] 94) := ⟨_, rfl⟩
  rw [← hW4] at hE4 hc4 hs4 bR4 bM4 hrow4
  have hI0 : RdI w W4.heap.size (w.heap.size + 1) (w.heap.size + 1 + 1) g c n M x [] W4 :=
    ⟨⟨_, bR4, by rw [List.length_nil, List.take_zero]; exact ownsRow_mono hrow4 (by omega), rfl⟩, ⟨_, bM4, ⟨rfl, .inl ⟨rfl, rfl⟩⟩, trivial⟩, hE4, Nat.le_refl _⟩
  rw [← hW4]
  have hg4' : g < W4.heap.size := by omega
  have hw4 := hE4.size
  clear hW4 hs4 bR4 bM4 hrow4 HO bR bM y0 y1 c1 f1 hs2 hX2 hg4
  obtain ⟨Bl, hBl⟩ : ∃ Bl, Bl = W2.heap.size := ⟨_, rfl⟩
  rw [← hBl] at hc4 ⊢
  clear hBl
  refine range_pr (Kp := Below w.heap.size) (Pr := PrR W4.heap.size M) (N := M.length) (w0 := W4) rfl (by omega) (gf := 172) (lb := #[.pointer (some ⟨Bl, 0, none⟩)]) rfl trivial (enters_of Tryz.func172 (by kernel_rfl) rfl) (Ext.refl _) (Hpv.out W4 _ Bl hE4 (by omega) hc4) (fun h k => Below.trans h k) (fun W l r r' hl h => belowK_b (w := W4) hw4 W l _ _ hl h rfl rfl) (fun k x W l r r' h hp => hp.put _ h rfl) (fun _ => rfl)
    (RdI w W4.heap.size (w.heap.size + 1) (w.heap.size + 1 + 1) g c n M x) (RdI.own hw4) (fun s A B h he => h.ext he) hI0
    (fun y => { tmps := #[latv n (.slice sb lb cb), .slice sx nx cx, .pointer (some ⟨w.heap.size, 0, none⟩), undef, .pointer (some ⟨w.heap.size + 1, 0, none⟩), .pointer (some ⟨w.heap.size + 1 + 1, 0, none⟩), .int .i64 y.1, slv y.2.1 n y.2.2, undef, undef, undef, .slice sx nx cx, slv g n c, .agg #[.int .i64 n, .slice sb lb cb], .func (.func 172) #[] #[.pointer (some ⟨Bl, 0, none⟩)], .int .i64 y.1, slv y.2.1 n y.2.2, undef, undef, undef, undef, undef, undef, undef, undef, undef, undef, undef, undef, undef, undef, undef, undef, undef, undef, undef, undef, undef, undef, undef], defers := [] }) ?assign ?body ?done
  case assign =>
    intro l y W K hK
    gi_wp2
    exact hK
  case body =>
    rintro l pre ⟨z, g2, c2⟩ W ⟨⟨v, hbR, hrow, rfl⟩, ⟨u, hbM, hmul, _⟩, hB, hB4⟩ hlt ⟨hz, hOr⟩
    obtain ⟨k, hk⟩ : ∃ k, k = pre.length := ⟨_, rfl⟩
    have hkM : k < M.length := by omega
    have hstep := redX_take hkM x
    have hqstep := redQ_take hkM x
    dsimp only at hz hOr
    rw [← hk] at hrow hmul hz hOr
    have hrl : (M.getD k []).length = n := by rw [getD_get hkM]; exact HI.out.rect _ (List.getElem_mem hkM)
    have hpn := Hpl.out (M.getD k []) (by rw [getD_get hkM]; exact List.getElem_mem hkM)
    have hrp : (M.getD k []).getD (pv (M.getD k [])) 0 ≠ 0 := pv_ne hpn
    have hpI : pvI (M.getD k []) = (pv (M.getD k []) : Int) := by unfold pvI; rw [if_pos hpn]
    have hr30 : ∀ t ∈ M.getD k [], t.natAbs < 2 ^ 30 := by rw [getD_get hkM]; exact H30.out _ (List.getElem_mem hkM)
    have hyb := Hbits.out k (by omega)
    have hyl : (redX (M.take k) x).length = n := by rw [redX_length, Hxl.out]
    generalize M.getD k [] = r at *
    generalize redX (M.take k) x = y at *
    have hOy : OwnV 80 w.heap.size W g c (ss y) := by unfold OwnV; rw [ss_length, hyl]; exact hrow
    obtain ⟨E, hE⟩ : ∃ E : Nat, E = 154 := ⟨_, rfl⟩
    have hEs : 30 + (30 + 1) * k ≤ E := by omega
    have hEs0 : 30 ≤ E := by omega
    have hyb2 : ∀ z ∈ y, z.natAbs < 2 ^ E := fun z hz => Nat.lt_of_lt_of_le (hyb z hz) (Nat.pow_le_pow_right (by omega) hEs)
    have hrb2 : ∀ z ∈ r, z.natAbs < 2 ^ E := fun z hz => Nat.lt_of_lt_of_le (hr30 z hz) (Nat.pow_le_pow_right (by omega) hEs0)
    have hq2 : (stepQ r y).natAbs < 2 ^ E := stepQ_abs hrp (Nat.pow_pos (by omega)) hyb2
    have hEL : 2 * E + 2 < LIM := by rw [hE]; unfold LIM; omega
    have hpm : pv r < n := by omega
    have cq := hOy.cell (j := pv r) (by rw [ss_length, hyl]; exact hpm)
    have cr0 := hOr.cell (j := pv r) (by rw [ss_length, hrl]; exact hpm)
    rw [ss_at (by omega)] at cq cr0
    have hdy : nd (y.getD (pv r) 0) < LIM := by
      rw [getD_get (by omega)]
      have := nd_lt2 (hyb2 _ (List.getElem_mem (by omega : pv r < y.length))); omega
    have hdr : nd (r.getD (pv r) 0) < LIM := by
      rw [getD_get (by omega)]
      have := nd_lt2 (hrb2 _ (List.getElem_mem (by omega : pv r < r.length))); omega
    have hwW : Ext w W := hB
    have hgb : w.heap.size ≤ g ∧ g < W.heap.size := World.ownsRow.lt hrow g rfl
    have hg2 : W4.heap.size ≤ g2 := (World.ownsRow.lt hOr g2 rfl).1
    have hne : g2 ≠ g := by omega
    have Hdm := Lib.hid (fun W' (hW : Ext w W') => DivMod_any (a := y.getD (pv r) 0) (b := r.getD (pv r) 0) (w := W') hdy hdr hrp (HL.out.ext hW))
    have Hle := Lib.hid (fun W' (hW : Ext W W') => by
      have h8 := lless_any (w0 := w) (w := W') (ga := g) (ca := c) (k := stepQ r y) (cb := c2) (hOy.ext hW) ((hOr.ext hW).sl) hne (by rw [hrl, hyl]) (by omega) (less_big hyb2 hrb2 hq2 hEL) HL.out (hwW.trans hW)
      rw [hyl] at h8
      exact h8)
    obtain ⟨p, hp⟩ : ∃ p, p = pv r := ⟨_, rfl⟩
    obtain ⟨a, ha⟩ : ∃ a, a = y.getD p 0 := ⟨_, rfl⟩
    obtain ⟨b, hb⟩ : ∃ b, b = r.getD p 0 := ⟨_, rfl⟩
    have hqe : stepQ r y = a.fdiv b := by rw [ha, hb, hp]; rfl
    rw [← hp] at cq cr0 hpm Hdm hpI
    rw [← ha] at cq Hdm
    rw [← hb] at cr0 Hdm
    rw [hqe] at Hle hstep hqstep
    have Hstep := Lib.hid hstep
    have Hqstep := Lib.hid hqstep
    have hz2 : z = (p : Int) := by rw [hz, hpI]
    subst hz2
    have hpmI : (p : Int) < (n : Int) := by omega
    have Hk := Lib.hid hk
    have Hyl := Lib.hid hyl
    have Hmul := Lib.hid hmul
    have Hrow := Lib.hid hrow
    have Hlt := Lib.hid hlt
    have k1 := cell_regrown cq
    have k2 := cell_regrown cr0
    have k3 := cell_regrown hbR.cell
    have bD := Lib.hid (quietC (w := W) (fun W' h => Hdm.out W' (hwW.trans h)))
    clear hz hpI hrl hpn hrp hr30 hyb hyl hOr hOy hE hEs hEs0 hyb2 hrb2 hq2 hEL hdy hdr hne hp ha hb hqe hstep hqstep hk hmul hrow hlt Hdm
    gi_wp2
    refine round_quiet hmx (by kernel_rfl) (by kernel_rfl) (fun _ _ h => h) ?_
    repeat (quiet_step (exact bD.out _ _))
    refine wpQuiet_nil ?_
    intro _ hw'
    obtain ⟨⟨dq, osq⟩, hw''⟩ := hw'
    subst hw''
    have hE6 := ext_regrown W dq osq
    have bR6 := boxed_ext hbR hE6
    have bM6 := boxed_ext hbM hE6
    have c6 := bR6.cell
    have cg6 := hE6.cell cq
    have Hmul6 := Lib.hid (ownsRow_ext Hmul.out hE6)
    have Hle6 := Lib.hid (Hle.out _ hE6)
    clear bD k1 k2 k3 Hle
    generalize hW6 : grow (redrawn _ _) _ = W6 at *
    clear hW6
    gi_wp2
    refine ⟨trivial, (callsIn_wide.2 Hle6.out).mono ?_⟩
    rintro e W7 ⟨rfl, hX7, hG7⟩
    rw [← Hstep.out] at hX7
    generalize a.fdiv b = q at *
    have hug : ∀ g', u.ownBlock = some g' → W4.heap.size ≤ g' := fun g' h => (World.ownsRow.lt Hmul6.out g' h).1
    have Hug := Lib.hid (show u.ownBlock ≠ some g from fun h => by have := hug g h; omega)
    have hrow6 : W6.ownsRow w.heap.size 80 1 (slv g n c) n (ss y) := ownsRow_ext Hrow.out hE6
    have bR7 := bR6.kept hG7 (bR6.not_row (by decide) hrow6)
    have bM7 := bM6.kept hG7 (bM6.not_row (by decide) hrow6)
    have hmul7 : W7.ownsRow W4.heap.size 80 1 u k (ss (redQ (M.take k) x)) := World.ownsRow.kept Hmul6.out hG7 (by
      cases hu : u.ownBlock with
      | none => exact .inl rfl
      | some g' => exact .inr (fun e => Hug.out (by rw [hu, e])))
    have hrow7 : W7.ownsRow w.heap.size 80 1 (slv g n c) n (ss (redX (M.take (k + 1)) x)) := by
      have := hX7; unfold OwnV at this; rw [ss_length, redX_length, Hxl.out] at this; exact this
    have Hmul7 := Lib.hid hmul7
    have Hrow7 := Lib.hid hrow7
    have hs7 := hG7.size
    have hs6 := hE6.size
    have h7a : W4.heap.size ≤ W7.heap.size := by omega
    have c7 := bM7.cell
    have hqk : (redQ (M.take k) x).length = k := by rw [redQ_length, List.length_take]; omega
    clear hX7 hmul7 hrow7 hug hrow6 Hle6 bR6 bM6 c6
    gi_wp2_with (gi_at_builtin; refine wpListIn_append_own _ rfl _ _ 138 rfl W4.heap.size 80 i0 (.string ⟨#[]⟩) 1 16 Tryz.underlying138 Hinfo.out.1 Hinfo.out.2.1 Hinfo.out.2.2.1 Hinfo.out.2.2.2 rfl (by decide) _ _ _ rfl (Hmul7.out.alloc _) ⟨W7.heap.size, 0, none⟩ 1 1 [I q] rfl rfl (cell_one_new _ _ _) (by intro t ht; simp at ht; subst ht; rfl) (by unfold maxLen; omega) (by omega) (by simp; omega) ?_; intro v' w1 hown' hgrow _; obtain ⟨g', cap', rfl⟩ := ownsRow_succ hown'; obtain ⟨hv1, hv2, hr2, hk2, hb2⟩ := bM7.appended (by decide) (ownsRow_mono Hmul7.out hw4) (by omega) (by omega) (ownsRow_mono hown' hw4) hgrow; have hbb := (Boxed.kept (Boxed.alloc bR7 (.cells #[I q] 80)) hgrow (Boxed.not_row bR7 (by decide) Hmul7.out)).other (B' := w.heap.size + 1 + 1) (by omega) (.slice (some ⟨g', 0, none⟩) (k + 1) cap'); have hc1 := hv1.cell; have hf1 := hv1.frozen)
    have hlen1 : (pre ++ [((p : Int), g2, c2)]).length = k + 1 := by rw [List.length_append, ← Hk.out]; rfl
    have hkp : KeepsOthers W (w1.setCell ⟨w.heap.size + 1 + 1, 0, none⟩ (.slice (some ⟨g', 0, none⟩) (k + 1) cap')) := ((ext_keeps hE6).trans (KeepsOthers.of_grownBy hG7 (fun j o ej hj => by
      injection ej with ej
      subst ej
      obtain ⟨o', ho', hc'⟩ := cells_of_cell cg6
      rw [show W6.heap[g]? = some o' from ho'] at hj
      injection hj with hj
      rw [← hj]; exact hc'))).trans hk2
    have hbw : Below w.heap.size W (w1.setCell ⟨w.heap.size + 1 + 1, 0, none⟩ (.slice (some ⟨g', 0, none⟩) (k + 1) cap')) := ((Below.mono hE6 hB.size).trans ((Below.refl _ _).grown hG7 (by omega) (fun q' hq' => by cases hq'; exact hgb.1))).trans hb2
    have hrest := World.ownsRow.kept (World.ownsRow.alloc Hrow7.out (.cells #[I q] 80)) hgrow (.inr (fun e => Hug.out e.symm))
    have hrest2 := World.ownsRow.kept hrest (grownBy_setCell' w1 (w.heap.size + 1 + 1) (.slice (some ⟨g', 0, none⟩) (k + 1) cap')) (.inr (hv1.not_row (by decide) hrest).symm)
    have hmul2 := World.ownsRow.kept hown' (grownBy_setCell' w1 (w.heap.size + 1 + 1) (.slice (some ⟨g', 0, none⟩) (k + 1) cap')) (.inr (hv1.not_row (by decide) hown').symm)
    refine ⟨hkp.from _, hbw, ?_⟩
    refine ⟨⟨_, hbb, by rw [hlen1]; exact hrest2, rfl⟩, ⟨_, hv2, ?_, trivial⟩, hB.trans hbw, Nat.le_trans hB4 hbw.size⟩
    rw [hlen1, Hqstep.out, show ss (redQ (M.take k) x ++ [q]) = ss (redQ (M.take k) x) ++ [I q] by simp [ss]]
    exact hmul2
  case done =>
    rintro D xs W hD hxs hRd hK
    have hI6 := Lib.hid ((RdI.own hw4).putObj (.deferred none) (hRd.ext ((Ext.refl W).drew)) hD (show W.drew.heap[D]? = some (.deferred (some [])) from hK) rfl)
    obtain ⟨⟨v, hbR, hrow, rfl⟩, ⟨u, hbM, hmul, _⟩, hB, hB4⟩ := hRd
    rw [hxs, List.take_length] at hrow hmul
    have hmi : IntsV W4.heap.size W u (redQ M x) := by unfold IntsV; rw [redQ_length]; exact hmul
    obtain ⟨ga, gb, cap, rfl, _, _⟩ := hmi.sl
    rw [redQ_length] at *
    have hcR := hbR.cell
    have hcM := hbM.cell
    have hfR := hbR.frozen
    have hfM := hbM.frozen
    gi_wp2
    gi_region
    rw [setCell_same hbR, setCell_same hbM]
    gi_wp2
    refine ⟨by simp, .inl ⟨_, _, rfl, run_takeDeferred (show W.drew.heap[D]? = some (.deferred (some [])) from hK), ?_⟩⟩
    obtain ⟨⟨v, jR, jrow, rfl⟩, ⟨u, jM, jmul, _⟩, jB, _⟩ := hI6.out
    rw [hxs, List.take_length] at jrow jmul
    have jc1 := jR.cell
    have jc2 := jM.cell
    refine ⟨.tuple #[slv g n c, u], ?_, ⟨g, c, u, by rw [Hxl.out], by unfold OwnV; rw [ss_length, redX_length, Hxl.out]; exact jrow, by unfold IntsV; rw [redQ_length]; exact ownsRow_mono jmul hw4, jB⟩⟩
    simp [results, Tryz.results91, go_sem, jc1, jc2]
end Go.Proofs.YtkjnjmihfonilaaGreatDoor
namespace Go.Proofs.YtkjnjmihfonilaaGreatDoor
open Go.RowKit Go.Sort
set_option maxRecDepth 100000 in
set_option maxHeartbeats 2000000 in
theorem lcheckRow_ok {w : World} {sb : Option Addr} {lb cb n : Nat} {sx : Option Addr} {nx cx : Nat} {M : Mx} {ps : List Nat} {x : List Int} (hM : MatR w (.slice sb lb cb) M) (hI : IsH n ps M) (hn : n ≤ 12) (hl : M.length ≤ 12) (hs : SmK M) (hx : RowR w (.slice sx nx cx) x) (hxl : x.length = n) (hc : chkRow x = 0) :
    Calls Tryz.prog 90 #[latv n (.slice sb lb cb), .slice sx nx cx] w fun e w' => e = .returned (.int .i64 0) ∧ Ext w w' := by
  have hck := Lib.hid (fun W (hW : Ext w W) => latCheck_ok (hM.ext hW) hI hn hl hs)
  have hrc := fun W (hW : Ext w W) => rowCheck_any (hx.ext hW)
  rw [hc] at hrc
  have Hrc := Lib.hid hrc
  have hnx : nx = n := by obtain ⟨_, _, _, _, e, _⟩ := hx; injection e with _ e _; omega
  subst hnx
  have hX := (Ext.refl w).alloc (.cells #[.int .i64 nx, .slice sb lb cb] 94)
  have y0 : (w.alloc (.cells #[.int .i64 nx, .slice sb lb cb] 94)).cell? ⟨w.heap.size, 0, none⟩ = some (.int .i64 nx) := by go_simp
  have y1 : (w.alloc (.cells #[.int .i64 nx, .slice sb lb cb] 94)).cell? ⟨w.heap.size, 1, none⟩ = some (.slice sb lb cb) := by go_simp
  clear hM hI hn hl hs hx hxl hc hrc
  go_enter Tryz.func90, Tryz.ntmps90
  go_wp2_with fail
  refine (hck.out _ hX).mono ?_
  rintro e W1 ⟨rfl, hE1⟩
  replace y0 := hE1.cell y0
  replace hX := hX.trans hE1
  clear y1 hE1 hck
  go_wp2_with fail
  refine (Hrc.out _ hX).mono ?_
  rintro e W2 ⟨rfl, hE2⟩
  replace y0 := hE2.cell y0
  replace hX := hX.trans hE2
  go_wp2_with fail
  go_ret
  exact ⟨rfl, hX⟩
def LrpPost (w : World) (M : Mx) (x : List Int) (e : Ending) (w' : World) : Prop :=
  Ext w w' ∧ ((smallB (redX M x) = true ∧ ∃ v, e = .returned (.tuple #[v, .int .i64 0]) ∧ RowV w.heap.size w' v (redX M x)) ∨ (smallB (redX M x) = false ∧ e = .returned (.tuple #[.slice none 0 0, .int .i64 4])))
set_option maxRecDepth 100000 in
set_option maxHeartbeats 2000000 in
theorem lRepresent_any {w : World} {sb : Option Addr} {lb cb n : Nat} {sx : Option Addr} {nx cx : Nat} {M : Mx} {ps : List Nat} {x : List Int} (hM : MatR w (.slice sb lb cb) M) (hI : IsH n ps M) (hn0 : 0 < n) (hn4 : n ≤ 4) (hs : SmK M) (hx : RowR w (.slice sx nx cx) x) (hxl : x.length = n) (hc : chkRow x = 0) (hL : Laid w) :
    Calls Tryz.prog 51 #[latv n (.slice sb lb cb), .slice sx nx cx] w (LrpPost w M x) := by
  have hml := isH_len hI
  have hxb := (chkRow_ok hc).2
  have H64 := Lib.hid (chkRow_ok hc).1
  have hck := Lib.hid (fun W (hW : Ext w W) => lcheckRow_ok (hM.ext hW) hI (by omega) (by omega) hs (hx.ext hW) hxl hc)
  have hrd := Lib.hid (fun W (hW : Ext w W) => lreduce_any (hM.ext hW) hI (hx.ext hW) hxl hn0 hn4 hs hxb (hL.ext hW))
  have hP := hI.piv
  have hpl : ∀ r ∈ M, pv r < r.length := fun r hr => by
    obtain ⟨i, hi, rfl⟩ := List.getElem_of_mem hr
    have h1 := hI.lt i hi
    rw [isH_pv hI, getD_map pv M i hi 0 [], getD_get hi] at h1
    rw [hI.rect _ hr]; exact h1
  have h30 : ∀ z : Int, -1000000000 ≤ z ∧ z ≤ 1000000000 → z.natAbs < 2 ^ 30 := fun z hz => by
    have e : (2 : Nat) ^ 30 = 1073741824 := by decide
    rw [e]; omega
  have hbits := redX_bits hpl (fun r hr z hz => h30 z (hs r hr z hz)) (fun z hz => h30 z (hxb z hz)) M.length (Nat.le_refl _)
  rw [List.take_length] at hbits
  have Hnd := Lib.hid (fun z (hz : z ∈ redX M x) => show nd z ≤ LIM by
    have := nd_lt2 (hbits z hz)
    unfold LIM; omega)
  have HL := Lib.hid hL
  have hrl : (redX M x).length = x.length := redX_length _ _
  have Hrl := Lib.hid hrl
  have hX := (Ext.refl w).alloc (.cells #[.int .i64 n, .slice sb lb cb] 94)
  have y0 : (w.alloc (.cells #[.int .i64 n, .slice sb lb cb] 94)).cell? ⟨w.heap.size, 0, none⟩ = some (.int .i64 n) := by go_simp
  have y1 : (w.alloc (.cells #[.int .i64 n, .slice sb lb cb] 94)).cell? ⟨w.heap.size, 1, none⟩ = some (.slice sb lb cb) := by go_simp
  clear hM hI hn0 hn4 hs hx hc hml hxb hP hpl h30 hbits hL hrl hxl
  go_enter Tryz.func51, Tryz.ntmps51
  go_wp2_with fail
  refine (hck.out _ hX).mono ?_
  rintro e W1 ⟨rfl, hE1⟩
  replace y0 := hE1.cell y0
  replace y1 := hE1.cell y1
  replace hX := hX.trans hE1
  clear hE1 hck
  go_wp2_with fail
  refine (hrd.out _ hX).mono ?_
  rintro e W2 ⟨g, c, v, rfl, hO, hV, hE2⟩
  replace hX := hX.trans hE2
  obtain ⟨ga, gb, cap, rfl, _, _⟩ := hV.sl
  have hsh := lshort_any (cap := c) (w := W2) hO.sl (by rw [Hrl.out]; have := H64.out; omega) Hnd.out (HL.out.ext hX)
  rw [Hrl.out] at hsh
  have Hsh := Lib.hid hsh
  clear hO hV hsh hrd
  generalize x.length = m at *
  go_wp2_with fail
  refine Hsh.out.mono ?_
  rintro e W3 ⟨hr, hE3⟩
  have hXF := hX.trans hE3
  have hsz := hX.size
  cases hb : smallB (redX M x)
  · rw [hb] at hr
    have hr2 : e = .returned (.tuple #[.slice none 0 0, .int .i64 4]) := by simpa using hr
    subst hr2
    have Hb := Lib.hid hb
    clear hr hb
    go_wp2_with fail
    go_ret2
    exact ⟨hXF, .inr ⟨Hb.out, rfl⟩⟩
  · rw [hb, if_pos rfl] at hr
    obtain ⟨u, rfl, hu⟩ := hr
    have Hu := Lib.hid (hu.v.mono hsz)
    have Hb := Lib.hid hb
    clear hb hu
    go_wp2_with fail
    go_ret2
    exact ⟨hXF, .inl ⟨Hb.out, _, rfl, Hu.out⟩⟩
end Go.Proofs.YtkjnjmihfonilaaGreatDoor
namespace Go.Proofs.YtkjnjmihfonilaaGreatDoor
open Go.RowKit Go.Sort
open Hnf (V Span)
theorem getD_zeros (n j : Nat) : (List.replicate n (0 : Int)).getD j 0 = 0 := by
  rw [List.getD_eq_getElem?_getD, List.getElem?_replicate]
  split <;> rfl
theorem redX_zeros {n : Nat} : ∀ (F : Mx), Rect n F → redX F (List.replicate n 0) = List.replicate n 0
  | [], _ => rfl
  | r :: F, h => by
    have hr : r.length = n := h r (by simp)
    have h0 : stepQ r (List.replicate n 0) = 0 := by
      unfold stepQ
      rw [getD_zeros]; exact Int.zero_fdiv _
    rw [redX, h0, subK_zero _ _ (by simp [hr])]
    exact redX_zeros F fun s hs => h s (by simp [hs])
def unitL (r i : Nat) : List Int := (List.replicate r 0).set i 1
@[simp] theorem unitL_length (r i : Nat) : (unitL r i).length = r := by simp [unitL]
theorem unitL_getD {r i : Nat} (hi : i < r) (k : Nat) : (unitL r i).getD k 0 = if k = i then 1 else 0 := by
  unfold unitL
  rw [List.getD_eq_getElem?_getD, List.getElem?_set]
  by_cases h : k = i
  · subst h
    simp [hi]
  · rw [if_neg (fun e => h e.symm), if_neg h, List.getElem?_replicate]
    split <;> rfl
structure SecOK (n : Nat) (C M S : Mx) : Prop where
  len : S.length = M.length
  row : ∀ i (h : i < S.length), S[i].length = n ∧ tmpL M S[i] = unitL M.length i ∧ redX C S[i] = S[i] ∧ ∀ z ∈ S[i], -1000000000 ≤ z ∧ z ≤ 1000000000
structure PreOK (n : Nat) (C M : Mx) (r x : List Int) : Prop where
  len : x.length = n
  tmp : tmpL M x = r
  rep : redX C x = x
  sm : ∀ z ∈ x, -1000000000 ≤ z ∧ z ≤ 1000000000
theorem pre_zero {P : List Int} {C M : Mx} (h : TmOK P C M) (h0 : M.length = 0) : PreOK P.length C M [] (List.replicate P.length 0) := by
  obtain ⟨qs, hI⟩ := h.kC.1
  exact ⟨by simp, by rw [List.eq_nil_of_length_eq_zero h0]; rfl, redX_zeros C hI.rect, fun z hz => by have := (List.mem_replicate.1 hz).2; omega⟩
theorem trM_ncols {n : Nat} {M : Mx} (h0 : 0 < n) : ncols (trM n M) = M.length := by
  unfold ncols
  rw [getD_get (by simpa using h0), trM_get M h0]; simp
theorem pre_of {P : List Int} {C M H : Mx} {r x : List Int} (h : TmOK P C M) (_ : HnfOf (M.length + (trM P.length M).length) (wideM (trM P.length M)) H) (hr : r.length = M.length) (hx : x.length = P.length) (hc : ∀ j, j < M.length → cmb (trM P.length M) (vr x) j = vr r j) (hs : ∀ z ∈ redX C x, -1000000000 ≤ z ∧ z ≤ 1000000000) : PreOK P.length C M r (redX C x) :=
  ⟨by simp [hx], by rw [h.rep hx]; exact tmp_of_cmb hx hr hc, h.rep_rep hx, hs⟩
end Go.Proofs.YtkjnjmihfonilaaGreatDoor
