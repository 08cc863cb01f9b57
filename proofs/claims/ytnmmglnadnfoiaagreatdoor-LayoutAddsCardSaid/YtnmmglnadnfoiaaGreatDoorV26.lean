/- Part 26 of the proof of the claim: contracts of the functions that it reaches, and plain laws; no condition. -/
import Derived.Test.YtnmmglnadnfoiaaGreatDoorV25
import Derived.Test.YtnmmglnadnfoiaaGreatDoorV12
import Derived.OrdersHeld
import Derived.Test.YtnmmglnadnfoiaaGreatDoorV24
import Derived.BigQuiet
/- layout: First, and Move of wrong rows; what Move and Solve find, plain. -/
namespace Go.Proofs.YtnmmglnadnfoiaaGreatDoor
open Go.RowKit Go.Sort
def RetV (w : World) (v : Value) (e : Ending) (w' : World) : Prop := e = .returned v ∧ Ext w w'
/-- What Move and Solve find. -/
def MovRes (n : Nat) (r u q : List Int) (a b : Int) (f : Bool) (z : Int) : Prop :=
  ∃ H, HnfOf (n + 2) (wideM [r, u]) H ∧ ((¬ zeroL ((solL n H 2 q).take n) ∧ a = 0 ∧ b = 0 ∧ f = false ∧ z = 0)
    ∨ (zeroL ((solL n H 2 q).take n) ∧ smallB (solX n H 2 q) = true ∧ solX n H 2 q = [a, b] ∧ f = true ∧ z = 0)
    ∨ (zeroL ((solL n H 2 q).take n) ∧ smallB (solX n H 2 q) = false ∧ a = 0 ∧ b = 0 ∧ f = false ∧ z = 4))
theorem solX_pair {n : Nat} {H : Mx} {q : List Int} (lq : q.length = n) : solX n H 2 q = [(solX n H 2 q).getD 0 0, (solX n H 2 q).getD 1 0] := by
  have hl := solX_length (n := 2) (H := H) lq
  match hh : solX n H 2 q, hl with
  | [x0, x1], _ => rfl
theorem MovPost.res {w w' : World} {n : Nat} {r u q : List Int} {e : Ending} (lq : q.length = n) (h : MovPost w n r u q e w') : ∃ a b f z, e = .returned (.tuple #[keyv a b, .bool f, .int .i64 z]) ∧ MovRes n r u q a b f z ∧ Ext w w' := by
  obtain ⟨H, hH, hE, hp⟩ := h
  rcases hp with ⟨h1, rfl⟩ | ⟨h1, h2, rfl⟩ | ⟨h1, h2, rfl⟩
  · exact ⟨_, _, _, _, rfl, ⟨H, hH, .inl ⟨h1, rfl, rfl, rfl, rfl⟩⟩, hE⟩
  · exact ⟨_, _, _, _, rfl, ⟨H, hH, .inr (.inl ⟨h1, h2, solX_pair lq, rfl, rfl⟩)⟩, hE⟩
  · exact ⟨_, _, _, _, rfl, ⟨H, hH, .inr (.inr ⟨h1, h2, rfl, rfl, rfl, rfl⟩)⟩, hE⟩
theorem SolPost.res {w w' : World} {n : Nat} {r u q : List Int} {e : Ending} (lq : q.length = n) (h : SolPost w [r, u] n q e w') : ∃ a b f z v, e = .returned (.tuple #[v, .bool f, .int .i64 z]) ∧ MovRes n r u q a b f z ∧ ((f = true ∧ RowV w.heap.size w' v [a, b]) ∨ (f = false ∧ v = .slice none 0 0)) ∧ Ext w w' := by
  obtain ⟨H, hH, hE, hp⟩ := h
  rcases hp with ⟨h1, rfl⟩ | ⟨h1, h2, v, rfl, hv⟩ | ⟨h1, h2, rfl⟩
  · exact ⟨_, _, _, _, _, rfl, ⟨H, hH, .inl ⟨h1, rfl, rfl, rfl, rfl⟩⟩, .inr ⟨rfl, rfl⟩, hE⟩
  · refine ⟨_, _, _, _, _, rfl, ⟨H, hH, .inr (.inl ⟨h1, h2, solX_pair lq, rfl, rfl⟩)⟩, .inl ⟨rfl, ?_⟩, hE⟩
    rw [← solX_pair lq]; exact hv
  · exact ⟨_, _, _, _, _, rfl, ⟨H, hH, .inr (.inr ⟨h1, h2, rfl, rfl, rfl, rfl⟩)⟩, .inr ⟨rfl, rfl⟩, hE⟩
theorem MovRes.uniq {n : Nat} {r u q : List Int} {a b a' b' : Int} {f f' : Bool} {z z' : Int} (h : MovRes n r u q a b f z) (h' : MovRes n r u q a' b' f' z') : a = a' ∧ b = b' ∧ f = f' ∧ z = z' := by
  obtain ⟨H, hH, hp⟩ := h
  obtain ⟨H', hH', hp'⟩ := h'
  obtain rfl := hH.unique hH' (fun v hv => .mem hv) (fun v hv => .mem hv)
  rcases hp with ⟨h1, rfl, rfl, rfl, rfl⟩ | ⟨h1, h2, h3, rfl, rfl⟩ | ⟨h1, h2, rfl, rfl, rfl, rfl⟩ <;> rcases hp' with ⟨k1, rfl, rfl, rfl, rfl⟩ | ⟨k1, k2, k3, rfl, rfl⟩ | ⟨k1, k2, rfl, rfl, rfl, rfl⟩
  · exact ⟨rfl, rfl, rfl, rfl⟩
  · exact absurd k1 h1
  · exact absurd k1 h1
  · exact absurd h1 k1
  · rw [h3] at k3
    injection k3 with k4 k5
    injection k5 with k5 k6
    exact ⟨k4, k5, rfl, rfl⟩
  · rw [h2] at k2; cases k2
  · exact absurd h1 k1
  · rw [h2] at k2; cases k2
  · exact ⟨rfl, rfl, rfl, rfl⟩
theorem MovRes.nil {n : Nat} {r u q : List Int} {a b z : Int} (h : MovRes n r u q a b false z) : a = 0 ∧ b = 0 := by
  obtain ⟨H, hH, hp⟩ := h
  rcases hp with ⟨h1, rfl, rfl, _, rfl⟩ | ⟨h1, h2, h3, hf, rfl⟩ | ⟨h1, h2, rfl, rfl, _, rfl⟩
  · exact ⟨rfl, rfl⟩
  · cases hf
  · exact ⟨rfl, rfl⟩
theorem MovRes.found {n : Nat} {r u q : List Int} {a b z : Int} (lr : r.length = n) (lu : u.length = n) (lq : q.length = n) (h : MovRes n r u q a b true z) : z = 0 ∧ (-1000000000 ≤ a ∧ a ≤ 1000000000) ∧ (-1000000000 ≤ b ∧ b ≤ 1000000000) ∧ ∀ j, j < n → a * vr r j + b * vr u j = vr q j := by
  obtain ⟨H, hH, hp⟩ := h
  have hM : Rect n [r, u] := fun s hs => by
    simp only [List.mem_cons, List.not_mem_nil, or_false] at hs
    rcases hs with rfl | rfl
    · exact lr
    · exact lu
  rcases hp with ⟨h1, _, _, hf, _⟩ | ⟨h1, h2, h3, _, rfl⟩ | ⟨h1, h2, _, _, hf, _⟩
  · cases hf
  · have hc := solX_cmb (M := [r, u]) hM hH lq h1
    rw [h3] at h2
    have hs : ∀ y ∈ [a, b], -1000000000 ≤ y ∧ y ≤ 1000000000 := fun y hy => by
      have := List.all_eq_true.1 h2 y hy
      unfold grt at this
      simp only [Bool.not_eq_true', decide_eq_false_iff_not] at this
      omega
    refine ⟨rfl, hs a (by simp), hs b (by simp), fun j hj => ?_⟩
    have := hc j hj
    rw [show solX n H ([r, u] : Mx).length q = [a, b] from h3] at this
    simpa [cmb, sumZ, eM, vr] using this
  · cases hf
set_option maxRecDepth 100000 in
set_option maxHeartbeats 1000000 in
theorem Move_bad {w : World} {k : Int} {n m go co gr cr gu cu cq : Nat} {sq : Option Addr} {o r u q : List Int} {z : Int} (h : LayP w k n go co gr cr gu cu o r u) (hq : RowR w (.slice sq m cq) q) (hz : rowE n q = z) (hz0 : ¬ z = 0) :
    Calls Tryz.prog 40 #[layv k n go co gr cr gu cu, .slice sq m cq] w fun e w' => e = .returned (.tuple #[keyv 0 0, .bool false, .int .i64 z]) ∧ Ext w w' := by
  have hsz := Lib.hid (fun W (hW : Ext w W) => lsized_any (h.ext hW) (hq.ext hW))
  rw [hz] at hsz
  have h2 : (z == 0) = false := beq_eq_false_iff_ne.2 hz0
  have h3 : (z != 0) = true := by simp [bne, h2]
  have hX : Ext w ((w.alloc (.cells #[.int .i64 k, slv go n co, slv gr n cr, slv gu n cu] 32)).alloc (.cells #[.int .i64 0, .int .i64 0] 27)) := ((Ext.refl w).alloc _).alloc _
  have HO := Lib.hid (key_alloc w (.cells #[.int .i64 k, slv go n co, slv gr n cr, slv gu n cu] 32) 27 (.int .i64 0) (.int .i64 0))
  clear h hq hz
  go_enter Tryz.func40, Tryz.ntmps40
  go_wp2_with fail
  refine (hsz.out _ hX).mono ?_
  rintro e w1 ⟨rfl, hE1⟩
  have HO1 := Lib.hid (HO.out.ext hE1)
  have hX1 := hX.trans hE1
  clear hE1 hsz hX
  obtain ⟨q0, q1, f0, f1, r0, r1, hF⟩ := key_end hX1 (by omega) HO1.out (.int .i64 0) (.int .i64 0)
  have Hres := Lib.hid (show RetV w (.tuple #[keyv 0 0, .bool false, .int .i64 z]) (.returned (.tuple #[keyv 0 0, .bool false, .int .i64 z])) _ from ⟨rfl, hF.out⟩)
  go_wp2_with fail
  refine bodyPost_ret (v := .tuple #[keyv 0 0, .bool false, .int .i64 z]) (by simp [results, Tryz.results40, go_sem, r0, r1]) rfl Hres.out
/-- What First hands back of a right row. -/
def FirPost (w : World) (n : Nat) (o r u q : List Int) (e : Ending) (w' : World) : Prop :=
  ∃ a b f z, e = .returned (.tuple #[keyv a b, .bool f, .int .i64 z]) ∧ (if chkRow (subR q o) = 0 then MovRes n r u (subR q o) a b f z else a = 0 ∧ b = 0 ∧ f = false ∧ z = chkRow (subR q o)) ∧ Ext w w'
theorem subR_length {a b : List Int} {n : Nat} (ha : a.length = n) (hb : b.length = n) : (subR a b).length = n := by simp [subR, ha, hb]
set_option maxRecDepth 100000 in
set_option maxHeartbeats 1000000 in
theorem First_any {w : World} {k : Int} {n go co gr cr gu cu cq : Nat} {sq : Option Addr} {o r u q : List Int} (h : LayP w k n go co gr cr gu cu o r u) (hq : RowR w (.slice sq n cq) q) (lq : q.length = n) (eq : chkRow q = 0) (hn : n ≤ 3) (hL : Laid w) :
    Calls Tryz.prog 39 #[layv k n go co gr cr gu cu, .slice sq n cq] w (FirPost w n o r u q) := by
  have hsz := Lib.hid (fun W (hW : Ext w W) => lsized_ok (h.ext hW) (hq.ext hW) lq eq)
  have hsb := Lib.hid (fun W (hW : Ext w W) => rowSub_any (hq.ext hW) (show RowR W (slv go n co) o from by have := (h.ext hW).po.row; rw [h.lo] at this; exact this) eq h.eo lq h.lo)
  have hmv := Lib.hid (fun W sd cd (hW : Ext w W) (hd : RowR W (.slice sd n cd) (subR q o)) (hc : chkRow (subR q o) = 0) => Move_any (h.ext hW) hd (subR_length lq h.lo) hc hn (hL.ext hW))
  have Hld := Lib.hid (subR_length lq h.lo)
  have hX : Ext w ((w.alloc (.cells #[.int .i64 k, slv go n co, slv gr n cr, slv gu n cu] 32)).alloc (.cells #[.int .i64 0, .int .i64 0] 27)) := ((Ext.refl w).alloc _).alloc _
  have HO := Lib.hid (key_alloc w (.cells #[.int .i64 k, slv go n co, slv gr n cr, slv gu n cu] 32) 27 (.int .i64 0) (.int .i64 0))
  have hlc := (layC_new w k n go co gr cr gu cu).ext ((Ext.refl _).alloc (.cells #[.int .i64 0, .int .i64 0] 27))
  clear h hq lq eq hn hL
  go_enter Tryz.func39, Tryz.ntmps39
  go_wp2_with fail
  refine (hsz.out _ hX).mono ?_
  rintro e w1 ⟨rfl, hE1⟩
  obtain ⟨c0, c1, c2, c3⟩ := hlc.ext hE1
  have HO1 := Lib.hid (HO.out.ext hE1)
  have hX1 := hX.trans hE1
  clear hE1 hsz hX hlc
  go_wp2_with fail
  refine (hsb.out _ hX1).mono ?_
  rintro e w2 ⟨gd, cd, rfl, hd, hE2⟩
  replace c0 := hE2.cell c0
  replace c1 := hE2.cell c1
  replace c2 := hE2.cell c2
  replace c3 := hE2.cell c3
  have HO2 := Lib.hid (HO1.out.ext hE2)
  have hX2 := hX1.trans hE2
  have Hd := Lib.hid hd
  clear hd hE2 hsb hX1 HO1
  by_cases hc : chkRow (subR q o) = 0
  · have hm := Lib.hid (hmv.out w2 _ _ hX2 Hd.out.row hc)
    have Hc := Lib.hid hc
    rw [if_pos hc, hc]
    clear hc hmv Hd
    go_wp2_with fail
    refine hm.out.mono ?_
    rintro e w3 hp
    obtain ⟨a, b, f, z, rfl, hR, hE3⟩ := hp.res Hld.out
    have HR := Lib.hid hR
    have HO3 := Lib.hid (HO2.out.ext hE3)
    have hX3 := hX2.trans hE3
    clear hR hp hE3 hm
    obtain ⟨q0, q1, f0, f1, r0, r1, hF⟩ := key_end hX3 (by omega) HO3.out (.int .i64 a) (.int .i64 b)
    have Hres := Lib.hid (show FirPost w n o r u q (.returned (.tuple #[keyv a b, .bool f, .int .i64 z])) _ from ⟨a, b, f, z, rfl, by rw [if_pos Hc.out]; exact HR.out, hF.out⟩)
    go_wp2_with fail
    refine bodyPost_ret (v := .tuple #[keyv a b, .bool f, .int .i64 z]) (by simp [results, Tryz.results39, go_sem, r0, r1]) rfl Hres.out
  · have Hc := Lib.hid hc
    obtain ⟨z, hz⟩ : ∃ z, z = chkRow (subR q o) := ⟨_, rfl⟩
    rw [if_neg hc, ← hz]
    have Hz := Lib.hid hz
    have hz0 : ¬ z = 0 := by rw [hz]; exact hc
    have h2 : (z == 0) = false := beq_eq_false_iff_ne.2 hz0
    have h3 : (z != 0) = true := by simp [bne, h2]
    clear hc hmv Hd hz
    obtain ⟨q0, q1, f0, f1, r0, r1, hF⟩ := key_end hX2 (by omega) HO2.out (.int .i64 0) (.int .i64 0)
    have Hres := Lib.hid (show FirPost w n o r u q (.returned (.tuple #[keyv 0 0, .bool false, .int .i64 z])) _ from ⟨0, 0, false, z, rfl, by rw [if_neg Hc.out]; exact ⟨rfl, rfl, rfl, Hz.out⟩, hF.out⟩)
    go_wp2_with fail
    refine bodyPost_ret (v := .tuple #[keyv 0 0, .bool false, .int .i64 z]) (by simp [results, Tryz.results39, go_sem, r0, r1]) rfl Hres.out
set_option maxRecDepth 100000 in
set_option maxHeartbeats 1000000 in
theorem First_bad {w : World} {k : Int} {n m go co gr cr gu cu cq : Nat} {sq : Option Addr} {o r u q : List Int} {z : Int} (h : LayP w k n go co gr cr gu cu o r u) (hq : RowR w (.slice sq m cq) q) (hz : rowE n q = z) (hz0 : ¬ z = 0) :
    Calls Tryz.prog 39 #[layv k n go co gr cr gu cu, .slice sq m cq] w fun e w' => e = .returned (.tuple #[keyv 0 0, .bool false, .int .i64 z]) ∧ Ext w w' := by
  have hsz := Lib.hid (fun W (hW : Ext w W) => lsized_any (h.ext hW) (hq.ext hW))
  rw [hz] at hsz
  have h2 : (z == 0) = false := beq_eq_false_iff_ne.2 hz0
  have h3 : (z != 0) = true := by simp [bne, h2]
  have hX : Ext w ((w.alloc (.cells #[.int .i64 k, slv go n co, slv gr n cr, slv gu n cu] 32)).alloc (.cells #[.int .i64 0, .int .i64 0] 27)) := ((Ext.refl w).alloc _).alloc _
  have HO := Lib.hid (key_alloc w (.cells #[.int .i64 k, slv go n co, slv gr n cr, slv gu n cu] 32) 27 (.int .i64 0) (.int .i64 0))
  clear h hq hz
  go_enter Tryz.func39, Tryz.ntmps39
  go_wp2_with fail
  refine (hsz.out _ hX).mono ?_
  rintro e w1 ⟨rfl, hE1⟩
  have HO1 := Lib.hid (HO.out.ext hE1)
  have hX1 := hX.trans hE1
  clear hE1 hsz hX
  obtain ⟨q0, q1, f0, f1, r0, r1, hF⟩ := key_end hX1 (by omega) HO1.out (.int .i64 0) (.int .i64 0)
  have Hres := Lib.hid (show RetV w (.tuple #[keyv 0 0, .bool false, .int .i64 z]) (.returned (.tuple #[keyv 0 0, .bool false, .int .i64 z])) _ from ⟨rfl, hF.out⟩)
  go_wp2_with fail
  refine bodyPost_ret (v := .tuple #[keyv 0 0, .bool false, .int .i64 z]) (by simp [results, Tryz.results39, go_sem, r0, r1]) rfl Hres.out
end Go.Proofs.YtnmmglnadnfoiaaGreatDoor
/- A region that draws its order: loads of cells that nobody writes but its last operations, calls that make memory, and a forced tail (stores). The loads are taken first; after the kit's OrdersHeld and StillTail. -/
namespace Go.Proofs.YtnmmglnadnfoiaaGreatDoor
open Go Go.Sort
section
variable {P : Program} {ops : Array Oper} {md : Region.Mode} {Q : Exit → Act → World → Prop} {S : World → Prop}
def wpAnyLH (P : Program) (md : Region.Mode) (ops : Array Oper) (Q : Exit → Act → World → Prop) (S : World → Prop) (n : Nat) (L : Array Bool → Act → World → Prop) : Nat → Array Bool → Act → World → Prop
  | 0, listed, a, w => L listed a w
  | f + 1, listed, a, w => Region.ready md ops listed ≠ [] ∧ ∀ i ∈ Region.ready md ops listed, i < n ∧ wpOp P ops Q i (fun a' w' => S w' ∧ wpAnyLH P md ops Q S n L f (listed.setIfInBounds i true) a' w') a w
theorem wpAny_of_headH {n g : Nat} {L : Array Bool → Act → World → Prop} (hL : ∀ listed a w, L listed a w → wpAny P md ops Q g listed a w) :
    ∀ (f : Nat) (listed : Array Bool) (a : Act) (w : World), wpAnyLH P md ops Q S n L f listed a w → wpAny P md ops Q (f + g) listed a w
  | 0, listed, a, w, h => by rw [Nat.zero_add]; exact hL _ _ _ h
  | f + 1, listed, a, w, h => by
    rw [show f + 1 + g = (f + g) + 1 by omega]
    exact ⟨fun h0 => absurd h0 h.1, fun i hi => wpOp_mono (fun a' w' h' => wpAny_of_headH hL f _ a' w' h'.2) (h.2 i hi).2⟩
theorem wpAnyLH_first {n i : Nat} {oi : Oper} {v : Value} {L : Array Bool → Act → World → Prop} (hi : ops[i]? = some oi) (hsel : ∀ (j : Nat) (o : Oper) cs b, ops[j]? = some o → o.op ≠ .select cs b)
    (hQ : ∀ c a w, Q (.panic c) (a.put oi.dst v) w → Q (.panic c) a w)
    (hs : Region.sinkB md ops n = true) (hc : Region.chainB md ops n = true) (hn : n < ops.size) (hin : i < n)
    (hdone : ∀ listed a w, L listed a w → ∀ j ∈ Region.ready md ops listed, n ≤ j) :
    ∀ (f : Nat) (listed : Array Bool) (a : Act) (w : World), HeadInv md ops n listed →
      (∀ j oj, ops[j]? = some oj → j ≠ i → listed.getD j true = false → (∀ e ∈ oj.after, Region.binds md e = true → e.on ≠ i) → oi.apart ops oj = true) →
      i ∈ Region.ready md ops listed → YieldsIf P ops S oi v a → S w →
      wpAnyLH P md ops Q S n L f (listed.setIfInBounds i true) (a.put oi.dst v) w → wpAnyLH P md ops Q S n L (f + 1) listed a w := by
  intro f
  induction f with
  | zero =>
    intro listed a w inv _ hr hy hS H
    have hun := (mem_ready.1 hr).1
    refine ⟨fun h => (by rw [h] at hr; cases hr), fun j hj => ?_⟩
    have hjn : j < n := by
      rcases Nat.lt_or_ge j n with h | h
      · exact h
      · exact absurd hj (tail_waits hs hc hn inv _ i rfl hin hun j h)
    refine ⟨hjn, ?_⟩
    by_cases hji : j = i
    · subst hji; exact hy.wpOp hi hS ⟨hS, H⟩
    · have := hdone _ _ _ H j (ready_mono hj hji)
      omega
  | succ f ih =>
    intro listed a w inv hfree hr hy hS H
    have hun := (mem_ready.1 hr).1
    refine ⟨fun h => (by rw [h] at hr; cases hr), fun j hj => ?_⟩
    have hjn : j < n := by
      rcases Nat.lt_or_ge j n with h | h
      · exact h
      · exact absurd hj (tail_waits hs hc hn inv _ i rfl hin hun j h)
    refine ⟨hjn, ?_⟩
    by_cases hji : j = i
    · subst hji; exact hy.wpOp hi hS ⟨hS, H⟩
    · have h1 := (H.2 j (ready_mono hj hji)).2
      obtain ⟨hjun, oj, hoj, hall⟩ := mem_ready.1 hj
      have hnot : ∀ e ∈ oj.after, Region.binds md e = true → e.on ≠ i := fun e he hb heq => by
        have h1 := hall e he hb
        rw [heq, getD_both hun] at h1
        cases h1
      have h2 := wpOp_putIf hoj (hfree j oj hoj hji hjun hnot) (fun cs b => hsel i oi cs b hi) (fun cs b => hsel j oj cs b hoj) hQ hy h1
      have hfree' : ∀ k ok, ops[k]? = some ok → k ≠ i → (listed.setIfInBounds j true).getD k true = false →
          (∀ e ∈ ok.after, Region.binds md e = true → e.on ≠ i) → oi.apart ops ok = true := fun k ok hk hki hun hno => by
        refine hfree k ok hk hki ?_ hno
        by_cases hjk : j = k
        · subst hjk; exact hjun
        · rw [getD_set_ne true hjk] at hun; exact hun
      refine wpOp_mono (fun a' w' h3 => ⟨h3.2.1, ih (listed.setIfInBounds j true) a' w' (inv.set hj hjn) hfree' (ready_mono hr (Ne.symm hji)) h3.1 h3.2.1 ?_⟩) h2
      rw [Array.setIfInBounds_comm _ _ hji]
      exact h3.2.2
/-- What the tail must meet. -/
def LTail (P : Program) (md : Region.Mode) (ops : Array Oper) (Q : Exit → Act → World → Prop) (n : Nat) (rest : List Oper) (listed : Array Bool) (a : Act) (w : World) : Prop := Region.seqB md ops (ops.size - n) n listed = true ∧ wpList P ops Q rest a w
/-- A load is taken first. -/
theorem wpAnyLH_take {n i f : Nat} {oi : Oper} {v : Value} {rest : List Oper} {listed : Array Bool} {a : Act} {w : World} (hi : ops[i]? = some oi)
    (hB : (Region.noSelect ops && decide (n < ops.size) && Region.sinkB md ops n && Region.chainB md ops n && decide (i < n) && Region.free md ops listed i && (Region.ready md ops listed).contains i) = true)
    (hQ : ∀ c a w, Q (.panic c) (a.put oi.dst v) w → Q (.panic c) a w) (hy : YieldsIf P ops S oi v a) (hS : S w) (inv : HeadInv md ops n listed)
    (h : HeadInv md ops n (listed.setIfInBounds i true) → wpAnyLH P md ops Q S n (LTail P md ops Q n rest) f (listed.setIfInBounds i true) (a.put oi.dst v) w) : wpAnyLH P md ops Q S n (LTail P md ops Q n rest) (f + 1) listed a w := by
  simp only [Bool.and_eq_true, decide_eq_true_eq] at hB
  obtain ⟨⟨⟨⟨⟨⟨hsel, hn⟩, hs⟩, hc⟩, hin⟩, hf⟩, hr⟩ := hB
  have hr' : i ∈ Region.ready md ops listed := by simpa using hr
  exact wpAnyLH_first hi (Region.noSelect_spec hsel) hQ hs hc hn hin (fun _ _ _ hL => seqB_ready hL.1) f listed a w inv (Region.free_spec hi hf) hr' hy hS (h (inv.set hr' hin))
/-- The one operation that may come up. -/
theorem wpAnyLH_one {n i f : Nat} {o : Oper} {L : Array Bool → Act → World → Prop} {listed : Array Bool} {a : Act} {w : World} (ho : ops[i]? = some o) (hr : (Region.ready md ops listed == [i] && decide (i < n)) = true)
    (h : ∀ K' : Act → World → Prop, (∀ a w, S w → wpAnyLH P md ops Q S n L f (listed.setIfInBounds i true) a w → K' a w) → if Region.wanted o (yielded ops a.tmps) = true then Oper.wp P o a w K' Q else K' (a.put o.dst undef) w) : wpAnyLH P md ops Q S n L (f + 1) listed a w := by
  simp only [Bool.and_eq_true, decide_eq_true_eq, beq_iff_eq] at hr
  refine ⟨fun h0 => (by rw [hr.1] at h0; cases h0), fun j hj => ?_⟩
  rw [hr.1] at hj
  obtain rfl : j = i := by simpa using hj
  exact ⟨hr.2, wpOp_step ho (fun K' hK => h K' (fun a w hS hW => hK a w ⟨hS, hW⟩))⟩
theorem wpAnyLH_end {n : Nat} {rest : List Oper} {listed : Array Bool} {a : Act} {w : World} (hB : Region.seqB md ops (ops.size - n) n listed = true) (h : wpList P ops Q rest a w) : wpAnyLH P md ops Q S n (LTail P md ops Q n rest) 0 listed a w := ⟨hB, h⟩
theorem wp_region_held_tail {id : Nat} {a : Act} {w : World} {l : List Oper} (n : Nat) (hm : P.follows .mixedOrders = true) (hn : n < l.length)
    (h : HeadInv .any l.toArray n (Array.replicate l.toArray.size false) → wpAnyLH P .any l.toArray Q S n (LTail P .any l.toArray Q n (l.drop n)) n (Array.replicate l.toArray.size false) a w.drew) : (Code.region id l.toArray true).wp P Q a w := by
  have hdl : (l.drop n).length = l.toArray.size - n := by simp
  have inv0 : HeadInv .any l.toArray n (Array.replicate l.toArray.size false) :=
    ⟨by simp, fun j oj _ hl => (by rw [getD_replicate_false] at hl; cases hl), fun t _ ht => getD_in (by simpa using ht) (getD_replicate_false _ _)⟩
  refine wp_region_any hm ?_
  have := wpAny_of_headH (Q := Q) (g := l.toArray.size - n) (fun listed a' w' hL => by
    have := wpAny_of_seq (md := .any) (Q' := Q) (l.drop n) n listed a' w' (fun j => by simp [List.getElem?_drop]) (by rw [hdl]; exact hL.1) hL.2
    rwa [hdl] at this) _ _ _ _ (h inv0)
  rw [show n + (l.toArray.size - n) = l.toArray.size by simp; omega] at this
  exact this
end
end Go.Proofs.YtnmmglnadnfoiaaGreatDoor
/- smith: Kernel; layout: Alike. -/
namespace Go.Proofs.YtnmmglnadnfoiaaGreatDoor
open Go.RowKit Go.Sort
def KerPost (w : World) (M : Mx) (c : Nat) (e : Ending) (w' : World) : Prop :=
  ∃ H, HnfOf (c + M.length) (wideM M) H ∧ (if smallM (krn c H) = true then ∃ v, e = .returned (.tuple #[v, .int .i64 0]) ∧ MatO w.heap.size w' v (krn c H) else e = .returned (.tuple #[.slice none 0 0, .int .i64 4])) ∧ Ext w w'
set_option maxRecDepth 100000 in
set_option maxHeartbeats 1000000 in
theorem Kernel_any {w : World} {vm : Value} {M : Mx} {c : Nat} (hM : MatR w vm M) (hck : checkM M = 0) (h0 : 0 < M.length) (hc : c = ncols M) (hk : 2 * (2 * bC M.length 30 (c + M.length) + 2) + 2 < LIM) (hL : Laid w) :
    Calls Tryz.prog 30 #[vm] w (KerPost w M c) := by
  obtain ⟨hl12, hn12, hRt, hent⟩ := checkM_ok hck
  rw [← hc] at hn12 hRt
  have hch := Lib.hid (tableCheck_any hM)
  rw [hck] at hch
  have hwd := Lib.hid (fun W (hW : Ext w W) => wide_any (hM.ext hW) hRt h0 (by omega) (by omega) hent hk (hL.ext hW))
  have HL := Lib.hid hL
  have Hk := Lib.hid hk
  obtain ⟨sa, gb, go, cap, vs, rfl, hcap, hvl, hS, hr⟩ := hM
  obtain ⟨N, hN⟩ : ∃ N, N = M.length := ⟨_, rfl⟩
  have HN := Lib.hid hN
  rw [← hN] at hch hwd h0 hl12 ⊢
  clear hS hr hvl hcap hck hc hk hL hRt hent hN
  go_enter Tryz.func30, Tryz.ntmps30
  go_wp2_with fail
  refine hch.out.mono ?_
  rintro e w1 ⟨rfl, hE1⟩
  go_wp2_with fail
  refine (hwd.out _ hE1).mono ?_
  rintro e w2 ⟨g, cp, H, rfl, hH, hHl, hG, hHb, hE2⟩
  rw [← HN.out] at hHl
  obtain ⟨ps, hI⟩ := hH.1
  have hrc := hI.rect
  have hX2 := hE1.trans hE2
  have hkn := Lib.hid (kernel_any (w := w2) (c := c) (m := N) hG (by rw [HN.out]; exact hrc) h0 (by omega) (by omega))
  have hrows : ∀ r ∈ krn c H, r.length ≤ 1000000 ∧ ∀ z ∈ r, nd z ≤ LIM := fun r hr => by
    unfold krn low at hr
    obtain ⟨s, hs, rfl⟩ := List.mem_map.1 hr
    have hs' := (List.mem_filter.1 hs).1
    refine ⟨by rw [List.length_drop, hrc s hs', ← HN.out]; omega, fun z hz => ?_⟩
    have := nd_lt2 (hHb s hs' z (List.mem_of_mem_drop hz))
    have := Hk.out
    omega
  have hkl := krn_len2 c H
  have hsm := Lib.hid (fun W v (hW : Ext w W) (hK : GridR W v (krn c H)) => ssmall_any hK (by omega) (fun r hr => (hrows r hr).1) (fun r hr => (hrows r hr).2) (HL.out.ext hW))
  have HH := Lib.hid hH
  clear hH hI hrc hG hHb hrows hE1 hE2 hwd hch
  go_wp2_with fail
  refine hkn.out.mono ?_
  rintro e w3 ⟨vk, rfl, hK, hE3⟩
  have hX3 := hX2.trans hE3
  have hs3 := Lib.hid (hsm.out w3 vk hX3 hK)
  clear hK hkn hE3 hsm
  go_wp2_with fail
  refine hs3.out.mono ?_
  rintro e w4 ⟨hp, hE4⟩
  have hX4 := hX3.trans hE4
  have hsz := hX3.size
  by_cases hb : smallM (krn c H) = true
  · rw [if_pos hb] at hp
    obtain ⟨v, rfl, hv⟩ := hp
    have Hres := Lib.hid (show KerPost w M c (.returned (.tuple #[v, .int .i64 0])) w4 from ⟨H, HH.out, by rw [if_pos hb]; exact ⟨v, rfl, hv.mono hsz⟩, hX4⟩)
    clear hb hv
    go_wp2_with fail
    go_ret2
    exact Hres.out
  · rw [if_neg hb] at hp
    subst hp
    have Hres := Lib.hid (show KerPost w M c (.returned (.tuple #[.slice none 0 0, .int .i64 4])) w4 from ⟨H, HH.out, by rw [if_neg hb], hX4⟩)
    clear hb
    go_wp2_with fail
    go_ret2
    exact Hres.out
/-- The ways that a kernel's rows are. -/
def waysOf (K : Mx) : List (Int × Int) := K.map fun r => (r.getD 0 0, r.getD 1 0)
theorem waysOf_snoc {K : Mx} {i : Nat} (h : i < K.length) : waysOf (K.take (i + 1)) = waysOf (K.take i) ++ [(K[i].getD 0 0, K[i].getD 1 0)] := by
  show (K.take (i + 1)).map _ = (K.take i).map _ ++ [_]
  rw [List.take_succ_eq_append_getElem h, List.map_append]; rfl
theorem lim3 {n : Nat} (hn : n ≤ 3) : 2 * (2 * bC 2 30 (n + 2) + 2) + 2 < LIM := by
  rcases (show n = 0 ∨ n = 1 ∨ n = 2 ∨ n = 3 by omega) with rfl | rfl | rfl | rfl <;> decide
def AliPost (w : World) (n : Nat) (r u : List Int) (e : Ending) (w' : World) : Prop :=
  ∃ H, HnfOf (n + 2) (wideM [r, u]) H ∧ (if smallM (krn n H) = true then ∃ v, e = .returned (.tuple #[v, .int .i64 0]) ∧ KeysV w.heap.size w' v (waysOf (krn n H)) else e = .returned (.tuple #[.slice none 0 0, .int .i64 4])) ∧ Ext w w'
set_option maxRecDepth 100000 in
set_option maxHeartbeats 1000000 in
theorem Alike_any {w : World} {k : Int} {n go co gr cr gu cu : Nat} {o r u : List Int} (h : LayP w k n go co gr cr gu cu o r u) (hn : n ≤ 3) (hL : Laid w) :
    Calls Tryz.prog 47 #[layv k n go co gr cr gu cu] w (AliPost w n r u) := by
  have hck := Lib.hid (fun W (hW : Ext w W) => lcheck_ok (h.ext hW))
  have hke := Lib.hid (fun W b (hW : Ext w W) (h0 : W.cell? ⟨b, 0, none⟩ = some (slv gr n cr)) (h1 : W.cell? ⟨b, 1, none⟩ = some (slv gu n cu)) =>
    Kernel_any (c := n) (two_rows (h.pr.ext hW) (h.pu.ext hW) h.lr h.lu h0 h1) (check_two h.n12 h.lr h.lu h.er h.eu) (by simp) h.lr.symm (lim3 hn) (hL.ext hW))
  have hX : Ext w (w.alloc (.cells #[.int .i64 k, slv go n co, slv gr n cr, slv gu n cu] 32)) := (Ext.refl w).alloc _
  have hM2 : Rect n [r, u] := fun s hs => by
    simp only [List.mem_cons, List.not_mem_nil, or_false] at hs
    rcases hs with rfl | rfl
    · exact h.lr
    · exact h.lu
  have HM2 := Lib.hid hM2
  clear h hL hM2
  go_enter Tryz.func47, Tryz.ntmps47
  go_wp2_with fail
  refine (hck.out _ hX).mono ?_
  rintro e w1 ⟨rfl, hE1⟩
  have d2 := hE1.cell (show (w.alloc (.cells #[.int .i64 k, slv go n co, slv gr n cr, slv gu n cu] 32)).cell? ⟨w.heap.size, 2, none⟩ = some (slv gr n cr) by go_simp)
  have d3 := hE1.cell (show (w.alloc (.cells #[.int .i64 k, slv go n co, slv gr n cr, slv gu n cu] 32)).cell? ⟨w.heap.size, 3, none⟩ = some (slv gu n cu) by go_simp)
  have dl := World.block_lt_of_cell? _ _ d2
  have hX1 := hX.trans hE1
  have hk1 := Lib.hid (hke.out _ w1.heap.size (hX1.alloc (.cells #[slv gr n cr, slv gu n cu] 30)) (by go_simp) (by go_simp))
  clear hE1 hck hX hke
  go_wp2_with fail
  refine hk1.out.mono ?_
  rintro e w2 ⟨H, hH, hp, hE2⟩
  have HH := Lib.hid (show HnfOf (n + 2) (wideM [r, u]) H from hH)
  have hX2 := (hX1.alloc (.cells #[slv gr n cr, slv gu n cu] 30)).trans hE2
  clear hk1 hE2 hH d2 d3 dl hX1
  by_cases hb : smallM (krn n H) = true
  · rw [if_pos hb] at hp
    obtain ⟨v, rfl, hv⟩ := hp
    have Hb := Lib.hid hb
    obtain ⟨qs, hIK, _⟩ := krn_form (M := [r, u]) HM2.out HH.out
    have HrK := Lib.hid (show ∀ s ∈ krn n H, s.length = 2 from hIK.rect)
    have hKl : (krn n H).length ≤ 1000 := by
      have h1 := hIK.len
      rcases Nat.lt_or_ge 1000 (krn n H).length with h2 | h2
      · exfalso
        have g1 := hIK.inc 0 1 (by omega) (by omega)
        have g2 := hIK.inc 1 2 (by omega) (by omega)
        have g3 : qs.getD 2 0 < 2 := hIK.lt 2 (by omega)
        omega
      · exact h2
    obtain ⟨sa, gm, gmo, cap, vs, rfl, hcap, hvl, hS, hr⟩ := hv.mat
    have HS := Lib.hid hS
    have HV := Lib.hid hvl
    have HR := Lib.hid hr
    obtain ⟨K, hK⟩ : ∃ K, K = krn n H := ⟨_, rfl⟩
    have HK := Lib.hid hK
    rw [← hK] at HrK hKl HR HV hcap Hb ⊢
    clear hb hIK hS hvl hr hv hK
    go_wp2_with fail
    go_loopw [7, 9, 29] (fun out rv idx wr => ∃ i : Nat, i ≤ K.length ∧ idx = .int .i64 i ∧ Hid (KeysV w2.heap.size wr out (waysOf (K.take i))) ∧ Ext w2 wr) (fun _ _ idx _ => K.length - (intOf idx).toNat)
    case atStart => exact ⟨0, by omega, by go_num, Lib.hid (KeysV.nil _ _), Ext.refl _⟩
    case round =>
      obtain ⟨i, hi, rfl, hO, hE⟩ := hrel
      generalize wr = X at *
      by_cases hlt : i < K.length
      · have hii : (i : Int) < (K.length : Int) := by omega
        obtain rfl := HS.out.addr (by rw [HV.out]; omega)
        obtain ⟨sr, br, or, cr', hrow, hrc, hSr⟩ := MatR.row HS.out HV.out HR.out hlt
        have hrl := HrK.out _ (List.getElem_mem hlt)
        have hst := waysOf_snoc hlt
        have hrow' := hE.cell hrow
        have p0 := (hSr.ext hE).cell 0 (.int .i64 (K[i].getD 0 0)) (by rw [getD_get (by omega)]; exact is_get (by omega))
        have p1 := (hSr.ext hE).cell 1 (.int .i64 (K[i].getD 1 0)) (by rw [getD_get (by omega)]; exact is_get (by omega))
        obtain rfl := hSr.addr (by rw [is_length]; omega)
        rw [hrl] at hrow'
        generalize K[i].getD 0 0 = ka at *
        generalize K[i].getD 1 0 = kb at *
        have Hst := Lib.hid hst
        have Hln := Lib.hid (show (waysOf (K.take i)).length ≤ 1000 by unfold waysOf; rw [List.length_map, List.length_take]; omega)
        have hs0 := hE.size
        clear hrow hrc hSr hrl hst
        rw [Nat.add_zero] at p0
        go_wp2_with fail
        have d7 : Ext X X.drew := (Ext.refl X).drew
        refine wp_region_held_tail (S := fun W => Ext X W) 9 (by kernel_rfl) (by simp) ?_
        intro inv
        refine wpAnyLH_take (i := 0) (v := u7) rfl (by kernel_rfl) (fun _ _ _ h => h) (.inl ⟨by rfl, fun W hW => by go_simp⟩) d7 inv ?_
        intro inv
        go_simp
        refine wpAnyLH_take (i := 1) (v := .slice (some ⟨br, or, none⟩) 2 cr') rfl (by kernel_rfl) (fun _ _ _ h => h) (.inl ⟨by rfl, fun W hW => by go_simp⟩) d7 inv ?_
        intro inv
        go_simp
        refine wpAnyLH_take (i := 2) (v := .pointer (some ⟨br, or, none⟩)) rfl (by kernel_rfl) (fun _ _ _ h => h) (.inl ⟨by rfl, fun W hW => by go_simp⟩) d7 inv ?_
        intro inv
        go_simp
        refine wpAnyLH_take (i := 3) (v := .int .i64 ka) rfl (by kernel_rfl) (fun _ _ _ h => h) (.inl ⟨by rfl, fun W hW => by have q0 := hW.cell p0; go_simp⟩) d7 inv ?_
        intro inv
        go_simp
        refine wpAnyLH_take (i := 4) (v := .slice (some ⟨br, or, none⟩) 2 cr') rfl (by kernel_rfl) (fun _ _ _ h => h) (.inl ⟨by rfl, fun W hW => by go_simp⟩) d7 inv ?_
        intro inv
        go_simp
        refine wpAnyLH_take (i := 5) (v := .pointer (some ⟨br, or + 1, none⟩)) rfl (by kernel_rfl) (fun _ _ _ h => h) (.inl ⟨by rfl, fun W hW => by go_simp⟩) d7 inv ?_
        intro inv
        go_simp
        refine wpAnyLH_take (i := 6) (v := .int .i64 kb) rfl (by kernel_rfl) (fun _ _ _ h => h) (.inl ⟨by rfl, fun W hW => by have q0 := hW.cell p1; go_simp⟩) d7 inv ?_
        intro inv
        go_simp
        refine wpAnyLH_take (i := 7) (v := .agg #[.int .i64 ka, .int .i64 kb]) rfl (by kernel_rfl) (fun _ _ _ h => h) (.inl ⟨by rfl, fun W hW => by go_simp⟩) d7 inv ?_
        intro inv
        go_simp
        refine wpAnyLH_one (i := 8) rfl (by kernel_rfl) (fun K8 hK8 => ?_)
        go_simp
        have d8 := d7.alloc (.cells #[.int .i64 ka, .int .i64 kb] 27)
        refine hK8 _ _ d8 ?_
        clear hK8
        refine wpAnyLH_end (by kernel_rfl) ?_
        have hE8 := hE.trans d8
        have hs8 := hE8.size
        have HI := Lib.hid (hO.out.ext d8)
        go_wp2_with (at_builtin; refine app_key rfl _ _ rfl rfl HI.out rfl (b := X.heap.size) (y := ka) (z := kb) (by go_simp) (by go_simp) (by have := Hln.out; omega) (by simp at hs8 ⊢; omega) ?_; intro gg cap2 w8 hO8 hB8 hG8; rw [← Hst.out] at hO8; have hE9 := Below.trans hE8 hB8; replace hO8 := Lib.hid hO8; clear hB8 hG8)
        refine ⟨⟨i + 1, by omega, by go_num, hO8, hE9⟩, by simp [intOf]; omega⟩
      · have hie : i = K.length := by omega
        have hii : ¬ (i : Int) < (K.length : Int) := by omega
        have hT := hO.out
        rw [hie, List.take_length, HK.out] at hT
        have Hres := Lib.hid (show ∀ (v : Value) (hv : KeysV w2.heap.size X v (waysOf (krn n H))), AliPost w n r u (.returned (.tuple #[v, .int .i64 0])) X from fun v hv => ⟨H, HH.out, by rw [if_pos (by rw [← HK.out]; exact Hb.out)]; exact ⟨v, rfl, hv.mono hX2.size⟩, hX2.trans hE⟩)
        have HT := Lib.hid hT
        clear hT hO
        go_wp2_with fail
        go_ret2
        exact Hres.out _ HT.out
  · rw [if_neg hb] at hp
    subst hp
    have Hres := Lib.hid (show AliPost w n r u (.returned (.tuple #[.slice none 0 0, .int .i64 4])) w2 from ⟨H, HH.out, by rw [if_neg hb], hX2⟩)
    clear hb
    go_wp2_with fail
    go_ret2
    exact Hres.out
end Go.Proofs.YtnmmglnadnfoiaaGreatDoor
/- row: Add. -/
namespace Go.Proofs.YtnmmglnadnfoiaaGreatDoor
open Go.RowKit Go.Sort Go.Shelf
attribute [local go_sem] Oper.semAt_some
/-- The values reckoned of pairs. -/
def addP (zs : List (Int × Int)) : List Int := zs.map fun p => wrap64 (p.1 + p.2)
theorem addP_snoc (zs : List (Int × Int)) (x : Int × Int) : addP (zs ++ [x]) = addP zs ++ [wrap64 (x.1 + x.2)] := by simp [addP]
theorem addP_length (zs : List (Int × Int)) : (addP zs).length = zs.length := by simp [addP]
def addR (a b : List Int) : List Int := List.zipWith (fun x y => x + y) a b
theorem addP_all {n : Nat} {a b : List Int} (la : a.length = n) (lb : b.length = n) (ha : ∀ z ∈ a, -1000000000 ≤ z ∧ z ≤ 1000000000) (hb : ∀ z ∈ b, -1000000000 ≤ z ∧ z ≤ 1000000000) : addP (uptoP (pairF a b) n) = addR a b := by
  refine List.ext_getElem (by rw [addP_length]; simp [uptoP, addR, la, lb]) fun i h1 h2 => ?_
  have hi : i < n := by rw [addP_length] at h1; simpa [uptoP] using h1
  have h3 := ha _ (List.getElem_mem (show i < a.length by omega))
  have h4 := hb _ (List.getElem_mem (show i < b.length by omega))
  simp only [addP, uptoP, pairF, addR, List.getElem_map, List.getElem_range, List.getElem_zipWith]
  rw [List.getElem?_eq_getElem (by omega), List.getElem?_eq_getElem (by omega)]
  simp only [Option.getD_some]
  exact IntWalk.wrap64_in _ (by omega)
/-- What row.Add hands back. -/
def AddPost (w : World) (n : Nat) (d : List Int) (e : Ending) (w' : World) : Prop :=
  ∃ g c, e = .returned (.tuple #[if chkRow d = 0 then slv g n c else .slice none 0 0, .int .i64 (chkRow d)]) ∧ RowV w.heap.size w' (slv g n c) d ∧ Ext w w'
set_option maxRecDepth 100000 in
set_option maxHeartbeats 4000000 in
theorem rowAdd_any {w : World} {sa sb : Option Addr} {n ca cb : Nat} {a b : List Int} (hA : RowR w (.slice sa n ca) a) (hB : RowR w (.slice sb n cb) b) (ea : chkRow a = 0) (eb : chkRow b = 0) (la : a.length = n) (lb : b.length = n) :
    Calls Tryz.prog 45 #[.slice sa n ca, .slice sb n cb] w (AddPost w n (addR a b)) := by
  have Hall := Lib.hid (addP_all la lb (chkRow_ok ea).2 (chkRow_ok eb).2)
  have hbo := Lib.hid (rboth_ok hA hB ea eb (by rw [la, lb]))
  have hn64 : n ≤ 64 := by have := (chkRow_ok ea).1; omega
  obtain ⟨i0, hi, hz0, hz1, hz2⟩ := info_parts Tryz.infoInt
  obtain ⟨sa', ga, oa, ca', hva, hca, hSa⟩ := hA
  obtain ⟨sb', gb, ob, cb', hvb, hcb, hSb⟩ := hB
  injection hva with q1 q2 q3
  subst q1 q3
  clear q2
  injection hvb with q1 q2 q3
  subst q1 q3
  clear q2
  have HA := Lib.hid hSa
  have HB := Lib.hid hSb
  have Hla := Lib.hid la
  have Hlb := Lib.hid lb
  have Hinfo := Lib.hid (⟨hi, hz0, hz1, hz2⟩ : _ ∧ _ ∧ _ ∧ _)
  clear hSa hSb la lb ea eb hcb hca hi hz0 hz1 hz2
  refine (callsIn_wide (n := 6)).1 ?_
  refine callsIn_of_wp_marks Tryz.func45 rfl trivial ?_ rfl
  simp only [Tryz.ntmps45, List.size_toArray, List.length_cons, List.length_nil, Nat.reduceAdd, Nat.reduceSub, Array.replicate_succ, Array.replicate_zero, List.push_toArray, List.append_toArray, List.nil_append, List.cons_append]
  gi_wp2
  refine ⟨trivial, (callsIn_wide.2 hbo.out).mono ?_⟩
  rintro e w1 ⟨rfl, hE1⟩
  gi_wp2_with (gi_at_make; refine wpListIn_make_own _ rfl _ _ 30 rfl w.heap.size 3 i0 (.int .i64 0) 1 Tryz.underlying30 Hinfo.out.1 Hinfo.out.2.1 Hinfo.out.2.2.1 .i64 .i64 _ n rfl rfl rfl (by rw [Hinfo.out.2.2.2]; omega) (by unfold maxLen; omega) (by have := hE1.size; omega) ?_; intro w2 hown2 hgrow2)
  refine ⟨trivial, pairs_any.mono ?_⟩
  rintro e w3 ⟨rfl, rfl⟩
  have hE2 : Ext w w2 := hE1.trans (Ext.mk' (Below.grown (Below.refl _ _) hgrow2 (Nat.le_refl _) (fun q hq => by cases hq)))
  have bO := ((Boxed.new w2 30 (.slice (some ⟨w1.heap.size, 0, none⟩) 0 n)).alloc (.cells #[.slice sa n ca] 30)).alloc (.cells #[.slice sb n cb] 30)
  have bA := (Boxed.new (w2.alloc (.cells #[.slice (some ⟨w1.heap.size, 0, none⟩) 0 n] 30)) 30 (.slice sa n ca)).alloc (.cells #[.slice sb n cb] 30)
  have bB := Boxed.new ((w2.alloc (.cells #[.slice (some ⟨w1.heap.size, 0, none⟩) 0 n] 30)).alloc (.cells #[.slice sa n ca] 30)) 30 (.slice sb n cb)
  simp only [World.size_alloc] at bA bB
  have hE3 := ((hE2.alloc (.cells #[.slice (some ⟨w1.heap.size, 0, none⟩) 0 n] 30)).alloc (.cells #[.slice sa n ca] 30)).alloc (.cells #[.slice sb n cb] 30)
  have hown3 := ownsRow_ext (ownsRow_ext (ownsRow_ext hown2 ((Ext.refl w2).alloc (.cells #[.slice (some ⟨w1.heap.size, 0, none⟩) 0 n] 30))) ((Ext.refl _).alloc (.cells #[.slice sa n ca] 30))) ((Ext.refl _).alloc (.cells #[.slice sb n cb] 30))
  simp only [World.size_alloc]
  have hsz2 := hE2.size
  obtain ⟨Bo, hBo⟩ : ∃ Bo, Bo = w2.heap.size := ⟨_, rfl⟩
  obtain ⟨w3, hw3⟩ : ∃ w3, ((w2.alloc (.cells #[.slice (some ⟨w1.heap.size, 0, none⟩) 0 n] 30)).alloc (.cells #[.slice sa n ca] 30)).alloc (.cells #[.slice sb n cb] 30) = w3 := ⟨_, rfl⟩
  have hsz3 : w3.heap.size = Bo + 3 := by rw [← hw3, hBo]; simp
  rw [← hBo] at bO bA bB hsz2 ⊢
  rw [hw3] at bO bA bB hE3 hown3 ⊢
  clear hw3 hown2 hgrow2 hE2 hBo
  generalize w1.heap.size = g0 at *
  gi_wp2
  refine wpIn_rangeFunc_ownG (Kp := KpB w.heap.size (Bo + 1 + 1)) rfl (by omega) (gf := 114) (lb := #[.pointer (some ⟨Bo + 1, 0, none⟩), .pointer (some ⟨Bo + 1 + 1, 0, none⟩)]) rfl trivial (enters_of Tryz.func114 (by kernel_rfl) rfl)
    (pairs_stops _ (Bo + 1) (Bo + 1 + 1) ga oa ca gb ob cb n sa sb a b (by omega) (by omega) Hla.out Hlb.out w w3 hE3 HA.out HB.out bA.cell bB.cell) kpB_t (kpB_b (by omega)) (Below.refl _ _) (fun _ => rfl)
    (fun pre W => (∃ v, Boxed W Bo 30 v ∧ W.ownsRow w.heap.size 3 1 v (addP pre).length (is (addP pre)) ∧ ∃ g c, v = .slice (some ⟨g, 0, none⟩) (addP pre).length c) ∧ Boxed W (Bo + 1 + 1) 30 (.slice sb n cb) ∧ Below w.heap.size w W)
    (fun _ _ _ => False)
    (OwnFrom.and (Own.from (holdsRow_own w.heap.size Bo 30 3 1 (fun pre => (addP pre).length) (fun pre => is (addP pre)) (fun pre v => ∃ g c, v = .slice (some ⟨g, 0, none⟩) (addP pre).length c)) _) (OwnFrom.and (Own.from (boxed_own (Bo + 1 + 1) 30 (fun _ => .slice sb n cb)) _) (ownFrom_below (Nat.le_refl _) (by omega))))
    (fun _ _ _ _ _ hs _ _ => hs)
    ⟨⟨_, bO, hown3, _, _, rfl⟩, bB, hE3⟩
    (fun x => { tmps := #[.slice sa n ca, .slice sb n cb, undef, undef, .slice none 0 0, .int .i64 0, .int .i64 0, .pointer (some ⟨Bo, 0, none⟩), .int .i64 x.1, .int .i64 x.2, .slice sa n ca, .slice sb n cb, .int .i64 0, .int .i64 0, .bool false, undef, .slice sa n ca, .int .i64 n, .slice (some ⟨g0, 0, none⟩) 0 n, .slice sa n ca, .slice sb n cb, .func (.func 114) #[] #[.pointer (some ⟨Bo + 1, 0, none⟩), .pointer (some ⟨Bo + 1 + 1, 0, none⟩)], .int .i64 x.1, .int .i64 x.2, undef, undef, undef, undef, undef, undef, undef, undef, undef, undef], defers := [] }) ?assign ?body ?done ?stop
  case assign =>
    intro l x W K hK
    gi_wp2
    exact hK
  case body =>
    rintro l pre x W ⟨⟨v, hv, hrow, hg⟩, hb, hB⟩ hlt
    have hc := hv.cell
    gi_wp2_with (gi_at_builtin; refine wpListIn_append_own _ rfl _ _ 30 rfl w.heap.size 3 i0 (.int .i64 0) 1 8 Tryz.underlying30 Hinfo.out.1 Hinfo.out.2.1 Hinfo.out.2.2.1 Hinfo.out.2.2.2 rfl (by decide) _ _ _ rfl (hrow.alloc _) ⟨W.heap.size, 0, none⟩ 1 1 [.int .i64 (wrap64 (x.1 + x.2))] rfl rfl (cell_one_new _ _ _) (by simp [Value.oneCell']) (by unfold maxLen; rw [addP_length]; omega) (by rw [addP_length]; omega) (by have := hB.size; simp; omega) ?_; intro v' w1 hown' hgrow _; obtain ⟨g', cap', rfl⟩ := ownsRow_succ hown'; obtain ⟨hv1, hv2, hr2, hk2, hb2⟩ := hv.appended (by decide) hrow hB.size (by omega) hown' hgrow; have hbb := ((hb.alloc _).kept hgrow (hb.not_row (by decide) hrow)).other (B' := Bo) (by omega) (.slice (some ⟨g', 0, none⟩) ((addP pre).length + 1) cap'); have hc1 := hv1.cell; have hf1 := hv1.frozen)
    refine ⟨hk2.from _, ⟨hb2, fun u hu => ?_⟩, ⟨_, hv2, ?_, g', cap', ?_⟩, hbb, hB.trans hb2⟩
    · rw [hb.cell] at hu; cases hu; exact hbb.cell
    · have e : (addP (pre ++ [x])).length = (addP pre).length + 1 := by simp [addP_length]
      rw [e, addP_snoc, is_snoc]; exact hr2
    · have e : (addP (pre ++ [x])).length = (addP pre).length + 1 := by simp [addP_length]
      rw [e]
  case done =>
    rintro D ys W hD rfl ⟨⟨v, hv, hrow, g, c, hvg⟩, hb, hB⟩ hK
    have hln : (addP (uptoP (pairF a b) n)).length = n := by rw [addP_length, uptoP_length]
    rw [hln] at hvg
    subst hvg
    rw [hln, Hall.out] at hrow
    rw [Hall.out] at hln
    have hrv : RowV w.heap.size W (slv g n c) (addR a b) := by unfold RowV; rw [hln]; exact hrow
    have hc := hv.cell
    have hres := Lib.hid (rresult_any hrv.row)
    unfold ResPost at hres
    have Hrv := Lib.hid hrv
    clear hrv hrow
    obtain ⟨rv, hrv⟩ : ∃ rv, rv = if chkRow (addR a b) = 0 then slv g n c else .slice none 0 0 := ⟨_, rfl⟩
    obtain ⟨z, hz⟩ : ∃ z, z = chkRow (addR a b) := ⟨_, rfl⟩
    have Hpost := Lib.hid (fun W' (hW : RowV w.heap.size W' (slv g n c) (addR a b)) (hX : Ext w W') => (⟨g, c, by rw [← hrv, ← hz], hW, hX⟩ : AddPost w n (addR a b) (.returned (.tuple #[rv, .int .i64 z])) W'))
    rw [← hrv, ← hz] at hres
    clear hz hrv
    gi_wp2
    refine ⟨trivial, (callsIn_wide.2 hres.out).mono ?_⟩
    rintro e w5 ⟨rfl, hE5⟩
    have hK5 := (hE5.block D (Array.getElem?_eq_some_iff.1 hK).1).trans hK
    gi_wp2
    refine ⟨by simp, .inl ⟨_, _, rfl, run_takeDeferred hK5, ?_⟩⟩
    refine ⟨.tuple #[rv, .int .i64 z], ?_, Hpost.out _ (ownsRow_putObj (Hrv.out.ext hE5) _ hK5 rfl) ?_⟩
    · simp [results, Tryz.results45, go_sem]
    · exact Ext.mk' ((Below.trans hB (Below.mono hE5 hB.size)).trans (belowK_b (w := w) (Nat.le_refl _) w5 D _ _ (by omega) hK5 rfl rfl))
  case stop =>
    rintro D c pre W _ _ h _
    exact h.elim
end Go.Proofs.YtnmmglnadnfoiaaGreatDoor
