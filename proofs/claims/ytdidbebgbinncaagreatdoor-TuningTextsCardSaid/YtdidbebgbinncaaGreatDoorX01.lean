/- Part 1, beside the shared parts, of the proof of the claim: contracts and plain laws; no condition. -/
import Derived.Test.YtdidbebgbinncaaGreatDoorV01
import Derived.Test.YtdidbebgbinncaaGreatDoorV02
import Derived.Test.YtdidbebgbinncaaGreatDoorV03
import Derived.Test.YtdidbebgbinncaaGreatDoorV04
import Derived.Test.YtdidbebgbinncaaGreatDoorV05
import Derived.Test.YtdidbebgbinncaaGreatDoorV06
import Derived.Test.YtdidbebgbinncaaGreatDoorV07
import Derived.Test.YtdidbebgbinncaaGreatDoorV08
import Derived.Test.YtdidbebgbinncaaGreatDoorV09
import Derived.Test.YtdidbebgbinncaaGreatDoorV10
import Derived.Test.YtdidbebgbinncaaGreatDoorV11
import Derived.Test.YtdidbebgbinncaaGreatDoorV12
import Derived.Test.YtdidbebgbinncaaGreatDoorV13
import Derived.Test.YtdidbebgbinncaaGreatDoorV14
import Derived.Test.YtdidbebgbinncaaGreatDoorV15
import Derived.Test.YtdidbebgbinncaaGreatDoorV16
import Derived.Test.YtdidbebgbinncaaGreatDoorV17
import Derived.Test.YtdidbebgbinncaaGreatDoorV18
import Derived.Test.YtdidbebgbinncaaGreatDoorV19
import Derived.Test.YtdidbebgbinncaaGreatDoorV20
import Derived.Test.YtdidbebgbinncaaGreatDoorV21
import Derived.Test.YtdidbebgbinncaaGreatDoorV22
import Derived.Test.YtdidbebgbinncaaGreatDoorV23
import Derived.Test.YtdidbebgbinncaaGreatDoorV24
import Derived.Test.YtdidbebgbinncaaGreatDoorV25
import Derived.Test.YtdidbebgbinncaaGreatDoorV26
import Derived.Test.YtdidbebgbinncaaGreatDoorV27
import Derived.Test.YtdidbebgbinncaaGreatDoorV28
import Derived.Test.YtdidbebgbinncaaGreatDoorV29
import Derived.Test.YtdidbebgbinncaaGreatDoorV30
import Derived.Test.YtdidbebgbinncaaGreatDoorV31
import Derived.Test.YtdidbebgbinncaaGreatDoorV32
import Derived.Test.YtdidbebgbinncaaGreatDoorV33
import Derived.BigQuiet
namespace Go.Proofs.YtdidbebgbinncaaGreatDoor
open Go Go.Sort
def putAll (D : Nat → Nat) (f : Nat → Value) (a0 : Act) : Nat → Act
  | 0 => a0
  | k + 1 => (putAll D f a0 k).put (some (D k)) (f k)
theorem putAll_size (D : Nat → Nat) (f : Nat → Value) (a0 : Act) : ∀ n, (putAll D f a0 n).tmps.size = a0.tmps.size
  | 0 => rfl
  | k + 1 => by rw [putAll]; simp [Act.put, putAll_size D f a0 k]
theorem putAll_defers (D : Nat → Nat) (f : Nat → Value) (a0 : Act) : ∀ n, (putAll D f a0 n).defers = a0.defers
  | 0 => rfl
  | k + 1 => by rw [putAll]; exact putAll_defers D f a0 k
theorem putAll_other (D : Nat → Nat) (f : Nat → Value) (a0 : Act) {t : Nat} : ∀ n, (∀ j, j < n → D j ≠ t) → (putAll D f a0 n).tmps[t]? = a0.tmps[t]?
  | 0, _ => rfl
  | k + 1, h => by
    rw [putAll, ← putAll_other D f a0 k (fun j hj => h j (by omega))]
    have hne : D k ≠ t := h k (by omega)
    simp [Act.put, Array.getElem?_setIfInBounds_ne hne]
theorem putAll_at (D : Nat → Nat) (f : Nat → Value) (a0 : Act) {j : Nat} : ∀ n, j < n → (∀ i k, i < n → k < n → D i = D k → i = k) → D j < a0.tmps.size → (putAll D f a0 n).tmps[D j]? = some (f j)
  | 0, h, _, _ => by omega
  | k + 1, h, hD, hs => by
    rw [putAll]
    by_cases e : j = k
    · subst e
      have : D j < (putAll D f a0 j).tmps.size := by rw [putAll_size]; exact hs
      simp [Act.put, this]
    · have hne : D k ≠ D j := fun h2 => e (hD k j (by omega) (by omega) h2).symm
      have := putAll_at D f a0 (j := j) k (by omega) (fun i k' hi hk => hD i k' (by omega) (by omega)) hs
      rw [← this]
      simp [Act.put, Array.getElem?_setIfInBounds_ne hne]
theorem Frm.eq {D : Nat → Nat} {n : Nat} {a0 a : Act} (h : Frm D n a0 a) (hD : ∀ i j, i < n → j < n → D i = D j → i = j) (hsz : ∀ i, i < n → D i < a0.tmps.size) : a = putAll D (fun j => a.eval (.tmp (D j))) a0 n := by
  have ht : a.tmps = (putAll D (fun j => a.eval (.tmp (D j))) a0 n).tmps := by
    apply Array.ext_getElem?
    intro t
    by_cases hex : ∃ j, j < n ∧ D j = t
    · obtain ⟨j, hj, rfl⟩ := hex
      rw [putAll_at D _ a0 n hj hD (hsz j hj)]
      have hlt : D j < a.tmps.size := by rw [h.size]; exact hsz j hj
      rw [Array.getElem?_eq_getElem hlt]
      simp [Act.eval, hlt]
    · rw [putAll_other D _ a0 n (fun j hj e => hex ⟨j, hj, e⟩)]
      exact h.other t (fun j hj e => hex ⟨j, hj, e⟩)
  have hd : a.defers = (putAll D (fun j => a.eval (.tmp (D j))) a0 n).defers := by rw [putAll_defers]; exact h.defers
  cases a with
  | mk tm df =>
    generalize putAll D _ a0 n = b at *
    cases b with
    | mk tm' df' =>
      simp only at ht hd
      rw [ht, hd]
section
variable {P : Program} {ops : Array Oper} {md : Region.Mode} {Q : Exit → Act → World → Prop} {S : World → Prop}
theorem wpAnyLH_inv2 {n : Nat} {L : Array Bool → Act → World → Prop} {D : Nat → Nat} {G : Nat → Value → World → Prop} {R : Nat → Nat → Value → Value → Prop} {a0 : Act}
    (hD : ∀ i j, i < n → j < n → D i = D j → i = j) (hsz : ∀ i, i < n → D i < a0.tmps.size)
    (hdep : ∀ i, i < n → ∀ o, ops[i]? = some o → ∀ e ∈ o.after, Region.binds md e = true → e.on < i)
    (hs : Region.sinkB md ops n = true) (hc : Region.chainB md ops n = true) (hn : n < ops.size)
    (hG : ∀ j v w w', G j v w → Ext w w' → G j v w')
    (hop : ∀ i, i < n → ∀ o, ops[i]? = some o → ∀ a w, S w → Frm D n a0 a → (∀ e ∈ o.after, Region.binds md e = true → G e.on (a.eval (.tmp (D e.on))) w) → wpOp P ops Q i (fun a' w' => S w' ∧ Ext w w' ∧ ∃ v, a' = a.put (some (D i)) v ∧ G i v w' ∧ ∀ j u, j < n → j ≠ i → G j u w → R i j v u ∧ R j i u v) a w)
    (hend : ∀ listed a w, HeadInv md ops n listed → (∀ j, j < n → listed.getD j false = true) → S w → Frm D n a0 a → (∀ j, j < n → G j (a.eval (.tmp (D j))) w) → (∀ i j, i < n → j < n → i ≠ j → R i j (a.eval (.tmp (D i))) (a.eval (.tmp (D j)))) → L listed a w) :
    ∀ (f : Nat) (listed : Array Bool) (a : Act) (w : World), unl n listed = f → HeadInv md ops n listed → S w → Frm D n a0 a → (∀ j, j < n → listed.getD j false = true → G j (a.eval (.tmp (D j))) w) → (∀ i j, i < n → j < n → i ≠ j → listed.getD i false = true → listed.getD j false = true → R i j (a.eval (.tmp (D i))) (a.eval (.tmp (D j)))) → wpAnyLH P md ops Q S n L f listed a w
  | 0, listed, a, w, hf, inv, hS, hF, hGa, hRa => by
    have hall : ∀ j, j < n → listed.getD j false = true := fun j hj => by
      have h1 := unl_zero hf hj
      have hlt : j < listed.size := by rw [inv.size]; omega
      simpa [hlt] using h1
    exact hend listed a w inv hall hS hF (fun j hj => hGa j hj (hall j hj)) (fun i j hi hj hij => hRa i j hi hj hij (hall i hi) (hall j hj))
  | f + 1, listed, a, w, hf, inv, hS, hF, hGa, hRa => by
    -- the first that has not come up is ready
    have hex : ∃ j, j < n ∧ listed.getD j true = false ∧ ∀ k, k < j → listed.getD k false = true := by
      have h0 : ∃ j, j < n ∧ listed.getD j true = false := by
        refine Classical.byContradiction fun hno => ?_
        have : unl n listed = 0 := List.countP_eq_zero.2 (fun j hj => by
          have hj := List.mem_range.1 hj
          cases hq : listed.getD j true with
          | true => simp
          | false => exact absurd ⟨j, hj, hq⟩ hno)
        omega
      obtain ⟨j, hj, hq⟩ := h0
      induction j using Nat.strongRecOn with
      | _ j ih =>
        by_cases hk : ∀ k, k < j → listed.getD k false = true
        · exact ⟨j, hj, hq, hk⟩
        · have : ∃ k, k < j ∧ listed.getD k false ≠ true := by
            refine Classical.byContradiction fun hno => hk (fun k hk2 => Classical.byContradiction fun h3 => hno ⟨k, hk2, h3⟩)
          obtain ⟨k, hk1, hk2⟩ := this
          refine ih k hk1 (by omega) (getD_in (by rw [inv.size]; omega) (by simpa using hk2))
    obtain ⟨j0, hj0, hq0, hmin⟩ := hex
    refine ⟨fun hr => ?_, fun i hi => ?_⟩
    · have hj0s : j0 < ops.size := by omega
      have : j0 ∈ Region.ready md ops listed := mem_ready.2 ⟨hq0, ops[j0], Array.getElem?_eq_getElem hj0s, fun e he hb => hmin _ (hdep j0 hj0 _ (Array.getElem?_eq_getElem hj0s) e he hb)⟩
      rw [hr] at this; cases this
    · have hin : i < n := by
        rcases Nat.lt_or_ge i n with h | h
        · exact h
        · exact absurd hi (tail_waits hs hc hn inv _ j0 rfl hj0 hq0 i h)
      refine ⟨hin, ?_⟩
      obtain ⟨hun, o, ho, hall⟩ := mem_ready.1 hi
      have hdeps : ∀ e ∈ o.after, Region.binds md e = true → G e.on (a.eval (.tmp (D e.on))) w := fun e he hb => hGa _ (Nat.lt_trans (hdep i hin o ho e he hb) hin) (hall e he hb)
      refine wpOp_mono ?_ (hop i hin o ho a w hS hF hdeps)
      rintro a' w' ⟨hS', hE, v, rfl, hv, hR⟩
      have hlt0 : D i < a.tmps.size := by rw [hF.size]; exact hsz i hin
      have ev0 : (a.put (some (D i)) v).eval (.tmp (D i)) = v := by simp [Act.eval, Act.put, hlt0]
      have evn : ∀ j, j < n → i ≠ j → (a.put (some (D i)) v).eval (.tmp (D j)) = a.eval (.tmp (D j)) := fun j hj hij => by
        have hne : D i ≠ D j := fun h => hij (hD i j hin hj h)
        simp [Act.eval, Act.put, Array.getElem?_setIfInBounds_ne hne]
      refine ⟨hS', wpAnyLH_inv2 hD hsz hdep hs hc hn hG hop hend f _ _ w' (by have := unl_set hin hun; omega) (inv.set hi hin) hS' ?_ ?_ ?_⟩
      · refine ⟨by simp [Act.put, hF.size], fun t ht => ?_, hF.defers⟩
        have hne : D i ≠ t := ht i hin
        rw [← hF.other t ht]
        simp [Act.put, Array.getElem?_setIfInBounds_ne hne]
      · intro j hj hl
        by_cases hij : i = j
        · subst hij
          have hlt : D i < a.tmps.size := by rw [hF.size]; exact hsz i hin
          have : (a.put (some (D i)) v).eval (.tmp (D i)) = v := by simp [Act.eval, Act.put, hlt]
          rw [this]; exact hv
        · have hne : D i ≠ D j := fun h => hij (hD i j hin hj h)
          have : (a.put (some (D i)) v).eval (.tmp (D j)) = a.eval (.tmp (D j)) := by simp [Act.eval, Act.put, Array.getElem?_setIfInBounds_ne hne]
          rw [this]
          rw [getD_set_ne false hij] at hl
          exact hG _ _ _ _ (hGa j hj hl) hE
      · intro p q hp hq hpq hlp hlq
        by_cases e1 : i = p
        · subst e1
          have hq2 : i ≠ q := hpq
          rw [getD_set_ne false hq2] at hlq
          rw [ev0, evn q hq hq2]
          exact (hR q _ hq (Ne.symm hq2) (hGa q hq hlq)).1
        · rw [getD_set_ne false e1] at hlp
          by_cases e2 : i = q
          · subst e2
            rw [ev0, evn p hp e1]
            exact (hR p _ hp (Ne.symm e1) (hGa p hp hlp)).2
          · rw [getD_set_ne false e2] at hlq
            rw [evn p hp e1, evn q hq e2]
            exact hRa p q hp hq hpq hlp hlq
end
end Go.Proofs.YtdidbebgbinncaaGreatDoor
namespace Go.Proofs.YtdidbebgbinncaaGreatDoor
open Go.RowKit Go.Sort
def emQ : Value × Value := (.string ⟨#[]⟩, .string ⟨#[]⟩)
def c24 (L : List (List Rat)) (fs : List Rat) (np c : Nat) (o : Value × Value) : List (Value × Value) := (List.range np).map fun t => if t < c then qv (qR (sumR (cmbF L fs t) L.length)) else if t = c then o else emQ
@[simp] theorem c24_length (L : List (List Rat)) (fs : List Rat) (np c : Nat) (o : Value × Value) : (c24 L fs np c o).length = np := by simp [c24]
theorem FrV.own {B g : Nat} {w : World} {l : List Rat} (h : FrV B w g (l.map fun r => qv (qR r))) : SzO B w g l := by
  unfold FrV at h
  rw [List.length_map] at h; exact h
end Go.Proofs.YtdidbebgbinncaaGreatDoor
namespace Go.Proofs.YtdidbebgbinncaaGreatDoor
open Go.RowKit Go.Sort
set_option maxRecDepth 100000 in
set_option maxHeartbeats 4000000 in
theorem Same24_any {w : World} {va vb : Value} {la lb : List Rat} (ha : SzR w va la) (hb : SzR w vb lb) (hl : la.length ≤ 1000000) :
    Calls Tryz.prog 19 #[va, vb] w fun e w' => e = .returned (.bool (decide (la = lb))) ∧ Ext w w' := by
  obtain ⟨sa, ga, ca, rfl, hca, haa, hra⟩ := ha
  obtain ⟨sb, gb, cb, rfl, hcb, hbb, hrb⟩ := hb
  have Haa := Lib.hid haa
  have Hbb := Lib.hid hbb
  have Hra := Lib.hid hra
  have Hrb := Lib.hid hrb
  have Hno := Lib.hid (fun (h : la ≠ lb) => decide_eq_false h)
  have Hyes := Lib.hid (fun (hl : la.length = lb.length) (h : ∀ i (h : i < la.length) (h' : i < lb.length), la[i] = lb[i]) => decide_eq_true (show la = lb from List.ext_getElem hl h))
  obtain ⟨n, hn⟩ : ∃ n, n = la.length := ⟨_, rfl⟩
  obtain ⟨m, hm⟩ : ∃ m, m = lb.length := ⟨_, rfl⟩
  have Hn := Lib.hid hn
  have Hm := Lib.hid hm
  rw [← hn] at hl ⊢
  rw [← hm]
  generalize decide (la = lb) = q at *
  clear haa hbb hra hrb hn hm hca hcb
  by_cases hnm : n = m
  · subst hnm
    go_enter Tryz.func19, Tryz.ntmps19
    go_wp2_with fail
    go_loopw [5] (fun iv wr => ∃ i : Nat, i ≤ n ∧ iv = .int .i64 i ∧ Hid (∀ t (h : t < la.length) (h' : t < lb.length), t < i → la[t] = lb[t]) ∧ Ext w wr) (fun iv _ => n - (intOf iv).toNat)
    case atStart => exact ⟨0, by omega, by go_num, Lib.hid (fun t _ _ h => by omega), Ext.refl _⟩
    case round =>
      obtain ⟨i, hi, rfl, HA, hE⟩ := hrel
      generalize wr = X at *
      by_cases hlt : i < n
      · have hii : (i : Int) < (n : Int) := by omega
        have hia : i < la.length := by rw [← Hn.out]; exact hlt
        have hib : i < lb.length := by rw [← Hm.out]; exact hlt
        obtain rfl := Haa.out (by omega)
        obtain rfl := Hbb.out (by omega)
        obtain ⟨a0, a1⟩ := Hra.out i hia
        obtain ⟨b0, b1⟩ := Hrb.out i hib
        replace a0 := hE.cell a0
        replace a1 := hE.cell a1
        replace b0 := hE.cell b0
        replace b1 := hE.cell b1
        have Hq := Lib.hid (fun (h : la[i] ≠ lb[i]) => Hno.out (fun h2 => h (by simp only [h2])))
        have HA' := Lib.hid (fun (h : la[i] = lb[i]) t (ht : t < la.length) (ht' : t < lb.length) (hti : t < i + 1) => show la[t] = lb[t] by
          by_cases e : t = i
          · subst e; exact h
          · exact HA.out t ht ht' (by omega))
        obtain ⟨x, hx⟩ : ∃ x, x = la[i] := ⟨_, rfl⟩
        obtain ⟨y, hy⟩ : ∃ y, y = lb[i] := ⟨_, rfl⟩
        rw [← hx] at a0 a1 Hq HA'
        rw [← hy] at b0 b1 Hq HA'
        clear hx hy HA hlt hia hib
        have hqd : ∀ u v : Int, (Lib.itoa u == Lib.itoa v) = decide (u = v) := fun u v => by
          by_cases h : u = v
          · subst h; simp
          · rw [decide_eq_false h, beq_eq_false_iff_ne]; exact fun hc => h (itoa_inj hc)
        have k1 := hqd x.num y.num
        have k2 := hqd x.den y.den
        by_cases hxy : x = y
        · subst hxy
          have HA := Lib.hid (HA'.out rfl)
          clear HA' Hq k1 k2 hqd
          go_wp2_with fail
          go_quiet (fail)
          have hE := hE.drewN nq
          go_wp2_with fail
          go_roundw
          case rel => exact ⟨i + 1, by omega, by go_num, HA, hE⟩
          case measure => simp [intOf] <;> omega
        · have Hq0 := Lib.hid (Hq.out hxy)
          have hd : x.num ≠ y.num ∨ (x.num = y.num ∧ (x.den : Int) ≠ (y.den : Int)) := by
            by_cases h1 : x.num = y.num
            · exact .inr ⟨h1, fun h2 => hxy (Rat.ext h1 (by omega))⟩
            · exact .inl h1
          clear HA' Hq hxy hqd
          obtain ⟨la', hla⟩ : ∃ l, l = Lib.itoa x.num := ⟨_, rfl⟩
          obtain ⟨lb', hlb⟩ : ∃ l, l = Lib.itoa y.num := ⟨_, rfl⟩
          obtain ⟨da', hda⟩ : ∃ l, l = Lib.itoa x.den := ⟨_, rfl⟩
          obtain ⟨db', hdb⟩ : ∃ l, l = Lib.itoa y.den := ⟨_, rfl⟩
          unfold I S at a0 a1 b0 b1
          rw [← hla, ← hlb] at k1
          rw [← hda, ← hdb] at k2
          rw [← hla] at a0
          rw [← hda] at a1
          rw [← hlb] at b0
          rw [← hdb] at b1
          rcases hd with hd | ⟨hd, hd2⟩
          · rw [decide_eq_false hd] at k1
            have k3 : (la' != lb') = true := by simp [bne, k1]
            clear hd k2 hla hlb hda hdb
            go_wp2_with fail
            go_quiet (fail)
            have hE := hE.drewN nq
            go_wp2_with fail
            go_ret
            exact ⟨ret_val (congrArg Value.bool Hq0.out.symm), hE⟩
          · rw [decide_eq_false hd2] at k2
            have k3 : (da' != db') = true := by simp [bne, k2]
            rw [decide_eq_true hd] at k1
            obtain rfl : la' = lb' := by simpa using k1
            clear hd k1 hd2 hla hlb hda hdb
            go_wp2_with fail
            go_quiet (fail)
            have hE := hE.drewN nq
            go_wp2_with fail
            go_ret
            exact ⟨ret_val (congrArg Value.bool Hq0.out.symm), hE⟩
      · obtain rfl : i = n := by omega
        have hii : ¬ (i : Int) < (i : Int) := by omega
        have Hq := Lib.hid (Hyes.out (by rw [← Hn.out, ← Hm.out]) (fun t h h' => HA.out t h h' (by rw [Hn.out]; exact h)))
        clear hlt HA
        go_wp2_with fail
        go_ret
        exact ⟨ret_val (congrArg Value.bool Hq.out.symm), hE⟩
  · have h1 : ¬ ((n : Int) = (m : Int)) := by omega
    have h2 : ((n : Int) == (m : Int)) = false := beq_eq_false_iff_ne.2 h1
    have h3 : ((n : Int) != (m : Int)) = true := by simp [bne, h2]
    have Hq := Lib.hid (Hno.out (fun h => hnm (by rw [Hn.out, Hm.out, h])))
    clear hnm
    go_enter Tryz.func19, Tryz.ntmps19
    go_wp2_with fail
    go_ret
    exact ⟨ret_val (congrArg Value.bool Hq.out.symm), Ext.refl _⟩
end Go.Proofs.YtdidbebgbinncaaGreatDoor
namespace Go.Proofs.YtdidbebgbinncaaGreatDoor
open Go.RowKit Go.Sort
theorem list6_getD_ext {a b : List Int} (hl : a.length = b.length) (h : ∀ j, j < a.length → a.getD j 0 = b.getD j 0) : a = b := by
  apply List.ext_getElem hl
  intro i h1 h2
  have := h i h1
  rwa [getD_get h1, getD_get h2] at this
theorem mx_getD_ext {a b : Mx} (hl : a.length = b.length) (h : ∀ j, j < a.length → a.getD j [] = b.getD j []) : a = b := by
  apply List.ext_getElem hl
  intro i h1 h2
  have := h i h1
  rwa [getD_get h1, getD_get h2] at this
set_option maxRecDepth 100000 in
set_option maxHeartbeats 1000000 in
theorem eqRows6_any {w : World} {va vb : Value} {a b : List Int} (hA : RowR w va a) (hB : RowR w vb b) (hbig : a.length ≤ 1000000) :
    Calls Tryz.prog 135 #[va, vb] w fun e w' => e = .returned (.bool (decide (a = b))) ∧ Ext w w' := by
  obtain ⟨sa, ga, oa, ca, rfl, hca, hSa⟩ := hA
  obtain ⟨sb, gb, ob, cb, rfl, hcb, hSb⟩ := hB
  by_cases hl : a.length = b.length
  · obtain ⟨n, hn⟩ : ∃ n, n = a.length := ⟨_, rfl⟩
    rw [← hl]
    rw [← hn] at hbig ⊢
    have HA := Lib.hid hSa
    have HB := Lib.hid hSb
    have Hn := Lib.hid hn
    have Hm := Lib.hid (hn.trans hl)
    clear hSa hSb hl hn hca hcb
    go_enter Tryz.func135, Tryz.ntmps135
    go_wp2_with fail
    go_loopw [5] (fun idx wr => ∃ i : Nat, i ≤ n ∧ idx = .int .i64 i ∧ Hid (∀ j, j < i → a.getD j 0 = b.getD j 0) ∧ Ext w wr) (fun idx _ => n - (intOf idx).toNat)
    case atStart => exact ⟨0, by omega, by go_num, Lib.hid (fun j h => by omega), Ext.refl _⟩
    case round =>
      obtain ⟨i, hi, rfl, Hz, hE⟩ := hrel
      generalize wr = X at *
      by_cases hlt : i < n
      · have hii : (i : Int) < (n : Int) := by omega
        have c1 := (HA.out.ext hE).cell i (.int .i64 (a[i]'(by rw [← Hn.out]; exact hlt))) (is_get (by rw [← Hn.out]; exact hlt))
        have c2 := (HB.out.ext hE).cell i (.int .i64 (b[i]'(by rw [← Hm.out]; exact hlt))) (is_get (by rw [← Hm.out]; exact hlt))
        obtain rfl := HA.out.addr (by rw [is_length, ← Hn.out]; omega)
        obtain rfl := HB.out.addr (by rw [is_length, ← Hm.out]; omega)
        obtain ⟨x, hx⟩ : ∃ x, x = a[i]'(by rw [← Hn.out]; exact hlt) := ⟨_, rfl⟩
        obtain ⟨y, hy⟩ : ∃ y, y = b[i]'(by rw [← Hm.out]; exact hlt) := ⟨_, rfl⟩
        rw [← hx] at c1
        rw [← hy] at c2
        have Hx := Lib.hid (show a.getD i 0 = x by rw [hx, getD_get (by rw [← Hn.out]; exact hlt)])
        have Hy := Lib.hid (show b.getD i 0 = y by rw [hy, getD_get (by rw [← Hm.out]; exact hlt)])
        clear hx hy
        by_cases hxy : x = y
        · subst hxy
          go_wp2_with fail
          go_quiet (fail)
          go_wp2_with fail
          go_roundw
          case rel => exact ⟨i + 1, by omega, by go_num, Lib.hid (fun j hj => by
            by_cases e : j = i
            · subst e; rw [Hx.out, Hy.out]
            · exact Hz.out j (by omega)), hE.drewN _⟩
          case measure => simp [intOf] <;> omega
        · have hb1 : (x == y) = false := beq_eq_false_iff_ne.2 hxy
          have hb2 : (x != y) = true := by simp [bne, hb1]
          have Hne := Lib.hid (show decide (a = b) = false from decide_eq_false (fun e => hxy (by rw [← Hx.out, ← Hy.out, e])))
          go_wp2_with fail
          go_quiet (fail)
          go_wp2_with fail
          go_ret
          exact ⟨by rw [Hne.out]; rfl, hE.drewN _⟩
      · have Heq := Lib.hid (show decide (a = b) = true from decide_eq_true (list6_getD_ext (by rw [← Hn.out, ← Hm.out]) (fun j hj => Hz.out j (by rw [← Hn.out] at hj; omega))))
        go_wp2_with fail
        go_ret
        exact ⟨by rw [Heq.out]; rfl, hE⟩
  · have hne : decide (a = b) = false := decide_eq_false (fun e => hl (by rw [e]))
    rw [hne]
    have h1 : ¬ ((a.length : Int) = (b.length : Int)) := by omega
    have h2 : ((a.length : Int) == (b.length : Int)) = false := beq_eq_false_iff_ne.2 h1
    have h3 : ((a.length : Int) != (b.length : Int)) = true := by simp [bne, h2]
    clear hSa hSb hca hcb hne
    generalize a.length = n at *
    generalize b.length = m at *
    go_enter Tryz.func135, Tryz.ntmps135
    go_wp2_with fail
    go_ret
    exact ⟨rfl, Ext.refl _⟩
set_option maxRecDepth 100000 in
set_option maxHeartbeats 1000000 in
theorem equal6_any {w : World} {va vb : Value} {A B : Mx} (hA : MatR w va A) (hB : MatR w vb B) (hbig : A.length ≤ 1000000) (hbr : ∀ r ∈ A, r.length ≤ 1000000) :
    Calls Tryz.prog 136 #[va, vb] w fun e w' => e = .returned (.bool (decide (A = B))) ∧ Ext w w' := by
  obtain ⟨sa, ga, oa, ca, va', rfl, hca, hvA, hSa, hrA⟩ := hA
  obtain ⟨sb, gb, ob, cb, vb', rfl, hcb, hvB, hSb, hrB⟩ := hB
  by_cases hl : A.length = B.length
  · obtain ⟨n, hn⟩ : ∃ n, n = A.length := ⟨_, rfl⟩
    rw [← hl]
    rw [← hn] at hbig ⊢
    have HA := Lib.hid hSa
    have HB := Lib.hid hSb
    have HvA := Lib.hid hvA
    have HvB := Lib.hid hvB
    have HrA := Lib.hid hrA
    have HrB := Lib.hid hrB
    have Hn := Lib.hid hn
    have Hm := Lib.hid (hn.trans hl)
    clear hSa hSb hl hn hca hcb hvA hvB hrA hrB
    go_enter Tryz.func136, Tryz.ntmps136
    go_wp2_with fail
    go_loopw [5] (fun idx wr => ∃ i : Nat, i ≤ n ∧ idx = .int .i64 i ∧ Hid (∀ j, j < i → A.getD j [] = B.getD j []) ∧ Ext w wr) (fun idx _ => n - (intOf idx).toNat)
    case atStart => exact ⟨0, by omega, by go_num, Lib.hid (fun j h => by omega), Ext.refl _⟩
    case round =>
      obtain ⟨i, hi, rfl, Hz, hE⟩ := hrel
      generalize wr = X at *
      by_cases hlt : i < n
      · have hii : (i : Int) < (n : Int) := by omega
        have hiA : i < A.length := by rw [← Hn.out]; exact hlt
        have hiB : i < B.length := by rw [← Hm.out]; exact hlt
        obtain ⟨sx, bx, ox, cx, hrx, hcx, hSx⟩ := MatR.row HA.out HvA.out HrA.out hiA
        obtain ⟨sy, by', oy, cy, hry, hcy, hSy⟩ := MatR.row HB.out HvB.out HrB.out hiB
        obtain rfl := HA.out.addr (by rw [HvA.out]; omega)
        obtain rfl := HB.out.addr (by rw [HvB.out]; omega)
        have k1 := cell_regrown (hE.cell hrx)
        have k2 := cell_regrown (hE.cell hry)
        have hx1 : RowR X (.slice sx A[i].length cx) A[i] := ⟨sx, bx, ox, cx, rfl, hcx, hSx.ext hE⟩
        have hy1 : RowR X (.slice sy B[i].length cy) B[i] := ⟨sy, by', oy, cy, rfl, hcy, hSy.ext hE⟩
        obtain ⟨lx, hlx⟩ : ∃ l, l = A[i].length := ⟨_, rfl⟩
        obtain ⟨ly, hly⟩ : ∃ l, l = B[i].length := ⟨_, rfl⟩
        rw [← hlx] at k1 hx1
        rw [← hly] at k2 hy1
        clear hlx hly
        have hEQ := Lib.hid (fun V (hV : Ext X V) => eqRows6_any (w := V) (hx1.ext hV) (hy1.ext hV) (hbr _ (List.getElem_mem hiA)))
        have HxA := Lib.hid (show A.getD i [] = A[i] from getD_get hiA [])
        have HxB := Lib.hid (show B.getD i [] = B[i] from getD_get hiB [])
        obtain ⟨q, hq⟩ : ∃ q, q = decide (A[i] = B[i]) := ⟨_, rfl⟩
        rw [← hq] at hEQ
        have bE := Lib.hid (quietC (w := X) (fun V hV => hEQ.out V hV))
        have Hq := Lib.hid hq
        clear hrx hry hcx hcy hSx hSy hq hx1 hy1 hEQ
        cases q
        · have Hne := Lib.hid (show decide (A = B) = false from decide_eq_false (fun e => by
            have := Hq.out.symm
            rw [decide_eq_false_iff_not] at this
            exact this (by rw [← HxA.out, ← HxB.out, e])))
          clear Hq HxA HxB
          go_wp2_with fail
          refine wp_region_quiet_below (by kernel_rfl) (by kernel_rfl) ?_
          repeat (quiet_step (exact bE.out _ _))
          refine wpQuiet_nil ?_
          intro _ hw'
          obtain ⟨⟨dq, osq⟩, hw''⟩ := hw'
          subst hw''
          have hE2 := hE.trans (ext_regrown X dq osq)
          clear k1 k2 bE
          generalize hW6 : grow (redrawn _ _) _ = W6 at *
          clear hW6
          go_wp2_with fail
          go_ret
          exact ⟨by rw [Hne.out]; rfl, hE2⟩
        · have Hok := Lib.hid (show A.getD i [] = B.getD i [] by rw [HxA.out, HxB.out]; exact of_decide_eq_true Hq.out.symm)
          clear Hq HxA HxB
          go_wp2_with fail
          refine wp_region_quiet_below (by kernel_rfl) (by kernel_rfl) ?_
          repeat (quiet_step (exact bE.out _ _))
          refine wpQuiet_nil ?_
          intro _ hw'
          obtain ⟨⟨dq, osq⟩, hw''⟩ := hw'
          subst hw''
          have hE2 := hE.trans (ext_regrown X dq osq)
          clear k1 k2 bE
          generalize hW6 : grow (redrawn _ _) _ = W6 at *
          clear hW6
          go_wp2_with fail
          go_roundw
          case rel => exact ⟨i + 1, by omega, by go_num, Lib.hid (fun j hj => by
            by_cases e : j = i
            · subst e; exact Hok.out
            · exact Hz.out j (by omega)), hE2⟩
          case measure => simp [intOf] <;> omega
      · have Heq := Lib.hid (show decide (A = B) = true from decide_eq_true (mx_getD_ext (by rw [← Hn.out, ← Hm.out]) (fun j hj => Hz.out j (by rw [← Hn.out] at hj; omega))))
        go_wp2_with fail
        go_ret
        exact ⟨by rw [Heq.out]; rfl, hE⟩
  · have hne : decide (A = B) = false := decide_eq_false (fun e => hl (by rw [e]))
    rw [hne]
    have h1 : ¬ ((A.length : Int) = (B.length : Int)) := by omega
    have h2 : ((A.length : Int) == (B.length : Int)) = false := beq_eq_false_iff_ne.2 h1
    have h3 : ((A.length : Int) != (B.length : Int)) = true := by simp [bne, h2]
    clear hSa hSb hca hcb hne hrA hrB hvA hvB
    generalize A.length = n at *
    generalize B.length = m at *
    go_enter Tryz.func136, Tryz.ntmps136
    go_wp2_with fail
    go_ret
    exact ⟨rfl, Ext.refl _⟩
end Go.Proofs.YtdidbebgbinncaaGreatDoor
namespace Go.Proofs.YtdidbebgbinncaaGreatDoor
open Go.RowKit Go.Sort
set_option maxRecDepth 100000 in
set_option maxHeartbeats 1000000 in
theorem eqPr_any {w : World} {va vb : Value} {a b : List Int} (hA : RowR w va a) (hB : RowR w vb b) (hbig : a.length ≤ 1000000) :
    Calls Tryz.prog 116 #[va, vb] w fun e w' => e = .returned (.bool (decide (a = b))) ∧ Ext w w' := by
  obtain ⟨sa, ga, oa, ca, rfl, hca, hSa⟩ := hA
  obtain ⟨sb, gb, ob, cb, rfl, hcb, hSb⟩ := hB
  by_cases hl : a.length = b.length
  · obtain ⟨n, hn⟩ : ∃ n, n = a.length := ⟨_, rfl⟩
    rw [← hl]
    rw [← hn] at hbig ⊢
    have HA := Lib.hid hSa
    have HB := Lib.hid hSb
    have Hn := Lib.hid hn
    have Hm := Lib.hid (hn.trans hl)
    clear hSa hSb hl hn hca hcb
    go_enter Tryz.func116, Tryz.ntmps116
    go_wp2_with fail
    go_loopw [13] (fun idx wr => ∃ i : Nat, i ≤ n ∧ idx = .int .i64 i ∧ Hid (∀ j, j < i → a.getD j 0 = b.getD j 0) ∧ Ext w wr) (fun idx _ => n - (intOf idx).toNat)
    case atStart => exact ⟨0, by omega, by go_num, Lib.hid (fun j h => by omega), Ext.refl _⟩
    case round =>
      obtain ⟨i, hi, rfl, Hz, hE⟩ := hrel
      generalize wr = X at *
      by_cases hlt : i < n
      · have hii : (i : Int) < (n : Int) := by omega
        have c1 := (HA.out.ext hE).cell i (.int .i64 (a[i]'(by rw [← Hn.out]; exact hlt))) (is_get (by rw [← Hn.out]; exact hlt))
        have c2 := (HB.out.ext hE).cell i (.int .i64 (b[i]'(by rw [← Hm.out]; exact hlt))) (is_get (by rw [← Hm.out]; exact hlt))
        obtain rfl := HA.out.addr (by rw [is_length, ← Hn.out]; omega)
        obtain rfl := HB.out.addr (by rw [is_length, ← Hm.out]; omega)
        obtain ⟨x, hx⟩ : ∃ x, x = a[i]'(by rw [← Hn.out]; exact hlt) := ⟨_, rfl⟩
        obtain ⟨y, hy⟩ : ∃ y, y = b[i]'(by rw [← Hm.out]; exact hlt) := ⟨_, rfl⟩
        rw [← hx] at c1
        rw [← hy] at c2
        have Hx := Lib.hid (show a.getD i 0 = x by rw [hx, getD_get (by rw [← Hn.out]; exact hlt)])
        have Hy := Lib.hid (show b.getD i 0 = y by rw [hy, getD_get (by rw [← Hm.out]; exact hlt)])
        clear hx hy
        by_cases hxy : x = y
        · subst hxy
          go_wp2_with fail
          go_quiet (fail)
          go_wp2_with fail
          go_roundw
          case rel => exact ⟨i + 1, by omega, by go_num, Lib.hid (fun j hj => by
            by_cases e : j = i
            · subst e; rw [Hx.out, Hy.out]
            · exact Hz.out j (by omega)), hE.drewN _⟩
          case measure => simp [intOf] <;> omega
        · have hb1 : (x == y) = false := beq_eq_false_iff_ne.2 hxy
          have hb2 : (x != y) = true := by simp [bne, hb1]
          have Hne := Lib.hid (show decide (a = b) = false from decide_eq_false (fun e => hxy (by rw [← Hx.out, ← Hy.out, e])))
          go_wp2_with fail
          go_quiet (fail)
          go_wp2_with fail
          go_ret
          exact ⟨by rw [Hne.out]; rfl, hE.drewN _⟩
      · have Heq := Lib.hid (show decide (a = b) = true from decide_eq_true (sam_getD_ext (by rw [← Hn.out, ← Hm.out]) (fun j hj => Hz.out j (by rw [← Hn.out] at hj; omega))))
        go_wp2_with fail
        go_ret
        exact ⟨by rw [Heq.out]; rfl, hE⟩
  · have hne : decide (a = b) = false := decide_eq_false (fun e => hl (by rw [e]))
    rw [hne]
    have h1 : ¬ ((a.length : Int) = (b.length : Int)) := by omega
    have h2 : ((a.length : Int) == (b.length : Int)) = false := beq_eq_false_iff_ne.2 h1
    have h3 : ((a.length : Int) != (b.length : Int)) = true := by simp [bne, h2]
    clear hSa hSb hca hcb hne
    generalize a.length = n at *
    generalize b.length = m at *
    go_enter Tryz.func116, Tryz.ntmps116
    go_wp2_with fail
    go_ret
    exact ⟨rfl, Ext.refl _⟩
set_option maxRecDepth 100000 in
set_option maxHeartbeats 4000000 in
theorem tmEqual_any {w : World} {P P' : List Int} {C M C' M' : Mx} {sp sp' : Option Addr} {cp cp' : Nat} {sc sc' : Option Addr} {lc cc lc' cc' : Nat} {sm sm' : Option Addr} {lm cm lm' cm' : Nat} (h : TmV w P C M M sp cp sc lc cc sm lm cm) (h' : TmV w P' C' M' M' sp' cp' sc' lc' cc' sm' lm' cm') : Calls Tryz.prog 75 #[tmS P sp cp sc lc cc sm lm cm, tmS P' sp' cp' sc' lc' cc' sm' lm' cm'] w fun e w' => e = .returned (.bool (decide (P = P' ∧ C = C' ∧ M = M'))) ∧ Ext w w' := by
  have hp4 := h.ok.p4
  have hc4 := h.m4
  obtain ⟨psC, hIC⟩ := h.ok.kC.1
  obtain ⟨psM, hIM⟩ := h.ok.kM.1
  have hlC := isH_len hIC
  have q1 := Lib.hid (fun W (hW : Ext w W) => eqPr_any (h.hP.ext hW) (h'.hP.ext hW) (by omega))
  have q2 := Lib.hid (fun W (hW : Ext w W) => tmpSame_any (h.hC.ext hW) (h'.hC.ext hW) (by omega) (fun r hr => by rw [hIC.rect r hr]; omega))
  have q3 := Lib.hid (fun W (hW : Ext w W) => tmpSame_any (h.hM.ext hW) (h'.hM.ext hW) (by omega) (fun r hr => by rw [hIM.rect r hr]; omega))
  have hX := ((Ext.refl w).alloc (.cells #[.slice sp P.length cp, .slice sc lc cc, .slice sm lm cm] 41)).alloc (.cells #[.slice sp' P'.length cp', .slice sc' lc' cc', .slice sm' lm' cm'] 41)
  have x0 : ((w.alloc (.cells #[.slice sp P.length cp, .slice sc lc cc, .slice sm lm cm] 41)).alloc (.cells #[.slice sp' P'.length cp', .slice sc' lc' cc', .slice sm' lm' cm'] 41)).cell? ⟨w.heap.size, 0, none⟩ = some (.slice sp P.length cp) := by go_simp
  have x1 : ((w.alloc (.cells #[.slice sp P.length cp, .slice sc lc cc, .slice sm lm cm] 41)).alloc (.cells #[.slice sp' P'.length cp', .slice sc' lc' cc', .slice sm' lm' cm'] 41)).cell? ⟨w.heap.size, 1, none⟩ = some (.slice sc lc cc) := by go_simp
  have x2 : ((w.alloc (.cells #[.slice sp P.length cp, .slice sc lc cc, .slice sm lm cm] 41)).alloc (.cells #[.slice sp' P'.length cp', .slice sc' lc' cc', .slice sm' lm' cm'] 41)).cell? ⟨w.heap.size, 2, none⟩ = some (.slice sm lm cm) := by go_simp
  have x3 : ((w.alloc (.cells #[.slice sp P.length cp, .slice sc lc cc, .slice sm lm cm] 41)).alloc (.cells #[.slice sp' P'.length cp', .slice sc' lc' cc', .slice sm' lm' cm'] 41)).cell? ⟨w.heap.size + 1, 0, none⟩ = some (.slice sp' P'.length cp') := by go_simp
  have x4 : ((w.alloc (.cells #[.slice sp P.length cp, .slice sc lc cc, .slice sm lm cm] 41)).alloc (.cells #[.slice sp' P'.length cp', .slice sc' lc' cc', .slice sm' lm' cm'] 41)).cell? ⟨w.heap.size + 1, 1, none⟩ = some (.slice sc' lc' cc') := by go_simp
  have x5 : ((w.alloc (.cells #[.slice sp P.length cp, .slice sc lc cc, .slice sm lm cm] 41)).alloc (.cells #[.slice sp' P'.length cp', .slice sc' lc' cc', .slice sm' lm' cm'] 41)).cell? ⟨w.heap.size + 1, 2, none⟩ = some (.slice sm' lm' cm') := by go_simp
  clear h h' hp4 hc4 hIC hIM hlC
  by_cases h1 : P = P'
  · by_cases h2 : C = C'
    · have hd : decide (P = P' ∧ C = C' ∧ M = M') = decide (M = M') := by
        rw [decide_eq_decide]; exact ⟨fun h => h.2.2, fun h => ⟨h1, h2, h⟩⟩
      rw [hd]
      rw [decide_eq_true h1] at q1
      rw [decide_eq_true h2] at q2
      generalize decide (M = M') = z at *
      clear hd h1 h2
      go_enter Tryz.func75, Tryz.ntmps75
      go_wp2_with fail
      refine (q1.out _ hX).mono ?_
      rintro e W1 ⟨rfl, hE1⟩
      have e1 := hX.trans hE1
      replace x1 := hE1.cell x1
      replace x2 := hE1.cell x2
      replace x4 := hE1.cell x4
      replace x5 := hE1.cell x5
      clear x0 x3
      go_wp2_with fail
      refine (q2.out _ e1).mono ?_
      rintro e W2 ⟨rfl, hE2⟩
      have e2 := e1.trans hE2
      replace x2 := hE2.cell x2
      replace x5 := hE2.cell x5
      clear x1 x4
      go_wp2_with fail
      refine (q3.out _ e2).mono ?_
      rintro e W3 ⟨rfl, hE3⟩
      have e3 := e2.trans hE3
      clear x2 x5
      go_wp2_with fail
      go_ret
      exact ⟨rfl, e3⟩
    · rw [decide_eq_false (fun h => h2 h.2.1)]
      rw [decide_eq_true h1] at q1
      rw [decide_eq_false h2] at q2
      clear h1 h2 q3
      go_enter Tryz.func75, Tryz.ntmps75
      go_wp2_with fail
      refine (q1.out _ hX).mono ?_
      rintro e W1 ⟨rfl, hE1⟩
      have e1 := hX.trans hE1
      replace x1 := hE1.cell x1
      replace x4 := hE1.cell x4
      clear x0 x3
      go_wp2_with fail
      refine (q2.out _ e1).mono ?_
      rintro e W2 ⟨rfl, hE2⟩
      have e2 := e1.trans hE2
      go_wp2_with fail
      go_ret
      exact ⟨rfl, e2⟩
  · rw [decide_eq_false (fun h => h1 h.1)]
    rw [decide_eq_false h1] at q1
    clear h1 q2 q3
    go_enter Tryz.func75, Tryz.ntmps75
    go_wp2_with fail
    refine (q1.out _ hX).mono ?_
    rintro e W1 ⟨rfl, hE1⟩
    have e1 := hX.trans hE1
    go_wp2_with fail
    go_ret
    exact ⟨rfl, e1⟩
set_option maxRecDepth 100000 in
set_option maxHeartbeats 4000000 in
theorem same18_any {w : World} {P P' : List Int} {C M C' M' : Mx} {sp sp' : Option Addr} {cp cp' : Nat} {sc sc' : Option Addr} {lc cc lc' cc' : Nat} {sm sm' : Option Addr} {lm cm lm' cm' : Nat} (h : TmV w P C M M sp cp sc lc cc sm lm cm) (h' : TmV w P' C' M' M' sp' cp' sc' lc' cc' sm' lm' cm') : Calls Tryz.prog 89 #[tmS P sp cp sc lc cc sm lm cm, tmS P' sp' cp' sc' lc' cc' sm' lm' cm'] w fun e w' => e = .returned (.bool (decide (P = P' ∧ C = C' ∧ M = M'))) ∧ Ext w w' := by
  have hp4 := h.ok.p4
  have hc4 := h.m4
  obtain ⟨psC, hIC⟩ := h.ok.kC.1
  obtain ⟨psM, hIM⟩ := h.ok.kM.1
  have hlC := isH_len hIC
  have q1 := Lib.hid (fun W (hW : Ext w W) => eqRows6_any (h.hP.ext hW) (h'.hP.ext hW) (by omega))
  have q2 := Lib.hid (fun W (hW : Ext w W) => equal6_any (h.hC.ext hW) (h'.hC.ext hW) (by omega) (fun r hr => by rw [hIC.rect r hr]; omega))
  have q3 := Lib.hid (fun W (hW : Ext w W) => equal6_any (h.hM.ext hW) (h'.hM.ext hW) (by omega) (fun r hr => by rw [hIM.rect r hr]; omega))
  have hX := ((Ext.refl w).alloc (.cells #[.slice sp P.length cp, .slice sc lc cc, .slice sm lm cm] 41)).alloc (.cells #[.slice sp' P'.length cp', .slice sc' lc' cc', .slice sm' lm' cm'] 41)
  have x0 : ((w.alloc (.cells #[.slice sp P.length cp, .slice sc lc cc, .slice sm lm cm] 41)).alloc (.cells #[.slice sp' P'.length cp', .slice sc' lc' cc', .slice sm' lm' cm'] 41)).cell? ⟨w.heap.size, 0, none⟩ = some (.slice sp P.length cp) := by go_simp
  have x1 : ((w.alloc (.cells #[.slice sp P.length cp, .slice sc lc cc, .slice sm lm cm] 41)).alloc (.cells #[.slice sp' P'.length cp', .slice sc' lc' cc', .slice sm' lm' cm'] 41)).cell? ⟨w.heap.size, 1, none⟩ = some (.slice sc lc cc) := by go_simp
  have x2 : ((w.alloc (.cells #[.slice sp P.length cp, .slice sc lc cc, .slice sm lm cm] 41)).alloc (.cells #[.slice sp' P'.length cp', .slice sc' lc' cc', .slice sm' lm' cm'] 41)).cell? ⟨w.heap.size, 2, none⟩ = some (.slice sm lm cm) := by go_simp
  have x3 : ((w.alloc (.cells #[.slice sp P.length cp, .slice sc lc cc, .slice sm lm cm] 41)).alloc (.cells #[.slice sp' P'.length cp', .slice sc' lc' cc', .slice sm' lm' cm'] 41)).cell? ⟨w.heap.size + 1, 0, none⟩ = some (.slice sp' P'.length cp') := by go_simp
  have x4 : ((w.alloc (.cells #[.slice sp P.length cp, .slice sc lc cc, .slice sm lm cm] 41)).alloc (.cells #[.slice sp' P'.length cp', .slice sc' lc' cc', .slice sm' lm' cm'] 41)).cell? ⟨w.heap.size + 1, 1, none⟩ = some (.slice sc' lc' cc') := by go_simp
  have x5 : ((w.alloc (.cells #[.slice sp P.length cp, .slice sc lc cc, .slice sm lm cm] 41)).alloc (.cells #[.slice sp' P'.length cp', .slice sc' lc' cc', .slice sm' lm' cm'] 41)).cell? ⟨w.heap.size + 1, 2, none⟩ = some (.slice sm' lm' cm') := by go_simp
  clear h h' hp4 hc4 hIC hIM hlC
  by_cases h1 : P = P'
  · by_cases h2 : C = C'
    · have hd : decide (P = P' ∧ C = C' ∧ M = M') = decide (M = M') := by
        rw [decide_eq_decide]; exact ⟨fun h => h.2.2, fun h => ⟨h1, h2, h⟩⟩
      rw [hd]
      rw [decide_eq_true h1] at q1
      rw [decide_eq_true h2] at q2
      generalize decide (M = M') = z at *
      clear hd h1 h2
      go_enter Tryz.func89, Tryz.ntmps89
      go_wp2_with fail
      refine (q1.out _ hX).mono ?_
      rintro e W1 ⟨rfl, hE1⟩
      have e1 := hX.trans hE1
      replace x1 := hE1.cell x1
      replace x2 := hE1.cell x2
      replace x4 := hE1.cell x4
      replace x5 := hE1.cell x5
      clear x0 x3
      go_wp2_with fail
      refine (q2.out _ e1).mono ?_
      rintro e W2 ⟨rfl, hE2⟩
      have e2 := e1.trans hE2
      replace x2 := hE2.cell x2
      replace x5 := hE2.cell x5
      clear x1 x4
      go_wp2_with fail
      refine (q3.out _ e2).mono ?_
      rintro e W3 ⟨rfl, hE3⟩
      have e3 := e2.trans hE3
      clear x2 x5
      go_wp2_with fail
      go_ret
      exact ⟨rfl, e3⟩
    · rw [decide_eq_false (fun h => h2 h.2.1)]
      rw [decide_eq_true h1] at q1
      rw [decide_eq_false h2] at q2
      clear h1 h2 q3
      go_enter Tryz.func89, Tryz.ntmps89
      go_wp2_with fail
      refine (q1.out _ hX).mono ?_
      rintro e W1 ⟨rfl, hE1⟩
      have e1 := hX.trans hE1
      replace x1 := hE1.cell x1
      replace x4 := hE1.cell x4
      clear x0 x3
      go_wp2_with fail
      refine (q2.out _ e1).mono ?_
      rintro e W2 ⟨rfl, hE2⟩
      have e2 := e1.trans hE2
      go_wp2_with fail
      go_ret
      exact ⟨rfl, e2⟩
  · rw [decide_eq_false (fun h => h1 h.1)]
    rw [decide_eq_false h1] at q1
    clear h1 q2 q3
    go_enter Tryz.func89, Tryz.ntmps89
    go_wp2_with fail
    refine (q1.out _ hX).mono ?_
    rintro e W1 ⟨rfl, hE1⟩
    have e1 := hX.trans hE1
    go_wp2_with fail
    go_ret
    exact ⟨rfl, e1⟩
set_option maxRecDepth 100000 in
theorem Same18_any {w : World} {P P' : List Int} {C M C' M' : Mx} {sp sp' : Option Addr} {cp cp' : Nat} {sc sc' : Option Addr} {lc cc lc' cc' : Nat} {sm sm' : Option Addr} {lm cm lm' cm' : Nat} (h : TmV w P C M M sp cp sc lc cc sm lm cm) (h' : TmV w P' C' M' M' sp' cp' sc' lc' cc' sm' lm' cm') : Calls Tryz.prog 38 #[tmS P sp cp sc lc cc sm lm cm, tmS P' sp' cp' sc' lc' cc' sm' lm' cm'] w fun e w' => e = .returned (.bool (decide (P = P' ∧ C = C' ∧ M = M'))) ∧ Ext w w' := by
  have q1 := Lib.hid (fun W (hW : Ext w W) => same18_any (h.ext hW) (h'.ext hW))
  generalize decide (P = P' ∧ C = C' ∧ M = M') = z at *
  have hX := ((Ext.refl w).alloc (.cells #[.slice sp P.length cp, .slice sc lc cc, .slice sm lm cm] 41)).alloc (.cells #[.slice sp' P'.length cp', .slice sc' lc' cc', .slice sm' lm' cm'] 41)
  clear h h'
  go_enter Tryz.func38, Tryz.ntmps38
  go_wp2_with fail
  refine (q1.out _ hX).mono ?_
  rintro e W1 ⟨rfl, hE1⟩
  go_wp2_with fail
  go_ret
  exact ⟨rfl, hX.trans hE1⟩
theorem szEqual_any {w : World} {va vb : Value} {la lb : List Rat} (ha : SzR w va la) (hb : SzR w vb lb) (hl : la.length ≤ 1000000) :
    Calls Tryz.prog 48 #[va, vb] w fun e w' => e = .returned (.bool (decide (la = lb))) ∧ Ext w w' := by
  have h := Lib.hid (eqQ_any ha hb hl)
  generalize decide (la = lb) = z at *
  clear ha hb
  go_enter Tryz.func48, Tryz.ntmps48
  go_wp2_with fail
  refine h.out.mono ?_
  rintro e w1 ⟨rfl, hE⟩
  go_wp2_with fail
  go_ret
  exact ⟨rfl, hE⟩
set_option maxRecDepth 100000 in
set_option maxHeartbeats 2000000 in
theorem EqFz_any {w : World} {va vb : Value} {A B : List (List Rat)} (hA : GnR w va A) (hB : GnR w vb B) (hbig : A.length ≤ 1000000) (hbr : ∀ r ∈ A, r.length ≤ 1000000) :
    Calls Tryz.prog 76 #[va, vb, .func (.func 48) #[] #[]] w fun e w' => e = .returned (.bool (decide (A = B))) ∧ Ext w w' := by
  obtain ⟨sa, ga, oa, ca, va', rfl, hca, hvA, hSa, hrA⟩ := hA
  obtain ⟨sb, gb, ob, cb, vb', rfl, hcb, hvB, hSb, hrB⟩ := hB
  have Hno := Lib.hid (fun (h : A ≠ B) => decide_eq_false h)
  have Hyes := Lib.hid (fun (hl : A.length = B.length) (h : ∀ i (h : i < A.length) (h' : i < B.length), A[i] = B[i]) => decide_eq_true (show A = B from List.ext_getElem hl h))
  generalize decide (A = B) = q at *
  obtain ⟨n, hn⟩ : ∃ n, n = A.length := ⟨_, rfl⟩
  obtain ⟨m, hm⟩ : ∃ m, m = B.length := ⟨_, rfl⟩
  have Hn := Lib.hid hn
  have Hm := Lib.hid hm
  rw [← hn] at hbig hca ⊢
  rw [← hm] at hcb ⊢
  have HA := Lib.hid hSa
  have HB := Lib.hid hSb
  have HvA := Lib.hid hvA
  have HvB := Lib.hid hvB
  have HrA := Lib.hid hrA
  have HrB := Lib.hid hrB
  have Hbr := Lib.hid hbr
  clear hSa hSb hn hm hca hcb hvA hvB hrA hrB hbr
  by_cases hnm : n = m
  · subst hnm
    go_enter Tryz.func76, Tryz.ntmps76
    go_wp2_with fail
    go_loopw [17] (fun idx wr => ∃ i : Nat, i ≤ n ∧ idx = .int .i64 i ∧ Hid (∀ t (h : t < A.length) (h' : t < B.length), t < i → A[t] = B[t]) ∧ Ext w wr) (fun idx _ => n - (intOf idx).toNat)
    case atStart => exact ⟨0, by omega, by go_num, Lib.hid (fun t _ _ h => by omega), Ext.refl _⟩
    case round =>
      obtain ⟨i, hi, rfl, Hz, hE⟩ := hrel
      generalize wr = X at *
      by_cases hlt : i < n
      · have hii : (i : Int) < (n : Int) := by omega
        have hiA : i < A.length := by rw [← Hn.out]; exact hlt
        have hiB : i < B.length := by rw [← Hm.out]; exact hlt
        have hia : i < va'.length := by rw [HvA.out]; exact hiA
        have hib : i < vb'.length := by rw [HvB.out]; exact hiB
        obtain rfl := HA.out.addr (by omega)
        obtain rfl := HB.out.addr (by omega)
        have k1 := hE.cell (HA.out.cell i _ (List.getElem?_eq_getElem hia))
        have k2 := hE.cell (HB.out.cell i _ (List.getElem?_eq_getElem hib))
        have hx1 := (HrA.out i hiA hia).ext hE
        have hy1 := (HrB.out i hiB hib).ext hE
        have hEQ := Lib.hid (szEqual_any hx1 hy1 (Hbr.out _ (List.getElem_mem hiA)))
        have Hq := Lib.hid (fun (h : A[i] ≠ B[i]) => Hno.out (fun h2 => h (by simp only [h2])))
        have HA' := Lib.hid (fun (h : A[i] = B[i]) t (ht : t < A.length) (ht' : t < B.length) (hti : t < i + 1) => show A[t] = B[t] by
          by_cases e : t = i
          · subst e; exact h
          · exact Hz.out t ht ht' (by omega))
        obtain ⟨xa, xb, xc, ex, hz1⟩ := hx1
        obtain ⟨ya, yb, yc, ey, hz2⟩ := hy1
        rw [ex] at k1 hEQ
        rw [ey] at k2 hEQ
        clear hz1 hz2 ex ey
        by_cases hc : A[i] = B[i]
        · rw [decide_eq_true hc] at hEQ
          have Hz := Lib.hid (HA'.out hc)
          generalize A[i].length = nx at *
          generalize B[i].length = ny at *
          clear HA' Hq hc hia hib
          go_wp2_with fail
          refine hEQ.out.mono ?_
          rintro e W6 ⟨rfl, hE6⟩
          have hE2 := hE.trans hE6
          clear k1 k2 hEQ
          go_wp2_with fail
          go_roundw
          case rel => exact ⟨i + 1, by omega, by go_num, Hz, hE2⟩
          case measure => simp [intOf] <;> omega
        · rw [decide_eq_false hc] at hEQ
          have Hq0 := Lib.hid (Hq.out hc)
          generalize A[i].length = nx at *
          generalize B[i].length = ny at *
          clear HA' Hq hc hia hib
          go_wp2_with fail
          refine hEQ.out.mono ?_
          rintro e W6 ⟨rfl, hE6⟩
          have hE2 := hE.trans hE6
          clear k1 k2 hEQ
          go_wp2_with fail
          go_ret
          exact ⟨ret_val (congrArg Value.bool Hq0.out.symm), hE2⟩
      · obtain rfl : i = n := by omega
        have hii : ¬ (i : Int) < (i : Int) := by omega
        have Hq := Lib.hid (Hyes.out (by rw [← Hn.out, ← Hm.out]) (fun t h h' => Hz.out t h h' (by rw [Hn.out]; exact h)))
        clear hlt Hz
        go_wp2_with fail
        go_ret
        exact ⟨ret_val (congrArg Value.bool Hq.out.symm), hE⟩
  · have h1 : ¬ ((n : Int) = (m : Int)) := by omega
    have h2 : ((n : Int) == (m : Int)) = false := beq_eq_false_iff_ne.2 h1
    have h3 : ((n : Int) != (m : Int)) = true := by simp [bne, h2]
    have Hq := Lib.hid (Hno.out (fun h => hnm (by rw [Hn.out, Hm.out, h])))
    clear hnm
    go_enter Tryz.func76, Tryz.ntmps76
    go_wp2_with fail
    go_ret
    exact ⟨ret_val (congrArg Value.bool Hq.out.symm), Ext.refl _⟩
end Go.Proofs.YtdidbebgbinncaaGreatDoor
